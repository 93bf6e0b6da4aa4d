/-
  DERIVED. GIVEN WITH THE SEED: THE CARDS: each row of YtgciifalclgeeaaGreatDoorRows.lean that lists a variable, with what it lists TIED to the program's text (the seventh form; the later family's looks); each row that meets fmt, with fmt's text TOLD by the authors' own Lean function (tested against real Go, not proved from fmt's source: count such statements apart). THE CARD IS WHAT COUNTS. Prove the row's statement (the work); the ties are given (YtgciifalclgeeaaGreatDoorTie.lean); close each card by the builder's one call (the guide's Derived/Test/ToyasCard.lean, 'card_holds'). Laid BY PROGRAM, IN A SANDBOX (cutbox-door.mjs). By AI agents, Wed Nov 11 2026. No macro, syntax, notation, axiom, sorry.
-/
import Derived.Test.YtgciifalclgeeaaGreatDoorRows
import GoSem.ClaimSeven
namespace Go.Proofs.YtgciifalclgeeaaGreatDoor
namespace Rows

/-- THE TIED CARD OF 'anabranchlaw28.TractNone'. -/
def tractNoneCard : Claim7 := { stood := { row := tractNoneRow, standIns := [], harness := (true, "babe6d15b6475042deaf04b88415bc617dbf8885cf00da3db86d8fe611040a64"), looks := true }, kinds := [], alts := [], laidByText := true, laidKinds := [.data, .data, .widerDeep, .widerDeep, .data, .data, .data, .data, .data, .data, .sentinel, .sentinel, .data, .pinned, .pinned, .pinned, .pinned], laidTests := true, laidLooks := .later }
def TractNoneCardSaid : Prop := Claim7.holds Tryz.pinned (.plain (OpenSpec.ofChange tractNoneSpec)) tractNoneCard

/-- THE SECOND FORM's CARD OF 'anabranchlaw28.TractNone'. -/
def tractNoneUptoCard : Claim7 := { stood := { row := tractNoneUptoRow, standIns := [], harness := (true, "babe6d15b6475042deaf04b88415bc617dbf8885cf00da3db86d8fe611040a64"), looks := true }, kinds := [], alts := [], laidByText := true, laidKinds := [.data, .data, .widerDeep, .widerDeep, .data, .data, .data, .data, .data, .data, .sentinel, .sentinel, .data, .pinned, .pinned, .pinned, .pinned], laidTests := true, laidLooks := .later }
def TractNoneUptoCardSaid : Prop := Claim7.holds Tryz.pinned (.plain (OpenSpec.upto tractNoneSpec)) tractNoneUptoCard
end Rows
end Go.Proofs.YtgciifalclgeeaaGreatDoor
