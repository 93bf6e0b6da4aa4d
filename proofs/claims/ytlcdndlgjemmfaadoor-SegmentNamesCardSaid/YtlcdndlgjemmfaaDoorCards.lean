/-
  DERIVED. GIVEN WITH THE SEED: THE CARDS: each row of YtlcdndlgjemmfaaDoorRows.lean that lists a variable, with what it lists TIED to the program's text (the seventh form; the later family's looks); each row that meets fmt, with fmt's text TOLD by the authors' own Lean function (tested against real Go, not proved from fmt's source: count such statements apart). THE CARD IS WHAT COUNTS. Prove the row's statement (the work); the ties are given (YtlcdndlgjemmfaaDoorTie.lean); close each card by the builder's one call (the guide's Derived/Test/ToyasCard.lean, 'card_holds'). Laid BY PROGRAM, IN A SANDBOX (cutbox-door.mjs). By AI agents, Wed Nov 11 2026. No macro, syntax, notation, axiom, sorry.
-/
import Derived.Test.YtlcdndlgjemmfaaDoorRows
import GoSem.ClaimSeven
namespace Go.Proofs.YtlcdndlgjemmfaaDoor
namespace Rows

/-- THE TIED CARD OF 'anabranchlaw08.SegmentNames'. -/
def segmentNamesCard : Claim7 := { stood := { row := segmentNamesRow, standIns := [], harness := (true, "a46cf28a20f4c9e41dcf1227ddb0b2c9ac0f8c0e63786faa66ae193eb016822b"), looks := true }, kinds := [], alts := [], laidByText := true, laidKinds := [.data, .data, .data, .sentinel, .sentinel], laidTests := true, laidLooks := .later }
def SegmentNamesCardSaid : Prop := Claim7.holds Tryd.pinned (.plain (OpenSpec.ofChange segmentNamesSpec)) segmentNamesCard

/-- THE SECOND FORM's CARD OF 'anabranchlaw08.SegmentNames'. -/
def segmentNamesUptoCard : Claim7 := { stood := { row := segmentNamesUptoRow, standIns := [], harness := (true, "a46cf28a20f4c9e41dcf1227ddb0b2c9ac0f8c0e63786faa66ae193eb016822b"), looks := true }, kinds := [], alts := [], laidByText := true, laidKinds := [.data, .data, .data, .sentinel, .sentinel], laidTests := true, laidLooks := .later }
def SegmentNamesUptoCardSaid : Prop := Claim7.holds Tryd.pinned (.plain (OpenSpec.upto segmentNamesSpec)) segmentNamesUptoCard
end Rows
end Go.Proofs.YtlcdndlgjemmfaaDoor
