/-
  DERIVED. GIVEN WITH THE SEED: THE CARDS: each row of YthnnhhjecgkplaaGreatDoorRows.lean that lists a variable, with what it lists TIED to the program's text (the seventh form; the later family's looks); each row that meets fmt, with fmt's text TOLD by the authors' own Lean function (tested against real Go, not proved from fmt's source: count such statements apart). THE CARD IS WHAT COUNTS. Prove the row's statement (the work); the ties are given (YthnnhhjecgkplaaGreatDoorTie.lean); close each card by the builder's one call (the guide's Derived/Test/ToyasCard.lean, 'card_holds'). Laid BY PROGRAM, IN A SANDBOX (cutbox-door.mjs). By AI agents, Wed Nov 11 2026. No macro, syntax, notation, axiom, sorry.
-/
import Derived.Test.YthnnhhjecgkplaaGreatDoorRows
import GoSem.ClaimSeven
namespace Go.Proofs.YthnnhhjecgkplaaGreatDoor
namespace Rows

/-- THE TIED CARD OF 'anabranchlaw01.QuantitySums'. -/
def quantitySumsCard : Claim7 := { stood := { row := quantitySumsRow, standIns := [], harness := (true, "989096b421cdfaaf9856067b3a801e5a58ed92a7ced186f4f6049817c968ad38"), looks := true }, kinds := [], alts := [], laidByText := true, laidKinds := [.data, .data, .widerDeep, .widerDeep, .data, .data, .data, .data, .data, .sentinel, .sentinel, .pinned, .pinned], laidTests := true, laidLooks := .later }
def QuantitySumsCardSaid : Prop := Claim7.holds Tryz.pinned (.plain (OpenSpec.ofChange quantitySumsSpec)) quantitySumsCard

/-- THE TIED CARD OF 'anabranchlaw01.QuantityBits'. -/
def quantityBitsCard : Claim7 := { stood := { row := quantityBitsRow, standIns := [], harness := (true, "989096b421cdfaaf9856067b3a801e5a58ed92a7ced186f4f6049817c968ad38"), looks := true }, kinds := [], alts := [], laidByText := true, laidKinds := [.data, .data, .widerDeep, .widerDeep, .data, .data, .data, .data, .data, .sentinel, .sentinel, .pinned, .pinned], laidTests := true, laidLooks := .later }
def QuantityBitsCardSaid : Prop := Claim7.holds Tryz.pinned (.plain (OpenSpec.ofChange quantityBitsSpec)) quantityBitsCard

/-- THE TIED CARD OF 'anabranchlaw01.QuantityOrders'. -/
def quantityOrdersCard : Claim7 := { stood := { row := quantityOrdersRow, standIns := [], harness := (true, "989096b421cdfaaf9856067b3a801e5a58ed92a7ced186f4f6049817c968ad38"), looks := true }, kinds := [], alts := [], laidByText := true, laidKinds := [.data, .data, .widerDeep, .widerDeep, .data, .data, .data, .data, .data, .sentinel, .sentinel, .pinned, .pinned], laidTests := true, laidLooks := .later }
def QuantityOrdersCardSaid : Prop := Claim7.holds Tryz.pinned (.plain (OpenSpec.ofChange quantityOrdersSpec)) quantityOrdersCard

/-- THE SECOND FORM's CARD OF 'anabranchlaw01.QuantitySums'. -/
def quantitySumsUptoCard : Claim7 := { stood := { row := quantitySumsUptoRow, standIns := [], harness := (true, "989096b421cdfaaf9856067b3a801e5a58ed92a7ced186f4f6049817c968ad38"), looks := true }, kinds := [], alts := [], laidByText := true, laidKinds := [.data, .data, .widerDeep, .widerDeep, .data, .data, .data, .data, .data, .sentinel, .sentinel, .pinned, .pinned], laidTests := true, laidLooks := .later }
def QuantitySumsUptoCardSaid : Prop := Claim7.holds Tryz.pinned (.plain (OpenSpec.upto quantitySumsSpec)) quantitySumsUptoCard

/-- THE SECOND FORM's CARD OF 'anabranchlaw01.QuantityBits'. -/
def quantityBitsUptoCard : Claim7 := { stood := { row := quantityBitsUptoRow, standIns := [], harness := (true, "989096b421cdfaaf9856067b3a801e5a58ed92a7ced186f4f6049817c968ad38"), looks := true }, kinds := [], alts := [], laidByText := true, laidKinds := [.data, .data, .widerDeep, .widerDeep, .data, .data, .data, .data, .data, .sentinel, .sentinel, .pinned, .pinned], laidTests := true, laidLooks := .later }
def QuantityBitsUptoCardSaid : Prop := Claim7.holds Tryz.pinned (.plain (OpenSpec.upto quantityBitsSpec)) quantityBitsUptoCard

/-- THE SECOND FORM's CARD OF 'anabranchlaw01.QuantityOrders'. -/
def quantityOrdersUptoCard : Claim7 := { stood := { row := quantityOrdersUptoRow, standIns := [], harness := (true, "989096b421cdfaaf9856067b3a801e5a58ed92a7ced186f4f6049817c968ad38"), looks := true }, kinds := [], alts := [], laidByText := true, laidKinds := [.data, .data, .widerDeep, .widerDeep, .data, .data, .data, .data, .data, .sentinel, .sentinel, .pinned, .pinned], laidTests := true, laidLooks := .later }
def QuantityOrdersUptoCardSaid : Prop := Claim7.holds Tryz.pinned (.plain (OpenSpec.upto quantityOrdersSpec)) quantityOrdersUptoCard
end Rows
end Go.Proofs.YthnnhhjecgkplaaGreatDoor
