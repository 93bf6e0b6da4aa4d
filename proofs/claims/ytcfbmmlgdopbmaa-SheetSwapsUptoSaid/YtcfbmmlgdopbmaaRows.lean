/-
  No cell of these rows narrows 'for every input' (looked for: loops, veiled, ifaces, maps, wideKeys, modest, calm, conditions, laid).
  DERIVED. THE GIVEN ROWS OF THIS SEAT. 5 by the template 'for every input the law returns true; each argument reads behind the call as it read before'; 0 by the template 'total and deterministic' (their statements: YtcfbmmlgdopbmaaTotals.lean).
  GIVEN WITH THE SEED: the statements are not yours to turn. If you find one false, say at which input.
  Laid BY PROGRAM, IN A SANDBOX (cutbox-rows.mjs): the forced cells as the released guide's own fill.sh prints them over the translation 24d4e602ccf34b14… (all of the seat's roots in one cut). By AI agents, Wed Nov 11 2026. No macro, syntax, notation, axiom, sorry.
-/
import Derived.Test.YtcfbmmlgdopbmaaChecked
import GoSem.Claim
import GoSem.ClaimJoined
import GoSem.ClaimMapViews
import Derived.JoinedTies
import Derived.KernelRfl
namespace Go.Proofs.Ytcfbmmlgdopbmaa
/- THE CELL 'sum', in the pinned program and in every row, IS THE sha256 OF THE DUMP (.gsa) THAT YtcfbmmlgdopbmaaProg.lean LOADS. Nothing in Lean hashes anything: it is a label: what it is worth is what the hold of that sum in a sandbox is worth. -/
noncomputable def Try.pinned : Pinned := { name := "ytcfbmmlgdopbmaa", sum := "24d4e602ccf34b14f43d914b6e70e9a7af31ac52759f53d7404a9a2db903dcfe", checked := Try.checked }
namespace Rows
def none {H : Type} : Left H := { results := [], args := [] }

/-- 'anabranchlaw05.SheetFiles': WHATEVER THE INPUT: true; the input reads as it did. -/
def sheetFilesSpec : ChangeSpec := { name := "sheetFiles", fn := fun _ => fun
  | [d1, d2] => { results := [.lit (.bool true)], args := [d1, d2] }
  | _ => none }
def sheetFilesRow : OpenClaim := { program := "ytcfbmmlgdopbmaa", sum := "24d4e602ccf34b14f43d914b6e70e9a7af31ac52759f53d7404a9a2db903dcfe", func := "anabranch/anabranchlaw05.SheetFiles", spec := "sheetFiles", unfollowed := true, recurses := true, apart := false }
def SheetFilesSaid : Prop := sheetFilesRow.holds Try.pinned (OpenSpec.ofChange sheetFilesSpec)

/-- ITS FALSE NEIGHBOUR: 'it returns false'. Refute it at one input. -/
def sheetFilesWrong : ChangeSpec := { name := "sheetFiles", fn := fun _ => fun
  | [d1, d2] => { results := [.lit (.bool false)], args := [d1, d2] }
  | _ => none }
def SheetFilesWrongFalsely : Prop := sheetFilesRow.holds Try.pinned (OpenSpec.ofChange sheetFilesWrong)

/-- 'anabranchlaw05.SheetMends': WHATEVER THE INPUT: true; the input reads as it did. -/
def sheetMendsSpec : ChangeSpec := { name := "sheetMends", fn := fun _ => fun
  | [d1, d2, d3, d4] => { results := [.lit (.bool true)], args := [d1, d2, d3, d4] }
  | _ => none }
def sheetMendsRow : OpenClaim := { program := "ytcfbmmlgdopbmaa", sum := "24d4e602ccf34b14f43d914b6e70e9a7af31ac52759f53d7404a9a2db903dcfe", func := "anabranch/anabranchlaw05.SheetMends", spec := "sheetMends", unfollowed := true, recurses := true, apart := false }
def SheetMendsSaid : Prop := sheetMendsRow.holds Try.pinned (OpenSpec.ofChange sheetMendsSpec)

/-- ITS FALSE NEIGHBOUR: 'it returns false'. Refute it at one input. -/
def sheetMendsWrong : ChangeSpec := { name := "sheetMends", fn := fun _ => fun
  | [d1, d2, d3, d4] => { results := [.lit (.bool false)], args := [d1, d2, d3, d4] }
  | _ => none }
def SheetMendsWrongFalsely : Prop := sheetMendsRow.holds Try.pinned (OpenSpec.ofChange sheetMendsWrong)

/-- 'anabranchlaw05.SheetLong': WHATEVER THE INPUT: true; the input reads as it did. -/
def sheetLongSpec : ChangeSpec := { name := "sheetLong", fn := fun _ => fun
  | [d] => { results := [.lit (.bool true)], args := [d] }
  | _ => none }
def sheetLongRow : OpenClaim := { program := "ytcfbmmlgdopbmaa", sum := "24d4e602ccf34b14f43d914b6e70e9a7af31ac52759f53d7404a9a2db903dcfe", func := "anabranch/anabranchlaw05.SheetLong", spec := "sheetLong", unfollowed := true, recurses := true, apart := false }
def SheetLongSaid : Prop := sheetLongRow.holds Try.pinned (OpenSpec.ofChange sheetLongSpec)

/-- ITS FALSE NEIGHBOUR: 'it returns false'. Refute it at one input. -/
def sheetLongWrong : ChangeSpec := { name := "sheetLong", fn := fun _ => fun
  | [d] => { results := [.lit (.bool false)], args := [d] }
  | _ => none }
def SheetLongWrongFalsely : Prop := sheetLongRow.holds Try.pinned (OpenSpec.ofChange sheetLongWrong)

/-- 'anabranchlaw05.SheetFull': WHATEVER THE INPUT: true; the input reads as it did. -/
def sheetFullSpec : ChangeSpec := { name := "sheetFull", fn := fun _ => fun
  | [d1, d2, d3, d4] => { results := [.lit (.bool true)], args := [d1, d2, d3, d4] }
  | _ => none }
def sheetFullRow : OpenClaim := { program := "ytcfbmmlgdopbmaa", sum := "24d4e602ccf34b14f43d914b6e70e9a7af31ac52759f53d7404a9a2db903dcfe", func := "anabranch/anabranchlaw05.SheetFull", spec := "sheetFull", unfollowed := true, recurses := true, apart := false }
def SheetFullSaid : Prop := sheetFullRow.holds Try.pinned (OpenSpec.ofChange sheetFullSpec)

/-- ITS FALSE NEIGHBOUR: 'it returns false'. Refute it at one input. -/
def sheetFullWrong : ChangeSpec := { name := "sheetFull", fn := fun _ => fun
  | [d1, d2, d3, d4] => { results := [.lit (.bool false)], args := [d1, d2, d3, d4] }
  | _ => none }
def SheetFullWrongFalsely : Prop := sheetFullRow.holds Try.pinned (OpenSpec.ofChange sheetFullWrong)

/-- 'anabranchlaw05.SheetSwaps': WHATEVER THE INPUT: true; the input reads as it did. -/
def sheetSwapsSpec : ChangeSpec := { name := "sheetSwaps", fn := fun _ => fun
  | [d1, d2, d3, d4, d5, d6, d7] => { results := [.lit (.bool true)], args := [d1, d2, d3, d4, d5, d6, d7] }
  | _ => none }
def sheetSwapsRow : OpenClaim := { program := "ytcfbmmlgdopbmaa", sum := "24d4e602ccf34b14f43d914b6e70e9a7af31ac52759f53d7404a9a2db903dcfe", func := "anabranch/anabranchlaw05.SheetSwaps", spec := "sheetSwaps", unfollowed := true, recurses := true, apart := false }
def SheetSwapsSaid : Prop := sheetSwapsRow.holds Try.pinned (OpenSpec.ofChange sheetSwapsSpec)

/-- ITS FALSE NEIGHBOUR: 'it returns false'. Refute it at one input. -/
def sheetSwapsWrong : ChangeSpec := { name := "sheetSwaps", fn := fun _ => fun
  | [d1, d2, d3, d4, d5, d6, d7] => { results := [.lit (.bool false)], args := [d1, d2, d3, d4, d5, d6, d7] }
  | _ => none }
def SheetSwapsWrongFalsely : Prop := sheetSwapsRow.holds Try.pinned (OpenSpec.ofChange sheetSwapsWrong)

/- THE SECOND FORM. 'bulk': how many values and letters a reading holds, each counted each time it is reached (what is shared counts as often as it is met; a slice's spare places count too). A statement '..UptoSaid' is the law's where the arguments, and the package variables that the reading takes, are together of bulk at most 1048576: NARROWER than '..Said'. Prove '..Said' where nothing that the law and all that it calls make is longer than what came in: it says more and counts as full. Else prove '..UptoSaid'. A law counts once. -/
mutual
def uptoBulk {H : Type} : DataW H → Nat
  | .lit (.string bytes) => bytes.length + 1
  | .lit _ => 1
  | .nil => 1
  | .ptr d => uptoBulk d + 1
  | .slice elems spare => uptoBulkAll elems + uptoBulkAll spare + 1
  | .agg parts => uptoBulkAll parts + 1
  | .iface _ d => uptoBulk d + 1
  | .map entries => uptoBulkEntries entries + 1
  | .held _ => 1
def uptoBulkAll {H : Type} : List (DataW H) → Nat
  | [] => 0
  | d :: r => uptoBulk d + uptoBulkAll r
def uptoBulkEntries {H : Type} : List (Lit × DataW H) → Nat
  | [] => 0
  | x :: r => uptoBulkEntry x + uptoBulkEntries r
def uptoBulkEntry {H : Type} : Lit × DataW H → Nat
  | (.string bytes, d) => bytes.length + uptoBulk d + 1
  | (_, d) => uptoBulk d + 1
 end
def uptoSmall : (H : Type) → List (DataW H) → Bool := fun _ ds => decide (uptoBulkAll ds ≤ 1048576)
def OpenSpec.upto (s : _root_.Go.ChangeSpec) : _root_.Go.OpenSpec := { _root_.Go.OpenSpec.ofChange s with cond := some uptoSmall }

/-- 'anabranchlaw05.SheetFiles', WHERE WHAT IT READS IS OF BULK AT MOST 1048576: true; the input reads as it did. -/
def sheetFilesUptoRow : OpenClaim := { program := "ytcfbmmlgdopbmaa", sum := "24d4e602ccf34b14f43d914b6e70e9a7af31ac52759f53d7404a9a2db903dcfe", func := "anabranch/anabranchlaw05.SheetFiles", spec := "sheetFiles", unfollowed := true, recurses := true, apart := false, narrowed := true }
def SheetFilesUptoSaid : Prop := sheetFilesUptoRow.holds Try.pinned (OpenSpec.upto sheetFilesSpec)

/-- 'anabranchlaw05.SheetMends', WHERE WHAT IT READS IS OF BULK AT MOST 1048576: true; the input reads as it did. -/
def sheetMendsUptoRow : OpenClaim := { program := "ytcfbmmlgdopbmaa", sum := "24d4e602ccf34b14f43d914b6e70e9a7af31ac52759f53d7404a9a2db903dcfe", func := "anabranch/anabranchlaw05.SheetMends", spec := "sheetMends", unfollowed := true, recurses := true, apart := false, narrowed := true }
def SheetMendsUptoSaid : Prop := sheetMendsUptoRow.holds Try.pinned (OpenSpec.upto sheetMendsSpec)

/-- 'anabranchlaw05.SheetLong', WHERE WHAT IT READS IS OF BULK AT MOST 1048576: true; the input reads as it did. -/
def sheetLongUptoRow : OpenClaim := { program := "ytcfbmmlgdopbmaa", sum := "24d4e602ccf34b14f43d914b6e70e9a7af31ac52759f53d7404a9a2db903dcfe", func := "anabranch/anabranchlaw05.SheetLong", spec := "sheetLong", unfollowed := true, recurses := true, apart := false, narrowed := true }
def SheetLongUptoSaid : Prop := sheetLongUptoRow.holds Try.pinned (OpenSpec.upto sheetLongSpec)

/-- 'anabranchlaw05.SheetFull', WHERE WHAT IT READS IS OF BULK AT MOST 1048576: true; the input reads as it did. -/
def sheetFullUptoRow : OpenClaim := { program := "ytcfbmmlgdopbmaa", sum := "24d4e602ccf34b14f43d914b6e70e9a7af31ac52759f53d7404a9a2db903dcfe", func := "anabranch/anabranchlaw05.SheetFull", spec := "sheetFull", unfollowed := true, recurses := true, apart := false, narrowed := true }
def SheetFullUptoSaid : Prop := sheetFullUptoRow.holds Try.pinned (OpenSpec.upto sheetFullSpec)

/-- 'anabranchlaw05.SheetSwaps', WHERE WHAT IT READS IS OF BULK AT MOST 1048576: true; the input reads as it did. -/
def sheetSwapsUptoRow : OpenClaim := { program := "ytcfbmmlgdopbmaa", sum := "24d4e602ccf34b14f43d914b6e70e9a7af31ac52759f53d7404a9a2db903dcfe", func := "anabranch/anabranchlaw05.SheetSwaps", spec := "sheetSwaps", unfollowed := true, recurses := true, apart := false, narrowed := true }
def SheetSwapsUptoSaid : Prop := sheetSwapsUptoRow.holds Try.pinned (OpenSpec.upto sheetSwapsSpec)

end Rows
end Go.Proofs.Ytcfbmmlgdopbmaa
