/-
  The kit's contracts on slices.Sorted(maps.Keys(m)), laid by lay.py at this seat (numbers are the seat's).
-/
import Derived.Shelf.SlIter.Nil
import Derived.Shelf.SortM.Plain
import Derived.Shelf.SortM.SortNone
import Derived.Test.YtcfbmmlgdopbmaaProg
namespace Go.Proofs.Ytcfbmmlgdopbmaa
open Go.RowKit Go.Maps Go.Sort Go.Shelf

-- maps.Keys[map[string]*anabranch/disk.file,string,*anabranch/disk.file] (function 42; its iterator 59) · slices.Sorted[string] (41) · slices.Sort[[]string,string] (58) · the map's type 55, the keys' 9
def Try.keys42_ren : Go.Shelf.Ren := ⟨fun | 7 => 42 | 10 => 59 | n => n, fun | 23 => 55 | 26 => 9 | 3 => 61 | 28 => 76 | 0 => 0 | 27 => 75 | 33 => 66 | 4 => 4 | n => n, fun | n => n⟩
theorem Try.keys42 : Go.Proofs.SlLaysZ.n7 Try.prog Try.keys42_ren := {
  mixed := by kernel_rfl
  f7 := ⟨"maps.Keys[map[string]*anabranch/disk.file,string,*anabranch/disk.file]", by decide, Try.func42.trans (congrArg some (by kernel_rfl))⟩
  f10 := ⟨"maps.Keys[map[string]*anabranch/disk.file,string,*anabranch/disk.file]$1", by decide, Try.func59.trans (congrArg some (by kernel_rfl))⟩
  t0 := Try.underlying0
  a0 := Try.isAgg0
  z0 := Try.sizeOf0
  v0 := Try.zeroValue0
  t4 := Try.underlying4
  a4 := Try.isAgg4
  z4 := Try.sizeOf4
  v4 := Try.zeroValue4
  t23 := Try.underlying55
  a23 := Try.isAgg55
  z23 := Try.sizeOf55
  v23 := Try.zeroValue55
  t26 := Try.underlying9
  a26 := Try.isAgg9
  z26 := Try.sizeOf9
  v26 := Try.zeroValue9
  t27 := Try.underlying75
  a27 := Try.isAgg75
  z27 := Try.sizeOf75
  v27 := Try.zeroValue75
  t28 := Try.underlying76
  a28 := Try.isAgg76
  z28 := Try.sizeOf76
  v28 := Try.zeroValue76
  t33 := Try.underlying66
  a33 := Try.isAgg66
  z33 := Try.sizeOf66
  v33 := Try.zeroValue66 }


def Try.sorted41_ren : Go.Shelf.Ren := ⟨fun | 6 => 41 | 8 => 57 | 9 => 58 | 11 => 68 | 13 => 70 | 12 => 69 | 23 => 83 | 24 => 84 | 14 => 74 | 15 => 75 | 16 => 76 | 17 => 77 | 18 => 78 | 19 => 79 | 20 => 80 | 21 => 81 | 22 => 82 | 25 => 85 | 26 => 86 | 27 => 87 | 28 => 88 | 29 => 89 | 30 => 90 | 31 => 91 | n => n, fun | 26 => 9 | 28 => 76 | 24 => 52 | 0 => 0 | 3 => 3 | 37 => 89 | 48 => 87 | 50 => 22 | 4 => 4 | 40 => 114 | 39 => 113 | 45 => 118 | 5 => 5 | 9 => 9 | 51 => 122 | 55 => 126 | 57 => 128 | 58 => 67 | 33 => 66 | n => n, fun | n => n⟩
theorem Try.sorted41 : Go.Proofs.SlLaysZ.n6 Try.prog Try.sorted41_ren := {
  mixed := by kernel_rfl
  f6 := ⟨"slices.Sorted[string]", by decide, Try.func41.trans (congrArg some (by kernel_rfl))⟩
  f8 := ⟨"slices.Collect[string]", by decide, Try.func57.trans (congrArg some (by kernel_rfl))⟩
  f11 := ⟨"slices.AppendSeq[[]string,string]", by decide, Try.func68.trans (congrArg some (by kernel_rfl))⟩
  t0 := Try.underlying0
  a0 := Try.isAgg0
  z0 := Try.sizeOf0
  v0 := Try.zeroValue0
  t24 := Try.underlying52
  a24 := Try.isAgg52
  z24 := Try.sizeOf52
  v24 := Try.zeroValue52
  t26 := Try.underlying9
  a26 := Try.isAgg9
  z26 := Try.sizeOf9
  v26 := Try.zeroValue9
  t28 := Try.underlying76
  a28 := Try.isAgg76
  z28 := Try.sizeOf76
  v28 := Try.zeroValue76
  i26 := by kernel_rfl }


def Try.sort58_ren : Go.Shelf.Ren := ⟨fun | 6 => 58 | 8 => 70 | 9 => 69 | 19 => 83 | 20 => 84 | 21 => 74 | 22 => 75 | 23 => 76 | 24 => 77 | 25 => 78 | 26 => 79 | 27 => 80 | 28 => 81 | 29 => 82 | 36 => 85 | 31 => 86 | 32 => 87 | 37 => 88 | 38 => 89 | 39 => 90 | 41 => 91 | n => n, fun | 27 => 52 | 29 => 9 | 3 => 3 | 32 => 89 | 26 => 52 | 0 => 0 | 44 => 87 | 46 => 22 | 4 => 4 | 36 => 114 | 35 => 113 | 41 => 118 | 5 => 5 | 9 => 9 | 53 => 122 | 57 => 126 | 63 => 128 | 64 => 67 | n => n, fun | n => n⟩
theorem Try.sort58 : Go.Proofs.SlLaysM.n6 Try.prog Try.sort58_ren := {
  mixed := by kernel_rfl
  f6 := ⟨"slices.Sort[[]string,string]", by decide, Try.func58.trans (congrArg some (by kernel_rfl))⟩
  f8 := Try.func70.trans (congrArg some (by kernel_rfl))
  f9 := ⟨"slices.pdqsortOrdered[string]", by decide, Try.func69.trans (congrArg some (by kernel_rfl))⟩
  f19 := Try.func83.trans (congrArg some (by kernel_rfl))
  f20 := Try.func84.trans (congrArg some (by kernel_rfl))
  f21 := ⟨"slices.insertionSortOrdered[string]", by decide, Try.func74.trans (congrArg some (by kernel_rfl))⟩
  f22 := ⟨"slices.heapSortOrdered[string]", by decide, Try.func75.trans (congrArg some (by kernel_rfl))⟩
  f23 := ⟨"slices.breakPatternsOrdered[string]", by decide, Try.func76.trans (congrArg some (by kernel_rfl))⟩
  f24 := ⟨"slices.choosePivotOrdered[string]", by decide, Try.func77.trans (congrArg some (by kernel_rfl))⟩
  f25 := ⟨"slices.reverseRangeOrdered[string]", by decide, Try.func78.trans (congrArg some (by kernel_rfl))⟩
  f26 := ⟨"slices.partialInsertionSortOrdered[string]", by decide, Try.func79.trans (congrArg some (by kernel_rfl))⟩
  f27 := ⟨"cmp.Less[string]", by decide, Try.func80.trans (congrArg some (by kernel_rfl))⟩
  f28 := ⟨"slices.partitionEqualOrdered[string]", by decide, Try.func81.trans (congrArg some (by kernel_rfl))⟩
  f29 := ⟨"slices.partitionOrdered[string]", by decide, Try.func82.trans (congrArg some (by kernel_rfl))⟩
  f31 := Try.func86.trans (congrArg some (by kernel_rfl))
  f32 := Try.func87.trans (congrArg some (by kernel_rfl))
  f36 := ⟨"slices.siftDownOrdered[string]", by decide, Try.func85.trans (congrArg some (by kernel_rfl))⟩
  f37 := ⟨"slices.medianAdjacentOrdered[string]", by decide, Try.func88.trans (congrArg some (by kernel_rfl))⟩
  f38 := ⟨"slices.medianOrdered[string]", by decide, Try.func89.trans (congrArg some (by kernel_rfl))⟩
  f39 := ⟨"cmp.isNaN[string]", by decide, Try.func90.trans (congrArg some (by kernel_rfl))⟩
  f41 := ⟨"slices.order2Ordered[string]", by decide, Try.func91.trans (congrArg some (by kernel_rfl))⟩
  t0 := Try.underlying0
  a0 := Try.isAgg0
  z0 := Try.sizeOf0
  v0 := Try.zeroValue0
  t3 := Try.underlying3
  a3 := Try.isAgg3
  z3 := Try.sizeOf3
  v3 := Try.zeroValue3
  t4 := Try.underlying4
  a4 := Try.isAgg4
  z4 := Try.sizeOf4
  v4 := Try.zeroValue4
  t5 := Try.underlying5
  a5 := Try.isAgg5
  z5 := Try.sizeOf5
  v5 := Try.zeroValue5
  t9 := Try.underlying9
  a9 := Try.isAgg9
  z9 := Try.sizeOf9
  v9 := Try.zeroValue9
  t26 := Try.underlying52
  a26 := Try.isAgg52
  z26 := Try.sizeOf52
  v26 := Try.zeroValue52
  t27 := Try.underlying52
  a27 := Try.isAgg52
  z27 := Try.sizeOf52
  v27 := Try.zeroValue52
  t29 := Try.underlying9
  a29 := Try.isAgg9
  z29 := Try.sizeOf9
  v29 := Try.zeroValue9
  t32 := Try.underlying89
  a32 := Try.isAgg89
  z32 := Try.sizeOf89
  v32 := Try.zeroValue89
  t35 := Try.underlying113
  a35 := Try.isAgg113
  z35 := Try.sizeOf113
  v35 := Try.zeroValue113
  t36 := Try.underlying114
  a36 := Try.isAgg114
  z36 := Try.sizeOf114
  v36 := Try.zeroValue114
  t41 := Try.underlying118
  a41 := Try.isAgg118
  z41 := Try.sizeOf118
  v41 := Try.zeroValue118
  t44 := Try.underlying87
  a44 := Try.isAgg87
  z44 := Try.sizeOf87
  v44 := Try.zeroValue87
  t46 := Try.underlying22
  a46 := Try.isAgg22
  z46 := Try.sizeOf22
  v46 := Try.zeroValue22
  t53 := Try.underlying122
  a53 := Try.isAgg122
  z53 := Try.sizeOf122
  v53 := Try.zeroValue122
  t57 := Try.underlying126
  a57 := Try.isAgg126
  z57 := Try.sizeOf126
  v57 := Try.zeroValue126
  t63 := Try.underlying128
  a63 := Try.isAgg128
  z63 := Try.sizeOf128
  v63 := Try.zeroValue128
  t64 := Try.underlying67
  a64 := Try.isAgg67
  z64 := Try.sizeOf67
  v64 := Try.zeroValue67 }


/-- slices.Sort's two contracts at this dump, at the fence that asks nothing. -/
theorem Try.sorts41 (m : Nat) : AnyZ.SortsIn Try.prog Try.sorted41_ren Fence.wide m :=
  ⟨fun blk off cap ss W hH hblk hsz => callsIn_wide.2 (AnyM.slices_Sort_string Try.sort58 blk off cap ss W hH hblk hsz),
   fun p cap W => callsIn_wide.2 (AnyM.slices_Sort_string_none Try.sort58 p cap W)⟩

/-- **maps.Keys[map[string]*anabranch/disk.file,string,*anabranch/disk.file], at whatever map, the nil one too:** a function value over ONE NEW BLOCK, which holds the map. -/
theorem Try.maps_Keys_42 (mb : Option Nat) (W : World) : CallsIn Fence.wide 5 Try.prog 42 #[.map mb] W fun e w' => e = .returned (.func (.func 59) #[] #[.pointer (some ⟨W.heap.size, 0, none⟩)]) ∧ w' = W.alloc (.cells #[.map mb] 55) :=
  AnyZ.keys_in Try.keys42 Fence.wide 5 trivial rfl mb W

set_option maxHeartbeats 1000000 in
/-- **slices.Sorted[string] AT WHAT maps.Keys[map[string]*anabranch/disk.file,string,*anabranch/disk.file] HANDED BACK FOR A MAP THAT IS NOT nil** ('w': the world AHEAD of maps.Keys' call): A NEW SLICE THAT HOLDS THE MAP's KEYS, SORTED; nil just where it has none; nothing that lay before has turned. -/
theorem Try.slices_Sorted_keys_41_42 {H : Type} (b nn : Nat) (D0 : DataW H) (R : Value → Option (DataW H × List MemPlace)) (w : World) (hown : w.ownsMap Try.prog 9 R b nn D0) (hmax : Maps.size D0 ≤ maxLen) (hbytes : Maps.size D0 * 16 ≤ 140737488355328) :
    CallsIn Fence.wide 5 Try.prog 41 #[.func (.func 59) #[] #[.pointer (some ⟨w.heap.size, 0, none⟩)]] (w.alloc (.cells #[.map (some b)] 55)) fun e w' => ∃ (v : Value) (ss : List (List UInt8)), e = .returned v ∧ ss.Perm (strKeys D0) ∧
      w'.ownsRow (w.alloc (.cells #[.map (some b)] 55)).heap.size 9 1 v ss.length ((ss.mergeSort (fun x y => decide (x ≤ y))).map encStr) ∧ (v = .slice none 0 0 ↔ ss = []) ∧ Below (w.alloc (.cells #[.map (some b)] 55)).heap.size (w.alloc (.cells #[.map (some b)] 55)) w' := by
  have hbl := hown.lt
  have hseq : SeqGives Fence.wide 2 Try.prog 59 #[.pointer (some ⟨w.heap.size, 0, none⟩)] encStr (fun ss => ss.Perm (strKeys D0)) (Maps.size D0) (w.alloc (.cells #[.map (some b)] 55)) :=
    AnyZ.keys_gives (ρ := Try.keys42_ren) { Try.keys42 with } Fence.wide _ trivial rfl (by omega) w.heap.size b nn D0 _ (by simp) (by simp) (by
      obtain ⟨es, clock, hb, Ft, hs, hD⟩ := hown
      exact ⟨es, clock, (Below.heap_alloc _ _ b hbl).trans hb, Ft, hs, hD⟩)
  exact AnyZ.sorted_in Try.sorted41 Fence.wide 5 trivial trivial trivial trivial rfl (by omega) (Try.sorts41 _) (enters_of Try.func58 (by kernel_rfl) rfl) 59 #[.pointer (some ⟨w.heap.size, 0, none⟩)] trivial (enters_of Try.func59 (by kernel_rfl) rfl) _ _ hmax hbytes _ hseq

set_option maxHeartbeats 1000000 in
/-- **.. AND FOR THE nil MAP: nil.** -/
theorem Try.slices_Sorted_keys_nil_41_42 (w : World) :
    CallsIn Fence.wide 5 Try.prog 41 #[.func (.func 59) #[] #[.pointer (some ⟨w.heap.size, 0, none⟩)]] (w.alloc (.cells #[.map none] 55)) fun e w' => ∃ (v : Value) (ss : List (List UInt8)), e = .returned v ∧ ss = [] ∧
      w'.ownsRow (w.alloc (.cells #[.map none] 55)).heap.size 9 1 v ss.length ((ss.mergeSort (fun x y => decide (x ≤ y))).map encStr) ∧ (v = .slice none 0 0 ↔ ss = []) ∧ Below (w.alloc (.cells #[.map none] 55)).heap.size (w.alloc (.cells #[.map none] 55)) w' := by
  have hseq : SeqGives Fence.wide 2 Try.prog 59 #[.pointer (some ⟨w.heap.size, 0, none⟩)] encStr (fun ss : List (List UInt8) => ss = []) 0 (w.alloc (.cells #[.map none] 55)) :=
    AnyZ.keys_gives_nil (ρ := Try.keys42_ren) { Try.keys42 with } Fence.wide _ trivial rfl w.heap.size _ (by simp) (by simp)
  exact AnyZ.sorted_in Try.sorted41 Fence.wide 5 trivial trivial trivial trivial rfl (by omega) (Try.sorts41 _) (enters_of Try.func58 (by kernel_rfl) rfl) 59 #[.pointer (some ⟨w.heap.size, 0, none⟩)] trivial (enters_of Try.func59 (by kernel_rfl) rfl) _ 0 (Nat.zero_le _) (by omega) _ hseq

end Go.Proofs.Ytcfbmmlgdopbmaa
