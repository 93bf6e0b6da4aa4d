/-
  The kit's contracts on slices.Sorted(maps.Keys(m)), laid by lay.py at this seat (numbers are the seat's).
-/
import Derived.Shelf.SlIter.Nil
import Derived.Shelf.SortM.Plain
import Derived.Shelf.SortM.SortNone
import Derived.Test.YtkolnecahlkndaaProg
namespace Go.Proofs.Ytkolnecahlkndaa
open Go.RowKit Go.Maps Go.Sort Go.Shelf

-- maps.Keys[map[string]anabranch/api.Cell,string,anabranch/api.Cell] (function 55; its iterator 74) · slices.Sorted[string] (54) · slices.Sort[[]string,string] (73) · the map's type 65, the keys' 9
def Try.keys55_ren : Go.Shelf.Ren := ⟨fun | 7 => 55 | 10 => 74 | n => n, fun | 23 => 65 | 26 => 9 | 3 => 77 | 28 => 98 | 0 => 0 | 27 => 97 | 33 => 114 | 4 => 4 | n => n, fun | n => n⟩
theorem Try.keys55 : Go.Proofs.SlLaysZ.n7 Try.prog Try.keys55_ren := {
  mixed := by kernel_rfl
  f7 := ⟨"maps.Keys[map[string]anabranch/api.Cell,string,anabranch/api.Cell]", by decide, Try.func55.trans (congrArg some (by kernel_rfl))⟩
  f10 := ⟨"maps.Keys[map[string]anabranch/api.Cell,string,anabranch/api.Cell]$1", by decide, Try.func74.trans (congrArg some (by kernel_rfl))⟩
  t0 := Try.underlying0
  a0 := Try.isAgg0
  z0 := Try.sizeOf0
  v0 := Try.zeroValue0
  t4 := Try.underlying4
  a4 := Try.isAgg4
  z4 := Try.sizeOf4
  v4 := Try.zeroValue4
  t23 := Try.underlying65
  a23 := Try.isAgg65
  z23 := Try.sizeOf65
  v23 := Try.zeroValue65
  t26 := Try.underlying9
  a26 := Try.isAgg9
  z26 := Try.sizeOf9
  v26 := Try.zeroValue9
  t27 := Try.underlying97
  a27 := Try.isAgg97
  z27 := Try.sizeOf97
  v27 := Try.zeroValue97
  t28 := Try.underlying98
  a28 := Try.isAgg98
  z28 := Try.sizeOf98
  v28 := Try.zeroValue98
  t33 := Try.underlying114
  a33 := Try.isAgg114
  z33 := Try.sizeOf114
  v33 := Try.zeroValue114 }


def Try.sorted54_ren : Go.Shelf.Ren := ⟨fun | 6 => 54 | 8 => 72 | 9 => 73 | 11 => 80 | 13 => 82 | 12 => 81 | 23 => 92 | 24 => 93 | 14 => 83 | 15 => 84 | 16 => 85 | 17 => 86 | 18 => 87 | 19 => 88 | 20 => 89 | 21 => 90 | 22 => 91 | 25 => 94 | 26 => 95 | 27 => 96 | 28 => 97 | 29 => 98 | 30 => 99 | 31 => 100 | n => n, fun | 26 => 9 | 28 => 98 | 24 => 74 | 0 => 0 | 3 => 3 | 37 => 95 | 48 => 134 | 50 => 23 | 4 => 4 | 40 => 126 | 39 => 125 | 45 => 131 | 5 => 5 | 9 => 9 | 51 => 136 | 55 => 139 | 57 => 141 | 58 => 142 | 33 => 114 | n => n, fun | n => n⟩
theorem Try.sorted54 : Go.Proofs.SlLaysZ.n6 Try.prog Try.sorted54_ren := {
  mixed := by kernel_rfl
  f6 := ⟨"slices.Sorted[string]", by decide, Try.func54.trans (congrArg some (by kernel_rfl))⟩
  f8 := ⟨"slices.Collect[string]", by decide, Try.func72.trans (congrArg some (by kernel_rfl))⟩
  f11 := ⟨"slices.AppendSeq[[]string,string]", by decide, Try.func80.trans (congrArg some (by kernel_rfl))⟩
  t0 := Try.underlying0
  a0 := Try.isAgg0
  z0 := Try.sizeOf0
  v0 := Try.zeroValue0
  t24 := Try.underlying74
  a24 := Try.isAgg74
  z24 := Try.sizeOf74
  v24 := Try.zeroValue74
  t26 := Try.underlying9
  a26 := Try.isAgg9
  z26 := Try.sizeOf9
  v26 := Try.zeroValue9
  t28 := Try.underlying98
  a28 := Try.isAgg98
  z28 := Try.sizeOf98
  v28 := Try.zeroValue98
  i26 := by kernel_rfl }


def Try.sort73_ren : Go.Shelf.Ren := ⟨fun | 6 => 73 | 8 => 82 | 9 => 81 | 19 => 92 | 20 => 93 | 21 => 83 | 22 => 84 | 23 => 85 | 24 => 86 | 25 => 87 | 26 => 88 | 27 => 89 | 28 => 90 | 29 => 91 | 36 => 94 | 31 => 95 | 32 => 96 | 37 => 97 | 38 => 98 | 39 => 99 | 41 => 100 | n => n, fun | 27 => 74 | 29 => 9 | 3 => 3 | 32 => 95 | 26 => 74 | 0 => 0 | 44 => 134 | 46 => 23 | 4 => 4 | 36 => 126 | 35 => 125 | 41 => 131 | 5 => 5 | 9 => 9 | 53 => 136 | 57 => 139 | 63 => 141 | 64 => 142 | n => n, fun | n => n⟩
theorem Try.sort73 : Go.Proofs.SlLaysM.n6 Try.prog Try.sort73_ren := {
  mixed := by kernel_rfl
  f6 := ⟨"slices.Sort[[]string,string]", by decide, Try.func73.trans (congrArg some (by kernel_rfl))⟩
  f8 := Try.func82.trans (congrArg some (by kernel_rfl))
  f9 := ⟨"slices.pdqsortOrdered[string]", by decide, Try.func81.trans (congrArg some (by kernel_rfl))⟩
  f19 := Try.func92.trans (congrArg some (by kernel_rfl))
  f20 := Try.func93.trans (congrArg some (by kernel_rfl))
  f21 := ⟨"slices.insertionSortOrdered[string]", by decide, Try.func83.trans (congrArg some (by kernel_rfl))⟩
  f22 := ⟨"slices.heapSortOrdered[string]", by decide, Try.func84.trans (congrArg some (by kernel_rfl))⟩
  f23 := ⟨"slices.breakPatternsOrdered[string]", by decide, Try.func85.trans (congrArg some (by kernel_rfl))⟩
  f24 := ⟨"slices.choosePivotOrdered[string]", by decide, Try.func86.trans (congrArg some (by kernel_rfl))⟩
  f25 := ⟨"slices.reverseRangeOrdered[string]", by decide, Try.func87.trans (congrArg some (by kernel_rfl))⟩
  f26 := ⟨"slices.partialInsertionSortOrdered[string]", by decide, Try.func88.trans (congrArg some (by kernel_rfl))⟩
  f27 := ⟨"cmp.Less[string]", by decide, Try.func89.trans (congrArg some (by kernel_rfl))⟩
  f28 := ⟨"slices.partitionEqualOrdered[string]", by decide, Try.func90.trans (congrArg some (by kernel_rfl))⟩
  f29 := ⟨"slices.partitionOrdered[string]", by decide, Try.func91.trans (congrArg some (by kernel_rfl))⟩
  f31 := Try.func95.trans (congrArg some (by kernel_rfl))
  f32 := Try.func96.trans (congrArg some (by kernel_rfl))
  f36 := ⟨"slices.siftDownOrdered[string]", by decide, Try.func94.trans (congrArg some (by kernel_rfl))⟩
  f37 := ⟨"slices.medianAdjacentOrdered[string]", by decide, Try.func97.trans (congrArg some (by kernel_rfl))⟩
  f38 := ⟨"slices.medianOrdered[string]", by decide, Try.func98.trans (congrArg some (by kernel_rfl))⟩
  f39 := ⟨"cmp.isNaN[string]", by decide, Try.func99.trans (congrArg some (by kernel_rfl))⟩
  f41 := ⟨"slices.order2Ordered[string]", by decide, Try.func100.trans (congrArg some (by kernel_rfl))⟩
  t0 := Try.underlying0
  a0 := Try.isAgg0
  z0 := Try.sizeOf0
  v0 := Try.zeroValue0
  t3 := Try.underlying3
  a3 := Try.isAgg3
  z3 := Try.sizeOf3
  v3 := Try.zeroValue3
  t4 := Try.underlying4
  a4 := Try.isAgg4
  z4 := Try.sizeOf4
  v4 := Try.zeroValue4
  t5 := Try.underlying5
  a5 := Try.isAgg5
  z5 := Try.sizeOf5
  v5 := Try.zeroValue5
  t9 := Try.underlying9
  a9 := Try.isAgg9
  z9 := Try.sizeOf9
  v9 := Try.zeroValue9
  t26 := Try.underlying74
  a26 := Try.isAgg74
  z26 := Try.sizeOf74
  v26 := Try.zeroValue74
  t27 := Try.underlying74
  a27 := Try.isAgg74
  z27 := Try.sizeOf74
  v27 := Try.zeroValue74
  t29 := Try.underlying9
  a29 := Try.isAgg9
  z29 := Try.sizeOf9
  v29 := Try.zeroValue9
  t32 := Try.underlying95
  a32 := Try.isAgg95
  z32 := Try.sizeOf95
  v32 := Try.zeroValue95
  t35 := Try.underlying125
  a35 := Try.isAgg125
  z35 := Try.sizeOf125
  v35 := Try.zeroValue125
  t36 := Try.underlying126
  a36 := Try.isAgg126
  z36 := Try.sizeOf126
  v36 := Try.zeroValue126
  t41 := Try.underlying131
  a41 := Try.isAgg131
  z41 := Try.sizeOf131
  v41 := Try.zeroValue131
  t44 := Try.underlying134
  a44 := Try.isAgg134
  z44 := Try.sizeOf134
  v44 := Try.zeroValue134
  t46 := Try.underlying23
  a46 := Try.isAgg23
  z46 := Try.sizeOf23
  v46 := Try.zeroValue23
  t53 := Try.underlying136
  a53 := Try.isAgg136
  z53 := Try.sizeOf136
  v53 := Try.zeroValue136
  t57 := Try.underlying139
  a57 := Try.isAgg139
  z57 := Try.sizeOf139
  v57 := Try.zeroValue139
  t63 := Try.underlying141
  a63 := Try.isAgg141
  z63 := Try.sizeOf141
  v63 := Try.zeroValue141
  t64 := Try.underlying142
  a64 := Try.isAgg142
  z64 := Try.sizeOf142
  v64 := Try.zeroValue142 }


/-- slices.Sort's two contracts at this dump, at the fence that asks nothing. -/
theorem Try.sorts54 (m : Nat) : AnyZ.SortsIn Try.prog Try.sorted54_ren Fence.wide m :=
  ⟨fun blk off cap ss W hH hblk hsz => callsIn_wide.2 (AnyM.slices_Sort_string Try.sort73 blk off cap ss W hH hblk hsz),
   fun p cap W => callsIn_wide.2 (AnyM.slices_Sort_string_none Try.sort73 p cap W)⟩

/-- **maps.Keys[map[string]anabranch/api.Cell,string,anabranch/api.Cell], at whatever map, the nil one too:** a function value over ONE NEW BLOCK, which holds the map. -/
theorem Try.maps_Keys_55 (mb : Option Nat) (W : World) : CallsIn Fence.wide 5 Try.prog 55 #[.map mb] W fun e w' => e = .returned (.func (.func 74) #[] #[.pointer (some ⟨W.heap.size, 0, none⟩)]) ∧ w' = W.alloc (.cells #[.map mb] 65) :=
  AnyZ.keys_in Try.keys55 Fence.wide 5 trivial rfl mb W

set_option maxHeartbeats 1000000 in
/-- **slices.Sorted[string] AT WHAT maps.Keys[map[string]anabranch/api.Cell,string,anabranch/api.Cell] HANDED BACK FOR A MAP THAT IS NOT nil** ('w': the world AHEAD of maps.Keys' call): A NEW SLICE THAT HOLDS THE MAP's KEYS, SORTED; nil just where it has none; nothing that lay before has turned. -/
theorem Try.slices_Sorted_keys_54_55 {H : Type} (b nn : Nat) (D0 : DataW H) (R : Value → Option (DataW H × List MemPlace)) (w : World) (hown : w.ownsMap Try.prog 9 R b nn D0) (hmax : Maps.size D0 ≤ maxLen) (hbytes : Maps.size D0 * 16 ≤ 140737488355328) :
    CallsIn Fence.wide 5 Try.prog 54 #[.func (.func 74) #[] #[.pointer (some ⟨w.heap.size, 0, none⟩)]] (w.alloc (.cells #[.map (some b)] 65)) fun e w' => ∃ (v : Value) (ss : List (List UInt8)), e = .returned v ∧ ss.Perm (strKeys D0) ∧
      w'.ownsRow (w.alloc (.cells #[.map (some b)] 65)).heap.size 9 1 v ss.length ((ss.mergeSort (fun x y => decide (x ≤ y))).map encStr) ∧ (v = .slice none 0 0 ↔ ss = []) ∧ Below (w.alloc (.cells #[.map (some b)] 65)).heap.size (w.alloc (.cells #[.map (some b)] 65)) w' := by
  have hbl := hown.lt
  have hseq : SeqGives Fence.wide 2 Try.prog 74 #[.pointer (some ⟨w.heap.size, 0, none⟩)] encStr (fun ss => ss.Perm (strKeys D0)) (Maps.size D0) (w.alloc (.cells #[.map (some b)] 65)) :=
    AnyZ.keys_gives (ρ := Try.keys55_ren) { Try.keys55 with } Fence.wide _ trivial rfl (by omega) w.heap.size b nn D0 _ (by simp) (by simp) (by
      obtain ⟨es, clock, hb, Ft, hs, hD⟩ := hown
      exact ⟨es, clock, (Below.heap_alloc _ _ b hbl).trans hb, Ft, hs, hD⟩)
  exact AnyZ.sorted_in Try.sorted54 Fence.wide 5 trivial trivial trivial trivial rfl (by omega) (Try.sorts54 _) (enters_of Try.func73 (by kernel_rfl) rfl) 74 #[.pointer (some ⟨w.heap.size, 0, none⟩)] trivial (enters_of Try.func74 (by kernel_rfl) rfl) _ _ hmax hbytes _ hseq

set_option maxHeartbeats 1000000 in
/-- **.. AND FOR THE nil MAP: nil.** -/
theorem Try.slices_Sorted_keys_nil_54_55 (w : World) :
    CallsIn Fence.wide 5 Try.prog 54 #[.func (.func 74) #[] #[.pointer (some ⟨w.heap.size, 0, none⟩)]] (w.alloc (.cells #[.map none] 65)) fun e w' => ∃ (v : Value) (ss : List (List UInt8)), e = .returned v ∧ ss = [] ∧
      w'.ownsRow (w.alloc (.cells #[.map none] 65)).heap.size 9 1 v ss.length ((ss.mergeSort (fun x y => decide (x ≤ y))).map encStr) ∧ (v = .slice none 0 0 ↔ ss = []) ∧ Below (w.alloc (.cells #[.map none] 65)).heap.size (w.alloc (.cells #[.map none] 65)) w' := by
  have hseq : SeqGives Fence.wide 2 Try.prog 74 #[.pointer (some ⟨w.heap.size, 0, none⟩)] encStr (fun ss : List (List UInt8) => ss = []) 0 (w.alloc (.cells #[.map none] 65)) :=
    AnyZ.keys_gives_nil (ρ := Try.keys55_ren) { Try.keys55 with } Fence.wide _ trivial rfl w.heap.size _ (by simp) (by simp)
  exact AnyZ.sorted_in Try.sorted54 Fence.wide 5 trivial trivial trivial trivial rfl (by omega) (Try.sorts54 _) (enters_of Try.func73 (by kernel_rfl) rfl) 74 #[.pointer (some ⟨w.heap.size, 0, none⟩)] trivial (enters_of Try.func74 (by kernel_rfl) rfl) _ 0 (Nat.zero_le _) (by omega) _ hseq

end Go.Proofs.Ytkolnecahlkndaa
