/-
  The kit's contracts on slices.Sorted(maps.Keys(m)), laid by lay.py at this seat (numbers are the seat's).
-/
import Derived.Shelf.SlIter.Nil
import Derived.Shelf.SortM.Plain
import Derived.Shelf.SortM.SortNone
import Derived.Test.YtdkbpcibmipelaaGreatDoorProg
import Derived.Test.YtdkbpcibmipelaaGreatDoorMl
import Derived.Test.YtdkbpcibmipelaaGreatDoorMe
import Derived.Test.YtdkbpcibmipelaaGreatDoorMd
import Derived.Test.YtdkbpcibmipelaaGreatDoorMj
namespace Go.Proofs.YtdkbpcibmipelaaGreatDoor
open Go.RowKit Go.Maps Go.Sort Go.Shelf

-- maps.Keys[map[string]*anabranch/disk.file,string,*anabranch/disk.file] (function 111; its iterator 183) · slices.Sorted[string] (110) · slices.Sort[[]string,string] (182) · the map's type 136, the keys' 9
def Tryz.keys111_ren : Go.Shelf.Ren := ⟨fun | 7 => 111 | 10 => 183 | n => n, fun | 23 => 136 | 26 => 9 | 3 => 143 | 28 => 172 | 0 => 0 | 27 => 171 | 33 => 163 | 4 => 4 | n => n, fun | n => n⟩
theorem Tryz.keys111 : Go.Proofs.SlLaysZ.n7 Tryz.prog Tryz.keys111_ren := {
  mixed := by kernel_rfl
  f7 := ⟨"maps.Keys[map[string]*anabranch/disk.file,string,*anabranch/disk.file]", by decide, Tryz.func111.trans (congrArg some (by kernel_rfl))⟩
  f10 := ⟨"maps.Keys[map[string]*anabranch/disk.file,string,*anabranch/disk.file]$1", by decide, Tryz.func183.trans (congrArg some (by kernel_rfl))⟩
  t0 := Tryz.underlying0
  a0 := Tryz.isAgg0
  z0 := Tryz.sizeOf0
  v0 := Tryz.zeroValue0
  t4 := Tryz.underlying4
  a4 := Tryz.isAgg4
  z4 := Tryz.sizeOf4
  v4 := Tryz.zeroValue4
  t23 := Tryz.underlying136
  a23 := Tryz.isAgg136
  z23 := Tryz.sizeOf136
  v23 := Tryz.zeroValue136
  t26 := Tryz.underlying9
  a26 := Tryz.isAgg9
  z26 := Tryz.sizeOf9
  v26 := Tryz.zeroValue9
  t27 := Tryz.underlying171
  a27 := Tryz.isAgg171
  z27 := Tryz.sizeOf171
  v27 := Tryz.zeroValue171
  t28 := Tryz.underlying172
  a28 := Tryz.isAgg172
  z28 := Tryz.sizeOf172
  v28 := Tryz.zeroValue172
  t33 := Tryz.underlying163
  a33 := Tryz.isAgg163
  z33 := Tryz.sizeOf163
  v33 := Tryz.zeroValue163 }


def Tryz.sorted110_ren : Go.Shelf.Ren := ⟨fun | 6 => 110 | 8 => 181 | 9 => 182 | 11 => 246 | 13 => 248 | 12 => 247 | 23 => 296 | 24 => 265 | 14 => 287 | 15 => 288 | 16 => 289 | 17 => 290 | 18 => 291 | 19 => 292 | 20 => 293 | 21 => 294 | 22 => 295 | 25 => 311 | 26 => 312 | 27 => 313 | 28 => 314 | 29 => 315 | 30 => 316 | 31 => 321 | n => n, fun | 26 => 9 | 28 => 172 | 24 => 74 | 0 => 0 | 3 => 3 | 37 => 160 | 48 => 158 | 50 => 22 | 4 => 4 | 40 => 341 | 39 => 340 | 45 => 175 | 5 => 5 | 9 => 9 | 51 => 360 | 55 => 363 | 57 => 376 | 58 => 115 | 33 => 163 | n => n, fun | n => n⟩
theorem Tryz.sorted110 : Go.Proofs.SlLaysZ.n6 Tryz.prog Tryz.sorted110_ren := {
  mixed := by kernel_rfl
  f6 := ⟨"slices.Sorted[string]", by decide, Tryz.func110.trans (congrArg some (by kernel_rfl))⟩
  f8 := ⟨"slices.Collect[string]", by decide, Tryz.func181.trans (congrArg some (by kernel_rfl))⟩
  f11 := ⟨"slices.AppendSeq[[]string,string]", by decide, Tryz.func246.trans (congrArg some (by kernel_rfl))⟩
  t0 := Tryz.underlying0
  a0 := Tryz.isAgg0
  z0 := Tryz.sizeOf0
  v0 := Tryz.zeroValue0
  t24 := Tryz.underlying74
  a24 := Tryz.isAgg74
  z24 := Tryz.sizeOf74
  v24 := Tryz.zeroValue74
  t26 := Tryz.underlying9
  a26 := Tryz.isAgg9
  z26 := Tryz.sizeOf9
  v26 := Tryz.zeroValue9
  t28 := Tryz.underlying172
  a28 := Tryz.isAgg172
  z28 := Tryz.sizeOf172
  v28 := Tryz.zeroValue172
  i26 := by kernel_rfl }


def Tryz.sort182_ren : Go.Shelf.Ren := ⟨fun | 6 => 182 | 8 => 248 | 9 => 247 | 19 => 296 | 20 => 265 | 21 => 287 | 22 => 288 | 23 => 289 | 24 => 290 | 25 => 291 | 26 => 292 | 27 => 293 | 28 => 294 | 29 => 295 | 36 => 311 | 31 => 312 | 32 => 313 | 37 => 314 | 38 => 315 | 39 => 316 | 41 => 321 | n => n, fun | 27 => 74 | 29 => 9 | 3 => 3 | 32 => 160 | 26 => 74 | 0 => 0 | 44 => 158 | 46 => 22 | 4 => 4 | 36 => 341 | 35 => 340 | 41 => 175 | 5 => 5 | 9 => 9 | 53 => 360 | 57 => 363 | 63 => 376 | 64 => 115 | n => n, fun | n => n⟩
theorem Tryz.sort182 : Go.Proofs.SlLaysM.n6 Tryz.prog Tryz.sort182_ren := {
  mixed := by kernel_rfl
  f6 := ⟨"slices.Sort[[]string,string]", by decide, Tryz.func182.trans (congrArg some (by kernel_rfl))⟩
  f8 := Tryz.func248.trans (congrArg some (by kernel_rfl))
  f9 := ⟨"slices.pdqsortOrdered[string]", by decide, Tryz.func247.trans (congrArg some (by kernel_rfl))⟩
  f19 := Tryz.func296.trans (congrArg some (by kernel_rfl))
  f20 := Tryz.func265.trans (congrArg some (by kernel_rfl))
  f21 := ⟨"slices.insertionSortOrdered[string]", by decide, Tryz.func287.trans (congrArg some (by kernel_rfl))⟩
  f22 := ⟨"slices.heapSortOrdered[string]", by decide, Tryz.func288.trans (congrArg some (by kernel_rfl))⟩
  f23 := ⟨"slices.breakPatternsOrdered[string]", by decide, Tryz.func289.trans (congrArg some (by kernel_rfl))⟩
  f24 := ⟨"slices.choosePivotOrdered[string]", by decide, Tryz.func290.trans (congrArg some (by kernel_rfl))⟩
  f25 := ⟨"slices.reverseRangeOrdered[string]", by decide, Tryz.func291.trans (congrArg some (by kernel_rfl))⟩
  f26 := ⟨"slices.partialInsertionSortOrdered[string]", by decide, Tryz.func292.trans (congrArg some (by kernel_rfl))⟩
  f27 := ⟨"cmp.Less[string]", by decide, Tryz.func293.trans (congrArg some (by kernel_rfl))⟩
  f28 := ⟨"slices.partitionEqualOrdered[string]", by decide, Tryz.func294.trans (congrArg some (by kernel_rfl))⟩
  f29 := ⟨"slices.partitionOrdered[string]", by decide, Tryz.func295.trans (congrArg some (by kernel_rfl))⟩
  f31 := Tryz.func312.trans (congrArg some (by kernel_rfl))
  f32 := Tryz.func313.trans (congrArg some (by kernel_rfl))
  f36 := ⟨"slices.siftDownOrdered[string]", by decide, Tryz.func311.trans (congrArg some (by kernel_rfl))⟩
  f37 := ⟨"slices.medianAdjacentOrdered[string]", by decide, Tryz.func314.trans (congrArg some (by kernel_rfl))⟩
  f38 := ⟨"slices.medianOrdered[string]", by decide, Tryz.func315.trans (congrArg some (by kernel_rfl))⟩
  f39 := ⟨"cmp.isNaN[string]", by decide, Tryz.func316.trans (congrArg some (by kernel_rfl))⟩
  f41 := ⟨"slices.order2Ordered[string]", by decide, Tryz.func321.trans (congrArg some (by kernel_rfl))⟩
  t0 := Tryz.underlying0
  a0 := Tryz.isAgg0
  z0 := Tryz.sizeOf0
  v0 := Tryz.zeroValue0
  t3 := Tryz.underlying3
  a3 := Tryz.isAgg3
  z3 := Tryz.sizeOf3
  v3 := Tryz.zeroValue3
  t4 := Tryz.underlying4
  a4 := Tryz.isAgg4
  z4 := Tryz.sizeOf4
  v4 := Tryz.zeroValue4
  t5 := Tryz.underlying5
  a5 := Tryz.isAgg5
  z5 := Tryz.sizeOf5
  v5 := Tryz.zeroValue5
  t9 := Tryz.underlying9
  a9 := Tryz.isAgg9
  z9 := Tryz.sizeOf9
  v9 := Tryz.zeroValue9
  t26 := Tryz.underlying74
  a26 := Tryz.isAgg74
  z26 := Tryz.sizeOf74
  v26 := Tryz.zeroValue74
  t27 := Tryz.underlying74
  a27 := Tryz.isAgg74
  z27 := Tryz.sizeOf74
  v27 := Tryz.zeroValue74
  t29 := Tryz.underlying9
  a29 := Tryz.isAgg9
  z29 := Tryz.sizeOf9
  v29 := Tryz.zeroValue9
  t32 := Tryz.underlying160
  a32 := Tryz.isAgg160
  z32 := Tryz.sizeOf160
  v32 := Tryz.zeroValue160
  t35 := Tryz.underlying340
  a35 := Tryz.isAgg340
  z35 := Tryz.sizeOf340
  v35 := Tryz.zeroValue340
  t36 := Tryz.underlying341
  a36 := Tryz.isAgg341
  z36 := Tryz.sizeOf341
  v36 := Tryz.zeroValue341
  t41 := Tryz.underlying175
  a41 := Tryz.isAgg175
  z41 := Tryz.sizeOf175
  v41 := Tryz.zeroValue175
  t44 := Tryz.underlying158
  a44 := Tryz.isAgg158
  z44 := Tryz.sizeOf158
  v44 := Tryz.zeroValue158
  t46 := Tryz.underlying22
  a46 := Tryz.isAgg22
  z46 := Tryz.sizeOf22
  v46 := Tryz.zeroValue22
  t53 := Tryz.underlying360
  a53 := Tryz.isAgg360
  z53 := Tryz.sizeOf360
  v53 := Tryz.zeroValue360
  t57 := Tryz.underlying363
  a57 := Tryz.isAgg363
  z57 := Tryz.sizeOf363
  v57 := Tryz.zeroValue363
  t63 := Tryz.underlying376
  a63 := Tryz.isAgg376
  z63 := Tryz.sizeOf376
  v63 := Tryz.zeroValue376
  t64 := Tryz.underlying115
  a64 := Tryz.isAgg115
  z64 := Tryz.sizeOf115
  v64 := Tryz.zeroValue115 }


/-- slices.Sort's two contracts at this dump, at the fence that asks nothing. -/
theorem Tryz.sorts110 (m : Nat) : AnyZ.SortsIn Tryz.prog Tryz.sorted110_ren Fence.wide m :=
  ⟨fun blk off cap ss W hH hblk hsz => callsIn_wide.2 (AnyM.slices_Sort_string Tryz.sort182 blk off cap ss W hH hblk hsz),
   fun p cap W => callsIn_wide.2 (AnyM.slices_Sort_string_none Tryz.sort182 p cap W)⟩

/-- **maps.Keys[map[string]*anabranch/disk.file,string,*anabranch/disk.file], at whatever map, the nil one too:** a function value over ONE NEW BLOCK, which holds the map. -/
theorem Tryz.maps_Keys_111 (mb : Option Nat) (W : World) : CallsIn Fence.wide 5 Tryz.prog 111 #[.map mb] W fun e w' => e = .returned (.func (.func 183) #[] #[.pointer (some ⟨W.heap.size, 0, none⟩)]) ∧ w' = W.alloc (.cells #[.map mb] 136) :=
  AnyZ.keys_in Tryz.keys111 Fence.wide 5 trivial rfl mb W

set_option maxHeartbeats 1000000 in
/-- **slices.Sorted[string] AT WHAT maps.Keys[map[string]*anabranch/disk.file,string,*anabranch/disk.file] HANDED BACK FOR A MAP THAT IS NOT nil** ('w': the world AHEAD of maps.Keys' call): A NEW SLICE THAT HOLDS THE MAP's KEYS, SORTED; nil just where it has none; nothing that lay before has turned. -/
theorem Tryz.slices_Sorted_keys_110_111 {H : Type} (b nn : Nat) (D0 : DataW H) (R : Value → Option (DataW H × List MemPlace)) (w : World) (hown : w.ownsMap Tryz.prog 9 R b nn D0) (hmax : Maps.size D0 ≤ maxLen) (hbytes : Maps.size D0 * 16 ≤ 140737488355328) :
    CallsIn Fence.wide 5 Tryz.prog 110 #[.func (.func 183) #[] #[.pointer (some ⟨w.heap.size, 0, none⟩)]] (w.alloc (.cells #[.map (some b)] 136)) fun e w' => ∃ (v : Value) (ss : List (List UInt8)), e = .returned v ∧ ss.Perm (strKeys D0) ∧
      w'.ownsRow (w.alloc (.cells #[.map (some b)] 136)).heap.size 9 1 v ss.length ((ss.mergeSort (fun x y => decide (x ≤ y))).map encStr) ∧ (v = .slice none 0 0 ↔ ss = []) ∧ Below (w.alloc (.cells #[.map (some b)] 136)).heap.size (w.alloc (.cells #[.map (some b)] 136)) w' := by
  have hbl := hown.lt
  have hseq : SeqGives Fence.wide 2 Tryz.prog 183 #[.pointer (some ⟨w.heap.size, 0, none⟩)] encStr (fun ss => ss.Perm (strKeys D0)) (Maps.size D0) (w.alloc (.cells #[.map (some b)] 136)) :=
    AnyZ.keys_gives (ρ := Tryz.keys111_ren) { Tryz.keys111 with } Fence.wide _ trivial rfl (by omega) w.heap.size b nn D0 _ (by simp) (by simp) (by
      obtain ⟨es, clock, hb, Ft, hs, hD⟩ := hown
      exact ⟨es, clock, (Below.heap_alloc _ _ b hbl).trans hb, Ft, hs, hD⟩)
  exact AnyZ.sorted_in Tryz.sorted110 Fence.wide 5 trivial trivial trivial trivial rfl (by omega) (Tryz.sorts110 _) (enters_of Tryz.func182 (by kernel_rfl) rfl) 183 #[.pointer (some ⟨w.heap.size, 0, none⟩)] trivial (enters_of Tryz.func183 (by kernel_rfl) rfl) _ _ hmax hbytes _ hseq

set_option maxHeartbeats 1000000 in
/-- **.. AND FOR THE nil MAP: nil.** -/
theorem Tryz.slices_Sorted_keys_nil_110_111 (w : World) :
    CallsIn Fence.wide 5 Tryz.prog 110 #[.func (.func 183) #[] #[.pointer (some ⟨w.heap.size, 0, none⟩)]] (w.alloc (.cells #[.map none] 136)) fun e w' => ∃ (v : Value) (ss : List (List UInt8)), e = .returned v ∧ ss = [] ∧
      w'.ownsRow (w.alloc (.cells #[.map none] 136)).heap.size 9 1 v ss.length ((ss.mergeSort (fun x y => decide (x ≤ y))).map encStr) ∧ (v = .slice none 0 0 ↔ ss = []) ∧ Below (w.alloc (.cells #[.map none] 136)).heap.size (w.alloc (.cells #[.map none] 136)) w' := by
  have hseq : SeqGives Fence.wide 2 Tryz.prog 183 #[.pointer (some ⟨w.heap.size, 0, none⟩)] encStr (fun ss : List (List UInt8) => ss = []) 0 (w.alloc (.cells #[.map none] 136)) :=
    AnyZ.keys_gives_nil (ρ := Tryz.keys111_ren) { Tryz.keys111 with } Fence.wide _ trivial rfl w.heap.size _ (by simp) (by simp)
  exact AnyZ.sorted_in Tryz.sorted110 Fence.wide 5 trivial trivial trivial trivial rfl (by omega) (Tryz.sorts110 _) (enters_of Tryz.func182 (by kernel_rfl) rfl) 183 #[.pointer (some ⟨w.heap.size, 0, none⟩)] trivial (enters_of Tryz.func183 (by kernel_rfl) rfl) _ 0 (Nat.zero_le _) (by omega) _ hseq

end Go.Proofs.YtdkbpcibmipelaaGreatDoor

/-
  Layer 4 (disk): Names: those that begin so, rising.
-/
namespace Go.Proofs.YtdkbpcibmipelaaGreatDoor
open Go.RowKit Go.Maps Go.Sort
set_option linter.unusedVariables false
set_option linter.unusedSimpArgs false

/-- Does a name begin so. -/
def hasP (p x : List UInt8) : Bool := decide (p.length ≤ x.length ∧ x.take p.length = p)
/-- The names of a disk that begin so, rising. -/
def Dk.names (d : Dk) (p : List UInt8) : List (List UInt8) := if d.off then [] else (rising (d.fs.map Prod.fst)).filter (hasP p)

set_option maxRecDepth 100000 in
theorem dkeys_call {R : Ending → World → Prop} {w : World} {mb : Nat} (hR : R (.returned (.func (.func 183) #[] #[.pointer (some ⟨w.heap.size, 0, none⟩)])) (w.alloc (.cells #[.map (some mb)] 136))) :
    Calls Tryz.prog 111 #[.map (some mb)] w R := by
  refine (callsIn_wide.1 (Tryz.maps_Keys_111 (some mb) w)).mono ?_
  rintro e w' ⟨rfl, rfl⟩
  exact hR
set_option maxRecDepth 100000 in
theorem dsorted_call {R : Ending → World → Prop} {W w : World} {g : Hl} {H : List HP} {mb : Nat} {l : List (List UInt8 × Value)} (hs : Sat W w g (mp str mb l :: H)) (hn : (l.map Prod.fst).Nodup) (hlen : l.length ≤ 1000000000) (hk : ∀ p ∈ l, p.1.length ≤ maxLen)
    (hR : ∀ a c w', Sat W w' g (own 9 1 (.slice a l.length c) l.length ((rising (l.map Prod.fst)).map str) :: mp str mb l :: H) → R (.returned (.slice a l.length c)) w') :
    Calls Tryz.prog 110 #[.func (.func 183) #[] #[.pointer (some ⟨w.heap.size, 0, none⟩)]] (w.alloc (.cells #[.map (some mb)] 136)) R := by
  obtain ⟨D, hown, hp, hsz⟩ := mp_owns (P := Tryz.prog) Tryz.underlying9 hs hn (by unfold maxLen; omega) hk
  refine (callsIn_wide.1 (Tryz.slices_Sorted_keys_110_111 mb l.length D _ w hown (by unfold maxLen; omega) (by omega))).mono ?_
  rintro e w' ⟨v, ss, rfl, hss, hrow, hnil, hb⟩
  have hpm := hss.trans hp
  have hsl : ss.length = l.length := by have := hpm.length_eq; simpa using this
  have hms : ss.mergeSort (fun x y => decide (x ≤ y)) = rising (l.map Prod.fst) := mergeSort_of_perm hpm
  rw [hms, hsl] at hrow
  have hs2 := (hs.garbage (.cells #[.map (some mb)] 136)).newOwn hrow hb
  obtain ⟨a, c, rfl, _⟩ := hs2.ownLen
  exact hR a c w' hs2

set_option maxHeartbeats 1600000 in
set_option maxRecDepth 100000 in
theorem names_says {bb : Nat} {p : List UInt8} (hpl : p.length ≤ 1000000000) : Says 112 [ptr bb] (blk bb [str p] 9) (fun x => !hasP p x) where
  body := ⟨_, _, Tryz.func112, rfl, rfl⟩
  says := fun {R W w g H x} hx hs hR => by
    have HR := Lib.hid hR
    clear hR
    refine C.calls (args := [str x, ptr bb]) Tryz.func112 rfl rfl rfl ?_
    refine go ?_
    refine E.callf Tryz.func113 rfl ?_
    refine hasPrefix_any hx hpl ?_
    refine go ?_
    refine A.r1 ?_
    exact HR.out

set_option maxHeartbeats 1600000 in
set_option maxRecDepth 100000 in
theorem names_gen {R : Ending → World → Prop} {W w : World} {g : Hl} {H : List HP} {b : Nat} {d : Dk} {p : List UInt8} (hpl : p.length ≤ 1000000000) (hnm : ∀ p ∈ d.fs, p.1.length ≤ 1000000) (hfl : d.fs.length ≤ 1000000000) (hs : Sat W w g (disk b d :: H))
    (hR : ∀ k a c w' g', k = (d.names p).length → Hl.le g g' → Pr 1 g' (.slice a k c) k ((d.names p).map str) → Sat W w' g' (disk b d :: H) → R (.returned (.slice a k c)) w') :
    Calls Tryz.prog 42 #[ptr b, str p] w R := by
  have HR := Lib.hid hR
  clear hR
  obtain ⟨mb, L, hL, hok, hs⟩ := disk_open hs
  have hLl : L.length = d.fs.length := by rw [← hL]; simp [Fs.plain]
  have hLk : L.map Prod.fst = d.fs.map Prod.fst := by rw [← hL]; simp [Fs.plain, Function.comp_def]
  refine C.calls (args := [ptr b, str p]) Tryz.func42 rfl rfl rfl ?_
  refine go ?_
  refine E.bx hs ?_
  intro b1 w1 hs
  replace hs : Sat W w1 g (blk b1 [str p] 9 :: dsk b mb d :: dmap mb L :: bsep (dfiles L) :: H) := hs
  refine go ?_
  refine E.callf Tryz.func87 rfl ?_
  refine on_dsk hs.swap ?_
  cases hoff : d.off with
  | true =>
    refine go ?_
    refine A.r1 ?_
    refine HR.out 0 none 0 _ g (by simp [Dk.names, hoff]) (Hl.le_refl _) ?_ (disk_close hL hok hs.drop)
    simp only [Dk.names, hoff, if_true, List.map_nil]
    exact Pr.nil
  | false =>
  have hd : d.names p = (rising (d.fs.map Prod.fst)).filter (hasP p) := by simp [Dk.names, hoff]
  rw [hd] at HR
  clear hd
  have hoff := Lib.hid hoff
  simp only [dsk] at hs
  refine go ?_
  refine E.callf Tryz.func111 rfl ?_
  refine dkeys_call ?_
  refine E.callf Tryz.func110 rfl ?_
  refine dsorted_call (l := L.map fun p => (p.1, ptr p.2.1)) hs.pull2 (by have := hok.keys; rw [← hLk] at this; simpa [Function.comp_def] using this) (by rw [List.length_map]; omega) (by
    intro p hp
    obtain ⟨q, hq, rfl⟩ := List.mem_map.1 hp
    have h1 := hnm (q.1, q.2.2) (by rw [← hL]; exact List.mem_map_of_mem hq)
    unfold maxLen
    simp only at h1 ⊢
    omega) ?_
  intro a2 c2 w2 hs
  have e1 : (L.map fun p => (p.1, ptr p.2.1)).length = d.fs.length := by rw [List.length_map]; exact hLl
  have e2 : (L.map fun p => (p.1, ptr p.2.1)).map Prod.fst = d.fs.map Prod.fst := by rw [← hLk]; simp [Function.comp_def]
  rw [e1, e2] at hs
  rw [e1]
  have hpm : (rising (d.fs.map Prod.fst)).Perm (d.fs.map Prod.fst) := List.mergeSort_perm _ _
  refine go ?_
  refine E.callf Tryz.func109 rfl ?_
  refine delete_gen (names_says (bb := b1) hpl) hs.pull2.swap (by rw [hpm.length_eq, List.length_map]) (by
    intro x hx
    have h1 := hpm.mem_iff.1 hx
    obtain ⟨q, hq, rfl⟩ := List.mem_map.1 h1
    have := hnm q hq
    omega) ?_
  intro k a3 c3 w3 g3 hk hg3 hp3 hs
  refine go ?_
  refine A.r1 ?_
  simp only [Bool.not_not] at hk hp3
  refine HR.out k a3 c3 _ g3 hk hg3 hp3 (disk_close hL hok hs.drop.swap)
end Go.Proofs.YtdkbpcibmipelaaGreatDoor

/-
  Layer 9 (feed), plain: how the names of a writer's segments stand.
-/
namespace Go.Proofs.YtdkbpcibmipelaaGreatDoor
open Go.RowKit Go.Maps Go.Sort
set_option linter.unusedVariables false
set_option linter.unusedSimpArgs false

theorem snoc_lt {x y : UInt8} : ∀ {a b : List UInt8}, a.length = b.length → (a ++ [x] < b ++ [y] ↔ a < b ∨ a = b ∧ x < y)
  | [], [], _ => by simp [List.cons_lt_cons_iff]
  | p :: a, q :: b, h => by
    have ih := snoc_lt (x := x) (y := y) (a := a) (b := b) (by simpa using h)
    simp only [List.cons_append, List.cons_lt_cons_iff, ih, List.cons.injEq]
    constructor
    · rintro (h | ⟨h1, h2 | ⟨h2, h3⟩⟩)
      · exact .inl (.inl h)
      · exact .inl (.inr ⟨h1, h2⟩)
      · exact .inr ⟨⟨h1, h2⟩, h3⟩
    · rintro ((h | ⟨h1, h2⟩) | ⟨⟨h1, h2⟩, h3⟩)
      · exact .inl h
      · exact .inr ⟨h1, .inl h2⟩
      · exact .inr ⟨h1, .inr ⟨h2, h3⟩⟩
  | [], _ :: _, h => by simp at h
  | _ :: _, [], h => by simp at h
/-- So many digits to base sixteen. -/
def padK : Nat → Nat → List UInt8
  | 0, _ => []
  | k + 1, n => padK k (n / 16) ++ [hexD (n % 16)]
theorem padK_len : ∀ (k n : Nat), (padK k n).length = k
  | 0, _ => rfl
  | k + 1, n => by simp [padK, padK_len k]
theorem padK_zero : ∀ k, padK k 0 = List.replicate k 48
  | 0 => rfl
  | k + 1 => by
    rw [padK, Nat.zero_div, padK_zero k, List.replicate_succ']
    rfl
theorem padK_hexN : ∀ (k n : Nat), 1 ≤ k → n < 16 ^ k → padK k n = List.replicate (k - (hexN n).length) 48 ++ hexN n
  | 0, _, h, _ => by omega
  | k + 1, n, _, h => by
    have hpow : 16 ^ (k + 1) = 16 * 16 ^ k := by rw [Nat.pow_succ, Nat.mul_comm]
    by_cases h1 : n < 16
    · rw [hexN_small h1, padK, Nat.div_eq_of_lt h1, Nat.mod_eq_of_lt h1, padK_zero]
      rfl
    · have hk : 1 ≤ k := by
        rcases Nat.eq_zero_or_pos k with rfl | hk
        · simp at h; omega
        · exact hk
      have h2 := hexN_step (n := n) (by omega)
      have h3 := padK_hexN k (n / 16) hk (by rw [hpow] at h; omega)
      rw [padK, h3, h2, List.append_assoc, List.length_append]
      simp only [List.length_cons, List.length_nil]
      rw [show k + 1 - ((hexN (n / 16)).length + (0 + 1)) = k - (hexN (n / 16)).length by omega]
theorem hexD_lt : ∀ a < 16, ∀ b < 16, (hexD a < hexD b ↔ a < b) := by decide
theorem padK_lt : ∀ (k m n : Nat), m < 16 ^ k → n < 16 ^ k → (padK k m < padK k n ↔ m < n)
  | 0, m, n, hm, hn => by
    simp only [Nat.pow_zero] at hm hn
    have h1 : ¬ m < n := by omega
    simp [padK, h1]
  | k + 1, m, n, hm, hn => by
    rw [Nat.pow_succ] at hm hn
    have ih := padK_lt k (m / 16) (n / 16) (by omega) (by omega)
    have ih2 := padK_lt k (n / 16) (m / 16) (by omega) (by omega)
    have hd := hexD_lt (m % 16) (Nat.mod_lt _ (by decide)) (n % 16) (Nat.mod_lt _ (by decide))
    simp only [padK]
    rw [snoc_lt (by rw [padK_len, padK_len]), ih, hd]
    constructor
    · rintro (h | ⟨h1, h2⟩)
      · omega
      · have h3 : ¬ m / 16 < n / 16 := by rw [← ih, h1]; exact List.lt_irrefl _
        have h4 : ¬ n / 16 < m / 16 := by rw [← ih2, h1]; exact List.lt_irrefl _
        omega
    · intro h
      by_cases h1 : m / 16 < n / 16
      · exact .inl h1
      · have h2 : m / 16 = n / 16 := by omega
        exact .inr ⟨by rw [h2], by omega⟩
theorem prefix_lt {a b : List UInt8} : ∀ (p : List UInt8), (p ++ a < p ++ b ↔ a < b)
  | [] => Iff.rfl
  | x :: p => by
    simp only [List.cons_append, List.cons_lt_cons_iff, prefix_lt p]
    constructor
    · rintro (h | ⟨_, h⟩)
      · exact absurd h (UInt8.lt_irrefl x)
      · exact h
    · exact fun h => .inr ⟨trivial, h⟩
theorem nameB_lt {w m n : Nat} (hm : m < 18446744073709551616) (hn : n < 18446744073709551616) : (nameB w m < nameB w n ↔ m < n) := by
  have h1 := padK_hexN 16 m (by decide) (by simpa using hm)
  have h2 := padK_hexN 16 n (by decide) (by simpa using hn)
  have h3 := padK_lt 16 m n (by simpa using hm) (by simpa using hn)
  unfold nameB padB
  rw [prefix_lt, ← h1, ← h2, h3]
theorem nameB_inj {w m n : Nat} (hm : m < 18446744073709551616) (hn : n < 18446744073709551616) (h : nameB w m = nameB w n) : m = n := by
  have h1 := nameB_lt (w := w) hm hn
  have h2 := nameB_lt (w := w) hn hm
  rw [h] at h1 h2
  have h3 : ¬ nameB w n < nameB w n := List.lt_irrefl _
  have h4 : ¬ m < n := fun e => h3 (h1.2 e)
  have h5 : ¬ n < m := fun e => h3 (h2.2 e)
  omega
theorem hasP_self (p x : List UInt8) : hasP p (p ++ x) = true := by simp [hasP]
theorem hasP_iff {p x : List UInt8} : hasP p x = true ↔ ∃ y, x = p ++ y := by
  simp only [hasP, decide_eq_true_eq]
  constructor
  · rintro ⟨h1, h2⟩
    exact ⟨x.drop p.length, by conv => lhs; rw [← List.take_append_drop p.length x, h2]⟩
  · rintro ⟨y, rfl⟩
    simp
/-- The names of a writer's segments, where these are all that begin so. -/
theorem names_firsts {d : Dk} {w : Nat} {fs : List Nat} (hoff : d.off = false) (hp : ((d.fs.map Prod.fst).filter (hasP (beginB w))).Perm (fs.map (nameB w))) (hs : fs.Pairwise (· < ·)) (hlt : ∀ f ∈ fs, f < 18446744073709551616) : d.names (beginB w) = fs.map (nameB w) := by
  have hsorted : (fs.map (nameB w)).Pairwise fun a b => decide (a ≤ b) = true := by
    rw [List.pairwise_map]
    refine hs.imp_of_mem fun {a b} ha hb hab => decide_eq_true (List.le_of_lt ?_)
    exact (nameB_lt (hlt a ha) (hlt b hb)).2 hab
  have hr : ((rising (d.fs.map Prod.fst)).filter (hasP (beginB w))).Pairwise fun a b => decide (a ≤ b) = true := by
    refine List.Pairwise.filter _ ?_
    exact List.pairwise_mergeSort (fun a b c h1 h2 => by simp only [decide_eq_true_eq] at h1 h2 ⊢; exact List.le_trans h1 h2) (fun a b => by
      rw [Bool.or_eq_true, decide_eq_true_eq, decide_eq_true_eq]; exact List.le_total a b) _
  have hpm : ((rising (d.fs.map Prod.fst)).filter (hasP (beginB w))).Perm (fs.map (nameB w)) := ((rising_perm _).filter _).trans hp
  unfold Dk.names
  rw [hoff, if_neg (by simp)]
  rw [← List.mergeSort_of_pairwise hr, ← List.mergeSort_of_pairwise hsorted]
  exact mergeSort_of_perm hpm
end Go.Proofs.YtdkbpcibmipelaaGreatDoor

/-
  Layer 9 (feed): what a feed is in memory; Next.
-/
namespace Go.Proofs.YtdkbpcibmipelaaGreatDoor
open Go.RowKit
set_option linter.unusedVariables false
set_option linter.unusedSimpArgs false

theorem ag_feed : AggOf Tryz.prog 167 7 := ⟨_, Tryz.underlying167, rfl, by kernel_rfl⟩
theorem el_sg : ElemOf Tryz.prog 165 29 (.agg #[.int .i64 0, .int .u64 0, .slice none 0 0, .int .i64 0]) 4 48 := .of Tryz.underlying165 (by kernel_rfl) rfl (by decide)
structure Fe where
  wr : Nat
  cap : Int
  floor : Nat
  time : Nat
  l : List Sg
  dirty : Bool
def sgC (l : List Sg) : List Value := l.flatMap Sg.cs
theorem sgC_len (l : List Sg) : (sgC l).length = l.length * 4 := by
  induction l with
  | nil => rfl
  | cons s r ih =>
    have : sgC (s :: r) = s.cs ++ sgC r := rfl
    rw [this, List.length_append, ih, List.length_cons]
    simp only [Sg.cs, List.length_cons, List.length_nil]; omega
theorem sgC_append (l m : List Sg) : sgC (l ++ m) = sgC l ++ sgC m := by simp [sgC]
theorem sgC_one (s : Sg) : sgC [s] = s.cs := by simp [sgC]
theorem sgC_at : ∀ {l : List Sg} {j : Nat} (h : j < l.length), ((sgC l).drop (j * 4)).take 4 = l[j].cs
  | s :: r, 0, h => rfl
  | s :: r, j + 1, h => by
    have e : (j + 1) * 4 = 4 + j * 4 := by omega
    have e2 : sgC (s :: r) = s.cs ++ sgC r := rfl
    rw [e, ← List.drop_drop, e2]
    exact sgC_at (l := r) (by simpa using h)
structure Fe.ok (f : Fe) (g : Hl) : Prop where
  wr : f.wr < 64
  floor : f.floor ≤ 9223372036854775807
  time : f.time < 18446744073709551616
  cap : -9223372036854775808 ≤ f.cap ∧ f.cap ≤ 9223372036854775807
  l : ∀ s ∈ f.l, s.x.ok g ∧ s.wr = f.wr ∧ s.first < 18446744073709551616
theorem Fe.ok.mono {f : Fe} {g g' : Hl} (h : f.ok g) (hg : Hl.le g g') : f.ok g' := ⟨h.wr, h.floor, h.time, h.cap, fun s hs => ⟨(h.l s hs).1.mono hg, (h.l s hs).2⟩⟩
def Fe.cs (f : Fe) (db : Nat) (a : Option Addr) (c : Nat) : List Value := [ptr db, .int .i64 f.wr, .int .i64 f.cap, .int .u64 f.floor, .int .u64 f.time, .slice a f.l.length c, .bool f.dirty]
/-- A feed, of a disk at db. -/
def feed (b db : Nat) (f : Fe) : HP := exs fun q : Option Addr × Nat => wit (fun g => f.ok g) (fun _ _ hg h => h.mono hg) (sep (blk b (f.cs db q.1 q.2) 167) (owno 29 4 (.slice q.1 f.l.length q.2) f.l.length (sgC f.l)))
theorem feed_open {W w : World} {g : Hl} {H : List HP} {b db : Nat} {f : Fe} (hs : Sat W w g (feed b db f :: H)) : ∃ a c, f.ok g ∧ Sat W w g (blk b (f.cs db a c) 167 :: owno 29 4 (.slice a f.l.length c) f.l.length (sgC f.l) :: H) := by
  obtain ⟨⟨a, c⟩, h⟩ := hs.unexs
  obtain ⟨h1, h2⟩ := h.unwit
  exact ⟨a, c, h1, h2.split⟩
theorem feed_close {W w : World} {g : Hl} {H : List HP} {b db c : Nat} {a : Option Addr} {f : Fe} (h1 : f.ok g) (hs : Sat W w g (blk b (f.cs db a c) 167 :: owno 29 4 (.slice a f.l.length c) f.l.length (sgC f.l) :: H)) : Sat W w g (feed b db f :: H) :=
  Sat.mkexs (a, c) (Sat.mkwit h1 hs.join)
/-- A feed whose row is opened too, at one of its segments. -/
structure At4 (a : Option Addr) (n c rb off p j : Nat) (cur : List Value) (l : List Sg) (s : Sg) : Prop where
  addr : a = some ⟨rb, off, none⟩
  fit : off + c * 4 ≤ cur.length
  row : (cur.drop off).take (n * 4) = sgC l
  nc : n ≤ c
  c63 : c ≤ 9223372036854775807
  pe : p = off + j * 4
  lt : j < n
  at4 : (cur.drop p).take 4 = s.cs
  c0 : cur[p]? = some (.int .i64 s.wr)
  c1 : cur[p + 1]? = some (.int .u64 s.first)
  c2 : cur[p + 2]? = some s.x.v
  c3 : cur[p + 3]? = some (.int .i64 s.size)
theorem row_open {W w : World} {g : Hl} {H : List HP} {n c j : Nat} {a : Option Addr} {l : List Sg} (hj : j < l.length) (hn : n = l.length) (hs : Sat W w g (owno 29 4 (.slice a n c) n (sgC l) :: H)) : ∃ rb off p cur, At4 a n c rb off p j cur l l[j] ∧ Sat W w g (blk rb cur 29 :: H) := by
  have ha : a ≠ none := by
    obtain ⟨_, _, _, e, h1, h2, h3⟩ := hs.olen
    simp only [Value.slice.injEq] at e
    obtain ⟨rfl, -, rfl⟩ := e
    intro h
    have := h3 h
    omega
  obtain ⟨rb, off, cur, h1, h2, h3, h4, h5, hs⟩ := hs.oopen ha
  have h6 : (cur.drop (off + j * 4)).take 4 = l[j].cs := by
    have := sgC_at hj
    rw [← h3, List.drop_take, List.drop_drop, List.take_take, Nat.min_eq_left (by omega)] at this
    exact this
  have hc : ∀ q < 4, cur[off + j * 4 + q]? = (l[j].cs)[q]? := by
    intro q hq
    rw [← h6, List.getElem?_take, if_pos hq, List.getElem?_drop]
  exact ⟨rb, off, off + j * 4, cur, ⟨h1, h2, h3, h4, h5, rfl, by omega, h6, hc 0 (by decide), hc 1 (by decide), hc 2 (by decide), hc 3 (by decide)⟩, hs⟩
theorem row_close {W w : World} {g : Hl} {H : List HP} {n c j rb off p : Nat} {a : Option Addr} {cur : List Value} {l : List Sg} {s : Sg} (h : At4 a n c rb off p j cur l s) (hs : Sat W w g (blk rb cur 29 :: H)) : Sat W w g (owno 29 4 (.slice a n c) n (sgC l) :: H) := by
  rw [h.addr]
  exact hs.oclose h.fit h.row h.nc h.c63
theorem At4.ix {a : Option Addr} {n c rb off p j : Nat} {cur : List Value} {l : List Sg} {s : Sg} (h : At4 a n c rb off p j cur l s) {kd : IntKind} {i : Int} (hi : i = (j : Int)) (w : World) : (Instr.indexAt 165 (.slice a n c) (.int kd i)).run Tryz.prog w = .ok (.pointer (some ⟨rb, p, none⟩)) w := by
  rw [h.addr, h.pe]
  exact run_index_at el_sg hi h.lt w

/-- The number behind the last event. -/
def Fe.next (f : Fe) : Nat := match f.l.getLast? with
  | none => f.floor + 1
  | some s => max (f.floor + 1) s.next
/-- None of its segments is too great for a count. -/
def Fe.small (f : Fe) : Prop := ∀ s ∈ f.l, s.size ≤ 4000000000000000000 ∧ s.x.es.length ≤ 1000000000

theorem Fe.next_nil {f : Fe} (h : f.l.length = 0) : f.next = f.floor + 1 := by
  have : f.l = [] := List.eq_nil_of_length_eq_zero h
  simp [Fe.next, this]
theorem Fe.next_last {f : Fe} (h : f.l.length - 1 < f.l.length) : f.next = max (f.floor + 1) (f.l[f.l.length - 1]).next := by
  have : f.l.getLast? = some f.l[f.l.length - 1] := by rw [List.getLast?_eq_getElem?, List.getElem?_eq_getElem h]
  simp [Fe.next, this]

set_option maxHeartbeats 1600000 in
set_option maxRecDepth 100000 in
theorem fnext_raw {R : Ending → World → Prop} {W w : World} {g : Hl} {H : List HP} {b db c : Nat} {a : Option Addr} {f : Fe} (hsm : f.small) (hok : f.ok g) (hs : Sat W w g (blk b (f.cs db a c) 167 :: owno 29 4 (.slice a f.l.length c) f.l.length (sgC f.l) :: H))
    (hR : ∀ w', Sat W w' g (blk b (f.cs db a c) 167 :: owno 29 4 (.slice a f.l.length c) f.l.length (sgC f.l) :: H) → R (.returned (.int .u64 f.next)) w') : Calls Tryz.prog 40 #[ptr b] w R := by
  have HR := Lib.hid hR
  clear hR
  have hfl := hok.floor
  simp only [Fe.cs] at hs
  refine C.calls (args := [ptr b]) Tryz.func40 rfl rfl rfl ?_
  refine go ?_
  by_cases h0 : f.l.length = 0
  · rw [decide_eq_true (show (f.l.length : Int) = 0 by omega)]
    refine go ?_
    refine A.r1 ?_
    have key := HR.out w hs
    rw [Fe.next_nil h0] at key
    exact key
  · rw [decide_eq_false (show ¬ (f.l.length : Int) = 0 by omega)]
    refine go ?_
    have hj : f.l.length - 1 < f.l.length := by omega
    obtain ⟨rb, off, p, cur, h4, hs⟩ := row_open hj rfl hs.swap
    have hgd := hok.l _ (List.getElem_mem hj)
    have hss := hsm _ (List.getElem_mem hj)
    have hnx := Fe.next_last hj
    generalize hsg : f.l[f.l.length - 1] = s at h4 hgd hss hnx
    have hn63 : f.l.length ≤ 9223372036854775807 := by have := h4.nc; have := h4.c63; omega
    refine C.held2 b rb hs ?_
    intro w1 hk hs
    refine goh ?_
    refine EH.tp 15 hk ?_ (hy := Pf.pv (Pv.indexAddr rfl rfl (h4.ix (i := (f.l.length : Int) - 1) (by omega))))
    refine EH.tp 16 hk ?_ (hy := Pf.loadp rfl (.there .here) ag_sg h4.at4 rfl)
    refine goh ?_
    refine EH.one (St.callf Tryz.func26 rfl ?_)
    refine sgNext_any (s := s) hgd.2.2 (by omega) hs ?_
    intro w2 hs
    refine kept2 hs (fun hk => ?_) (Hl.le_refl _)
    refine goh ?_
    refine EH.done ?_
    refine go ?_
    refine A.r1 ?_
    have key := HR.out w2 (row_close h4 hs).swap
    rw [hnx] at key
    have e : Max.max (((f.floor + 1 : Nat)) : Int) ((s.next : Nat) : Int) = ((max (f.floor + 1) s.next : Nat) : Int) := by omega
    rw [← e] at key
    exact key
theorem fnext_any {R : Ending → World → Prop} {W w : World} {g : Hl} {H : List HP} {b db : Nat} {f : Fe} (hsm : f.small) (hs : Sat W w g (feed b db f :: H))
    (hR : ∀ w', Sat W w' g (feed b db f :: H) → R (.returned (.int .u64 f.next)) w') : Calls Tryz.prog 40 #[ptr b] w R := by
  obtain ⟨a, c, hok, hs⟩ := feed_open hs
  exact fnext_raw hsm hok hs fun w' hs => hR w' (feed_close hok hs)
end Go.Proofs.YtdkbpcibmipelaaGreatDoor

/-
  Layer 9 (feed): All.
-/
namespace Go.Proofs.YtdkbpcibmipelaaGreatDoor
open Go.RowKit
set_option linter.unusedVariables false
set_option linter.unusedSimpArgs false

/-- A feed's events behind its floor. -/
def liveE (floor : Nat) (l : List Sg) : List Ev := (l.flatMap fun s => s.x.es).filter fun e => decide (floor < e.sq)
def Fe.all (f : Fe) : List Ev := liveE f.floor f.l
theorem liveE_snoc (floor : Nat) (l : List Sg) (s : Sg) : liveE floor (l ++ [s]) = liveE floor l ++ s.x.es.filter (fun e => decide (floor < e.sq)) := by simp [liveE]
/-- How many events a feed has in memory. -/
def Fe.count (f : Fe) : Nat := (f.l.flatMap fun s => s.x.es).length
theorem flat_take_len {α β : Type} (h : α → List β) : ∀ (l : List α) (k : Nat), ((l.take k).flatMap h).length ≤ (l.flatMap h).length
  | [], _ => by simp
  | _ :: _, 0 => by simp
  | x :: r, k + 1 => by
    have := flat_take_len h r k
    simp only [List.take_succ_cons, List.flatMap_cons, List.length_append]
    omega
theorem liveE_len (floor : Nat) (l : List Sg) : (liveE floor l).length ≤ (l.flatMap fun s => s.x.es).length := List.length_filter_le _ _

set_option maxHeartbeats 6400000 in
set_option maxRecDepth 100000 in
theorem fall_any {R : Ending → World → Prop} {W w : World} {g : Hl} {H : List HP} {b db : Nat} {f : Fe} (hc : f.count ≤ 1000000000) (hs : Sat W w g (feed b db f :: H))
    (hR : ∀ (x : El) w' g', Hl.le g g' → x.ok g' → x.es = f.all → Sat W w' g' (feed b db f :: H) → R (.returned x.v) w') : Calls Tryz.prog 48 #[ptr b] w R := by
  have HR := Lib.hid hR
  clear hR
  have ag1 := ag_sg
  have ag2 := ag_ev
  obtain ⟨a, c, hok, hs⟩ := feed_open hs
  obtain ⟨_, _, _, e0, hnc, hcm, _⟩ := hs.swap.olen
  simp only [Value.slice.injEq] at e0
  obtain ⟨-, -, rfl⟩ := e0
  refine C.calls (args := [ptr b]) Tryz.func48 rfl rfl rfl ?_
  refine gob ?_
  refine C.cut (fun q : Option Addr × Nat => [(3, .slice q.1 f.all.length q.2)]) (fun q w => ∃ g', Hl.le g g' ∧ (∀ e ∈ f.all, e.ok g' ∧ e.low) ∧ Sat W w g' (own 46 8 (.slice q.1 f.all.length q.2) f.all.length (evC f.all) :: blk b (f.cs db a c) 167 :: owno 29 4 (.slice a f.l.length c) f.l.length (sgC f.l) :: H)) ?_ ?_
  · refine C.block ?_
    refine C.lp (fun q : Nat × Option Addr × Nat => [(0, ptr b), (3, .slice q.2.1 (liveE f.floor (f.l.take q.1)).length q.2.2), (14, .slice a f.l.length c), (15, .int .i64 f.l.length), (16, .int .i64 q.1)])
      (fun gk q w => gk = f.l.length - q.1 ∧ q.1 ≤ f.l.length ∧ ∃ g', Hl.le g g' ∧ (∀ e ∈ liveE f.floor (f.l.take q.1), e.ok g' ∧ e.low) ∧ Sat W w g' (own 46 8 (.slice q.2.1 (liveE f.floor (f.l.take q.1)).length q.2.2) (liveE f.floor (f.l.take q.1)).length (evC (liveE f.floor (f.l.take q.1))) :: blk b (f.cs db a c) 167 :: owno 29 4 (.slice a f.l.length c) f.l.length (sgC f.l) :: H)) f.l.length (0, none, 0) ⟨rfl, Nat.zero_le _, g, Hl.le_refl _, (fun e he => by simp [liveE] at he), hs.nilOwn⟩ ?_
    clear hs
    rintro gk ⟨i, a1, c1⟩ w1 ⟨rfl, hi, g1, hg1, hO, hs⟩
    simp only at hi hO hs ⊢
    refine go ?_
    refine C.cond_dec (p := (i : Int) < f.l.length) rfl (fun h => ?_) (fun h => ?_)
    rotate_left
    · obtain rfl : i = f.l.length := by omega
      have e : liveE f.floor (f.l.take f.l.length) = f.all := by rw [List.take_length]; rfl
      rw [e] at hs hO ⊢
      refine go ?_
      exact A.mt (a1, c1) ⟨g1, hg1, hO, hs⟩
    have hil : i < f.l.length := by omega
    obtain ⟨rb, off, p, cur, h4, hs⟩ := row_open hil rfl hs.pull2
    have hgd := hok.l _ (List.getElem_mem hil)
    have hsucc : f.l.take (i + 1) = f.l.take i ++ [f.l[i]] := by
      rw [List.take_add_one, List.getElem?_eq_getElem hil]; rfl
    have hlen := flat_take_len (fun s : Sg => s.x.es) f.l (i + 1)
    rw [hsucc, List.flatMap_append] at hlen
    simp only [List.flatMap_cons, List.flatMap_nil, List.append_nil, List.length_append] at hlen
    have hlv := liveE_len f.floor (f.l.take i)
    have hcc : (f.l.flatMap fun s => s.x.es).length ≤ 1000000000 := hc
    generalize hsg : f.l[i] = s at h4 hgd hsucc hlen
    refine go ?_
    refine E.pv (Pv.indexAddr rfl rfl (h4.ix (i := (i : Int)) rfl)) ?_
    refine E.ldp hs ?_ (hv := h4.at4) (vs := s.cs)
    refine go ?_
    refine E.al hs ?_
    intro b5 w2 hs
    refine E.sto (vs := s.cs) (ys := s.cs) hs ?_ (hv := rfl) (hsp := rfl)
    intro w3 hs
    refine gob ?_
    refine C.cutQ (fun q : Option Addr × Nat => [(0, ptr b), (3, .slice q.1 (liveE f.floor (f.l.take (i + 1))).length q.2), (14, .slice a f.l.length c), (15, .int .i64 f.l.length), (16, .int .i64 i)]) (fun q w => ∃ g', Hl.le g g' ∧ (∀ e ∈ liveE f.floor (f.l.take (i + 1)), e.ok g' ∧ e.low) ∧ Sat W w g' (own 46 8 (.slice q.1 (liveE f.floor (f.l.take (i + 1))).length q.2) (liveE f.floor (f.l.take (i + 1))).length (evC (liveE f.floor (f.l.take (i + 1)))) :: blk b (f.cs db a c) 167 :: blk rb cur 29 :: H)) ?_ ?_
    · refine C.block ?_
      refine C.lp (fun q : Nat × List Ev × Option Addr × Nat => [(0, ptr b), (3, .slice q.2.2.1 q.2.1.length q.2.2.2), (14, .slice a f.l.length c), (15, .int .i64 f.l.length), (16, .int .i64 i), (21, s.x.v), (22, .int .i64 s.x.es.length), (23, .int .i64 q.1)])
        (fun gk q w => gk = s.x.es.length - q.1 ∧ q.1 ≤ s.x.es.length ∧ q.2.1 = liveE f.floor (f.l.take i) ++ (s.x.es.take q.1).filter (fun e => decide (f.floor < e.sq)) ∧ (∀ e ∈ q.2.1, e.ok g1 ∧ e.low) ∧ Sat W w g1 (own 46 8 (.slice q.2.2.1 q.2.1.length q.2.2.2) q.2.1.length (evC q.2.1) :: blk b (f.cs db a c) 167 :: blk rb cur 29 :: H)) s.x.es.length (0, liveE f.floor (f.l.take i), a1, c1) ⟨rfl, Nat.zero_le _, by simp, hO, hs.drop.swap.pull2.swap⟩ ?_
      clear hs hO
      rintro gk ⟨j, O, a2, c2⟩ w4 ⟨rfl, hj, hOe, hO, hs⟩
      simp only at hj hOe hO hs ⊢
      have hxv : s.x.v = .slice s.x.a s.x.es.length s.x.c := rfl
      refine go ?_
      refine C.cond_dec (p := (j : Int) < s.x.es.length) rfl (fun h => ?_) (fun h => ?_)
      rotate_left
      · obtain rfl : j = s.x.es.length := by omega
        refine go ?_
        have e : O = liveE f.floor (f.l.take (i + 1)) := by rw [hOe, List.take_length, hsucc, liveE_snoc]
        subst e
        exact A.mt (a2, c2) ⟨g1, hg1, hO, hs⟩
      have hjl : j < s.x.es.length := by omega
      have hxo := hgd.1.mono hg1
      obtain ⟨hev, helow⟩ := hxo.evs _ (List.getElem_mem hjl)
      have hOl : O.length ≤ 1000000000 := by
        rw [hOe, List.length_append]
        have := List.length_filter_le (fun e : Ev => decide (f.floor < e.sq)) (s.x.es.take j)
        rw [List.length_take] at this
        omega
      refine go ?_
      refine E.ixs el_ev hs hxo.row j ?_
      intro b6 o6 hrg
      rw [evC_at hjl] at hrg
      have hsj : s.x.es.take (j + 1) = s.x.es.take j ++ [s.x.es[j]] := by
        rw [List.take_add_one, List.getElem?_eq_getElem hjl]; rfl
      generalize s.x.es[j] = e at hev helow hrg hsj
      refine E.ldr hrg ag_ev rfl ?_
      refine go ?_
      refine E.al hs ?_
      intro b7 w5 hs
      refine E.sto (vs := e.cs) (ys := e.cs) hs ?_ (hv := rfl) (hsp := spl_all (by rfl)) (h1 := Ev.cs_one hev)
      intro w6 hs
      refine go ?_
      refine C.held2 b7 b hs ?_
      intro w7 hk hs
      refine goh ?_
      refine EH.done ?_
      refine go ?_
      refine C.cond_dec (p := (f.floor : Int) < e.sq) rfl (fun h => ?_) (fun h => ?_)
      · have hd : decide (f.floor < e.sq) = true := decide_eq_true (by omega)
        refine go ?_
        refine E.bsle el_ev hs (cs := e.cs) rfl ?_
        intro b10 w9 hs
        refine E.app el_ev hs.pull2 (hs.rowOf (size := 8) 1 rfl (by decide)) ?_ (h1 := fun u hu => List.all_eq_true.1 (Ev.cs_one hev) u hu)
        intro a11 c11 w11 _ _ hs
        have e3 : O.length + 1 = (O ++ [e]).length := by simp
        have e4 : evC O ++ e.cs = evC (O ++ [e]) := by rw [evC_append]; simp [evC]
        rw [e3, e4] at hs
        rw [e3]
        refine go ?_
        refine A.rd (s.x.es.length - (j + 1)) (j + 1, O ++ [e], a11, c11) ⟨rfl, by simp only; omega, ?_, ?_, ?_⟩
        · rw [hsj, List.filter_append, ← List.append_assoc, ← hOe]
          simp [hd]
        · intro e' he'
          rcases List.mem_append.1 he' with h' | h'
          · exact hO e' h'
          · rw [List.mem_singleton.1 h']
            exact ⟨hev, helow⟩
        · exact hs.swap.drop.swap.drop
      · have hd : decide (f.floor < e.sq) = false := decide_eq_false (by omega)
        refine go ?_
        refine A.rd (s.x.es.length - (j + 1)) (j + 1, O, a2, c2) ⟨rfl, by simp only; omega, ?_, hO, hs.drop⟩
        simp only
        rw [hsj, List.filter_append, ← List.append_assoc, ← hOe]
        simp [hd]
    clear hs hO
    rintro ⟨a2, c2⟩ w20 ⟨g2, hg2, hO, hs⟩
    simp only at hs ⊢
    refine go ?_
    subst hsg
    refine A.rd (f.l.length - (i + 1)) (i + 1, a2, c2) ⟨rfl, by simp only; omega, g2, hg2, hO, (row_close h4 hs.pull2).push2⟩
  clear hs
  rintro ⟨a2, c2⟩ w20 ⟨g2, hg2, hO, hs⟩
  simp only at hs ⊢
  refine go ?_
  refine A.r1 ?_
  obtain ⟨g3, hg3, hpr, hs⟩ := hs.publishOwn
  exact HR.out ⟨a2, c2, f.all⟩ w20 g3 (hg2.trans hg3) ⟨hpr, fun e he => ⟨(hO e he).1.mono hg3, (hO e he).2⟩⟩ rfl (feed_close (hok.mono (hg2.trans hg3)) hs)
end Go.Proofs.YtdkbpcibmipelaaGreatDoor

/-
  Layer 9 (feed): Sealed, Time; Sync, a new segment.
-/
namespace Go.Proofs.YtdkbpcibmipelaaGreatDoor
open Go.RowKit
set_option linter.unusedVariables false
set_option linter.unusedSimpArgs false

def Fe.sealed (f : Fe) : Bool := match f.all.getLast? with
  | some e => decide (e.kd = 6)
  | none => false
def Fe.tm (f : Fe) : Nat := match f.all.getLast? with
  | some e => e.tm
  | none => f.time

set_option maxHeartbeats 1600000 in
set_option maxRecDepth 100000 in
theorem fsealed_any {R : Ending → World → Prop} {W w : World} {g : Hl} {H : List HP} {b db : Nat} {f : Fe} (hc : f.count ≤ 1000000000) (hs : Sat W w g (feed b db f :: H))
    (hR : ∀ w' g', Hl.le g g' → Sat W w' g' (feed b db f :: H) → R (.returned (.bool f.sealed)) w') : Calls Tryz.prog 49 #[ptr b] w R := by
  have HR := Lib.hid hR
  clear hR
  refine C.calls (args := [ptr b]) Tryz.func49 rfl rfl rfl ?_
  refine go ?_
  refine E.callf Tryz.func48 rfl ?_
  refine fall_any hc hs ?_
  intro x w1 g1 hg1 hx hxe hs
  have hxv : x.v = .slice x.a x.es.length x.c := rfl
  have hcl := liveE_len f.floor f.l
  have hxl : x.es.length ≤ 1000000000 := by
    rw [hxe]
    exact Nat.le_trans hcl hc
  by_cases h0 : x.es.length = 0
  · have key := HR.out w1 g1 hg1 hs
    have he : f.all = [] := by rw [← hxe]; exact List.eq_nil_of_length_eq_zero h0
    simp only [Fe.sealed, he, List.getLast?_nil] at key
    clear he hxe
    refine go ?_
    refine A.r1 ?_
    exact key
  · have hj : x.es.length - 1 < x.es.length := by omega
    have hrow := hx.row
    have Hxe := Lib.hid hxe
    clear hxe
    refine go ?_
    rw [decide_eq_true (show (0 : Int) < x.es.length by omega)]
    refine go ?_
    refine E.ixs el_ev hs hrow (x.es.length - 1) ?_
    intro b2 o2 hrg
    rw [evC_at hj] at hrg
    have key := HR.out w1 g1 hg1 hs
    have he : f.all.getLast? = some x.es[x.es.length - 1] := by rw [← Hxe.out, List.getLast?_eq_getElem?, List.getElem?_eq_getElem hj]
    simp only [Fe.sealed, he] at key
    clear he
    generalize x.es[x.es.length - 1] = e at hrg key
    have h3 : w1.cell? ⟨b2, o2 + 3, none⟩ = some (.int .u8 e.kd) := hrg 3 _ rfl
    refine go ?_
    have e6 : decide ((e.kd : Int) = 6) = decide (e.kd = 6) := by
      apply decide_eq_decide.2; omega
    rw [e6]
    refine A.r1 ?_
    exact key
set_option maxHeartbeats 1600000 in
set_option maxRecDepth 100000 in
theorem ftime_any {R : Ending → World → Prop} {W w : World} {g : Hl} {H : List HP} {b db : Nat} {f : Fe} (hc : f.count ≤ 1000000000) (hs : Sat W w g (feed b db f :: H))
    (hR : ∀ w' g', Hl.le g g' → Sat W w' g' (feed b db f :: H) → R (.returned (.int .u64 f.tm)) w') : Calls Tryz.prog 47 #[ptr b] w R := by
  have HR := Lib.hid hR
  clear hR
  refine C.calls (args := [ptr b]) Tryz.func47 rfl rfl rfl ?_
  refine go ?_
  refine E.callf Tryz.func48 rfl ?_
  refine fall_any hc hs ?_
  intro x w1 g1 hg1 hx hxe hs
  have hxv : x.v = .slice x.a x.es.length x.c := rfl
  have hcl := liveE_len f.floor f.l
  have hxl : x.es.length ≤ 1000000000 := by
    rw [hxe]
    exact Nat.le_trans hcl hc
  by_cases h0 : x.es.length = 0
  · have he : f.all = [] := by rw [← hxe]; exact List.eq_nil_of_length_eq_zero h0
    have key := HR.out w1 g1 hg1
    obtain ⟨a, c, hok, hs⟩ := feed_open hs
    simp only [Fe.tm, he, List.getLast?_nil] at key
    clear he hxe
    refine go ?_
    refine A.r1 ?_
    exact key (feed_close hok hs)
  · have hj : x.es.length - 1 < x.es.length := by omega
    have hrow := hx.row
    have Hxe := Lib.hid hxe
    clear hxe
    refine go ?_
    rw [decide_eq_true (show (0 : Int) < x.es.length by omega)]
    refine go ?_
    refine E.ixs el_ev hs hrow (x.es.length - 1) ?_
    intro b2 o2 hrg
    rw [evC_at hj] at hrg
    have key := HR.out w1 g1 hg1 hs
    have he : f.all.getLast? = some x.es[x.es.length - 1] := by rw [← Hxe.out, List.getLast?_eq_getElem?, List.getElem?_eq_getElem hj]
    simp only [Fe.tm, he] at key
    clear he
    generalize x.es[x.es.length - 1] = e at hrg key
    have h3 : w1.cell? ⟨b2, o2 + 2, none⟩ = some (.int .u64 e.tm) := hrg 2 _ rfl
    refine go ?_
    refine A.r1 ?_
    exact key

/-- How 'Sync' goes. -/
def Fe.sync (f : Fe) (d : Dk) : Int × Fe × Dk :=
  if f.dirty then match f.l.getLast? with
    | some s => ((d.sync (nameB s.wr s.first)).1, if (d.sync (nameB s.wr s.first)).1 = 0 then { f with dirty := false } else f, (d.sync (nameB s.wr s.first)).2)
    | none => (0, f, d)
  else (0, f, d)

set_option maxHeartbeats 3200000 in
set_option maxRecDepth 100000 in
theorem fsync_any {R : Ending → World → Prop} {W w : World} {g : Hl} {H : List HP} {b db : Nat} {f : Fe} {d : Dk} (hg : Gl g) (hd : f.dirty = true → f.l ≠ []) (hs : Sat W w g (feed b db f :: disk db d :: H))
    (hR : ∀ w', Sat W w' g (feed b db (f.sync d).2.1 :: disk db (f.sync d).2.2 :: H) → R (.returned (.int .i64 (f.sync d).1)) w') : Calls Tryz.prog 37 #[ptr b] w R := by
  have HR := Lib.hid hR
  clear hR
  have ag1 := ag_sg
  obtain ⟨a, c, hok, hs⟩ := feed_open hs
  refine C.calls (args := [ptr b]) Tryz.func37 rfl rfl rfl ?_
  refine go ?_
  cases hdt : f.dirty with
  | false =>
    refine go ?_
    refine A.r1 ?_
    have key := HR.out w
    simp only [Fe.sync, hdt, Bool.false_eq_true, if_false] at key
    exact key (feed_close hok hs)
  | true =>
    have hl0 : 0 < f.l.length := List.length_pos_iff.2 (hd hdt)
    have hj : f.l.length - 1 < f.l.length := by omega
    obtain ⟨rb, off, p, cur, h4, hs⟩ := row_open hj rfl hs.swap
    have hgd := hok.l _ (List.getElem_mem hj)
    have hn63 : f.l.length ≤ 9223372036854775807 := by have := h4.nc; have := h4.c63; omega
    have hla : f.l.getLast? = some f.l[f.l.length - 1] := by rw [List.getLast?_eq_getElem?, List.getElem?_eq_getElem hj]
    generalize hsg : f.l[f.l.length - 1] = s at h4 hgd hla
    have key := HR.out
    simp only [Fe.sync, hdt, if_true, hla] at key
    refine go ?_
    refine C.held2 b rb hs ?_
    intro w1 hk hs
    refine goh ?_
    refine EH.tp 10 hk ?_ (hy := Pf.pv (Pv.indexAddr rfl rfl (h4.ix (i := (f.l.length : Int) - 1) (by omega))))
    refine EH.tp 11 hk ?_ (hy := Pf.loadp rfl (.there .here) ag_sg h4.at4 rfl)
    refine EH.al hs ?_
    intro b3 w2 hs
    refine kept2 hs (fun hk => ?_)
    refine goh ?_
    refine EH.sto (vs := s.cs) (ys := s.cs) hs ?_ (hv := rfl) (hsp := rfl)
    intro w3 hs
    refine kept2 hs (fun hk => ?_)
    refine goh ?_
    refine EH.done ?_
    refine go ?_
    refine C.held2 b3 b hs ?_
    intro w4 hk hs
    refine goh ?_
    refine EH.one (St.callf Tryz.func18 rfl ?_)
    refine segName_any (i := s.wr) (n := s.first) hg (by have := hok.wr; omega) hgd.2.2 hs ?_
    intro w5 hs
    refine kept2 hs (fun hk => ?_) (Hl.le_refl _)
    refine goh ?_
    refine EH.one (St.callf Tryz.func108 rfl ?_)
    refine sync_any hs.pull3 ?_
    intro w6 hs
    refine kept2 hs (fun hk => ?_) (Hl.le_refl _)
    refine goh ?_
    refine EH.done ?_
    refine go ?_
    by_cases hz : (d.sync (nameB s.wr s.first)).1 = 0
    · have hdd : (!decide ((d.sync (nameB s.wr s.first)).1 = 0)) = false := by simp [hz]
      refine C.cond rfl (fun h => by rw [hdd] at h; cases h) (fun _ => ?_)
      clear hdd
      refine go ?_
      refine E.sto (vs := [.bool false]) (ys := ({ f with dirty := false } : Fe).cs db a c) hs ?_ (hv := rfl) (hsp := rfl)
      intro w7 hs
      refine go ?_
      refine A.r1 ?_
      rw [if_pos hz, hz] at key
      have hs2 := row_close h4 (hs.swap.drop.push2)
      refine key w7 (feed_close (f := { f with dirty := false }) ⟨hok.wr, hok.floor, hok.time, hok.cap, hok.l⟩ hs2.swap)
    · have hdd : (!decide ((d.sync (nameB s.wr s.first)).1 = 0)) = true := by simp [hz]
      refine C.cond rfl (fun _ => ?_) (fun h => by rw [hdd] at h; cases h)
      clear hdd
      refine go ?_
      refine A.r1 ?_
      rw [if_neg hz] at key
      have hs2 := row_close h4 (hs.swap.drop.push2)
      exact key w6 (feed_close hok hs2.swap)
end Go.Proofs.YtdkbpcibmipelaaGreatDoor

/-
  append onto a row of one's own that begins behind the first place of its array, in a drawn region.
-/
namespace Go.Proofs.YtdkbpcibmipelaaGreatDoor
open Go.RowKit
set_option linter.unusedVariables false
set_option linter.unusedSimpArgs false
section
variable {P : Program} {n : Fm} {ρ : List (Nat × Value)} {W w w' : World} {g g' : Hl} {H H' : List HP} {Q : Exit → Act → World → Prop} {l : List Oper} {S : World → Prop} {fuel m i : Nat} {d : Option Tmp} {ty : TypeId} {ps : String} {af : Array Edge} {v u : Value} {x y : Operand} {t e : TypeId} {z : Value} {size bytes : Nat}
theorem Keeps.of3 {b1 b2 b3 : Nat} {x1 x2 x3 : List Value} {e1 e2 e3 : TypeId} (hs : Sat W w g' H) (hg : Hl.le g g' := by first | exact Hl.le_refl _ | assumption | exact Hl.le.trans (by assumption) (by assumption)) (h1 : Fd H b1 x1 e1 := by exact fd_) (h2 : Fd H b2 x2 e2 := by exact fd_) (h3 : Fd H b3 x3 e3 := by exact fd_) : Keeps g [(b1, x1, e1), (b2, x2, e2), (b3, x3, e3)] w := (((Keeps.of0 hs hg).ofs hs h3).ofs hs h2).ofs hs h1
theorem EH.appo {s : Operand} {a : Option Addr} {k c q : Nat} {xs news : List Value} (he : ElemOf P t e z size bytes) (hs : Sat W w g (owno e size (.slice a k c) k xs :: H)) {D : Nat → Prop} (hrow : Row size w D u q news)
    (h : ∀ a' c' w', Sat W w' g (owno e size (.slice a' (k + q) c') (k + q) (xs ++ news) :: H) → S w' ∧ EH P n l S fuel (bset m i) (pushv d (.slice a' (k + q) c') ρ) w' Q)
    (hr : rdy m l.length 0 l = [i] := by exact rfl) (hi : nth l i = some ⟨d, .call ⟨.builtin .append, #[s, y], #[t, t]⟩, ty, ps, af, none⟩ := by exact rfl) (h63 : k + q ≤ 9223372036854775807 := by omega) (hbytes : (k + q) * bytes ≤ 140737488355328 := by omega)
    (hx : evo n ρ s = some (.slice a k c) := by exact rfl) (hy : evo n ρ y = some u := by exact rfl) (h1 : ∀ x ∈ news, x.oneCell' = true := by first | exact bs_one _ | (intro u hu; simp only [List.mem_cons, List.not_mem_nil, or_false] at hu; rcases hu with rfl | rfl | rfl | rfl <;> exact rfl)) :
    EH P n l S (fuel + 1) m ρ w Q := EH.one (St.appo he hs hrow h h63 hbytes hx hy h1) hr hi
/-- s[1:] of such a row, wherever it lies. -/
theorem E.sla {ops : Array Oper} {rest : List Oper} {a : Option Addr} {k c : Nat} {lo : Operand} {kd : IntKind} {xs : List Value} (he : ElemOf P t e z size bytes) (hs : Sat W w g (owno e size (.slice a k c) k xs :: H)) (hk : 2 ≤ k)
    (h : ∀ a', Sat W w g (owno e size (.slice a' (k - 1) (c - 1)) (k - 1) (xs.drop size) :: H) → E P n ops rest (pushv d (.slice a' (k - 1) (c - 1)) ρ) w Q)
    (hx : evo n ρ x = some (.slice a k c) := by exact rfl) (h1 : evo n ρ lo = some (.int kd 1) := by exact rfl) :
    E P n ops (⟨d, .slice t x (some lo) none none, ty, ps, af, none⟩ :: rest) ρ w Q := by
  obtain ⟨_, _, _, e0, hkc, _, hN⟩ := hs.olen
  simp only [Value.slice.injEq] at e0
  obtain ⟨rfl, -, rfl⟩ := e0
  obtain ⟨b, off, _, ha, _⟩ := hs.oopen (fun h => by have := hN h; omega)
  subst ha
  exact E.slo he hs hk (fun hs => h _ hs) hx h1
end
end Go.Proofs.YtdkbpcibmipelaaGreatDoor

/-
  Layer 9 (feed): a new segment.
-/
namespace Go.Proofs.YtdkbpcibmipelaaGreatDoor
open Go.RowKit
set_option linter.unusedVariables false
set_option linter.unusedSimpArgs false

/-- What 'Create' tells. -/
def sgNew (er : Int) (i n : Nat) : Sg := if er = 0 then ⟨i, n, ⟨none, 0, []⟩, (headB ⟨115, i, n⟩).length⟩ else ⟨0, 0, ⟨none, 0, []⟩, 0⟩
theorem sgCreate_one {R : Ending → World → Prop} {W w : World} {g : Hl} {H : List HP} {b : Nat} {d : Dk} {i n : Nat} (hg : Gl g) (hi : i < 64) (hn : n < 18446744073709551616) (h0 : n ≠ 0) (hs : Sat W w g (disk b d :: H))
    (hR : ∀ w' g', Hl.le g g' → Sat W w' g' (disk b (d.begin (nameB i n) ⟨115, i, n⟩).2 :: H) → R (.returned (.tuple #[(sgNew (d.begin (nameB i n) ⟨115, i, n⟩).1 i n).val, .int .i64 (d.begin (nameB i n) ⟨115, i, n⟩).1])) w') :
    Calls Tryz.prog 83 #[ptr b, .int .i64 i, .int .u64 n] w R := by
  refine sgCreate_any hg hi hn h0 hs (fun w' g' hg' he hs => ?_) (fun w' g' hg' he hs => ?_)
  · have := hR w' g' hg' hs
    simp only [sgNew, if_pos he] at this
    rw [he] at this
    exact this
  · have := hR w' g' hg' hs
    simp only [sgNew, if_neg he] at this
    exact this

/-- How a new segment is made. -/
def Fe.roll (f : Fe) (d : Dk) (n : Nat) : Int × Fe × Dk :=
  if (f.sync d).1 ≠ 0 then f.sync d else
  let r := (f.sync d).2.2.begin (nameB f.wr n) ⟨115, f.wr, n⟩
  (r.1, if r.1 = 0 then { (f.sync d).2.1 with l := (f.sync d).2.1.l ++ [sgNew 0 f.wr n] } else (f.sync d).2.1, r.2)
theorem Fe.sync_wr (f : Fe) (d : Dk) : (f.sync d).2.1.wr = f.wr ∧ (f.sync d).2.1.l = f.l ∧ (f.sync d).2.1.floor = f.floor ∧ (f.sync d).2.1.time = f.time ∧ (f.sync d).2.1.cap = f.cap := by
  unfold Fe.sync
  split
  · split
    · simp only
      split <;> exact ⟨rfl, rfl, rfl, rfl, rfl⟩
    · exact ⟨rfl, rfl, rfl, rfl, rfl⟩
  · exact ⟨rfl, rfl, rfl, rfl, rfl⟩
theorem row_of_sg {W w : World} {g : Hl} {H : List HP} {b : Nat} {s : Sg} (hs : Sat W w g (blk b s.cs 29 :: H)) : Row 4 w (fun _ => True) (.slice (some ⟨b, 0, none⟩) 1 1) 1 s.cs := hs.rowOf (size := 4) 1 rfl (by decide)
theorem sg_one (s : Sg) : ∀ u ∈ s.cs, u.oneCell' = true := by
  intro u hu
  simp only [Sg.cs, List.mem_cons, List.not_mem_nil, or_false] at hu
  rcases hu with rfl | rfl | rfl | rfl <;> rfl

set_option maxHeartbeats 3200000 in
set_option maxRecDepth 100000 in
theorem froll_any {R : Ending → World → Prop} {W w : World} {g : Hl} {H : List HP} {b db : Nat} {f : Fe} {d : Dk} {n : Nat} (hg : Gl g) (hd : f.dirty = true → f.l ≠ []) (hn : n < 18446744073709551616) (h0 : n ≠ 0) (hln : f.l.length ≤ 1000000000) (hs : Sat W w g (feed b db f :: disk db d :: H))
    (hR : ∀ w' g', Hl.le g g' → Sat W w' g' (feed b db (f.roll d n).2.1 :: disk db (f.roll d n).2.2 :: H) → R (.returned (.int .i64 (f.roll d n).1)) w') : Calls Tryz.prog 107 #[ptr b, .int .u64 n] w R := by
  have HR := Lib.hid hR
  clear hR
  have ag1 := ag_sg
  refine C.calls (args := [ptr b, .int .u64 n]) Tryz.func107 rfl rfl rfl ?_
  refine go ?_
  refine E.callf Tryz.func37 rfl ?_
  refine fsync_any hg hd hs ?_
  intro w1 hs
  obtain ⟨e1, e2, -, -, -⟩ := f.sync_wr d
  have key := HR.out
  simp only [Fe.roll] at key
  have hwr : f.wr < 64 := by
    obtain ⟨_, _, h, _⟩ := feed_open hs
    have := h.wr
    omega
  generalize f.sync d = q at hs key e1 e2 ⊢
  obtain ⟨er, f1, d1⟩ := q
  simp only at hs key e1 e2 ⊢
  by_cases her : er = 0
  · subst her
    rw [if_neg (by simp)] at key
    refine go ?_
    obtain ⟨a, c, hok, hs⟩ := feed_open hs
    obtain ⟨fwr, fcap, ffl, ftm, fl, fdt⟩ := f1
    simp only at e1 e2
    subst e1 e2
    refine C.held1 b hs ?_
    intro w2 hk hs
    generalize hbg : d1.begin (nameB f.wr n) ⟨115, f.wr, n⟩ = r at key
    apply laterH (α := Nat × Hl) (f := fun q => [(0, ptr b), (6, ptr q.1), (24, (sgNew r.1 f.wr n).val), (25, .int .i64 r.1)])
      (M := fun q w => Hl.le g q.2 ∧ Sat W w q.2 (blk q.1 [.int .i64 0, .int .u64 0, .slice none 0 0, .int .i64 0] 29 :: blk b ((⟨f.wr, fcap, ffl, ftm, f.l, fdt⟩ : Fe).cs db a c) 167 :: disk db r.2 :: owno 29 4 (.slice a f.l.length c) f.l.length (sgC f.l) :: H))
    · intro B
      refine goh ?_
      refine EH.ora hs (St.callf Tryz.func83 rfl ?_) ?_
      · refine sgCreate_one (i := f.wr) (n := n) hg hwr hn h0 hs.pull2 ?_
        intro w3 g3 hg3 hs
        rw [hbg] at hs ⊢
        refine kept1 hs (fun hk => ?_) hg3
        refine goh ?_
        refine EH.al hs ?_
        intro b6 w4 hs
        refine kept1 hs (fun hk => ?_) hg3
        refine goh ?_
        exact EH.forget wk_ (B (b6, g3) _ ⟨hg3, hs.pull2.swap⟩)
      · intro b6 w3 hs
        refine kept1 hs (fun hk => ?_)
        refine goh ?_
        refine EH.one (St.callf Tryz.func83 rfl ?_)
        refine sgCreate_one (i := f.wr) (n := n) hg hwr hn h0 hs.pull3 ?_
        intro w4 g4 hg4 hs
        rw [hbg] at hs ⊢
        refine kept1 hs (fun hk => ?_) hg4
        refine goh ?_
        exact EH.forget wk_ (B (b6, g4) _ ⟨hg4, hs.push2⟩)
    clear hs hk
    rintro ⟨b6, g4⟩ w4 ⟨hg4, hs⟩
    simp only at hg4 hs ⊢
    have hk := Keeps.of1 hs hg4 (b1 := b)
    refine EH.sto (vs := (sgNew r.1 f.wr n).cs) (ys := (sgNew r.1 f.wr n).cs) hs ?_ (hv := rfl) (hsp := rfl)
    intro w5 hs
    refine kept1 hs (fun hk => ?_) hg4
    refine goh ?_
    refine EH.done ?_
    refine go ?_
    obtain ⟨er, d2⟩ := r
    simp only at key hs ⊢
    have hok4 := hok.mono hg4
    by_cases hz : er = 0
    · subst hz
      rw [if_pos rfl] at key
      rw [decide_eq_true rfl]
      refine go ?_
      refine C.heldN hs ?_
      intro w6 hs
      have hk : Keeps g4 [(b6, (sgNew 0 f.wr n).cs, 29), (b, (⟨f.wr, fcap, ffl, ftm, f.l, fdt⟩ : Fe).cs db a c, 167)] w6 := Keeps.of2 hs (Hl.le_refl _)
      refine EH.tail 1024 1024 1023 10 1 (Keeps g4 [(b6, (sgNew 0 f.wr n).cs, 29), (b, (⟨f.wr, fcap, ffl, ftm, f.l, fdt⟩ : Fe).cs db a c, 167)]) (fun _ _ => trivial) ?_
      refine goh ?_
      refine EH.bsle el_sg hs (cs := (sgNew 0 f.wr n).cs) rfl ?_
      intro b7 w7 hs
      refine kept2 hs (fun hk => ?_)
      refine goh ?_
      refine EH.appo el_sg hs.pull4 (row_of_sg hs) ?_ (h1 := sg_one _)
      intro a8 c8 w8 hs
      refine kept2 hs (fun hk => ?_)
      refine goh ?_
      refine EH.done ?_
      refine A.mid ?_
      refine EH.sto (vs := [.slice a8 (f.l.length + 1) c8]) (ys := (⟨f.wr, fcap, ffl, ftm, f.l ++ [sgNew 0 f.wr n], fdt⟩ : Fe).cs db a8 c8) hs ?_ (hv := rfl) (hsp := by simp only [Fe.cs, List.length_append, List.length_singleton]; rfl)
      intro w9 hs
      refine ⟨trivial, ?_⟩
      refine EH.done ?_
      refine go ?_
      refine A.r1 ?_
      refine key w9 g4 hg4 (feed_close (a := a8) (c := c8) ⟨hok4.wr, hok4.floor, hok4.time, hok4.cap, fun s hs' => ?_⟩ ?_)
      · rcases List.mem_append.1 hs' with h | h
        · exact hok4.l s h
        · rw [List.mem_singleton.1 h]
          exact ⟨⟨Pr.nil, fun e he => by cases he⟩, rfl, hn⟩
      · rw [sgC_append, sgC_one, List.length_append, List.length_singleton]
        exact hs.swap.drop.swap.drop.swap
    · rw [decide_eq_false hz]
      refine go ?_
      refine A.r1 ?_
      rw [if_neg hz] at key
      exact key w5 g4 hg4 (feed_close hok4 hs.drop.pull2.swap)
  · have hdd : (!decide (er = 0)) = true := by simp [her]
    rw [if_pos her] at key
    refine go ?_
    refine C.cond rfl (fun _ => ?_) (fun h => by rw [hdd] at h; cases h)
    refine go ?_
    refine A.r1 ?_
    exact key w1 g (Hl.le_refl _) hs
end Go.Proofs.YtdkbpcibmipelaaGreatDoor

/-
  Layer 9 (feed): one more event.
-/
namespace Go.Proofs.YtdkbpcibmipelaaGreatDoor
open Go.RowKit
set_option linter.unusedVariables false
set_option linter.unusedSimpArgs false

def Sg.addE (s : Sg) (d : Dk) (e : Ev) : Int := if s.fit e = 0 then (d.add (nameB s.wr s.first) e.enc).1 else s.fit e
def Sg.addD (s : Sg) (d : Dk) (e : Ev) : Dk := if s.fit e = 0 then (d.add (nameB s.wr s.first) e.enc).2 else d
/-- A segment with one more event. -/
structure Sg.grown (s s' : Sg) (e : Ev) : Prop where
  wr : s'.wr = s.wr
  first : s'.first = s.first
  es : ∃ tv, s'.x.es = s.x.es ++ [e.ep.ev tv]
  size : s'.size = s.size + recN e.enc.length
theorem sgAdd_one {R : Ending → World → Prop} {W w : World} {g : Hl} {H : List HP} {b : Nat} {d : Dk} {s : Sg} {e : Ev} (hg : Gl g) (ho : e.ok g) (hx : s.x.ok g) (hwr : s.wr < 64) (hf : s.first < 18446744073709551616) (hsz : s.size ≤ 4000000000000000000) (hl : s.x.es.length ≤ 1000000000) (hs : Sat W w g (disk b d :: H))
    (hR : ∀ s' w' g', Hl.le g g' → s'.x.ok g' → (s.addE d e = 0 → s.grown s' e) → (s.addE d e ≠ 0 → s' = s) → Sat W w' g' (disk b (s.addD d e) :: H) → R (.returned (.tuple #[s'.val, .int .i64 (s.addE d e)])) w') :
    Calls Tryz.prog 28 #[s.val, ptr b, e.val] w R := by
  refine sgAdd_any hg ho hx hwr hf hsz hl hs (fun w' g' hg' hne hs => ?_) (fun w' g' hg' hz hne hs => ?_) (fun a' c' tv w' g' hg' hz he hxo hs => ?_)
  · have h1 : s.addE d e = s.fit e := by simp only [Sg.addE, if_neg hne]
    have h2 : s.addD d e = d := by simp only [Sg.addD, if_neg hne]
    have key := hR s w' g' hg' (hx.mono hg') (fun h => absurd (h1.symm.trans h) hne) (fun _ => rfl)
    rw [h1, h2] at key
    exact key hs
  · have h1 : s.addE d e = (d.add (nameB s.wr s.first) e.enc).1 := by simp only [Sg.addE, if_pos hz]
    have h2 : s.addD d e = (d.add (nameB s.wr s.first) e.enc).2 := by simp only [Sg.addD, if_pos hz]
    have key := hR s w' g' hg' (hx.mono hg') (fun h => absurd (h1.symm.trans h) hne) (fun _ => rfl)
    rw [h1, h2] at key
    exact key hs
  · have h1 : s.addE d e = 0 := by simp only [Sg.addE, if_pos hz, he]
    have h2 : s.addD d e = (d.add (nameB s.wr s.first) e.enc).2 := by simp only [Sg.addD, if_pos hz]
    have key := hR ⟨s.wr, s.first, ⟨a', c', s.x.es ++ [e.ep.ev tv]⟩, s.size + recN e.enc.length⟩ w' g' hg' hxo (fun _ => ⟨rfl, rfl, ⟨tv, rfl⟩, rfl⟩) (fun h => absurd h1 h)
    rw [h1, h2] at key
    exact key hs

/-- Why an event isn't added; 0: it may be. -/
def Fe.addP (f : Fe) (e : Ev) : Int := if f.sealed = true then 12 else if ¬ (e.wr = f.wr ∧ e.sq = f.next) then 9 else if e.tm ≤ f.tm then 10 else 0
/-- Does an event want a new segment. -/
def Fe.full (f : Fe) (sq : Nat) : Bool := match f.l.getLast? with
  | none => true
  | some s => (decide (0 < s.x.es.length) && decide (f.cap ≤ s.size)) || !decide (s.next = sq)
def Fe.rolled (f : Fe) (d : Dk) (sq : Nat) : Int × Fe × Dk := if f.full sq then f.roll d sq else (0, f, d)
/-- How 'Add' goes: its error, the feed (where nothing is added), the disk. -/
def Fe.addR (f : Fe) (d : Dk) (e : Ev) : Int × Fe × Dk :=
  if f.addP e ≠ 0 then (f.addP e, f, d) else
  if (f.rolled d e.sq).1 ≠ 0 then f.rolled d e.sq else
  match (f.rolled d e.sq).2.1.l.getLast? with
  | none => (0, f, d)
  | some s => (s.addE (f.rolled d e.sq).2.2 e, (f.rolled d e.sq).2.1, s.addD (f.rolled d e.sq).2.2 e)
/-- A feed with one more event. -/
structure Fe.grown (f f' : Fe) (e : Ev) : Prop where
  ex : ∃ L s s', f.l = L ++ [s] ∧ s.grown s' e ∧ f' = { f with l := L ++ [s'], dirty := true }
theorem Fe.roll_ok {f : Fe} {d : Dk} {n : Nat} (h : (f.roll d n).1 = 0) : (f.roll d n).2.1.l = f.l ++ [sgNew 0 f.wr n] ∧ (f.roll d n).2.1.wr = f.wr ∧ (f.roll d n).2.1.floor = f.floor ∧ (f.roll d n).2.1.time = f.time ∧ (f.roll d n).2.1.cap = f.cap := by
  obtain ⟨e1, e2, e3, e4, e5⟩ := f.sync_wr d
  unfold Fe.roll at h ⊢
  split
  · rename_i h1
    rw [if_pos h1] at h
    exact absurd h h1
  · rename_i h1
    rw [if_neg h1] at h
    simp only at h ⊢
    rw [if_pos h]
    exact ⟨by simp only [e2], e1, e3, e4, e5⟩
theorem At4.put {a : Option Addr} {n c rb off p : Nat} {cur : List Value} {L : List Sg} {s s' : Sg} (h : At4 a n c rb off p L.length cur (L ++ [s]) s) (hn : n = L.length + 1) : ((spl cur p s'.cs).drop off).take (n * 4) = sgC (L ++ [s']) := by
  have hf := h.fit
  have hr := h.row
  have hp := h.pe
  have hnc := h.nc
  have e4 : ∀ t : Sg, t.cs.length = 4 := fun _ => rfl
  have hsplit : cur = cur.take p ++ s.cs ++ cur.drop (p + 4) := by
    have h2 : cur.drop (p + 4) = (cur.drop p).drop 4 := by rw [List.drop_drop]
    rw [List.append_assoc, h2, ← h.at4, List.take_append_drop, List.take_append_drop]
  have hpl : (cur.take p).length = p := by rw [List.length_take]; omega
  have hsp : spl cur p s'.cs = cur.take p ++ s'.cs ++ cur.drop (p + 4) := by
    have := spl_mid s'.cs (cur.take p) s.cs (cur.drop (p + 4)) (by rw [e4, e4])
    rw [hpl, ← hsplit] at this
    exact this
  have hpre : (cur.take p).drop off = sgC L := by
    have h3 := congrArg (List.take (L.length * 4)) hr
    rw [List.take_take, Nat.min_eq_left (by omega)] at h3
    have h5 : (sgC (L ++ [s])).take (L.length * 4) = sgC L := by
      rw [sgC_append, List.take_append_of_le_length (by rw [sgC_len]; omega), List.take_of_length_le (by rw [sgC_len]; omega)]
    rw [List.drop_take, hp, Nat.add_sub_cancel_left]
    exact h3.trans h5
  rw [hsp, List.append_assoc, List.drop_append, hpre, hpl, show off - p = 0 by omega, List.drop_zero, sgC_append, sgC_one, ← List.append_assoc, List.take_append_of_le_length (by rw [List.length_append, sgC_len, e4]; omega), List.take_of_length_le (by rw [List.length_append, sgC_len, e4]; omega)]

set_option maxHeartbeats 6400000 in
set_option maxRecDepth 100000 in
theorem fadd_any {R : Ending → World → Prop} {W w : World} {g : Hl} {H : List HP} {b db : Nat} {f : Fe} {d : Dk} {e : Ev} (hg : Gl g) (ho : e.ok g) (hsm : f.small) (hc : f.count ≤ 1000000000) (hd : f.dirty = true → f.l ≠ []) (hln : f.l.length ≤ 1000000000) (hs : Sat W w g (feed b db f :: disk db d :: H))
    (hR : ∀ f' w' g', Hl.le g g' → ((f.addR d e).1 = 0 → (f.addR d e).2.1.grown f' e) → ((f.addR d e).1 ≠ 0 → f' = (f.addR d e).2.1) → Sat W w' g' (feed b db f' :: disk db (f.addR d e).2.2 :: H) → R (.returned (.int .i64 (f.addR d e).1)) w') : Calls Tryz.prog 35 #[ptr b, e.val] w R := by
  have HR := Lib.hid hR
  clear hR
  have ag1 := ag_sg
  have ag2 := ag_ev
  obtain ⟨ea, ec, etv, hnce, _⟩ := ho.tv.len
  refine C.calls (args := [ptr b, e.val]) Tryz.func35 rfl rfl rfl ?_
  refine go ?_
  refine E.bx hs (xs := e.cs) ?_ (hx := rfl)
  intro b3 w1 hs
  refine go ?_
  refine E.callf Tryz.func49 rfl ?_
  refine fsealed_any hc hs.swap ?_
  intro w2 g2 hg2 hs
  cases hse : f.sealed with
  | true =>
    have hp : f.addP e = 12 := by simp only [Fe.addP, hse, if_true]
    have hr : f.addR d e = (12, f, d) := by simp only [Fe.addR, hp]; rfl
    refine go ?_
    refine A.r1 ?_
    have key := HR.out f w2 g2 hg2
    rw [hr] at key
    exact key (fun h => by cases h) (fun _ => rfl) hs.swap.drop
  | false =>
  have hwr : f.wr < 64 := by
    obtain ⟨_, _, h, _⟩ := feed_open hs
    exact h.wr
  refine go ?_
  obtain ⟨a, c, hok, hs⟩ := feed_open hs
  simp only [Fe.cs] at hs
  refine C.held2 b3 b hs ?_
  intro w3 hk hs
  refine goh ?_
  cases hcw : decide (e.wr = (f.wr : Int)) with
  | false =>
    have hp : f.addP e = 9 := by simp only [Fe.addP, hse, Bool.false_eq_true, if_false, of_decide_eq_false hcw, false_and, not_false_eq_true, if_true]
    have hr : f.addR d e = (9, f, d) := by simp only [Fe.addR, hp]; rfl
    refine goh ?_
    refine EH.done ?_
    refine go ?_
    refine A.r1 ?_
    have key := HR.out f w3 g2 hg2
    rw [hr] at key
    exact key (fun h => by cases h) (fun _ => rfl) (feed_close hok hs).swap.drop
  | true =>
  have hcw := of_decide_eq_true hcw
  refine goh ?_
  refine EH.one (St.guard rfl rfl (St.callf Tryz.func40 rfl ?_))
  refine fnext_raw hsm hok hs ?_
  intro w4 hs
  refine kept2 hs (fun hk => ?_) (Hl.le_refl _)
  refine goh ?_
  refine EH.done ?_
  refine go ?_
  cases hq : decide ((e.sq : Int) = (f.next : Nat)) with
  | false =>
    have hp : f.addP e = 9 := by
      have : ¬ e.sq = f.next := fun h => of_decide_eq_false hq (by rw [h])
      simp only [Fe.addP, hse, Bool.false_eq_true, if_false, this, and_false, not_false_eq_true, if_true]
    have hr : f.addR d e = (9, f, d) := by simp only [Fe.addR, hp]; rfl
    refine go ?_
    refine A.r1 ?_
    have key := HR.out f w4 g2 hg2
    rw [hr] at key
    exact key (fun h => by cases h) (fun _ => rfl) (feed_close hok hs).swap.drop
  | true =>
  have hqq : e.sq = f.next := by have := of_decide_eq_true hq; omega
  clear hq
  refine go ?_
  replace hs := feed_close hok hs
  refine C.held1 b3 hs ?_
  intro w5 hk hs
  refine goh ?_
  refine EH.one (St.callf Tryz.func47 rfl ?_)
  refine ftime_any hc hs ?_
  intro w6 g6 hg6 hs
  refine kept1 hs (fun hk => ?_) hg6
  refine goh ?_
  refine EH.done ?_
  refine go ?_
  clear hok
  cases ht : decide ((e.tm : Int) ≤ (f.tm : Nat)) with
  | true =>
    have hp : f.addP e = 10 := by
      have ht := of_decide_eq_true ht
      simp only [Fe.addP, hse, Bool.false_eq_true, if_false, hcw, hqq, and_self, not_true_eq_false]
      rw [if_pos (by omega)]
    have hr : f.addR d e = (10, f, d) := by simp only [Fe.addR, hp]; rfl
    refine go ?_
    refine A.r1 ?_
    have key := HR.out f w6 g6 (hg2.trans hg6)
    rw [hr] at key
    exact key (fun h => by cases h) (fun _ => rfl) hs.swap.drop
  | false =>
  have hp : f.addP e = 0 := by
    have ht := of_decide_eq_false ht
    simp only [Fe.addP, hse, Bool.false_eq_true, if_false, hcw, hqq, and_self, not_true_eq_false]
    rw [if_neg (by omega)]
  clear ht hk
  have hR1 : f.addR d e = (if (f.rolled d e.sq).1 ≠ 0 then f.rolled d e.sq else match (f.rolled d e.sq).2.1.l.getLast? with
    | none => (0, f, d)
    | some s => (s.addE (f.rolled d e.sq).2.2 e, (f.rolled d e.sq).2.1, s.addD (f.rolled d e.sq).2.2 e)) := by
    simp only [Fe.addR, hp]
    rw [if_neg (by simp)]
  obtain ⟨a, c, hok, hs⟩ := feed_open hs
  have hfl := hok.floor
  have hnx0 : e.sq ≠ 0 := by
    have h1 : f.floor + 1 ≤ f.next := by
      unfold Fe.next
      split <;> omega
    omega
  refine go ?_
  have hg6' := hg2.trans hg6
  have hR1 := Lib.hid hR1
  have Hcw := Lib.hid hcw
  have Hqq := Lib.hid hqq
  clear hcw hqq hp hse hg2 hg6
  apply later (α := Fe × Dk × Hl) (f := fun _ => [(0, ptr b), (3, ptr b3)])
    (M := fun q w => f.rolled d e.sq = (0, q.1, q.2.1) ∧ q.1.l ≠ [] ∧ q.1.wr = f.wr ∧ (∀ s ∈ q.1.l, s.size ≤ 4000000000000000000 ∧ s.x.es.length ≤ 1000000000) ∧ q.1.l.length ≤ 1000000001 ∧ Hl.le g q.2.2 ∧ Sat W w q.2.2 (feed b db q.1 :: blk b3 e.cs 46 :: disk db q.2.1 :: H))
  · intro key
    apply laterE (α := Unit) (f := fun _ => [(0, ptr b), (3, ptr b3), (86, ptr b), (88, .int .u64 e.sq)]) (M := fun _ w => f.full e.sq = true ∧ Sat W w g6 (feed b db f :: blk b3 e.cs 46 :: disk db d :: H))
    · intro keyR
      by_cases h0 : f.l.length = 0
      · have hfu : f.full e.sq = true := by
          have : f.l = [] := List.eq_nil_of_length_eq_zero h0
          simp [Fe.full, this]
        have hd0 : decide ((f.l.length : Int) = 0) = true := decide_eq_true (by omega)
        replace hd0 := Lib.hid hd0
        clear h0
        refine C.held2 b3 b hs ?_
        intro w7 hk hs
        refine goh ?_
        rw [hd0.out]
        refine goh ?_
        refine EH.done ?_
        refine go ?_
        exact E.forget wk_ (keyR () _ ⟨hfu, feed_close hok hs⟩)
      · have hj : f.l.length - 1 < f.l.length := by omega
        obtain ⟨rb, off, p, cur, h4, hs⟩ := row_open hj rfl hs.swap
        have hgd := hok.l _ (List.getElem_mem hj)
        have hss := hsm _ (List.getElem_mem hj)
        have hla : f.l.getLast? = some f.l[f.l.length - 1] := by rw [List.getLast?_eq_getElem?, List.getElem?_eq_getElem hj]
        have hn63 : f.l.length ≤ 9223372036854775807 := by have := h4.nc; have := h4.c63; omega
        generalize hsg : f.l[f.l.length - 1] = s at h4 hgd hss hla
        replace hla := Lib.hid hla
        clear hsg
        have hne0 : ¬ ((f.l.length : Int) = 0) := by omega
        refine C.held3 b3 b rb hs ?_
        intro w7 hk hs
        have hr2 : Rd (Keeps g6 [(b3, e.cs, 46), (b, f.cs db a c, 167), (rb, cur, 29)]) rb (p + 2) s.x.v := Rd.blk (.there (.there .here)) h4.c2
        have hr3 : Rd (Keeps g6 [(b3, e.cs, 46), (b, f.cs db a c, 167), (rb, cur, 29)]) rb (p + 3) (.int .i64 s.size) := Rd.blk (.there (.there .here)) h4.c3
        have hxv : s.x.v = .slice s.x.a s.x.es.length s.x.c := rfl
        rw [hxv] at hr2
        clear hxv
        refine goh ?_
        rw [decide_eq_false hne0]
        refine goh ?_
        refine EH.tp 9 hk ?_ (hy := Pf.pv (Pv.indexAddr rfl rfl (h4.ix (i := (f.l.length : Int) - 1) (by omega))))
        refine goh ?_
        cases hes : decide ((0 : Int) < s.x.es.length) with
        | false =>
          have hes : decide (0 < s.x.es.length) = false := by have := of_decide_eq_false hes; exact decide_eq_false (by omega)
          refine goh ?_
          refine EH.tp 38 hk ?_ (hy := Pf.pv (Pv.indexAddr rfl rfl (h4.ix (i := (f.l.length : Int) - 1) (by omega))))
          refine EH.tp 39 hk ?_ (hy := Pf.loadp rfl (.there (.there .here)) ag_sg h4.at4 rfl)
          refine goh ?_
          refine EH.one (St.guard rfl rfl (St.callf Tryz.func26 rfl ?_))
          refine sgNext_any (s := s) hgd.2.2 hss.2 hs ?_
          intro w8 hs
          refine kept3 hs (fun hk => ?_) (Hl.le_refl _)
          refine goh ?_
          cases hnq : decide (((s.next : Nat) : Int) = e.sq) with
          | true =>
            have hnq : s.next = e.sq := by have := of_decide_eq_true hnq; omega
            have hfu : f.full e.sq = false := by simp only [Fe.full, hla.out, hes, Bool.false_and, Bool.false_or, hnq]; simp
            refine goh ?_
            refine EH.done ?_
            refine go ?_
            exact C.forget wk_ (key (f, d, g6) _ ⟨by simp only [Fe.rolled, hfu]; rfl, fun h => h0 (by rw [h]; rfl), rfl, hsm, by simp only; omega, hg6', feed_close hok (row_close h4 hs).swap⟩)
          | false =>
            have hnq : ¬ s.next = e.sq := by have := of_decide_eq_false hnq; omega
            have hfu : f.full e.sq = true := by simp only [Fe.full, hla.out, hes, Bool.false_and, Bool.false_or]; simp [hnq]
            refine goh ?_
            refine EH.done ?_
            refine go ?_
            exact E.forget wk_ (keyR () _ ⟨hfu, feed_close hok (row_close h4 hs).swap⟩)
        | true =>
          have hes : decide (0 < s.x.es.length) = true := by have := of_decide_eq_true hes; exact decide_eq_true (by omega)
          refine goh ?_
          refine EH.tp 21 hk ?_ (hy := Pf.pv (Pv.indexAddr rfl rfl (h4.ix (i := (f.l.length : Int) - 1) (by omega))))
          refine goh ?_
          cases hcs : decide (f.cap ≤ (s.size : Int)) with
          | true =>
            have hfu : f.full e.sq = true := by simp only [Fe.full, hla.out, hes, hcs, Bool.and_self, Bool.true_or]
            refine goh ?_
            refine EH.done ?_
            refine go ?_
            exact E.forget wk_ (keyR () _ ⟨hfu, feed_close hok (row_close h4 hs).swap⟩)
          | false =>
            refine goh ?_
            refine EH.tp 38 hk ?_ (hy := Pf.pv (Pv.indexAddr rfl rfl (h4.ix (i := (f.l.length : Int) - 1) (by omega))))
            refine EH.tp 39 hk ?_ (hy := Pf.loadp rfl (.there (.there .here)) ag_sg h4.at4 rfl)
            refine goh ?_
            refine EH.one (St.guard rfl rfl (St.callf Tryz.func26 rfl ?_))
            refine sgNext_any (s := s) hgd.2.2 hss.2 hs ?_
            intro w8 hs
            refine kept3 hs (fun hk => ?_) (Hl.le_refl _)
            refine goh ?_
            cases hnq : decide (((s.next : Nat) : Int) = e.sq) with
            | true =>
              have hnq : s.next = e.sq := by have := of_decide_eq_true hnq; omega
              have hfu : f.full e.sq = false := by simp only [Fe.full, hla.out, hes, hcs, Bool.and_false, Bool.false_or, hnq]; simp
              refine goh ?_
              refine EH.done ?_
              refine go ?_
              exact C.forget wk_ (key (f, d, g6) _ ⟨by simp only [Fe.rolled, hfu]; rfl, fun h => h0 (by rw [h]; rfl), rfl, hsm, by simp only; omega, hg6', feed_close hok (row_close h4 hs).swap⟩)
            | false =>
              have hnq : ¬ s.next = e.sq := by have := of_decide_eq_false hnq; omega
              have hfu : f.full e.sq = true := by simp only [Fe.full, hla.out, hes, hcs, Bool.and_false, Bool.false_or]; simp [hnq]
              refine goh ?_
              refine EH.done ?_
              refine go ?_
              exact E.forget wk_ (keyR () _ ⟨hfu, feed_close hok (row_close h4 hs).swap⟩)
    rintro _ w7 ⟨hfu, hs⟩
    have hrd : f.rolled d e.sq = f.roll d e.sq := by simp only [Fe.rolled, hfu, if_true]
    refine E.callf Tryz.func107 rfl ?_
    refine froll_any (n := e.sq) (hg.mono hg6') hd ho.sq hnx0 hln hs.pull2.swap ?_
    intro w8 g8 hg8 hs
    have hfin : ∀ w', Sat W w' g8 (feed b db (f.roll d e.sq).2.1 :: disk db (f.roll d e.sq).2.2 :: blk b3 e.cs 46 :: H) → (f.roll d e.sq).1 ≠ 0 → R (.returned (.int .i64 (f.roll d e.sq).1)) w' := by
      intro w' hs hne
      have key := HR.out (f.roll d e.sq).2.1 w' g8 (hg6'.trans hg8)
      rw [hR1.out, hrd, if_pos hne] at key
      exact key (fun h => absurd h hne) (fun _ => rfl) hs.pull2.drop
    have hok0 := @Fe.roll_ok f d e.sq
    generalize f.roll d e.sq = q at hs hfin hok0 hrd ⊢
    obtain ⟨er, f1, d1⟩ := q
    simp only at hs hfin hok0 ⊢
    refine go ?_
    by_cases hz : er = 0
    · subst hz
      obtain ⟨q1, q2, q3, q4, q5⟩ := hok0 rfl
      have hdd : (!decide ((0 : Int) = 0)) = false := by simp
      refine C.cond rfl (fun h => by rw [hdd] at h; cases h) (fun _ => ?_)
      refine go ?_
      refine C.forget wk_ (key (f1, d1, g8) _ ⟨hrd, ?_, q2, ?_, ?_, hg6'.trans hg8, hs.pull2.swap⟩)
      · rw [q1]; simp
      · rw [q1]
        intro s hs'
        rcases List.mem_append.1 hs' with h | h
        · exact hsm s h
        · rw [List.mem_singleton.1 h]
          have := headB_len (t := ⟨115, f.wr, e.sq⟩) ⟨by simp only; omega, ho.sq⟩
          simp only [sgNew, if_true, List.length_nil]
          omega
      · simp only [q1, List.length_append, List.length_singleton]; omega
    · have hdd : (!decide (er = 0)) = true := by simp [hz]
      refine C.cond rfl (fun _ => ?_) (fun h => by rw [hdd] at h; cases h)
      refine go ?_
      refine A.r1 ?_
      exact hfin w8 hs hz
  rintro ⟨f1, d1, g1⟩ w10 ⟨hrl, hl1, hw1, hsm1, hll1, hg1, hs⟩
  simp only at hrl hl1 hw1 hsm1 hll1 hg1 hs ⊢
  have hl0 : 0 < f1.l.length := List.length_pos_iff.2 hl1
  have hj : f1.l.length - 1 < f1.l.length := by omega
  have hla : f1.l.getLast? = some f1.l[f1.l.length - 1] := by rw [List.getLast?_eq_getElem?, List.getElem?_eq_getElem hj]
  have hdl : f1.l = f1.l.dropLast ++ [f1.l[f1.l.length - 1]] := by
    have h1 := List.dropLast_concat_getLast hl1
    rw [List.getLast_eq_getElem] at h1
    exact h1.symm
  have hss := hsm1 _ (List.getElem_mem hj)
  have key := HR.out
  rw [hR1.out, hrl] at key
  simp only [hla, ne_eq, not_true_eq_false, if_false] at key
  obtain ⟨a1, c1, hok1, hs⟩ := feed_open hs
  obtain ⟨rb, off, p, cur, h4, hs⟩ := row_open hj rfl hs.swap
  have hgd := hok1.l _ (List.getElem_mem hj)
  have hdlen : f1.l.dropLast.length = f1.l.length - 1 := by simp
  generalize f1.l[f1.l.length - 1] = s at h4 hgd hss hla hdl key
  replace hla := Lib.hid hla
  replace hdl := Lib.hid hdl
  replace hdlen := Lib.hid hdlen
  replace hrl := Lib.hid hrl
  have hn63 : f1.l.length ≤ 9223372036854775807 := by omega
  have hswr : s.wr < 64 := by omega
  refine C.held3 b3 b rb hs ?_
  intro w11 hk hs
  apply laterH (α := Nat × Sg × Hl) (f := fun q => [(0, ptr b), (7, ptr q.1), (112, q.2.1.val), (113, .int .i64 (s.addE d1 e))])
    (M := fun q w => Hl.le g1 q.2.2 ∧ q.2.1.x.ok q.2.2 ∧ (s.addE d1 e = 0 → s.grown q.2.1 e) ∧ (s.addE d1 e ≠ 0 → q.2.1 = s) ∧ Sat W w q.2.2 (disk db (s.addD d1 e) :: blk q.1 [.int .i64 0, .int .u64 0, .slice none 0 0, .int .i64 0] 29 :: blk rb cur 29 :: blk b (f1.cs db a1 c1) 167 :: blk b3 e.cs 46 :: H))
  · intro B
    refine goh ?_
    refine EH.tp 10 hk ?_ (hy := Pf.pv (Pv.indexAddr rfl rfl (h4.ix (i := (f1.l.length : Int) - 1) (by omega))))
    refine EH.tp 11 hk ?_ (hy := Pf.loadp rfl (.there (.there .here)) ag_sg h4.at4 rfl)
    refine goh ?_
    refine EH.ora hs (St.callf Tryz.func28 rfl ?_) ?_
    · refine sgAdd_one (s := s) (e := e) (hg.mono hg1) (ho.mono hg1) hgd.1 hswr hgd.2.2 hss.1 hss.2 hs.pull3 ?_
      intro s' w12 g12 hg12 hxo h1 h2 hs
      refine kept3 hs (fun hk => ?_) hg12
      refine goh ?_
      refine EH.al hs ?_
      intro b7 w13 hs
      refine kept3 hs (fun hk => ?_) hg12
      refine goh ?_
      exact EH.forget wk_ (B (b7, s', g12) _ ⟨hg12, hxo, h1, h2, hs.swap⟩)
    · intro b7 w12 hs
      refine kept3 hs (fun hk => ?_) (Hl.le_refl _)
      refine goh ?_
      refine EH.one (St.callf Tryz.func28 rfl ?_)
      refine sgAdd_one (s := s) (e := e) (hg.mono hg1) (ho.mono hg1) hgd.1 hswr hgd.2.2 hss.1 hss.2 hs.pull4 ?_
      intro s' w13 g13 hg13 hxo h1 h2 hs
      refine kept3 hs (fun hk => ?_) hg13
      refine goh ?_
      exact EH.forget wk_ (B (b7, s', g13) _ ⟨hg13, hxo, h1, h2, hs⟩)
  rintro ⟨b7, s', g12⟩ w12 ⟨hg12, hxo, h1, h2, hs⟩
  simp only at hg12 hxo h1 h2 hs ⊢
  have hk := Keeps.of3 hs hg12 (b1 := b3) (b2 := b) (b3 := rb)
  refine EH.sto (vs := s'.cs) (ys := s'.cs) hs ?_ (hv := rfl) (hsp := rfl)
  intro w13 hs
  refine kept3 hs (fun hk => ?_) hg12
  refine goh ?_
  refine EH.done ?_
  have hok12 := hok1.mono hg12
  refine go ?_
  by_cases hz : s.addE d1 e = 0
  · refine C.cond rfl (fun _ => ?_) (fun h => by rw [decide_eq_true hz] at h; cases h)
    replace hz := Lib.hid hz
    replace h1 := h1 hz.out
    clear h2
    refine go ?_
    have hput := Lib.hid (At4.put (s' := s') (L := f1.l.dropLast) (by have hdn := hdl.out; rw [← hdn, hdlen.out]; exact h4) (by rw [hdlen.out]; omega))
    refine C.heldN hs ?_
    intro w14 hs
    have hk : Keeps g12 [(b7, s'.cs, 29), (b, f1.cs db a1 c1, 167)] w14 := Keeps.of2 hs (Hl.le_refl _)
    refine EH.tail 65536 65536 65535 16 1 (Keeps g12 [(b7, s'.cs, 29), (b, f1.cs db a1 c1, 167)]) (fun _ _ => trivial) ?_
    refine goh ?_
    refine EH.tp 12 hk ?_ (hy := Pf.pv (Pv.indexAddr rfl rfl (h4.ix (i := (f1.l.length : Int) - 1) (by omega))))
    refine goh ?_
    have hcf := h4.fit
    have hpe := h4.pe
    have hnc := h4.nc
    refine EH.sto (b := rb) (j := p) (xs := cur) (v := s'.val) (vs := s'.cs) (ys := spl cur p s'.cs) hs ?_ (hv := rfl) (hsp := rfl) (hj := by simp only [Sg.cs, List.length_cons, List.length_nil, Nat.ble_eq]; omega)
    intro w15 hs
    refine kept2 hs (fun hk => ?_) (Hl.le_refl _)
    refine goh ?_
    refine EH.done ?_
    refine A.mid ?_
    refine EH.sto (vs := [.bool true]) (ys := ({ f1 with l := f1.l.dropLast ++ [s'], dirty := true } : Fe).cs db a1 c1) hs ?_ (hv := rfl) (hsp := by
      simp only [Fe.cs, List.length_append, List.length_singleton, hdlen.out]
      rw [show f1.l.length - 1 + 1 = f1.l.length by omega]
      rfl)
    intro w16 hs
    refine ⟨trivial, ?_⟩
    refine EH.done ?_
    refine go ?_
    refine A.r1 ?_
    have key := key { f1 with l := f1.l.dropLast ++ [s'], dirty := true } w16 g12 (hg1.trans hg12) (fun _ => ⟨f1.l.dropLast, s, s', hdl.out, h1, rfl⟩) (fun h => absurd hz.out h)
    have hlen : (f1.l.dropLast ++ [s']).length = f1.l.length := by rw [List.length_append, List.length_singleton, hdlen.out]; omega
    have hs2 := Sat.oclose (size := 4) (n := f1.l.length) (c := c1) hs.swap.drop.swap (by rw [spl_len]; exact h4.fit) hput.out h4.nc h4.c63
    rw [← h4.addr, ← hlen] at hs2
    have hs3 := feed_close (a := a1) (c := c1) (f := { f1 with l := f1.l.dropLast ++ [s'], dirty := true }) ⟨hok12.wr, hok12.floor, hok12.time, hok12.cap, fun t ht => ?_⟩ hs2.pull2
    · exact key hs3.pull2.drop
    · rcases List.mem_append.1 ht with h | h
      · exact hok12.l t ((List.dropLast_sublist _).subset h)
      · rw [List.mem_singleton.1 h]
        exact ⟨hxo, h1.wr.trans hgd.2.1, by rw [h1.first]; exact hgd.2.2⟩
  · refine C.cond rfl (fun h => by rw [decide_eq_false hz] at h; cases h) (fun _ => ?_)
    refine go ?_
    refine A.r1 ?_
    have key := key f1 w13 g12 (hg1.trans hg12) (fun h => absurd h hz) (fun _ => rfl)
    exact key (feed_close hok12 (row_close h4 hs.swap.drop.swap).pull2).pull2.drop
end Go.Proofs.YtdkbpcibmipelaaGreatDoor

/-
  Layer 9 (feed): Fold.
-/
namespace Go.Proofs.YtdkbpcibmipelaaGreatDoor
open Go.RowKit
set_option linter.unusedVariables false
set_option linter.unusedSimpArgs false

/-- Segments that have nothing behind a floor are removed, but the last one. -/
def trimR (floor : Nat) : List Sg → Dk → Int × List Sg × Dk
  | s :: t :: r, d => if s.next ≤ floor + 1 then
      (if (d.remove (nameB s.wr s.first)).1 ≠ 0 then ((d.remove (nameB s.wr s.first)).1, s :: t :: r, (d.remove (nameB s.wr s.first)).2) else trimR floor (t :: r) (d.remove (nameB s.wr s.first)).2)
    else (0, s :: t :: r, d)
  | l, d => (0, l, d)
/-- How 'Fold' goes. -/
def Fe.foldR (f : Fe) (d : Dk) (floor time : Nat) : Int × Fe × Dk :=
  if floor < f.floor ∨ f.next ≤ floor ∨ f.dirty = true then (1, f, d) else
  ((trimR floor f.l d).1, { f with floor := floor, time := max f.time time, l := (trimR floor f.l d).2.1 }, (trimR floor f.l d).2.2)

set_option maxHeartbeats 6400000 in
set_option maxRecDepth 100000 in
theorem ffold_any {R : Ending → World → Prop} {W w : World} {g : Hl} {H : List HP} {b db : Nat} {f : Fe} {d : Dk} {fl tm : Nat} (hg : Gl g) (hsm : f.small) (hfl : fl ≤ 9223372036854775807) (htm : tm < 18446744073709551616) (hs : Sat W w g (feed b db f :: disk db d :: H))
    (hR : ∀ w', Sat W w' g (feed b db (f.foldR d fl tm).2.1 :: disk db (f.foldR d fl tm).2.2 :: H) → R (.returned (.int .i64 (f.foldR d fl tm).1)) w') : Calls Tryz.prog 38 #[ptr b, .int .u64 fl, .int .u64 tm] w R := by
  have HR := Lib.hid hR
  clear hR
  have ag1 := ag_sg
  obtain ⟨a, c, hok, hs⟩ := feed_open hs
  refine C.calls (args := [ptr b, .int .u64 fl, .int .u64 tm]) Tryz.func38 rfl rfl rfl ?_
  refine go ?_
  have bad : (fl < f.floor ∨ f.next ≤ fl ∨ f.dirty = true) → ∀ w', Sat W w' g (blk b (f.cs db a c) 167 :: owno 29 4 (.slice a f.l.length c) f.l.length (sgC f.l) :: disk db d :: H) → R (.returned (.int .i64 1)) w' := by
    intro h w' hs
    have key := HR.out w'
    simp only [Fe.foldR, if_pos h] at key
    exact key (feed_close hok hs)
  cases h1 : decide ((fl : Int) < f.floor) with
  | true =>
    have h1 := of_decide_eq_true h1
    refine go ?_
    refine A.r1 ?_
    exact bad (.inl (by omega)) _ hs
  | false =>
  have h1 := of_decide_eq_false h1
  refine go ?_
  refine E.callf Tryz.func40 rfl ?_
  refine fnext_raw hsm hok hs ?_
  intro w1 hs
  refine go ?_
  cases h2 : decide (((f.next : Nat) : Int) ≤ fl) with
  | true =>
    have h2 := of_decide_eq_true h2
    refine go ?_
    refine A.r1 ?_
    exact bad (.inr (.inl (by omega))) _ hs
  | false =>
  have h2 := of_decide_eq_false h2
  refine go ?_
  cases h3 : f.dirty with
  | true =>
    refine go ?_
    refine A.r1 ?_
    exact bad (.inr (.inr h3)) _ hs
  | false =>
  clear bad
  have key := HR.out
  simp only [Fe.foldR] at key
  rw [if_neg (fun h => by
    rcases h with h | h | h
    · omega
    · omega
    · rw [h3] at h; cases h)] at key
  have h3 := Lib.hid h3
  refine go ?_
  refine E.sto (vs := [.int .u64 fl]) (ys := ({ f with floor := fl } : Fe).cs db a c) hs ?_ (hv := rfl) (hsp := rfl)
  intro w2 hs
  refine go ?_
  have emx : Max.max (f.time : Int) (tm : Int) = ((max f.time tm : Nat) : Int) := by omega
  rw [emx]
  clear emx
  refine E.sto (vs := [.int .u64 (max f.time tm : Nat)]) (ys := ({ f with floor := fl, time := max f.time tm } : Fe).cs db a c) hs ?_ (hv := rfl) (hsp := rfl)
  intro w3 hs
  refine gob ?_
  have htm2 := hok.time
  have hs := feed_close (f := { f with floor := fl, time := max f.time tm }) ⟨hok.wr, hfl, by simp only; omega, hok.cap, hok.l⟩ hs
  have hwr := hok.wr
  clear hok
  refine C.cutQ (fun _ : Unit => []) (fun _ w => (trimR fl f.l d).1 = 0 ∧ Sat W w g (feed b db { f with floor := fl, time := max f.time tm, l := (trimR fl f.l d).2.1 } :: disk db (trimR fl f.l d).2.2 :: H)) ?_ ?_
  · refine C.block ?_
    refine C.lp (fun q : List Sg × Dk => [(0, ptr b), (1, .int .u64 fl)])
      (fun gk q w => gk = q.1.length ∧ trimR fl f.l d = trimR fl q.1 q.2 ∧ (∀ s ∈ q.1, s.size ≤ 4000000000000000000 ∧ s.x.es.length ≤ 1000000000) ∧ Sat W w g (feed b db { f with floor := fl, time := max f.time tm, l := q.1 } :: disk db q.2 :: H)) f.l.length (f.l, d) ⟨rfl, rfl, hsm, hs⟩ ?_
    clear hs
    rintro gk ⟨L, d1⟩ w4 ⟨rfl, hT, hsm1, hs⟩
    simp only at hT hsm1 hs ⊢
    replace hT := Lib.hid hT
    obtain ⟨a, c, hok, hs⟩ := feed_open hs
    by_cases hlen : 1 < L.length
    rotate_left
    · have hT2 : trimR fl L d1 = (0, L, d1) := by
        match L, hlen with
        | [], _ => rfl
        | [s], _ => rfl
        | s :: t :: r, h => simp at h
      have hd1 : decide ((1 : Int) < L.length) = false := decide_eq_false (by omega)
      replace hd1 := Lib.hid hd1
      clear hlen
      refine go ?_
      rw [hd1.out]
      refine go ?_
      refine A.mt () ⟨?_, ?_⟩
      · rw [hT.out, hT2]
      · rw [hT.out, hT2]
        exact feed_close hok hs
    obtain ⟨s, t, r, rfl⟩ : ∃ s t r, L = s :: t :: r := by
      match L, hlen with
      | [], h => simp at h
      | [_], h => simp at h
      | s :: t :: r, _ => exact ⟨s, t, r, rfl⟩
    obtain ⟨rb, off, p, cur, h4, hs⟩ := row_open (j := 0) (by simp) rfl hs.swap
    have hgd : s.x.ok g ∧ s.wr = f.wr ∧ s.first < 18446744073709551616 := hok.l s (by simp)
    have hss := hsm1 s (by simp)
    have h4 : At4 a (s :: t :: r).length c rb off p 0 cur (s :: t :: r) s := h4
    have hnl : ((s :: t :: r).length : Int) = r.length + 2 := by simp only [List.length_cons]; omega
    have hlen1 : (1 : Int) < ((s :: t :: r).length : Nat) := by omega
    replace hnl := Lib.hid hnl
    clear hlen1 hlen
    refine go ?_
    rw [decide_eq_true (show (1 : Int) < r.length + 1 + 1 by omega)]
    refine go ?_
    refine E.pv (Pv.indexAddr rfl rfl (h4.ix (i := 0) rfl)) ?_
    refine go ?_
    refine E.ldp hs ?_ (hv := h4.at4) (vs := s.cs)
    refine go ?_
    refine E.callf Tryz.func26 rfl ?_
    refine sgNext_any (s := s) hgd.2.2 hss.2 hs ?_
    intro w5 hs
    refine go ?_
    cases hnx : decide (((s.next : Nat) : Int) ≤ (fl + 1 : Nat)) with
    | false =>
      have hnx := of_decide_eq_false hnx
      have hT2 : trimR fl (s :: t :: r) d1 = (0, s :: t :: r, d1) := by
        unfold trimR
        rw [if_neg (by omega)]
      refine go ?_
      refine A.mt () ⟨?_, ?_⟩
      · rw [hT.out, hT2]
      · rw [hT.out, hT2]
        exact feed_close hok (row_close h4 hs).swap
    | true =>
    have hnx := of_decide_eq_true hnx
    have hT2 : trimR fl (s :: t :: r) d1 = (if (d1.remove (nameB s.wr s.first)).1 ≠ 0 then ((d1.remove (nameB s.wr s.first)).1, s :: t :: r, (d1.remove (nameB s.wr s.first)).2) else trimR fl (t :: r) (d1.remove (nameB s.wr s.first)).2) := by
      conv => lhs; unfold trimR
      rw [if_pos (by omega)]
    replace hT2 := Lib.hid hT2
    clear hnx
    refine go ?_
    refine E.pv (Pv.indexAddr rfl rfl (h4.ix (i := 0) rfl)) ?_
    refine go ?_
    refine E.ldp hs ?_ (hv := h4.at4) (vs := s.cs)
    refine go ?_
    refine E.al hs ?_
    intro b7 w6 hs
    refine E.sto (vs := s.cs) (ys := s.cs) hs ?_ (hv := rfl) (hsp := rfl)
    intro w7 hs
    refine go ?_
    refine C.held2 b7 b hs ?_
    intro w8 hk hs
    refine goh ?_
    refine EH.one (St.callf Tryz.func18 rfl ?_)
    refine segName_any (i := s.wr) (n := s.first) hg (by omega) hgd.2.2 hs ?_
    intro w9 hs
    refine kept2 hs (fun hk => ?_) (Hl.le_refl _)
    refine goh ?_
    refine EH.one (St.callf Tryz.func106 rfl ?_)
    refine remove_any hs.pull3 ?_
    intro w10 hs
    refine kept2 hs (fun hk => ?_) (Hl.le_refl _)
    refine goh ?_
    refine EH.done ?_
    refine go ?_
    by_cases hz : (d1.remove (nameB s.wr s.first)).1 = 0
    · have hdd : (!decide ((d1.remove (nameB s.wr s.first)).1 = 0)) = false := by simp [hz]
      refine C.cond rfl (fun h => by rw [hdd] at h; cases h) (fun _ => ?_)
      clear hdd
      have hT3 := hT2.out
      rw [if_neg (by simp [hz])] at hT3
      replace hT3 := Lib.hid (hT.out.trans hT3)
      replace hz := Lib.hid hz
      have hs := row_close h4 hs.swap.drop.swap
      refine go ?_
      refine E.sla el_sg hs (by simp) ?_
      intro a' hs
      refine go ?_
      refine E.sto (vs := [.slice a' (t :: r).length (c - 1)]) (ys := ({ f with floor := fl, time := max f.time tm, l := t :: r } : Fe).cs db a' (c - 1)) hs ?_ (hv := rfl) (hsp := rfl)
      intro w11 hs
      refine go ?_
      refine A.rd (t :: r).length (t :: r, (d1.remove (nameB s.wr s.first)).2) ⟨rfl, hT3.out, fun u hu => hsm1 u (by simp only [List.mem_cons] at hu ⊢; exact .inr hu), ?_⟩
      exact feed_close ⟨hok.wr, hok.floor, hok.time, hok.cap, fun u hu => hok.l u (by simp only [List.mem_cons] at hu ⊢; exact .inr hu)⟩ (hs.pull2)
    · have hdd : (!decide ((d1.remove (nameB s.wr s.first)).1 = 0)) = true := by simp [hz]
      refine C.cond rfl (fun _ => ?_) (fun h => by rw [hdd] at h; cases h)
      clear hdd
      have hT3 := hT2.out
      rw [if_pos hz] at hT3
      replace hT3 := Lib.hid (hT.out.trans hT3)
      refine go ?_
      refine A.r1 ?_
      have key := key w10
      rw [hT3.out] at key
      exact key (feed_close hok (row_close h4 hs.swap.drop.swap).pull2)
  clear hs
  rintro _ w9 ⟨hz, hs⟩
  refine go ?_
  refine A.r1 ?_
  have key := key w9
  rw [hz] at key
  exact key hs
end Go.Proofs.YtdkbpcibmipelaaGreatDoor
