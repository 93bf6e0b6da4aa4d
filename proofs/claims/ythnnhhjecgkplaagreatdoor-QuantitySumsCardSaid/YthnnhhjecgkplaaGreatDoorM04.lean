/-
  The kit's contracts on strconv, laid by laynum.py at this seat (numbers are the seat's).
-/
import Derived.Shelf.Strconv.Itoa0
import Derived.Shelf.Strconv.Itoa1
import Derived.Shelf.Strconv.Itoa2
import Derived.Test.YthnnhhjecgkplaaGreatDoorProg
import Derived.Test.YthnnhhjecgkplaaGreatDoorM03
import Derived.Test.YthnnhhjecgkplaaGreatDoorM02
import Derived.WalkMore
import Derived.Test.YthnnhhjecgkplaaGreatDoorRows
import Derived.OpenShut
import Derived.ChangeOld
import Derived.Laws.Cover2
import Derived.Stop.LaidErr
import Derived.MakeChecks
import Derived.Lib.LaidTab
import Derived.ChangeArms
namespace Go.Proofs.YthnnhhjecgkplaaGreatDoor
open Go.Shelf
def Tryz.lay129_ren : Go.Shelf.Ren := ⟨fun | 129 => 50 | n => n, fun | 53 => 25 | 3 => 3 | 4 => 4 | 46 => 92 | 5 => 5 | 9 => 9 | n => n, fun | n => n⟩
theorem Tryz.lay129 : Go.Proofs.Lays.n129 Tryz.prog Tryz.lay129_ren := {
  mixed := by kernel_rfl
  f129 := Tryz.func50.trans (congrArg some (by kernel_rfl))
  t3 := Tryz.underlying3
  a3 := Tryz.isAgg3
  z3 := Tryz.sizeOf3
  v3 := Tryz.zeroValue3
  t4 := Tryz.underlying4
  a4 := Tryz.isAgg4
  z4 := Tryz.sizeOf4
  v4 := Tryz.zeroValue4
  t5 := Tryz.underlying5
  a5 := Tryz.isAgg5
  z5 := Tryz.sizeOf5
  v5 := Tryz.zeroValue5
  t9 := Tryz.underlying9
  a9 := Tryz.isAgg9
  z9 := Tryz.sizeOf9
  v9 := Tryz.zeroValue9
  t46 := Tryz.underlying92
  a46 := Tryz.isAgg92
  z46 := Tryz.sizeOf92
  v46 := Tryz.zeroValue92
  t53 := Tryz.underlying25
  a53 := Tryz.isAgg25
  z53 := Tryz.sizeOf25
  v53 := Tryz.zeroValue25 }
def Tryz.lay284_ren : Go.Shelf.Ren := ⟨fun | 284 => 53 | 129 => 50 | 317 => 54 | 318 => 86 | n => n, fun | 53 => 25 | 3 => 3 | 212 => 124 | 0 => 0 | 4 => 4 | 46 => 92 | 5 => 5 | 9 => 9 | n => n, fun | 17 => 6 | n => n⟩
theorem Tryz.lay284 : Go.Proofs.LaysM.n284 Tryz.prog Tryz.lay284_ren := {
  mixed := by kernel_rfl
  f129 := Tryz.func50.trans (congrArg some (by kernel_rfl))
  f284 := Tryz.func53.trans (congrArg some (by kernel_rfl))
  f317 := Tryz.func54.trans (congrArg some (by kernel_rfl))
  f318 := Tryz.func86.trans (congrArg some (by kernel_rfl))
  t0 := Tryz.underlying0
  a0 := Tryz.isAgg0
  z0 := Tryz.sizeOf0
  v0 := Tryz.zeroValue0
  t3 := Tryz.underlying3
  a3 := Tryz.isAgg3
  z3 := Tryz.sizeOf3
  v3 := Tryz.zeroValue3
  t4 := Tryz.underlying4
  a4 := Tryz.isAgg4
  z4 := Tryz.sizeOf4
  v4 := Tryz.zeroValue4
  t5 := Tryz.underlying5
  a5 := Tryz.isAgg5
  z5 := Tryz.sizeOf5
  v5 := Tryz.zeroValue5
  t9 := Tryz.underlying9
  a9 := Tryz.isAgg9
  z9 := Tryz.sizeOf9
  v9 := Tryz.zeroValue9
  t46 := Tryz.underlying92
  a46 := Tryz.isAgg92
  z46 := Tryz.sizeOf92
  v46 := Tryz.zeroValue92
  t53 := Tryz.underlying25
  a53 := Tryz.isAgg25
  z53 := Tryz.sizeOf25
  v53 := Tryz.zeroValue25
  t212 := Tryz.underlying124
  a212 := Tryz.isAgg124
  z212 := Tryz.sizeOf124
  v212 := Tryz.zeroValue124
  g17 := by kernel_rfl
  i0 := by kernel_rfl
  i3 := by kernel_rfl
  i4 := by kernel_rfl
  i5 := by kernel_rfl
  i9 := by kernel_rfl
  i46 := by kernel_rfl
  i53 := by kernel_rfl
  i212 := by kernel_rfl
  m17 := by kernel_rfl }
def Tryz.lay285_ren : Go.Shelf.Ren := ⟨fun | 285 => 85 | n => n, fun | 37 => 54 | 53 => 25 | 3 => 3 | 4 => 4 | 51 => 66 | 9 => 9 | 5 => 5 | 0 => 0 | n => n, fun | n => n⟩
theorem Tryz.lay285 : Go.Proofs.Lays.n285 Tryz.prog Tryz.lay285_ren := {
  mixed := by kernel_rfl
  f285 := Tryz.func85.trans (congrArg some (by kernel_rfl))
  t0 := Tryz.underlying0
  a0 := Tryz.isAgg0
  z0 := Tryz.sizeOf0
  v0 := Tryz.zeroValue0
  t3 := Tryz.underlying3
  a3 := Tryz.isAgg3
  z3 := Tryz.sizeOf3
  v3 := Tryz.zeroValue3
  t4 := Tryz.underlying4
  a4 := Tryz.isAgg4
  z4 := Tryz.sizeOf4
  v4 := Tryz.zeroValue4
  t5 := Tryz.underlying5
  a5 := Tryz.isAgg5
  z5 := Tryz.sizeOf5
  v5 := Tryz.zeroValue5
  t9 := Tryz.underlying9
  a9 := Tryz.isAgg9
  z9 := Tryz.sizeOf9
  v9 := Tryz.zeroValue9
  t37 := Tryz.underlying54
  a37 := Tryz.isAgg54
  z37 := Tryz.sizeOf54
  v37 := Tryz.zeroValue54
  t51 := Tryz.underlying66
  a51 := Tryz.isAgg66
  z51 := Tryz.sizeOf66
  v51 := Tryz.zeroValue66
  t53 := Tryz.underlying25
  a53 := Tryz.isAgg25
  z53 := Tryz.sizeOf25
  v53 := Tryz.zeroValue25 }
end Go.Proofs.YthnnhhjecgkplaaGreatDoor

/-
  Layer 1 (quantity): a half as a word: FormatFloat at one number.
-/
namespace Go.Proofs.YthnnhhjecgkplaaGreatDoor
open Go.RowKit
set_option linter.unusedVariables false
set_option linter.unusedSimpArgs false

/-- What the calls lean on. -/
structure GlQ (g : Hl) : Prop where
  hi : GlC g 10 730 (.int .u64 12800000000000000000)
  lo : GlC g 10 731 (.int .u64 0)
  tab : ∃ e fz, g 6 = some (.cells (Lib.pow10Tab.map fun z => Value.int .u64 z).toArray e fz)
theorem GlQ.mono {g g' : Hl} (h : GlQ g) (hg : Hl.le g g') : GlQ g' := ⟨h.hi.mono hg, h.lo.mono hg, by
  obtain ⟨e, fz, h1⟩ := h.tab
  exact ⟨e, fz, hg _ _ h1⟩⟩
theorem GlQ.tabIs {W w : World} {g : Hl} {H : List HP} (h : GlQ g) (hs : Sat W w g H) : Lib.TabIs Tryz.prog w "internal/strconv.uint64pow10" .u64 Lib.pow10Tab := by
  obtain ⟨e, fz, h1⟩ := h.tab
  have h2 := hs.pool h1
  have gN : Program.globalNamed Tryz.prog "internal/strconv.uint64pow10" = some 6 := by kernel_rfl
  unfold Lib.TabIs World.var?
  rw [gN]
  simp only [Option.bind_some, h2]

set_option maxHeartbeats 1600000 in
set_option maxRecDepth 100000 in
theorem mulA {R : Ending → World → Prop} {w : World} (hR : R (.returned (.tuple #[.int .u64 6399999999999999644, .int .u64 13440890240600375296])) w) : Calls Tryz.prog 105 #[.int .u64 9223372036854775296, .int .u64 12800000000000000000] w R := by
  have HR := Lib.hid hR
  clear hR
  refine C.calls (args := [.int .u64 9223372036854775296, .int .u64 12800000000000000000]) Tryz.func105 rfl rfl rfl ?_
  refine go ?_
  refine A.r2 ?_
  exact HR.out
set_option maxHeartbeats 1600000 in
set_option maxRecDepth 100000 in
theorem lp17 {R : Ending → World → Prop} {w : World} (hR : R (.returned (.int .i64 56)) w) : Calls Tryz.prog 79 #[.int .i64 17] w R := by
  have HR := Lib.hid hR
  clear hR
  refine C.calls (args := [.int .i64 17]) Tryz.func79 rfl rfl rfl ?_
  refine go ?_
  refine A.r1 ?_
  exact HR.out
set_option maxHeartbeats 1600000 in
set_option maxRecDepth 100000 in
theorem skew53 {R : Ending → World → Prop} {w : World} (hR : R (.returned (.int .i64 (-17))) w) : Calls Tryz.prog 77 #[.int .i64 (-53)] w R := by
  have HR := Lib.hid hR
  clear hR
  refine C.calls (args := [.int .i64 (-53)]) Tryz.func77 rfl rfl rfl ?_
  refine go ?_
  refine A.r1 ?_
  exact HR.out
set_option maxHeartbeats 1600000 in
set_option maxRecDepth 100000 in
theorem pre17 {R : Ending → World → Prop} {W w : World} {g : Hl} {H : List HP} {b : Nat} {cs : List Value} (hg : GlQ g) (hc : cs = [.int .u64 0, .int .u64 0, .int .i64 0]) (hs : Sat W w g (blk b cs 115 :: H))
    (hR : ∀ w', Sat W w' g (blk b [.int .u64 12800000000000000000, .int .u64 0, .int .i64 5] 115 :: H) → R (.returned (.tuple #[])) w') : Calls Tryz.prog 78 #[(.pointer (some ⟨b, 0, none⟩)), .int .i64 (-64), .int .i64 17, .int .i64 56] w R := by
  have HR := Lib.hid hR
  clear hR
  subst hc
  have c1 := hg.hi.at hs
  have c2 := hg.lo.at hs
  refine C.calls (args := [.pointer (some ⟨b, 0, none⟩), .int .i64 (-64), .int .i64 17, .int .i64 56]) Tryz.func78 rfl rfl rfl ?_
  refine go ?_
  refine E.sto hs ?_
  intro w1 hs
  refine go ?_
  have c2 := hg.lo.at hs
  refine go ?_
  refine E.sto hs ?_
  intro w2 hs
  refine go ?_
  refine E.pv Pv.negw ?_
  refine go ?_
  rw [show IntKind.i64.wrap (-(-64 + 56 + 3)) = 5 by decide]
  refine E.sto hs ?_
  intro w3 hs
  refine go ?_
  refine A.e0 ?_
  exact HR.out _ hs
set_option maxHeartbeats 1600000 in
set_option maxRecDepth 100000 in
theorem mulB {R : Ending → World → Prop} {w : World} (hR : R (.returned (.tuple #[.int .u64 6400000000000000710, .int .u64 10011707666218352640])) w) : Calls Tryz.prog 105 #[.int .u64 9223372036854776832, .int .u64 12800000000000000000] w R := by
  have HR := Lib.hid hR
  clear hR
  refine C.calls (args := [.int .u64 9223372036854776832, .int .u64 12800000000000000000]) Tryz.func105 rfl rfl rfl ?_
  refine go ?_
  refine A.r2 ?_
  exact HR.out
set_option maxHeartbeats 1600000 in
set_option maxRecDepth 100000 in
theorem uscA {R : Ending → World → Prop} {W w : World} {g : Hl} {H : List HP} {b : Nat} (hs : Sat W w g (blk b [.int .u64 12800000000000000000, .int .u64 0, .int .i64 5] 115 :: H))
    (hR : R (.returned (.int .u64 199999999999999989)) w) : Calls Tryz.prog 80 #[.int .u64 9223372036854775296, .pointer (some ⟨b, 0, none⟩)] w R := by
  have HR := Lib.hid hR
  clear hR
  refine C.calls (args := [.int .u64 9223372036854775296, .pointer (some ⟨b, 0, none⟩)]) Tryz.func80 rfl rfl rfl ?_
  refine go ?_
  refine E.callf Tryz.func105 rfl ?_
  refine mulA ?_
  refine go ?_
  refine A.r1 ?_
  exact HR.out
set_option maxHeartbeats 1600000 in
set_option maxRecDepth 100000 in
theorem uscB {R : Ending → World → Prop} {W w : World} {g : Hl} {H : List HP} {b : Nat} (hs : Sat W w g (blk b [.int .u64 12800000000000000000, .int .u64 0, .int .i64 5] 115 :: H))
    (hR : R (.returned (.int .u64 200000000000000023)) w) : Calls Tryz.prog 80 #[.int .u64 9223372036854776832, .pointer (some ⟨b, 0, none⟩)] w R := by
  have HR := Lib.hid hR
  clear hR
  refine C.calls (args := [.int .u64 9223372036854776832, .pointer (some ⟨b, 0, none⟩)]) Tryz.func80 rfl rfl rfl ?_
  refine go ?_
  refine E.callf Tryz.func105 rfl ?_
  refine mulB ?_
  refine go ?_
  refine A.r1 ?_
  exact HR.out
set_option maxHeartbeats 1600000 in
set_option maxRecDepth 100000 in
theorem nudA {R : Ending → World → Prop} {w : World} (hR : R (.returned (.int .u64 199999999999999989)) w) : Calls Tryz.prog 81 #[.int .u64 199999999999999989, .int .i64 0] w R := by
  have HR := Lib.hid hR
  clear hR
  refine C.calls (args := [.int .u64 199999999999999989, .int .i64 0]) Tryz.func81 rfl rfl rfl ?_
  refine go ?_
  refine A.r1 ?_
  exact HR.out
set_option maxHeartbeats 1600000 in
set_option maxRecDepth 100000 in
theorem nudB {R : Ending → World → Prop} {w : World} (hR : R (.returned (.int .u64 200000000000000023)) w) : Calls Tryz.prog 81 #[.int .u64 200000000000000023, .int .i64 0] w R := by
  have HR := Lib.hid hR
  clear hR
  refine C.calls (args := [.int .u64 200000000000000023, .int .i64 0]) Tryz.func81 rfl rfl rfl ?_
  refine go ?_
  refine A.r1 ?_
  exact HR.out
set_option maxHeartbeats 1600000 in
set_option maxRecDepth 100000 in
theorem ceilA {R : Ending → World → Prop} {w : World} (hR : R (.returned (.int .u64 49999999999999998)) w) : Calls Tryz.prog 82 #[.int .u64 199999999999999989] w R := by
  have HR := Lib.hid hR
  clear hR
  refine C.calls (args := [.int .u64 199999999999999989]) Tryz.func82 rfl rfl rfl ?_
  refine go ?_
  refine A.r1 ?_
  exact HR.out
set_option maxHeartbeats 1600000 in
set_option maxRecDepth 100000 in
theorem floorB {R : Ending → World → Prop} {w : World} (hR : R (.returned (.int .u64 50000000000000005)) w) : Calls Tryz.prog 83 #[.int .u64 200000000000000023] w R := by
  have HR := Lib.hid hR
  clear hR
  refine C.calls (args := [.int .u64 200000000000000023]) Tryz.func83 rfl rfl rfl ?_
  refine go ?_
  refine A.r1 ?_
  exact HR.out
set_option maxHeartbeats 1600000 in
set_option maxRecDepth 100000 in
theorem short_half {R : Ending → World → Prop} {W w : World} {g : Hl} {H : List HP} (hg : GlQ g) (hs : Sat W w g H)
    (hR : ∀ w', Sat W w' g H → R (.returned (.tuple #[.int .u64 5000000000000000, .int .i64 (-16)])) w') : Calls Tryz.prog 59 #[.int .u64 9223372036854775808, .int .i64 (-64)] w R := by
  have HR := Lib.hid hR
  clear hR
  refine C.calls (args := [.int .u64 9223372036854775808, .int .i64 (-64)]) Tryz.func59 rfl rfl rfl ?_
  refine go ?_
  refine E.callf Tryz.func77 rfl ?_
  refine skew53 ?_
  refine E.pv Pv.negw ?_
  refine go ?_
  refine E.al hs ?_
  intro b12 w1 hs
  refine go ?_
  refine E.callf Tryz.func79 rfl ?_
  refine lp17 ?_
  refine go ?_
  refine E.callf Tryz.func78 rfl ?_
  refine pre17 hg rfl hs ?_
  intro w2 hs
  refine go ?_
  refine E.callf Tryz.func80 rfl ?_
  refine uscA hs ?_
  refine go ?_
  refine E.callf Tryz.func81 rfl ?_
  refine nudA ?_
  refine go ?_
  refine E.callf Tryz.func82 rfl ?_
  refine ceilA ?_
  refine go ?_
  refine E.callf Tryz.func80 rfl ?_
  refine uscB hs ?_
  refine go ?_
  refine E.pv Pv.negw ?_
  refine go ?_
  refine E.callf Tryz.func81 rfl ?_
  refine nudB ?_
  refine go ?_
  refine E.callf Tryz.func83 rfl ?_
  refine floorB ?_
  refine go ?_
  refine E.pv Pv.negw ?_
  refine go ?_
  refine A.r2 ?_
  exact HR.out _ hs.drop
end Go.Proofs.YthnnhhjecgkplaaGreatDoor

/-
  Rows of bytes.
-/
namespace Go.Proofs.YthnnhhjecgkplaaGreatDoor
open Go.RowKit
set_option linter.unusedVariables false
set_option linter.unusedSimpArgs false

theorem el_u8 : ElemOf Tryz.prog 54 5 (.int .u8 0) 1 1 := .of Tryz.underlying54 (by kernel_rfl) rfl (by decide)
theorem one_bs (l : List UInt8) : ∀ u ∈ bs l, u.oneCell' = true := bs_one l
end Go.Proofs.YthnnhhjecgkplaaGreatDoor

/-
  A half as a word, on: its digits.
-/
namespace Go.Proofs.YthnnhhjecgkplaaGreatDoor
open Go.RowKit
set_option linter.unusedVariables false
set_option linter.unusedSimpArgs false

/-- The digits of a half, in a buffer. -/
def bufH : List Value := Value.int .u8 53 :: List.replicate 15 (.int .u8 48) ++ List.replicate 16 (.int .u8 0)
theorem base10_half {R : Ending → World → Prop} {W w : World} {g : Hl} {H : List HP} {b c : Nat} (hs : Sat W w g (blk b (List.replicate 32 (.int .u8 0)) 71 :: H))
    (hR : ∀ w', Sat W w' g (blk b bufH 71 :: H) → R (.returned (.tuple #[])) w') :
    Calls Tryz.prog 85 #[.slice (some ⟨b, 0, none⟩) 16 c, .int .u64 5000000000000000] w R := by
  have hb : w.heap[b]? = some (.cells (List.replicate 32 (Value.int .u8 0)).toArray 71 (0, 0)) := hs.block
  have key := Any.internal_strconv_formatBase10 Tryz.lay285 b 0 c 5000000000000000 (Array.replicate 16 (0 : UInt8)) w (fun j hj => by
    have hj' : j < 16 := by simpa using hj
    refine ⟨?_, ?_⟩
    · have hz : (Array.replicate 16 (0 : UInt8))[j]! = 0 := by rw [getElem!_pos _ j hj]; simp
      have hr : (List.replicate 32 (Value.int .u8 0)).toArray[0 + j]? = some (Value.int .u8 0) := by
        rw [List.getElem?_toArray, List.getElem?_replicate, if_pos (by omega)]
      simp only [World.cell?, hb, hz]
      exact hr
    · simp [World.frozen?, hb]) (by simp) (by decide) (by simp)
  refine Calls.mono key fun e w' ⟨he, n, v', dk, hw, hf⟩ => ?_
  subst he
  refine hR w' ?_
  have hsz : dk.size = 16 := by rw [hf.size]; simp
  have hd : ∀ t, t < 16 → dk[t]! = if t = 0 then 53 else 48 := by
    intro t ht
    rw [hf.done t (Nat.zero_le _) (by simpa using ht)]
    have : ∀ t : Fin 16, Lib.dg 5000000000000000 (16 - 1 - t.val) = if t.val = 0 then 53 else 48 := by decide +kernel
    have h2 := this ⟨t, ht⟩
    simpa using h2
  have hX : Sort.putCells (fun (b : UInt8) => Value.int .u8 (b.toNat : Int)) 0 dk (List.replicate 32 (Value.int .u8 0)).toArray = bufH.toArray := by
    apply Array.ext_getElem?
    intro i
    unfold Sort.putCells
    rw [Array.getElem?_mapIdx, hsz]
    by_cases hi : i < 16
    · have h1 : bufH[i]? = some (Value.int .u8 (if i = 0 then 53 else 48)) := by
        unfold bufH
        rw [List.cons_append]
        cases i with
        | zero => rfl
        | succ k => rw [List.getElem?_cons_succ, List.getElem?_append, List.length_replicate, if_pos (by omega), List.getElem?_replicate, if_pos (by omega), if_neg (by omega)]
      simp only [List.getElem?_toArray, h1, List.getElem?_replicate, if_pos (show i < 32 by omega), Option.map_some, Nat.zero_le, Nat.zero_add, true_and, if_pos hi, Nat.sub_zero, hd i hi]
      by_cases h0 : i = 0
      · rw [if_pos h0, if_pos h0]; rfl
      · rw [if_neg h0, if_neg h0]; rfl
    · by_cases hi2 : i < 32
      · have h1 : bufH[i]? = some (Value.int .u8 0) := by
          unfold bufH
          rw [List.cons_append]
          cases i with
          | zero => omega
          | succ k => rw [List.getElem?_cons_succ, List.getElem?_append, List.length_replicate, if_neg (by omega), List.getElem?_replicate, if_pos (by omega)]
        simp only [List.getElem?_toArray, h1, List.getElem?_replicate, if_pos hi2, Option.map_some, Nat.zero_le, Nat.zero_add, true_and, if_neg hi]
      · have h1 : bufH[i]? = none := List.getElem?_eq_none (by simp [bufH]; omega)
        simp only [List.getElem?_toArray, h1, List.getElem?_replicate, if_neg hi2, Option.map_none]
  have hu := Sat.update (w' := w') (o' := .cells bufH.toArray 71 (0, 0)) hs (by rw [hw]; rfl) (by rw [hw]; rfl) (by rw [hw]; rfl) (by
    rw [hw]
    simp only [Sort.putRow, Sort.mapBlock, World.heap_drewN, Array.getElem?_modify, if_true, hb, Option.map_some, Sort.onCells, hX]) (fun k _ hk => by
    rw [hw]
    simp only [Sort.putRow, Sort.mapBlock, World.heap_drewN, Array.getElem?_modify, if_neg (Ne.symm hk)])
  exact hu
theorem bufH_at {k : Nat} (h1 : 1 ≤ k) (h2 : k < 16) : bufH[k]? = some (Value.int .u8 48) := by
  unfold bufH
  rw [List.cons_append]
  cases k with
  | zero => omega
  | succ k => rw [List.getElem?_cons_succ, List.getElem?_append, List.length_replicate, if_pos (by omega), List.getElem?_replicate, if_pos (by omega)]
set_option maxHeartbeats 1600000 in
set_option maxRecDepth 100000 in
theorem digits_half {R : Ending → World → Prop} {W w : World} {g : Hl} {H : List HP} {b : Nat} (hs : Sat W w g (blk b (List.replicate 32 (.int .u8 0)) 71 :: H))
    (hR : ∀ w', Sat W w' g (blk b bufH 71 :: H) → R (.returned (.tuple #[.int .i64 0, .int .i64 1])) w') :
    Calls Tryz.prog 52 #[.slice (some ⟨b, 0, none⟩) 32 32, .int .u64 5000000000000000, .int .i64 (-16), .int .i64 16] w R := by
  have HR := Lib.hid hR
  clear hR
  refine C.calls (args := [.slice (some ⟨b, 0, none⟩) 32 32, .int .u64 5000000000000000, .int .i64 (-16), .int .i64 16]) Tryz.func52 rfl rfl rfl ?_
  refine go ?_
  refine E.pv (Pv.slice rfl rfl rfl rfl (fun w => run_slice_h_at (kd' := .i64) (h := 16) el_u8 (by decide) w)) ?_
  refine go ?_
  refine E.callf Tryz.func85 rfl ?_
  refine base10_half hs ?_
  intro w2 hs
  refine gob ?_
  refine C.cut (fun _ : Unit => [(3, .int .i64 1), (8, .int .i64 0)]) (fun _ w => Sat W w g (blk b bufH 71 :: H)) ?_ ?_
  · refine C.block ?_
    refine C.lp (fun k : Nat => [(0, .slice (some ⟨b, 0, none⟩) 32 32), (3, .int .i64 k), (8, .int .i64 0)]) (fun gk k w => gk = k ∧ 1 ≤ k ∧ k ≤ 16 ∧ Sat W w g (blk b bufH 71 :: H)) 16 16 ⟨rfl, by decide, by decide, hs⟩ ?_
    clear hs
    rintro gk k w3 ⟨rfl, hk1, hk2, hs⟩
    refine go ?_
    rw [show decide ((0 : Int) < (gk : Int)) = true from decide_eq_true (by omega)]
    obtain ⟨q, rfl⟩ : ∃ q, gk = q + 1 := ⟨gk - 1, by omega⟩
    have hq : q < 32 := by omega
    refine go ?_
    rw [show ((q + 1 : Nat) : Int) - 1 = (q : Int) by omega]
    refine go ?_
    refine E.pv (Pv.indexAddr rfl rfl (fun w => run_index_at el_u8 (j := q) rfl hq w)) ?_
    rw [show 0 + q * 1 = q by omega]
    apply E.guard
    exact rfl
    exact rfl
    by_cases h0 : q = 0
    · subst h0
      refine E.ld hs ?_ (v := .int .u8 53) (hj := rfl)
      refine go ?_
      exact A.mt () hs
    · refine E.ld hs ?_ (v := .int .u8 48) (hj := bufH_at (by omega) (by omega))
      refine go ?_
      rw [show ((q + 1 : Nat) : Int) - 1 = (q : Int) by omega]
      exact A.rd q q ⟨rfl, by omega, by omega, hs⟩
  clear hs
  rintro _ w4 hs
  refine go ?_
  refine A.r2 ?_
  exact HR.out _ hs
end Go.Proofs.YthnnhhjecgkplaaGreatDoor

/-
  A half as a word, on: fmtEFG, ftoa64, FormatFloat, Text.
-/
namespace Go.Proofs.YthnnhhjecgkplaaGreatDoor
open Go.RowKit
set_option linter.unusedVariables false
set_option linter.unusedSimpArgs false

set_option maxHeartbeats 3200000 in
set_option maxRecDepth 100000 in
theorem efg_half {R : Ending → World → Prop} {W w : World} {g : Hl} {H : List HP} {b c : Nat} {a : Option Addr} (hs : Sat W w g (own 5 1 (.slice a 0 c) 0 [] :: blk b bufH 71 :: H))
    (hR : ∀ a' c' w', Sat W w' g (own 5 1 (.slice a' 5 c') 5 (bs [53, 101, 45, 48, 49]) :: blk b bufH 71 :: H) → R (.returned (.slice a' 5 c')) w') :
    Calls Tryz.prog 49 #[.slice a 0 c, .bool false, .slice (some ⟨b, 0, none⟩) 32 32, .int .i64 0, .int .i64 1, .int .i64 0, .int .u8 101, .bool true] w R := by
  have HR := Lib.hid hR
  clear hR
  refine C.calls (args := [.slice a 0 c, .bool false, .slice (some ⟨b, 0, none⟩) 32 32, .int .i64 0, .int .i64 1, .int .i64 0, .int .u8 101, .bool true]) Tryz.func49 rfl rfl rfl ?_
  refine go ?_
  refine E.bsl hs ?_
  intro b41 w41 hs
  refine E.app el_u8 hs.swap (hs.rowOf (size := 1) 1 rfl (by decide)) ?_
  intro a41 c41 x41 _ _ hs
  replace hs := hs.swap.drop
  refine go ?_
  refine E.bsl hs ?_
  intro b42 w42 hs
  refine E.app el_u8 hs.swap (hs.rowOf (size := 1) 1 rfl (by decide)) ?_
  intro a42 c42 x42 _ _ hs
  replace hs := hs.swap.drop
  refine go ?_
  refine E.pv Pv.negw ?_
  rw [show IntKind.i64.wrap (-(0 - 1)) = 1 by decide]
  refine go ?_
  refine E.bsl hs ?_
  intro b43 w43 hs
  refine E.app el_u8 hs.swap (hs.rowOf (size := 1) 1 rfl (by decide)) ?_
  intro a43 c43 x43 _ _ hs
  replace hs := hs.swap.drop
  refine go ?_
  refine E.bsl hs ?_
  intro b44 w44 hs
  refine E.app el_u8 hs.swap (hs.rowOf (size := 1) 2 rfl (by decide)) ?_
  intro a44 c44 x44 _ _ hs
  replace hs := hs.swap.drop
  refine go ?_
  refine A.r1 ?_
  exact HR.out _ _ _ hs
theorem run_slice_all {P : Program} {t e : TypeId} {b m : Nat} (ht : P.underlying t = some (.array m e)) (hq : ∀ w, (sizeOf e).run P w = .ok 1 w) (w : World) : (Instr.sliceAt t (.pointer (some ⟨b, 0, none⟩)) none none none).run P w = .ok (.slice (some ⟨b, 0, none⟩) m m) w := by
  by_cases h : m = 0
  · subst h; simp [Instr.sliceAt, Instr.slice, run_underlying ht, Instr.sliceBounds, Instr.sliceBound, hq, go_sem]
  · simp [Instr.sliceAt, Instr.slice, run_underlying ht, Instr.sliceBounds, Instr.sliceBound, hq, go_sem, h, Addr.add_lit]
theorem len_half {R : Ending → World → Prop} {w : World} (hR : R (.returned (.int .i64 53)) w) : Calls Tryz.prog 50 #[.int .u64 4503599627370496] w R := by
  refine Calls.mono (Any.bits_Len64 Tryz.lay129 4503599627370496 w (by decide) (by decide)) fun e w' ⟨he, hw⟩ => ?_
  subst he hw
  exact hR
theorem num_half {R : Ending → World → Prop} {W w : World} {g : Hl} {H : List HP} (hg : GlQ g) (hs : Sat W w g H) (hR : R (.returned (.int .i64 16)) w) : Calls Tryz.prog 53 #[.int .u64 5000000000000000] w R := by
  refine Calls.mono (Any.internal_strconv_numDigits Tryz.lay284 5000000000000000 (by decide) (by decide) w (hg.tabIs hs)) fun e w' ⟨he, hw⟩ => ?_
  subst he hw
  have : Lib.nDigits 5000000000000000 = 16 := by decide +kernel
  rw [this]
  exact hR
set_option maxHeartbeats 3200000 in
set_option maxRecDepth 100000 in
theorem ftoa_half {R : Ending → World → Prop} {W w : World} {g : Hl} {H : List HP} {c : Nat} {a : Option Addr} (hg : GlQ g) (hs : Sat W w g (own 5 1 (.slice a 0 c) 0 [] :: H))
    (hR : ∀ a' c' w', Sat W w' g (own 5 1 (.slice a' 5 c') 5 (bs [53, 101, 45, 48, 49]) :: H) → R (.returned (.slice a' 5 c')) w') :
    Calls Tryz.prog 39 #[.slice a 0 c, .float .f64 4602678819172646912, .int .u8 101, .int .i64 (-1)] w R := by
  have HR := Lib.hid hR
  clear hR
  refine C.calls (args := [.slice a 0 c, .float .f64 4602678819172646912, .int .u8 101, .int .i64 (-1)]) Tryz.func39 rfl rfl rfl ?_
  refine go ?_
  refine E.ext (v := .int .u64 4602678819172646912) (w' := w) Tryz.func46 (ex := Extern.MathFloatBits.float64bits) rfl ?_
  refine go ?_
  refine C.held0 hs ?_
  intro w1 hk hs
  refine goh ?_
  refine EH.done ?_
  refine go ?_
  refine E.al hs (xs := List.replicate 32 (.int .u8 0)) ?_ (hx := rfl)
  intro b16 w2 hs
  refine go ?_
  refine E.callf Tryz.func50 rfl ?_
  refine len_half ?_
  refine go ?_
  refine E.callf Tryz.func59 rfl ?_
  refine short_half hg hs ?_
  intro w3 hs
  refine go ?_
  refine C.held0 hs ?_
  intro w4 hk hs
  refine goh ?_
  refine EH.t0 hk ?_ (hy := Pf.pv (Pv.slice rfl rfl rfl rfl (run_slice_all Tryz.underlying71 (by intro w; exact sz_))))
  refine goh ?_
  refine EH.one (St.callf Tryz.func53 rfl ?_)
  refine num_half hg hs ?_
  refine kept0 hs (fun hk => ?_) (Hl.le_refl _)
  refine goh ?_
  refine EH.one (St.callf Tryz.func52 rfl ?_)
  refine digits_half hs ?_
  intro w5 hs
  refine kept0 hs (fun hk => ?_) (Hl.le_refl _)
  refine goh ?_
  refine EH.done ?_
  refine go ?_
  refine E.pv (Pv.slice rfl rfl rfl rfl (run_slice_all Tryz.underlying71 (by intro w; exact sz_))) ?_
  refine go ?_
  refine E.callf Tryz.func49 rfl ?_
  refine efg_half hs.swap ?_
  intro a6 c6 w6 hs
  refine go ?_
  refine A.r1 ?_
  exact HR.out _ _ _ hs.swap.drop

theorem E.mk0 {P : Program} {n : Fm} {ρ : List (Nat × Value)} {W w : World} {g : Hl} {H : List HP} {Q : Exit → Act → World → Prop} {ops : Array Oper} {rest : List Oper} {d : Option Tmp} {t ty e : TypeId} {ps : String} {af : Array Edge} {x y : Operand} {z : Value} {s bytes k : Nat} {kl kc : IntKind} {j : Int} (he : ElemOf P t e z s bytes) (hs : Sat W w g H)
    (h : ∀ a' w', Sat W w' g (own e s (.slice a' 0 k) 0 [] :: H) → E P n ops rest (pushv d (.slice a' 0 k) ρ) w' Q) (hb : k * bytes ≤ 140737488355328)
    (hx : evo n ρ x = some (.int kl 0)) (hy : evo n ρ y = some (.int kc j)) (hj : j = (k : Int)) (h63 : k ≤ 9223372036854775807) :
    E P n ops (⟨d, .makeSlice t x y, ty, ps, af, none⟩ :: rest) ρ w Q := by
  subst hj
  obtain ⟨ht, ⟨inf, hin, hz, hsz, hby⟩, hzs, hpos⟩ := he
  have hr := run_make (P := P) w t e inf z ht hin hz kl kc 0 (k : Int) (by omega) (by omega) (by rw [hby, Int.mul_comm]; omega) (by omega)
  simp only [Int.toNat_zero, Int.toNat_natCast] at hr
  refine E.cons (St.val (fun a ha => by simp [execOp, ha.eval hx, ha.eval hy, hr]) (h (some ⟨w.heap.size, 0, none⟩) (w.alloc (.cells (madeCells z.cells (k * inf.size)) e)) ?_))
  refine (hs.alloc _).conv fun h e => ⟨by simp, .inr ⟨_, k, _, rfl, Nat.zero_le _, by unfold maxLen; omega, ?_, by simp, e⟩⟩
  rw [size_madeCells, hsz]
set_option maxHeartbeats 3200000 in
set_option maxRecDepth 100000 in
theorem formatI_half {R : Ending → World → Prop} {W w : World} {g : Hl} {H : List HP} (hg : GlQ g) (hs : Sat W w g H)
    (hR : ∀ w', Sat W w' g H → R (.returned (.string ⟨#[53, 101, 45, 48, 49]⟩)) w') :
    Calls Tryz.prog 32 #[.float .f64 4602678819172646912, .int .u8 101, .int .i64 (-1), .int .i64 64] w R := by
  have HR := Lib.hid hR
  clear hR
  refine C.calls (args := [.float .f64 4602678819172646912, .int .u8 101, .int .i64 (-1), .int .i64 64]) Tryz.func32 rfl rfl rfl ?_
  refine go ?_
  refine E.mk0 (k := 24) el_u8 hs ?_ (by decide) rfl rfl (by decide) (by decide)
  intro a1 w1 hs
  refine go ?_
  refine E.callf Tryz.func39 rfl ?_
  refine ftoa_half hg hs ?_
  intro a2 c2 w2 hs
  refine E.strc (bl := [53, 101, 45, 48, 49]) hs.slack.wrow Tryz.underlying54 Tryz.underlying5 Tryz.underlying9 ?_
  refine go ?_
  refine A.r1 ?_
  exact HR.out _ hs.drop
set_option maxHeartbeats 3200000 in
set_option maxRecDepth 100000 in
theorem format_half {R : Ending → World → Prop} {W w : World} {g : Hl} {H : List HP} (hg : GlQ g) (hs : Sat W w g H)
    (hR : ∀ w', Sat W w' g H → R (.returned (.string ⟨#[53, 101, 45, 48, 49]⟩)) w') :
    Calls Tryz.prog 28 #[.float .f64 4602678819172646912, .int .u8 101, .int .i64 (-1), .int .i64 64] w R := by
  have HR := Lib.hid hR
  clear hR
  refine C.calls (args := [.float .f64 4602678819172646912, .int .u8 101, .int .i64 (-1), .int .i64 64]) Tryz.func28 rfl rfl rfl ?_
  refine go ?_
  refine E.callf Tryz.func32 rfl ?_
  refine formatI_half hg hs ?_
  intro w2 hs
  refine go ?_
  refine A.r1 ?_
  exact HR.out _ hs
set_option maxHeartbeats 1600000 in
set_option maxRecDepth 100000 in
theorem infH1 {R : Ending → World → Prop} {w : World} (hR : R (.returned (.bool false)) w) : Calls Tryz.prog 27 #[.float .f64 4602678819172646912, .int .i64 1] w R := by
  have HR := Lib.hid hR
  clear hR
  refine C.calls (args := [.float .f64 4602678819172646912, .int .i64 1]) Tryz.func27 rfl rfl rfl ?_
  refine go ?_
  rw [show (FloatKind.f64.format.order 4602678819172646912 9218868437227405311 == some Ordering.gt) = false by decide +kernel]
  refine A.r1 ?_
  exact HR.out
set_option maxHeartbeats 1600000 in
set_option maxRecDepth 100000 in
theorem infH2 {R : Ending → World → Prop} {w : World} (hR : R (.returned (.bool false)) w) : Calls Tryz.prog 27 #[.float .f64 4602678819172646912, .int .i64 (-1)] w R := by
  have HR := Lib.hid hR
  clear hR
  refine C.calls (args := [.float .f64 4602678819172646912, .int .i64 (-1)]) Tryz.func27 rfl rfl rfl ?_
  refine go ?_
  refine E.pv (v := .float .f64 13826050856027422720) (Pv.unOp rfl fun w => rfl) ?_
  refine go ?_
  rw [show (FloatKind.f64.format.order 13826050856027422720 9218868437227405311 == some Ordering.gt) = false by decide +kernel]
  refine A.r1 ?_
  exact HR.out
set_option maxHeartbeats 1600000 in
set_option maxRecDepth 100000 in
theorem infP1 {R : Ending → World → Prop} {w : World} (hR : R (.returned (.bool true)) w) : Calls Tryz.prog 27 #[.float .f64 9218868437227405312, .int .i64 1] w R := by
  have HR := Lib.hid hR
  clear hR
  refine C.calls (args := [.float .f64 9218868437227405312, .int .i64 1]) Tryz.func27 rfl rfl rfl ?_
  refine go ?_
  rw [show (FloatKind.f64.format.order 9218868437227405312 9218868437227405311 == some Ordering.gt) = true by decide +kernel]
  refine A.r1 ?_
  exact HR.out
set_option maxHeartbeats 1600000 in
set_option maxRecDepth 100000 in
theorem infM1 {R : Ending → World → Prop} {w : World} (hR : R (.returned (.bool false)) w) : Calls Tryz.prog 27 #[.float .f64 18442240474082181120, .int .i64 1] w R := by
  have HR := Lib.hid hR
  clear hR
  refine C.calls (args := [.float .f64 18442240474082181120, .int .i64 1]) Tryz.func27 rfl rfl rfl ?_
  refine go ?_
  rw [show (FloatKind.f64.format.order 18442240474082181120 9218868437227405311 == some Ordering.gt) = false by decide +kernel]
  refine A.r1 ?_
  exact HR.out
set_option maxHeartbeats 1600000 in
set_option maxRecDepth 100000 in
theorem infM2 {R : Ending → World → Prop} {w : World} (hR : R (.returned (.bool true)) w) : Calls Tryz.prog 27 #[.float .f64 18442240474082181120, .int .i64 (-1)] w R := by
  have HR := Lib.hid hR
  clear hR
  refine C.calls (args := [.float .f64 18442240474082181120, .int .i64 (-1)]) Tryz.func27 rfl rfl rfl ?_
  refine go ?_
  refine E.pv (v := .float .f64 9218868437227405312) (Pv.unOp rfl fun w => rfl) ?_
  refine go ?_
  rw [show (FloatKind.f64.format.order 9218868437227405312 9218868437227405311 == some Ordering.gt) = true by decide +kernel]
  refine A.r1 ?_
  exact HR.out
set_option maxHeartbeats 3200000 in
set_option maxRecDepth 100000 in
theorem text_half {R : Ending → World → Prop} {W w : World} {g : Hl} {H : List HP} (hg : GlQ g) (hs : Sat W w g H)
    (hR : ∀ w', Sat W w' g H → R (.returned (.string ⟨#[53, 101, 45, 48, 49]⟩)) w') :
    Calls Tryz.prog 17 #[.float .f64 4602678819172646912] w R := by
  have HR := Lib.hid hR
  clear hR
  refine C.calls (args := [.float .f64 4602678819172646912]) Tryz.func17 rfl rfl rfl ?_
  refine go ?_
  refine E.callf Tryz.func21 rfl ?_
  refine isNaN_any ?_
  rw [show nanF 4602678819172646912 = false by decide +kernel]
  refine go ?_
  refine E.callf Tryz.func27 rfl ?_
  refine infH1 ?_
  refine go ?_
  refine E.callf Tryz.func27 rfl ?_
  refine infH2 ?_
  refine go ?_
  refine E.callf Tryz.func28 rfl ?_
  refine format_half hg hs ?_
  intro w2 hs
  refine go ?_
  refine A.r1 ?_
  exact HR.out _ hs
set_option maxHeartbeats 1600000 in
set_option maxRecDepth 100000 in
theorem text_nan {R : Ending → World → Prop} {w : World} {b : Nat} (hb : nanF b = true) (hR : R (.returned (.string ⟨#[118, 111, 105, 100]⟩)) w) : Calls Tryz.prog 17 #[.float .f64 b] w R := by
  have HR := Lib.hid hR
  clear hR
  refine C.calls (args := [.float .f64 b]) Tryz.func17 rfl rfl rfl ?_
  refine go ?_
  refine E.callf Tryz.func21 rfl ?_
  refine isNaN_any ?_
  rw [hb]
  refine go ?_
  refine A.r1 ?_
  exact HR.out
set_option maxHeartbeats 1600000 in
set_option maxRecDepth 100000 in
theorem text_inf {R : Ending → World → Prop} {w : World} (hR : R (.returned (.string ⟨#[101, 110, 100, 108, 101, 115, 115]⟩)) w) : Calls Tryz.prog 17 #[.float .f64 9218868437227405312] w R := by
  have HR := Lib.hid hR
  clear hR
  refine C.calls (args := [.float .f64 9218868437227405312]) Tryz.func17 rfl rfl rfl ?_
  refine go ?_
  refine E.callf Tryz.func21 rfl ?_
  refine isNaN_any ?_
  rw [show nanF 9218868437227405312 = false by decide +kernel]
  refine go ?_
  refine E.callf Tryz.func27 rfl ?_
  refine infP1 ?_
  refine go ?_
  refine A.r1 ?_
  exact HR.out
set_option maxHeartbeats 1600000 in
set_option maxRecDepth 100000 in
theorem text_minf {R : Ending → World → Prop} {w : World} (hR : R (.returned (.string ⟨#[45, 101, 110, 100, 108, 101, 115, 115]⟩)) w) : Calls Tryz.prog 17 #[.float .f64 18442240474082181120] w R := by
  have HR := Lib.hid hR
  clear hR
  refine C.calls (args := [.float .f64 18442240474082181120]) Tryz.func17 rfl rfl rfl ?_
  refine go ?_
  refine E.callf Tryz.func21 rfl ?_
  refine isNaN_any ?_
  rw [show nanF 18442240474082181120 = false by decide +kernel]
  refine go ?_
  refine E.callf Tryz.func27 rfl ?_
  refine infM1 ?_
  refine go ?_
  refine E.callf Tryz.func27 rfl ?_
  refine infM2 ?_
  refine go ?_
  refine A.r1 ?_
  exact HR.out
end Go.Proofs.YthnnhhjecgkplaaGreatDoor

/-
  The stepping engine: a body with labels through which the run goes without a goto.
-/
namespace Go.Proofs.YthnnhhjecgkplaaGreatDoor
open Go.RowKit
set_option linter.unusedVariables false
section
variable {P : Program} {n : Fm} {ρ : List (Nat × Value)} {w : World} {Q : Exit → Act → World → Prop} {c : Code}
theorem C.scope (h : C P n c ρ w (Exit.noGoto Q)) : C P n (.scope c) ρ w Q := by
  unfold C at *
  exact fun a ha => wp_scope_straight (h a ha)
theorem C.label {l : Nat} (h : A n .normal ρ w Q) : C P n (.label l) ρ w Q := by
  unfold C
  unfold A at h
  exact fun a ha => wp_label (h a ha)
theorem A.ng_normal (h : A n .normal ρ w Q) : A n .normal ρ w (Exit.noGoto Q) := by
  unfold A at *
  exact fun a ha => h a ha
theorem A.ng_ret (h : A n .ret ρ w Q) : A n .ret ρ w (Exit.noGoto Q) := by
  unfold A at *
  exact fun a ha => h a ha
theorem A.ng_exit {k : Nat} (h : A n (.exit k) ρ w Q) : A n (.exit k) ρ w (Exit.noGoto Q) := by
  unfold A at *
  exact fun a ha => h a ha
theorem A.ng_panic {ch : List PanicEntry} (h : A n (.panic ch) ρ w Q) : A n (.panic ch) ρ w (Exit.noGoto Q) := by
  unfold A at *
  exact fun a ha => h a ha
theorem A.r7 {m : Nat} {fn : Func} {R : Ending → World → Prop} {t1 t2 t3 t4 t5 t6 t7 : Tmp} {v1 v2 v3 v4 v5 v6 v7 : Value} (h : R (.returned (.tuple #[v1, v2, v3, v4, v5, v6, v7])) w) (hr : fn.results = #[.tmp t1, .tmp t2, .tmp t3, .tmp t4, .tmp t5, .tmp t6, .tmp t7] := by exact rfl)
    (h1 : evo ⟨m, []⟩ ρ (.tmp t1) = some v1 := by exact rfl) (h2 : evo ⟨m, []⟩ ρ (.tmp t2) = some v2 := by exact rfl) (h3 : evo ⟨m, []⟩ ρ (.tmp t3) = some v3 := by exact rfl) (h4 : evo ⟨m, []⟩ ρ (.tmp t4) = some v4 := by exact rfl) (h5 : evo ⟨m, []⟩ ρ (.tmp t5) = some v5 := by exact rfl) (h6 : evo ⟨m, []⟩ ρ (.tmp t6) = some v6 := by exact rfl) (h7 : evo ⟨m, []⟩ ρ (.tmp t7) = some v7 := by exact rfl) : A ⟨m, []⟩ .ret ρ w (bodyPost P fn R) := by
  unfold A
  intro a ha
  have e1 : a.tmps.getD t1 undef = v1 := ha.eval h1
  have e2 : a.tmps.getD t2 undef = v2 := ha.eval h2
  have e3 : a.tmps.getD t3 undef = v3 := ha.eval h3
  have e4 : a.tmps.getD t4 undef = v4 := ha.eval h4
  have e5 : a.tmps.getD t5 undef = v5 := ha.eval h5
  have e6 : a.tmps.getD t6 undef = v6 := ha.eval h6
  have e7 : a.tmps.getD t7 undef = v7 := ha.eval h7
  have hres : ∀ (tmps : Array Value) (P : Program) (w : World), (results fn tmps).run P w = .ok (.tuple #[tmps.getD t1 undef, tmps.getD t2 undef, tmps.getD t3 undef, tmps.getD t4 undef, tmps.getD t5 undef, tmps.getD t6 undef, tmps.getD t7 undef]) w := fun tmps P w => by simp [results, hr]
  exact ⟨ha.defers, _, hres _ _ _, by rw [e1, e2, e3, e4, e5, e6, e7]; exact h⟩
end
end Go.Proofs.YthnnhhjecgkplaaGreatDoor

/-
  "0.5" as a float: the parts of ParseFloat at one word.
-/
namespace Go.Proofs.YthnnhhjecgkplaaGreatDoor
open Go.RowKit
set_option linter.unusedVariables false
set_option linter.unusedSimpArgs false

theorem el_f64 : ElemOf Tryz.prog 40 22 (.float .f64 0) 1 8 := .of Tryz.underlying40 (by kernel_rfl) rfl (by decide)
section
variable {P : Program} {n : Fm} {ρ : List (Nat × Value)} {ty : TypeId} {x y : Operand}
theorem Pv.fquoc {a b r : Nat} (hm : Ieee.double.div a b = some r) (hx : evo n ρ x = some (.float .f64 a)) (hy : evo n ρ y = some (.float .f64 b)) {s s' : TypeId} : Pv P n ρ (.binOp .quo s x y s') ty (.float .f64 r) := Pv.binOp hx hy (fun w => by simp [eqGuard]) fun w => by
  have e0 : FloatKind.f64.format.div a b = Ieee.double.div a b := rfl
  simp [Go.binOp, Op.floatArith, e0, hm]
end
/-- What the calls lean on beside GlQ. -/
structure GlP (g : Hl) : Prop where
  mant : GlC g 5 0 (.int .u64 52)
  ten : ∃ a n c xs, GlC g 9 0 (.slice a n c) ∧ Pr 1 g (.slice a n c) n xs ∧ 2 ≤ n ∧ xs[1]? = some (.float .f64 4621819117588971520)
  opt : GlC g 3 0 (.bool true)

set_option maxHeartbeats 1600000 in
set_option maxRecDepth 100000 in
theorem special_half {R : Ending → World → Prop} {W w : World} {g : Hl} {H : List HP} (hs : Sat W w g H) (hR : R (.returned (.tuple #[.float .f64 0, .int .i64 0, .bool false])) w) : Calls Tryz.prog 60 #[.string ⟨#[48, 46, 53]⟩] w R := by
  have HR := Lib.hid hR
  clear hR
  refine C.calls (args := [.string ⟨#[48, 46, 53]⟩]) Tryz.func60 rfl rfl rfl ?_
  refine go ?_
  refine E.sidx (l := [48, 46, 53]) Tryz.underlying9 0 (by decide) ?_
  refine go ?_
  refine A.r3 ?_
  exact HR.out
set_option maxHeartbeats 1600000 in
set_option maxRecDepth 100000 in
theorem exact_half {R : Ending → World → Prop} {W w : World} {g : Hl} {H : List HP} (hg : GlP g) (hs : Sat W w g H) (hR : R (.returned (.tuple #[.float .f64 4602678819172646912, .bool true])) w) : Calls Tryz.prog 71 #[.int .u64 5, .int .i64 (-1), .bool false] w R := by
  have HR := Lib.hid hR
  clear hR
  have c1 := hg.mant.at hs
  obtain ⟨a, m, c, xs, h1, h2, h3, h4⟩ := hg.ten
  have c2 := h1.at hs
  refine C.calls (args := [.int .u64 5, .int .i64 (-1), .bool false]) Tryz.func71 rfl rfl rfl ?_
  refine go ?_
  refine E.pv Pv.negw ?_
  rw [show IntKind.i64.wrap (-(-1)) = 1 by decide]
  refine go ?_
  refine E.ix el_f64 hs h2 1 h4 ?_
  intro b1 o1 hc1
  refine go ?_
  refine A.r2 ?_
  exact HR.out
set_option maxHeartbeats 1600000 in
set_option maxRecDepth 100000 in
theorem lower_dot {R : Ending → World → Prop} {w : World} (hR : R (.returned (.int .u8 46)) w) : Calls Tryz.prog 76 #[.int .u8 46] w R := by
  have HR := Lib.hid hR
  clear hR
  refine C.calls (args := [.int .u8 46]) Tryz.func76 rfl rfl rfl ?_
  refine go ?_
  refine A.r1 ?_
  exact HR.out
set_option maxHeartbeats 1600000 in
set_option maxRecDepth 100000 in
theorem read_half {R : Ending → World → Prop} {W w : World} {g : Hl} {H : List HP} (hs : Sat W w g H) (hR : ∀ w', Sat W w' g H → R (.returned (.tuple #[.int .u64 5, .int .i64 (-1), .bool false, .bool false, .bool false, .int .i64 3, .bool true])) w') : Calls Tryz.prog 61 #[.string ⟨#[48, 46, 53]⟩] w R := by
  have HR := Lib.hid hR
  clear hR
  refine C.calls (args := [.string ⟨#[48, 46, 53]⟩]) Tryz.func61 rfl rfl rfl ?_
  refine go ?_
  refine C.scope ?_
  refine go ?_
  refine E.sidx (l := [48, 46, 53]) Tryz.underlying9 0 (by decide) ?_
  refine go ?_
  refine E.sidx (l := [48, 46, 53]) Tryz.underlying9 0 (by decide) ?_
  refine go ?_
  refine E.sidx (l := [48, 46, 53]) Tryz.underlying9 1 (by decide) ?_
  refine go ?_
  refine E.callf Tryz.func76 rfl ?_
  refine lower_dot ?_
  refine gob ?_
  refine C.label ?_
  refine gob ?_
  refine C.cut (fun _ : Unit => [(0, .string ⟨#[48, 46, 53]⟩), (2, .int .u64 5), (3, .int .i64 0), (4, .bool false), (5, .bool false), (6, .bool false), (7, .int .i64 3), (8, .bool false), (9, .bool false), (10, .int .u64 10), (12, .int .u8 101), (13, .bool true), (14, .bool true), (15, .int .i64 1), (16, .int .i64 1), (17, .int .i64 0)]) (fun _ w => Sat W w g H) ?_ ?_
  · refine C.block ?_
    refine C.lp (fun i : Nat => [(0, .string ⟨#[48, 46, 53]⟩), (2, .int .u64 (if i = 3 then 5 else 0)), (3, .int .i64 0), (4, .bool false), (5, .bool false), (6, .bool false), (7, .int .i64 i), (8, .bool false), (9, .bool false), (10, .int .u64 10), (11, .int .i64 19), (12, .int .u8 101), (13, .bool (decide (2 ≤ i))), (14, .bool (decide (1 ≤ i))), (15, .int .i64 (if i = 3 then 1 else 0)), (16, .int .i64 (if i = 3 then 1 else 0)), (17, .int .i64 (if i = 1 then -1 else 0))])
      (fun gk i w => gk = 3 - i ∧ i ≤ 3 ∧ Sat W w g H) 3 0 ⟨rfl, by decide, hs⟩ ?_
    clear hs
    rintro gk i w1 ⟨rfl, hi, hs⟩
    have hc : i = 0 ∨ i = 1 ∨ i = 2 ∨ i = 3 := by omega
    rcases hc with rfl | rfl | rfl | rfl
    · refine go ?_
      refine E.sidx (l := [48, 46, 53]) Tryz.underlying9 0 (by decide) ?_
      refine go ?_
      exact A.rd 2 1 ⟨rfl, by decide, hs⟩
    · refine go ?_
      refine E.sidx (l := [48, 46, 53]) Tryz.underlying9 1 (by decide) ?_
      refine go ?_
      exact A.rd 1 2 ⟨rfl, by decide, hs⟩
    · refine go ?_
      refine E.sidx (l := [48, 46, 53]) Tryz.underlying9 2 (by decide) ?_
      refine go ?_
      exact A.rd 0 3 ⟨rfl, by decide, hs⟩
    · refine go ?_
      exact A.mt () hs
  clear hs
  rintro _ w2 hs
  refine go ?_
  refine A.ng_ret ?_
  refine A.r7 ?_
  exact HR.out _ hs
end Go.Proofs.YthnnhhjecgkplaaGreatDoor

/-
  "0.5" as a float: atof64, ParseFloat; quantity.Parse of it.
-/
namespace Go.Proofs.YthnnhhjecgkplaaGreatDoor
open Go.RowKit
set_option linter.unusedVariables false
set_option linter.unusedSimpArgs false

set_option maxHeartbeats 1600000 in
set_option maxRecDepth 100000 in
theorem bool2_false {R : Ending → World → Prop} {w : World} (hR : R (.returned (.int .u64 0)) w) : Calls Tryz.prog 69 #[.bool false] w R := by
  have HR := Lib.hid hR
  clear hR
  refine C.calls (args := [.bool false]) Tryz.func69 rfl rfl rfl ?_
  refine go ?_
  refine A.r1 ?_
  exact HR.out
set_option maxHeartbeats 1600000 in
set_option maxRecDepth 100000 in
theorem atof_half {R : Ending → World → Prop} {W w : World} {g : Hl} {H : List HP} (hg : GlP g) (hs : Sat W w g H) (hR : ∀ w', Sat W w' g H → R (.returned (.tuple #[.float .f64 4602678819172646912, .int .i64 3, .nilIface])) w') : Calls Tryz.prog 41 #[.string ⟨#[48, 46, 53]⟩] w R := by
  have HR := Lib.hid hR
  clear hR
  refine C.calls (args := [.string ⟨#[48, 46, 53]⟩]) Tryz.func41 rfl rfl rfl ?_
  refine go ?_
  refine E.callf Tryz.func60 rfl ?_
  refine special_half hs ?_
  refine go ?_
  refine E.callf Tryz.func61 rfl ?_
  refine read_half hs ?_
  intro w2 hs
  have c3 := hg.opt.at hs
  refine go ?_
  refine E.callf Tryz.func69 rfl ?_
  refine bool2_false ?_
  refine go ?_
  refine E.callf Tryz.func71 rfl ?_
  refine exact_half hg hs ?_
  refine go ?_
  refine A.r3 ?_
  exact HR.out _ hs
set_option maxHeartbeats 1600000 in
set_option maxRecDepth 100000 in
theorem prefix_half {R : Ending → World → Prop} {W w : World} {g : Hl} {H : List HP} (hg : GlP g) (hs : Sat W w g H) (hR : ∀ w', Sat W w' g H → R (.returned (.tuple #[.float .f64 4602678819172646912, .int .i64 3, .nilIface])) w') : Calls Tryz.prog 33 #[.string ⟨#[48, 46, 53]⟩, .int .i64 64] w R := by
  have HR := Lib.hid hR
  clear hR
  refine C.calls (args := [.string ⟨#[48, 46, 53]⟩, .int .i64 64]) Tryz.func33 rfl rfl rfl ?_
  refine go ?_
  refine E.callf Tryz.func41 rfl ?_
  refine atof_half hg hs ?_
  intro w2 hs
  refine go ?_
  refine A.r3 ?_
  exact HR.out _ hs
set_option maxHeartbeats 1600000 in
set_option maxRecDepth 100000 in
theorem parseI_half {R : Ending → World → Prop} {W w : World} {g : Hl} {H : List HP} (hg : GlP g) (hs : Sat W w g H) (hR : ∀ w', Sat W w' g H → R (.returned (.tuple #[.float .f64 4602678819172646912, .nilIface])) w') : Calls Tryz.prog 29 #[.string ⟨#[48, 46, 53]⟩, .int .i64 64] w R := by
  have HR := Lib.hid hR
  clear hR
  refine C.calls (args := [.string ⟨#[48, 46, 53]⟩, .int .i64 64]) Tryz.func29 rfl rfl rfl ?_
  refine go ?_
  refine E.callf Tryz.func33 rfl ?_
  refine prefix_half hg hs ?_
  intro w2 hs
  refine go ?_
  refine A.r2 ?_
  exact HR.out _ hs
set_option maxHeartbeats 1600000 in
set_option maxRecDepth 100000 in
theorem parseF_half {R : Ending → World → Prop} {W w : World} {g : Hl} {H : List HP} (hg : GlP g) (hs : Sat W w g H) (hR : ∀ w', Sat W w' g H → R (.returned (.tuple #[.float .f64 4602678819172646912, .nilIface])) w') : Calls Tryz.prog 26 #[.string ⟨#[48, 46, 53]⟩, .int .i64 64] w R := by
  have HR := Lib.hid hR
  clear hR
  refine C.calls (args := [.string ⟨#[48, 46, 53]⟩, .int .i64 64]) Tryz.func26 rfl rfl rfl ?_
  refine go ?_
  refine E.callf Tryz.func29 rfl ?_
  refine parseI_half hg hs ?_
  intro w2 hs
  refine go ?_
  refine A.r2 ?_
  exact HR.out _ hs
set_option maxHeartbeats 1600000 in
set_option maxRecDepth 100000 in
theorem nan_any {R : Ending → World → Prop} {w : World} (hR : R (.returned (.float .f64 9221120237041090561)) w) : Calls Tryz.prog 24 #[] w R := by
  have HR := Lib.hid hR
  clear hR
  refine C.calls (args := []) Tryz.func24 rfl rfl rfl ?_
  refine go ?_
  refine E.ext (v := .float .f64 9221120237041090561) (w' := w) Tryz.func20 (ex := Extern.MathFloatBits.float64frombits) rfl ?_
  refine go ?_
  refine A.r1 ?_
  exact HR.out
set_option maxHeartbeats 1600000 in
set_option maxRecDepth 100000 in
theorem inf_p {R : Ending → World → Prop} {w : World} (hR : R (.returned (.float .f64 9218868437227405312)) w) : Calls Tryz.prog 25 #[.int .i64 1] w R := by
  have HR := Lib.hid hR
  clear hR
  refine C.calls (args := [.int .i64 1]) Tryz.func25 rfl rfl rfl ?_
  refine go ?_
  refine E.ext (v := .float .f64 9218868437227405312) (w' := w) Tryz.func20 (ex := Extern.MathFloatBits.float64frombits) rfl ?_
  refine go ?_
  refine A.r1 ?_
  exact HR.out
set_option maxHeartbeats 1600000 in
set_option maxRecDepth 100000 in
theorem inf_m {R : Ending → World → Prop} {w : World} (hR : R (.returned (.float .f64 18442240474082181120)) w) : Calls Tryz.prog 25 #[.int .i64 (-1)] w R := by
  have HR := Lib.hid hR
  clear hR
  refine C.calls (args := [.int .i64 (-1)]) Tryz.func25 rfl rfl rfl ?_
  refine go ?_
  refine E.ext (v := .float .f64 18442240474082181120) (w' := w) Tryz.func20 (ex := Extern.MathFloatBits.float64frombits) rfl ?_
  refine go ?_
  refine A.r1 ?_
  exact HR.out
set_option maxHeartbeats 1600000 in
set_option maxRecDepth 100000 in
theorem qparse_half {R : Ending → World → Prop} {W w : World} {g : Hl} {H : List HP} (hq : GlQ g) (hg : GlP g) (hs : Sat W w g H) (hR : ∀ w', Sat W w' g H → R (.returned (.tuple #[.float .f64 0, .bool false])) w') : Calls Tryz.prog 16 #[.string ⟨#[48, 46, 53]⟩] w R := by
  have HR := Lib.hid hR
  clear hR
  refine C.calls (args := [.string ⟨#[48, 46, 53]⟩]) Tryz.func16 rfl rfl rfl ?_
  refine go ?_
  refine E.callf Tryz.func24 rfl ?_
  refine nan_any ?_
  refine go ?_
  refine E.callf Tryz.func25 rfl ?_
  refine inf_p ?_
  refine go ?_
  refine E.callf Tryz.func25 rfl ?_
  refine inf_m ?_
  refine go ?_
  refine E.bsl hs ?_
  intro b1 w1 hs
  refine gob ?_
  refine C.cut (fun _ : Unit => [(0, .string ⟨#[48, 46, 53]⟩), (2, .float .f64 0), (3, .bool false)]) (fun _ w => Sat W w g H) ?_ ?_
  · refine C.block ?_
    refine C.lp (fun i : Nat => [(0, .string ⟨#[48, 46, 53]⟩), (2, .float .f64 0), (3, .bool false), (11, .slice (some ⟨b1, 0, none⟩) 3 3), (12, .int .i64 3), (13, .int .i64 i)])
      (fun gk i w => gk = 3 - i ∧ i ≤ 3 ∧ Sat W w g (blk b1 [.float .f64 9221120237041090561, .float .f64 9218868437227405312, .float .f64 18442240474082181120] 22 :: H)) 3 0 ⟨rfl, by decide, hs⟩ ?_
    clear hs
    rintro gk i w1 ⟨rfl, hi, hs⟩
    have hc : i = 0 ∨ i = 1 ∨ i = 2 ∨ i = 3 := by omega
    have hr := hs.rowOf (size := 1) 3 rfl (by decide)
    rcases hc with rfl | rfl | rfl | rfl
    · refine go ?_
      refine E.callf Tryz.func17 rfl ?_
      refine (text_nan (by decide +kernel)) ?_
      refine go ?_
      exact A.rd 2 1 ⟨rfl, by decide, hs⟩
    · refine go ?_
      refine E.callf Tryz.func17 rfl ?_
      refine text_inf ?_
      refine go ?_
      exact A.rd 1 2 ⟨rfl, by decide, hs⟩
    · refine go ?_
      refine E.callf Tryz.func17 rfl ?_
      refine text_minf ?_
      refine go ?_
      exact A.rd 0 3 ⟨rfl, by decide, hs⟩
    · refine go ?_
      exact A.mt () hs.drop
  clear hs
  rintro _ w2 hs
  refine go ?_
  refine E.callf Tryz.func26 rfl ?_
  refine parseF_half hg hs ?_
  intro w3 hs
  refine go ?_
  refine E.callf Tryz.func17 rfl ?_
  refine text_half hq hs ?_
  intro w4 hs
  refine go ?_
  refine A.r2 ?_
  exact HR.out _ hs
theorem GlP.mono {g g' : Hl} (h : GlP g) (hg : Hl.le g g') : GlP g' := ⟨h.mant.mono hg, by
  obtain ⟨a, n, c, xs, h1, h2, h3, h4⟩ := h.ten
  exact ⟨a, n, c, xs, h1.mono hg, h2.mono hg, h3, h4⟩, h.opt.mono hg⟩
set_option maxHeartbeats 1600000 in
set_option maxRecDepth 100000 in
theorem awake_ok {g : Hl} (hq : GlQ g) (hp : GlP g) : AwakeOk g := ⟨by
  intro R W w g1 H hg hs hR
  have HR := Lib.hid hR
  clear hR
  replace hq := hq.mono hg
  replace hp := hp.mono hg
  refine C.calls (args := []) Tryz.func7 rfl rfl rfl ?_
  refine go ?_
  refine E.callf Tryz.func16 rfl ?_
  refine qparse_half hq hp hs ?_
  intro w3 hs
  refine go ?_
  refine E.callf Tryz.func17 rfl ?_
  refine text_half hq hs ?_
  intro w4 hs
  refine go ?_
  refine A.r1 ?_
  exact HR.out _ _ (Hl.le_refl _) hs⟩
end Go.Proofs.YthnnhhjecgkplaaGreatDoor

/-
  What came in: bytes, rows of bytes; and how much it is.
-/
namespace Go.Proofs.YthnnhhjecgkplaaGreatDoor
open Go.RowKit Go.ChangeShapes Go.WideShapes
set_option linter.unusedVariables false
set_option linter.unusedSimpArgs false

theorem bulk_one {H : Type} (d : DataW H) : 1 ≤ Rows.uptoBulk d := by
  cases d with
  | lit l => cases l <;> simp [Rows.uptoBulk]
  | nil => simp [Rows.uptoBulk]
  | ptr d => simp [Rows.uptoBulk]
  | slice elems spare => simp [Rows.uptoBulk]
  | agg parts => simp [Rows.uptoBulk]
  | iface t d => simp [Rows.uptoBulk]
  | map entries => simp [Rows.uptoBulk]
  | held h => simp [Rows.uptoBulk]
theorem bulk_all {H : Type} : ∀ (l : List (DataW H)), Rows.uptoBulkAll l = (l.map Rows.uptoBulk).sum
  | [] => by simp [Rows.uptoBulkAll]
  | x :: r => by simp [Rows.uptoBulkAll, bulk_all r]
theorem bulk_slice {H : Type} (a b : List (DataW H)) : Rows.uptoBulk (.slice a b) = (a.map Rows.uptoBulk).sum + (b.map Rows.uptoBulk).sum + 1 := by
  simp only [Rows.uptoBulk, bulk_all]
  try omega
theorem sum_ge {H : Type} (l : List (DataW H)) : l.length ≤ (l.map Rows.uptoBulk).sum := by
  induction l with
  | nil => simp
  | cons x r ih => have := bulk_one x; simp only [List.map_cons, List.sum_cons, List.length_cons]; omega

section
variable {H : Type} {enc : TypeId × Value → H} {P : Program} {w : World} {base : Nat} {held : Bool}
/-- The world's own blocks as a pool. -/
abbrev hp (w : World) : Hl := fun b => w.heap[b]?

theorem in_bytes {t e : TypeId} {fuel : Nat} {cs : List Value} {x : DataW H × List MemPlace} (ht : P.underlying t = some (.slice e)) (he : P.underlying e = some (.int .u8)) (hc : P.cellsOf e = 1)
    (h : DataW.trod enc P w base (fun _ => true) held fuel t cs = some x) : ∃ a n c, ∃ l : List UInt8, cs = [.slice a n c] ∧ l.length = n ∧ Pr 1 (hp w) (.slice a n c) n (bs l) ∧ l.length + 1 ≤ Rows.uptoBulk x.1 := by
  rcases open_ints ht he hc h with ⟨rfl, rfl⟩ | ⟨a, len, cap, zs, rfl, _, hl, hm, hz, rfl, hcell, hw⟩
  · exact ⟨none, 0, 0, [], rfl, rfl, Pr.nil, by simp [Rows.uptoBulk]⟩
  · simp only [if_true] at hz
    obtain ⟨l, h1, h2⟩ := pr_bytes (w := w) (a := some a) (len := len) (cap := cap) (zs := zs) (.inr ⟨a, rfl, hl, hm, hz, hcell, hw⟩)
    refine ⟨some a, len, cap, l, rfl, h1, h2, ?_⟩
    rw [bulk_slice]
    have := sum_ge (H := H) (lits .u8 (zs.take len))
    have hlen : (lits (H := H) .u8 (zs.take len)).length = len := by simp [lits, hz]; omega
    omega

theorem pr_cells {x : Addr} {len cap : Nat} {xs : List Value} (hl : len ≤ cap) (hm : cap ≤ maxLen) (hx : xs.length = len) (hc : ∀ i, i < len → w.cell? (x.add i) = xs[i]?) : Pr 1 (hp w) (.slice (some x) len cap) len xs := by
  refine ⟨by simp [hx], _, cap, rfl, hl, hm, fun e => by simp at e, ?_⟩
  rcases Nat.eq_zero_or_pos len with h0 | h0
  · exact .inl h0
  · obtain ⟨b, o, sp⟩ := x
    have c0 := hc 0 h0
    rw [List.getElem?_eq_getElem (by omega)] at c0
    simp only [Addr.add, if_true] at c0
    have hsp : sp = none := by simpa using World.cell?_spot c0
    subst hsp
    unfold World.cell? at c0
    simp only at c0
    cases hb : w.heap[b]? with
    | none => rw [hb] at c0; simp at c0
    | some ob =>
      cases ob with
      | cells cur e fz =>
        refine .inr ⟨b, o, cur, e, fz, rfl, hb, ?_⟩
        apply List.ext_getElem?
        intro j
        rw [List.getElem?_take, Nat.mul_one]
        by_cases hj : j < len
        · rw [if_pos hj]
          have cj := hc j hj
          rw [Addr.add_lit] at cj
          simp only [World.cell?, hb] at cj
          simp at cj
          rw [List.getElem?_drop, Array.getElem?_toList, cj]
        · rw [if_neg hj, List.getElem?_eq_none (by omega)]
      | _ => rw [hb] at c0; simp at c0

theorem choose_list {α : Type} : ∀ (n : Nat) {Q : Nat → α → Prop}, (∀ i, i < n → ∃ p, Q i p) → ∃ ps : List α, ps.length = n ∧ ∀ i (h : i < ps.length), Q i ps[i]
  | 0, _, _ => ⟨[], rfl, fun i h => by simp at h⟩
  | n + 1, Q, h => by
    obtain ⟨ps, h1, h2⟩ := choose_list n (Q := Q) fun i hi => h i (by omega)
    obtain ⟨p, hp⟩ := h n (by omega)
    refine ⟨ps ++ [p], by simp [h1], fun i hi => ?_⟩
    by_cases hin : i < ps.length
    · rw [List.getElem_append_left hin]; exact h2 i hin
    · have : i = n := by simp at hi; omega
      subst this
      rw [List.getElem_append_right (by omega)]
      simpa [h1] using hp
theorem sum_le_sum {α β : Type} (f : α → Nat) (g : β → Nat) : ∀ (l : List α) (m : List β), l.length = m.length → (∀ i (h : i < l.length) (h' : i < m.length), f l[i] ≤ g m[i]) → (l.map f).sum ≤ (m.map g).sum
  | [], [], _, _ => by simp
  | [], _ :: _, h, _ => by simp at h
  | _ :: _, [], h, _ => by simp at h
  | a :: l, b :: m, h, hi => by
    have h0 := hi 0 (by simp) (by simp)
    have ih := sum_le_sum f g l m (by simpa using h) fun i h1 h2 => by
      have := hi (i + 1) (by simpa using h1) (by simpa using h2)
      simpa using this
    simp only [List.map_cons, List.sum_cons]
    simp only [List.getElem_cons_zero] at h0
    omega
end

end Go.Proofs.YthnnhhjecgkplaaGreatDoor

/-
  What the calls lean on, out of the row's laid variables; a float that came in.
-/
namespace Go.Proofs.YthnnhhjecgkplaaGreatDoor
open Go.RowKit
set_option linter.unusedVariables false
set_option linter.unusedSimpArgs false

theorem trod_flt {H : Type} {enc : TypeId × Value → H} {P : Program} {w : World} {base : Nat} {spare : Nat → Bool} {held : Bool} {fuel : Nat} {t : TypeId} {cs : List Value} {x : DataW H × List MemPlace} {k : FloatKind} (ht : P.underlying t = some (.float k)) (h : DataW.trod enc P w base spare held fuel t cs = some x) : ∃ b, cs = [.float k b] ∧ x = (.lit (.float k b), []) ∧ (Lit.float k b).wf = true := by
  cases fuel with
  | zero => simp [DataW.trod] at h
  | succ n =>
    unfold DataW.trod at h
    rw [ht] at h
    split at h <;> simp_all
abbrev LaidQ (W : World) : Prop := laidMetH Tryz.prog Rows.quantityBitsRow.laid W

theorem q_mant {W : World} (h : LaidQ W) : GlC (hp W) 5 0 (.int .u64 52) := by
  unfold LaidQ at h
  rw [MakeChecks.laidMetH_plain _ _ _ (by kernel_rfl)] at h
  have t3 := h.tail.tail.tail
  obtain ⟨ps, ⟨g1, tt1, cs1, f1, p1, q1, hg1, ht1, hv1, hd1, _⟩, _, _⟩ := t3
  have gN : Program.globalNamed Tryz.prog "internal/strconv.float64info" = some 5 := by kernel_rfl
  have tN : (Tryz.prog.globals[5]?).map (·.type) = some 94 := by kernel_rfl
  obtain rfl := Option.some.inj (gN.symm.trans hg1)
  obtain rfl := Option.some.inj (tN.symm.trans ht1)
  obtain ⟨xs, m1, rfl, hx1, hlen, hn3, hel⟩ := DataW.trod_struct Tryz.underlying94 hd1
  have h0 := hel 0 ⟨"mantbits", 92, 0, false, "", "internal/strconv", 0⟩ rfl
  have hc1 : Program.cellsOf Tryz.prog 92 = 1 := by kernel_rfl
  rw [hc1, List.getElem?_eq_getElem (by rw [hn3]; decide)] at h0
  obtain ⟨k, e1, e2, _⟩ := DataW.trod_int Tryz.underlying92 h0
  have hy : (xs[0]'(by rw [hn3]; decide)).1 = DataW.lit (.int .u64 52) := by
    have h1 := congrArg (fun d : DataW Unit => match d with | .agg l => l[0]? | _ => none) (congrArg Prod.fst hx1)
    simp only [List.getElem?_map, List.getElem?_eq_getElem (show 0 < xs.length by rw [hn3]; decide), Option.map_some] at h1
    exact (Option.some.inj (h1.symm.trans rfl))
  have hk : k = 52 := by
    rw [e2] at hy
    simpa using hy
  subst hk
  refine GlC.of ?_
  rw [World.var?_cell hg1 hv1 0]
  have h2 := congrArg (fun l => l[0]?) e1
  simp only [List.getElem?_take, List.getElem?_drop] at h2
  simpa using h2
theorem pow365 : Pinned.pow10Rows[365]? = some (12800000000000000000, 0) := by kernel_rfl
theorem q_opt {W : World} (h : LaidQ W) : GlC (hp W) 3 0 (.bool true) := by
  unfold LaidQ at h
  rw [MakeChecks.laidMetH_plain _ _ _ (by kernel_rfl)] at h
  have t4 := h.tail.tail.tail.tail
  obtain ⟨ps, ⟨g1, tt1, cs1, f1, p1, q1, hg1, ht1, hv1, hd1, _⟩, _, _⟩ := t4
  have gN : Program.globalNamed Tryz.prog "internal/strconv.optimize" = some 3 := by kernel_rfl
  have tN : (Tryz.prog.globals[3]?).map (·.type) = some 4 := by kernel_rfl
  obtain rfl := Option.some.inj (gN.symm.trans hg1)
  obtain rfl := Option.some.inj (tN.symm.trans ht1)
  obtain ⟨b, e1, e2⟩ := DataW.trod_bool Tryz.underlying4 hd1
  have hb : b = true := by
    have := congrArg Prod.fst e2
    simp [Rows.laid_internal_strconv_optimize] at this
    exact this
  subst hb
  refine GlC.of ?_
  rw [World.var?_cell hg1 hv1 0]
  have h2 := congrArg (fun l => l[0]?) e1
  simpa using h2
theorem q_tab {W : World} (h : LaidQ W) : ∃ e fz, hp W 6 = some (.cells (Lib.pow10Tab.map fun z => Value.int .u64 z).toArray e fz) := by
  unfold LaidQ at h
  rw [MakeChecks.laidMetH_plain _ _ _ (by kernel_rfl)] at h
  have t8 := h.tail.tail.tail.tail.tail.tail.tail.tail
  have gN : Program.globalNamed Tryz.prog "internal/strconv.uint64pow10" = some 6 := by kernel_rfl
  have tN : (Tryz.prog.globals[6]?).map (·.type) = some 124 := by kernel_rfl
  have ht := Lib.tabIs_of_head (k := .u64) (zs := Lib.pow10Tab) gN tN Tryz.underlying124 Tryz.underlying25 (by kernel_rfl) (by kernel_rfl) t8
  unfold Lib.TabIs World.var? at ht
  rw [gN] at ht
  simp only [Option.bind_some] at ht
  split at ht
  · rename_i cs e fz hh
    cases ht
    exact ⟨e, fz, hh⟩
  · cases ht
set_option maxRecDepth 20000 in
theorem q_pow {W : World} (h : LaidQ W) : GlC (hp W) 10 730 (.int .u64 12800000000000000000) ∧ GlC (hp W) 10 731 (.int .u64 0) := by
  unfold LaidQ at h
  rw [MakeChecks.laidMetH_plain _ _ _ (by kernel_rfl)] at h
  have t12 := h.tail.tail.tail.tail.tail.tail.tail.tail.tail.tail.tail.tail
  obtain ⟨ps, ⟨g1, tt1, cs1, f1, p1, q1, hg1, ht1, hv1, hd1, _⟩, _, _⟩ := t12
  have gN : Program.globalNamed Tryz.prog "internal/strconv.pow10Tab" = some 10 := by kernel_rfl
  have tN : (Tryz.prog.globals[10]?).map (·.type) = some 139 := by kernel_rfl
  obtain rfl := Option.some.inj (gN.symm.trans hg1)
  obtain rfl := Option.some.inj (tN.symm.trans ht1)
  obtain ⟨xs, m1, rfl, hx1, hlen, hn3, hel⟩ := DataW.trod_array Tryz.underlying139 hd1
  have h365 := hel 365 (by decide)
  have hc1 : Program.cellsOf Tryz.prog 138 = 2 := by kernel_rfl
  rw [hc1, List.getElem?_eq_getElem (by omega)] at h365
  have hy : (xs[365]'(by omega)).1 = DataW.agg [.lit (.int .u64 12800000000000000000), .lit (.int .u64 0)] := by
    have h1 := congrArg Prod.fst hx1
    simp only [Rows.laid_internal_strconv_pow10Tab, Pinned.pow10Tab, DataW.agg.injEq] at h1
    have h2 := congrArg (fun l => l[365]?) h1
    simp only [List.getElem?_map, pow365, List.getElem?_eq_getElem (show 365 < xs.length by omega), Option.map_some, Option.some.injEq] at h2
    exact h2.symm
  obtain ⟨ys, m2, rfl, hx2, hlen2, hn2, hel2⟩ := DataW.trod_struct Tryz.underlying138 h365
  rw [hx2] at hy
  simp only [DataW.agg.injEq] at hy
  have hn2 : ys.length = 2 := hn2
  obtain ⟨y0, y1, rfl⟩ : ∃ a b, ys = [a, b] := by
    match ys, hn2 with
    | [a, b], _ => exact ⟨a, b, rfl⟩
  simp only [List.map_cons, List.map_nil, List.cons.injEq, and_true] at hy
  have hc2 : Program.cellsOf Tryz.prog 25 = 1 := by kernel_rfl
  have g0 : DataW.trod (fun x => ()) Tryz.prog W 0 (fun x => true) false m2 25 ((((cs1.toList.drop 730).take 2).drop 0).take (Program.cellsOf Tryz.prog 25)) = some y0 := hel2 0 ⟨"hi", 25, 0, false, "", "internal/strconv", 0⟩ rfl
  have g1 : DataW.trod (fun x => ()) Tryz.prog W 0 (fun x => true) false m2 25 ((((cs1.toList.drop 730).take 2).drop 1).take (Program.cellsOf Tryz.prog 25)) = some y1 := hel2 1 ⟨"lo", 25, 1, false, "", "internal/strconv", 8⟩ rfl
  rw [hc2] at g0 g1
  obtain ⟨k0, e0, f0, _⟩ := DataW.trod_int Tryz.underlying25 g0
  obtain ⟨k1, e1, f1', _⟩ := DataW.trod_int Tryz.underlying25 g1
  obtain ⟨hy0, hy1⟩ := hy
  have hk0 : k0 = 12800000000000000000 := by rw [f0] at hy0; simpa using hy0
  have hk1 : k1 = 0 := by rw [f1'] at hy1; simpa using hy1
  subst hk0 hk1
  constructor
  · refine GlC.of ?_
    rw [World.var?_cell hg1 hv1 730]
    have h2 := congrArg (fun l => l[0]?) e0
    simp only [List.getElem?_take, List.getElem?_drop] at h2
    simpa using h2
  · refine GlC.of ?_
    rw [World.var?_cell hg1 hv1 731]
    have h2 := congrArg (fun l => l[0]?) e1
    simp only [List.getElem?_take, List.getElem?_drop] at h2
    simpa using h2
theorem q_ten {W : World} (h : LaidQ W) : ∃ a n c xs, GlC (hp W) 9 0 (.slice a n c) ∧ Pr 1 (hp W) (.slice a n c) n xs ∧ 2 ≤ n ∧ xs[1]? = some (.float .f64 4621819117588971520) := by
  unfold LaidQ at h
  rw [MakeChecks.laidMetH_plain _ _ _ (by kernel_rfl)] at h
  have t6 := h.tail.tail.tail.tail.tail.tail
  obtain ⟨ps, ⟨g1, tt1, cs1, f1, p1, q1, hg1, ht1, hv1, hd1, _⟩, _, _⟩ := t6
  have gN : Program.globalNamed Tryz.prog "internal/strconv.float64pow10" = some 9 := by kernel_rfl
  have tN : (Tryz.prog.globals[9]?).map (·.type) = some 40 := by kernel_rfl
  obtain rfl := Option.some.inj (gN.symm.trans hg1)
  obtain rfl := Option.some.inj (tN.symm.trans ht1)
  rcases DataW.trod_slice Tryz.underlying40 hd1 with ⟨_, h0⟩ | ⟨a, len, cap, elems, rest, n, _, hcs, hx, hb, hl, hm, hlen, hel, hsp, hns⟩
  · have := congrArg Prod.fst h0
    simp [Rows.laid_internal_strconv_float64pow10] at this
  have hx1 := congrArg Prod.fst hx
  simp only [Rows.laid_internal_strconv_float64pow10, DataW.slice.injEq] at hx1
  have hc1 : Program.cellsOf Tryz.prog 22 = 1 := by kernel_rfl
  have hel1 : ∀ i, i < len → ∃ v, W.cell? (a.add i) = some v ∧ ∃ y, elems[i]? = some y ∧ DataW.trod (fun x => ()) Tryz.prog W 0 (fun x => true) false n 22 [v] = some y := by
    intro i hi
    have := hel i hi
    rw [hc1, Nat.mul_one, List.getElem?_eq_getElem (by omega), Option.bind_eq_some_iff] at this
    obtain ⟨cs', h1, h2⟩ := this
    obtain ⟨b, rfl, _, _⟩ := trod_flt Tryz.underlying22 h2
    exact ⟨_, ChangeShapes.cell_of_cells?_one h1, _, List.getElem?_eq_getElem (by omega), h2⟩
  have h1 : 1 < elems.length := by
    have := congrArg List.length hx1.1
    simp only [List.length_map] at this
    rw [← this]
    decide
  obtain ⟨v, hv, y, hy, hd⟩ := hel1 1 (by omega)
  obtain ⟨b, e1, e2, _⟩ := trod_flt Tryz.underlying22 hd
  have hb' : b = 4621819117588971520 := by
    have := congrArg (fun l => l[1]?) hx1.1
    simp only [List.getElem?_map, hy, Option.map_some, e2] at this
    simpa using this.symm
  subst hb'
  obtain rfl : v = .float .f64 4621819117588971520 := by simpa using e1
  refine ⟨some a, len, cap, (List.range len).map fun i => (W.cell? (a.add i)).getD undef, GlC.of ?_, pr_cells hl hm (by simp) ?_, by omega, ?_⟩
  · rw [World.var?_cell hg1 hv1 0]
    have h2 := congrArg (fun l => l[0]?) hcs
    simpa using h2
  · intro i hi
    obtain ⟨v, hv, _⟩ := hel1 i hi
    simp [hi, hv]
  · simp [show 1 < len by omega, hv]
theorem awake_row {W : World} (h : LaidQ W) : AwakeOk (hp W) := awake_ok ⟨(q_pow h).1, (q_pow h).2, q_tab h⟩ ⟨q_mant h, q_ten h, q_opt h⟩
end Go.Proofs.YthnnhhjecgkplaaGreatDoor
