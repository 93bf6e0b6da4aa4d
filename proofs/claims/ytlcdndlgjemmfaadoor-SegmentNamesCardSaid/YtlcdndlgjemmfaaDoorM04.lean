/-
  Words as numbers: ParseUint to base sixteen; Atoi, Cut as others call them.
-/
import Derived.Test.YtlcdndlgjemmfaaDoorM03
import Derived.Test.YtlcdndlgjemmfaaDoorM00
import Derived.Lib.ItoaLen
import Derived.Test.YtlcdndlgjemmfaaDoorRows
import Derived.Test.YtlcdndlgjemmfaaDoorM02
import Derived.OpenShut
import Derived.ChangeOld
import Derived.ChangeSame
import Derived.Lib.LaidTab
import Derived.Stop.LaidErr
import Derived.LaidMore
import Derived.Stop.Joined
namespace Go.Proofs.YtlcdndlgjemmfaaDoor
open Go.RowKit
set_option linter.unusedVariables false
set_option linter.unusedSimpArgs false

set_option maxHeartbeats 1600000 in
set_option maxRecDepth 100000 in
theorem cut1_any {R : Ending → World → Prop} {W w : World} {g : Hl} {H : List HP} {s : List UInt8} {c : UInt8} (hl : s.length ≤ 1000000000) (hs : Sat W w g H)
    (h1 : ∀ k : Nat, ixB c s = k → k < s.length → ∀ w', Sat W w' g H → R (.returned (.tuple #[str (s.take k), str (s.drop (k + 1)), .bool true])) w')
    (h2 : ixB c s < 0 → ∀ w', Sat W w' g H → R (.returned (.tuple #[str s, str [], .bool false])) w') :
    Calls Tryd.prog 12 #[str s, str [c]] w R := by
  have H1 := Lib.hid h1
  have H2 := Lib.hid h2
  clear h1 h2
  refine C.calls (args := [str s, str [c]]) Tryd.func12 rfl rfl rfl ?_
  refine go ?_
  refine E.callf Tryd.func26 rfl ?_
  refine cut_lite hl hs ?_ ?_
  · intro k hk hkl w2 hs
    refine go ?_
    refine A.r3 ?_
    exact H1.out k hk hkl _ hs
  · intro hk w2 hs
    refine go ?_
    refine A.r3 ?_
    exact H2.out hk _ hs
set_option maxHeartbeats 1600000 in
set_option maxRecDepth 100000 in
theorem atoi_any {R : Ending → World → Prop} {W w : World} {g : Hl} {H : List HP} {l : List UInt8} (h1 : 1 ≤ l.length) (h2 : l.length ≤ 18) (hd : l.all digB = true) (hs : Sat W w g H)
    (hR : ∀ w' g', Hl.le g g' → Sat W w' g' H → R (.returned (.tuple #[.int .i64 (decV l), .nilIface])) w') : Calls Tryd.prog 13 #[str l] w R := by
  have HR := Lib.hid hR
  clear hR
  refine C.calls (args := [str l]) Tryd.func13 rfl rfl rfl ?_
  refine go ?_
  refine E.callf Tryd.func27 rfl ?_
  refine atoiI_any h1 h2 hd hs ?_
  intro w2 g2 hg2 hs
  refine go ?_
  refine A.r2 ?_
  exact HR.out _ g2 hg2 hs

/-- A digit to base sixteen, and the value of some. -/
def hexW (c : UInt8) : Nat := if c.toNat ≤ 57 then c.toNat - 48 else c.toNat - 87
def hexB (c : UInt8) : Bool := (decide (48 ≤ c.toNat) && decide (c.toNat ≤ 57)) || (decide (97 ≤ c.toNat) && decide (c.toNat ≤ 102))
def hexV (l : List UInt8) : Nat := l.foldl (fun a c => a * 16 + hexW c) 0
theorem hexW_lt {c : UInt8} (h : hexB c = true) : hexW c < 16 := by
  simp only [hexB, Bool.or_eq_true, Bool.and_eq_true, decide_eq_true_eq] at h
  unfold hexW
  split <;> omega
theorem hexV_ge : ∀ (l : List UInt8) (a : Nat), a * 16 ^ l.length ≤ l.foldl (fun a c => a * 16 + hexW c) a
  | [], a => by simp
  | c :: l, a => by
    have := hexV_ge l (a * 16 + hexW c)
    refine Nat.le_trans ?_ this
    rw [List.length_cons, Nat.pow_succ, Nat.mul_comm (16 ^ l.length) 16, ← Nat.mul_assoc]
    exact Nat.mul_le_mul_right _ (by omega)
theorem hexV_append (l m : List UInt8) : hexV (l ++ m) = m.foldl (fun a c => a * 16 + hexW c) (hexV l) := by simp [hexV, List.foldl_append]
theorem hexD_ok {d : Nat} (h : d < 16) : hexW (hexD d) = d ∧ hexB (hexD d) = true :=
  (by decide +kernel : ∀ j : Fin 16, hexW (hexD j.val) = j.val ∧ hexB (hexD j.val) = true) ⟨d, h⟩
theorem hexV_hexN : ∀ (k n : Nat), n < 16 ^ k → hexV (hexN n) = n ∧ (hexN n).all hexB = true
  | 0, n, h => by
    simp only [Nat.pow_zero] at h
    obtain rfl : n = 0 := by omega
    rw [hexN_small (by decide)]
    decide +kernel
  | k + 1, n, h => by
    by_cases h1 : n < 16
    · rw [hexN_small h1]
      obtain ⟨h2, h3⟩ := hexD_ok h1
      refine ⟨?_, by simp [h3]⟩
      simp [hexV, h2]
    · rw [hexN_step (by omega)]
      obtain ⟨h2, h3⟩ := hexD_ok (d := n % 16) (by omega)
      obtain ⟨h4, h5⟩ := hexV_hexN k (n / 16) (by rw [Nat.pow_succ] at h; omega)
      refine ⟨?_, by simp [h5, h3]⟩
      rw [hexV_append, h4]
      simp only [List.foldl_cons, List.foldl_nil, h2]
      omega

set_option maxHeartbeats 1600000 in
set_option maxRecDepth 100000 in
theorem lower_any {R : Ending → World → Prop} {w : World} {c : Nat} (hc : 97 ≤ c ∧ c ≤ 102) (hR : R (.returned (.int .u8 c)) w) : Calls Tryd.prog 47 #[.int .u8 c] w R := by
  have HR := Lib.hid hR
  clear hR
  refine C.calls (args := [.int .u8 c]) Tryd.func47 rfl rfl rfl ?_
  refine go ?_
  have hcases : c = 97 ∨ c = 98 ∨ c = 99 ∨ c = 100 ∨ c = 101 ∨ c = 102 := by omega
  rcases hcases with rfl | rfl | rfl | rfl | rfl | rfl
  all_goals
    refine A.r1 ?_
    exact HR.out

set_option maxHeartbeats 3200000 in
set_option maxRecDepth 100000 in
theorem parseUintI_any {R : Ending → World → Prop} {W w : World} {g : Hl} {H : List HP} {l : List UInt8} (h1 : 1 ≤ l.length) (h2 : l.length ≤ 100) (hd : l.all hexB = true) (hv : hexV l < 18446744073709551616) (hs : Sat W w g H)
    (hR : ∀ w' g', Hl.le g g' → Sat W w' g' H → R (.returned (.tuple #[.int .u64 (hexV l), .nilIface])) w') : Calls Tryd.prog 29 #[str l, .int .i64 16, .int .i64 64] w R := by
  have HR := Lib.hid hR
  clear hR
  have e0 : str l = .string ⟨l.toArray⟩ := rfl
  rw [e0]
  clear e0
  have hdig : ∀ k (h : k < l.length), hexB l[k] = true := fun k h => List.all_eq_true.1 hd l[k] (List.getElem_mem h)
  have hne : ¬ l = [] := fun e => by rw [e] at h1; simp at h1
  refine C.calls (args := [.string ⟨l.toArray⟩, .int .i64 16, .int .i64 64]) Tryd.func29 rfl rfl rfl ?_
  refine go ?_
  rw [show decide (l = []) = false from decide_eq_false hne]
  refine go ?_
  rw [show IntKind.u64.wrap (((1 * 2 ^ 64 % 2 ^ IntKind.u64.bits : Nat) : Int) - 1) = 18446744073709551615 by decide +kernel]
  refine E.bytes (l := l) Tryd.underlying9 Tryd.underlying49 Tryd.underlying5 hs (by omega) ?_
  intro b c w1 g1 hg1 hs hp
  refine gob ?_
  refine C.cut (fun _ : Unit => [(12, .bool false), (13, .int .u64 (hexV l))]) (fun _ w => Sat W w g1 H) ?_ ?_
  · refine C.block ?_
    refine C.lp (fun i : Nat => [(1, .int .i64 16), (8, .bool false), (10, .int .u64 1152921504606846976), (11, .int .u64 18446744073709551615), (12, .bool false), (13, .int .u64 (hexV (l.take i))), (99, .slice (some ⟨b, 0, none⟩) l.length c), (100, .int .i64 l.length), (101, .int .i64 i)])
      (fun gk i w => gk = l.length - i ∧ i ≤ l.length ∧ Sat W w g1 H) l.length 0 ⟨rfl, Nat.zero_le _, hs⟩ ?_
    clear hs
    rintro gk i w2 ⟨rfl, hi, hs⟩
    refine go ?_
    refine C.cond_dec (p := (i : Int) < l.length) rfl (fun h => ?_) (fun h => ?_)
    · have hil : i < l.length := by omega
      have hdi := hdig i hil
      have hwl := hexW_lt hdi
      have hc3 : w2.cell? ⟨b, i, none⟩ = some (.int .u8 (l[i].toNat : Int)) := by
        have := ((hp.row hs).cellAt rfl (bs_get hil)).2
        simpa using this
      have hdv : hexV (l.take (i + 1)) = hexV (l.take i) * 16 + hexW l[i] := by
        rw [List.take_succ_eq_append_getElem hil, hexV_append]
        rfl
      have hlt : hexV (l.take (i + 1)) < 18446744073709551616 := by
        have h3 := hexV_ge (l.drop (i + 1)) (hexV (l.take (i + 1)))
        have h4 := hexV_append (l.take (i + 1)) (l.drop (i + 1))
        rw [List.take_append_drop] at h4
        rw [← h4] at h3
        have h5 : hexV (l.take (i + 1)) ≤ hexV (l.take (i + 1)) * 16 ^ (l.drop (i + 1)).length := Nat.le_mul_of_pos_right _ (Nat.pow_pos (by decide))
        omega
      generalize hqv : hexV (l.take i) = q at hdv
      generalize hqw : hexV (l.take (i + 1)) = q2 at hdv hlt
      generalize hdd : hexW l[i] = dg at hdv hwl
      have hdd' : dg = hexW l[i] := hdd.symm
      apply later (α := Unit) (f := fun _ => [(1, .int .i64 16), (8, .bool false), (10, .int .u64 1152921504606846976), (11, .int .u64 18446744073709551615), (12, .bool false), (13, .int .u64 q), (16, .int .u8 dg), (137, .bool (decide ((16 : Int) ≤ dg))), (99, .slice (some ⟨b, 0, none⟩) l.length c), (100, .int .i64 l.length), (101, .int .i64 i)])
        (M := fun _ w => Sat W w g1 H)
      · intro key
        simp only [hexB, Bool.or_eq_true, Bool.and_eq_true, decide_eq_true_eq] at hdi
        refine go ?_
        rw [show decide ((l[i].toNat : Int) = 95) = false from decide_eq_false (by omega)]
        refine go ?_
        rcases hdi with hdi | hdi
        · have ew : IntKind.u8.wrap ((l[i].toNat : Int) - 48) = ((dg : Nat) : Int) := by
            rw [hdd', hexW, if_pos (by omega), show ((l[i].toNat : Int) - 48) = ((l[i].toNat - 48 : Nat) : Int) by omega]
            exact wrapu8_id (by omega) (by omega)
          rw [show decide ((48 : Int) ≤ l[i].toNat) = true from decide_eq_true (by omega)]
          refine go ?_
          rw [show decide ((l[i].toNat : Int) ≤ 57) = true from decide_eq_true (by omega)]
          refine go ?_
          rw [ew]
          exact C.forget wk_ (key () _ hs)
        · have ew : IntKind.u8.wrap (IntKind.u8.wrap ((l[i].toNat : Int) - 97) + 10) = ((dg : Nat) : Int) := by
            have e1 : IntKind.u8.wrap ((l[i].toNat : Int) - 97) = ((l[i].toNat - 97 : Nat) : Int) := by
              rw [show ((l[i].toNat : Int) - 97) = ((l[i].toNat - 97 : Nat) : Int) by omega]
              exact wrapu8_id (by omega) (by omega)
            rw [e1, hdd', hexW, if_neg (by omega), show (((l[i].toNat - 97 : Nat) : Int) + 10) = ((l[i].toNat - 87 : Nat) : Int) by omega]
            exact wrapu8_id (by omega) (by omega)
          rw [show decide ((48 : Int) ≤ l[i].toNat) = true from decide_eq_true (by omega)]
          refine go ?_
          rw [show decide ((l[i].toNat : Int) ≤ 57) = false from decide_eq_false (by omega)]
          refine go ?_
          refine E.callf Tryd.func47 rfl ?_
          refine lower_any (c := l[i].toNat) hdi ?_
          refine go ?_
          rw [show decide ((97 : Int) ≤ l[i].toNat) = true from decide_eq_true (by omega)]
          refine go ?_
          refine E.callf Tryd.func47 rfl ?_
          refine lower_any (c := l[i].toNat) hdi ?_
          refine go ?_
          rw [show decide ((l[i].toNat : Int) ≤ 122) = true from decide_eq_true (by omega)]
          refine go ?_
          refine E.callf Tryd.func47 rfl ?_
          refine lower_any (c := l[i].toNat) hdi ?_
          refine go ?_
          rw [ew]
          exact C.forget wk_ (key () _ hs)
      · rintro _ w5 hs
        rw [show decide ((16 : Int) ≤ dg) = false from decide_eq_false (by omega)]
        refine go ?_
        rw [show decide ((1152921504606846976 : Int) ≤ q) = false from decide_eq_false (by omega)]
        clear hdd' hdd hqv
        replace hqw := Lib.hid hqw
        refine go ?_
        rw [show decide (((q * 16 + dg : Nat) : Int) < ((q * 16 : Nat) : Int)) = false from decide_eq_false (by omega)]
        refine go ?_
        rw [show decide ((18446744073709551615 : Int) < ((q * 16 + dg : Nat) : Int)) = false from decide_eq_false (by omega)]
        refine go ?_
        refine A.rd (l.length - (i + 1)) (i + 1) ⟨rfl, by omega, hs⟩ (hw := ?_)
        rw [hqw.out, hdv]
        exact wk_
    · obtain rfl : i = l.length := by omega
      refine go ?_
      refine A.mt () hs (hw := ?_)
      rw [List.take_length]
      exact wk_
  clear hs
  rintro _ w4 hs
  refine go ?_
  refine A.r2 ?_
  exact HR.out _ g1 hg1 hs
set_option maxHeartbeats 1600000 in
set_option maxRecDepth 100000 in
theorem parseUint_any {R : Ending → World → Prop} {W w : World} {g : Hl} {H : List HP} {l : List UInt8} (h1 : 1 ≤ l.length) (h2 : l.length ≤ 100) (hd : l.all hexB = true) (hv : hexV l < 18446744073709551616) (hs : Sat W w g H)
    (hR : ∀ w' g', Hl.le g g' → Sat W w' g' H → R (.returned (.tuple #[.int .u64 (hexV l), .nilIface])) w') : Calls Tryd.prog 14 #[str l, .int .i64 16, .int .i64 64] w R := by
  have HR := Lib.hid hR
  clear hR
  refine C.calls (args := [str l, .int .i64 16, .int .i64 64]) Tryd.func14 rfl rfl rfl ?_
  refine go ?_
  refine E.callf Tryd.func29 rfl ?_
  refine parseUintI_any h1 h2 hd hv hs ?_
  intro w2 g2 hg2 hs
  refine go ?_
  refine A.r2 ?_
  exact HR.out _ g2 hg2 hs
end Go.Proofs.YtlcdndlgjemmfaaDoor

/-
  Any number as a word, and any word as a number: the kit's contracts, in the engine's words; to base sixteen by a walk.
-/
namespace Go.Proofs.YtlcdndlgjemmfaaDoor
open Go.RowKit Go.ChangeShapes Go.WideShapes
set_option linter.unusedVariables false
set_option linter.unusedSimpArgs false

/-- What the calls lean on: the tables, and the errors' variables. -/
structure GlN (g : Hl) : Prop where
  gl : Gl g
  es : ∃ t p, GlC g 2 0 (.iface t p)
  er : ∃ t p, GlC g 3 0 (.iface t p)
  tab : ∃ e fz, g 0 = some (.cells (Lib.pow10Tab.map fun z => Value.int .u64 z).toArray e fz)
theorem GlN.mono {g g' : Hl} (h : GlN g) (hg : Hl.le g g') : GlN g' := ⟨h.gl.mono hg, by
  obtain ⟨t, p, h1⟩ := h.es
  exact ⟨t, p, h1.mono hg⟩, by
  obtain ⟨t, p, h1⟩ := h.er
  exact ⟨t, p, h1.mono hg⟩, by
  obtain ⟨e, fz, h1⟩ := h.tab
  exact ⟨e, fz, hg _ _ h1⟩⟩
theorem Sat.under {W w w' : World} {g : Hl} {H : List HP} (hs : Sat W w g H) (hb : Below w.heap.size w w') : Sat W w' g H :=
  (hs.newOwn (E := 5) (size := 1) (World.ownsRow_nil w' _ _ _) hb).drop
theorem below_grow (w : World) (k : Nat) (os : Array Obj) : Below w.heap.size w (Sort.grow (w.drewN k) os) :=
  ⟨rfl, rfl, rfl, by simp [Sort.grow], fun i hi => by simp [Sort.grow, Array.getElem?_append, hi]⟩
theorem GlN.tabIs {W w : World} {g : Hl} {H : List HP} (h : GlN g) (hs : Sat W w g H) : Lib.TabIs Tryd.prog w "internal/strconv.uint64pow10" .u64 Lib.pow10Tab := by
  obtain ⟨e, fz, h1⟩ := h.tab
  have h2 := hs.pool h1
  have gN : Program.globalNamed Tryd.prog "internal/strconv.uint64pow10" = some 0 := by kernel_rfl
  unfold Lib.TabIs World.var?
  rw [gN]
  simp only [Option.bind_some, h2]

theorem itoa_all {R : Ending → World → Prop} {W w : World} {g : Hl} {H : List HP} {n : Int} (hg : GlN g) (h0 : -9223372036854775808 ≤ n) (h1 : n ≤ 9223372036854775807) (hs : Sat W w g H)
    (hR : ∀ w', Sat W w' g H → R (.returned (str (Lib.itoa n))) w') : Calls Tryd.prog 15 #[.int .i64 n] w R := by
  refine Calls.mono (Any.strconv_Itoa Tryd.lay171 n h0 h1 w (hg.tabIs hs)) fun e w' ⟨he, k, os, hw⟩ => ?_
  subst he hw
  exact hR _ (hs.under (below_grow w k os))
theorem atoi_all {R : Ending → World → Prop} {W w : World} {g : Hl} {H : List HP} {l : List UInt8} (hg : GlN g) (hl : l.length ≤ 1000) (hs : Sat W w g H)
    (hOK : ∀ v w', Lib.atoiAll l = .ok v → Sat W w' g H → R (.returned (.tuple #[.int .i64 v, .nilIface])) w')
    (hE : ∀ v t p w', Sat W w' g H → R (.returned (.tuple #[.int .i64 v, .iface t p])) w') : Calls Tryd.prog 13 #[str l] w R := by
  have hsz : (⟨l.toArray⟩ : ByteArray).size = l.length := by simp [ByteArray.size]
  have hdl : (⟨l.toArray⟩ : ByteArray).data.toList = l := rfl
  cases h : Lib.atoiAll l with
  | ok v =>
    refine Calls.mono (Any.strconv_Atoi_ok Tryd.lay172 ⟨l.toArray⟩ (by omega) v h w) fun e w' ⟨he, hw⟩ => ?_
    subst he
    refine hOK v w' h ?_
    rcases hw with rfl | ⟨t, rfl⟩
    · exact hs
    · exact hs.under (Lib.bytesWorld_below _ _ _)
  | range =>
    obtain ⟨t, p, hc⟩ := hg.er
    refine Calls.mono (Any.strconv_Atoi_range Tryd.lay172 ⟨l.toArray⟩ (by omega) h (.iface t p) w (hc.at hs) (.inr ⟨t, p, rfl⟩)) fun e w' ⟨N, he, _, _, hb⟩ => ?_
    subst he
    exact hE _ _ _ _ (hs.under hb)
  | _ =>
    obtain ⟨t, p, hc⟩ := hg.es
    refine Calls.mono (Any.strconv_Atoi_syntax Tryd.lay172 ⟨l.toArray⟩ (by omega) h (.iface t p) w (hc.at hs) (.inr ⟨t, p, rfl⟩)) fun e w' ⟨N, he, _, _, hb⟩ => ?_
    subst he
    exact hE _ _ _ _ (hs.under hb)

end Go.Proofs.YtlcdndlgjemmfaaDoor

/-
  Any word as a number to base sixteen, by a walk.
-/
namespace Go.Proofs.YtlcdndlgjemmfaaDoor
open Go.RowKit Go.ChangeShapes Go.WideShapes
set_option linter.unusedVariables false
set_option linter.unusedSimpArgs false

/-- The letter of a byte, as it is computed. -/
def lowI (c : Int) : Int := Go.bits .or .u8 c 32
set_option maxHeartbeats 1600000 in
set_option maxRecDepth 100000 in
theorem lower_all {R : Ending → World → Prop} {w : World} {c : Int} (hR : R (.returned (.int .u8 (lowI c))) w) : Calls Tryd.prog 47 #[.int .u8 c] w R := by
  have HR := Lib.hid hR
  clear hR
  refine C.calls (args := [.int .u8 c]) Tryd.func47 rfl rfl rfl ?_
  refine go ?_
  refine A.r1 ?_
  exact HR.out

set_option maxHeartbeats 3200000 in
set_option maxRecDepth 100000 in
theorem parseUintI_all {R : Ending → World → Prop} {W w : World} {g : Hl} {H : List HP} {l : List UInt8} (h2 : l.length ≤ 1000) (hs : Sat W w g H)
    (hOK : ∀ v w' g', Hl.le g g' → v < 18446744073709551616 → Sat W w' g' H → R (.returned (.tuple #[.int .u64 (v : Nat), .nilIface])) w')
    (hE : ∀ (v k : Int) w' g', Hl.le g g' → (k = 1 ∨ k = 2) → Sat W w' g' H → R (.returned (.tuple #[.int .u64 v, .iface 69 (.int .i64 k)])) w') : Calls Tryd.prog 29 #[str l, .int .i64 16, .int .i64 64] w R := by
  have HOK := Lib.hid hOK
  have HE := Lib.hid hE
  clear hOK hE
  have e0 : str l = .string ⟨l.toArray⟩ := rfl
  rw [e0]
  clear e0
  refine C.calls (args := [.string ⟨l.toArray⟩, .int .i64 16, .int .i64 64]) Tryd.func29 rfl rfl rfl ?_
  refine go ?_
  cases hn : decide (l = []) with
  | true =>
    refine go ?_
    refine A.r2 ?_
    exact HE.out 0 2 _ g (Hl.le_refl _) (.inr rfl) hs
  | false =>
  clear hn
  refine go ?_
  rw [show IntKind.u64.wrap (((1 * 2 ^ 64 % 2 ^ IntKind.u64.bits : Nat) : Int) - 1) = 18446744073709551615 by decide +kernel]
  refine E.bytes (l := l) Tryd.underlying9 Tryd.underlying49 Tryd.underlying5 hs (by omega) ?_
  intro b c w1 g1 hg1 hs hp
  refine gob ?_
  refine C.cut (fun v : Nat => [(12, .bool false), (13, .int .u64 v)]) (fun v w => v < 18446744073709551616 ∧ Sat W w g1 H) ?_ ?_
  · refine C.block ?_
    refine C.lp (fun q : Nat × Nat => [(1, .int .i64 16), (8, .bool false), (10, .int .u64 1152921504606846976), (11, .int .u64 18446744073709551615), (12, .bool false), (13, .int .u64 q.2), (99, .slice (some ⟨b, 0, none⟩) l.length c), (100, .int .i64 l.length), (101, .int .i64 q.1)])
      (fun gk q w => gk = l.length - q.1 ∧ q.1 ≤ l.length ∧ q.2 < 18446744073709551616 ∧ Sat W w g1 H) l.length (0, 0) ⟨rfl, Nat.zero_le _, by decide, hs⟩ ?_
    clear hs
    rintro gk ⟨i, q⟩ w2 ⟨rfl, hi, hq, hs⟩
    simp only at hi hq ⊢
    refine go ?_
    refine C.cond_dec (p := (i : Int) < l.length) rfl (fun h => ?_) (fun h => ?_)
    rotate_left
    · refine go ?_
      exact A.mt q ⟨hq, hs⟩
    have hil : i < l.length := by omega
    have hc3 : w2.cell? ⟨b, i, none⟩ = some (.int .u8 (l[i].toNat : Int)) := by
      have := ((hp.row hs).cellAt rfl (bs_get hil)).2
      simpa using this
    have hch : l[i].toNat < 256 := by have := l[i].toNat_lt; omega
    generalize l[i].toNat = ch at hc3 hch
    apply later (α := Nat) (f := fun dg => [(1, .int .i64 16), (8, .bool false), (10, .int .u64 1152921504606846976), (11, .int .u64 18446744073709551615), (12, .bool false), (13, .int .u64 q), (16, .int .u8 dg), (137, .bool (decide ((16 : Int) ≤ dg))), (99, .slice (some ⟨b, 0, none⟩) l.length c), (100, .int .i64 l.length), (101, .int .i64 i)])
      (M := fun dg w => dg < 256 ∧ Sat W w g1 H)
    · intro key
      by_cases h95 : ch = 95
      · subst h95
        refine go ?_
        refine E.callf Tryd.func47 rfl ?_
        refine lower_all ?_
        rw [show lowI ((95 : Nat) : Int) = 127 by decide +kernel]
        refine go ?_
        refine E.callf Tryd.func47 rfl ?_
        refine lower_all ?_
        rw [show lowI ((95 : Nat) : Int) = 127 by decide +kernel]
        refine go ?_
        refine A.r2 ?_
        exact HE.out 0 2 _ g1 hg1 (.inr rfl) hs
      refine go ?_
      rw [show decide ((ch : Int) = 95) = false from decide_eq_false (by omega)]
      refine go ?_
      cases h48 : decide ((48 : Int) ≤ ch) with
      | true =>
        have h48' := of_decide_eq_true h48
        clear h48
        refine go ?_
        cases h57 : decide ((ch : Int) ≤ 57) with
        | true =>
          have h57' := of_decide_eq_true h57
          clear h57
          refine go ?_
          rw [show IntKind.u8.wrap ((ch : Int) - 48) = ((ch - 48 : Nat) : Int) by rw [wrapu8_id (by omega) (by omega)]; omega]
          exact C.forget wk_ (key (ch - 48) _ ⟨by omega, hs⟩)
        | false =>
          clear h57
          refine go ?_
          refine E.callf Tryd.func47 rfl ?_
          refine lower_all ?_
          generalize hlo : lowI (ch : Int) = lo
          refine go ?_
          cases h97 : decide ((97 : Int) ≤ lo) with
          | false =>
            refine go ?_
            refine A.r2 ?_
            exact HE.out 0 2 _ g1 hg1 (.inr rfl) hs
          | true =>
          have h97' := of_decide_eq_true h97
          clear h97
          refine go ?_
          refine E.callf Tryd.func47 rfl ?_
          refine lower_all ?_
          rw [hlo]
          refine go ?_
          cases h122 : decide (lo ≤ (122 : Int)) with
          | false =>
            refine go ?_
            refine A.r2 ?_
            exact HE.out 0 2 _ g1 hg1 (.inr rfl) hs
          | true =>
          have h122' := of_decide_eq_true h122
          clear h122
          refine go ?_
          refine E.callf Tryd.func47 rfl ?_
          refine lower_all ?_
          rw [hlo]
          clear hlo
          obtain ⟨dg, hdg⟩ : ∃ dg : Nat, (dg : Int) = lo - 87 := ⟨(lo - 87).toNat, by omega⟩
          have ew : IntKind.u8.wrap (IntKind.u8.wrap (lo - 97) + 10) = (dg : Int) := by
            rw [wrapu8_id (i := lo - 97) (by omega) (by omega), wrapu8_id (by omega) (by omega)]
            omega
          have hdl : dg < 256 := by omega
          clear hdg h97' h122'
          refine go ?_
          rw [ew]
          exact C.forget wk_ (key dg _ ⟨hdl, hs⟩)
      | false =>
        clear h48
        refine go ?_
        refine E.callf Tryd.func47 rfl ?_
        refine lower_all ?_
        generalize hlo : lowI (ch : Int) = lo
        refine go ?_
        cases h97 : decide ((97 : Int) ≤ lo) with
        | false =>
          refine go ?_
          refine A.r2 ?_
          exact HE.out 0 2 _ g1 hg1 (.inr rfl) hs
        | true =>
        have h97' := of_decide_eq_true h97
        clear h97
        refine go ?_
        refine E.callf Tryd.func47 rfl ?_
        refine lower_all ?_
        rw [hlo]
        refine go ?_
        cases h122 : decide (lo ≤ (122 : Int)) with
        | false =>
          refine go ?_
          refine A.r2 ?_
          exact HE.out 0 2 _ g1 hg1 (.inr rfl) hs
        | true =>
        have h122' := of_decide_eq_true h122
        clear h122
        refine go ?_
        refine E.callf Tryd.func47 rfl ?_
        refine lower_all ?_
        rw [hlo]
        clear hlo
        obtain ⟨dg, hdg⟩ : ∃ dg : Nat, (dg : Int) = lo - 87 := ⟨(lo - 87).toNat, by omega⟩
        have ew : IntKind.u8.wrap (IntKind.u8.wrap (lo - 97) + 10) = (dg : Int) := by
          rw [wrapu8_id (i := lo - 97) (by omega) (by omega), wrapu8_id (by omega) (by omega)]
          omega
        have hdl : dg < 256 := by omega
        clear hdg h97' h122'
        refine go ?_
        rw [ew]
        exact C.forget wk_ (key dg _ ⟨hdl, hs⟩)
    · rintro dg w5 ⟨hdg, hs⟩
      cases h16 : decide ((16 : Int) ≤ dg) with
      | true =>
        refine go ?_
        refine A.r2 ?_
        exact HE.out 0 2 _ g1 hg1 (.inr rfl) hs
      | false =>
      have h16' := of_decide_eq_false h16
      clear h16
      refine go ?_
      cases hcu : decide ((1152921504606846976 : Int) ≤ q) with
      | true =>
        refine go ?_
        refine A.r2 ?_
        exact HE.out _ 1 _ g1 hg1 (.inl rfl) hs
      | false =>
      have hcu' := of_decide_eq_false hcu
      clear hcu
      refine go ?_
      rw [show decide (((q * 16 + dg : Nat) : Int) < ((q * 16 : Nat) : Int)) = false from decide_eq_false (by omega)]
      refine go ?_
      rw [show decide ((18446744073709551615 : Int) < ((q * 16 + dg : Nat) : Int)) = false from decide_eq_false (by omega)]
      refine go ?_
      exact A.rd (l.length - (i + 1)) (i + 1, q * 16 + dg) ⟨rfl, by simp only; omega, by simp only; omega, hs⟩
  clear hs
  rintro v w4 ⟨hv, hs⟩
  refine go ?_
  refine A.r2 ?_
  exact HOK.out v _ g1 hg1 hv hs
set_option maxHeartbeats 1600000 in
set_option maxRecDepth 100000 in
theorem parseUint_all {R : Ending → World → Prop} {W w : World} {g : Hl} {H : List HP} {l : List UInt8} (hg : GlN g) (h2 : l.length ≤ 1000) (hs : Sat W w g H)
    (hOK : ∀ v w' g', Hl.le g g' → v < 18446744073709551616 → Sat W w' g' H → R (.returned (.tuple #[.int .u64 (v : Nat), .nilIface])) w')
    (hE : ∀ (v : Int) t p w' g', Hl.le g g' → Sat W w' g' H → R (.returned (.tuple #[.int .u64 v, .iface t p])) w') : Calls Tryd.prog 14 #[str l, .int .i64 16, .int .i64 64] w R := by
  have HOK := Lib.hid hOK
  have HE := Lib.hid hE
  clear hOK hE
  have k2 : ∀ {R : Ending → World → Prop} {w : World} {g1 : Hl} (k : Int), Hl.le g g1 → (k = 1 ∨ k = 2) → Sat W w g1 H → (∀ t p w', Sat W w' g1 H → R (.returned (.iface t p)) w') → Calls Tryd.prog 28 #[.string ⟨#[80, 97, 114, 115, 101, 85, 105, 110, 116]⟩, str l, .int .i64 16, .int .i64 64, .iface 69 (.int .i64 k)] w R := fun {R w g1} k hg1 hk hs h => by
    have hsz : (⟨l.toArray⟩ : ByteArray).size = l.length := by simp [ByteArray.size]
    rcases hk with rfl | rfl
    · obtain ⟨t, p, hc⟩ := (hg.mono hg1).er
      refine Calls.mono (Any.strconv_toError_range Tryd.lay245 ⟨#[80, 97, 114, 115, 101, 85, 105, 110, 116]⟩ ⟨l.toArray⟩ 16 64 (.iface t p) w (by omega) (hc.at hs) (.inr ⟨t, p, rfl⟩)) fun e w' ⟨N, he, _, _, hb⟩ => ?_
      subst he
      exact h _ _ _ (hs.under hb)
    · obtain ⟨t, p, hc⟩ := (hg.mono hg1).es
      refine Calls.mono (Any.strconv_toError_syntax Tryd.lay245 ⟨#[80, 97, 114, 115, 101, 85, 105, 110, 116]⟩ ⟨l.toArray⟩ 16 64 (.iface t p) w (by omega) (hc.at hs) (.inr ⟨t, p, rfl⟩)) fun e w' ⟨N, he, _, _, hb⟩ => ?_
      subst he
      exact h _ _ _ (hs.under hb)
  refine C.calls (args := [str l, .int .i64 16, .int .i64 64]) Tryd.func14 rfl rfl rfl ?_
  refine go ?_
  refine E.callf Tryd.func29 rfl ?_
  refine parseUintI_all h2 hs ?_ ?_
  · intro v w2 g2 hg2 hv hs
    refine go ?_
    refine A.r2 ?_
    exact HOK.out v _ g2 hg2 hv hs
  · intro v k w2 g2 hg2 hk hs
    refine go ?_
    refine E.callf Tryd.func28 rfl ?_
    refine k2 k hg2 hk hs ?_
    intro t p w3 hs
    refine go ?_
    refine A.r2 ?_
    exact HE.out v t p _ g2 hg2 hs
end Go.Proofs.YtlcdndlgjemmfaaDoor

/-
  Layer 8 (segment): the names of a writer's files.
-/
namespace Go.Proofs.YtlcdndlgjemmfaaDoor
open Go.RowKit
set_option linter.unusedVariables false
set_option linter.unusedSimpArgs false

/-- How the names of a writer's segments begin. -/
def beginB (w : Nat) : List UInt8 := [102, 101, 101, 100, 45] ++ decN w ++ [45]
/-- Sixteen digits. -/
def padB (n : Nat) : List UInt8 := List.replicate (16 - (hexN n).length) 48 ++ hexN n
def nameB (w n : Nat) : List UInt8 := beginB w ++ padB n
theorem padB_len {n : Nat} (h : n < 18446744073709551616) : (padB n).length = 16 := by
  have := hexN_len 16 n (by decide) (by exact h)
  unfold padB
  rw [List.length_append, List.length_replicate]
  omega
theorem beginB_len {w : Nat} (h : w < 100) : 7 ≤ (beginB w).length ∧ (beginB w).length ≤ 8 := by
  have := decN_len h
  unfold beginB
  simp only [List.length_append, List.length_cons, List.length_nil]
  omega

set_option maxHeartbeats 1600000 in
set_option maxRecDepth 100000 in
theorem segBegin_any {R : Ending → World → Prop} {w : World} {i : Nat} (hi : i < 100) (hR : R (.returned (str (beginB i))) w) : Calls Tryd.prog 7 #[.int .i64 i] w R := by
  have HR := Lib.hid hR
  clear hR
  have hl := decN_len hi
  refine C.calls (args := [.int .i64 i]) Tryd.func7 rfl rfl rfl ?_
  refine go ?_
  refine E.callf Tryd.func15 rfl ?_
  refine itoa_any hi ?_
  rw [show str (decN i) = .string ⟨(decN i).toArray⟩ from rfl]
  refine go ?_
  refine A.r1 ?_
  exact HR.out
set_option maxHeartbeats 1600000 in
set_option maxRecDepth 100000 in
theorem segName_any {R : Ending → World → Prop} {W w : World} {g : Hl} {H : List HP} {i n : Nat} (hg : Gl g) (hi : i < 100) (hn : n < 18446744073709551616) (hs : Sat W w g H)
    (hR : ∀ w', Sat W w' g H → R (.returned (str (nameB i n))) w') : Calls Tryd.prog 5 #[.int .i64 i, .int .u64 n] w R := by
  have HR := Lib.hid hR
  clear hR
  have hl := hexN_len 16 n (by decide) (by exact hn)
  have hb := beginB_len hi
  refine C.calls (args := [.int .i64 i, .int .u64 n]) Tryd.func5 rfl rfl rfl ?_
  refine go ?_
  refine E.callf Tryd.func9 rfl ?_
  refine formatUint_any hg hn hs ?_
  intro w2 hs
  rw [show str (hexN n) = .string ⟨(hexN n).toArray⟩ from rfl]
  refine go ?_
  refine E.callf Tryd.func7 rfl ?_
  refine segBegin_any hi ?_
  rw [show str (beginB i) = .string ⟨(beginB i).toArray⟩ from rfl]
  refine go ?_
  rw [show Max.max 0 ((16 : Int) - (hexN n).length) = ((16 - (hexN n).length : Nat) : Int) by omega]
  refine E.callf Tryd.func10 rfl ?_
  refine repeat_any (k := 16 - (hexN n).length) (by omega) ?_
  rw [show str (List.replicate (16 - (hexN n).length) 48) = .string ⟨(List.replicate (16 - (hexN n).length) 48).toArray⟩ from rfl]
  have hrl : (List.replicate (16 - (hexN n).length) (48 : UInt8)).length ≤ 16 := by simp
  refine go ?_
  refine A.r1 ?_
  have := HR.out _ hs
  unfold nameB padB at this
  rw [← List.append_assoc] at this
  exact this
end Go.Proofs.YtlcdndlgjemmfaaDoor

/-
  Layer 8 (segment): a writer and a number out of a file's name.
-/
namespace Go.Proofs.YtlcdndlgjemmfaaDoor
open Go.RowKit
set_option linter.unusedVariables false
set_option linter.unusedSimpArgs false

theorem ixB_at (c : UInt8) : ∀ (l m : List UInt8), (∀ x ∈ l, x ≠ c) → ixB c (l ++ c :: m) = l.length
  | [], m, _ => by simp [ixB]
  | x :: l, m, h => by
    have ih := ixB_at c l m fun y hy => h y (List.mem_cons_of_mem _ hy)
    have hx := h x (List.mem_cons_self ..)
    simp only [List.cons_append, ixB, if_neg hx, ih, List.length_cons]
    rw [if_neg (by omega)]
    omega
theorem padB_val {n : Nat} (h : n < 18446744073709551616) : hexV (padB n) = n ∧ (padB n).all hexB = true := by
  obtain ⟨h1, h2⟩ := hexV_hexN 16 n h
  unfold padB
  have h0 : ∀ k, hexV (List.replicate k 48) = 0 := by
    intro k
    induction k with
    | zero => rfl
    | succ k ih =>
      rw [List.replicate_succ', hexV_append, ih]
      decide +kernel
  refine ⟨?_, ?_⟩
  · rw [hexV_append, h0]
    exact h1
  · rw [List.all_append, h2, Bool.and_true, List.all_eq_true]
    intro x hx
    obtain ⟨_, rfl⟩ := List.mem_replicate.1 hx
    decide +kernel

set_option maxHeartbeats 3200000 in
set_option maxRecDepth 100000 in
theorem split_any {R : Ending → World → Prop} {W w : World} {g : Hl} {H : List HP} {i n : Nat} (hg : Gl g) (hi : i < 100) (hn : n < 18446744073709551616) (hs : Sat W w g H)
    (hR : ∀ w' g', Hl.le g g' → Sat W w' g' H → R (.returned (.tuple #[.int .i64 i, .int .u64 n, .bool true])) w') : Calls Tryd.prog 6 #[str (nameB i n)] w R := by
  have HR := Lib.hid hR
  clear hR
  have hl := decN_len hi
  have hp := padB_len hn
  obtain ⟨hv1, hv2⟩ := padB_val hn
  obtain ⟨hd1, hd2⟩ := decV_decN hi
  have hnl : (nameB i n).length ≤ 100 := by
    have := beginB_len hi
    unfold nameB
    rw [List.length_append]
    omega
  have hne : nameB i n = ([102, 101, 101, 100, 45] : List UInt8) ++ (decN i ++ 45 :: padB n) := by simp [nameB, beginB]
  have hix : ixB 45 (decN i ++ 45 :: padB n) = (decN i).length := ixB_at 45 _ _ fun x hx => by
    have := List.all_eq_true.1 hd2 x hx
    rintro rfl
    exact absurd this (by decide)
  have hsl : (decN i ++ 45 :: padB n).length ≤ 1000 := by simp only [List.length_append, List.length_cons]; omega
  have htk : (decN i ++ 45 :: padB n).take (decN i).length = decN i := List.take_left
  have hdk : (decN i ++ 45 :: padB n).drop ((decN i).length + 1) = padB n := by
    rw [← List.drop_drop, List.drop_left]
    rfl
  rw [hne] at hnl ⊢
  replace hne := Lib.hid hne
  generalize hrest : decN i ++ 45 :: padB n = rest at hix hsl htk hdk hnl hne ⊢
  refine C.calls (args := [str (([102, 101, 101, 100, 45] : List UInt8) ++ rest)]) Tryd.func6 rfl rfl rfl ?_
  refine go ?_
  refine E.callf Tryd.func11 rfl ?_
  refine cutPrefix_has (p := [102, 101, 101, 100, 45]) (r := rest) (by omega) ?_
  refine go ?_
  refine E.callf Tryd.func12 rfl ?_
  refine cut1_any (s := rest) (c := 45) (by omega) hs ?_ ?_
  · intro k hk hkl w2 hs
    obtain rfl : k = (decN i).length := by omega
    rw [htk, hdk]
    clear htk hdk hk hix hrest
    refine go ?_
    refine E.callf Tryd.func13 rfl ?_
    refine atoi_any (l := decN i) hl.1 (by omega) hd2 hs ?_
    intro w3 g3 hg3 hs
    rw [hd1]
    refine go ?_
    refine E.callf Tryd.func14 rfl ?_
    refine parseUint_any (l := padB n) (by omega) (by omega) hv2 (by omega) hs ?_
    intro w4 g4 hg4 hs
    rw [hv1]
    refine go ?_
    rw [show decide ((i : Int) < 0) = false from decide_eq_false (by omega)]
    refine go ?_
    refine E.callf Tryd.func5 rfl ?_
    refine segName_any (i := i) (n := n) ((hg.mono hg3).mono hg4) hi hn hs ?_
    intro w5 hs
    rw [hne.out]
    have e0 : str (([102, 101, 101, 100, 45] : List UInt8) ++ rest) = .string ⟨(([102, 101, 101, 100, 45] : List UInt8) ++ rest).toArray⟩ := rfl
    rw [e0]
    refine go ?_
    rw [decide_eq_true (rfl : (([102, 101, 101, 100, 45] : List UInt8) ++ rest) = ([102, 101, 101, 100, 45] : List UInt8) ++ rest)]
    refine go ?_
    refine A.r3 ?_
    exact HR.out _ g4 (hg3.trans hg4) hs
  · intro hk
    omega
end Go.Proofs.YtlcdndlgjemmfaaDoor

/-
  Layer 4 (disk): which names a file may have.
-/
namespace Go.Proofs.YtlcdndlgjemmfaaDoor
open Go.RowKit
set_option linter.unusedVariables false
set_option linter.unusedSimpArgs false

/-- May a name have that byte? -/
def okB (b : UInt8) : Bool := (97 ≤ b.toNat && b.toNat ≤ 122) || (48 ≤ b.toNat && b.toNat ≤ 57) || b.toNat == 46 || b.toNat == 45
def namedB (l : List UInt8) : Bool := !l.isEmpty && decide (l.length ≤ 48) && l.all okB
/-- A character that no name has. -/
def badR (c : Int) : Bool := (decide (c < 97) || decide (122 < c)) && (decide (c < 48) || decide (57 < c)) && !decide (c = 46) && !decide (c = 45)
theorem badR_okB (b : UInt8) : badR b.toNat = !okB b := by
  have : ∀ n : Fin 256, badR (n.val : Nat) = !((97 ≤ n.val && n.val ≤ 122) || (48 ≤ n.val && n.val ≤ 57) || n.val == 46 || n.val == 45) := by decide +kernel
  exact this ⟨b.toNat, b.toNat_lt⟩
theorem badR_big {c : Nat} (h : 128 ≤ c) : badR c = true := by
  have h1 : decide ((122 : Int) < c) = true := by simp; omega
  have h2 : decide ((57 : Int) < c) = true := by simp; omega
  have h3 : decide ((c : Int) = 46) = false := by simp; omega
  have h4 : decide ((c : Int) = 45) = false := by simp; omega
  simp [badR, h1, h2, h3, h4]

set_option maxHeartbeats 1600000 in
set_option maxRecDepth 100000 in
theorem badR_any {R : Ending → World → Prop} {w : World} (c : Int) (hR : R (.returned (.bool (badR c))) w) : Calls Tryd.prog 17 #[.int .i32 c] w R := by
  have HR := Lib.hid hR
  clear hR
  refine C.calls (args := [.int .i32 c]) Tryd.func17 rfl rfl rfl ?_
  refine go ?_
  cases h1 : decide (c < 97)
  · refine go ?_
    cases h2 : decide (122 < c)
    · refine go ?_
      refine A.r1 ?_
      have := HR.out
      simpa [badR, h1, h2] using this
    · refine go ?_
      have h3 : decide (c < 48) = false := by simp at h2 ⊢; omega
      rw [h3]
      refine go ?_
      have h4 : decide (57 < c) = true := by simp at h2 ⊢; omega
      rw [h4]
      refine go ?_
      have h5 : decide (c = 46) = false := by simp at h2 ⊢; omega
      rw [h5]
      refine go ?_
      have h6 : decide (c = 45) = false := by simp at h2 ⊢; omega
      rw [h6]
      refine go ?_
      refine A.r1 ?_
      have := HR.out
      simpa [badR, h1, h2, h3, h4, h5, h6] using this
  · refine go ?_
    cases h3 : decide (c < 48)
    · refine go ?_
      cases h4 : decide (57 < c)
      · refine go ?_
        refine A.r1 ?_
        have := HR.out
        simpa [badR, h1, h3, h4] using this
      · refine go ?_
        have h5 : decide (c = 46) = false := by simp at h4 ⊢; omega
        rw [h5]
        refine go ?_
        have h6 : decide (c = 45) = false := by simp at h4 ⊢; omega
        rw [h6]
        refine go ?_
        refine A.r1 ?_
        have := HR.out
        simpa [badR, h1, h3, h4, h5, h6] using this
    · refine go ?_
      cases h5 : decide (c = 46)
      · refine go ?_
        cases h6 : decide (c = 45)
        · refine go ?_
          refine A.r1 ?_
          have := HR.out
          simpa [badR, h1, h3, h5, h6] using this
        · refine go ?_
          refine A.r1 ?_
          have := HR.out
          simpa [badR, h1, h3, h5, h6] using this
      · refine go ?_
        refine A.r1 ?_
        have := HR.out
        simpa [badR, h1, h3, h5] using this

theorem get_str (l : List UInt8) (i : Nat) (h : i < l.length) : (ByteArray.mk l.toArray).get! i = l[i] := by
  simp [ByteArray.get!, h]
theorem decode_ascii (l : List UInt8) (i : Nat) (h : i < l.length) (hb : l[i].toNat < 128) : Utf8.decode ⟨l.toArray⟩ i = (l[i].toNat, 1) := by
  simp only [Utf8.decode, Nat.add_zero, get_str l i h]
  rw [if_pos hb]
theorem decode_big (l : List UInt8) (i : Nat) (h : i < l.length) (hb : ¬ l[i].toNat < 128) : 128 ≤ (Utf8.decode ⟨l.toArray⟩ i).1 := by
  simp only [Utf8.decode, Nat.add_zero, get_str l i h]
  rw [if_neg hb]
  have hr : 128 ≤ Utf8.runeError := by decide
  repeat' split
  all_goals (first | exact hr | (rename_i h; simp only [ge_iff_le, Bool.and_eq_true, decide_eq_true_eq] at h; simp only; omega))
/-- The first place whose character no name has. -/
def badAt : List UInt8 → Nat → Option Nat
  | [], _ => none
  | b :: r, i => if okB b then badAt r (i + 1) else some i
theorem badAt_all : ∀ (l : List UInt8) (i : Nat), (badAt l i = none ↔ l.all okB = true)
  | [], _ => by simp [badAt]
  | b :: r, i => by
    simp only [badAt]
    split
    · rename_i h; rw [badAt_all r (i + 1)]; simp [h]
    · rename_i h; simp [h]
theorem okB_lt {b : UInt8} (h : okB b = true) : b.toNat < 128 := by
  simp only [okB, Bool.or_eq_true, Bool.and_eq_true, decide_eq_true_eq, beq_iff_eq] at h
  omega

set_option maxHeartbeats 1600000 in
set_option maxRecDepth 100000 in
theorem indexFunc_bad {R : Ending → World → Prop} {W w : World} {g : Hl} {H : List HP} (l : List UInt8) (hl : l.length ≤ 1000) (hs : Sat W w g H)
    (hR : ∀ w' i, Sat W w' g H → (0 ≤ i ↔ l.all okB = false) → R (.returned (.int .i64 i)) w') : Calls Tryd.prog 50 #[str l, .func (.func 17) #[] #[], .bool true] w R := by
  have HR := Lib.hid hR
  clear hR
  refine C.calls (args := [str l, .func (.func 17) #[] #[], .bool true]) Tryd.func50 rfl rfl rfl ?_
  refine go ?_
  refine E.ranges hs ?_
  intro r w1 hs
  refine gob ?_
  refine C.block ?_
  refine C.lp (fun i : Nat => [(0, str l), (1, .func (.func 17) #[] #[]), (2, .bool true), (10, .pointer (some ⟨r, 0, none⟩))])
    (fun gk i w => gk = l.length - i ∧ i ≤ l.length ∧ (l.take i).all okB = true ∧ Sat W w g (obj r (.stringIter ⟨l.toArray⟩ i) :: H)) l.length 0 ⟨rfl, by omega, by simp, hs⟩ ?_
  clear hs
  rintro gk i w2 ⟨rfl, hi, hall, hs⟩
  refine go ?_
  have hsz : (ByteArray.mk l.toArray).size = l.length := by simp [ByteArray.size]
  refine E.nexts hs (fun h0 => ?_) (fun w3 h1 hs => ?_)
  · rw [hsz] at h0
    refine go ?_
    refine A.r1 ?_
    have hil : i = l.length := by omega
    rw [hil, List.take_length] at hall
    exact HR.out _ _ hs.drop (by simp [hall])
  · rw [hsz] at h1
    have hall2 : (l.take (i + 1)).all okB = ((l.take i).all okB && okB l[i]) := by
      rw [List.take_succ_eq_append_getElem h1, List.all_append]; simp
    refine go ?_
    refine E.callv Tryd.func17 rfl rfl rfl ?_
    refine badR_any _ ?_
    by_cases hb : l[i].toNat < 128
    · rw [decode_ascii l i h1 hb] at hs ⊢
      simp only at hs ⊢
      cases hk : okB l[i] with
      | true =>
        have hbr : badR (l[i].toNat : Nat) = false := by rw [badR_okB, hk]; rfl
        rw [hbr]
        refine go ?_
        exact A.rd (l.length - (i + 1)) (i + 1) ⟨rfl, by omega, by rw [hall2, hall, hk]; rfl, hs⟩
      | false =>
        have hbr : badR (l[i].toNat : Nat) = true := by rw [badR_okB, hk]; rfl
        rw [hbr]
        refine go ?_
        refine A.r1 ?_
        refine HR.out _ _ hs.drop ⟨fun _ => ?_, fun _ => by omega⟩
        cases hA : l.all okB with
        | false => rfl
        | true => rw [List.all_eq_true.1 hA _ (List.getElem_mem h1)] at hk; cases hk
    · have hbr := badR_big (decode_big l i h1 hb)
      rw [hbr]
      refine go ?_
      refine A.r1 ?_
      refine HR.out _ _ hs.drop ⟨fun _ => ?_, fun _ => by omega⟩
      cases hA : l.all okB with
      | false => rfl
      | true => exact absurd (okB_lt (List.all_eq_true.1 hA _ (List.getElem_mem h1))) hb

set_option maxHeartbeats 1600000 in
set_option maxRecDepth 100000 in
theorem named_any {R : Ending → World → Prop} {W w : World} {g : Hl} {H : List HP} (l : List UInt8) (hs : Sat W w g H)
    (hR : ∀ w', Sat W w' g H → R (.returned (.bool (namedB l))) w') : Calls Tryd.prog 8 #[str l] w R := by
  have HR := Lib.hid hR
  clear hR
  refine C.calls (args := [str l]) Tryd.func8 rfl rfl rfl ?_
  refine go ?_
  cases h0 : decide (l = [])
  · refine go ?_
    cases h1 : decide ((l.length : Int) ≤ 48)
    · refine go ?_
      refine A.r1 ?_
      have h1' : ¬ l.length ≤ 48 := by simp at h1; omega
      have := HR.out _ hs
      rw [show namedB l = false by simp [namedB, h1']] at this
      exact this
    · have h1' : l.length ≤ 48 := by simp at h1; omega
      have h0' : l ≠ [] := by simpa using h0
      refine go ?_
      refine E.callf Tryd.func16 rfl ?_
      refine ?_
      refine C.calls (args := [str l, .func (.func 17) #[] #[]]) Tryd.func16 rfl rfl rfl ?_
      refine go ?_
      refine E.callf Tryd.func31 rfl ?_
      refine ?_
      refine C.calls (args := [str l, .func (.func 17) #[] #[]]) Tryd.func31 rfl rfl rfl ?_
      refine go ?_
      refine E.callf Tryd.func50 rfl ?_
      refine indexFunc_bad l (by omega) hs ?_
      intro w1 i hs hi
      refine go ?_
      refine A.r1 ?_
      refine go ?_
      refine A.r1 ?_
      refine go ?_
      refine A.r1 ?_
      have := HR.out _ hs
      have e : (!decide (0 ≤ i)) = namedB l := by
        have : l.isEmpty = false := by cases l <;> simp_all
        simp only [namedB, this, h1']
        cases hA : l.all okB with
        | false => simp [hi.2 hA]
        | true =>
          have : ¬ 0 ≤ i := fun h => by rw [hi.1 h] at hA; cases hA
          simp [this]
      rw [e]
      exact this
  · have h0' : l = [] := by simpa using h0
    subst h0'
    refine go ?_
    refine A.r1 ?_
    exact HR.out _ hs
end Go.Proofs.YtlcdndlgjemmfaaDoor

/-
  Layer 8 (segment): names of any writer, and any word as a name.
-/
namespace Go.Proofs.YtlcdndlgjemmfaaDoor
open Go.RowKit
set_option linter.unusedVariables false
set_option linter.unusedSimpArgs false

def beginG (i : Int) : List UInt8 := [102, 101, 101, 100, 45] ++ Lib.itoa i ++ [45]
def nameG (i : Int) (n : Nat) : List UInt8 := beginG i ++ padB n
theorem itoa_small {i : Nat} (h : i < 256) : (1 ≤ (Lib.itoa i).length ∧ (Lib.itoa i).length ≤ 18) ∧ (Lib.itoa i).all digB = true ∧ decV (Lib.itoa i) = i :=
  (by decide +kernel : ∀ j : Fin 256, (1 ≤ (Lib.itoa (j.val : Nat)).length ∧ (Lib.itoa (j.val : Nat)).length ≤ 18) ∧ (Lib.itoa (j.val : Nat)).all digB = true ∧ decV (Lib.itoa (j.val : Nat)) = j.val) ⟨i, h⟩
theorem digB_okB {c : UInt8} (h : digB c = true) : okB c = true := by
  simp only [digB, Bool.and_eq_true, decide_eq_true_eq] at h
  simp only [okB, Bool.or_eq_true, Bool.and_eq_true, decide_eq_true_eq]
  omega
theorem padB_ok (n : Nat) : (padB n).all okB = true := by
  have hh : ∀ d < 16, okB (hexD d) = true := by decide
  have hx : ∀ n, (hexN n).all okB = true := by
    intro n
    induction n using Nat.strongRecOn with
    | _ n ih =>
      by_cases h : n < 16
      · rw [hexN_small h]; simp [hh n h]
      · rw [hexN_step (by omega), List.all_append, ih _ (by omega)]
        simp [hh (n % 16) (by omega)]
  unfold padB
  rw [List.all_append, hx n, Bool.and_true, List.all_eq_true]
  intro x hx
  rw [(List.mem_replicate.1 hx).2]
  decide
theorem nameG_named {i n : Nat} (hi : i < 256) (hn : n < 18446744073709551616) : namedB (nameG i n) = true := by
  have h1 := padB_len hn
  obtain ⟨h2, h3, _⟩ := itoa_small hi
  have h4 : (Lib.itoa (i : Nat)).all okB = true := List.all_eq_true.2 fun x hx => digB_okB (List.all_eq_true.1 h3 x hx)
  have h5 : ([102, 101, 101, 100, 45] : List UInt8).all okB = true := by decide
  have h6 : ([45] : List UInt8).all okB = true := by decide
  unfold namedB nameG beginG
  rw [List.all_append, List.all_append, List.all_append, h4, h5, h6, padB_ok]
  simp only [List.length_append, List.length_cons, List.length_nil, List.isEmpty_iff, Bool.and_true, Bool.true_and, List.cons_append, List.isEmpty_cons, Bool.not_false]
  rw [decide_eq_true_eq]
  omega

set_option maxHeartbeats 1600000 in
set_option maxRecDepth 100000 in
theorem segBegin_all {R : Ending → World → Prop} {W w : World} {g : Hl} {H : List HP} {i : Int} (hg : GlN g) (h0 : -9223372036854775808 ≤ i) (h1 : i ≤ 9223372036854775807) (hs : Sat W w g H)
    (hR : ∀ w', Sat W w' g H → R (.returned (str (beginG i))) w') : Calls Tryd.prog 7 #[.int .i64 i] w R := by
  have HR := Lib.hid hR
  clear hR
  have hl := Lib.itoa_length_le i h0 h1
  refine C.calls (args := [.int .i64 i]) Tryd.func7 rfl rfl rfl ?_
  refine go ?_
  refine E.callf Tryd.func15 rfl ?_
  refine itoa_all hg h0 h1 hs ?_
  intro w2 hs
  rw [show str (Lib.itoa i) = .string ⟨(Lib.itoa i).toArray⟩ from rfl]
  refine go ?_
  refine A.r1 ?_
  exact HR.out _ hs
set_option maxHeartbeats 1600000 in
set_option maxRecDepth 100000 in
theorem segName_all {R : Ending → World → Prop} {W w : World} {g : Hl} {H : List HP} {i : Int} {n : Nat} (hg : GlN g) (h0 : -9223372036854775808 ≤ i) (h1 : i ≤ 9223372036854775807) (hn : n < 18446744073709551616) (hs : Sat W w g H)
    (hR : ∀ w', Sat W w' g H → R (.returned (str (nameG i n))) w') : Calls Tryd.prog 5 #[.int .i64 i, .int .u64 n] w R := by
  have HR := Lib.hid hR
  clear hR
  have hl := hexN_len 16 n (by decide) (by exact hn)
  have hb : (beginG i).length ≤ 27 := by
    have := Lib.itoa_length_le i h0 h1
    unfold beginG
    simp only [List.length_append, List.length_cons, List.length_nil]
    omega
  refine C.calls (args := [.int .i64 i, .int .u64 n]) Tryd.func5 rfl rfl rfl ?_
  refine go ?_
  refine E.callf Tryd.func9 rfl ?_
  refine formatUint_any hg.gl hn hs ?_
  intro w2 hs
  rw [show str (hexN n) = .string ⟨(hexN n).toArray⟩ from rfl]
  refine go ?_
  refine E.callf Tryd.func7 rfl ?_
  refine segBegin_all hg h0 h1 hs ?_
  intro w3 hs
  rw [show str (beginG i) = .string ⟨(beginG i).toArray⟩ from rfl]
  refine go ?_
  rw [show Max.max 0 ((16 : Int) - (hexN n).length) = ((16 - (hexN n).length : Nat) : Int) by omega]
  refine E.callf Tryd.func10 rfl ?_
  refine repeat_any (k := 16 - (hexN n).length) (by omega) ?_
  rw [show str (List.replicate (16 - (hexN n).length) 48) = .string ⟨(List.replicate (16 - (hexN n).length) 48).toArray⟩ from rfl]
  have hrl : (List.replicate (16 - (hexN n).length) (48 : UInt8)).length ≤ 16 := by simp
  refine go ?_
  refine A.r1 ?_
  have := HR.out _ hs
  unfold nameG padB at this
  rw [← List.append_assoc] at this
  exact this

theorem atoi_range {l : List UInt8} {v : Int} (h : Lib.atoiAll l = .ok v) : -9223372036854775808 ≤ v ∧ v ≤ 9223372036854775807 := by
  cases l with
  | nil => simp [Lib.atoiAll] at h
  | cons c r =>
    simp only [Lib.atoiAll] at h
    generalize Lib.parseMag _ = pm at h
    cases pm with
    | range => cases h
    | ok u =>
      simp only at h
      split at h
      · cases h
      · split at h
        · cases h
        · simp only [Lib.NumEnd.ok.injEq] at h
          subst h
          split <;> omega
    | _ => cases h

set_option maxHeartbeats 3200000 in
set_option maxRecDepth 100000 in
theorem split_name {R : Ending → World → Prop} {W w : World} {g : Hl} {H : List HP} {i n : Nat} (hg : GlN g) (hi : i < 256) (hn : n < 18446744073709551616) (hs : Sat W w g H)
    (hR : ∀ w' g', Hl.le g g' → Sat W w' g' H → R (.returned (.tuple #[.int .i64 i, .int .u64 n, .bool true])) w') : Calls Tryd.prog 6 #[str (nameG i n)] w R := by
  have HR := Lib.hid hR
  clear hR
  have hp := padB_len hn
  obtain ⟨hv1, hv2⟩ := padB_val hn
  obtain ⟨hl, hd2, hd1⟩ := itoa_small hi
  have hne : nameG i n = ([102, 101, 101, 100, 45] : List UInt8) ++ (Lib.itoa i ++ 45 :: padB n) := by simp [nameG, beginG]
  have hix : ixB 45 (Lib.itoa i ++ 45 :: padB n) = (Lib.itoa i).length := ixB_at 45 _ _ fun x hx => by
    have := List.all_eq_true.1 hd2 x hx
    rintro rfl
    exact absurd this (by decide)
  have hsl : (Lib.itoa i ++ 45 :: padB n).length ≤ 1000 := by simp only [List.length_append, List.length_cons]; omega
  have hnl : (nameG i n).length ≤ 100 := by rw [hne]; simp only [List.length_append, List.length_cons, List.length_nil]; omega
  have htk : (Lib.itoa i ++ 45 :: padB n).take (Lib.itoa i).length = Lib.itoa i := List.take_left
  have hdk : (Lib.itoa i ++ 45 :: padB n).drop ((Lib.itoa i).length + 1) = padB n := by
    rw [← List.drop_drop, List.drop_left]
    rfl
  rw [hne] at hnl ⊢
  replace hne := Lib.hid hne
  generalize hrest : Lib.itoa i ++ 45 :: padB n = rest at hix hsl htk hdk hnl hne ⊢
  refine C.calls (args := [str (([102, 101, 101, 100, 45] : List UInt8) ++ rest)]) Tryd.func6 rfl rfl rfl ?_
  refine go ?_
  refine E.callf Tryd.func11 rfl ?_
  refine cutPrefix_has (p := [102, 101, 101, 100, 45]) (r := rest) (by omega) ?_
  refine go ?_
  refine E.callf Tryd.func12 rfl ?_
  refine cut1_any (s := rest) (c := 45) (by omega) hs ?_ ?_
  · intro k hk hkl w2 hs
    obtain rfl : k = (Lib.itoa i).length := by omega
    rw [htk, hdk]
    clear htk hdk hk hix hrest
    refine go ?_
    refine E.callf Tryd.func13 rfl ?_
    refine atoi_any (l := Lib.itoa i) hl.1 hl.2 hd2 hs ?_
    intro w3 g3 hg3 hs
    rw [hd1]
    refine go ?_
    refine E.callf Tryd.func14 rfl ?_
    refine parseUint_any (l := padB n) (by omega) (by omega) hv2 (by omega) hs ?_
    intro w4 g4 hg4 hs
    rw [hv1]
    refine go ?_
    rw [show decide ((i : Int) < 0) = false from decide_eq_false (by omega)]
    refine go ?_
    refine E.callf Tryd.func5 rfl ?_
    refine segName_all (i := i) (n := n) ((hg.mono hg3).mono hg4) (by omega) (by omega) hn hs ?_
    intro w5 hs
    rw [hne.out]
    have e0 : str (([102, 101, 101, 100, 45] : List UInt8) ++ rest) = .string ⟨(([102, 101, 101, 100, 45] : List UInt8) ++ rest).toArray⟩ := rfl
    rw [e0]
    refine go ?_
    rw [decide_eq_true (rfl : (([102, 101, 101, 100, 45] : List UInt8) ++ rest) = ([102, 101, 101, 100, 45] : List UInt8) ++ rest)]
    refine go ?_
    refine A.r3 ?_
    exact HR.out _ g4 (hg3.trans hg4) hs
  · intro hk
    omega

set_option maxHeartbeats 3200000 in
set_option maxRecDepth 100000 in
theorem split_all {R : Ending → World → Prop} {W w : World} {g : Hl} {H : List HP} {s : List UInt8} (hg : GlN g) (hl : s.length ≤ 100) (hs : Sat W w g H)
    (hN : ∀ w' g', Hl.le g g' → Sat W w' g' H → R (.returned (.tuple #[.int .i64 0, .int .u64 0, .bool false])) w')
    (hY : ∀ (x : Int) (y : Nat) w' g', Hl.le g g' → 0 ≤ x → x ≤ 9223372036854775807 → y < 18446744073709551616 → nameG x y = s → Sat W w' g' H → R (.returned (.tuple #[.int .i64 x, .int .u64 y, .bool true])) w') : Calls Tryd.prog 6 #[str s] w R := by
  have HN := Lib.hid hN
  have HY := Lib.hid hY
  clear hN hY
  refine C.calls (args := [str s]) Tryd.func6 rfl rfl rfl ?_
  refine go ?_
  refine E.callf Tryd.func11 rfl ?_
  refine cutPrefix_any (s := s) (p := [102, 101, 101, 100, 45]) (by omega) (by decide) ?_
  generalize hr : (if ([102, 101, 101, 100, 45] : List UInt8).length ≤ s.length ∧ s.take ([102, 101, 101, 100, 45] : List UInt8).length = [102, 101, 101, 100, 45] then s.drop ([102, 101, 101, 100, 45] : List UInt8).length else s) = r
  have hrl : r.length ≤ 100 := by
    rw [← hr]; split
    · rw [List.length_drop]; omega
    · exact hl
  generalize hb : decide (([102, 101, 101, 100, 45] : List UInt8).length ≤ s.length ∧ s.take ([102, 101, 101, 100, 45] : List UInt8).length = [102, 101, 101, 100, 45]) = ok
  clear hr hb
  refine go ?_
  refine E.callf Tryd.func12 rfl ?_
  refine cut1_any (s := r) (c := 45) (by omega) hs ?_ ?_
  · intro k hk hkl w2 hs
    have t1 : (r.take k).length ≤ 100 := by rw [List.length_take]; omega
    have t2 : (r.drop (k + 1)).length ≤ 100 := by rw [List.length_drop]; omega
    generalize r.take k = u at t1
    generalize r.drop (k + 1) = v at t2
    clear hk hkl
    refine go ?_
    refine E.callf Tryd.func13 rfl ?_
    refine atoi_all (l := u) hg (by omega) hs ?_ ?_
    · intro x w3 hx hs
      have hxr := atoi_range hx
      clear hx
      refine go ?_
      refine E.callf Tryd.func14 rfl ?_
      refine parseUint_all (l := v) hg (by omega) hs ?_ ?_
      · intro y w4 g4 hg4 hy hs
        cases ok with
        | false =>
          refine go ?_
          refine A.r3 ?_
          exact HN.out _ g4 hg4 hs
        | true =>
          refine go ?_
          cases hx0 : decide (x < 0) with
          | true =>
            refine go ?_
            refine A.r3 ?_
            exact HN.out _ g4 hg4 hs
          | false =>
          have hx0' := of_decide_eq_false hx0
          clear hx0
          refine go ?_
          refine E.callf Tryd.func5 rfl ?_
          refine segName_all (i := x) (n := y) (hg.mono hg4) hxr.1 hxr.2 hy hs ?_
          intro w5 hs
          rw [show str (nameG x y) = .string ⟨(nameG x y).toArray⟩ from rfl, show str s = .string ⟨s.toArray⟩ from rfl]
          refine go ?_
          cases he : decide (nameG x y = s) with
          | true =>
            have he' := of_decide_eq_true he
            clear he
            refine go ?_
            refine A.r3 ?_
            exact HY.out x y _ g4 hg4 (by omega) hxr.2 hy he' hs
          | false =>
            refine go ?_
            refine A.r3 ?_
            exact HN.out _ g4 hg4 hs
      · intro y t p w4 g4 hg4 hs
        cases ok with
        | false =>
          refine go ?_
          refine A.r3 ?_
          exact HN.out _ g4 hg4 hs
        | true =>
          refine go ?_
          refine A.r3 ?_
          exact HN.out _ g4 hg4 hs
    · intro x t p w3 hs
      refine go ?_
      refine E.callf Tryd.func14 rfl ?_
      refine parseUint_all (l := v) hg (by omega) hs ?_ ?_
      · intro y w4 g4 hg4 hy hs
        cases ok with
        | false =>
          refine go ?_
          refine A.r3 ?_
          exact HN.out _ g4 hg4 hs
        | true =>
          refine go ?_
          refine A.r3 ?_
          exact HN.out _ g4 hg4 hs
      · intro y t2 p2 w4 g4 hg4 hs
        cases ok with
        | false =>
          refine go ?_
          refine A.r3 ?_
          exact HN.out _ g4 hg4 hs
        | true =>
          refine go ?_
          refine A.r3 ?_
          exact HN.out _ g4 hg4 hs
  · intro hk w2 hs
    refine go ?_
    refine E.callf Tryd.func13 rfl ?_
    refine atoi_all (l := r) hg (by omega) hs ?_ ?_
    · intro x w3 hx hs
      clear hx
      refine go ?_
      refine E.callf Tryd.func14 rfl ?_
      refine parseUint_all (l := []) hg (by decide) hs ?_ ?_
      · intro y w4 g4 hg4 hy hs
        cases ok with
        | false =>
          refine go ?_
          refine A.r3 ?_
          exact HN.out _ g4 hg4 hs
        | true =>
          refine go ?_
          refine A.r3 ?_
          exact HN.out _ g4 hg4 hs
      · intro y t2 p2 w4 g4 hg4 hs
        cases ok with
        | false =>
          refine go ?_
          refine A.r3 ?_
          exact HN.out _ g4 hg4 hs
        | true =>
          refine go ?_
          refine A.r3 ?_
          exact HN.out _ g4 hg4 hs
    · intro x t p w3 hs
      refine go ?_
      refine E.callf Tryd.func14 rfl ?_
      refine parseUint_all (l := []) hg (by decide) hs ?_ ?_
      · intro y w4 g4 hg4 hy hs
        cases ok with
        | false =>
          refine go ?_
          refine A.r3 ?_
          exact HN.out _ g4 hg4 hs
        | true =>
          refine go ?_
          refine A.r3 ?_
          exact HN.out _ g4 hg4 hs
      · intro y t2 p2 w4 g4 hg4 hs
        cases ok with
        | false =>
          refine go ?_
          refine A.r3 ?_
          exact HN.out _ g4 hg4 hs
        | true =>
          refine go ?_
          refine A.r3 ?_
          exact HN.out _ g4 hg4 hs
end Go.Proofs.YtlcdndlgjemmfaaDoor

/-
  What came in: bytes, rows of bytes; and how much it is.
-/
namespace Go.Proofs.YtlcdndlgjemmfaaDoor
open Go.RowKit Go.ChangeShapes Go.WideShapes
set_option linter.unusedVariables false
set_option linter.unusedSimpArgs false

theorem bulk_one {H : Type} (d : DataW H) : 1 ≤ Rows.uptoBulk d := by
  cases d with
  | lit l => cases l <;> simp [Rows.uptoBulk]
  | nil => simp [Rows.uptoBulk]
  | ptr d => simp [Rows.uptoBulk]
  | slice elems spare => simp [Rows.uptoBulk]
  | agg parts => simp [Rows.uptoBulk]
  | iface t d => simp [Rows.uptoBulk]
  | map entries => simp [Rows.uptoBulk]
  | held h => simp [Rows.uptoBulk]
theorem bulk_all {H : Type} : ∀ (l : List (DataW H)), Rows.uptoBulkAll l = (l.map Rows.uptoBulk).sum
  | [] => by simp [Rows.uptoBulkAll]
  | x :: r => by simp [Rows.uptoBulkAll, bulk_all r]
theorem bulk_slice {H : Type} (a b : List (DataW H)) : Rows.uptoBulk (.slice a b) = (a.map Rows.uptoBulk).sum + (b.map Rows.uptoBulk).sum + 1 := by
  simp only [Rows.uptoBulk, bulk_all]
  try omega
theorem sum_ge {H : Type} (l : List (DataW H)) : l.length ≤ (l.map Rows.uptoBulk).sum := by
  induction l with
  | nil => simp
  | cons x r ih => have := bulk_one x; simp only [List.map_cons, List.sum_cons, List.length_cons]; omega

section
variable {H : Type} {enc : TypeId × Value → H} {P : Program} {w : World} {base : Nat} {held : Bool}
/-- The world's own blocks as a pool. -/
abbrev hp (w : World) : Hl := fun b => w.heap[b]?

theorem in_bytes {t e : TypeId} {fuel : Nat} {cs : List Value} {x : DataW H × List MemPlace} (ht : P.underlying t = some (.slice e)) (he : P.underlying e = some (.int .u8)) (hc : P.cellsOf e = 1)
    (h : DataW.trod enc P w base (fun _ => true) held fuel t cs = some x) : ∃ a n c, ∃ l : List UInt8, cs = [.slice a n c] ∧ l.length = n ∧ Pr 1 (hp w) (.slice a n c) n (bs l) ∧ l.length + 1 ≤ Rows.uptoBulk x.1 := by
  rcases open_ints ht he hc h with ⟨rfl, rfl⟩ | ⟨a, len, cap, zs, rfl, _, hl, hm, hz, rfl, hcell, hw⟩
  · exact ⟨none, 0, 0, [], rfl, rfl, Pr.nil, by simp [Rows.uptoBulk]⟩
  · simp only [if_true] at hz
    obtain ⟨l, h1, h2⟩ := pr_bytes (w := w) (a := some a) (len := len) (cap := cap) (zs := zs) (.inr ⟨a, rfl, hl, hm, hz, hcell, hw⟩)
    refine ⟨some a, len, cap, l, rfl, h1, h2, ?_⟩
    rw [bulk_slice]
    have := sum_ge (H := H) (lits .u8 (zs.take len))
    have hlen : (lits (H := H) .u8 (zs.take len)).length = len := by simp [lits, hz]; omega
    omega

theorem pr_cells {x : Addr} {len cap : Nat} {xs : List Value} (hl : len ≤ cap) (hm : cap ≤ maxLen) (hx : xs.length = len) (hc : ∀ i, i < len → w.cell? (x.add i) = xs[i]?) : Pr 1 (hp w) (.slice (some x) len cap) len xs := by
  refine ⟨by simp [hx], _, cap, rfl, hl, hm, fun e => by simp at e, ?_⟩
  rcases Nat.eq_zero_or_pos len with h0 | h0
  · exact .inl h0
  · obtain ⟨b, o, sp⟩ := x
    have c0 := hc 0 h0
    rw [List.getElem?_eq_getElem (by omega)] at c0
    simp only [Addr.add, if_true] at c0
    have hsp : sp = none := by simpa using World.cell?_spot c0
    subst hsp
    unfold World.cell? at c0
    simp only at c0
    cases hb : w.heap[b]? with
    | none => rw [hb] at c0; simp at c0
    | some ob =>
      cases ob with
      | cells cur e fz =>
        refine .inr ⟨b, o, cur, e, fz, rfl, hb, ?_⟩
        apply List.ext_getElem?
        intro j
        rw [List.getElem?_take, Nat.mul_one]
        by_cases hj : j < len
        · rw [if_pos hj]
          have cj := hc j hj
          rw [Addr.add_lit] at cj
          simp only [World.cell?, hb] at cj
          simp at cj
          rw [List.getElem?_drop, Array.getElem?_toList, cj]
        · rw [if_neg hj, List.getElem?_eq_none (by omega)]
      | _ => rw [hb] at c0; simp at c0

theorem choose_list {α : Type} : ∀ (n : Nat) {Q : Nat → α → Prop}, (∀ i, i < n → ∃ p, Q i p) → ∃ ps : List α, ps.length = n ∧ ∀ i (h : i < ps.length), Q i ps[i]
  | 0, _, _ => ⟨[], rfl, fun i h => by simp at h⟩
  | n + 1, Q, h => by
    obtain ⟨ps, h1, h2⟩ := choose_list n (Q := Q) fun i hi => h i (by omega)
    obtain ⟨p, hp⟩ := h n (by omega)
    refine ⟨ps ++ [p], by simp [h1], fun i hi => ?_⟩
    by_cases hin : i < ps.length
    · rw [List.getElem_append_left hin]; exact h2 i hin
    · have : i = n := by simp at hi; omega
      subst this
      rw [List.getElem_append_right (by omega)]
      simpa [h1] using hp
theorem sum_le_sum {α β : Type} (f : α → Nat) (g : β → Nat) : ∀ (l : List α) (m : List β), l.length = m.length → (∀ i (h : i < l.length) (h' : i < m.length), f l[i] ≤ g m[i]) → (l.map f).sum ≤ (m.map g).sum
  | [], [], _, _ => by simp
  | [], _ :: _, h, _ => by simp at h
  | _ :: _, [], h, _ => by simp at h
  | a :: l, b :: m, h, hi => by
    have h0 := hi 0 (by simp) (by simp)
    have ih := sum_le_sum f g l m (by simpa using h) fun i h1 h2 => by
      have := hi (i + 1) (by simpa using h1) (by simpa using h2)
      simpa using this
    simp only [List.map_cons, List.sum_cons]
    simp only [List.getElem_cons_zero] at h0
    omega
end

end Go.Proofs.YtlcdndlgjemmfaaDoor

/-
  SegmentNames, walked.
-/
namespace Go.Proofs.YtlcdndlgjemmfaaDoor
open Go.RowKit Go.ChangeShapes Go.WideShapes
set_option linter.unusedVariables false
set_option linter.unusedSimpArgs false

set_option maxHeartbeats 3200000 in
set_option maxRecDepth 100000 in
theorem awakeN_any {R : Ending → World → Prop} {W w : World} {g : Hl} {H : List HP} (hg : Gl g) (hs : Sat W w g H) (hR : ∀ w', Sat W w' g H → R (.returned (.bool true)) w') : Calls Tryd.prog 4 #[] w R := by
  have HR := Lib.hid hR
  clear hR
  refine C.calls (args := []) Tryd.func4 rfl rfl rfl ?_
  refine go ?_
  refine E.callf Tryd.func5 rfl ?_
  refine segName_any (i := 3) (n := 255) hg (by decide) (by decide) hs ?_
  intro w2 hs
  rw [show str (nameB 3 255) = .string ⟨#[102, 101, 101, 100, 45, 51, 45, 48, 48, 48, 48, 48, 48, 48, 48, 48, 48, 48, 48, 48, 48, 102, 102]⟩ by
    have : nameB 3 255 = [102, 101, 101, 100, 45, 51, 45, 48, 48, 48, 48, 48, 48, 48, 48, 48, 48, 48, 48, 48, 48, 102, 102] := by decide +kernel
    rw [this]; rfl]
  refine go ?_
  refine A.r1 ?_
  exact HR.out _ hs

set_option maxHeartbeats 6400000 in
set_option maxRecDepth 100000 in
theorem segNames_any {R : Ending → World → Prop} {W w : World} {g : Hl} {H : List HP} {wr fs : Nat} {s : List UInt8} (hg : GlN g) (hwr : wr < 256) (hfs : fs < 18446744073709551616) (hsl : s.length ≤ maxLen) (hs : Sat W w g H)
    (hR : ∀ w' g', Hl.le g g' → Sat W w' g' H → R (.returned (.bool true)) w') :
    Calls Tryd.prog 3 #[.int .u8 wr, .int .u64 fs, str s] w R := by
  have HR := Lib.hid hR
  clear hR
  have hmx : maxLen = 9223372036854775807 := rfl
  rw [hmx] at hsl
  have e0 : str s = .string ⟨s.toArray⟩ := rfl
  rw [e0]
  refine C.calls (args := [.int .u8 wr, .int .u64 fs, .string ⟨s.toArray⟩]) Tryd.func3 rfl rfl rfl ?_
  refine go ?_
  refine E.callf Tryd.func4 rfl ?_
  refine awakeN_any hg.gl hs ?_
  intro w1 hs
  refine go ?_
  cases h60 : decide ((60 : Int) < s.length) with
  | true =>
    refine go ?_
    refine E.callf Tryd.func4 rfl ?_
    refine awakeN_any hg.gl hs ?_
    intro w2 hs
    refine go ?_
    refine A.r1 ?_
    exact HR.out _ _ (Hl.le_refl _) hs
  | false =>
  have h60' := of_decide_eq_false h60
  clear h60
  refine go ?_
  refine E.callf Tryd.func5 rfl ?_
  refine segName_all (i := wr) (n := fs) hg (by omega) (by omega) hfs hs ?_
  intro w2 hs
  refine go ?_
  refine E.callf Tryd.func6 rfl ?_
  refine split_name hg hwr hfs hs ?_
  intro w3 g3 hg3 hs
  refine go ?_
  rw [← e0]
  have hb0 := (itoa_small hwr).1
  have hbl : (beginG wr).length ≤ 30 := by
    unfold beginG
    simp only [List.length_append, List.length_cons, List.length_nil]; omega
  have hnl : (nameG wr fs).length = (beginG wr).length + 16 := by
    have := padB_len hfs
    unfold nameG
    rw [List.length_append]; omega
  have htk : (nameG wr fs).take (beginG wr).length = beginG wr := List.take_left
  have hnm := nameG_named hwr hfs
  apply laterE (α := Int × Nat × Bool × Hl) (f := fun q => [(0, .int .u8 wr), (1, .int .u64 fs), (2, str s), (7, str (nameG wr fs)), (8, .int .i64 wr), (9, .int .u64 fs), (10, .bool true), (11, .int .i64 q.1), (12, .int .u64 q.2.1), (13, .bool q.2.2.1), (40, .int .i64 wr)]) (M := fun q w => (Hl.le g q.2.2.2 ∧ (q.2.2.1 = true → 0 ≤ q.1 ∧ q.1 ≤ 9223372036854775807 ∧ q.2.1 < 18446744073709551616 ∧ nameG q.1 q.2.1 = s)) ∧ Sat W w q.2.2.2 H)
  · intro ky
    refine E.callf Tryd.func6 rfl ?_
    refine split_all (s := s) (hg.mono hg3) (by omega) hs ?_ ?_
    · intro w4 g4 hg4 hs
      refine go ?_
      exact E.forget wk_ (ky (0, 0, false, g4) _ ⟨⟨hg3.trans hg4, fun h => by cases h⟩, hs⟩)
    · intro x y w4 g4 hg4 x0 x1 y1 xy hs
      refine go ?_
      exact E.forget wk_ (ky (x, y, true, g4) _ ⟨⟨hg3.trans hg4, fun _ => ⟨x0, x1, y1, xy⟩⟩, hs⟩)
  clear hs
  rintro ⟨x, y, is, g4⟩ w4 ⟨⟨hg4, hxy⟩, hs⟩
  simp only at hg4 hxy hs
  refine E.callf Tryd.func7 rfl ?_
  refine segBegin_all (i := wr) (hg.mono hg4) (by omega) (by omega) hs ?_
  intro w5 hs
  refine go ?_
  rw [show decide ((wr : Int) = (wr : Int)) = true from decide_eq_true rfl]
  refine go ?_
  rw [show decide ((fs : Int) = (fs : Int)) = true from decide_eq_true rfl]
  refine go ?_
  refine E.callf Tryd.func8 rfl ?_
  refine named_any (nameG wr fs) hs ?_
  intro w6 hs
  rw [hnm, show str (nameG wr fs) = .string ⟨(nameG wr fs).toArray⟩ from rfl, show str (beginG wr) = .string ⟨(beginG wr).toArray⟩ from rfl]
  refine go ?_
  rw [show decide (((beginG wr).length : Int) < ((nameG wr fs).length : Int)) = true from decide_eq_true (by omega)]
  refine go ?_
  refine E.sls (l := nameG wr fs) (beginG wr).length ?_ Tryd.underlying9 (by omega)
  rw [htk]
  refine go ?_
  rw [show decide (beginG wr = beginG wr) = true from decide_eq_true rfl]
  refine go ?_
  cases is with
  | false =>
    refine go ?_
    refine A.r1 ?_
    exact HR.out _ _ hg4 hs
  | true =>
  obtain ⟨x0, x1, y1, xy⟩ := hxy rfl
  refine go ?_
  refine E.callf Tryd.func5 rfl ?_
  refine segName_all (i := x) (n := y) (hg.mono hg4) (by omega) x1 y1 hs ?_
  intro w7 hs
  rw [xy, e0]
  refine go ?_
  rw [show decide (s = s) = true from decide_eq_true rfl]
  refine go ?_
  refine A.r1 ?_
  exact HR.out _ _ hg4 hs

theorem gln_of {W : World} (h : laidMetH Tryd.prog Rows.segmentNamesRow.laid W) : GlN (hp W) := by
  rw [MakeChecks.laidMetH_plain _ _ _ (by kernel_rfl)] at h
  have t1 := h.tail
  have t2 := t1.tail
  have t3 := t2.tail
  have t4 := t3.tail
  refine ⟨⟨?_⟩, ?_, ?_, ?_⟩
  · obtain ⟨ps, ⟨g1, tt1, cs1, f1, p1, q1, hg1, ht1, hv1, hd1, _⟩, _, _⟩ := t1
    have gN : Program.globalNamed Tryd.prog "math/bits.deBruijn64tab" = some 5 := by kernel_rfl
    have tN : (Tryd.prog.globals[5]?).map (·.type) = some 98 := by kernel_rfl
    obtain rfl := Option.some.inj (gN.symm.trans hg1)
    obtain rfl := Option.some.inj (tN.symm.trans ht1)
    obtain ⟨xs, m1, rfl, hx1, hlen, hn3, hel⟩ := DataW.trod_array Tryd.underlying98 hd1
    have h15 := hel 15 (by decide)
    have hc1 : Program.cellsOf Tryd.prog 5 = 1 := by kernel_rfl
    rw [hc1, List.getElem?_eq_getElem (by omega)] at h15
    obtain ⟨k, e1, e2, _⟩ := DataW.trod_int Tryd.underlying5 h15
    have hy : (xs[15]'(by omega)).1 = DataW.lit (.int .u8 4) := by
      have h1 := congrArg (fun d : DataW Unit => match d with | .agg l => l[15]? | _ => none) (congrArg Prod.fst hx1)
      simp only [List.getElem?_map, List.getElem?_eq_getElem (show 15 < xs.length by omega), Option.map_some] at h1
      exact (Option.some.inj (h1.symm.trans rfl))
    have hk : k = 4 := by
      rw [e2] at hy
      simpa using hy
    subst hk
    refine GlC.of ?_
    rw [World.var?_cell hg1 hv1 15]
    have h2 := congrArg (fun l => l[0]?) e1
    simp only [List.getElem?_take, List.getElem?_drop] at h2
    simpa using h2
  · obtain ⟨ps, ⟨g0, t0, cs0, f0, p0, q0, hg0, ht0, hv0, hd0, _⟩, _, _⟩ := t4
    have gN : Program.globalNamed Tryd.prog "strconv.ErrSyntax" = some 2 := by kernel_rfl
    have tN : (Tryd.prog.globals[2]?).map (·.type) = some 37 := by kernel_rfl
    obtain rfl := Option.some.inj (gN.symm.trans hg0)
    obtain rfl := Option.some.inj (tN.symm.trans ht0)
    obtain ⟨l0⟩ := cs0
    obtain ⟨f1, u, v, e, _, _⟩ := iface_of_trod Tryd.underlying37 hd0
    obtain rfl : l0 = [.iface u v] := e
    refine ⟨u, v, GlC.of ?_⟩
    have := World.var?_cell gN hv0 0
    simpa using this
  · obtain ⟨ps, ⟨g0, t0, cs0, f0, p0, q0, hg0, ht0, hv0, hd0, _⟩, _, _⟩ := t3
    have gN : Program.globalNamed Tryd.prog "strconv.ErrRange" = some 3 := by kernel_rfl
    have tN : (Tryd.prog.globals[3]?).map (·.type) = some 37 := by kernel_rfl
    obtain rfl := Option.some.inj (gN.symm.trans hg0)
    obtain rfl := Option.some.inj (tN.symm.trans ht0)
    obtain ⟨l0⟩ := cs0
    obtain ⟨f1, u, v, e, _, _⟩ := iface_of_trod Tryd.underlying37 hd0
    obtain rfl : l0 = [.iface u v] := e
    refine ⟨u, v, GlC.of ?_⟩
    have := World.var?_cell gN hv0 0
    simpa using this
  · have gN : Program.globalNamed Tryd.prog "internal/strconv.uint64pow10" = some 0 := by kernel_rfl
    have tN : (Tryd.prog.globals[0]?).map (·.type) = some 80 := by kernel_rfl
    have ht := Lib.tabIs_of_head (k := .u64) (zs := Lib.pow10Tab) gN tN Tryd.underlying80 Tryd.underlying22 (by kernel_rfl) (by kernel_rfl) t2
    unfold Lib.TabIs World.var? at ht
    rw [gN] at ht
    simp only [Option.bind_some] at ht
    split at ht
    · rename_i cs e fz hh
      cases ht
      exact ⟨e, fz, hh⟩
    · cases ht
end Go.Proofs.YtlcdndlgjemmfaaDoor
