/-
  Words as numbers: Atoi of a few digits, ParseUint to base sixteen; what stands ahead of a byte and behind it.
-/
import Derived.Test.YtdkbpcibmipelaaGreatDoorM03
namespace Go.Proofs.YtdkbpcibmipelaaGreatDoor
open Go.RowKit
set_option linter.unusedVariables false
set_option linter.unusedSimpArgs false

set_option maxHeartbeats 1600000 in
set_option maxRecDepth 100000 in
theorem cut_lite {R : Ending → World → Prop} {W w : World} {g : Hl} {H : List HP} {s : List UInt8} {c : UInt8} (hl : s.length ≤ 1000000000) (hs : Sat W w g H)
    (h1 : ∀ k : Nat, ixB c s = k → k < s.length → ∀ w', Sat W w' g H → R (.returned (.tuple #[str (s.take k), str (s.drop (k + 1)), .bool true])) w')
    (h2 : ixB c s < 0 → ∀ w', Sat W w' g H → R (.returned (.tuple #[str s, str [], .bool false])) w') :
    Calls Tryz.prog 230 #[str s, str [c]] w R := by
  have H1 := Lib.hid h1
  have H2 := Lib.hid h2
  clear h1 h2
  have hb := ixB_ge c s
  refine C.calls (args := [str s, str [c]]) Tryz.func230 rfl rfl rfl ?_
  refine go ?_
  refine E.callf Tryz.func272 rfl ?_
  refine index1_any hl ?_
  have e0 : str s = .string ⟨s.toArray⟩ := rfl
  have e1 : str [c] = .string ⟨[c].toArray⟩ := rfl
  rw [e0, e1]
  clear e0 e1
  refine go ?_
  refine C.cond_dec (p := (0 : Int) ≤ ixB c s) rfl (fun h => ?_) (fun h => ?_)
  · obtain ⟨k, hk⟩ := Int.eq_ofNat_of_zero_le h
    have hkl : k < s.length := by omega
    replace H1 := Lib.hid (H1.out k hk hkl)
    rw [hk]
    clear hk hb h
    refine go ?_
    refine C.held0 hs ?_
    intro w2 hk hs
    refine goh ?_
    refine EH.t0 hk ?_ (hy := Pf.pv (Pv.supto (l := s) Tryz.underlying9 k (by omega) rfl rfl rfl))
    refine goh ?_
    have ek : IntKind.i64.wrap ((k : Int) + ([c].length : Int)) = ((k + 1 : Nat) : Int) := by
      rw [show ([c].length : Int) = 1 from rfl]
      exact wrap64_id (by omega) (by omega)
    rw [ek]
    refine EH.t0 hk ?_ (hy := Pf.pv (Pv.sfrom (l := s) Tryz.underlying9 (k + 1) (by omega) rfl rfl rfl))
    refine goh ?_
    refine EH.done ?_
    refine go ?_
    refine A.r3 ?_
    exact H1.out _ hs
  · refine go ?_
    refine A.r3 ?_
    exact H2.out (by omega) _ hs

/-- The value of some digits. -/
def decV (l : List UInt8) : Nat := l.foldl (fun a c => a * 10 + (c.toNat - 48)) 0
def digB (c : UInt8) : Bool := decide (48 ≤ c.toNat) && decide (c.toNat ≤ 57)
theorem decV_lt : ∀ (l : List UInt8) (a : Nat), l.all digB = true → l.foldl (fun a c => a * 10 + (c.toNat - 48)) a < (a + 1) * 10 ^ l.length
  | [], a, _ => by simp
  | c :: l, a, h => by
    simp only [List.all_cons, Bool.and_eq_true, digB, decide_eq_true_eq] at h
    have := decV_lt l (a * 10 + (c.toNat - 48)) (by simpa [digB] using h.2)
    refine Nat.lt_of_lt_of_le this ?_
    rw [List.length_cons, Nat.pow_succ, Nat.mul_comm (10 ^ l.length) 10, ← Nat.mul_assoc]
    exact Nat.mul_le_mul_right _ (by omega)
theorem decV_decN {n : Nat} (h : n < 100) : decV (decN n) = n ∧ (decN n).all digB = true := by
  by_cases h1 : n < 10
  · rw [decN_small h1]
    exact (by decide +kernel : ∀ j : Fin 10, decV [UInt8.ofNat (48 + j.val)] = j.val ∧ [UInt8.ofNat (48 + j.val)].all digB = true) ⟨n, h1⟩
  · rw [decN_two (by omega) h]
    exact (by decide +kernel : ∀ j : Fin 100, decV [UInt8.ofNat (48 + j.val / 10), UInt8.ofNat (48 + j.val % 10)] = j.val ∧ [UInt8.ofNat (48 + j.val / 10), UInt8.ofNat (48 + j.val % 10)].all digB = true) ⟨n, h⟩

set_option maxHeartbeats 3200000 in
set_option maxRecDepth 100000 in
theorem atoiI_any {R : Ending → World → Prop} {W w : World} {g : Hl} {H : List HP} {l : List UInt8} (h1 : 1 ≤ l.length) (h2 : l.length ≤ 18) (hd : l.all digB = true) (hs : Sat W w g H)
    (hR : ∀ w' g', Hl.le g g' → Sat W w' g' H → R (.returned (.tuple #[.int .i64 (decV l), .nilIface])) w') : Calls Tryz.prog 231 #[str l] w R := by
  have HR := Lib.hid hR
  clear hR
  have e0 : str l = .string ⟨l.toArray⟩ := rfl
  rw [e0]
  clear e0
  have hdig : ∀ k (h : k < l.length), 48 ≤ l[k].toNat ∧ l[k].toNat ≤ 57 := fun k h => by
    have := List.all_eq_true.1 hd l[k] (List.getElem_mem h)
    simpa [digB] using this
  refine C.calls (args := [.string ⟨l.toArray⟩]) Tryz.func231 rfl rfl rfl ?_
  refine go ?_
  rw [show decide ((0 : Int) < l.length) = true from decide_eq_true (by omega)]
  refine go ?_
  rw [show decide ((l.length : Int) < 19) = true from decide_eq_true (by omega)]
  refine go ?_
  have h0 := hdig 0 (by omega)
  refine E.sidx (l := l) Tryz.underlying9 0 (by omega) ?_
  refine go ?_
  rw [show decide ((l[0].toNat : Int) = 45) = false from decide_eq_false (by omega)]
  refine go ?_
  refine E.sidx (l := l) Tryz.underlying9 0 (by omega) ?_
  refine go ?_
  rw [show decide ((l[0].toNat : Int) = 43) = false from decide_eq_false (by omega)]
  refine go ?_
  refine E.bytes (l := l) Tryz.underlying9 Tryz.underlying33 Tryz.underlying5 hs (by omega) ?_
  intro b c w1 g1 hg1 hs hp
  refine gob ?_
  refine C.cut (fun _ : Unit => [(0, .string ⟨l.toArray⟩), (5, .string ⟨l.toArray⟩), (6, .int .i64 (decV l))]) (fun _ w => Sat W w g1 H) ?_ ?_
  · refine C.block ?_
    refine C.lp (fun i : Nat => [(0, .string ⟨l.toArray⟩), (5, .string ⟨l.toArray⟩), (6, .int .i64 (decV (l.take i))), (47, .slice (some ⟨b, 0, none⟩) l.length c), (48, .int .i64 l.length), (49, .int .i64 i)])
      (fun gk i w => gk = l.length - i ∧ i ≤ l.length ∧ Sat W w g1 H) l.length 0 ⟨rfl, Nat.zero_le _, hs⟩ ?_
    clear hs
    rintro gk i w2 ⟨rfl, hi, hs⟩
    refine go ?_
    refine C.cond_dec (p := (i : Int) < l.length) rfl (fun h => ?_) (fun h => ?_)
    · have hil : i < l.length := by omega
      have hdi := hdig i hil
      have hc3 : w2.cell? ⟨b, i, none⟩ = some (.int .u8 (l[i].toNat : Int)) := by
        have := ((hp.row hs).cellAt rfl (bs_get hil)).2
        simpa using this
      refine go ?_
      have ew : IntKind.u8.wrap ((l[i].toNat : Int) - 48) = ((l[i].toNat - 48 : Nat) : Int) := by
        rw [show ((l[i].toNat : Int) - 48) = ((l[i].toNat - 48 : Nat) : Int) by omega]
        exact wrapu8_id (by omega) (by omega)
      rw [ew]
      rw [show decide ((9 : Int) < ((l[i].toNat - 48 : Nat) : Int)) = false from decide_eq_false (by omega)]
      have hdv : decV (l.take (i + 1)) = decV (l.take i) * 10 + (l[i].toNat - 48) := by
        unfold decV
        rw [List.take_succ_eq_append_getElem hil, List.foldl_append]
        rfl
      have hlt : decV (l.take (i + 1)) < 1000000000000000000 := by
        have h1 := decV_lt (l.take (i + 1)) 0 (List.all_eq_true.2 fun x hx => List.all_eq_true.1 hd x (List.mem_of_mem_take hx))
        have h2 : (l.take (i + 1)).length ≤ 18 := by rw [List.length_take]; omega
        have h3 : 10 ^ (l.take (i + 1)).length ≤ 10 ^ 18 := Nat.pow_le_pow_right (by decide) h2
        unfold decV
        omega
      refine go ?_
      rw [show ((decV (l.take i) : Int) * 10 + ((l[i].toNat - 48 : Nat) : Int)) = ((decV (l.take (i + 1)) : Nat) : Int) by omega]
      exact A.rd (l.length - (i + 1)) (i + 1) ⟨rfl, by omega, hs⟩
    · obtain rfl : i = l.length := by omega
      refine go ?_
      refine A.mt () hs (hw := ?_)
      rw [List.take_length]
      exact wk_
  clear hs
  rintro _ w4 hs
  refine go ?_
  refine E.sidx (l := l) Tryz.underlying9 0 (by omega) ?_
  refine go ?_
  rw [show decide ((l[0].toNat : Int) = 45) = false from decide_eq_false (by omega)]
  refine go ?_
  refine A.r2 ?_
  exact HR.out _ g1 hg1 hs

end Go.Proofs.YtdkbpcibmipelaaGreatDoor

/-
  Words as numbers: ParseUint to base sixteen; Atoi, Cut as others call them.
-/
namespace Go.Proofs.YtdkbpcibmipelaaGreatDoor
open Go.RowKit
set_option linter.unusedVariables false
set_option linter.unusedSimpArgs false

set_option maxHeartbeats 1600000 in
set_option maxRecDepth 100000 in
theorem cut1_any {R : Ending → World → Prop} {W w : World} {g : Hl} {H : List HP} {s : List UInt8} {c : UInt8} (hl : s.length ≤ 1000000000) (hs : Sat W w g H)
    (h1 : ∀ k : Nat, ixB c s = k → k < s.length → ∀ w', Sat W w' g H → R (.returned (.tuple #[str (s.take k), str (s.drop (k + 1)), .bool true])) w')
    (h2 : ixB c s < 0 → ∀ w', Sat W w' g H → R (.returned (.tuple #[str s, str [], .bool false])) w') :
    Calls Tryz.prog 163 #[str s, str [c]] w R := by
  have H1 := Lib.hid h1
  have H2 := Lib.hid h2
  clear h1 h2
  refine C.calls (args := [str s, str [c]]) Tryz.func163 rfl rfl rfl ?_
  refine go ?_
  refine E.callf Tryz.func230 rfl ?_
  refine cut_lite hl hs ?_ ?_
  · intro k hk hkl w2 hs
    refine go ?_
    refine A.r3 ?_
    exact H1.out k hk hkl _ hs
  · intro hk w2 hs
    refine go ?_
    refine A.r3 ?_
    exact H2.out hk _ hs
set_option maxHeartbeats 1600000 in
set_option maxRecDepth 100000 in
theorem atoi_any {R : Ending → World → Prop} {W w : World} {g : Hl} {H : List HP} {l : List UInt8} (h1 : 1 ≤ l.length) (h2 : l.length ≤ 18) (hd : l.all digB = true) (hs : Sat W w g H)
    (hR : ∀ w' g', Hl.le g g' → Sat W w' g' H → R (.returned (.tuple #[.int .i64 (decV l), .nilIface])) w') : Calls Tryz.prog 164 #[str l] w R := by
  have HR := Lib.hid hR
  clear hR
  refine C.calls (args := [str l]) Tryz.func164 rfl rfl rfl ?_
  refine go ?_
  refine E.callf Tryz.func231 rfl ?_
  refine atoiI_any h1 h2 hd hs ?_
  intro w2 g2 hg2 hs
  refine go ?_
  refine A.r2 ?_
  exact HR.out _ g2 hg2 hs

/-- A digit to base sixteen, and the value of some. -/
def hexW (c : UInt8) : Nat := if c.toNat ≤ 57 then c.toNat - 48 else c.toNat - 87
def hexB (c : UInt8) : Bool := (decide (48 ≤ c.toNat) && decide (c.toNat ≤ 57)) || (decide (97 ≤ c.toNat) && decide (c.toNat ≤ 102))
def hexV (l : List UInt8) : Nat := l.foldl (fun a c => a * 16 + hexW c) 0
theorem hexW_lt {c : UInt8} (h : hexB c = true) : hexW c < 16 := by
  simp only [hexB, Bool.or_eq_true, Bool.and_eq_true, decide_eq_true_eq] at h
  unfold hexW
  split <;> omega
theorem hexV_ge : ∀ (l : List UInt8) (a : Nat), a * 16 ^ l.length ≤ l.foldl (fun a c => a * 16 + hexW c) a
  | [], a => by simp
  | c :: l, a => by
    have := hexV_ge l (a * 16 + hexW c)
    refine Nat.le_trans ?_ this
    rw [List.length_cons, Nat.pow_succ, Nat.mul_comm (16 ^ l.length) 16, ← Nat.mul_assoc]
    exact Nat.mul_le_mul_right _ (by omega)
theorem hexV_append (l m : List UInt8) : hexV (l ++ m) = m.foldl (fun a c => a * 16 + hexW c) (hexV l) := by simp [hexV, List.foldl_append]
theorem hexD_ok {d : Nat} (h : d < 16) : hexW (hexD d) = d ∧ hexB (hexD d) = true :=
  (by decide +kernel : ∀ j : Fin 16, hexW (hexD j.val) = j.val ∧ hexB (hexD j.val) = true) ⟨d, h⟩
theorem hexV_hexN : ∀ (k n : Nat), n < 16 ^ k → hexV (hexN n) = n ∧ (hexN n).all hexB = true
  | 0, n, h => by
    simp only [Nat.pow_zero] at h
    obtain rfl : n = 0 := by omega
    rw [hexN_small (by decide)]
    decide +kernel
  | k + 1, n, h => by
    by_cases h1 : n < 16
    · rw [hexN_small h1]
      obtain ⟨h2, h3⟩ := hexD_ok h1
      refine ⟨?_, by simp [h3]⟩
      simp [hexV, h2]
    · rw [hexN_step (by omega)]
      obtain ⟨h2, h3⟩ := hexD_ok (d := n % 16) (by omega)
      obtain ⟨h4, h5⟩ := hexV_hexN k (n / 16) (by rw [Nat.pow_succ] at h; omega)
      refine ⟨?_, by simp [h5, h3]⟩
      rw [hexV_append, h4]
      simp only [List.foldl_cons, List.foldl_nil, h2]
      omega

set_option maxHeartbeats 1600000 in
set_option maxRecDepth 100000 in
theorem lower_any {R : Ending → World → Prop} {w : World} {c : Nat} (hc : 97 ≤ c ∧ c ≤ 102) (hR : R (.returned (.int .u8 c)) w) : Calls Tryz.prog 278 #[.int .u8 c] w R := by
  have HR := Lib.hid hR
  clear hR
  refine C.calls (args := [.int .u8 c]) Tryz.func278 rfl rfl rfl ?_
  refine go ?_
  have hcases : c = 97 ∨ c = 98 ∨ c = 99 ∨ c = 100 ∨ c = 101 ∨ c = 102 := by omega
  rcases hcases with rfl | rfl | rfl | rfl | rfl | rfl
  all_goals
    refine A.r1 ?_
    exact HR.out

set_option maxHeartbeats 3200000 in
set_option maxRecDepth 100000 in
theorem parseUintI_any {R : Ending → World → Prop} {W w : World} {g : Hl} {H : List HP} {l : List UInt8} (h1 : 1 ≤ l.length) (h2 : l.length ≤ 100) (hd : l.all hexB = true) (hv : hexV l < 18446744073709551616) (hs : Sat W w g H)
    (hR : ∀ w' g', Hl.le g g' → Sat W w' g' H → R (.returned (.tuple #[.int .u64 (hexV l), .nilIface])) w') : Calls Tryz.prog 233 #[str l, .int .i64 16, .int .i64 64] w R := by
  have HR := Lib.hid hR
  clear hR
  have e0 : str l = .string ⟨l.toArray⟩ := rfl
  rw [e0]
  clear e0
  have hdig : ∀ k (h : k < l.length), hexB l[k] = true := fun k h => List.all_eq_true.1 hd l[k] (List.getElem_mem h)
  have hne : ¬ l = [] := fun e => by rw [e] at h1; simp at h1
  refine C.calls (args := [.string ⟨l.toArray⟩, .int .i64 16, .int .i64 64]) Tryz.func233 rfl rfl rfl ?_
  refine go ?_
  rw [show decide (l = []) = false from decide_eq_false hne]
  refine go ?_
  rw [show IntKind.u64.wrap (((1 * 2 ^ 64 % 2 ^ IntKind.u64.bits : Nat) : Int) - 1) = 18446744073709551615 by decide +kernel]
  refine E.bytes (l := l) Tryz.underlying9 Tryz.underlying33 Tryz.underlying5 hs (by omega) ?_
  intro b c w1 g1 hg1 hs hp
  refine gob ?_
  refine C.cut (fun _ : Unit => [(12, .bool false), (13, .int .u64 (hexV l))]) (fun _ w => Sat W w g1 H) ?_ ?_
  · refine C.block ?_
    refine C.lp (fun i : Nat => [(1, .int .i64 16), (8, .bool false), (10, .int .u64 1152921504606846976), (11, .int .u64 18446744073709551615), (12, .bool false), (13, .int .u64 (hexV (l.take i))), (99, .slice (some ⟨b, 0, none⟩) l.length c), (100, .int .i64 l.length), (101, .int .i64 i)])
      (fun gk i w => gk = l.length - i ∧ i ≤ l.length ∧ Sat W w g1 H) l.length 0 ⟨rfl, Nat.zero_le _, hs⟩ ?_
    clear hs
    rintro gk i w2 ⟨rfl, hi, hs⟩
    refine go ?_
    refine C.cond_dec (p := (i : Int) < l.length) rfl (fun h => ?_) (fun h => ?_)
    · have hil : i < l.length := by omega
      have hdi := hdig i hil
      have hwl := hexW_lt hdi
      have hc3 : w2.cell? ⟨b, i, none⟩ = some (.int .u8 (l[i].toNat : Int)) := by
        have := ((hp.row hs).cellAt rfl (bs_get hil)).2
        simpa using this
      have hdv : hexV (l.take (i + 1)) = hexV (l.take i) * 16 + hexW l[i] := by
        rw [List.take_succ_eq_append_getElem hil, hexV_append]
        rfl
      have hlt : hexV (l.take (i + 1)) < 18446744073709551616 := by
        have h3 := hexV_ge (l.drop (i + 1)) (hexV (l.take (i + 1)))
        have h4 := hexV_append (l.take (i + 1)) (l.drop (i + 1))
        rw [List.take_append_drop] at h4
        rw [← h4] at h3
        have h5 : hexV (l.take (i + 1)) ≤ hexV (l.take (i + 1)) * 16 ^ (l.drop (i + 1)).length := Nat.le_mul_of_pos_right _ (Nat.pow_pos (by decide))
        omega
      generalize hqv : hexV (l.take i) = q at hdv
      generalize hqw : hexV (l.take (i + 1)) = q2 at hdv hlt
      generalize hdd : hexW l[i] = dg at hdv hwl
      have hdd' : dg = hexW l[i] := hdd.symm
      apply later (α := Unit) (f := fun _ => [(1, .int .i64 16), (8, .bool false), (10, .int .u64 1152921504606846976), (11, .int .u64 18446744073709551615), (12, .bool false), (13, .int .u64 q), (16, .int .u8 dg), (137, .bool (decide ((16 : Int) ≤ dg))), (99, .slice (some ⟨b, 0, none⟩) l.length c), (100, .int .i64 l.length), (101, .int .i64 i)])
        (M := fun _ w => Sat W w g1 H)
      · intro key
        simp only [hexB, Bool.or_eq_true, Bool.and_eq_true, decide_eq_true_eq] at hdi
        refine go ?_
        rw [show decide ((l[i].toNat : Int) = 95) = false from decide_eq_false (by omega)]
        refine go ?_
        rcases hdi with hdi | hdi
        · have ew : IntKind.u8.wrap ((l[i].toNat : Int) - 48) = ((dg : Nat) : Int) := by
            rw [hdd', hexW, if_pos (by omega), show ((l[i].toNat : Int) - 48) = ((l[i].toNat - 48 : Nat) : Int) by omega]
            exact wrapu8_id (by omega) (by omega)
          rw [show decide ((48 : Int) ≤ l[i].toNat) = true from decide_eq_true (by omega)]
          refine go ?_
          rw [show decide ((l[i].toNat : Int) ≤ 57) = true from decide_eq_true (by omega)]
          refine go ?_
          rw [ew]
          exact C.forget wk_ (key () _ hs)
        · have ew : IntKind.u8.wrap (IntKind.u8.wrap ((l[i].toNat : Int) - 97) + 10) = ((dg : Nat) : Int) := by
            have e1 : IntKind.u8.wrap ((l[i].toNat : Int) - 97) = ((l[i].toNat - 97 : Nat) : Int) := by
              rw [show ((l[i].toNat : Int) - 97) = ((l[i].toNat - 97 : Nat) : Int) by omega]
              exact wrapu8_id (by omega) (by omega)
            rw [e1, hdd', hexW, if_neg (by omega), show (((l[i].toNat - 97 : Nat) : Int) + 10) = ((l[i].toNat - 87 : Nat) : Int) by omega]
            exact wrapu8_id (by omega) (by omega)
          rw [show decide ((48 : Int) ≤ l[i].toNat) = true from decide_eq_true (by omega)]
          refine go ?_
          rw [show decide ((l[i].toNat : Int) ≤ 57) = false from decide_eq_false (by omega)]
          refine go ?_
          refine E.callf Tryz.func278 rfl ?_
          refine lower_any (c := l[i].toNat) hdi ?_
          refine go ?_
          rw [show decide ((97 : Int) ≤ l[i].toNat) = true from decide_eq_true (by omega)]
          refine go ?_
          refine E.callf Tryz.func278 rfl ?_
          refine lower_any (c := l[i].toNat) hdi ?_
          refine go ?_
          rw [show decide ((l[i].toNat : Int) ≤ 122) = true from decide_eq_true (by omega)]
          refine go ?_
          refine E.callf Tryz.func278 rfl ?_
          refine lower_any (c := l[i].toNat) hdi ?_
          refine go ?_
          rw [ew]
          exact C.forget wk_ (key () _ hs)
      · rintro _ w5 hs
        rw [show decide ((16 : Int) ≤ dg) = false from decide_eq_false (by omega)]
        refine go ?_
        rw [show decide ((1152921504606846976 : Int) ≤ q) = false from decide_eq_false (by omega)]
        clear hdd' hdd hqv
        replace hqw := Lib.hid hqw
        refine go ?_
        rw [show decide (((q * 16 + dg : Nat) : Int) < ((q * 16 : Nat) : Int)) = false from decide_eq_false (by omega)]
        refine go ?_
        rw [show decide ((18446744073709551615 : Int) < ((q * 16 + dg : Nat) : Int)) = false from decide_eq_false (by omega)]
        refine go ?_
        refine A.rd (l.length - (i + 1)) (i + 1) ⟨rfl, by omega, hs⟩ (hw := ?_)
        rw [hqw.out, hdv]
        exact wk_
    · obtain rfl : i = l.length := by omega
      refine go ?_
      refine A.mt () hs (hw := ?_)
      rw [List.take_length]
      exact wk_
  clear hs
  rintro _ w4 hs
  refine go ?_
  refine A.r2 ?_
  exact HR.out _ g1 hg1 hs
set_option maxHeartbeats 1600000 in
set_option maxRecDepth 100000 in
theorem parseUint_any {R : Ending → World → Prop} {W w : World} {g : Hl} {H : List HP} {l : List UInt8} (h1 : 1 ≤ l.length) (h2 : l.length ≤ 100) (hd : l.all hexB = true) (hv : hexV l < 18446744073709551616) (hs : Sat W w g H)
    (hR : ∀ w' g', Hl.le g g' → Sat W w' g' H → R (.returned (.tuple #[.int .u64 (hexV l), .nilIface])) w') : Calls Tryz.prog 165 #[str l, .int .i64 16, .int .i64 64] w R := by
  have HR := Lib.hid hR
  clear hR
  refine C.calls (args := [str l, .int .i64 16, .int .i64 64]) Tryz.func165 rfl rfl rfl ?_
  refine go ?_
  refine E.callf Tryz.func233 rfl ?_
  refine parseUintI_any h1 h2 hd hv hs ?_
  intro w2 g2 hg2 hs
  refine go ?_
  refine A.r2 ?_
  exact HR.out _ g2 hg2 hs
end Go.Proofs.YtdkbpcibmipelaaGreatDoor

/-
  Layer 8 (segment): the names of a writer's files.
-/
namespace Go.Proofs.YtdkbpcibmipelaaGreatDoor
open Go.RowKit
set_option linter.unusedVariables false
set_option linter.unusedSimpArgs false

/-- How the names of a writer's segments begin. -/
def beginB (w : Nat) : List UInt8 := [102, 101, 101, 100, 45] ++ decN w ++ [45]
/-- Sixteen digits. -/
def padB (n : Nat) : List UInt8 := List.replicate (16 - (hexN n).length) 48 ++ hexN n
def nameB (w n : Nat) : List UInt8 := beginB w ++ padB n
theorem padB_len {n : Nat} (h : n < 18446744073709551616) : (padB n).length = 16 := by
  have := hexN_len 16 n (by decide) (by exact h)
  unfold padB
  rw [List.length_append, List.length_replicate]
  omega
theorem beginB_len {w : Nat} (h : w < 100) : 7 ≤ (beginB w).length ∧ (beginB w).length ≤ 8 := by
  have := decN_len h
  unfold beginB
  simp only [List.length_append, List.length_cons, List.length_nil]
  omega

set_option maxHeartbeats 1600000 in
set_option maxRecDepth 100000 in
theorem segBegin_any {R : Ending → World → Prop} {w : World} {i : Nat} (hi : i < 100) (hR : R (.returned (str (beginB i))) w) : Calls Tryz.prog 85 #[.int .i64 i] w R := by
  have HR := Lib.hid hR
  clear hR
  have hl := decN_len hi
  refine C.calls (args := [.int .i64 i]) Tryz.func85 rfl rfl rfl ?_
  refine go ?_
  refine E.callf Tryz.func156 rfl ?_
  refine itoa_any hi ?_
  rw [show str (decN i) = .string ⟨(decN i).toArray⟩ from rfl]
  refine go ?_
  refine A.r1 ?_
  exact HR.out
set_option maxHeartbeats 1600000 in
set_option maxRecDepth 100000 in
theorem segName_any {R : Ending → World → Prop} {W w : World} {g : Hl} {H : List HP} {i n : Nat} (hg : Gl g) (hi : i < 100) (hn : n < 18446744073709551616) (hs : Sat W w g H)
    (hR : ∀ w', Sat W w' g H → R (.returned (str (nameB i n))) w') : Calls Tryz.prog 18 #[.int .i64 i, .int .u64 n] w R := by
  have HR := Lib.hid hR
  clear hR
  have hl := hexN_len 16 n (by decide) (by exact hn)
  have hb := beginB_len hi
  refine C.calls (args := [.int .i64 i, .int .u64 n]) Tryz.func18 rfl rfl rfl ?_
  refine go ?_
  refine E.callf Tryz.func84 rfl ?_
  refine formatUint_any hg hn hs ?_
  intro w2 hs
  rw [show str (hexN n) = .string ⟨(hexN n).toArray⟩ from rfl]
  refine go ?_
  refine E.callf Tryz.func85 rfl ?_
  refine segBegin_any hi ?_
  rw [show str (beginB i) = .string ⟨(beginB i).toArray⟩ from rfl]
  refine go ?_
  rw [show Max.max 0 ((16 : Int) - (hexN n).length) = ((16 - (hexN n).length : Nat) : Int) by omega]
  refine E.callf Tryz.func86 rfl ?_
  refine repeat_any (k := 16 - (hexN n).length) (by omega) ?_
  rw [show str (List.replicate (16 - (hexN n).length) 48) = .string ⟨(List.replicate (16 - (hexN n).length) 48).toArray⟩ from rfl]
  have hrl : (List.replicate (16 - (hexN n).length) (48 : UInt8)).length ≤ 16 := by simp
  refine go ?_
  refine A.r1 ?_
  have := HR.out _ hs
  unfold nameB padB at this
  rw [← List.append_assoc] at this
  exact this
end Go.Proofs.YtdkbpcibmipelaaGreatDoor

/-
  Layer 4 (disk): what a disk is; New, act, On, Room.
-/
namespace Go.Proofs.YtdkbpcibmipelaaGreatDoor
open Go.RowKit
set_option linter.unusedVariables false
set_option linter.unusedSimpArgs false

structure Fl where
  p : List UInt8
  safe : Nat
structure Dk where
  fs : List (List UInt8 × Fl)
  room : Int
  fuse : Int
  torn : Int
  acts : Int
  off : Bool
/-- How many bytes all files have. -/
def tk (l : List (List UInt8 × Fl)) : Nat := (l.map fun p => p.2.p.length).sum
structure Dk.ok (d : Dk) : Prop where
  total : tk d.fs ≤ 1000000000
  room : -1000000000 ≤ d.room ∧ d.room ≤ 1000000000
  fuse : -9223372036854775808 ≤ d.fuse ∧ d.fuse ≤ 9223372036854775807
  torn : 0 ≤ d.torn ∧ d.torn ≤ 9223372036854775807
  safe : ∀ p ∈ d.fs, p.2.safe ≤ p.2.p.length
  keys : (d.fs.map Prod.fst).Nodup

/-- A file's block. -/
def file (fb : Nat) (f : Fl) : HP :=
  exs fun q : Option Addr × Nat => sep (blk fb [.slice q.1 f.p.length q.2, .int .i64 f.safe] 146) (ownw 5 1 (.slice q.1 f.p.length q.2) f.p.length (bs f.p))
theorem file_open {W w : World} {g : Hl} {H : List HP} {fb : Nat} {f : Fl} (hs : Sat W w g (file fb f :: H)) : ∃ a c, Sat W w g (blk fb [.slice a f.p.length c, .int .i64 f.safe] 146 :: ownw 5 1 (.slice a f.p.length c) f.p.length (bs f.p) :: H) := by
  obtain ⟨⟨a, c⟩, h⟩ := hs.unexs
  exact ⟨a, c, h.split⟩
theorem file_close {W w : World} {g : Hl} {H : List HP} {fb n c : Nat} {a : Option Addr} {l : List UInt8} {s : Nat} {i : Int} (hn : l.length = n) (hi : i = (s : Int)) (hs : Sat W w g (blk fb [.slice a n c, .int .i64 i] 146 :: ownw 5 1 (.slice a n c) n (bs l) :: H)) : Sat W w g (file fb ⟨l, s⟩ :: H) := by
  subst hn hi
  exact Sat.mkexs (a, c) hs.join

abbrev Fs := List (List UInt8 × (Nat × Fl))
/-- A disk without its files' blocks. -/
def dsk (b mb : Nat) (d : Dk) : HP := blk b [.map (some mb), .int .i64 d.room, .int .i64 d.fuse, .int .i64 d.torn, .int .i64 d.acts, .bool d.off] 138
def dmap (mb : Nat) (L : Fs) : HP := mp str mb (L.map fun p => (p.1, ptr p.2.1))
def dfiles (L : Fs) : List HP := L.map fun p => file p.2.1 p.2.2
def Fs.plain (L : Fs) : List (List UInt8 × Fl) := L.map fun p => (p.1, p.2.2)
/-- A disk. -/
def disk (b : Nat) (d : Dk) : HP :=
  exs fun q : Nat × Fs => wit (fun _ => Fs.plain q.2 = d.fs ∧ d.ok) (fun _ _ _ h => h) (sep (dsk b q.1 d) (sep (dmap q.1 q.2) (bsep (dfiles q.2))))
theorem disk_open {W w : World} {g : Hl} {H : List HP} {b : Nat} {d : Dk} (hs : Sat W w g (disk b d :: H)) : ∃ mb L, Fs.plain L = d.fs ∧ d.ok ∧ Sat W w g (dsk b mb d :: dmap mb L :: bsep (dfiles L) :: H) := by
  obtain ⟨⟨mb, L⟩, h⟩ := hs.unexs
  obtain ⟨⟨h1, h2⟩, h3⟩ := h.unwit
  exact ⟨mb, L, h1, h2, h3.split.swap.split.pull2⟩
theorem disk_close {W w : World} {g : Hl} {H : List HP} {b mb : Nat} {d : Dk} {L : Fs} (h1 : Fs.plain L = d.fs) (h2 : d.ok) (hs : Sat W w g (dsk b mb d :: dmap mb L :: bsep (dfiles L) :: H)) : Sat W w g (disk b d :: H) :=
  Sat.mkexs (mb, L) (Sat.mkwit ⟨h1, h2⟩ (hs.push2.join.swap.join))

set_option maxHeartbeats 1600000 in
set_option maxRecDepth 100000 in
theorem new_any {R : Ending → World → Prop} {W w : World} {g : Hl} {H : List HP} {room : Int} (hr : -1000000000 ≤ room ∧ room ≤ 1000000000) (hs : Sat W w g H)
    (hR : ∀ b w', Sat W w' g (disk b ⟨[], room, -1, 0, 0, false⟩ :: H) → R (.returned (ptr b)) w') : Calls Tryz.prog 16 #[.int .i64 room] w R := by
  have HR := Lib.hid hR
  clear hR
  refine C.calls (args := [.int .i64 room]) Tryz.func16 rfl rfl rfl ?_
  refine go ?_
  apply E.cons
  apply St.makeMap (List UInt8) str hs
  intro mb w1 hs
  refine go ?_
  refine E.bx hs ?_
  intro b w2 hs
  refine go ?_
  refine A.r1 ?_
  refine HR.out b _ (disk_close (mb := mb) (L := []) rfl ?_ ?_)
  · exact ⟨by simp [tk], hr, ⟨by simp, by simp⟩, ⟨by simp, by simp⟩, by simp, by simp⟩
  · exact Sat.push2 hs.mknothing

/-- How an act goes. -/
def Dk.act (d : Dk) : Int × Dk :=
  if d.off then (7, d) else
  if d.fuse = 0 then (7, { d with acts := IntKind.i64.wrap (d.acts + 1), off := true }) else
  if 0 < d.fuse then (0, { d with acts := IntKind.i64.wrap (d.acts + 1), fuse := d.fuse - 1 }) else (0, { d with acts := IntKind.i64.wrap (d.acts + 1) })
theorem Dk.act_ok {d : Dk} (h : d.ok) : d.act.2.ok ∧ d.act.2.fs = d.fs ∧ d.act.2.room = d.room ∧ d.act.2.torn = d.torn := by
  have := h.fuse
  unfold Dk.act
  split
  · exact ⟨h, rfl, rfl, rfl⟩
  split
  · exact ⟨⟨h.total, h.room, h.fuse, h.torn, h.safe, h.keys⟩, rfl, rfl, rfl⟩
  split
  · exact ⟨⟨h.total, h.room, by simp only; omega, h.torn, h.safe, h.keys⟩, rfl, rfl, rfl⟩
  · exact ⟨⟨h.total, h.room, h.fuse, h.torn, h.safe, h.keys⟩, rfl, rfl, rfl⟩

set_option maxHeartbeats 1600000 in
set_option maxRecDepth 100000 in
/-- 'act', of the disk's own block alone. -/
theorem act_dsk {R : Ending → World → Prop} {W w : World} {g : Hl} {H : List HP} {b mb : Nat} {d : Dk} (hs : Sat W w g (dsk b mb d :: H)) (h2 : d.ok)
    (hR : ∀ w', Sat W w' g (dsk b mb d.act.2 :: H) → R (.returned (.int .i64 d.act.1)) w') : Calls Tryz.prog 100 #[ptr b] w R := by
  have HR := Lib.hid hR
  clear hR
  obtain ⟨fs, room, fuse, torn, acts, off⟩ := d
  have hfu := h2.fuse
  simp only [dsk] at hs hfu
  cases off with
  | true =>
    refine C.calls (args := [ptr b]) Tryz.func100 rfl rfl rfl ?_
    refine go ?_
    refine A.r1 ?_
    exact HR.out _ hs
  | false =>
    refine C.calls (args := [ptr b]) Tryz.func100 rfl rfl rfl ?_
    refine go ?_
    refine E.sto hs ?_
    intro w1 hs
    refine go ?_
    refine C.cond_dec (p := fuse = 0) rfl (fun h0 => ?_) (fun h0 => ?_)
    · refine go ?_
      refine E.sto hs ?_
      intro w2 hs
      refine go ?_
      refine A.r1 ?_
      have := HR.out w2
      simp only [Dk.act, Bool.false_eq_true, if_false, h0, if_true, dsk] at this
      subst h0
      exact this hs
    · refine go ?_
      refine C.cond_dec (p := 0 < fuse) rfl (fun h1 => ?_) (fun h1 => ?_)
      · refine go ?_
        refine E.sto hs ?_
        intro w2 hs
        refine go ?_
        refine A.r1 ?_
        have := HR.out w2
        simp only [Dk.act, Bool.false_eq_true, if_false, h0, h1, if_true, dsk] at this
        exact this hs
      · refine go ?_
        refine A.r1 ?_
        have := HR.out w1
        simp only [Dk.act, Bool.false_eq_true, if_false, h0, h1, dsk] at this
        exact this hs

set_option maxHeartbeats 1600000 in
set_option maxRecDepth 100000 in
theorem on_dsk {R : Ending → World → Prop} {W w : World} {g : Hl} {H : List HP} {b mb : Nat} {d : Dk} (hs : Sat W w g (dsk b mb d :: H)) (hR : R (.returned (.bool (!d.off))) w) : Calls Tryz.prog 87 #[ptr b] w R := by
  have HR := Lib.hid hR
  clear hR
  simp only [dsk] at hs
  refine C.calls (args := [ptr b]) Tryz.func87 rfl rfl rfl ?_
  refine go ?_
  refine A.r1 ?_
  exact HR.out

theorem tk_append (a b : List (List UInt8 × Fl)) : tk (a ++ b) = tk a + tk b := by simp [tk]
theorem tk_cons (p : List UInt8 × Fl) (b : List (List UInt8 × Fl)) : tk (p :: b) = p.2.p.length + tk b := by simp [tk]

/-- Some files are still to come, as the map tells them. -/
theorem todo_split {todo : List (List UInt8 × Value)} : ∀ {L' : Fs}, todo = L'.map (fun p => (p.1, ptr p.2.1)) → ∀ {t1 t2 : List (List UInt8 × Value)} {p : List UInt8 × Value}, todo = t1 ++ p :: t2 → ∃ l1 q l2, L' = l1 ++ q :: l2 ∧ p = (q.1, ptr q.2.1) ∧ t1 ++ t2 = (l1 ++ l2).map (fun p => (p.1, ptr p.2.1)) := by
  intro L' h t1 t2 p ht
  rw [ht] at h
  obtain ⟨l1, l2, rfl, h1, h2⟩ := List.map_eq_append_iff.1 h.symm
  obtain ⟨q, l3, rfl, h3, h4⟩ := List.map_eq_cons_iff.1 h2
  exact ⟨l1, q, l3, rfl, h3.symm, by rw [List.map_append, h1, h4]⟩

theorem files_out {W w : World} {g : Hl} {H : List HP} {L1 L2 : Fs} {q : List UInt8 × (Nat × Fl)} (hs : Sat W w g (bsep (dfiles (L1 ++ q :: L2)) :: H)) : Sat W w g (file q.2.1 q.2.2 :: bsep (dfiles (L1 ++ L2)) :: H) := by
  have h1 := hs.bopen
  simp only [dfiles, List.map_append, List.map_cons, List.append_assoc, List.cons_append] at h1
  have h2 := h1.toFront
  rw [← List.append_assoc, ← List.map_append] at h2
  exact (Sat.bclose (l := dfiles (L1 ++ L2)) (h2.toBack)).swap
theorem files_in {W w : World} {g : Hl} {H : List HP} {L1 L2 : Fs} {q : List UInt8 × (Nat × Fl)} (hs : Sat W w g (file q.2.1 q.2.2 :: bsep (dfiles (L1 ++ L2)) :: H)) : Sat W w g (bsep (dfiles (L1 ++ q :: L2)) :: H) := by
  have h1 := hs.swap.bopen
  simp only [dfiles, List.map_append, List.append_assoc] at h1
  apply Sat.bclose
  simp only [dfiles, List.map_append, List.map_cons, List.append_assoc, List.cons_append]
  refine h1.perm ?_
  refine List.Perm.append_left _ ?_
  exact List.perm_middle

set_option maxHeartbeats 1600000 in
set_option maxRecDepth 100000 in
/-- 'Room': how much there is, and how much is taken. -/
theorem room_any {R : Ending → World → Prop} {W w : World} {g : Hl} {H : List HP} {b mb : Nat} {d : Dk} {L : Fs} (hs : Sat W w g (dsk b mb d :: dmap mb L :: bsep (dfiles L) :: H)) (hL : tk (Fs.plain L) ≤ 1000000000)
    (hR : ∀ w', Sat W w' g (dsk b mb d :: dmap mb L :: bsep (dfiles L) :: H) → R (.returned (.tuple #[.int .i64 d.room, .int .i64 (tk (Fs.plain L) : Nat)])) w') : Calls Tryz.prog 65 #[ptr b] w R := by
  have HR := Lib.hid hR
  clear hR
  simp only [dsk, dmap] at hs
  refine C.calls (args := [ptr b]) Tryz.func65 rfl rfl rfl ?_
  refine go ?_
  refine E.range Tryz.underlying136 hs.swap ?_
  intro r w1 hs
  refine gob ?_
  refine C.block ?_
  refine C.lp (fun x : Nat × Fs × Option (List UInt8 × Value) => [(0, ptr b), (4, .int .i64 x.1), (13, .pointer (some ⟨r, 0, none⟩))])
    (fun gk x w => gk = x.2.1.length ∧ x.1 + tk (Fs.plain x.2.1) = tk (Fs.plain L) ∧ (∀ q ∈ x.2.1, q ∈ L) ∧ Sat W w g (iter str mb r (L.map fun p => (p.1, ptr p.2.1)) (x.2.1.map fun p => (p.1, ptr p.2.1)) x.2.2 :: dsk b mb d :: bsep (dfiles L) :: H)) L.length (0, L, none) ⟨rfl, by simp, fun q h => h, hs⟩ ?_
  clear hs
  rintro gk ⟨acc, T, cur⟩ w2 ⟨rfl, hacc, hT, hs⟩
  simp only at hacc hT hs ⊢
  refine go ?_
  refine E.next hs (fun h0 => ?_) (fun t1 p t2 w3 ht hs => ?_)
  · have hT0 : T = [] := by simpa using h0
    subst hT0
    simp only [dsk] at hs
    have hs := (iter_end hs).swap
    refine go ?_
    refine A.r2 ?_
    have e : (acc : Int) = (tk (Fs.plain L) : Nat) := by
      rw [← hacc]; simp [Fs.plain, tk]
    rw [e]
    exact HR.out _ hs
  · obtain ⟨l1, q, l2, rfl, rfl, h2⟩ := todo_split rfl ht
    refine go ?_
    refine E.entry hs ?_
    refine go ?_
    obtain ⟨L1, L2, hL12⟩ := List.append_of_mem (hT q (by simp))
    have ho := hs.pull2
    rw [hL12] at ho
    obtain ⟨a, c, ho⟩ := file_open (files_out ho)
    refine E.ld ho ?_
    have e1 : tk (Fs.plain (l1 ++ q :: l2)) = q.2.2.p.length + tk (Fs.plain (l1 ++ l2)) := by
      simp only [Fs.plain, List.map_append, List.map_cons, tk_append, tk_cons]; omega
    have e2 : acc + q.2.2.p.length ≤ 1000000000 := by omega
    refine go ?_
    rw [h2] at hs
    refine A.rd (l1 ++ l2).length (acc + q.2.2.p.length, l1 ++ l2, some (q.1, ptr q.2.1)) ⟨rfl, ?_, ?_, hs⟩
    · simp only; omega
    · intro q' hq'
      exact hT q' (by simp only [List.mem_append, List.mem_cons] at hq' ⊢; rcases hq' with h | h <;> simp [h])
end Go.Proofs.YtdkbpcibmipelaaGreatDoor

/-
  Layer 4 (disk): which names a file may have.
-/
namespace Go.Proofs.YtdkbpcibmipelaaGreatDoor
open Go.RowKit
set_option linter.unusedVariables false
set_option linter.unusedSimpArgs false

/-- May a name have that byte? -/
def okB (b : UInt8) : Bool := (97 ≤ b.toNat && b.toNat ≤ 122) || (48 ≤ b.toNat && b.toNat ≤ 57) || b.toNat == 46 || b.toNat == 45
def namedB (l : List UInt8) : Bool := !l.isEmpty && decide (l.length ≤ 48) && l.all okB
/-- A character that no name has. -/
def badR (c : Int) : Bool := (decide (c < 97) || decide (122 < c)) && (decide (c < 48) || decide (57 < c)) && !decide (c = 46) && !decide (c = 45)
theorem badR_okB (b : UInt8) : badR b.toNat = !okB b := by
  have : ∀ n : Fin 256, badR (n.val : Nat) = !((97 ≤ n.val && n.val ≤ 122) || (48 ≤ n.val && n.val ≤ 57) || n.val == 46 || n.val == 45) := by decide +kernel
  exact this ⟨b.toNat, b.toNat_lt⟩
theorem badR_big {c : Nat} (h : 128 ≤ c) : badR c = true := by
  have h1 : decide ((122 : Int) < c) = true := by simp; omega
  have h2 : decide ((57 : Int) < c) = true := by simp; omega
  have h3 : decide ((c : Int) = 46) = false := by simp; omega
  have h4 : decide ((c : Int) = 45) = false := by simp; omega
  simp [badR, h1, h2, h3, h4]

set_option maxHeartbeats 1600000 in
set_option maxRecDepth 100000 in
theorem badR_any {R : Ending → World → Prop} {w : World} (c : Int) (hR : R (.returned (.bool (badR c))) w) : Calls Tryz.prog 179 #[.int .i32 c] w R := by
  have HR := Lib.hid hR
  clear hR
  refine C.calls (args := [.int .i32 c]) Tryz.func179 rfl rfl rfl ?_
  refine go ?_
  cases h1 : decide (c < 97)
  · refine go ?_
    cases h2 : decide (122 < c)
    · refine go ?_
      refine A.r1 ?_
      have := HR.out
      simpa [badR, h1, h2] using this
    · refine go ?_
      have h3 : decide (c < 48) = false := by simp at h2 ⊢; omega
      rw [h3]
      refine go ?_
      have h4 : decide (57 < c) = true := by simp at h2 ⊢; omega
      rw [h4]
      refine go ?_
      have h5 : decide (c = 46) = false := by simp at h2 ⊢; omega
      rw [h5]
      refine go ?_
      have h6 : decide (c = 45) = false := by simp at h2 ⊢; omega
      rw [h6]
      refine go ?_
      refine A.r1 ?_
      have := HR.out
      simpa [badR, h1, h2, h3, h4, h5, h6] using this
  · refine go ?_
    cases h3 : decide (c < 48)
    · refine go ?_
      cases h4 : decide (57 < c)
      · refine go ?_
        refine A.r1 ?_
        have := HR.out
        simpa [badR, h1, h3, h4] using this
      · refine go ?_
        have h5 : decide (c = 46) = false := by simp at h4 ⊢; omega
        rw [h5]
        refine go ?_
        have h6 : decide (c = 45) = false := by simp at h4 ⊢; omega
        rw [h6]
        refine go ?_
        refine A.r1 ?_
        have := HR.out
        simpa [badR, h1, h3, h4, h5, h6] using this
    · refine go ?_
      cases h5 : decide (c = 46)
      · refine go ?_
        cases h6 : decide (c = 45)
        · refine go ?_
          refine A.r1 ?_
          have := HR.out
          simpa [badR, h1, h3, h5, h6] using this
        · refine go ?_
          refine A.r1 ?_
          have := HR.out
          simpa [badR, h1, h3, h5, h6] using this
      · refine go ?_
        refine A.r1 ?_
        have := HR.out
        simpa [badR, h1, h3, h5] using this

theorem get_str (l : List UInt8) (i : Nat) (h : i < l.length) : (ByteArray.mk l.toArray).get! i = l[i] := by
  simp [ByteArray.get!, h]
theorem decode_ascii (l : List UInt8) (i : Nat) (h : i < l.length) (hb : l[i].toNat < 128) : Utf8.decode ⟨l.toArray⟩ i = (l[i].toNat, 1) := by
  simp only [Utf8.decode, Nat.add_zero, get_str l i h]
  rw [if_pos hb]
theorem decode_big (l : List UInt8) (i : Nat) (h : i < l.length) (hb : ¬ l[i].toNat < 128) : 128 ≤ (Utf8.decode ⟨l.toArray⟩ i).1 := by
  simp only [Utf8.decode, Nat.add_zero, get_str l i h]
  rw [if_neg hb]
  have hr : 128 ≤ Utf8.runeError := by decide
  repeat' split
  all_goals (first | exact hr | (rename_i h; simp only [ge_iff_le, Bool.and_eq_true, decide_eq_true_eq] at h; simp only; omega))
/-- The first place whose character no name has. -/
def badAt : List UInt8 → Nat → Option Nat
  | [], _ => none
  | b :: r, i => if okB b then badAt r (i + 1) else some i
theorem badAt_all : ∀ (l : List UInt8) (i : Nat), (badAt l i = none ↔ l.all okB = true)
  | [], _ => by simp [badAt]
  | b :: r, i => by
    simp only [badAt]
    split
    · rename_i h; rw [badAt_all r (i + 1)]; simp [h]
    · rename_i h; simp [h]
theorem okB_lt {b : UInt8} (h : okB b = true) : b.toNat < 128 := by
  simp only [okB, Bool.or_eq_true, Bool.and_eq_true, decide_eq_true_eq, beq_iff_eq] at h
  omega

set_option maxHeartbeats 1600000 in
set_option maxRecDepth 100000 in
theorem indexFunc_bad {R : Ending → World → Prop} {W w : World} {g : Hl} {H : List HP} (l : List UInt8) (hl : l.length ≤ 1000) (hs : Sat W w g H)
    (hR : ∀ w' i, Sat W w' g H → (0 ≤ i ↔ l.all okB = false) → R (.returned (.int .i64 i)) w') : Calls Tryz.prog 286 #[str l, .func (.func 179) #[] #[], .bool true] w R := by
  have HR := Lib.hid hR
  clear hR
  refine C.calls (args := [str l, .func (.func 179) #[] #[], .bool true]) Tryz.func286 rfl rfl rfl ?_
  refine go ?_
  refine E.ranges hs ?_
  intro r w1 hs
  refine gob ?_
  refine C.block ?_
  refine C.lp (fun i : Nat => [(0, str l), (1, .func (.func 179) #[] #[]), (2, .bool true), (10, .pointer (some ⟨r, 0, none⟩))])
    (fun gk i w => gk = l.length - i ∧ i ≤ l.length ∧ (l.take i).all okB = true ∧ Sat W w g (obj r (.stringIter ⟨l.toArray⟩ i) :: H)) l.length 0 ⟨rfl, by omega, by simp, hs⟩ ?_
  clear hs
  rintro gk i w2 ⟨rfl, hi, hall, hs⟩
  refine go ?_
  have hsz : (ByteArray.mk l.toArray).size = l.length := by simp [ByteArray.size]
  refine E.nexts hs (fun h0 => ?_) (fun w3 h1 hs => ?_)
  · rw [hsz] at h0
    refine go ?_
    refine A.r1 ?_
    have hil : i = l.length := by omega
    rw [hil, List.take_length] at hall
    exact HR.out _ _ hs.drop (by simp [hall])
  · rw [hsz] at h1
    have hall2 : (l.take (i + 1)).all okB = ((l.take i).all okB && okB l[i]) := by
      rw [List.take_succ_eq_append_getElem h1, List.all_append]; simp
    refine go ?_
    refine E.callv Tryz.func179 rfl rfl rfl ?_
    refine badR_any _ ?_
    by_cases hb : l[i].toNat < 128
    · rw [decode_ascii l i h1 hb] at hs ⊢
      simp only at hs ⊢
      cases hk : okB l[i] with
      | true =>
        have hbr : badR (l[i].toNat : Nat) = false := by rw [badR_okB, hk]; rfl
        rw [hbr]
        refine go ?_
        exact A.rd (l.length - (i + 1)) (i + 1) ⟨rfl, by omega, by rw [hall2, hall, hk]; rfl, hs⟩
      | false =>
        have hbr : badR (l[i].toNat : Nat) = true := by rw [badR_okB, hk]; rfl
        rw [hbr]
        refine go ?_
        refine A.r1 ?_
        refine HR.out _ _ hs.drop ⟨fun _ => ?_, fun _ => by omega⟩
        cases hA : l.all okB with
        | false => rfl
        | true => rw [List.all_eq_true.1 hA _ (List.getElem_mem h1)] at hk; cases hk
    · have hbr := badR_big (decode_big l i h1 hb)
      rw [hbr]
      refine go ?_
      refine A.r1 ?_
      refine HR.out _ _ hs.drop ⟨fun _ => ?_, fun _ => by omega⟩
      cases hA : l.all okB with
      | false => rfl
      | true => exact absurd (okB_lt (List.all_eq_true.1 hA _ (List.getElem_mem h1))) hb

set_option maxHeartbeats 1600000 in
set_option maxRecDepth 100000 in
theorem named_any {R : Ending → World → Prop} {W w : World} {g : Hl} {H : List HP} (l : List UInt8) (hs : Sat W w g H)
    (hR : ∀ w', Sat W w' g H → R (.returned (.bool (namedB l))) w') : Calls Tryz.prog 104 #[str l] w R := by
  have HR := Lib.hid hR
  clear hR
  refine C.calls (args := [str l]) Tryz.func104 rfl rfl rfl ?_
  refine go ?_
  cases h0 : decide (l = [])
  · refine go ?_
    cases h1 : decide ((l.length : Int) ≤ 48)
    · refine go ?_
      refine A.r1 ?_
      have h1' : ¬ l.length ≤ 48 := by simp at h1; omega
      have := HR.out _ hs
      rw [show namedB l = false by simp [namedB, h1']] at this
      exact this
    · have h1' : l.length ≤ 48 := by simp at h1; omega
      have h0' : l ≠ [] := by simpa using h0
      refine go ?_
      refine E.callf Tryz.func178 rfl ?_
      refine ?_
      refine C.calls (args := [str l, .func (.func 179) #[] #[]]) Tryz.func178 rfl rfl rfl ?_
      refine go ?_
      refine E.callf Tryz.func245 rfl ?_
      refine ?_
      refine C.calls (args := [str l, .func (.func 179) #[] #[]]) Tryz.func245 rfl rfl rfl ?_
      refine go ?_
      refine E.callf Tryz.func286 rfl ?_
      refine indexFunc_bad l (by omega) hs ?_
      intro w1 i hs hi
      refine go ?_
      refine A.r1 ?_
      refine go ?_
      refine A.r1 ?_
      refine go ?_
      refine A.r1 ?_
      have := HR.out _ hs
      have e : (!decide (0 ≤ i)) = namedB l := by
        have : l.isEmpty = false := by cases l <;> simp_all
        simp only [namedB, this, h1']
        cases hA : l.all okB with
        | false => simp [hi.2 hA]
        | true =>
          have : ¬ 0 ≤ i := fun h => by rw [hi.1 h] at hA; cases hA
          simp [this]
      rw [e]
      exact this
  · have h0' : l = [] := by simpa using h0
    subst h0'
    refine go ?_
    refine A.r1 ?_
    exact HR.out _ hs
end Go.Proofs.YtdkbpcibmipelaaGreatDoor

/-
  Layer 4 (disk): bytes are written behind a file's.
-/
namespace Go.Proofs.YtdkbpcibmipelaaGreatDoor
open Go.RowKit
set_option linter.unusedVariables false
set_option linter.unusedSimpArgs false

section
variable {P : Program} {n : Fm} {ρ : List (Nat × Value)} {W w w' : World} {g g' : Hl} {H H' : List HP} {Q : Exit → Act → World → Prop} {ops : Array Oper} {rest : List Oper} {d : Option Tmp} {ty : TypeId} {ps : String} {af : Array Edge} {x y z : Operand} {mb : Nat} {L : Fs} {name : List UInt8}
/-- A file by its name. -/
theorem E.lookd (hs : Sat W w g H) (hf : Has (dmap mb L) H) (h0 : aget name L = none → E Tryz.prog n ops rest (pushv d (.tuple #[.pointer none, .bool false]) ρ) w Q) (h1 : ∀ fb f, aget name L = some (fb, f) → E Tryz.prog n ops rest (pushv d (.tuple #[ptr fb, .bool true]) ρ) w Q)
    (hx : evo n ρ x = some (.map (some mb)) := by exact rfl) (hy : evo n ρ y = some (str name) := by exact rfl) :
    E Tryz.prog n ops (⟨d, .lookup 136 x y true, ty, ps, af, none⟩ :: rest) ρ w Q := by
  refine E.cons (St.lookup (z := .pointer none) ky_str Tryz.underlying136 (by go_simp) hs hf hx hy ?_)
  have e := alook_map (fun q : Nat × Fl => ptr q.1) name L
  rw [e]
  cases ha : aget name L with
  | none => simpa using h0 ha
  | some q =>
    obtain ⟨fb, f⟩ := q
    simpa using h1 fb f ha
theorem E.setd {fb : Nat} {f : Fl} (hs : Sat W w g H) (hf : Re (dmap mb L) [dmap mb (aput name (fb, f) L)] H H') (h : ∀ w', Sat W w' g H' → E Tryz.prog n ops rest ρ w' Q)
    (hx : evo n ρ x = some (.map (some mb)) := by exact rfl) (hy : evo n ρ y = some (str name) := by exact rfl) (hz : evo n ρ z = some (ptr fb) := by exact rfl) :
    E Tryz.prog n ops (⟨none, .mapUpdate 136 x y z, ty, ps, af, none⟩ :: rest) ρ w Q := by
  have e := aset_map (fun q : Nat × Fl => ptr q.1) name (fb, f) L
  refine E.cons (St.mapUpdate ky_str Tryz.underlying136 hs hx hy hz (l := L.map fun p => (p.1, ptr p.2.1)) ?_ h)
  have : (mp str mb (aset name (ptr fb) (L.map fun p => (p.1, ptr p.2.1)))) = dmap mb (aput name (fb, f) L) := by
    simp only [dmap]; rw [← e]
  rw [this]
  exact hf
theorem E.deld {kt : TypeId} (hs : Sat W w g H) (hf : Re (dmap mb L) [dmap mb (adrop name L)] H H') (h : ∀ w', Sat W w' g H' → E Tryz.prog n ops rest (pushv d (.tuple #[]) ρ) w' Q)
    (hx : evo n ρ x = some (.map (some mb)) := by exact rfl) (hy : evo n ρ y = some (str name) := by exact rfl) :
    E Tryz.prog n ops (⟨d, .call ⟨.builtin .delete, #[x, y], #[136, kt]⟩, ty, ps, af, none⟩ :: rest) ρ w Q := by
  have e := adel_map (fun q : Nat × Fl => ptr q.1) name L
  refine E.cons (St.delete ky_str Tryz.underlying136 hs hx hy (l := L.map fun p => (p.1, ptr p.2.1)) ?_ h)
  have : (mp str mb (adel name (L.map fun p => (p.1, ptr p.2.1)))) = dmap mb (adrop name L) := by
    simp only [dmap]; rw [← e]
  rw [this]
  exact hf
end

def put (name p : List UInt8) (fs : List (List UInt8 × Fl)) : List (List UInt8 × Fl) := aput name ⟨((aget name fs).getD ⟨[], 0⟩).p ++ p, ((aget name fs).getD ⟨[], 0⟩).safe⟩ fs
theorem al_plain (name : List UInt8) (L : Fs) : aget name (Fs.plain L) = (aget name L).map Prod.snd := al_map (fun q : Nat × Fl => q.2) name L
theorem as_plain (name : List UInt8) (q : Nat × Fl) (L : Fs) : aput name q.2 (Fs.plain L) = Fs.plain (aput name q L) := as_map (fun q : Nat × Fl => q.2) name q L
theorem ad_plain (name : List UInt8) (L : Fs) : adrop name (Fs.plain L) = Fs.plain (adrop name L) := ad_map (fun q : Nat × Fl => q.2) name L

theorem Sat.under2 {W w : World} {g : Hl} {A B C D : HP} {H : List HP} (hs : Sat W w g (A :: B :: C :: D :: H)) : Sat W w g (A :: D :: B :: C :: H) := hs.perm (.cons _ ((List.Perm.cons _ (.swap _ _ _)).trans (.swap _ _ _)))
theorem dmap_mid {mb fb : Nat} {f f' : Fl} {name : List UInt8} {L1 L2 : Fs} : dmap mb (L1 ++ (name, (fb, f)) :: L2) = dmap mb (L1 ++ (name, (fb, f')) :: L2) := by simp [dmap]

set_option maxHeartbeats 1600000 in
set_option maxRecDepth 100000 in
theorem write_any {R : Ending → World → Prop} {W w : World} {g : Hl} {H : List HP} {b mb m : Nat} {d : Dk} {L : Fs} {name p : List UInt8} {u : Value} (hs : Sat W w g (dsk b mb d :: dmap mb L :: bsep (dfiles L) :: H)) (hp : Pr 1 g u m (bs p)) (hm : p.length = m) (hL : tk (Fs.plain L) + m ≤ 1000000000)
    (hR : ∀ w' L', Fs.plain L' = put name p (Fs.plain L) → Sat W w' g (dsk b mb d :: dmap mb L' :: bsep (dfiles L') :: H) → R (.returned (.tuple #[])) w') : Calls Tryz.prog 105 #[ptr b, str name, u] w R := by
  have HR := Lib.hid hR
  clear hR
  simp only [dsk] at hs
  refine C.calls (args := [ptr b, str name, u]) Tryz.func105 rfl rfl rfl ?_
  refine go ?_
  refine E.lookd hs (.there .here) (fun h0 => ?_) (fun fb f h1 => ?_)
  · refine go ?_
    refine E.bx hs ?_
    intro fb w1 hs
    refine go ?_
    refine E.setd (f := ⟨p, 0⟩) hs (.there (.there .here)) ?_
    intro w2 hs
    refine go ?_
    refine E.appw el_u8 hs.wnil (hp.row hs) ?_
    intro a c w3 hs
    refine go ?_
    refine E.sto hs ?_
    intro w4 hs
    refine go ?_
    refine A.e0 ?_
    obtain ⟨h2, -⟩ := as_none (v := (fb, (⟨p, 0⟩ : Fl))) h0
    refine HR.out _ (L ++ [(name, (fb, ⟨p, 0⟩))]) ?_ ?_
    · have h3 : aget name (Fs.plain L) = none := by rw [al_plain, h0]; rfl
      simp only [put, h3]
      rw [show (none : Option Fl).getD ⟨[], 0⟩ = ⟨[], 0⟩ from rfl]
      simp only [List.nil_append]
      rw [(as_none h3).1]
      simp [Fs.plain]
    · rw [h2] at hs
      simp only [Nat.zero_add, List.nil_append] at hs
      have hs1 := file_close (s := 0) hm rfl hs.swap
      have hs2 := hs1.under2
      have e0 : dfiles L = dfiles (L ++ []) := by simp
      rw [e0] at hs2
      exact (files_in (q := (name, (fb, ⟨p, 0⟩))) hs2).push2
  · obtain ⟨L1, L2, rfl, h2, -⟩ := al_split h1
    obtain ⟨a, c, hs⟩ := file_open (files_out (q := (name, (fb, f))) hs.pull2)
    simp only at hs
    have hb : f.p.length + m ≤ 1000000000 := by
      have : tk (Fs.plain (L1 ++ (name, (fb, f)) :: L2)) = f.p.length + tk (Fs.plain (L1 ++ L2)) := by
        simp only [Fs.plain, List.map_append, List.map_cons, tk_append, tk_cons]; omega
      omega
    refine go ?_
    refine E.appw el_u8 hs.swap (hp.row hs) ?_
    intro a c w3 hs
    refine go ?_
    refine E.sto hs ?_
    intro w4 hs
    refine go ?_
    refine A.e0 ?_
    rw [← bs_append] at hs
    refine HR.out _ (L1 ++ (name, (fb, ⟨f.p ++ p, f.safe⟩)) :: L2) ?_ ?_
    · simp only [put, al_plain, h1, Option.map_some, Option.getD_some]
      rw [as_plain name (fb, ⟨f.p ++ p, f.safe⟩), h2]
    · rw [dmap_mid (f' := ⟨f.p ++ p, f.safe⟩)] at hs
      have hs1 := file_close (l := f.p ++ p) (by rw [List.length_append, hm]) rfl hs.swap
      exact (files_in (q := (name, (fb, ⟨f.p ++ p, f.safe⟩))) hs1).push2
end Go.Proofs.YtdkbpcibmipelaaGreatDoor

/-
  Layer 4 (disk): Append, Sync, Remove, Cut, Move, Read, Widen, Arm.
-/
namespace Go.Proofs.YtdkbpcibmipelaaGreatDoor
open Go.RowKit
set_option linter.unusedVariables false
set_option linter.unusedSimpArgs false

theorem take_put_len (name p : List UInt8) : ∀ (fs : List (List UInt8 × Fl)), tk (put name p fs) = tk fs + p.length := by
  intro fs
  unfold put
  cases h : aget name fs with
  | none => rw [(as_none h).1, tk_append]; simp [tk]
  | some f =>
    obtain ⟨l1, l2, rfl, h2, -⟩ := al_split h
    rw [h2]
    simp [tk_append, tk_cons]
    omega
theorem put_keys {β : Type} {name : List UInt8} {v : β} : ∀ {fs : List (List UInt8 × β)}, (fs.map Prod.fst).Nodup → ((aput name v fs).map Prod.fst).Nodup := by
  intro fs hn
  cases h : aget name fs with
  | none =>
    rw [(as_none h).1, List.map_append]
    have : name ∉ fs.map Prod.fst := by
      clear hn
      induction fs with
      | nil => simp
      | cons q r ih =>
        obtain ⟨a, u⟩ := q
        simp only [aget] at h
        split at h
        · cases h
        · rename_i hne
          simp only [List.map_cons, List.mem_cons, not_or]
          exact ⟨hne, ih h⟩
    exact List.nodup_append.2 ⟨hn, by simp, fun a ha c hc => by simp at hc; subst hc; intro e; subst e; exact this ha⟩
  | some f =>
    obtain ⟨l1, l2, rfl, h2, -⟩ := al_split h
    rw [h2]
    simpa using hn
theorem adrop_none {β : Type} {name : List UInt8} : ∀ {fs : List (List UInt8 × β)}, aget name fs = none → adrop name fs = fs
  | [], _ => rfl
  | (a, u) :: r, h => by
    simp only [aget] at h
    split at h
    · cases h
    · rename_i hne
      simp [adrop, hne, adrop_none h]
theorem drop_keys {β : Type} {name : List UInt8} {fs : List (List UInt8 × β)} (hn : (fs.map Prod.fst).Nodup) : ((adrop name fs).map Prod.fst).Nodup := by
  cases h : aget name fs with
  | none => rw [adrop_none h]; exact hn
  | some f =>
    obtain ⟨l1, l2, rfl, -, h2⟩ := al_split h
    rw [h2]
    refine hn.sublist ?_
    rw [List.map_append, List.map_append, List.map_cons]
    exact List.Sublist.append_left (List.sublist_cons_self _ _) _

theorem aget_last {β : Type} {name : List UInt8} {v : β} : ∀ {fs : List (List UInt8 × β)}, aget name fs = none → aget name (fs ++ [(name, v)]) = some v
  | [], _ => by simp [aget]
  | (a, u) :: r, h => by
    simp only [aget] at h
    split at h
    · cases h
    · rename_i hne
      simp only [List.cons_append, aget, hne, if_false]
      exact aget_last h
theorem aput_last {β : Type} {name : List UInt8} {v v' : β} : ∀ {fs : List (List UInt8 × β)}, aget name fs = none → aput name v' (fs ++ [(name, v)]) = fs ++ [(name, v')]
  | [], _ => by simp [aput]
  | (a, u) :: r, h => by
    simp only [aget] at h
    split at h
    · cases h
    · rename_i hne
      simp only [List.cons_append, aput, hne, if_false, aput_last h]
theorem put_ok {d : Dk} {name p : List UInt8} (h : d.ok) (hp : tk d.fs + p.length ≤ 1000000000) : ({ d with fs := put name p d.fs } : Dk).ok := by
  refine ⟨by simp only [take_put_len]; exact hp, h.room, h.fuse, h.torn, ?_, put_keys h.keys⟩
  intro q hq
  simp only [put] at hq
  cases ha : aget name d.fs with
  | none =>
    rw [ha, (as_none ha).1] at hq
    rcases List.mem_append.1 hq with hq | hq
    · exact h.safe q hq
    · simp only [List.mem_singleton] at hq; subst hq; simp
  | some f =>
    obtain ⟨l1, l2, e, h2, -⟩ := al_split ha
    rw [ha, h2] at hq
    simp only [List.mem_append, List.mem_cons] at hq
    rcases hq with hq | rfl | hq
    · exact h.safe q (by rw [e]; simp [hq])
    · have := h.safe (name, f) (by rw [e]; simp)
      simp only [Option.getD_some, List.length_append] at this ⊢
      omega
    · exact h.safe q (by rw [e]; simp [hq])

/-- How 'Append' goes. -/
def Dk.append (d : Dk) (name p : List UInt8) : Int × Dk :=
  if namedB name = false then (1, d) else
  if d.act.1 = 0 then (if d.room - tk d.fs < p.length then (3, d.act.2) else (0, { d.act.2 with fs := put name p d.fs }))
  else (d.act.1, if d.off = false ∧ 0 < d.torn ∧ tk d.fs + min d.torn p.length ≤ d.room then { d.act.2 with fs := put name (p.take (min d.torn p.length).toNat) d.fs } else d.act.2)

set_option maxHeartbeats 1600000 in
set_option maxRecDepth 100000 in
theorem append_any {R : Ending → World → Prop} {W w : World} {g : Hl} {H : List HP} {b n c : Nat} {a : Option Addr} {d : Dk} {name p : List UInt8} (hs : Sat W w g (disk b d :: H)) (hp : Pr 1 g (.slice a n c) n (bs p)) (hn : p.length = n) (hnb : n ≤ 140737488355328)
    (hR : ∀ w', Sat W w' g (disk b (d.append name p).2 :: H) → R (.returned (.int .i64 (d.append name p).1)) w') : Calls Tryz.prog 32 #[ptr b, str name, .slice a n c] w R := by
  have HR := Lib.hid hR
  clear hR
  refine C.calls (args := [ptr b, str name, .slice a n c]) Tryz.func32 rfl rfl rfl ?_
  refine go ?_
  refine E.callf Tryz.func104 rfl ?_
  refine named_any name hs ?_
  intro w1 hs
  cases hN : namedB name with
  | false =>
    refine go ?_
    refine A.r1 ?_
    have := HR.out w1
    simp only [Dk.append, hN, if_true] at this
    exact this hs
  | true =>
    refine go ?_
    obtain ⟨mb, L, hL, hok, hs⟩ := disk_open hs
    have htk := hok.total
    have hrm := hok.room
    rw [← hL] at htk
    refine E.callf Tryz.func65 rfl ?_
    refine room_any hs htk ?_
    intro w2 hs
    refine go ?_
    refine E.callf Tryz.func87 rfl ?_
    refine on_dsk hs ?_
    refine go ?_
    refine E.callf Tryz.func100 rfl ?_
    refine act_dsk hs hok ?_
    intro w3 hs
    obtain ⟨ok1, e1, e2, e3⟩ := Dk.act_ok hok
    have hto := ok1.torn
    have key := HR.out
    simp only [Dk.append, hN, Bool.true_eq_false, if_false, ← hL] at key
    rw [← e3] at key
    generalize d.act = q at hs ok1 e1 e2 e3 hto key ⊢
    obtain ⟨er, d1⟩ := q
    simp only at hs ok1 e1 e2 e3 hto key ⊢
    refine go ?_
    by_cases her : er = 0
    · subst her
      simp only [if_true] at key
      refine go ?_
      refine C.cond_dec (p := d.room - (tk (Fs.plain L) : Nat) < n) rfl (fun hf => ?_) (fun hf => ?_)
      · refine go ?_
        refine A.r1 ?_
        rw [← hn] at hf
        simp only [hf, if_true] at key
        exact key _ (disk_close (hL.trans e1.symm) ok1 hs)
      · refine go ?_
        refine E.callf Tryz.func105 rfl ?_
        refine write_any hs hp hn (by omega) ?_
        intro w4 L' hL' hs
        refine go ?_
        refine A.r1 ?_
        rw [← hn] at hf
        simp only [hf, if_false] at key
        refine key _ (disk_close (L := L') (mb := mb) ?_ ?_ ?_)
        · exact hL'
        · have := put_ok (name := name) (p := p) ok1 (by rw [e1, ← hL]; omega)
          rw [e1, ← hL] at this
          exact this
        · exact hs
    · have hd : (!decide (er = 0)) = true := by simp [her]
      refine C.cond rfl (fun _ => ?_) (fun h => by rw [hd] at h; cases h)
      simp only [her, if_false] at key
      have hs0 := hs
      simp only [dsk] at hs
      have fin : d.off = true ∨ ¬ 0 < d1.torn ∨ ¬ (tk (Fs.plain L) : Nat) + min d1.torn n ≤ d.room → R (.returned (.int .i64 er)) w3 := fun h => by
        have h2 : ¬ (d.off = false ∧ 0 < d1.torn ∧ (tk (Fs.plain L) : Nat) + min d1.torn p.length ≤ d.room) := by
          rintro ⟨a1, a2, a3⟩
          rw [hn] at a3
          rcases h with h | h | h
          · rw [a1] at h; cases h
          · exact h a2
          · exact h a3
        have := key w3
        rw [if_neg h2] at this
        exact this (disk_close (hL.trans e1.symm) ok1 hs0)
      cases hoff : d.off with
      | true =>
        refine go ?_
        refine A.r1 ?_
        exact fin (.inl hoff)
      | false =>
        refine go ?_
        cases h1 : decide (0 < d1.torn)
        · refine go ?_
          refine A.r1 ?_
          exact fin (.inr (.inl (by simpa using h1)))
        · refine go ?_
          have h1' : 0 < d1.torn := by simpa using h1
          refine C.cond_dec (p := (tk (Fs.plain L) : Nat) + min d1.torn n ≤ d.room) rfl (fun h2 => ?_) (fun h2 => ?_)
          · refine go ?_
            have hmn : ∃ k : Nat, min d1.torn (n : Int) = k ∧ k ≤ n := ⟨(min d1.torn (n : Int)).toNat, by omega, by omega⟩
            obtain ⟨k, hk, hkn⟩ := hmn
            rw [hk] at h2 ⊢
            refine E.slb el_u8 hp 0 k ?_
            intro a' c' hp'
            simp only [Nat.sub_zero, List.drop_zero] at hp' ⊢
            refine go ?_
            have hkl : (p.take k).length = k := by rw [List.length_take]; omega
            refine E.callf Tryz.func105 rfl ?_
            refine write_any (d := d1) hs0 hp' hkl (by omega) ?_
            intro w4 L' hL' hs
            refine go ?_
            refine A.r1 ?_
            have := key w4
            rw [if_pos ⟨hoff, h1', by rw [hn, hk]; exact h2⟩, hn, hk] at this
            refine this (disk_close (L := L') (mb := mb) ?_ ?_ ?_)
            · simpa using hL'
            · have := put_ok (name := name) (p := p.take k) ok1 (by rw [e1, ← hL, hkl]; omega)
              rw [e1, ← hL] at this
              simpa using this
            · exact hs
          · refine go ?_
            refine A.r1 ?_
            exact fin (.inr (.inr h2))
end Go.Proofs.YtdkbpcibmipelaaGreatDoor

/-
  Layer 4 (disk): Sync, Remove, Cut, Move, Read, Widen.
-/
namespace Go.Proofs.YtdkbpcibmipelaaGreatDoor
open Go.RowKit
set_option linter.unusedVariables false
set_option linter.unusedSimpArgs false

def Dk.sync (d : Dk) (name : List UInt8) : Int × Dk :=
  if d.act.1 = 0 then (match aget name d.fs with
    | none => (2, d.act.2)
    | some f => (0, { d.act.2 with fs := aput name ⟨f.p, f.p.length⟩ d.fs }))
  else d.act
def Dk.remove (d : Dk) (name : List UInt8) : Int × Dk :=
  if d.act.1 = 0 then (match aget name d.fs with
    | none => (2, d.act.2)
    | some f => (0, { d.act.2 with fs := adrop name d.fs }))
  else d.act
def Dk.cut (d : Dk) (name : List UInt8) (n : Int) : Int × Dk :=
  if d.act.1 = 0 then (match aget name d.fs with
    | none => (2, d.act.2)
    | some f => if n < 0 ∨ f.p.length < n then (1, d.act.2) else (0, { d.act.2 with fs := aput name ⟨f.p.take n.toNat, n.toNat⟩ d.fs }))
  else d.act
def Dk.move (d : Dk) (src dst : List UInt8) : Int × Dk :=
  if namedB dst = false then (1, d) else
  if d.act.1 = 0 then (match aget src d.fs with
    | none => (2, d.act.2)
    | some f => (0, { d.act.2 with fs := aput dst f (adrop src d.fs) }))
  else d.act
def Dk.read (d : Dk) (name : List UInt8) : Except Int (List UInt8) :=
  if d.off then .error 7 else match aget name d.fs with
    | none => .error 2
    | some f => .ok f.p

theorem upd_ok {d d1 : Dk} {name : List UInt8} {f f' : Fl} (h : d.ok) (h1 : d1.ok) (ha : aget name d.fs = some f) (hl : f'.p.length ≤ f.p.length) (hsf : f'.safe ≤ f'.p.length) : ({ d1 with fs := aput name f' d.fs } : Dk).ok := by
  obtain ⟨l1, l2, e, h2, -⟩ := al_split ha
  refine ⟨?_, h1.room, h1.fuse, h1.torn, ?_, put_keys h.keys⟩
  · have := h.total
    simp only [h2]
    rw [e] at this
    simp only [tk_append, tk_cons] at this ⊢
    omega
  · intro q hq
    simp only [h2, List.mem_append, List.mem_cons] at hq
    rcases hq with hq | rfl | hq
    · exact h.safe q (by rw [e]; simp [hq])
    · exact hsf
    · exact h.safe q (by rw [e]; simp [hq])
theorem drop_ok {d d1 : Dk} {name : List UInt8} (h : d.ok) (h1 : d1.ok) : ({ d1 with fs := adrop name d.fs } : Dk).ok := by
  cases ha : aget name d.fs with
  | none => rw [adrop_none ha]; exact ⟨h.total, h1.room, h1.fuse, h1.torn, h.safe, h.keys⟩
  | some f =>
    obtain ⟨l1, l2, e, -, h2⟩ := al_split ha
    refine ⟨?_, h1.room, h1.fuse, h1.torn, ?_, drop_keys h.keys⟩
    · have := h.total
      simp only [h2]
      rw [e] at this
      simp only [tk_append, tk_cons] at this ⊢
      omega
    · intro q hq
      simp only [h2, List.mem_append] at hq
      exact h.safe q (by rw [e]; rcases hq with hq | hq <;> simp [hq])

set_option maxHeartbeats 1600000 in
set_option maxRecDepth 100000 in
theorem sync_any {R : Ending → World → Prop} {W w : World} {g : Hl} {H : List HP} {b : Nat} {d : Dk} {name : List UInt8} (hs : Sat W w g (disk b d :: H))
    (hR : ∀ w', Sat W w' g (disk b (d.sync name).2 :: H) → R (.returned (.int .i64 (d.sync name).1)) w') : Calls Tryz.prog 108 #[ptr b, str name] w R := by
  have HR := Lib.hid hR
  clear hR
  refine C.calls (args := [ptr b, str name]) Tryz.func108 rfl rfl rfl ?_
  refine go ?_
  obtain ⟨mb, L, hL, hok, hs⟩ := disk_open hs
  refine E.callf Tryz.func100 rfl ?_
  refine act_dsk hs hok ?_
  intro w1 hs
  obtain ⟨ok1, e1, -, -⟩ := Dk.act_ok hok
  have key := HR.out
  simp only [Dk.sync, ← hL] at key
  generalize d.act = q at hs ok1 e1 key ⊢
  obtain ⟨er, d1⟩ := q
  simp only at hs ok1 e1 key ⊢
  by_cases her : er = 0
  · subst her
    simp only [if_true, al_plain] at key
    refine go ?_
    have hs0 := hs
    simp only [dsk] at hs
    refine go ?_
    refine E.lookd hs (.there .here) (fun h0 => ?_) (fun fb f h1 => ?_)
    · refine go ?_
      refine A.r1 ?_
      simp only [h0, Option.map_none] at key
      exact key _ (disk_close (hL.trans e1.symm) ok1 hs0)
    · simp only [h1, Option.map_some] at key
      obtain ⟨L1, L2, rfl, h2, -⟩ := al_split h1
      obtain ⟨a, c, hs⟩ := file_open (files_out (q := (name, (fb, f))) hs.pull2)
      simp only at hs
      refine go ?_
      refine E.sto hs ?_
      intro w2 hs
      refine go ?_
      refine A.r1 ?_
      have h3 := as_plain name (fb, ⟨f.p, f.p.length⟩) (L1 ++ (name, (fb, f)) :: L2)
      rw [h2] at h3
      refine key _ (disk_close (L := L1 ++ (name, (fb, ⟨f.p, f.p.length⟩)) :: L2) (mb := mb) h3.symm ?_ ?_)
      · have := upd_ok (f' := ⟨f.p, f.p.length⟩) hok ok1 (name := name) (f := f) (by rw [← hL, al_plain, h1]; rfl) (by simp) (by simp)
        rw [← hL] at this
        exact this
      · rw [dmap_mid (f' := ⟨f.p, f.p.length⟩)] at hs
        exact (files_in (q := (name, (fb, ⟨f.p, f.p.length⟩))) (file_close (l := f.p) rfl rfl hs)).push2
  · have hd : (!decide (er = 0)) = true := by simp [her]
    simp only [her, if_false] at key
    refine go ?_
    refine C.cond rfl (fun _ => ?_) (fun h => by rw [hd] at h; cases h)
    refine go ?_
    refine A.r1 ?_
    exact key _ (disk_close (hL.trans e1.symm) ok1 hs)

set_option maxHeartbeats 1600000 in
set_option maxRecDepth 100000 in
theorem remove_any {R : Ending → World → Prop} {W w : World} {g : Hl} {H : List HP} {b : Nat} {d : Dk} {name : List UInt8} (hs : Sat W w g (disk b d :: H))
    (hR : ∀ w', Sat W w' g (disk b (d.remove name).2 :: H) → R (.returned (.int .i64 (d.remove name).1)) w') : Calls Tryz.prog 106 #[ptr b, str name] w R := by
  have HR := Lib.hid hR
  clear hR
  refine C.calls (args := [ptr b, str name]) Tryz.func106 rfl rfl rfl ?_
  refine go ?_
  obtain ⟨mb, L, hL, hok, hs⟩ := disk_open hs
  refine E.callf Tryz.func100 rfl ?_
  refine act_dsk hs hok ?_
  intro w1 hs
  obtain ⟨ok1, e1, -, -⟩ := Dk.act_ok hok
  have key := HR.out
  simp only [Dk.remove, ← hL] at key
  generalize d.act = q at hs ok1 e1 key ⊢
  obtain ⟨er, d1⟩ := q
  simp only at hs ok1 e1 key ⊢
  by_cases her : er = 0
  · subst her
    simp only [if_true, al_plain] at key
    have hs0 := hs
    simp only [dsk] at hs
    refine go ?_
    refine E.lookd hs (.there .here) (fun h0 => ?_) (fun fb f h1 => ?_)
    · refine go ?_
      refine A.r1 ?_
      simp only [h0, Option.map_none] at key
      exact key _ (disk_close (hL.trans e1.symm) ok1 hs0)
    · simp only [h1, Option.map_some] at key
      refine go ?_
      refine E.deld hs (.there .here) ?_
      intro w2 hs
      refine go ?_
      refine A.r1 ?_
      obtain ⟨L1, L2, rfl, -, h2⟩ := al_split h1
      rw [h2] at hs
      refine key _ (disk_close (L := L1 ++ L2) (mb := mb) ?_ ?_ ?_)
      · rw [ad_plain, h2]
      · have := drop_ok (name := name) hok ok1
        rw [← hL] at this
        exact this
      · have h5 := (files_out (q := (name, (fb, f))) hs.pull2).drop
        exact h5.push2
  · have hd : (!decide (er = 0)) = true := by simp [her]
    simp only [her, if_false] at key
    refine go ?_
    refine C.cond rfl (fun _ => ?_) (fun h => by rw [hd] at h; cases h)
    refine go ?_
    refine A.r1 ?_
    exact key _ (disk_close (hL.trans e1.symm) ok1 hs)

end Go.Proofs.YtdkbpcibmipelaaGreatDoor

/-
  Layer 4 (disk): Cut, Move, Read, Widen.
-/
namespace Go.Proofs.YtdkbpcibmipelaaGreatDoor
open Go.RowKit
set_option linter.unusedVariables false
set_option linter.unusedSimpArgs false

section
variable {P : Program} {W w w' : World} {g g' : Hl} {H H' : List HP} {t e ty : TypeId} {z : Value} {size bytes : Nat} {n : Fm} {ρ : List (Nat × Value)} {Q : Exit → Act → World → Prop} {ops : Array Oper} {rest : List Oper} {d : Option Tmp} {ps : String} {af : Array Edge} {x y : Operand} {lo hi mx : Option Operand} {vl vh vm : Option Value}
/-- s[:k:k] of an own row: it may not grow any more. -/
theorem E.cutw {a : Option Addr} {m c : Nat} {xs : List Value} (he : ElemOf P t e z size bytes) (hs : Sat W w g (ownw e size (.slice a m c) m xs :: H)) (k : Nat) (hk : k ≤ m) (h : ∀ a', Sat W w g (ownw e size (.slice a' k k) k (xs.take (k * size)) :: H) → E P n ops rest (pushv d (.slice a' k k) ρ) w Q)
    (hx : evo n ρ x = some (.slice a m c) := by exact rfl) (h1 : evm n ρ lo = some none := by exact rfl) (h2 : evm n ρ hi = some vh := by exact rfl) (h3 : evm n ρ mx = some vm := by exact rfl) (hhi : Hi vh m k := by exact .inr ⟨_, _, rfl, by omega⟩) (hmx : Mx vm vh c k := by exact .inr ⟨rfl, _, _, rfl, by omega⟩) :
    E P n ops (⟨d, .slice t x lo hi mx, ty, ps, af, none⟩ :: rest) ρ w Q := by
  obtain ⟨_, _, _, e0, hmc, hcm, hN⟩ := hs.wlen
  simp only [Value.slice.injEq] at e0
  obtain ⟨rfl, -, rfl⟩ := e0
  have hr := fun w => run_slice_any (P := P) (a := a) (vl := none) he (.inl ⟨rfl, rfl⟩) hhi hmx hmc (Nat.zero_le k) (Nat.le_refl k) (by omega) (fun _ => Nat.le_refl k) w
  refine E.pv (v := .slice a k k) (Pv.slice hx h1 h2 h3 (fun w => ?_)) (h a (hs.wcut hk))
  rw [hr w]
  congr 1
  simp only [Nat.sub_zero, Nat.zero_mul, Value.slice.injEq, and_true]
  split
  · rfl
  · cases a with
    | none => rfl
    | some q => obtain ⟨b, o, s⟩ := q; simp [Addr.add]
end

set_option maxHeartbeats 1600000 in
set_option maxRecDepth 100000 in
theorem cut_any {R : Ending → World → Prop} {W w : World} {g : Hl} {H : List HP} {b : Nat} {d : Dk} {name : List UInt8} {k : Int} (hs : Sat W w g (disk b d :: H))
    (hR : ∀ w', Sat W w' g (disk b (d.cut name k).2 :: H) → R (.returned (.int .i64 (d.cut name k).1)) w') : Calls Tryz.prog 27 #[ptr b, str name, .int .i64 k] w R := by
  have HR := Lib.hid hR
  clear hR
  refine C.calls (args := [ptr b, str name, .int .i64 k]) Tryz.func27 rfl rfl rfl ?_
  refine go ?_
  obtain ⟨mb, L, hL, hok, hs⟩ := disk_open hs
  refine E.callf Tryz.func100 rfl ?_
  refine act_dsk hs hok ?_
  intro w1 hs
  obtain ⟨ok1, e1, -, -⟩ := Dk.act_ok hok
  have key := HR.out
  simp only [Dk.cut, ← hL] at key
  generalize d.act = q at hs ok1 e1 key ⊢
  obtain ⟨er, d1⟩ := q
  simp only at hs ok1 e1 key ⊢
  by_cases her : er = 0
  · subst her
    simp only [if_true, al_plain] at key
    have hs0 := hs
    simp only [dsk] at hs
    refine go ?_
    refine E.lookd hs (.there .here) (fun h0 => ?_) (fun fb f h1 => ?_)
    · refine go ?_
      refine A.r1 ?_
      simp only [h0, Option.map_none] at key
      exact key _ (disk_close (hL.trans e1.symm) ok1 hs0)
    · simp only [h1, Option.map_some] at key
      have bad : (k < 0 ∨ (f.p.length : Int) < k) → R (.returned (.int .i64 1)) w1 := fun h => by
        rw [if_pos h] at key
        exact key _ (disk_close (hL.trans e1.symm) ok1 hs0)
      obtain ⟨L1, L2, rfl, h2, -⟩ := al_split h1
      obtain ⟨a, c, hs⟩ := file_open (files_out (q := (name, (fb, f))) hs.pull2)
      simp only at hs
      refine go ?_
      cases hk0 : decide (k < 0)
      · refine go ?_
        refine C.cond_dec (p := (f.p.length : Int) < k) rfl (fun hb => ?_) (fun hb => ?_)
        · refine go ?_
          refine A.r1 ?_
          exact bad (.inr hb)
        · have hk0' : ¬ k < 0 := by simpa using hk0
          obtain ⟨q, rfl⟩ : ∃ q : Nat, k = q := ⟨k.toNat, by omega⟩
          refine go ?_
          refine E.cutw el_u8 hs.swap q (by omega) ?_
          intro a' hs
          have hs := hs.swap
          refine go ?_
          refine E.sto hs ?_
          intro w2 hs
          refine go ?_
          refine E.sto hs ?_
          intro w3 hs
          refine go ?_
          refine A.r1 ?_
          have h3 := as_plain name (fb, ⟨f.p.take q, q⟩) (L1 ++ (name, (fb, f)) :: L2)
          rw [h2] at h3
          rw [if_neg (by omega)] at key
          have ql : (f.p.take q).length = q := by rw [List.length_take]; omega
          refine key _ (disk_close (L := L1 ++ (name, (fb, ⟨f.p.take q, q⟩)) :: L2) (mb := mb) (by simpa using h3.symm) ?_ ?_)
          · have := upd_ok (f' := ⟨f.p.take q, q⟩) hok ok1 (name := name) (f := f) (by rw [← hL, al_plain, h1]; rfl) (by simp only [ql]; omega) (by simp only [ql]; omega)
            rw [← hL] at this
            simpa using this
          · rw [dmap_mid (f' := ⟨f.p.take q, q⟩)] at hs
            rw [Nat.mul_one, ← bs_take] at hs
            exact (files_in (q := (name, (fb, ⟨f.p.take q, q⟩))) (file_close (l := f.p.take q) ql rfl hs)).push2
      · refine go ?_
        refine A.r1 ?_
        exact bad (.inl (by simpa using hk0))
  · have hd : (!decide (er = 0)) = true := by simp [her]
    simp only [her, if_false] at key
    refine go ?_
    refine C.cond rfl (fun _ => ?_) (fun h => by rw [hd] at h; cases h)
    refine go ?_
    refine A.r1 ?_
    exact key _ (disk_close (hL.trans e1.symm) ok1 hs)

theorem aput_mem {β : Type} {k : List UInt8} {v : β} {l : List (List UInt8 × β)} : ∀ q ∈ aput k v l, q = (k, v) ∨ q ∈ l := by
  intro q hq
  cases ha : aget k l with
  | none =>
    rw [(as_none ha).1] at hq
    simp only [List.mem_append, List.mem_singleton] at hq
    exact hq.symm
  | some f =>
    obtain ⟨l1, l2, rfl, h2, -⟩ := al_split ha
    rw [h2] at hq
    simp only [List.mem_append, List.mem_cons] at hq ⊢
    rcases hq with h | h | h <;> simp [h]
theorem aput_tk {name : List UInt8} {f : Fl} {fs : List (List UInt8 × Fl)} : tk (aput name f fs) ≤ tk fs + f.p.length := by
  cases ha : aget name fs with
  | none => rw [(as_none ha).1, tk_append]; simp [tk]
  | some h =>
    obtain ⟨l1, l2, rfl, h2, -⟩ := al_split ha
    rw [h2]
    simp only [tk_append, tk_cons]
    omega
theorem move_ok {d d1 : Dk} {src dst : List UInt8} {f : Fl} (h : d.ok) (h1 : d1.ok) (ha : aget src d.fs = some f) : ({ d1 with fs := aput dst f (adrop src d.fs) } : Dk).ok := by
  obtain ⟨l1, l2, e, -, h2⟩ := al_split ha
  have hd := drop_ok (name := src) h h1
  have hm : (src, f) ∈ d.fs := by rw [e]; simp
  refine ⟨?_, h1.room, h1.fuse, h1.torn, ?_, put_keys hd.keys⟩
  · have ht := h.total
    have h3 := aput_tk (name := dst) (f := f) (fs := adrop src d.fs)
    have : tk (adrop src d.fs) + f.p.length ≤ 1000000000 := by
      rw [h2]
      rw [e] at ht
      simp only [tk_append, tk_cons] at ht ⊢
      omega
    simp only
    omega
  · intro q hq
    rcases aput_mem q hq with rfl | hq
    · exact (h.safe (src, f) hm : f.safe ≤ f.p.length)
    · exact hd.safe q hq

set_option maxHeartbeats 1600000 in
set_option maxRecDepth 100000 in
theorem move_any {R : Ending → World → Prop} {W w : World} {g : Hl} {H : List HP} {b : Nat} {d : Dk} {src dst : List UInt8} (hs : Sat W w g (disk b d :: H))
    (hR : ∀ w', Sat W w' g (disk b (d.move src dst).2 :: H) → R (.returned (.int .i64 (d.move src dst).1)) w') : Calls Tryz.prog 31 #[ptr b, str src, str dst] w R := by
  have HR := Lib.hid hR
  clear hR
  refine C.calls (args := [ptr b, str src, str dst]) Tryz.func31 rfl rfl rfl ?_
  refine go ?_
  refine E.callf Tryz.func104 rfl ?_
  refine named_any dst hs ?_
  intro w0 hs
  cases hN : namedB dst with
  | false =>
    refine go ?_
    refine A.r1 ?_
    have := HR.out w0
    simp only [Dk.move, hN, if_true] at this
    exact this hs
  | true =>
  refine go ?_
  obtain ⟨mb, L, hL, hok, hs⟩ := disk_open hs
  refine E.callf Tryz.func100 rfl ?_
  refine act_dsk hs hok ?_
  intro w1 hs
  obtain ⟨ok1, e1, -, -⟩ := Dk.act_ok hok
  have key := HR.out
  simp only [Dk.move, ← hL, hN, Bool.true_eq_false, if_false] at key
  generalize d.act = q at hs ok1 e1 key ⊢
  obtain ⟨er, d1⟩ := q
  simp only at hs ok1 e1 key ⊢
  by_cases her : er = 0
  · subst her
    simp only [if_true, al_plain] at key
    have hs0 := hs
    simp only [dsk] at hs
    refine go ?_
    refine E.lookd hs (.there .here) (fun h0 => ?_) (fun fb f h1 => ?_)
    · refine go ?_
      refine A.r1 ?_
      simp only [h0, Option.map_none] at key
      exact key _ (disk_close (hL.trans e1.symm) ok1 hs0)
    · simp only [h1, Option.map_some] at key
      have hok2 := move_ok (dst := dst) hok ok1 (src := src) (f := f) (by rw [← hL, al_plain, h1]; rfl)
      rw [← hL] at hok2
      refine go ?_
      refine E.deld hs (.there .here) ?_
      intro w2 hs
      refine go ?_
      refine E.setd (f := f) hs (.there .here) ?_
      intro w3 hs
      refine go ?_
      refine A.r1 ?_
      obtain ⟨L1, L2, rfl, -, h2⟩ := al_split h1
      rw [h2] at hs
      have hs := files_out (q := (src, (fb, f))) hs.pull2
      simp only at hs
      generalize L1 ++ L2 = M at hs h2
      have hfin : Fs.plain (aput dst (fb, f) M) = aput dst f (adrop src (Fs.plain (L1 ++ (src, (fb, f)) :: L2))) := by
        rw [ad_plain, h2, ← as_plain dst (fb, f)]
      refine key _ (disk_close (L := aput dst (fb, f) M) (mb := mb) hfin hok2 ?_)
      cases ha : aget dst M with
      | none =>
        rw [(as_none ha).1] at hs ⊢
        have e0 : dfiles M = dfiles (M ++ []) := by simp
        rw [e0] at hs
        exact (files_in (q := (dst, (fb, f))) hs).push2
      | some q =>
        obtain ⟨M1, M2, rfl, h4, -⟩ := al_split ha
        rw [h4] at hs ⊢
        have h5 := (files_out (q := (dst, q)) hs.swap).drop
        exact (files_in (q := (dst, (fb, f))) h5.swap).push2
  · have hd : (!decide (er = 0)) = true := by simp [her]
    simp only [her, if_false] at key
    refine go ?_
    refine C.cond rfl (fun _ => ?_) (fun h => by rw [hd] at h; cases h)
    refine go ?_
    refine A.r1 ?_
    exact key _ (disk_close (hL.trans e1.symm) ok1 hs)

set_option maxHeartbeats 1600000 in
set_option maxRecDepth 100000 in
theorem clone_any {R : Ending → World → Prop} {W w : World} {g : Hl} {H : List HP} {D : Nat → Prop} {a : Option Addr} {n c : Nat} {l : List UInt8} (hs : Sat W w g H) (hrow : ∀ w', Sat W w' g H → Row 1 w' D (.slice a n c) n (bs l)) (hn : n ≤ 140737488355328)
    (hR : ∀ a' c' w', Sat W w' g (ownw 5 1 (.slice a' n c') n (bs l) :: H) → R (.returned (.slice a' n c')) w') : Calls Tryz.prog 88 #[.slice a n c] w R := by
  have HR := Lib.hid hR
  clear hR
  cases a with
  | none =>
    obtain ⟨h1, a0, c0, e, _, _, hN, _⟩ := hrow w hs
    simp only [Value.slice.injEq] at e
    obtain ⟨rfl, -, rfl⟩ := e
    obtain ⟨rfl, rfl⟩ := hN rfl
    have : bs l = [] := List.eq_nil_of_length_eq_zero (by simpa using h1)
    refine C.calls (args := [.slice none 0 0]) Tryz.func88 rfl rfl rfl ?_
    refine go ?_
    refine A.r1 ?_
    rw [this] at HR
    exact HR.out none 0 _ hs.wnil
  | some ad =>
    refine C.calls (args := [.slice (some ad) n c]) Tryz.func88 rfl rfl rfl ?_
    refine go ?_
    refine E.bsl hs ?_
    intro b w1 hs
    refine go ?_
    refine E.appw el_u8 hs.wempty (hrow w1 hs.drop) ?_
    intro a' c' w2 hs
    refine go ?_
    refine A.r1 ?_
    simp only [Nat.zero_add, List.nil_append] at hs ⊢
    exact HR.out _ _ _ hs

set_option maxHeartbeats 1600000 in
set_option maxRecDepth 100000 in
theorem read_any {R : Ending → World → Prop} {W w : World} {g : Hl} {H : List HP} {b : Nat} {d : Dk} {name : List UInt8} (hs : Sat W w g (disk b d :: H))
    (hOK : ∀ p a c w' g', d.read name = .ok p → p.length ≤ 1000000000 → Hl.le g g' → Pr 1 g' (.slice a p.length c) p.length (bs p) → Sat W w' g' (disk b d :: H) → R (.returned (.tuple #[.slice a p.length c, .int .i64 0])) w')
    (hE : ∀ e w', d.read name = .error e → e ≠ 0 → Sat W w' g (disk b d :: H) → R (.returned (.tuple #[.slice none 0 0, .int .i64 e])) w') : Calls Tryz.prog 19 #[ptr b, str name] w R := by
  have HOK := Lib.hid hOK
  have HE := Lib.hid hE
  clear hOK hE
  refine C.calls (args := [ptr b, str name]) Tryz.func19 rfl rfl rfl ?_
  refine go ?_
  obtain ⟨mb, L, hL, hok, hs⟩ := disk_open hs
  refine E.callf Tryz.func87 rfl ?_
  refine on_dsk hs ?_
  have hto := hok.total
  have hrd : d.read name = (if d.off then .error 7 else match aget name (Fs.plain L) with | none => .error 2 | some f => .ok f.p) := by rw [hL]; rfl
  have hc0 := disk_close hL hok hs
  simp only [dsk] at hs
  cases hoff : d.off with
  | true =>
    refine go ?_
    refine A.r2 ?_
    exact HE.out 7 _ (by rw [hrd, hoff]; rfl) (by decide) hc0
  | false =>
    rw [hoff] at hrd
    simp only [Bool.false_eq_true, if_false, al_plain] at hrd
    refine go ?_
    refine E.lookd hs (.there .here) (fun h0 => ?_) (fun fb f h1 => ?_)
    · refine go ?_
      refine A.r2 ?_
      exact HE.out 2 _ (by rw [hrd, h0]; rfl) (by decide) hc0
    · rw [h1] at hrd
      rw [← hL] at hto
      obtain ⟨L1, L2, rfl, h2, -⟩ := al_split h1
      have hfl : f.p.length ≤ 1000000000 := by
        simp only [Fs.plain, List.map_append, List.map_cons, tk_append, tk_cons] at hto; omega
      obtain ⟨a, c, hs⟩ := file_open (files_out (q := (name, (fb, f))) hs.pull2)
      simp only at hs
      refine go ?_
      refine E.callf Tryz.func88 rfl ?_
      refine clone_any hs (fun w' h => h.swap.wrow) (by omega) ?_
      intro a' c' w2 hs
      obtain ⟨g', hg', hp, hs⟩ := hs.wpublish
      refine go ?_
      refine A.r2 ?_
      refine HOK.out f.p a' c' _ g' hrd hfl hg' hp ?_
      exact disk_close hL hok (files_in (q := (name, (fb, f))) (file_close (l := f.p) rfl rfl hs)).push2

set_option maxHeartbeats 1600000 in
set_option maxRecDepth 100000 in
theorem widen_any {R : Ending → World → Prop} {W w : World} {g : Hl} {H : List HP} {b : Nat} {d : Dk} {room : Int} (hr : -1000000000 ≤ room ∧ room ≤ 1000000000) (hs : Sat W w g (disk b d :: H))
    (hR : ∀ w', Sat W w' g (disk b { d with room := room } :: H) → R (.returned (.tuple #[])) w') : Calls Tryz.prog 66 #[ptr b, .int .i64 room] w R := by
  have HR := Lib.hid hR
  clear hR
  obtain ⟨mb, L, hL, hok, hs⟩ := disk_open hs
  simp only [dsk] at hs
  refine C.calls (args := [ptr b, .int .i64 room]) Tryz.func66 rfl rfl rfl ?_
  refine go ?_
  refine E.sto hs ?_
  intro w1 hs
  refine go ?_
  refine A.e0 ?_
  exact HR.out _ (disk_close (d := { d with room := room }) hL ⟨hok.total, hr, hok.fuse, hok.torn, hok.safe, hok.keys⟩ hs)

end Go.Proofs.YtdkbpcibmipelaaGreatDoor
