/-
  The reference of layer 3: the sum of some bytes, by the highest bit first.
-/
import Derived.Test.YtdkbpcibmipelaaGreatDoorM11
import Derived.Test.YtdkbpcibmipelaaGreatDoorM06
import Derived.Test.YtdkbpcibmipelaaGreatDoorRows
import Derived.Test.YtdkbpcibmipelaaGreatDoorM02
import Derived.OpenShut
import Derived.ChangeOld
import Derived.ChangeSame
import Derived.LaidMore
import Derived.Stop.Joined
import Derived.Test.YtdkbpcibmipelaaGreatDoorM00
import Derived.Test.YtdkbpcibmipelaaGreatDoorM04
import Derived.Stop.LaidErr
import Derived.Test.YtdkbpcibmipelaaGreatDoorM03
import Derived.Laws.IdiomCopy
namespace Go.Proofs.YtdkbpcibmipelaaGreatDoor
open Go.RowKit
set_option linter.unusedVariables false
set_option linter.unusedSimpArgs false

def rbit (s bit : Nat) : Nat := if bit = s / 2 ^ 31 then s * 2 ^ 1 % 2 ^ 32 else (s * 2 ^ 1 % 2 ^ 32) ^^^ 517762881
def rbk (b : Nat) : Nat → Nat → Nat
  | 0, s => s
  | k + 1, s => rbit (rbk b k s) ((b / 2 ^ k) &&& 1)
def rvk (s : Nat) : Nat → Nat
  | 0 => 0
  | k + 1 => (rvk s k * 2 ^ 1 % 2 ^ 32) ||| ((s / 2 ^ k) &&& 1)
def rfold (l : List UInt8) : Nat := l.foldl (fun s b => rbk b.toNat 8 s) 4294967295
def rsum (l : List UInt8) : Nat := rvk ((2 ^ 32 - 1) ^^^ rfold l) 32
theorem rbit_lt {s bit : Nat} : rbit s bit < 4294967296 := by
  unfold rbit
  split
  · omega
  · exact Nat.xor_lt_two_pow (n := 32) (Nat.mod_lt _ (by decide)) (by decide)
theorem rbk_lt {b s : Nat} (h : s < 4294967296) : ∀ k, rbk b k s < 4294967296
  | 0 => h
  | k + 1 => rbit_lt
theorem rvk_lt (s : Nat) : ∀ k, rvk s k < 4294967296
  | 0 => by simp [rvk]
  | k + 1 => Nat.or_lt_two_pow (n := 32) (Nat.mod_lt _ (by decide)) (by rw [Nat.and_one_is_mod]; omega)
theorem rfold_lt (l : List UInt8) : rfold l < 4294967296 := by
  unfold rfold
  suffices h : ∀ (l : List UInt8) s, s < 4294967296 → l.foldl (fun s b => rbk b.toNat 8 s) s < 4294967296 from h l _ (by decide)
  intro l
  induction l with
  | nil => exact fun s h => h
  | cons b r ih => exact fun s h => ih _ (rbk_lt h 8)

set_option maxHeartbeats 1600000 in
set_option maxRecDepth 100000 in
theorem rsum_any {R : Ending → World → Prop} {w : World} {a : Option Addr} {n c : Nat} {D : Nat → Prop} {l : List UInt8} (hp : Row 1 w D (.slice a n c) n (bs l)) (hl : l.length = n)
    (hR : R (.returned (.int .u32 (rsum l : Nat))) w) :
    Calls Tryz.prog 96 #[.slice a n c] w R := by
  have HR := Lib.hid hR
  clear hR
  have hle := hp.len
  obtain ⟨_, _, e0, hnc, hcm⟩ := hle
  unfold maxLen at hcm
  simp only [Value.slice.injEq] at e0
  obtain ⟨rfl, -, rfl⟩ := e0
  refine C.calls (args := [.slice a n c]) Tryz.func96 rfl rfl rfl ?_
  refine gob ?_
  refine C.cutQ (fun s : Nat => [(3, .int .u32 s)]) (fun s w' => w' = w ∧ s = rfold l) ?_ ?_
  · refine C.block ?_
    refine C.lp (fun x : Nat × Nat => [(0, .slice a n c), (3, .int .u32 x.2), (4, .int .i64 x.1)])
      (fun gk x w' => w' = w ∧ gk = n - x.1 ∧ x.1 ≤ n ∧ x.2 < 4294967296 ∧ (l.drop x.1).foldl (fun s b => rbk b.toNat 8 s) x.2 = rfold l) n (0, 4294967295) ⟨rfl, rfl, Nat.zero_le _, by simp only; omega, rfl⟩ ?_
    rintro gk ⟨i, s⟩ w' ⟨rfl, hgk, hi, hlt0, hf⟩
    simp only at hgk hi hlt0 hf ⊢
    refine go ?_
    refine C.cond_dec (p := (i : Int) < n) rfl (fun hlt => ?_) (fun hlt => ?_)
    rotate_left
    · refine go ?_
      have e : l.drop i = [] := List.drop_eq_nil_of_le (by omega)
      rw [e] at hf
      exact A.mt s ⟨rfl, hf⟩
    · have hin : i < l.length := by omega
      rw [List.drop_eq_getElem_cons hin, List.foldl_cons] at hf
      refine gob ?_
      refine C.block ?_
      refine gob ?_
      refine C.cutQ (fun s' : Nat => [(0, .slice a n c), (3, .int .u32 s'), (4, .int .i64 i)]) (fun s' w2 => w2 = w' ∧ s' = rbk l[i].toNat 8 s) ?_ ?_
      · refine C.block ?_
        refine C.lp (fun k : Nat => [(0, .slice a n c), (3, .int .u32 (rbk l[i].toNat k s : Nat)), (4, .int .i64 i), (5, .int .i64 k)])
          (fun gk k w2 => w2 = w' ∧ gk = 8 - k ∧ k ≤ 8) 8 0 ⟨rfl, rfl, by omega⟩ ?_
        rintro gk2 k w2 ⟨rfl, hgk2, hk⟩
        have hs1 := rbk_lt (b := l[i].toNat) hlt0 k
        have hb := l[i].toNat_lt
        have hdiv : l[i].toNat / 2 ^ k ≤ 255 := Nat.le_trans (Nat.div_le_self _ _) (by omega)
        refine go ?_
        refine C.cond_dec (p := (k : Int) < 8) rfl (fun hlt => ?_) (fun hlt => ?_)
        rotate_left
        · refine go ?_
          have : k = 8 := by omega
          subst this
          exact A.mt (rbk l[i].toNat 8 s) ⟨rfl, rfl⟩
        · refine go ?_
          refine E.ixr el_u8 hp i (bs_get hin) ?_
          intro b6 o6 hc6
          refine go ?_
          have hmod : l[i].toNat / 2 ^ k % 4294967296 = l[i].toNat / 2 ^ k := Nat.mod_eq_of_lt (Nat.lt_of_le_of_lt hdiv (by decide))
          rw [hmod]
          have htop : rbk l[i].toNat k s / 2 ^ 31 < 4294967296 := by omega
          have h0 : rbk l[i].toNat (k + 1) s = rbit (rbk l[i].toNat k s) ((l[i].toNat / 2 ^ k) &&& 1) := rfl
          by_cases hbt : (l[i].toNat / 2 ^ k) &&& 1 = rbk l[i].toNat k s / 2 ^ 31
          · have hd : decide ((((l[i].toNat / 2 ^ k) &&& 1 : Nat) : Int) = ((rbk l[i].toNat k s / 2 ^ 31 : Nat) : Int)) = true := by simp only [decide_eq_true_eq, Int.natCast_inj]; exact hbt
            refine C.cond rfl (fun h => by rw [hd] at h; cases h) (fun _ => ?_)
            rw [rbit, if_pos hbt] at h0
            refine go ?_
            refine A.rd (8 - (k + 1)) (k + 1) ⟨rfl, rfl, by omega⟩ (hw := by rw [h0]; exact wk_)
          · have hd : decide ((((l[i].toNat / 2 ^ k) &&& 1 : Nat) : Int) = ((rbk l[i].toNat k s / 2 ^ 31 : Nat) : Int)) = false := by simp only [decide_eq_false_iff_not, Int.natCast_inj]; exact hbt
            refine C.cond rfl (fun _ => ?_) (fun h => by rw [hd] at h; cases h)
            rw [rbit, if_neg hbt] at h0
            have hm : rbk l[i].toNat k s * 2 ^ 1 % 2 ^ 32 < 4294967296 := by omega
            refine go ?_
            refine A.rd (8 - (k + 1)) (k + 1) ⟨rfl, rfl, by omega⟩ (hw := by rw [h0]; exact wk_)
      · rintro s' w2 ⟨rfl, rfl⟩
        refine go ?_
        exact A.rd (n - (i + 1)) (i + 1, rbk l[i].toNat 8 s) ⟨rfl, rfl, by simp only; omega, rbk_lt hlt0 8, hf⟩
  · rintro s w' ⟨rfl, rfl⟩
    have hrl := rfold_lt l
    refine gob ?_
    have hx : (2 ^ 32 - 1) ^^^ rfold l < 4294967296 := Nat.xor_lt_two_pow (n := 32) (by decide) hrl
    have ex : 2 ^ IntKind.u32.bits - 1 ^^^ rfold l = (2 ^ 32 - 1) ^^^ rfold l := rfl
    refine C.cutQ (fun _ : Unit => [(8, .int .u32 (rsum l : Nat))]) (fun _ w2 => w2 = w') ?_ ?_
    · rw [show rsum l = rvk ((2 ^ 32 - 1) ^^^ rfold l) 32 from rfl]
      refine C.block ?_
      refine C.lp (fun k : Nat => [(3, .int .u32 ((2 ^ 32 - 1) ^^^ rfold l : Nat)), (8, .int .u32 (rvk ((2 ^ 32 - 1) ^^^ rfold l) k : Nat)), (9, .int .i64 k)])
        (fun gk k w2 => w2 = w' ∧ gk = 32 - k ∧ k ≤ 32) 32 0 ⟨rfl, rfl, by omega⟩ ?_
      generalize (2 ^ 32 - 1) ^^^ rfold l = z at hx
      rintro gk2 k w2 ⟨rfl, hgk2, hk⟩
      have hz1 := rvk_lt z k
      have hz2 : z / 2 ^ k < 4294967296 := Nat.lt_of_le_of_lt (Nat.div_le_self _ _) hx
      have hz3 : rvk z k * 2 ^ 1 % 2 ^ 32 < 4294967296 := Nat.mod_lt _ (by decide)
      refine go ?_
      refine C.cond_dec (p := (k : Int) < 32) rfl (fun hlt => ?_) (fun hlt => ?_)
      · refine go ?_
        exact A.rd (32 - (k + 1)) (k + 1) ⟨rfl, rfl, by omega⟩
      · have : k = 32 := by omega
        subst this
        refine go ?_
        exact A.mt () rfl
    · rintro _ w2 rfl
      refine go ?_
      refine A.r1 ?_
      exact HR.out

/-! The two sums are one. -/
/-- Bits turned around. -/
def Rv (s r : Nat) : Prop := s < 4294967296 ∧ r < 4294967296 ∧ ∀ j, j < 32 → r.testBit j = s.testBit (31 - j)
theorem rv_poly : Rv 2197175160 517762881 := by
  refine ⟨by decide, by decide, ?_⟩
  have : ∀ j : Fin 32, Nat.testBit 517762881 j.val = Nat.testBit 2197175160 (31 - j.val) := by decide +kernel
  exact fun j hj => this ⟨j, hj⟩
theorem Rv.xor {s r s' r' : Nat} (h : Rv s r) (h' : Rv s' r') : Rv (s ^^^ s') (r ^^^ r') :=
  ⟨Nat.xor_lt_two_pow (n := 32) h.1 h'.1, Nat.xor_lt_two_pow (n := 32) h.2.1 h'.2.1, fun j hj => by rw [Nat.testBit_xor, Nat.testBit_xor, h.2.2 j hj, h'.2.2 j hj]⟩
theorem Rv.shift {s r : Nat} (h : Rv s r) : Rv (s / 2 ^ 1) (r * 2 ^ 1 % 2 ^ 32) := by
  obtain ⟨h1, h2, h3⟩ := h
  refine ⟨by omega, Nat.mod_lt _ (by decide), fun j hj => ?_⟩
  rw [Nat.testBit_mod_two_pow, Nat.testBit_mul_two_pow, Nat.testBit_div_two_pow]
  rcases Nat.eq_zero_or_pos j with rfl | hp
  · have : s.testBit (31 - 0 + 1) = false := Nat.testBit_lt_two_pow (by simpa using h1)
    rw [this]; simp
  · rw [show 31 - j + 1 = 31 - (j - 1) by omega, ← h3 (j - 1) (by omega)]
    have : 1 ≤ j := hp
    simp [hj, this]
theorem Rv.top {s r : Nat} (h : Rv s r) : r / 2 ^ 31 = s &&& 1 := by
  obtain ⟨h1, h2, h3⟩ := h
  have h0 := h3 31 (by decide)
  have e1 : r / 2 ^ 31 = (r.testBit 31).toNat := by
    rw [Nat.testBit_eq_decide_div_mod_eq]
    have : r / 2 ^ 31 < 2 := by omega
    rcases (show r / 2 ^ 31 = 0 ∨ r / 2 ^ 31 = 1 by omega) with h | h <;> rw [h] <;> rfl
  have e2 : s &&& 1 = (s.testBit 0).toNat := by
    rw [Nat.testBit_eq_decide_div_mod_eq, Nat.and_one_is_mod]
    rcases Nat.mod_two_eq_zero_or_one s with h | h <;> simp [h]
  rw [e1, e2, h0]
theorem crcBit_if (s : Nat) : crcBit s = if s &&& 1 = 1 then (s / 2 ^ 1) ^^^ 2197175160 else s / 2 ^ 1 := by
  unfold crcBit
  rcases (show s &&& 1 = 0 ∨ s &&& 1 = 1 by rw [Nat.and_one_is_mod]; omega) with h | h <;> simp [h]
/-- One bit: the byte's bit meets the lowest one here, the highest one there. -/
theorem rv_step {s r c : Nat} (h : Rv s r) (hc : c = 0 ∨ c = 1) : Rv (if (s &&& 1) ^^^ c = 1 then (s / 2 ^ 1) ^^^ 2197175160 else s / 2 ^ 1) (rbit r c) := by
  have ht := h.top
  unfold rbit
  rw [ht]
  have hs : s &&& 1 = 0 ∨ s &&& 1 = 1 := by rw [Nat.and_one_is_mod]; omega
  rcases hs with hs | hs <;> rcases hc with rfl | rfl <;> rw [hs] <;> simp only [Nat.reduceXor, Nat.zero_ne_one, Nat.one_ne_zero, if_true, if_false, Nat.xor_self, Nat.xor_zero, Nat.zero_xor]
  · exact h.shift
  · exact h.shift.xor rv_poly
  · exact h.shift.xor rv_poly
  · exact h.shift
/-- A byte, bit by bit. -/
def sbk (b : Nat) : Nat → Nat → Nat
  | 0, s => s
  | k + 1, s => if (sbk b k s &&& 1) ^^^ ((b / 2 ^ k) &&& 1) = 1 then (sbk b k s / 2 ^ 1) ^^^ 2197175160 else sbk b k s / 2 ^ 1
theorem rv_sbk {s r b : Nat} (h : Rv s r) : ∀ k, Rv (sbk b k s) (rbk b k r)
  | 0 => h
  | k + 1 => rv_step (rv_sbk h k) (by rw [Nat.and_one_is_mod]; omega)
theorem crcN_succ : ∀ (k s : Nat), crcN (k + 1) s = crcBit (crcN k s)
  | 0, _ => rfl
  | k + 1, s => by
    show crcN (k + 1) (crcBit s) = crcBit (crcN k (crcBit s))
    exact crcN_succ k (crcBit s)
theorem and_xor_one (a b : Nat) : (a ^^^ b) &&& 1 = (a &&& 1) ^^^ (b &&& 1) := by
  apply Nat.eq_of_testBit_eq
  intro i
  simp only [Nat.testBit_and, Nat.testBit_xor]
  cases a.testBit i <;> cases b.testBit i <;> cases Nat.testBit 1 i <;> rfl
theorem xor_div (a b k : Nat) : (a ^^^ b) / 2 ^ k = (a / 2 ^ k) ^^^ (b / 2 ^ k) := by
  apply Nat.eq_of_testBit_eq
  intro i
  simp only [Nat.testBit_div_two_pow, Nat.testBit_xor]
theorem crcN_sbk (b s : Nat) : ∀ k, crcN k (s ^^^ b) = sbk b k s ^^^ (b / 2 ^ k)
  | 0 => by simp [crcN, sbk]
  | k + 1 => by
    rw [crcN_succ, crcN_sbk b s k, crcBit_if, and_xor_one, xor_div, Nat.div_div_eq_div_mul, ← Nat.pow_add]
    simp only [sbk]
    split
    · rw [Nat.xor_assoc, Nat.xor_assoc, Nat.xor_comm (b / 2 ^ (k + 1))]
    · rfl
theorem crcByte_sbk (s : Nat) (b : UInt8) : crcByte s b = sbk b.toNat 8 s := by
  have hb := b.toNat_lt
  unfold crcByte
  rw [crcN_sbk, Nat.div_eq_of_lt (by omega), Nat.xor_zero]
theorem rv_fold : ∀ (l : List UInt8) (s r : Nat), Rv s r → Rv (l.foldl crcByte s) (l.foldl (fun s b => rbk b.toNat 8 s) r)
  | [], _, _, h => h
  | b :: l, s, r, h => by
    simp only [List.foldl_cons]
    rw [crcByte_sbk]
    exact rv_fold l _ _ (rv_sbk h 8)
theorem rv_ones : Rv 4294967295 4294967295 := by
  refine ⟨by decide, by decide, ?_⟩
  have : ∀ j : Fin 32, Nat.testBit 4294967295 j.val = Nat.testBit 4294967295 (31 - j.val) := by decide +kernel
  exact fun j hj => this ⟨j, hj⟩
theorem rvk_bit (s : Nat) : ∀ k, k ≤ 32 → ∀ j, (rvk s k).testBit j = (decide (j < k) && s.testBit (k - 1 - j))
  | 0, _, j => by simp [rvk]
  | k + 1, hk, j => by
    have e1 : ((s / 2 ^ k) &&& 1).testBit j = (decide (j = 0) && s.testBit k) := by
      rw [Nat.testBit_and, Nat.testBit_div_two_pow]
      rcases Nat.eq_zero_or_pos j with rfl | hp
      · simp
      · have : Nat.testBit 1 j = false := by
          rw [show (1 : Nat) = 2 ^ 0 from rfl, Nat.testBit_two_pow]; simp; omega
        rw [this]
        have : ¬ j = 0 := by omega
        simp [this]
    have e2 : (rvk s k * 2 ^ 1 % 2 ^ 32).testBit j = (decide (1 ≤ j ∧ j < k + 1) && s.testBit (k - j)) := by
      rw [Nat.testBit_mod_two_pow, Nat.testBit_mul_two_pow]
      by_cases h1 : 1 ≤ j
      · rw [rvk_bit s k (by omega) (j - 1)]
        by_cases h2 : j < k + 1
        · have h3 : j - 1 < k := by omega
          have h4 : j < 32 := by omega
          simp [h1, h2, h3, h4]
          congr 1
          omega
        · have h3 : ¬ j - 1 < k := by omega
          simp [h2, h3]
      · simp [h1]
    simp only [rvk, Nat.testBit_or, e1, e2]
    rcases Nat.eq_zero_or_pos j with rfl | hp
    · simp
    · have h0 : ¬ j = 0 := by omega
      have h1 : 1 ≤ j := hp
      simp [h0, h1, show k + 1 - 1 - j = k - j by omega]
theorem rsum_crc (l : List UInt8) : rsum l = crc l := by
  have h := rv_fold l _ _ rv_ones
  have h2 := Rv.xor rv_ones h
  apply Nat.eq_of_testBit_eq
  intro j
  unfold rsum
  rw [rvk_bit _ 32 (Nat.le_refl _) j]
  by_cases hj : j < 32
  · have := h2.2.2 (31 - j) (by omega)
    rw [show 31 - (31 - j) = j by omega] at this
    simp only [hj, decide_true, Bool.true_and]
    exact this
  · have : (crc l).testBit j = false := Nat.testBit_lt_two_pow (Nat.lt_of_lt_of_le (crc_lt l) (Nat.le_trans (by decide) (Nat.pow_le_pow_right (by decide) (show 32 ≤ j by omega))))
    simp [hj, this]

set_option maxHeartbeats 1600000 in
set_option maxRecDepth 100000 in
theorem rwrap_any {R : Ending → World → Prop} {W w : World} {g : Hl} {H : List HP} {a : Option Addr} {n c : Nat} {t : List UInt8} (hs : Sat W w g H) (hp : Pr 1 g (.slice a n c) n (bs t)) (ht : t.length = n) (hm : n ≤ 1000000000)
    (hR : ∀ a' c' w', Sat W w' g (own 5 1 (.slice a' (wrapB t).length c') (wrapB t).length (bs (wrapB t)) :: H) → R (.returned (.slice a' (wrapB t).length c')) w') :
    Calls Tryz.prog 22 #[.slice a n c] w R := by
  have HR := Lib.hid hR
  clear hR
  refine C.calls (args := [.slice a n c]) Tryz.func22 rfl rfl rfl ?_
  refine go ?_
  refine E.callf Tryz.func95 rfl ?_
  refine ?_
  refine C.calls (args := [.slice none 0 0, .slice a n c]) Tryz.func95 rfl rfl rfl ?_
  refine go ?_
  refine E.callf Tryz.func97 rfl ?_
  refine rlay_any (xs := []) (D := fun _ => True) hs (fun w' _ => Row.nil _ _) rfl (by decide) (by omega) ?_
  intro a1 c1 w1 hs
  simp only [List.nil_append] at hs ⊢
  have hten := layN_ten (n := n) (by omega)
  refine go ?_
  refine E.app el_u8 hs (hp.row hs) ?_
  intro a2 c2 w2 _ _ hs
  refine go ?_
  refine A.r1 ?_
  have e1 : bs (layN n) ++ bs t = bs (textB t) := by rw [← bs_append, textB, ht]
  have e2 : (layN n).length + n = (textB t).length := by rw [textB, List.length_append, ht]
  rw [e1, e2] at hs
  rw [e2]
  refine go ?_
  have hrow : Row 1 w2 (fun _ => True) (.slice a2 (textB t).length c2) (textB t).length (bs (textB t)) := Row.of_owns hs.owns (fun _ _ => trivial)
  refine E.callf Tryz.func96 rfl ?_
  refine rsum_any hrow rfl ?_
  rw [rsum_crc]
  have hc := crc_lt (textB t)
  generalize hcc : crc (textB t) = q at hc ⊢
  refine go ?_
  refine E.bsl hs ?_
  intro b3 w3 hs
  have htl := textB_len t (by omega)
  refine E.app el_u8 hs.swap (hs.rowOf (size := 1) 4 rfl (by decide)) ?_ (h1 := ?_)
  rotate_left
  · intro u hu
    simp only [List.mem_cons, List.not_mem_nil, or_false] at hu
    rcases hu with rfl | rfl | rfl | rfl <;> exact rfl
  intro a4 c4 w4 _ _ hs
  refine go ?_
  refine A.r1 ?_
  have key := HR.out a4 c4 w4
  have e3 : bs (wrapB t) = bs (textB t) ++ [.int .u8 ((q : Int) / 16777216), .int .u8 ((q : Int) / 65536 % 256), .int .u8 ((q : Int) / 256 % 256), .int .u8 ((q : Int) % 256)] := by
    rw [wrapB, hcc, bs_append, fourB]
    simp only [bs, List.map_cons, List.map_nil, UInt8.toNat_ofNat', List.append_cancel_left_eq, List.cons.injEq, Value.int.injEq, true_and, and_true]
    omega
  have e4 : (wrapB t).length = (textB t).length + 4 := by rw [wrapB, List.length_append, fourB]; rfl
  rw [e3, e4] at key
  exact key hs.swap.drop
end Go.Proofs.YtdkbpcibmipelaaGreatDoor

/-
  SegmentFills, walked.
-/
namespace Go.Proofs.YtdkbpcibmipelaaGreatDoor
open Go.RowKit
set_option linter.unusedVariables false
set_option linter.unusedSimpArgs false

set_option maxHeartbeats 6400000 in
set_option maxRecDepth 100000 in
theorem segFills_any {R : Ending → World → Prop} {W w : World} {g : Hl} {H : List HP} {wb fst n c : Nat} {a : Option Addr} {ps : List (Nat × Nat)} (hg : Gl g) (hwb : wb < 256) (hfst : fst < 18446744073709551616) (hp : Pr 2 g (.slice a n c) n (putC ps)) (hn : ps.length = n) (hps : ∀ p ∈ ps, p.1 < 256 ∧ p.2 < 256) (hs : Sat W w g H)
    (hR : ∀ w' g', Hl.le g g' → Sat W w' g' H → R (.returned (.bool true)) w') :
    Calls Tryz.prog 3 #[.int .u8 wb, .int .u64 fst, .slice a n c] w R := by
  have HR := Lib.hid hR
  clear hR
  have ag1 := ag_sg
  have ag3 := ag_title
  refine C.calls (args := [.int .u8 wb, .int .u64 fst, .slice a n c]) Tryz.func3 rfl rfl rfl ?_
  refine go ?_
  refine E.callf Tryz.func15 rfl ?_
  refine awake8_any hg hs ?_
  intro w1 hs
  refine go ?_
  cases h30 : decide ((30 : Int) < n) with
  | true =>
    refine go ?_
    refine E.callf Tryz.func15 rfl ?_
    refine awake8_any hg hs ?_
    intro w2 hs
    refine go ?_
    refine A.r1 ?_
    exact HR.out _ _ (Hl.le_refl _) hs
  | false =>
  have h30 := of_decide_eq_false h30
  refine go ?_
  have e1 : IntKind.i64.wrap ((wb : Int).tmod 64) = ((wb % 64 : Nat) : Int) := by
    rw [show (wb : Int).tmod 64 = ((wb % 64 : Nat) : Int) from (Int.ofNat_tmod wb 64).symm]
    exact wrap64_id (by omega) (by omega)
  rw [e1]
  clear e1
  have hi : wb % 64 < 64 := Nat.mod_lt _ (by decide)
  have hf0 : 1 ≤ 1 + fst % 1152921504606846976 := by omega
  have hf : 1 + fst % 1152921504606846976 ≤ 2000000000000000000 := by omega
  generalize wb % 64 = i at hi
  generalize 1 + fst % 1152921504606846976 = f at hf0 hf
  refine E.callf Tryz.func16 rfl ?_
  refine new_any (by omega) hs ?_
  intro b w2 hs
  refine go ?_
  refine E.callf Tryz.func17 rfl ?_
  refine fill8_any (i := i) (f := f) hg hi hf0 hf hp hn (by omega) hps ⟨rfl, by simp⟩ rfl rfl hs ?_
  intro s d w3 g3 hg3 hfull hs
  refine go ?_
  refine E.al hs ?_
  intro b9 w4 hs
  refine E.sto (vs := s.cs) (ys := s.cs) hs ?_ (hv := rfl) (hsp := rfl)
  intro w5 hs
  refine go ?_
  refine E.callf Tryz.func18 rfl ?_
  refine segName_any (hg.mono hg3) (by omega) (by omega) hs ?_
  intro w6 hs
  refine go ?_
  obtain ⟨q, hfsd⟩ := hfull.fs
  have hrd : d.read (nameB i f) = .ok (fileP ps i f n) := hfull.calm.read (f := ⟨fileP ps i f n, q⟩) (by rw [hfsd]; simp [aget])
  obtain ⟨hop, hmd⟩ := hfull.opn hi hf0 hf (by omega)
  refine E.callf Tryz.func19 rfl ?_
  refine read_any hs.swap ?_ ?_
  rotate_left
  · intro e w7 h
    rw [hrd] at h; cases h
  intro p pa pc w7 g7 hrp hpl hg7 hpp hs
  rw [hrd] at hrp
  obtain rfl : fileP ps i f n = p := by simpa using hrp
  clear hrp
  refine go ?_
  refine E.callf Tryz.func20 rfl ?_
  refine sgOpen_any (i := i) (n := f) (hg.mono (hg3.trans hg7)) hi (by omega) ?_ hs ?_ ?_
  · intro sh h
    rw [hmd] at h
    cases h
    refine ⟨?_, by simp [evL]; omega⟩
    intro x hx
    obtain ⟨e, he, rfl⟩ := List.mem_map.1 hx
    obtain ⟨k, hk, rfl⟩ := List.mem_map.1 he
    have := evK_len (ps := ps) hi hf (k := k) (by have := List.mem_range.1 hk; omega)
    omega
  · intro e w8 g8 _ h
    rw [hop] at h; cases h
  intro x sz er w8 g8 hg8 hox hxo hxr hs
  rw [hop] at hox hs
  simp only [Except.ok.injEq, Prod.mk.injEq] at hox
  obtain ⟨hox1, rfl, rfl⟩ := hox
  refine go ?_
  refine E.al hs ?_
  intro b14 w9 hs
  refine E.sto (vs := [.int .i64 i, .int .u64 f, .slice x.a x.es.length x.c, .int .i64 (fileP ps i f n).length]) (ys := [.int .i64 i, .int .u64 f, .slice x.a x.es.length x.c, .int .i64 (fileP ps i f n).length]) hs ?_ (hv := rfl) (hsp := rfl)
  intro w10 hs
  have hto : Ti.ok ⟨115, i, f⟩ := ⟨by simp only; omega, by simp only; omega⟩
  refine go ?_
  refine E.callf Tryz.func21 rfl ?_
  refine head_any (t := ⟨115, i, f⟩) hs hto ?_
  intro ah ch w11 g11 hg11 hs
  have hs0 := hs
  clear hs
  have hzero : fileP ps i f 0 = headB ⟨115, i, f⟩ := by simp [fileP, evL, catB]
  rw [← hzero] at hs0 ⊢
  clear hzero
  refine gob ?_
  refine C.cut (fun q : Option Addr × Nat => [(1, .int .u64 f), (2, .slice a n c), (7, .int .i64 i), (9, ptr b9), (12, .slice pa (fileP ps i f n).length pc), (14, ptr b14), (15, .int .i64 0), (16, .slice q.1 (fileP ps i f n).length q.2)]) (fun q w => ∃ g', Hl.le g8 g' ∧ Sat W w g' (own 5 1 (.slice q.1 (fileP ps i f n).length q.2) (fileP ps i f n).length (bs (fileP ps i f n)) :: blk b14 [.int .i64 i, .int .u64 f, .slice x.a x.es.length x.c, .int .i64 (fileP ps i f n).length] 29 :: disk b d :: blk b9 s.cs 29 :: H)) ?_ ?_
  · refine C.block ?_
    refine C.lp (fun q : Nat × Option Addr × Nat => [(1, .int .u64 f), (2, .slice a n c), (7, .int .i64 i), (9, ptr b9), (12, .slice pa (fileP ps i f n).length pc), (14, ptr b14), (15, .int .i64 0), (16, .slice q.2.1 (fileP ps i f q.1).length q.2.2), (17, .int .i64 q.1)])
      (fun gk q w => gk = n - q.1 ∧ q.1 ≤ n ∧ ∃ g', Hl.le g8 g' ∧ Sat W w g' (own 5 1 (.slice q.2.1 (fileP ps i f q.1).length q.2.2) (fileP ps i f q.1).length (bs (fileP ps i f q.1)) :: blk b14 [.int .i64 i, .int .u64 f, .slice x.a x.es.length x.c, .int .i64 (fileP ps i f n).length] 29 :: disk b d :: blk b9 s.cs 29 :: H)) n (0, ah, ch) ⟨rfl, Nat.zero_le _, g11, hg11, hs0⟩ ?_
    clear hs0
    rintro gk ⟨j, a4, c4⟩ w12 ⟨rfl, hj, g12, hg12, hs⟩
    simp only at hj hs ⊢
    refine go ?_
    refine C.cond_dec (p := (j : Int) < n) rfl (fun h => ?_) (fun h => ?_)
    rotate_left
    · obtain rfl : j = n := by omega
      refine go ?_
      exact A.mt (a4, c4) ⟨g12, hg12, hs⟩
    have hjn : j < n := by omega
    have hps' := hps (ps[j]'(by omega)) (List.getElem_mem _)
    have hgd : ps.getD j (0, 0) = ps[j]'(by omega) := by simp [List.getD_eq_getElem?_getD, List.getElem?_eq_getElem (show j < ps.length by omega)]
    rw [← hgd] at hps'
    clear hgd
    have hry := hp.mono (hg3.trans (hg7.trans (hg8.trans hg12)))
    have hfl := fileP_len (ps := ps) hi hf j (by omega)
    have hel := evK_len (ps := ps) hi hf (k := j) (by omega)
    have hwl := wrapB_len (evK ps i f j).enc (by omega)
    refine go ?_
    refine E.ixs el_put hs hry j ?_
    intro b15 o15 hrg
    rw [putC_at (by omega)] at hrg
    refine E.ldr hrg ag_put rfl ?_
    refine go ?_
    refine E.callf Tryz.func24 rfl ?_
    refine event8_any (K := (ps.getD j (0, 0)).1) (T := (ps.getD j (0, 0)).2) (i := i) (sq := f + j) (tm := j + 1) hi hps'.1 hps'.2 (by omega) (by omega) hs ?_
    intro tv w13 g13 hg13 heo hs
    refine go ?_
    refine E.callf Tryz.func23 rfl ?_
    refine rencode_any heo (by simp [evP]) (by simp only [evP]; omega) (fun h => by simp only [evP] at h; omega) hs ?_
    intro a15 c15 w14 g14 hg14 hs
    obtain ⟨g15, hg15, hp15, hs⟩ := hs.publishOwn
    have hp15 : Pr 1 g15 (.slice a15 (evK ps i f j).enc.length c15) (evK ps i f j).enc.length (bs (evK ps i f j).enc) := hp15
    refine go ?_
    refine E.callf Tryz.func22 rfl ?_
    refine rwrap_any (t := (evK ps i f j).enc) hs hp15 rfl (show (evK ps i f j).enc.length ≤ 1000000000 by omega) ?_
    intro a16 c16 w15 hs
    obtain ⟨g16, hg16, hp16, hs⟩ := hs.publishOwn
    refine go ?_
    apply E.cons
    apply St.append el_u8 hs (hp16.row hs) (bs_one _) (by omega) (by omega)
    · exact rfl
    · exact rfl
    intro a17 c17 w16 _ _ hs
    refine go ?_
    have e1 : (fileP ps i f j).length + (wrapB (evK ps i f j).enc).length = (fileP ps i f (j + 1)).length := by rw [fileP_succ, List.length_append]
    have e2 : bs (fileP ps i f j) ++ bs (wrapB (evK ps i f j).enc) = bs (fileP ps i f (j + 1)) := by rw [fileP_succ]; simp [bs]
    rw [e1, e2] at hs
    rw [e1]
    exact A.rd (n - (j + 1)) (j + 1, a17, c17) ⟨rfl, by simp only; omega, g16, hg12.trans (hg13.trans (hg14.trans (hg15.trans hg16))), hs⟩
  clear hs0
  rintro ⟨a4, c4⟩ w20 ⟨g20, hg20, hs⟩
  simp only at hs ⊢
  refine go ?_
  have hxs := hfull.x
  have hsl := hfull.len
  have hxl : x.es.length = n := by
    have := congrArg List.length hox1
    simp [evL] at this
    exact this.symm
  obtain ⟨g21, hg21, hp21, hs⟩ := hs.publishOwn
  have hraw : s.x.es.map Ev.raw = x.es.map Ev.raw := by rw [hfull.es]; exact hox1
  have hsame : sameE s.x.es x.es = true := by
    have h1 : ∀ e : Ev, e.enc = (e.raw.ev (.slice none 0 0)).enc := fun e => rfl
    have h2 : ∀ l : List Ev, l.map Ev.enc = (l.map Ev.raw).map (fun p => (p.ev (.slice none 0 0)).enc) := fun l => by
      rw [List.map_map]; rfl
    simp only [sameE, decide_eq_true_eq]
    rw [h2, h2 x.es, hraw]
  have hfit : ∀ y : El, y.ok g21 → y.es.map Ev.raw = (evL ps i f n).map Ev.ep → ∀ e ∈ y.es, e.fit := by
    intro y hy hyr e he
    have hm : e.raw ∈ (evL ps i f n).map Ev.ep := by rw [← hyr]; exact List.mem_map_of_mem he
    obtain ⟨e2, he2, heq⟩ := List.mem_map.1 hm
    obtain ⟨k, hk, rfl⟩ := List.mem_map.1 he2
    have hkd : e.kd = 1 + (ps.getD k (0, 0)).1 % 4 := by
      have := congrArg Ep.kd heq
      exact this.symm
    have hlow := (hy.evs e he).2
    exact ⟨hlow.1, by omega, fun h => by omega⟩
  have hxs' := hxs.mono (hg7.trans (hg8.trans (hg20.trans hg21)))
  have hxo' := hxo.mono (hg20.trans hg21)
  refine E.callf Tryz.func25 rfl ?_
  refine sameAll_any (x := s.x) (y := x) hxs' hxo' (hfit _ hxs' hfull.es) (hfit _ hxo' hox1.symm) (by omega) (by omega) hs ?_
  intro w21 g22 hg22 hs
  rw [hsame]
  refine go ?_
  rw [show decide ((s.x.es.length : Int) = n) = true from decide_eq_true (by omega)]
  refine go ?_
  rw [show decide ((s.size : Int) = ((fileP ps i f n).length : Nat)) = true from decide_eq_true (by rw [hfull.size])]
  refine go ?_
  rw [show decide (((fileP ps i f n).length : Int) = ((fileP ps i f n).length : Nat)) = true from decide_eq_true rfl]
  refine go ?_
  refine E.strc (bl := fileP ps i f n) ((hpp.mono (hg8.trans (hg20.trans (hg21.trans hg22)))).row hs) Tryz.underlying33 Tryz.underlying5 Tryz.underlying9 ?_
  refine go ?_
  refine E.strc (bl := fileP ps i f n) ((hp21.mono hg22).row hs) Tryz.underlying33 Tryz.underlying5 Tryz.underlying9 ?_
  refine go ?_
  rw [show decide (fileP ps i f n = fileP ps i f n) = true from decide_eq_true rfl]
  refine go ?_
  refine E.callf Tryz.func26 rfl ?_
  refine sgNext_any (s := s) (by rw [hfull.first]; omega) (by omega) hs ?_
  intro w22 hs
  have hnx : s.next = f + n := by
    simp only [Sg.next, hfull.first, hsl]; omega
  rw [hnx]
  refine go ?_
  rw [show decide (((f + n : Nat) : Int) = ((f + n : Nat) : Int)) = true from decide_eq_true rfl]
  refine go ?_
  rw [show decide ((f : Int) = (f : Int)) = true from decide_eq_true rfl]
  refine go ?_
  rw [show decide ((i : Int) = (i : Int)) = true from decide_eq_true rfl]
  refine A.r1 ?_
  exact HR.out _ g22 (hg3.trans (hg7.trans (hg8.trans (hg20.trans (hg21.trans hg22))))) hs.drop.drop.drop
end Go.Proofs.YtdkbpcibmipelaaGreatDoor

/-
  What came in: bytes, rows of bytes; and how much it is.
-/
namespace Go.Proofs.YtdkbpcibmipelaaGreatDoor
open Go.RowKit Go.ChangeShapes Go.WideShapes
set_option linter.unusedVariables false
set_option linter.unusedSimpArgs false

theorem bulk_one {H : Type} (d : DataW H) : 1 ≤ Rows.uptoBulk d := by
  cases d with
  | lit l => cases l <;> simp [Rows.uptoBulk]
  | nil => simp [Rows.uptoBulk]
  | ptr d => simp [Rows.uptoBulk]
  | slice elems spare => simp [Rows.uptoBulk]
  | agg parts => simp [Rows.uptoBulk]
  | iface t d => simp [Rows.uptoBulk]
  | map entries => simp [Rows.uptoBulk]
  | held h => simp [Rows.uptoBulk]
theorem bulk_all {H : Type} : ∀ (l : List (DataW H)), Rows.uptoBulkAll l = (l.map Rows.uptoBulk).sum
  | [] => by simp [Rows.uptoBulkAll]
  | x :: r => by simp [Rows.uptoBulkAll, bulk_all r]
theorem bulk_slice {H : Type} (a b : List (DataW H)) : Rows.uptoBulk (.slice a b) = (a.map Rows.uptoBulk).sum + (b.map Rows.uptoBulk).sum + 1 := by
  simp only [Rows.uptoBulk, bulk_all]
  try omega
theorem sum_ge {H : Type} (l : List (DataW H)) : l.length ≤ (l.map Rows.uptoBulk).sum := by
  induction l with
  | nil => simp
  | cons x r ih => have := bulk_one x; simp only [List.map_cons, List.sum_cons, List.length_cons]; omega

section
variable {H : Type} {enc : TypeId × Value → H} {P : Program} {w : World} {base : Nat} {held : Bool}
/-- The world's own blocks as a pool. -/
abbrev hp (w : World) : Hl := fun b => w.heap[b]?

theorem in_bytes {t e : TypeId} {fuel : Nat} {cs : List Value} {x : DataW H × List MemPlace} (ht : P.underlying t = some (.slice e)) (he : P.underlying e = some (.int .u8)) (hc : P.cellsOf e = 1)
    (h : DataW.trod enc P w base (fun _ => true) held fuel t cs = some x) : ∃ a n c, ∃ l : List UInt8, cs = [.slice a n c] ∧ l.length = n ∧ Pr 1 (hp w) (.slice a n c) n (bs l) ∧ l.length + 1 ≤ Rows.uptoBulk x.1 := by
  rcases open_ints ht he hc h with ⟨rfl, rfl⟩ | ⟨a, len, cap, zs, rfl, _, hl, hm, hz, rfl, hcell, hw⟩
  · exact ⟨none, 0, 0, [], rfl, rfl, Pr.nil, by simp [Rows.uptoBulk]⟩
  · simp only [if_true] at hz
    obtain ⟨l, h1, h2⟩ := pr_bytes (w := w) (a := some a) (len := len) (cap := cap) (zs := zs) (.inr ⟨a, rfl, hl, hm, hz, hcell, hw⟩)
    refine ⟨some a, len, cap, l, rfl, h1, h2, ?_⟩
    rw [bulk_slice]
    have := sum_ge (H := H) (lits .u8 (zs.take len))
    have hlen : (lits (H := H) .u8 (zs.take len)).length = len := by simp [lits, hz]; omega
    omega

theorem pr_cells {x : Addr} {len cap : Nat} {xs : List Value} (hl : len ≤ cap) (hm : cap ≤ maxLen) (hx : xs.length = len) (hc : ∀ i, i < len → w.cell? (x.add i) = xs[i]?) : Pr 1 (hp w) (.slice (some x) len cap) len xs := by
  refine ⟨by simp [hx], _, cap, rfl, hl, hm, fun e => by simp at e, ?_⟩
  rcases Nat.eq_zero_or_pos len with h0 | h0
  · exact .inl h0
  · obtain ⟨b, o, sp⟩ := x
    have c0 := hc 0 h0
    rw [List.getElem?_eq_getElem (by omega)] at c0
    simp only [Addr.add, if_true] at c0
    have hsp : sp = none := by simpa using World.cell?_spot c0
    subst hsp
    unfold World.cell? at c0
    simp only at c0
    cases hb : w.heap[b]? with
    | none => rw [hb] at c0; simp at c0
    | some ob =>
      cases ob with
      | cells cur e fz =>
        refine .inr ⟨b, o, cur, e, fz, rfl, hb, ?_⟩
        apply List.ext_getElem?
        intro j
        rw [List.getElem?_take, Nat.mul_one]
        by_cases hj : j < len
        · rw [if_pos hj]
          have cj := hc j hj
          rw [Addr.add_lit] at cj
          simp only [World.cell?, hb] at cj
          simp at cj
          rw [List.getElem?_drop, Array.getElem?_toList, cj]
        · rw [if_neg hj, List.getElem?_eq_none (by omega)]
      | _ => rw [hb] at c0; simp at c0

theorem choose_list {α : Type} : ∀ (n : Nat) {Q : Nat → α → Prop}, (∀ i, i < n → ∃ p, Q i p) → ∃ ps : List α, ps.length = n ∧ ∀ i (h : i < ps.length), Q i ps[i]
  | 0, _, _ => ⟨[], rfl, fun i h => by simp at h⟩
  | n + 1, Q, h => by
    obtain ⟨ps, h1, h2⟩ := choose_list n (Q := Q) fun i hi => h i (by omega)
    obtain ⟨p, hp⟩ := h n (by omega)
    refine ⟨ps ++ [p], by simp [h1], fun i hi => ?_⟩
    by_cases hin : i < ps.length
    · rw [List.getElem_append_left hin]; exact h2 i hin
    · have : i = n := by simp at hi; omega
      subst this
      rw [List.getElem_append_right (by omega)]
      simpa [h1] using hp
theorem sum_le_sum {α β : Type} (f : α → Nat) (g : β → Nat) : ∀ (l : List α) (m : List β), l.length = m.length → (∀ i (h : i < l.length) (h' : i < m.length), f l[i] ≤ g m[i]) → (l.map f).sum ≤ (m.map g).sum
  | [], [], _, _ => by simp
  | [], _ :: _, h, _ => by simp at h
  | _ :: _, [], h, _ => by simp at h
  | a :: l, b :: m, h, hi => by
    have h0 := hi 0 (by simp) (by simp)
    have ih := sum_le_sum f g l m (by simpa using h) fun i h1 h2 => by
      have := hi (i + 1) (by simpa using h1) (by simpa using h2)
      simpa using this
    simp only [List.map_cons, List.sum_cons]
    simp only [List.getElem_cons_zero] at h0
    omega
end

end Go.Proofs.YtdkbpcibmipelaaGreatDoor

/-
  What came in, layer 8: the small events.
-/
namespace Go.Proofs.YtdkbpcibmipelaaGreatDoor
open Go.RowKit Go.ChangeShapes Go.WideShapes
set_option linter.unusedVariables false
set_option linter.unusedSimpArgs false
section
variable {H : Type} {enc : TypeId × Value → H} {w : World} {base : Nat} {held : Bool}
theorem pr_cellss {x : Addr} {len cap : Nat} {xs : List Value} (hl : len ≤ cap) (hm : cap ≤ maxLen) {s : Nat} (hs0 : 0 < s) (hx : xs.length = len * s) (hc : ∀ i, i < len * s → w.cell? (x.add i) = xs[i]?) : Pr s (hp w) (.slice (some x) len cap) len xs := by
  refine ⟨hx, _, cap, rfl, hl, hm, fun e => by simp at e, ?_⟩
  rcases Nat.eq_zero_or_pos (len * s) with h0 | h0
  · exact .inl ((Nat.mul_eq_zero.1 h0).resolve_right (by omega))
  · obtain ⟨b, o, sp⟩ := x
    have c0 := hc 0 h0
    rw [List.getElem?_eq_getElem (by omega)] at c0
    simp only [Addr.add, if_true] at c0
    have hsp : sp = none := by simpa using World.cell?_spot c0
    subst hsp
    unfold World.cell? at c0
    simp only at c0
    cases hb : w.heap[b]? with
    | none => rw [hb] at c0; simp at c0
    | some ob =>
      cases ob with
      | cells cur e fz =>
        refine .inr ⟨b, o, cur, e, fz, rfl, hb, ?_⟩
        apply List.ext_getElem?
        intro j
        rw [List.getElem?_take]
        by_cases hj : j < len * s
        · rw [if_pos hj]
          have cj := hc j hj
          rw [Addr.add_lit] at cj
          simp only [World.cell?, hb] at cj
          simp at cj
          rw [List.getElem?_drop, Array.getElem?_toList, cj]
        · rw [if_neg hj, List.getElem?_eq_none (by omega)]
      | _ => rw [hb] at c0; simp at c0

theorem putC_len (ps : List (Nat × Nat)) : (putC ps).length = ps.length * 2 := by
  induction ps with
  | nil => rfl
  | cons p r ih => simp only [putC, List.flatMap_cons, List.length_append, List.length_cons, List.length_nil] at ih ⊢; omega
theorem putC_get {ps : List (Nat × Nat)} {i : Nat} (h : i < ps.length) : (putC ps)[i * 2]? = some (.int .u8 ps[i].1) ∧ (putC ps)[i * 2 + 1]? = some (.int .u8 ps[i].2) := by
  have hg : ps.getD i (0, 0) = ps[i] := by simp [List.getD_eq_getElem?_getD, List.getElem?_eq_getElem h]
  have h1 := putC_at h
  rw [hg] at h1
  have h2 := congrArg (fun l => l[0]?) h1
  have h3 := congrArg (fun l => l[1]?) h1
  simp only [List.getElem?_take, List.getElem?_drop] at h2 h3
  exact ⟨by simpa using h2, by simpa using h3⟩
set_option maxRecDepth 100000 in
theorem in_puts {fuel : Nat} {cs : List Value} {x : DataW H × List MemPlace} (h : DataW.trod enc Tryz.prog w base (fun _ => true) held fuel 23 cs = some x) :
    ∃ a n c ps, cs = [.slice a n c] ∧ ps.length = n ∧ (∀ p ∈ ps, p.1 < 256 ∧ p.2 < 256) ∧ Pr 2 (hp w) (.slice a n c) n (putC ps) := by
  have hc : Program.cellsOf Tryz.prog 49 = 2 := by kernel_rfl
  have hc1 : Program.cellsOf Tryz.prog 5 = 1 := by kernel_rfl
  rcases DataW.trod_slice Tryz.underlying23 h with ⟨rfl, rfl⟩ | ⟨a, len, cap, elems, rest, n, _, rfl, rfl, hb, hl, hm, hlen, hel, hsp, _⟩
  · exact ⟨none, 0, 0, [], rfl, rfl, fun p hp => (by cases hp), Pr.nil⟩
  · have each : ∀ i, i < len → ∃ p : Nat × Nat, (p.1 < 256 ∧ p.2 < 256) ∧ w.cell? ((a.add (i * 2)).add 0) = some (.int .u8 p.1) ∧ w.cell? ((a.add (i * 2)).add 1) = some (.int .u8 p.2) := by
      intro i hi
      have h1 := hel i hi
      rw [hc, List.getElem?_eq_getElem (by omega), Option.bind_eq_some_iff] at h1
      obtain ⟨cs', hcs, hy⟩ := h1
      obtain ⟨_, hl2, hcell⟩ := World.cells?_some hcs
      obtain ⟨y0, y1, m, _, _, g0, g1⟩ := trod_struct2 Tryz.underlying49 hy
      simp only [hc1] at g0 g1
      obtain ⟨k0, e0, _, w0⟩ := DataW.trod_int Tryz.underlying5 g0
      obtain ⟨k1, e1, _, w1⟩ := DataW.trod_int Tryz.underlying5 g1
      simp [Lit.wf, IntKind.min, IntKind.max, IntKind.signed, IntKind.bits] at w0 w1
      match cs', hl2 with
      | [c0, c1], _ =>
        simp at e0 e1
        subst e0 e1
        refine ⟨(k0.toNat, k1.toNat), ⟨by simp only; omega, by simp only; omega⟩, ?_, ?_⟩
        · rw [hcell 0 (by omega)]
          simp only [List.getElem?_cons_zero]
          rw [Int.toNat_of_nonneg w0.1]
        · rw [hcell 1 (by omega)]
          simp only [List.getElem?_cons_succ, List.getElem?_cons_zero]
          rw [Int.toNat_of_nonneg w1.1]
    obtain ⟨ps, h1, h2⟩ := choose_list len each
    refine ⟨some a, len, cap, ps, rfl, h1, fun p hp => ?_, pr_cellss hl hm (by decide) (by rw [putC_len, h1]) fun i hi => ?_⟩
    · obtain ⟨i, hi, rfl⟩ := List.mem_iff_getElem.1 hp
      exact (h2 i hi).1
    · have hlt : i / 2 < ps.length := by omega
      obtain ⟨_, q0, q1⟩ := h2 (i / 2) hlt
      obtain ⟨r0, r1⟩ := putC_get hlt
      rw [Addr.add_add] at q0 q1
      rcases Nat.mod_two_eq_zero_or_one i with hm2 | hm2
      · have e : i = i / 2 * 2 := by omega
        rw [e, r0, ← q0]
        try simp
      · have e : i = i / 2 * 2 + 1 := by omega
        rw [e, r1, ← q1]
        try simp
end
end Go.Proofs.YtdkbpcibmipelaaGreatDoor

/-
  What the laid variables give.
-/
namespace Go.Proofs.YtdkbpcibmipelaaGreatDoor
open Go.RowKit Go.ChangeShapes Go.WideShapes
set_option linter.unusedVariables false
set_option maxRecDepth 100000 in
theorem gl_of {W : World} (h : laidMetH Tryz.prog Rows.segmentFillsRow.laid W) : Gl (hp W) := by
  rw [MakeChecks.laidMetH_plain _ _ _ (by kernel_rfl)] at h
  obtain ⟨ps, ⟨g0, t0, cs0, f0, p0, q0, hg0, ht0, hv0, hd0, ⟨g1, t1, cs1, f1, p1, q1, hg1, ht1, hv1, hd1, _⟩, _⟩, _, _⟩ := h
  clear hd0 hv0 ht0 hg0
  have gN : Program.globalNamed Tryz.prog "math/bits.deBruijn64tab" = some 6 := by kernel_rfl
  have tN : (Tryz.prog.globals[6]?).map (·.type) = some 371 := by kernel_rfl
  obtain rfl := Option.some.inj (gN.symm.trans hg1)
  obtain rfl := Option.some.inj (tN.symm.trans ht1)
  obtain ⟨xs, m1, rfl, hx1, hlen, hn3, hel⟩ := DataW.trod_array Tryz.underlying371 hd1
  have h15 := hel 15 (by decide)
  have hc1 : Program.cellsOf Tryz.prog 5 = 1 := by kernel_rfl
  rw [hc1, List.getElem?_eq_getElem (by omega)] at h15
  obtain ⟨k, e1, e2, _⟩ := DataW.trod_int Tryz.underlying5 h15
  have hy : (xs[15]'(by omega)).1 = DataW.lit (.int .u8 4) := by
    have h1 := congrArg (fun d : DataW Unit => match d with | .agg l => l[15]? | _ => none) (congrArg Prod.fst hx1)
    simp only [List.getElem?_map, List.getElem?_eq_getElem (show 15 < xs.length by omega), Option.map_some] at h1
    exact (Option.some.inj (h1.symm.trans rfl))
  have hk : k = 4 := by
    rw [e2] at hy
    simpa using hy
  subst hk
  refine ⟨GlC.of ?_⟩
  rw [World.var?_cell hg1 hv1 15]
  have h2 := congrArg (fun l => l[0]?) e1
  simp only [List.getElem?_take, List.getElem?_drop] at h2
  simpa using h2
end Go.Proofs.YtdkbpcibmipelaaGreatDoor

/-
  Words that are no numbers: the kit's contracts, in the engine's words.
-/
namespace Go.Proofs.YtdkbpcibmipelaaGreatDoor
open Go.RowKit Go.ChangeShapes Go.WideShapes
set_option linter.unusedVariables false
set_option linter.unusedSimpArgs false

/-- What the calls lean on where a word is no number: the error's variable too. -/
structure GlE (g : Hl) : Prop where
  gl : Gl g
  es : ∃ t p, GlC g 3 0 (.iface t p)
theorem GlE.mono {g g' : Hl} (h : GlE g) (hg : Hl.le g g') : GlE g' := ⟨h.gl.mono hg, by
  obtain ⟨t, p, h1⟩ := h.es
  exact ⟨t, p, h1.mono hg⟩⟩
theorem Sat.under {W w w' : World} {g : Hl} {H : List HP} (hs : Sat W w g H) (hb : Below w.heap.size w w') : Sat W w' g H :=
  (hs.newOwn (E := 5) (size := 1) (World.ownsRow_nil w' _ _ _) hb).drop

theorem es_of {W : World} (h : laidMetH Tryz.prog Rows.segmentStrangeRow.laid W) : ∃ t p, GlC (hp W) 3 0 (.iface t p) := by
  rw [MakeChecks.laidMetH_plain _ _ _ (by kernel_rfl)] at h
  have h5 := h.tail.tail.tail.tail
  have gN : Program.globalNamed Tryz.prog "strconv.ErrSyntax" = some 3 := by kernel_rfl
  have tN : (Tryz.prog.globals[3]?).map (·.type) = some 224 := by kernel_rfl
  obtain ⟨ps, ⟨g0, t0, cs0, f0, p0, q0, hg0, ht0, hv0, hd0, _⟩, _, _⟩ := h5
  obtain rfl := Option.some.inj (gN.symm.trans hg0)
  obtain rfl := Option.some.inj (tN.symm.trans ht0)
  obtain ⟨l0⟩ := cs0
  obtain ⟨f1, u, v, e, _, _⟩ := iface_of_trod Tryz.underlying224 hd0
  obtain rfl : l0 = [.iface u v] := e
  refine ⟨u, v, GlC.of ?_⟩
  have := World.var?_cell gN hv0 0
  simpa using this
theorem gle_of {W : World} (h : laidMetH Tryz.prog Rows.segmentStrangeRow.laid W) : GlE (hp W) := ⟨gl_of h, es_of h⟩

/-- "x" is no number. -/
theorem atoi_x {R : Ending → World → Prop} {W w : World} {g : Hl} {H : List HP} (hg : GlE g) (hs : Sat W w g H)
    (hR : ∀ t p w', Sat W w' g H → R (.returned (.tuple #[.int .i64 0, .iface t p])) w') : Calls Tryz.prog 164 #[str [120]] w R := by
  obtain ⟨t, p, hc⟩ := hg.es
  have key := Any.strconv_Atoi_syntax Tryz.lay172 ⟨#[120]⟩ (by decide) (by decide) (.iface t p) w (hc.at hs) (.inr ⟨t, p, rfl⟩)
  refine Calls.mono key fun e w' ⟨N, he, _, _, hb⟩ => ?_
  subst he
  exact hR _ _ _ (hs.under hb)
set_option maxHeartbeats 1600000 in
set_option maxRecDepth 100000 in
/-- Nor is "". -/
theorem parseUint_nil {R : Ending → World → Prop} {W w : World} {g : Hl} {H : List HP} (hg : GlE g) (hs : Sat W w g H)
    (hR : ∀ t p w', Sat W w' g H → R (.returned (.tuple #[.int .u64 0, .iface t p])) w') : Calls Tryz.prog 165 #[str [], .int .i64 16, .int .i64 64] w R := by
  have HR := Lib.hid hR
  clear hR
  have k1 : ∀ {R : Ending → World → Prop} {w : World}, R (.returned (.tuple #[.int .u64 0, .iface 318 (.int .i64 2)])) w → Calls Tryz.prog 233 #[.string ⟨#[]⟩, .int .i64 16, .int .i64 64] w R := fun {R w} h =>
    Calls.mono (Any.internal_strconv_ParseUint_empty Tryz.lay287 16 64 w) fun e w' ⟨he, hw⟩ => by subst he hw; exact h
  have k2 : ∀ {R : Ending → World → Prop} {w : World}, Sat W w g H → (∀ t p w', Sat W w' g H → R (.returned (.iface t p)) w') → Calls Tryz.prog 232 #[.string ⟨#[80, 97, 114, 115, 101, 85, 105, 110, 116]⟩, .string ⟨#[]⟩, .int .i64 16, .int .i64 64, .iface 318 (.int .i64 2)] w R := fun {R w} hs h => by
    obtain ⟨t, p, hc⟩ := hg.es
    have key := Any.strconv_toError_syntax Tryz.lay245 ⟨#[80, 97, 114, 115, 101, 85, 105, 110, 116]⟩ ⟨#[]⟩ 16 64 (.iface t p) w (by decide) (hc.at hs) (.inr ⟨t, p, rfl⟩)
    refine Calls.mono key fun e w' ⟨N, he, _, _, hb⟩ => ?_
    subst he
    exact h _ _ _ (hs.under hb)
  have e0 : str [] = .string ⟨#[]⟩ := rfl
  rw [e0]
  refine C.calls (args := [.string ⟨#[]⟩, .int .i64 16, .int .i64 64]) Tryz.func165 rfl rfl rfl ?_
  refine go ?_
  refine E.callf Tryz.func233 rfl ?_
  refine k1 ?_
  refine go ?_
  refine E.callf Tryz.func232 rfl ?_
  refine k2 hs ?_
  intro t p w2 hs
  refine go ?_
  refine A.r2 ?_
  exact HR.out t p w2 hs
end Go.Proofs.YtdkbpcibmipelaaGreatDoor

/-
  A file that is torn, in plain lists: what is left of its records.
-/
namespace Go.Proofs.YtdkbpcibmipelaaGreatDoor
set_option linter.unusedVariables false
set_option linter.unusedSimpArgs false

/-- Taking what is not all there. -/
theorem takeGo_torn : ∀ (k i s n m : Nat), n < 128 ^ k → 1 ≤ k → i + k ≤ 10 → (i = 0 ∨ 0 < n) → (k + i = 10 → n < 2 * 128 ^ (k - 1)) → m < (layN n).length →
    takeGo i s ((layN n).take m) = (0, 0, 5)
  | 0, _, _, _, _, _, hk, _, _, _, _ => by omega
  | k + 1, i, s, n, m, hn, _, hik, hi0, h10, hm => by
    by_cases h : n < 128
    · rw [layN_small h] at hm ⊢
      simp only [List.length_cons, List.length_nil] at hm
      have : m = 0 := by omega
      subst this
      simp [takeGo]
    · rw [layN_big h] at hm ⊢
      cases m with
      | zero => simp [takeGo]
      | succ m =>
        obtain ⟨o1, o2, o3⟩ := or128 (n % 256) (Nat.mod_lt _ (by decide))
        have h8 : (UInt8.ofNat ((n % 256) ||| 128)).toNat = (n % 256) ||| 128 := by rw [UInt8.toNat_ofNat', Nat.mod_eq_of_lt (by simpa using o1)]
        have hk1 : 1 ≤ k := by
          rcases Nat.eq_zero_or_pos k with rfl | h'
          · simp at hn; omega
          · exact h'
        have hbad : ¬ ((i = 9 ∧ 1 < ((n % 256) ||| 128)) ∨ (0 < i ∧ ((n % 256) ||| 128) = 0)) := by omega
        simp only [List.take_succ_cons, takeGo, h8]
        rw [if_neg hbad, if_neg (by omega)]
        have e7 : (2 : Nat) ^ 7 = 128 := rfl
        simp only [List.length_cons] at hm
        rw [e7] at hm ⊢
        refine takeGo_torn k (i + 1) _ (n / 128) m ?_ hk1 (by omega) (.inr (by omega)) ?_ (by omega)
        · rw [Nat.div_lt_iff_lt_mul (by decide)]
          rw [Nat.pow_succ] at hn; exact hn
        · intro h'
          have := h10 (by omega)
          obtain ⟨k', rfl⟩ : ∃ k', k = k' + 1 := ⟨k - 1, by omega⟩
          simp only [Nat.add_sub_cancel] at this ⊢
          rw [Nat.div_lt_iff_lt_mul (by decide)]
          rw [Nat.pow_succ] at this; omega
theorem takeGo_layN_torn (n : Nat) (hn : n < 18446744073709551616) (m : Nat) (hm : m < (layN n).length) : takeGo 0 0 ((layN n).take m) = (0, 0, 5) :=
  takeGo_torn 10 0 0 n m (by omega) (by decide) (by decide) (.inl rfl) (fun _ => by omega) hm
theorem openB_torn (t : List UInt8) (most m : Nat) (h : t.length ≤ most) (hm : most ≤ 1000000000) (hml : m < (wrapB t).length) : openB ((wrapB t).take m) most = .error 5 := by
  have h1 : wrapB t = layN t.length ++ (t ++ fourB (crc (textB t))) := by simp [wrapB, textB]
  have hw := wrapB_length t
  by_cases hk : m < (layN t.length).length
  · have h2 : (wrapB t).take m = (layN t.length).take m := by
      rw [h1, List.take_append_of_le_length (by omega)]
    unfold openB
    rw [h2, takeGo_layN_torn _ (by omega) m hk]
    simp
  · have h2 : (wrapB t).take m = layN t.length ++ (t ++ fourB (crc (textB t))).take (m - (layN t.length).length) := by
      rw [h1, List.take_append, List.take_of_length_le (by omega)]
    have h3 := takeGo_layN t.length (by omega) ((t ++ fourB (crc (textB t))).take (m - (layN t.length).length))
    have hlen : ((wrapB t).take m).length = m := by rw [List.length_take]; omega
    unfold openB
    have h3' : takeGo 0 0 ((wrapB t).take m) = (t.length, (layN t.length).length, 0) := by rw [h2]; exact h3
    rw [h3']
    simp only [ne_eq, not_true_eq_false, if_false, hlen]
    rw [if_neg (by omega)]
    split
    · rfl
    · rw [if_pos (by omega)]
theorem catB_cons (x : List UInt8) (ls : List (List UInt8)) : catB (x :: ls) = wrapB x ++ catB ls := by simp [catB]
theorem allC_cons (x : List UInt8) (r : List UInt8) (hx : x.length ≤ 2097152) : allC (wrapB x ++ r) = (x :: (allC r).1, (wrapB x).length + (allC r).2.1, (allC r).2.2) := by
  have := allC_cat r [x] (by simpa using hx)
  simpa [catB] using this
/-- The records of the first so many bytes. -/
theorem allC_torn : ∀ (ls : List (List UInt8)) (m : Nat), (∀ x ∈ ls, x.length ≤ 2097152) → m ≤ (catB ls).length →
    ∃ k e, k ≤ ls.length ∧ allC ((catB ls).take m) = (ls.take k, (catB (ls.take k)).length, e) ∧ (catB (ls.take k)).length ≤ m ∧ (k < ls.length → m < (catB (ls.take (k + 1))).length) ∧ (e = 0 → m = (catB (ls.take k)).length)
  | [], m, _, hm => ⟨0, 0, by simp, by simp [catB, allC_nil], by simp [catB], by simp, fun _ => by simpa [catB] using hm⟩
  | x :: ls, m, hx, hm => by
    have hx0 := hx x (by simp)
    rw [catB_cons, List.length_append] at hm
    by_cases h : m < (wrapB x).length
    · have h1 : (catB (x :: ls)).take m = (wrapB x).take m := by rw [catB_cons, List.take_append_of_le_length (by omega)]
      have h5 : (catB ((x :: ls).take (0 + 1))).length = (wrapB x).length := by simp [catB]
      rw [h1]
      by_cases h0 : m = 0
      · subst h0
        exact ⟨0, 0, by simp, by simp [catB, allC_nil], by simp [catB], fun _ => by rw [h5]; omega, fun _ => by simp [catB]⟩
      · refine ⟨0, 5, by simp, ?_, by simp [catB], fun _ => by rw [h5]; omega, fun e => by cases e⟩
        have hne : (wrapB x).take m ≠ [] := by
          have : 0 < ((wrapB x).take m).length := by rw [List.length_take]; omega
          exact List.length_pos_iff.1 this
        unfold allC
        rw [allB, if_neg hne, openB_torn x _ m hx0 (by decide) h]
        simp [catB]
    · obtain ⟨k, e, q1, q2, q3, q4, q5⟩ := allC_torn ls (m - (wrapB x).length) (fun y hy => hx y (by simp [hy])) (by omega)
      refine ⟨k + 1, e, by simpa using q1, ?_, ?_, ?_, ?_⟩
      · have h1 : (catB (x :: ls)).take m = wrapB x ++ (catB ls).take (m - (wrapB x).length) := by
          rw [catB_cons, List.take_append, List.take_of_length_le (by omega)]
        rw [h1, allC_cons _ _ hx0, q2, List.take_succ_cons, catB_cons, List.length_append]
      · rw [List.take_succ_cons, catB_cons, List.length_append]; omega
      · intro hk
        rw [List.take_succ_cons, catB_cons, List.length_append]
        have := q4 (by simpa using hk)
        omega
      · intro he
        rw [List.take_succ_cons, catB_cons, List.length_append]
        have := q5 he
        omega
theorem catB_take (ls : List (List UInt8)) (k : Nat) : (catB ls).take (catB (ls.take k)).length = catB (ls.take k) := by
  have : catB ls = catB (ls.take k) ++ catB (ls.drop k) := by
    unfold catB
    rw [← List.flatten_append, ← List.map_append, List.take_append_drop]
  rw [this, List.take_append_of_le_length (Nat.le_refl _), List.take_of_length_le (Nat.le_refl _)]
/-- A torn file is mended. -/
theorem mend_torn {d : Dk} (h : d.calm) {name : List UInt8} {t : Ti} (ht : t.ok) {ls : List (List UInt8)} {m s : Nat} (hl : ∀ x ∈ ls, x.length ≤ 2097152) (hm : m ≤ (catB ls).length) (hf : aget name d.fs = some ⟨headB t ++ (catB ls).take m, s⟩) :
    ∃ k d' s', k ≤ ls.length ∧ (catB (ls.take k)).length ≤ m ∧ (k < ls.length → m < (catB (ls.take (k + 1))).length) ∧
      d.mend name = (.ok ⟨t, ls.take k, (headB t).length + (catB (ls.take k)).length, 0⟩, d') ∧ d'.fs = aput name ⟨headB t ++ catB (ls.take k), s'⟩ d.fs ∧ d'.room = d.room ∧ d'.calm := by
  obtain ⟨k, e, q1, q2, q3, q4, q5⟩ := allC_torn ls m hl hm
  have hscan := scanB_lay t ht [] (by simp) ((catB ls).take m)
  rw [q2] at hscan
  have e0 : catB [] = [] := rfl
  simp only [e0, List.nil_append, List.length_nil, Nat.add_zero] at hscan
  have hsheet : d.sheet name = .ok ⟨t, ls.take k, (headB t).length + (catB (ls.take k)).length, e⟩ := by
    unfold Dk.sheet
    rw [h.read hf]
    exact hscan
  by_cases he : e = 0
  · have hm2 := q5 he
    refine ⟨k, d, s, q1, q3, q4, ?_, ?_, rfl, h⟩
    · unfold Dk.mend
      rw [hsheet]
      simp [he]
    · rw [hm2, catB_take] at hf
      exact (aput_same hf).symm
  · obtain ⟨d', c1, c2, c3, c4⟩ := h.cut (n := (headB t).length + (catB (ls.take k)).length) hf (by rw [List.length_append, List.length_take]; omega)
    refine ⟨k, d', (headB t).length + (catB (ls.take k)).length, q1, q3, q4, ?_, ?_, c3, c4⟩
    · unfold Dk.mend
      rw [hsheet]
      simp only [he, if_false, c1, if_true]
    · rw [c2]
      simp only
      rw [List.take_append, List.take_of_length_le (by omega), Nat.add_sub_cancel_left, List.take_take, Nat.min_eq_left q3, catB_take]
where aput_same {name : List UInt8} {f : Fl} : ∀ {fs : List (List UInt8 × Fl)}, aget name fs = some f → aput name f fs = fs
  | [], h => by cases h
  | (a, u) :: r, h => by
    simp only [aget, aput] at h ⊢
    split at h
    · rename_i heq
      simp only [Option.some.injEq] at h
      subst h
      rw [if_pos heq]
    · rename_i hne
      rw [if_neg hne, aput_same h]
end Go.Proofs.YtdkbpcibmipelaaGreatDoor

/-
  A segment's file in plain lists: any events that may be held there; a torn file.
-/
namespace Go.Proofs.YtdkbpcibmipelaaGreatDoor
open Go.RowKit
set_option linter.unusedVariables false
set_option linter.unusedSimpArgs false

/-- What is read of an event that may be. -/
theorem ep_right {e : Ev} (h : e.right = 0) : e.ep.right = 0 := by
  obtain ⟨h1, h2, h3⟩ := right_zero h
  unfold Ev.right at h
  split at h
  · omega
  rename_i a1
  split at h
  · omega
  rename_i a2
  split at h
  · omega
  rename_i a3
  show (e.ep.ev (.slice none 0 0)).right = 0
  unfold Ev.right
  have hw : ((e.wr.toNat : Nat) : Int) = e.wr := by omega
  rw [if_neg, if_neg, if_neg]
  · simpa only [Ep.ev, Ev.ep] using a3
  · rintro (⟨b1, b2, b3⟩ | ⟨b1, b2⟩)
    · simp only [Ep.ev, Ev.ep] at b1 b2 b3
      rw [if_pos ⟨b1, b2⟩] at b3
      exact a2 (.inl ⟨b1, b2, b3⟩)
    · simp only [Ep.ev, Ev.ep] at b1 b2
      rw [if_pos b1] at b2
      exact a2 (.inr ⟨b1, b2⟩)
  · simp only [Ep.ev, Ev.ep]
    rw [hw]
    rintro (b | b | b | b | b | ⟨b1, b2⟩)
    · exact b ⟨h1, h2⟩
    · exact a1 (.inr (.inl b))
    · exact a1 (.inr (.inr (.inl b)))
    · exact a1 (.inr (.inr (.inr (.inl b))))
    · exact a1 (.inr (.inr (.inr (.inr (.inl b)))))
    · rw [if_pos b1] at b2
      have := h3 b1
      omega
theorem decE_enc {e : Ev} (h : e.right = 0) (hkd : e.kd < 256) (hk : e.key.length ≤ 64) (ht : e.text.length ≤ 1048576) (hn : e.num < 18446744073709551616) (hd : e.nd.toNat ≤ 63) : decE e.enc = .ok e.ep := by
  obtain ⟨h1, h2, h3⟩ := right_zero h
  have hr := ep_right h
  unfold Ev.right at h
  split at h
  · omega
  split at h
  · omega
  split at h
  · omega
  unfold decE
  rw [rdEv_enc (by omega) (by omega) (by omega) hkd hk ht hn hd]
  simp only
  rw [if_pos hr]
/-- Events that a segment of a writer holds, the one at k ahead. -/
def Fit (i f : Nat) : Nat → List Ev → Prop
  | _, [] => True
  | k, e :: r => (e.wr = i ∧ e.sq = (f + k) % 18446744073709551616 ∧ decE e.enc = .ok e.ep ∧ e.enc.length ≤ 2097152) ∧ Fit i f (k + 1) r
theorem Fit.append {i f : Nat} : ∀ {k : Nat} {a b : List Ev}, Fit i f k a → Fit i f (k + a.length) b → Fit i f k (a ++ b)
  | _, [], _, _, hb => by simpa using hb
  | k, e :: r, b, ha, hb => ⟨ha.1, ha.2.append (by
      have e1 : k + 1 + r.length = k + (r.length + 1) := by omega
      rw [e1]; exact hb)⟩
theorem Fit.take {i f : Nat} : ∀ {k : Nat} {a : List Ev} (n : Nat), Fit i f k a → Fit i f k (a.take n)
  | _, [], n, _ => by simp [Fit]
  | _, _ :: _, 0, _ => by simp [Fit]
  | _, _ :: _, n + 1, h => ⟨h.1, h.2.take n⟩
theorem Fit.len {i f : Nat} : ∀ {k : Nat} {a : List Ev}, Fit i f k a → ∀ x ∈ a.map Ev.enc, x.length ≤ 2097152
  | _, [], _, x, hx => by cases hx
  | _, e :: r, h, x, hx => by
    rw [List.map_cons] at hx
    rcases List.mem_cons.1 hx with rfl | hx
    · exact h.1.2.2.2
    · exact h.2.len x hx
theorem catB_len1 (x : List UInt8) (r : List (List UInt8)) : (catB (x :: r)).length = recN x.length + (catB r).length := by
  simp only [catB, List.map_cons, List.flatten_cons, List.length_append, wrapB_length]
  rfl
/-- What is read back of the events that are held; and then of others. -/
theorem opE_fit {i f : Nat} : ∀ {es : List Ev} {acc : List Ep} {sz : Nat} (rest : List (List UInt8)), Fit i f acc.length es →
    opE i f acc sz (es.map Ev.enc ++ rest) = opE i f (acc ++ es.map Ev.ep) (sz + (catB (es.map Ev.enc)).length) rest
  | [], acc, sz, rest, _ => by simp [catB]
  | e :: r, acc, sz, rest, h => by
    rw [List.map_cons, List.cons_append]
    simp only [opE, h.1.2.2.1]
    have hw : e.ep.wr = i := by
      have := h.1.1
      simp only [Ev.ep]; omega
    rw [if_pos ⟨hw, h.1.2.1⟩, opE_fit (es := r) rest (by simpa using h.2)]
    rw [List.map_cons, catB_len1, List.append_assoc, Nat.add_assoc]
    rfl
theorem opE_all {i f : Nat} {es : List Ev} {sz : Nat} (h : Fit i f 0 es) : opE i f [] sz (es.map Ev.enc) = (es.map Ev.ep, sz + (catB (es.map Ev.enc)).length, false) := by
  have := opE_fit (acc := []) (sz := sz) [] h
  rw [List.append_nil, List.nil_append] at this
  rw [this]
  rfl
/-- A segment's file. -/
def segB (i f : Nat) (es : List Ev) : List UInt8 := headB ⟨115, i, f⟩ ++ catB (es.map Ev.enc)
theorem segB_len (i f : Nat) (es : List Ev) : (segB i f es).length = (headB ⟨115, i, f⟩).length + (catB (es.map Ev.enc)).length := by simp [segB]
theorem segB_snoc (i f : Nat) (es : List Ev) (e : Ev) : segB i f (es ++ [e]) = segB i f es ++ wrapB e.enc := by
  simp only [segB, List.map_append, List.map_cons, List.map_nil, catB_snoc, List.append_assoc]
/-- A torn file is opened: the first events. -/
theorem opn_torn {d : Dk} (h : d.calm) {i f : Nat} (hi : i < 64) (hf : f < 18446744073709551616) {es : List Ev} {m s : Nat} (hes : Fit i f 0 es) (hm : m ≤ (catB (es.map Ev.enc)).length) (ha : aget (nameB i f) d.fs = some ⟨headB ⟨115, i, f⟩ ++ (catB (es.map Ev.enc)).take m, s⟩) :
    ∃ k d' s', k ≤ es.length ∧ (segB i f (es.take k)).length ≤ (headB ⟨115, i, f⟩).length + m ∧ d.opn i f = (.ok ((es.take k).map Ev.ep, (segB i f (es.take k)).length, 0), d') ∧
      (d.mend (nameB i f)).1 = .ok ⟨⟨115, i, f⟩, (es.take k).map Ev.enc, (segB i f (es.take k)).length, 0⟩ ∧ d'.fs = aput (nameB i f) ⟨segB i f (es.take k), s'⟩ d.fs ∧ d'.room = d.room ∧ d'.calm := by
  have hto : Ti.ok ⟨115, i, f⟩ := ⟨by simp only; omega, hf⟩
  obtain ⟨k, d', s', h1, h2, h3, h4, h5, h6, h7⟩ := mend_torn h hto hes.len hm ha
  rw [← List.map_take] at h2 h4 h5
  rw [List.length_map] at h1
  have hsl := segB_len i f (es.take k)
  refine ⟨k, d', s', h1, by omega, ?_, by rw [h4, hsl], h5, h6, h7⟩
  simp only [Dk.opn, h4]
  rw [if_pos ⟨trivial, trivial, trivial⟩, opE_all (hes.take k), hsl]
  simp
theorem mend_whole {d : Dk} (h : d.calm) {i f : Nat} (hi : i < 64) (hf : f < 18446744073709551616) {ls : List (List UInt8)} {s : Nat} (hl : ∀ x ∈ ls, x.length ≤ 2097152) (ha : aget (nameB i f) d.fs = some ⟨headB ⟨115, i, f⟩ ++ catB ls, s⟩) :
    d.mend (nameB i f) = (.ok ⟨⟨115, i, f⟩, ls, (headB ⟨115, i, f⟩ ++ catB ls).length, 0⟩, d) := by
  have hto : Ti.ok ⟨115, i, f⟩ := ⟨by simp only; omega, hf⟩
  have hrd : d.read (nameB i f) = .ok (headB ⟨115, i, f⟩ ++ catB ls) := h.read ha
  have hsc := scanB_lay ⟨115, i, f⟩ hto ls hl []
  rw [List.append_nil, allC_nil] at hsc
  simp only [List.append_nil, Nat.add_zero] at hsc
  simp only [Dk.mend, Dk.sheet, hrd, hsc, List.length_append, if_true]
theorem opn_whole {d : Dk} (h : d.calm) {i f : Nat} (hi : i < 64) (hf : f < 18446744073709551616) {es : List Ev} {s : Nat} (hes : Fit i f 0 es) (ha : aget (nameB i f) d.fs = some ⟨segB i f es, s⟩) :
    d.opn i f = (.ok (es.map Ev.ep, (segB i f es).length, 0), d) ∧ (d.mend (nameB i f)).1 = .ok ⟨⟨115, i, f⟩, es.map Ev.enc, (segB i f es).length, 0⟩ := by
  have hm := mend_whole h hi hf hes.len ha
  refine ⟨?_, by rw [hm]; rfl⟩
  simp only [Dk.opn, hm]
  rw [if_pos ⟨trivial, trivial, trivial⟩, opE_all hes, segB_len]
  simp
end Go.Proofs.YtdkbpcibmipelaaGreatDoor

/-
  Layer 8 (segment): what is opened is never too much; Open of any disk.
-/
namespace Go.Proofs.YtdkbpcibmipelaaGreatDoor
open Go.RowKit
set_option linter.unusedVariables false
set_option linter.unusedSimpArgs false

theorem openB_few {l : List UInt8} {most k v : Nat} (h : openB l most = .ok (k, v)) : v ≤ most ∧ k + v + 4 ≤ l.length := by
  unfold openB at h
  generalize takeGo 0 0 l = q at h
  obtain ⟨v', k', e⟩ := q
  simp only at h
  split at h
  · cases h
  split at h
  · cases h
  split at h
  · cases h
  split at h
  · cases h
  split at h
  · simp only [Except.ok.injEq, Prod.mk.injEq] at h
    obtain ⟨rfl, rfl⟩ := h
    omega
  · cases h
theorem allB_few (most : Nat) : ∀ (fuel : Nat) (l : List UInt8), (∀ p ∈ (allB most fuel l).1, p.length ≤ most) ∧ (allB most fuel l).1.length ≤ l.length
  | 0, l => by simp [allB]
  | fuel + 1, l => by
    rw [allB]
    split
    · simp
    · cases ho : openB l most with
      | error e => simp
      | ok q =>
        obtain ⟨k, v⟩ := q
        obtain ⟨h1, h2⟩ := openB_few ho
        obtain ⟨h3, h4⟩ := allB_few most fuel (l.drop (k + v + 4))
        rw [List.length_drop] at h4
        refine ⟨?_, ?_⟩
        · intro p hp
          simp only [List.mem_cons] at hp
          rcases hp with rfl | hp
          · rw [List.length_take]; omega
          · exact h3 p hp
        · simp only [List.length_cons]
          omega
theorem scanB_few {l : List UInt8} {s : Sh} (h : scanB l = .ok s) : (∀ p ∈ s.l, p.length ≤ 2097152) ∧ s.l.length ≤ l.length := by
  unfold scanB at h
  cases ho : openB l 2097152 with
  | error e => rw [ho] at h; cases h
  | ok q =>
    obtain ⟨k, v⟩ := q
    rw [ho] at h
    simp only at h
    split at h
    · cases h
    · simp only [Except.ok.injEq] at h
      subst h
      obtain ⟨h3, h4⟩ := allB_few 2097152 ((l.drop (k + v + 4)).length + 1) (l.drop (k + v + 4))
      refine ⟨h3, ?_⟩
      rw [List.length_drop] at h4
      simp only [allC, List.length_drop] at h4 ⊢
      omega
theorem aget_tk {name : List UInt8} {f : Fl} : ∀ {fs : List (List UInt8 × Fl)}, aget name fs = some f → f.p.length ≤ tk fs
  | [], h => by cases h
  | (a, u) :: r, h => by
    simp only [aget] at h
    simp only [tk, List.map_cons, List.sum_cons]
    split at h
    · simp only [Option.some.injEq] at h
      subst h
      omega
    · have := aget_tk h
      simp only [tk] at this
      omega
theorem mend_few {d : Dk} (hd : d.ok) {name : List UInt8} {s : Sh} (h : (d.mend name).1 = .ok s) : (∀ p ∈ s.l, p.length ≤ 2097152) ∧ s.l.length ≤ 1000000000 := by
  have key : ∀ s, d.sheet name = .ok s → (∀ p ∈ s.l, p.length ≤ 2097152) ∧ s.l.length ≤ 1000000000 := by
    intro s hs
    unfold Dk.sheet Dk.read at hs
    split at hs
    · rename_i h1
      cases hs
    · rename_i p h1
      split at h1
      · cases h1
      · split at h1
        · cases h1
        · rename_i f hf
          simp only [Except.ok.injEq] at h1
          subst h1
          obtain ⟨h2, h3⟩ := scanB_few hs
          have := aget_tk hf
          have := hd.total
          exact ⟨h2, by omega⟩
  unfold Dk.mend at h
  cases hs : d.sheet name with
  | error e => rw [hs] at h; cases h
  | ok s' =>
    have hk := key s' hs
    rw [hs] at h
    simp only at h
    split at h
    · cases h
      exact hk
    · split at h
      · cases h
        exact hk
      · cases h
theorem disk_ok {W w : World} {g : Hl} {H : List HP} {b : Nat} {d : Dk} (hs : Sat W w g (disk b d :: H)) : d.ok := by
  obtain ⟨_, _, _, h, _⟩ := disk_open hs
  exact h
theorem sgOpen_all {R : Ending → World → Prop} {W w : World} {g : Hl} {H : List HP} {b : Nat} {d : Dk} {i n : Nat} (hg : Gl g) (hi : i < 64) (hn : n < 18446744073709551616) (hs : Sat W w g (disk b d :: H))
    (hE : ∀ e w' g', Hl.le g g' → (d.opn i n).1 = .error e → e ≠ 0 → Sat W w' g' (disk b (d.opn i n).2 :: H) → R (.returned (.tuple #[noSg, .int .i64 e])) w')
    (hOK : ∀ x sz er w' g', Hl.le g g' → (d.opn i n).1 = .ok (x.es.map Ev.raw, sz, er) → El.ok x g' → (∀ e ∈ x.es, e.right = 0) → Sat W w' g' (disk b (d.opn i n).2 :: H) → R (.returned (.tuple #[Sg.val ⟨i, n, x, sz⟩, .int .i64 er])) w') :
    Calls Tryz.prog 20 #[ptr b, str (nameB i n)] w R :=
  sgOpen_any hg hi hn (fun s h => mend_few (disk_ok hs) h) hs hE hOK
end Go.Proofs.YtdkbpcibmipelaaGreatDoor

/-
  SegmentMends, walked.
-/
namespace Go.Proofs.YtdkbpcibmipelaaGreatDoor
open Go.RowKit
set_option linter.unusedVariables false
set_option linter.unusedSimpArgs false

theorem evP_num {K T i sq tm : Nat} {tv : Value} : (evP K T i sq tm tv).num = 0 := rfl
theorem evP_dec {K T i sq tm : Nat} {tv : Value} (hi : i < 64) (h1 : 1 ≤ sq) (h2 : sq ≤ 9223372036854775807) (h3 : 1 ≤ tm) (h4 : tm ≤ 9223372036854775807) : decE (evP K T i sq tm tv).enc = .ok (evP K T i sq tm tv).ep := by
  have hl : (evP K T i sq tm tv).text.length ≤ 30 := by
    simp only [evP]; split
    · simp; omega
    · simp
  exact decE_enc (evP_right hi h1 h2 h3 h4) (by simp only [evP]; omega) (by simp [evP]) (by omega) (by simp [evP]) (by simp [evP])
theorem evP_len {K T i sq tm : Nat} {tv : Value} (hi : i < 64) (h2 : sq < 18446744073709551616) (h4 : tm < 18446744073709551616) : (evP K T i sq tm tv).enc.length ≤ 92 := by
  have hl : (evP K T i sq tm tv).text.length ≤ 30 := by
    simp only [evP]; split
    · simp; omega
    · simp
  have h := Ev.enc_len (evP K T i sq tm tv) (by simp only [evP]; omega) h2 h4 (by simp [evP]) (by omega) (by simp [evP])
  have hk1 : (evP K T i sq tm tv).key.length = 1 := rfl
  omega
theorem evL_len (ps : List (Nat × Nat)) (i f n : Nat) : (evL ps i f n).length = n := by simp [evL]
theorem evL_fit {ps : List (Nat × Nat)} {i f : Nat} (hi : i < 64) (hf0 : 1 ≤ f) (hf : f ≤ 2000000000000000000) : ∀ n, n ≤ 1000 → Fit i f 0 (evL ps i f n)
  | 0, _ => trivial
  | n + 1, h => by
    rw [evL_succ]
    refine (evL_fit hi hf0 hf n (by omega)).append ⟨⟨rfl, ?_, evK_dec hi hf0 hf (by omega), ?_⟩, trivial⟩
    · rw [evL_len, Nat.mod_eq_of_lt (by omega)]
      simp only [evK, evP]; omega
    · have := evK_len (ps := ps) hi hf (k := n) (by omega)
      omega
theorem sameE_raw {a b : List Ev} (h : a.map Ev.raw = b.map Ev.raw) : sameE a b = true := by
  have h2 : ∀ l : List Ev, l.map Ev.enc = (l.map Ev.raw).map (fun p => (p.ev (.slice none 0 0)).enc) := fun l => by
    rw [List.map_map]; rfl
  simp only [sameE, decide_eq_true_eq]
  rw [h2, h2 b, h]
/-- What is kept of events that are none of a node that joins can be told again. -/
theorem fit_raw {y : El} {g : Hl} {l : List Ev} (hy : y.ok g) (h : y.es.map Ev.raw = l.map Ev.ep) (hl : ∀ e ∈ l, 1 ≤ e.kd ∧ e.kd ≤ 4) : ∀ e ∈ y.es, e.fit := by
  intro e he
  have hm : e.raw ∈ l.map Ev.ep := by rw [← h]; exact List.mem_map_of_mem he
  obtain ⟨e2, he2, heq⟩ := List.mem_map.1 hm
  have hkd : e.kd = e2.kd := (congrArg Ep.kd heq).symm
  have := hl e2 he2
  have hlow := (hy.evs e he).2
  exact ⟨hlow.1, by omega, fun h => by omega⟩
theorem evL_kd {ps : List (Nat × Nat)} {i f n : Nat} : ∀ e ∈ evL ps i f n, 1 ≤ e.kd ∧ e.kd ≤ 4 := by
  intro e he
  obtain ⟨k, hk, rfl⟩ := List.mem_map.1 he
  simp only [evK, evP]
  omega
theorem El.ok.take {x : El} {g : Hl} (hx : x.ok g) (k : Nat) {a' : Option Addr} {c' : Nat} (h : Pr 8 g (.slice a' (min k x.es.length) c') (min k x.es.length) (evC (x.es.take k))) : El.ok ⟨a', c', x.es.take k⟩ g :=
  ⟨by simp only [El.v, List.length_take]; exact h, fun e he => hx.evs e (List.mem_of_mem_take he)⟩

set_option maxHeartbeats 6400000 in
set_option maxRecDepth 100000 in
theorem segMends_any {R : Ending → World → Prop} {W w : World} {g : Hl} {H : List HP} {cut K T n c : Nat} {a : Option Addr} {ps : List (Nat × Nat)} (hg : Gl g) (hcut : cut < 65536) (hK : K < 256) (hT : T < 256) (hp : Pr 2 g (.slice a n c) n (putC ps)) (hn : ps.length = n) (hps : ∀ p ∈ ps, p.1 < 256 ∧ p.2 < 256) (hs : Sat W w g H)
    (hR : ∀ w' g', Hl.le g g' → Sat W w' g' H → R (.returned (.bool true)) w') :
    Calls Tryz.prog 4 #[.slice a n c, .int .u16 cut, .agg #[.int .u8 K, .int .u8 T]] w R := by
  have HR := Lib.hid hR
  clear hR
  have ag1 := ag_sg
  have ag2 := ag_put
  have ag3 := ag_title
  refine C.calls (args := [.slice a n c, .int .u16 cut, (.agg #[.int .u8 K, .int .u8 T])]) Tryz.func4 rfl rfl rfl ?_
  refine go ?_
  refine E.bx hs ?_
  intro b5 w0 hs
  refine go ?_
  refine E.callf Tryz.func15 rfl ?_
  refine awake8_any hg hs ?_
  intro w1 hs
  refine go ?_
  cases h20 : decide ((20 : Int) < n) with
  | true =>
    refine go ?_
    refine E.callf Tryz.func15 rfl ?_
    refine awake8_any hg hs ?_
    intro w2 hs
    refine go ?_
    refine A.r1 ?_
    exact HR.out _ _ (Hl.le_refl _) hs.drop
  | false =>
  have h20 := of_decide_eq_false h20
  refine go ?_
  refine E.callf Tryz.func16 rfl ?_
  refine new_any (by omega) hs ?_
  intro b w2 hs
  refine go ?_
  refine E.callf Tryz.func17 rfl ?_
  refine fill8_any (i := 5) (f := 1) hg (by decide) (by decide) (by decide) hp hn (by omega) hps ⟨rfl, by simp⟩ rfl rfl hs ?_
  intro s d w3 g3 hg3 hfull hs
  refine go ?_
  refine E.al hs ?_
  intro b8 w4 hs
  refine E.sto (vs := s.cs) (ys := s.cs) hs ?_ (hv := rfl) (hsp := rfl)
  intro w5 hs
  refine go ?_
  refine E.callf Tryz.func18 rfl ?_
  refine segName_any (i := 5) (n := 1) (hg.mono hg3) (by decide) (by decide) hs ?_
  intro w6 hs
  refine go ?_
  have hto : Ti.ok ⟨115, 5, 1⟩ := ⟨by decide, by decide⟩
  refine E.callf Tryz.func21 rfl ?_
  refine head_any (t := ⟨115, 5, 1⟩) hs hto ?_
  intro ah ch w7 g7 hg7 hs
  replace hs := hs.drop
  have hhl := headB_len hto
  have hes : Fit 5 1 0 (evL ps 5 1 n) := evL_fit (by decide) (by decide) (by decide) n (by omega)
  have hfl : (fileP ps 5 1 n).length = (headB ⟨115, 5, 1⟩).length + (catB ((evL ps 5 1 n).map Ev.enc)).length := by simp [fileP]
  have hfl2 := fileP_len (ps := ps) (i := 5) (f := 1) (by decide) (by decide) n (by omega)
  obtain ⟨m, hmd⟩ : ∃ m : Nat, m = cut % ((catB ((evL ps 5 1 n).map Ev.enc)).length + 1) := ⟨_, rfl⟩
  have hm1 : m ≤ (catB ((evL ps 5 1 n).map Ev.enc)).length := by have := Nat.mod_lt cut (show 0 < (catB ((evL ps 5 1 n).map Ev.enc)).length + 1 by omega); omega
  have hsz := hfull.size
  refine go ?_
  refine E.pv (Pv.remn (a := cut) (b := (catB ((evL ps 5 1 n).map Ev.enc)).length + 1) rfl rfl rfl (by omega) (by omega)) ?_
  rw [← hmd]
  clear hmd
  refine go ?_
  obtain ⟨q, hfsd⟩ := hfull.fs
  have hget : aget (nameB 5 1) d.fs = some ⟨fileP ps 5 1 n, q⟩ := by rw [hfsd]; simp [aget]
  obtain ⟨d1, f1, f2, f3, f4⟩ := hfull.calm.cut (n := (headB ⟨115, 5, 1⟩).length + m) hget (by simp only; omega)
  have hk1 : (((headB ⟨115, 5, 1⟩).length : Int) + (m : Int)) = (((headB ⟨115, 5, 1⟩).length + m : Nat) : Int) := by omega
  rw [hk1]
  refine E.callf Tryz.func27 rfl ?_
  refine cut_any (b := b) (d := d) (name := nameB 5 1) (k := (((headB ⟨115, 5, 1⟩).length + m : Nat) : Int)) hs.swap ?_
  intro w8 hs
  rw [f1] at hs ⊢
  replace hs : Sat W w8 g7 (disk b d1 :: blk b8 s.cs 29 :: blk b5 [.int .u8 K, .int .u8 T] 49 :: H) := hs
  have f5 : aget (nameB 5 1) d1.fs = some ⟨headB ⟨115, 5, 1⟩ ++ (catB ((evL ps 5 1 n).map Ev.enc)).take m, (headB ⟨115, 5, 1⟩).length + m⟩ := by
    rw [f2, hfsd, aput_one, aget_one]
    simp only [fileP]
    rw [List.take_append, List.take_of_length_le (by omega), Nat.add_sub_cancel_left]
  obtain ⟨k, d2, s2, k1, k2, k3, k4, k5, k6, k7⟩ := opn_torn f4 (by decide) (by decide) hes hm1 f5
  rw [evL_len] at k1
  rw [f2, hfsd, aput_one, aput_one] at k5
  rw [f3, hfull.room] at k6
  clear f1 f2 f3 f4 f5 k4
  refine go ?_
  refine E.callf Tryz.func20 rfl ?_
  refine sgOpen_all (i := 5) (n := 1) (hg.mono (hg3.trans hg7)) (by decide) (by decide) hs ?_ ?_
  · intro e w9 g9 _ h
    rw [k3] at h; cases h
  intro x sz er w9 g9 hg9 hox hxo hxr hs
  rw [k3] at hox hs
  simp only [Except.ok.injEq, Prod.mk.injEq] at hox
  obtain ⟨hox1, rfl, rfl⟩ := hox
  clear k3
  have hxl : x.es.length = k := by
    have := congrArg List.length hox1
    simp only [List.length_map, List.length_take, evL_len] at this
    omega
  have hkn : ¬ (n : Int) < (x.es.length : Int) := by omega
  have hsxl := hfull.len
  refine go ?_
  refine E.al hs ?_
  intro b13 w10 hs
  refine E.sto (vs := [.int .i64 5, .int .u64 1, x.v, .int .i64 ((segB 5 1 ((evL ps 5 1 n).take k)).length : Nat)]) (ys := [.int .i64 5, .int .u64 1, x.v, .int .i64 ((segB 5 1 ((evL ps 5 1 n).take k)).length : Nat)]) hs ?_ (hv := rfl) (hsp := rfl)
  intro w11 hs
  refine gob ?_
  refine C.held2 b13 b8 hs ?_
  intro w12 hk hs
  refine goh ?_
  rw [decide_eq_false hkn]
  refine goh ?_
  have hsx := hfull.x.mono (hg7.trans hg9)
  refine EH.slq el_ev hsx.row 0 k hk (fun a16 c16 hp16 => ?_)
  have hyo : El.ok ⟨a16, c16, s.x.es.take k⟩ g9 := hsx.take k (by
    rw [Nat.min_eq_left (by omega)]
    simpa [evC_take] using hp16)
  have hyl : (s.x.es.take k).length = k := by rw [List.length_take]; omega
  have hyraw : (s.x.es.take k).map Ev.raw = ((evL ps 5 1 n).take k).map Ev.ep := by rw [List.map_take, hfull.es, List.map_take]
  simp only [Nat.sub_zero]
  refine goh ?_
  have hyv : (⟨a16, c16, s.x.es.take k⟩ : El).v = .slice a16 k c16 := by simp only [El.v, hyl]
  rw [← hyv]
  refine EH.one (St.guard rfl rfl (St.callf Tryz.func25 rfl ?_))
  refine sameAll_any (x := x) (y := ⟨a16, c16, s.x.es.take k⟩) hxo hyo (fit_raw hxo hox1.symm (fun e he => evL_kd e (List.mem_of_mem_take he))) (fit_raw hyo hyraw (fun e he => evL_kd e (List.mem_of_mem_take he))) (by omega) (by simp only; omega) hs ?_
  intro w13 g13 hg13 hs
  rw [sameE_raw (a := x.es) (b := s.x.es.take k) (by rw [hyraw]; exact hox1.symm)]
  refine kept2 hs (fun hk => ?_) hg13
  refine goh ?_
  rw [decide_eq_false (show ¬ (((headB ⟨115, 5, 1⟩).length + m : Nat) : Int) < ((segB 5 1 ((evL ps 5 1 n).take k)).length : Nat) by omega)]
  refine EH.done ?_
  refine gob ?_
  have hnx : Sg.next ⟨5, 1, x, (segB 5 1 ((evL ps 5 1 n).take k)).length⟩ = 1 + k := by
    simp only [Sg.next, hxl]; omega
  have hel := evP_len (K := K) (T := T) (i := 5) (sq := 1 + k) (tm := 999) (tv := .slice none 0 0) (by decide) (by omega) (by decide)
  have hwl := wrapB_len (evP K T 5 (1 + k) 999 (.slice none 0 0)).enc (by omega)
  obtain ⟨d3, q1, q2, q3, q4⟩ := add_calm8 k7 (name := nameB 5 1) (p := (evP K T 5 (1 + k) 999 (.slice none 0 0)).enc) (by omega) (nameB_named (by decide) (by decide)) (by rw [k5, tk_one8, k6]; simp only; omega)
  have hfit : ∀ tv, Sg.fit ⟨5, 1, x, (segB 5 1 ((evL ps 5 1 n).take k)).length⟩ (evP K T 5 (1 + k) 999 tv) = 0 := by
    intro tv
    simp only [Sg.fit]
    rw [if_pos (evP_right (by decide) (by omega) (by omega) (by decide) (by decide)), if_pos]
    exact ⟨rfl, by rw [hnx]; rfl⟩
  have hgg : Hl.le g g13 := hg3.trans (hg7.trans (hg9.trans hg13))
  have hxo := hxo.mono hg13
  have hvu : (⟨5, 1, x, (segB 5 1 ((evL ps 5 1 n).take k)).length⟩ : Sg).val = .agg #[.int .i64 5, .int .u64 1, x.v, .int .i64 ((segB 5 1 ((evL ps 5 1 n).take k)).length : Nat)] := rfl
  refine C.held2 b13 b5 hs ?_
  intro w14 hk hs
  apply laterH (α := Nat × (Option Addr × Nat × Value) × Hl) (f := fun q => [(7, ptr b), (10, str (nameB 5 1)), (13, ptr b13), (15, ptr q.1), (96, Sg.val ⟨5, 1, ⟨q.2.1.1, q.2.1.2.1, x.es ++ [(evP K T 5 (1 + k) 999 (.slice none 0 0)).ep.ev q.2.1.2.2]⟩, (segB 5 1 ((evL ps 5 1 n).take k)).length + recN (evP K T 5 (1 + k) 999 (.slice none 0 0)).enc.length⟩), (97, .int .i64 0)])
    (M := fun q w => Hl.le g13 q.2.2 ∧ El.ok ⟨q.2.1.1, q.2.1.2.1, x.es ++ [(evP K T 5 (1 + k) 999 (.slice none 0 0)).ep.ev q.2.1.2.2]⟩ q.2.2 ∧ Sat W w q.2.2 (blk q.1 [.int .i64 0, .int .u64 0, .slice none 0 0, .int .i64 0] 29 :: blk b13 [.int .i64 5, .int .u64 1, x.v, .int .i64 ((segB 5 1 ((evL ps 5 1 n).take k)).length : Nat)] 29 :: disk b d3 :: blk b8 s.cs 29 :: blk b5 [.int .u8 K, .int .u8 T] 49 :: H))
  · intro B3
    apply laterH (α := Nat × Value × Hl) (f := fun q => [(7, ptr b), (10, str (nameB 5 1)), (13, ptr b13), (15, ptr q.1), (89, .agg #[.int .i64 5, .int .u64 1, x.v, .int .i64 ((segB 5 1 ((evL ps 5 1 n).take k)).length : Nat)]), (90, ptr b), (94, (evP K T 5 (1 + k) 999 q.2.1).val)])
      (M := fun q w => Hl.le g13 q.2.2 ∧ (evP K T 5 (1 + k) 999 q.2.1).ok q.2.2 ∧ Sat W w q.2.2 (blk q.1 [.int .i64 0, .int .u64 0, .slice none 0 0, .int .i64 0] 29 :: blk b13 [.int .i64 5, .int .u64 1, x.v, .int .i64 ((segB 5 1 ((evL ps 5 1 n).take k)).length : Nat)] 29 :: disk b d2 :: blk b8 s.cs 29 :: blk b5 [.int .u8 K, .int .u8 T] 49 :: H))
    · intro B2
      apply laterH (α := Nat × Unit) (f := fun q => [(7, ptr b), (10, str (nameB 5 1)), (13, ptr b13), (15, ptr q.1), (89, .agg #[.int .i64 5, .int .u64 1, x.v, .int .i64 ((segB 5 1 ((evL ps 5 1 n).take k)).length : Nat)]), (90, ptr b), (91, .agg #[.int .u8 K, .int .u8 T]), (93, .int .u64 (1 + k : Nat))])
        (M := fun q w => Sat W w g13 (blk q.1 [.int .i64 0, .int .u64 0, .slice none 0 0, .int .i64 0] 29 :: blk b13 [.int .i64 5, .int .u64 1, x.v, .int .i64 ((segB 5 1 ((evL ps 5 1 n).take k)).length : Nat)] 29 :: disk b d2 :: blk b8 s.cs 29 :: blk b5 [.int .u8 K, .int .u8 T] 49 :: H))
      · intro B1
        refine goh ?_
        rw [← hvu]
        refine EH.ora hs (St.callf Tryz.func26 rfl ?_) ?_
        · refine sgNext_any (s := ⟨5, 1, x, (segB 5 1 ((evL ps 5 1 n).take k)).length⟩) (show (1 : Nat) < 18446744073709551616 by decide) (by simp only; omega) hs ?_
          intro w15 hs
          rw [hnx]
          refine kept2 hs (fun hk => ?_) (Hl.le_refl _)
          refine goh ?_
          refine EH.ora hs (St.callf Tryz.func24 rfl ?_) ?_
          · refine event8_any (K := K) (T := T) (i := 5) (sq := 1 + k) (tm := 999) (by decide) hK hT (by omega) (by decide) hs ?_
            intro tv w16 g16 hg16 heo hs
            refine kept2 hs (fun hk => ?_) hg16
            refine goh ?_
            refine EH.ora hs (St.callf Tryz.func28 rfl ?_) ?_
            · refine sgAdd_any (s := ⟨5, 1, x, (segB 5 1 ((evL ps 5 1 n).take k)).length⟩) (e := evP K T 5 (1 + k) 999 tv) (hg.mono (hgg.trans hg16)) heo (hxo.mono hg16) (show (5 : Nat) < 64 by decide) (show (1 : Nat) < 18446744073709551616 by decide) (by simp only; omega) (by simp only; omega) hs.swap ?_ ?_ ?_
              · intro w' g' _ h _
                exact absurd (hfit tv) h
              · intro w' g' _ _ h _
                exact absurd (congrArg Prod.fst q1) h
              intro a8 c8 tv2 w17 g17 hg17 _ _ hxo8 hs
              replace hs : Sat W w17 g17 (disk b (d2.add (nameB 5 1) (evP K T 5 (1 + k) 999 (.slice none 0 0)).enc).2 :: _) := hs
              rw [q1] at hs
              refine kept2 hs (fun hk => ?_) (hg16.trans hg17)
              refine goh ?_
              refine EH.al hs ?_
              intro b15 w18 hs
              refine kept2 hs (fun hk => ?_) (hg16.trans hg17)
              refine goh ?_
              exact EH.forget wk_ (B3 (b15, (a8, c8, tv2), g17) _ ⟨hg16.trans hg17, hxo8, hs.pull2.swap⟩)
            · intro b15 w17 hs
              refine kept2 hs (fun hk => ?_) hg16
              refine goh ?_
              exact EH.forget wk_ (B2 (b15, tv, g16) _ ⟨hg16, heo, hs⟩)
          · intro b15 w16 hs
            refine kept2 hs (fun hk => ?_)
            refine goh ?_
            exact EH.forget wk_ (B1 (b15, ()) _ hs)
        · intro b15 w15 hs
          refine kept2 hs (fun hk => ?_)
          refine goh ?_
          refine EH.one (St.callf Tryz.func26 rfl ?_)
          refine sgNext_any (s := ⟨5, 1, x, (segB 5 1 ((evL ps 5 1 n).take k)).length⟩) (show (1 : Nat) < 18446744073709551616 by decide) (by simp only; omega) hs ?_
          intro w16 hs
          rw [hnx]
          refine kept2 hs (fun hk => ?_) (Hl.le_refl _)
          refine goh ?_
          exact EH.forget wk_ (B1 (b15, ()) _ hs)
      · clear hs hk
        rintro ⟨b15, _⟩ w15 hs
        simp only at hs ⊢
        have hk := Keeps.of2 hs (Hl.le_refl _) (b1 := b13) (b2 := b5)
        refine goh ?_
        refine EH.one (St.callf Tryz.func24 rfl ?_)
        refine event8_any (K := K) (T := T) (i := 5) (sq := 1 + k) (tm := 999) (by decide) hK hT (by omega) (by decide) hs ?_
        intro tv w16 g16 hg16 heo hs
        refine kept2 hs (fun hk => ?_) hg16
        refine goh ?_
        exact EH.forget wk_ (B2 (b15, tv, g16) _ ⟨hg16, heo, hs⟩)
    · clear hs hk
      rintro ⟨b15, tv, g16⟩ w16 ⟨hg16, heo, hs⟩
      simp only at hg16 heo hs ⊢
      rw [← hvu]
      have hk := Keeps.of2 hs hg16 (b1 := b13) (b2 := b5)
      refine goh ?_
      refine EH.one (St.callf Tryz.func28 rfl ?_)
      refine sgAdd_any (s := ⟨5, 1, x, (segB 5 1 ((evL ps 5 1 n).take k)).length⟩) (e := evP K T 5 (1 + k) 999 tv) (hg.mono (hgg.trans hg16)) heo (hxo.mono hg16) (show (5 : Nat) < 64 by decide) (show (1 : Nat) < 18446744073709551616 by decide) (by simp only; omega) (by simp only; omega) hs.pull2 ?_ ?_ ?_
      · intro w' g' _ h _
        exact absurd (hfit tv) h
      · intro w' g' _ _ h _
        exact absurd (congrArg Prod.fst q1) h
      intro a8 c8 tv2 w17 g17 hg17 _ _ hxo8 hs
      replace hs : Sat W w17 g17 (disk b (d2.add (nameB 5 1) (evP K T 5 (1 + k) 999 (.slice none 0 0)).enc).2 :: _) := hs
      rw [q1] at hs
      refine kept2 hs (fun hk => ?_) (hg16.trans hg17)
      refine goh ?_
      exact EH.forget wk_ (B3 (b15, (a8, c8, tv2), g17) _ ⟨hg16.trans hg17, hxo8, hs.push2⟩)
  clear hs hk
  rintro ⟨b15, ⟨a8, c8, tv2⟩, g17⟩ w17 ⟨hg17, hxo8, hs⟩
  simp only at hg17 hxo8 hs ⊢
  have hk := Keeps.of2 hs hg17 (b1 := b13) (b2 := b5)
  generalize hs3 : (⟨5, 1, ⟨a8, c8, x.es ++ [(evP K T 5 (1 + k) 999 (.slice none 0 0)).ep.ev tv2]⟩, (segB 5 1 ((evL ps 5 1 n).take k)).length + recN (evP K T 5 (1 + k) 999 (.slice none 0 0)).enc.length⟩ : Sg) = s3
  refine goh ?_
  refine EH.sto (vs := s3.cs) (ys := s3.cs) hs ?_ (hv := rfl) (hsp := rfl)
  intro w18 hs
  refine kept2 hs (fun hk => ?_) hg17
  refine goh ?_
  refine EH.done ?_
  refine go ?_
  have hes3 : Fit 5 1 0 ((evL ps 5 1 n).take k ++ [evP K T 5 (1 + k) 999 (.slice none 0 0)]) := (hes.take k).append ⟨⟨rfl, by rw [List.length_take, evL_len, Nat.min_eq_left (by omega), Nat.mod_eq_of_lt (by omega)]; simp only [evP]; omega, evP_dec (by decide) (by omega) (by omega) (by decide) (by decide), by omega⟩, trivial⟩
  have hf3 : aget (nameB 5 1) d3.fs = some ⟨segB 5 1 ((evL ps 5 1 n).take k ++ [evP K T 5 (1 + k) 999 (.slice none 0 0)]), s2⟩ := by
    rw [q2, k5, put_one, aget_one, segB_snoc]
  obtain ⟨o1, _⟩ := opn_whole q4 (by decide) (by decide) hes3 hf3
  refine E.callf Tryz.func20 rfl ?_
  refine sgOpen_all (i := 5) (n := 1) (hg.mono (hgg.trans hg17)) (by decide) (by decide) hs.pull2 ?_ ?_
  · intro e w9 g9 _ h
    rw [o1] at h; cases h
  intro y sz er w19 g19 hg19 hox hyo3 hyr hs
  rw [o1] at hox hs
  simp only [Except.ok.injEq, Prod.mk.injEq] at hox
  obtain ⟨hy1, rfl, rfl⟩ := hox
  have hyl3 : y.es.length = k + 1 := by
    have := congrArg List.length hy1
    simp only [List.length_map, List.length_append, List.length_take, evL_len, List.length_singleton] at this
    omega
  refine go ?_
  refine E.al hs ?_
  intro b17 w20 hs
  refine E.sto (vs := [.int .i64 5, .int .u64 1, y.v, .int .i64 ((segB 5 1 ((evL ps 5 1 n).take k ++ [evP K T 5 (1 + k) 999 (.slice none 0 0)])).length : Nat)]) (ys := [.int .i64 5, .int .u64 1, y.v, .int .i64 ((segB 5 1 ((evL ps 5 1 n).take k ++ [evP K T 5 (1 + k) 999 (.slice none 0 0)])).length : Nat)]) hs ?_ (hv := rfl) (hsp := rfl)
  intro w21 hs
  have hs3x : s3.x = ⟨a8, c8, x.es ++ [(evP K T 5 (1 + k) 999 (.slice none 0 0)).ep.ev tv2]⟩ := by rw [← hs3]
  have hok3 : s3.x.ok g19 := by rw [hs3x]; exact hxo8.mono hg19
  have hraw3 : s3.x.es.map Ev.raw = ((evL ps 5 1 n).take k ++ [evP K T 5 (1 + k) 999 (.slice none 0 0)]).map Ev.ep := by
    rw [hs3x]
    simp only [List.map_append, List.map_cons, List.map_nil, ← hox1, Ep.raw_ev]
  have hkd3 : ∀ e ∈ (evL ps 5 1 n).take k ++ [evP K T 5 (1 + k) 999 (.slice none 0 0)], 1 ≤ e.kd ∧ e.kd ≤ 4 := by
    intro e he
    rcases List.mem_append.1 he with h | h
    · exact evL_kd e (List.mem_of_mem_take h)
    · rw [List.mem_singleton.1 h]
      simp only [evP]; omega
  have hl3 : s3.x.es.length = k + 1 := by rw [hs3x]; simp [hxl]
  refine go ?_
  refine E.callf Tryz.func25 rfl ?_
  refine sameAll_any (x := s3.x) (y := y) hok3 hyo3 (fit_raw hok3 hraw3 hkd3) (fit_raw hyo3 hy1.symm hkd3) (by omega) (by omega) hs ?_
  intro w22 g22 hg22 hs
  rw [sameE_raw (a := s3.x.es) (b := y.es) (by rw [hraw3]; exact hy1)]
  refine go ?_
  rw [decide_eq_true (show (y.es.length : Int) = (x.es.length : Int) + 1 by omega)]
  refine go ?_
  refine A.r1 ?_
  exact HR.out _ g22 (hgg.trans (hg17.trans (hg19.trans hg22))) hs.drop.drop.drop.drop.drop.drop
end Go.Proofs.YtdkbpcibmipelaaGreatDoor

/-
  Rows of one's own that begin behind the first place of their array: they grow, are cut from the front, written in place.
-/
namespace Go.Proofs.YtdkbpcibmipelaaGreatDoor
open Go.RowKit
set_option linter.unusedVariables false
set_option linter.unusedSimpArgs false
set_option linter.unusedSectionVars false

def ownoP (E : TypeId) (size : Nat) (v : Value) (n : Nat) (xs : List Value) (h : Hl) : Prop :=
  xs.length = n * size ∧ ((v = .slice none 0 0 ∧ n = 0 ∧ h = Hl.emp) ∨
    ∃ (b off cap : Nat) (cur : List Value), v = .slice (some ⟨b, off, none⟩) n cap ∧ n ≤ cap ∧ cap ≤ 9223372036854775807 ∧ off + cap * size ≤ cur.length ∧ (cur.drop off).take (n * size) = xs ∧ h = Hl.one b (.cells cur.toArray E (0, 0)))
def owno (E : TypeId) (size : Nat) (v : Value) (n : Nat) (xs : List Value) : HP := ⟨fun _ h => ownoP E size v n xs h, fun _ _ _ _ h => h⟩

theorem spl_mid : ∀ (vs pre xs post : List Value), xs.length = vs.length → spl (pre ++ xs ++ post) pre.length vs = pre ++ vs ++ post
  | [], pre, xs, post, h => by
    obtain rfl : xs = [] := List.eq_nil_of_length_eq_zero (by simpa using h)
    rfl
  | v :: vs, pre, x :: xs, post, h => by
    have e : (pre ++ (x :: xs) ++ post).set pre.length v = (pre ++ [v]) ++ xs ++ post := by
      rw [List.append_assoc, List.set_append, if_neg (by omega), Nat.sub_self]
      simp
    have e2 : pre.length + 1 = (pre ++ [v]).length := by simp
    show spl ((pre ++ (x :: xs) ++ post).set pre.length v) (pre.length + 1) vs = _
    rw [e, e2, spl_mid vs (pre ++ [v]) xs post (by simpa using h)]
    simp
theorem spl_len : ∀ (vs xs : List Value) (j : Nat), (spl xs j vs).length = xs.length
  | [], _, _ => rfl
  | v :: vs, xs, j => by
    show (spl (xs.set j v) (j + 1) vs).length = _
    rw [spl_len vs, List.length_set]

namespace Sat
variable {W w w' : World} {g g' : Hl} {H H' : List HP} {E : TypeId} {size : Nat} {v : Value} {n c : Nat} {xs : List Value} {a : Option Addr}
theorem onil (hs : Sat W w g H) : Sat W w g (owno E size (.slice none 0 0) 0 [] :: H) := hs.mknothing.conv fun h e => ⟨by simp, .inl ⟨rfl, rfl, e⟩⟩
theorem toO (hs : Sat W w g (ownw E size v n xs :: H)) : Sat W w g (owno E size v n xs :: H) := hs.conv fun h ⟨h1, h2⟩ => ⟨h1, by
  rcases h2 with h2 | ⟨b, cap, cur, e, hn, hm, hc, ht, he⟩
  · exact .inl h2
  · exact .inr ⟨b, 0, cap, cur.toList, e, hn, hm, by simpa using hc, by simpa using ht, by simpa using he⟩⟩
theorem olen (hs : Sat W w g (owno E size v n xs :: H)) : xs.length = n * size ∧ ∃ a c, v = .slice a n c ∧ n ≤ c ∧ c ≤ 9223372036854775807 ∧ (a = none → n = 0 ∧ c = 0) := hs.fact fun h ⟨h1, h2⟩ => ⟨h1, by
  rcases h2 with ⟨e, h0, _⟩ | ⟨b, off, cap, cur, e, hn, hm, _⟩
  · subst h0; exact ⟨none, 0, e, Nat.le_refl _, Nat.zero_le _, fun _ => ⟨rfl, rfl⟩⟩
  · exact ⟨_, cap, e, hn, hm, fun e => by simp at e⟩⟩
theorem oopen (hs : Sat W w g (owno E size (.slice a n c) n xs :: H)) (hn : a ≠ none) : ∃ b off cur, a = some ⟨b, off, none⟩ ∧ off + c * size ≤ cur.length ∧ (cur.drop off).take (n * size) = xs ∧ n ≤ c ∧ c ≤ 9223372036854775807 ∧ Sat W w g (blk b cur E :: H) := by
  obtain ⟨q1, q2, q3, h, ⟨x1, x2, d, ed, ⟨_, hp⟩, s⟩, dg, ag⟩ := hs
  rcases hp with ⟨e1, _⟩ | ⟨b, off, cap, cur, e1, h1, h2, hcs, htk, rfl⟩
  · simp only [Value.slice.injEq] at e1
    exact absurd e1.1 hn
  · simp only [Value.slice.injEq] at e1
    obtain ⟨rfl, -, rfl⟩ := e1
    exact ⟨b, off, cur, rfl, hcs, htk, h1, h2, q1, q2, q3, h, ⟨_, x2, d, ed, rfl, s⟩, dg, ag⟩
theorem oclose {b off : Nat} {cur : List Value} (hs : Sat W w g (blk b cur E :: H)) (hcs : off + c * size ≤ cur.length) (ht : (cur.drop off).take (n * size) = xs) (hn : n ≤ c) (hc : c ≤ 9223372036854775807) : Sat W w g (owno E size (.slice (some ⟨b, off, none⟩) n c) n xs :: H) := hs.conv fun h e => ⟨by
  have := Nat.mul_le_mul_right size hn
  rw [← ht, List.length_take, List.length_drop]; omega, .inr ⟨b, off, c, cur, rfl, hn, hc, hcs, ht, e⟩⟩
/-- It reads as a row. -/
theorem orow (hs : Sat W w g (owno E size v n xs :: H)) : Row size w (fun _ => True) v n xs := by
  obtain ⟨h1, h2, h3, h, ⟨a, x, d, rfl, ⟨hl, hp⟩, s⟩, dg, ag⟩ := hs
  rcases hp with ⟨rfl, rfl, _⟩ | ⟨b, off, cap, cur, rfl, hn, hm, hcs, ht, rfl⟩
  · obtain rfl : xs = [] := List.eq_nil_of_length_eq_zero (by simpa using hl)
    exact Row.nil _ _
  · refine ⟨hl, _, cap, rfl, hn, by unfold maxLen; omega, fun e => by simp at e, .inr ⟨b, off, cur.toArray, E, (0, 0), rfl, trivial, ag b (.cells cur.toArray E (0, 0)) ?_, by simpa using ht⟩⟩
    rcases dg b with e | e
    · simp [Hl.un, e, Hl.one]
    · simp [Hl.un, Hl.one] at e
/-- Without its first element. -/
theorem otail {b off : Nat} (hs : Sat W w g (owno E size (.slice (some ⟨b, off, none⟩) n c) n xs :: H)) (hn : 1 ≤ n) : Sat W w g (owno E size (.slice (some ⟨b, off + size, none⟩) (n - 1) (c - 1)) (n - 1) (xs.drop size) :: H) := by
  have hx := hs.olen.1
  obtain ⟨b', off', cur, e, hcs, ht, h1, h2, hb⟩ := hs.oopen (by simp)
  simp only [Option.some.injEq, Addr.mk.injEq] at e
  obtain ⟨rfl, rfl, -⟩ := e
  clear hs
  obtain ⟨c, rfl⟩ : ∃ c', c = c' + 1 := ⟨c - 1, by omega⟩
  obtain ⟨n, rfl⟩ : ∃ n', n = n' + 1 := ⟨n - 1, by omega⟩
  rw [Nat.add_mul, Nat.one_mul] at hcs ht hx
  simp only [Nat.add_sub_cancel]
  refine Sat.oclose (cur := cur) hb (by omega) ?_ (by omega) (by omega)
  rw [← ht, List.drop_take, List.drop_drop]
  congr 1
  omega
end Sat

section
variable {P : Program} {W w w' : World} {g g' : Hl} {H H' : List HP} {t e ty : TypeId} {z : Value} {size bytes : Nat} {n : Fm} {ρ : List (Nat × Value)} {Q : Exit → Act → World → Prop} {ops : Array Oper} {rest : List Oper} {d : Option Tmp} {ps : String} {af : Array Edge} {x y : Operand} {N : List (Nat × Value) → World → Prop}

theorem run_appendo (he : ElemOf P t e z size bytes) {a : Option Addr} {k c m : Nat} {u : Value} {xs news : List Value} (hs : Sat W w g (owno e size (.slice a k c) k xs :: H)) {D : Nat → Prop} (hrow : Row size w D u m news) (h1 : ∀ x ∈ news, x.oneCell' = true) (h63 : k + m ≤ 9223372036854775807) (hbytes : (k + m) * bytes ≤ 140737488355328) :
    ∃ a' c' w', (Builtin.append_ #[t, t] ty #[.slice a k c, u]).run P w = .ok (.slice a' (k + m) c') w' ∧ Sat W w' g (owno e size (.slice a' (k + m) c') (k + m) (xs ++ news) :: H) := by
  obtain ⟨hl, _, _, e0, hkc, hcm, hnone⟩ := hs.olen
  simp only [Value.slice.injEq] at e0
  obtain ⟨rfl, -, rfl⟩ := e0
  obtain ⟨ht, ⟨i, hi, hz, hsz, hb⟩, hzs, hpos⟩ := he
  by_cases hm : m = 0
  · subst hm
    have hn0 : news = [] := List.eq_nil_of_length_eq_zero (by simpa using hrow.1)
    subst hn0
    refine ⟨a, c, w, ?_, by simpa using hs⟩
    rcases hrow.news with ⟨rfl, _, _⟩ | ⟨a', c', rfl, _, _⟩
    · cases a <;> simp [Builtin.append_, run_underlying ht, sizeOf, typeInfo, hi, Builtin.lenOf, hkc, Builtin.firstCells, storeCells]
    · cases a <;> simp [Builtin.append_, run_underlying ht, sizeOf, typeInfo, hi, Builtin.lenOf, hkc, Builtin.firstCells, loadCells, loadCellsFrom, storeCells]
  rcases hrow.news with ⟨_, h0, _⟩ | ⟨a', c', rfl, hnl, hnc⟩
  · exact absurd h0 hm
  have fin : ∀ v' w', w'.ownsRow w.heap.size e size v' (k + m) (xs ++ news) → w.grownBy w' none → ∃ a2 c2, v' = .slice a2 (k + m) c2 ∧ Sat W w' g (owno e size (.slice a2 (k + m) c2) (k + m) (xs ++ news) :: H) := by
    intro v' w' ho hg
    have hs2 := (hs.drop.newOwn ho ⟨hg.os, hg.tape, hg.output, hg.size, fun q hq => hg.block q hq (by simp)⟩)
    obtain ⟨a2, c2, rfl, _⟩ := hs2.ownLen
    exact ⟨a2, c2, rfl, hs2.slack.toO⟩
  cases ha : a with
  | none =>
    subst ha
    obtain ⟨rfl, rfl⟩ := hnone rfl
    obtain rfl : xs = [] := List.eq_nil_of_length_eq_zero (by simpa using hl)
    obtain ⟨v', w', hrun, r1, r2, _⟩ := run_append_own (P := P) w w.heap.size t ty e i z size bytes ht hi hz hsz hb hzs hpos (.slice none 0 0) 0 [] (World.ownsRow_nil w _ e size) a' m c' news hnl hnc h1 (by unfold maxLen; omega) hbytes (Nat.le_refl _)
    obtain ⟨a2, c2, rfl, h2⟩ := fin v' w' r1 r2
    exact ⟨a2, c2, w', hrun, h2⟩
  | some ad =>
    by_cases hroom : k + m ≤ c
    · -- in place
      obtain ⟨b, off, cur, e1, hcs, htk, _, _, ho⟩ := hs.oopen (by rw [ha]; simp)
      rw [ha] at e1
      simp only [Option.some.injEq] at e1
      subst e1
      subst hsz
      have hks : (k + m) * i.size ≤ c * i.size := Nat.mul_le_mul_right _ hroom
      rw [Nat.add_mul] at hks
      have hrun := run_append_room_cells (P := P) w t ty e i ht hi b off k c a' m c' news hnl hnc h1 hroom
        (fun j hj => by rw [ho.cell, List.getElem?_eq_getElem (by omega)]; rfl) (fun j _ => ho.free _)
      refine ⟨_, _, _, hrun, ?_⟩
      have ho2 := Sat.sets news w cur (off + k * i.size) ho
      refine ho2.oclose (by rw [spl_len]; omega) ?_ hroom hcm
      have hsplit : cur = (cur.take (off + k * i.size)) ++ ((cur.drop (off + k * i.size)).take news.length) ++ cur.drop (off + k * i.size + news.length) := by
        have h2 : cur.drop (off + k * i.size + news.length) = (cur.drop (off + k * i.size)).drop news.length := by rw [List.drop_drop]
        rw [List.append_assoc, h2, List.take_append_drop, List.take_append_drop]
      have hpl : (cur.take (off + k * i.size)).length = off + k * i.size := by rw [List.length_take]; omega
      have hsp : spl cur (off + k * i.size) news = cur.take (off + k * i.size) ++ news ++ cur.drop (off + k * i.size + news.length) := by
        have := spl_mid news (cur.take (off + k * i.size)) ((cur.drop (off + k * i.size)).take news.length) (cur.drop (off + k * i.size + news.length)) (by rw [List.length_take, List.length_drop]; omega)
        rw [hpl, ← hsplit] at this
        exact this
      rw [hsp, List.append_assoc, List.drop_append, hpl]
      have e2 : off - (off + k * i.size) = 0 := by omega
      rw [e2, List.drop_zero, List.drop_take]
      have e3 : off + k * i.size - off = k * i.size := by omega
      rw [e3, htk, ← List.append_assoc, List.take_append_of_le_length (by rw [List.length_append, hl, hnl, Nat.add_mul]; omega), List.take_of_length_le (by rw [List.length_append, hl, hnl, Nat.add_mul]; omega)]
    · subst ha
      have hc0 : ∀ j u, xs[j]? = some u → w.cell? (ad.add j) = some u := by
        rcases hs.orow.news with ⟨e, _⟩ | ⟨a, c, e, _, hc⟩
        · cases e
        · simp only [Value.slice.injEq, Option.some.injEq] at e
          obtain ⟨rfl, _⟩ := e
          exact hc
      obtain ⟨v', w', hrun, r1, r2⟩ := run_append_arg_grows (P := P) w t ty e i z size bytes ht hi hz hsz hb hzs hpos ad k c xs hl hc0 a' m c' news hnl hnc (by omega) (by unfold maxLen; omega) hbytes
      obtain ⟨a2, c2, rfl, h2⟩ := fin v' w' r1 r2
      exact ⟨a2, c2, w', hrun, h2⟩

theorem St.appo {s : Operand} {a : Option Addr} {k c m : Nat} {u : Value} {xs news : List Value} (he : ElemOf P t e z size bytes) (hs : Sat W w g (owno e size (.slice a k c) k xs :: H)) {D : Nat → Prop} (hrow : Row size w D u m news)
    (h : ∀ a' c' w', Sat W w' g (owno e size (.slice a' (k + m) c') (k + m) (xs ++ news) :: H) → N (pushv d (.slice a' (k + m) c') ρ) w') (h63 : k + m ≤ 9223372036854775807 := by omega) (hbytes : (k + m) * bytes ≤ 140737488355328 := by omega)
    (hx : evo n ρ s = some (.slice a k c) := by exact rfl) (hy : evo n ρ y = some u := by exact rfl) (h1 : ∀ x ∈ news, x.oneCell' = true := by first | exact bs_one _ | (intro u hu; simp only [List.mem_cons, List.not_mem_nil, or_false] at hu; rcases hu with rfl | rfl | rfl | rfl <;> exact rfl)) :
    St P n ops ⟨d, .call ⟨.builtin .append, #[s, y], #[t, t]⟩, ty, ps, af, none⟩ ρ w N Q := by
  obtain ⟨a', c', w', hr, hs'⟩ := run_appendo (P := P) (ty := ty) he hs hrow h1 h63 hbytes
  refine St.val (v := .slice a' (k + m) c') (w' := w') (fun ac ha => ?_) (h a' c' w' hs')
  simp only [execOp, resolve, invoke, builtin, Sem.run_bind, Sem.run_pure, Result.andThen_ok, List.map_toArray, List.map_cons, List.map_nil, ha.eval hx, ha.eval hy, hr]
/-- append onto such a row. -/
theorem E.appo {s : Operand} {a : Option Addr} {k c m : Nat} {u : Value} {xs news : List Value} (he : ElemOf P t e z size bytes) (hs : Sat W w g (owno e size (.slice a k c) k xs :: H)) {D : Nat → Prop} (hrow : Row size w D u m news)
    (h : ∀ a' c' w', Sat W w' g (owno e size (.slice a' (k + m) c') (k + m) (xs ++ news) :: H) → E P n ops rest (pushv d (.slice a' (k + m) c') ρ) w' Q) (h63 : k + m ≤ 9223372036854775807 := by omega) (hbytes : (k + m) * bytes ≤ 140737488355328 := by omega)
    (hx : evo n ρ s = some (.slice a k c) := by exact rfl) (hy : evo n ρ y = some u := by exact rfl) (h1 : ∀ x ∈ news, x.oneCell' = true := by first | exact bs_one _ | (intro u hu; simp only [List.mem_cons, List.not_mem_nil, or_false] at hu; rcases hu with rfl | rfl | rfl | rfl <;> exact rfl)) :
    E P n ops (⟨d, .call ⟨.builtin .append, #[s, y], #[t, t]⟩, ty, ps, af, none⟩ :: rest) ρ w Q := E.cons (St.appo he hs hrow h h63 hbytes hx hy h1)
/-- s[1:] of such a row. -/
theorem E.slo {b off m c : Nat} {lo : Operand} {kd : IntKind} {xs : List Value} (he : ElemOf P t e z size bytes) (hs : Sat W w g (owno e size (.slice (some ⟨b, off, none⟩) m c) m xs :: H)) (hm : 2 ≤ m)
    (h : Sat W w g (owno e size (.slice (some ⟨b, off + size, none⟩) (m - 1) (c - 1)) (m - 1) (xs.drop size) :: H) → E P n ops rest (pushv d (.slice (some ⟨b, off + size, none⟩) (m - 1) (c - 1)) ρ) w Q)
    (hx : evo n ρ x = some (.slice (some ⟨b, off, none⟩) m c) := by exact rfl) (h1 : evo n ρ lo = some (.int kd 1) := by exact rfl) :
    E P n ops (⟨d, .slice t x (some lo) none none, ty, ps, af, none⟩ :: rest) ρ w Q := by
  obtain ⟨_, _, _, e0, hmc, hcm, hN⟩ := hs.olen
  simp only [Value.slice.injEq] at e0
  obtain ⟨rfl, -, rfl⟩ := e0
  have hr := fun w => run_slice_any (P := P) (a := some ⟨b, off, none⟩) (vl := some (.int kd 1)) (vh := none) (vm := none) (l := 1) (h := m) (m := c) he (.inr ⟨_, _, rfl, rfl⟩) (.inl ⟨rfl, rfl⟩) (.inl ⟨rfl, rfl⟩) hmc (by omega) hmc (Nat.le_refl _) (fun _ => hmc) w
  refine E.pv (v := .slice (some ⟨b, off + size, none⟩) (m - 1) (c - 1)) (Pv.slice (l := some (.int kd 1)) (h := none) (m := none) hx (by simp only [evm, h1]) rfl rfl (fun w => ?_)) (h (hs.otail (by omega)))
  rw [hr w, if_neg (by omega)]
  simp [Addr.add]
end
end Go.Proofs.YtdkbpcibmipelaaGreatDoor
