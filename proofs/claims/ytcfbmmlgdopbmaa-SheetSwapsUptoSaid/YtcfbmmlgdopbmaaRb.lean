/-
  The reference of layer 3: the sum of some bytes, by the highest bit first.
-/
import Derived.Test.YtcfbmmlgdopbmaaRa
namespace Go.Proofs.Ytcfbmmlgdopbmaa
open Go.RowKit
set_option linter.unusedVariables false
set_option linter.unusedSimpArgs false

def rbit (s bit : Nat) : Nat := if bit = s / 2 ^ 31 then s * 2 ^ 1 % 2 ^ 32 else (s * 2 ^ 1 % 2 ^ 32) ^^^ 517762881
def rbk (b : Nat) : Nat → Nat → Nat
  | 0, s => s
  | k + 1, s => rbit (rbk b k s) ((b / 2 ^ k) &&& 1)
def rvk (s : Nat) : Nat → Nat
  | 0 => 0
  | k + 1 => (rvk s k * 2 ^ 1 % 2 ^ 32) ||| ((s / 2 ^ k) &&& 1)
def rfold (l : List UInt8) : Nat := l.foldl (fun s b => rbk b.toNat 8 s) 4294967295
def rsum (l : List UInt8) : Nat := rvk ((2 ^ 32 - 1) ^^^ rfold l) 32
theorem rbit_lt {s bit : Nat} : rbit s bit < 4294967296 := by
  unfold rbit
  split
  · omega
  · exact Nat.xor_lt_two_pow (n := 32) (Nat.mod_lt _ (by decide)) (by decide)
theorem rbk_lt {b s : Nat} (h : s < 4294967296) : ∀ k, rbk b k s < 4294967296
  | 0 => h
  | k + 1 => rbit_lt
theorem rvk_lt (s : Nat) : ∀ k, rvk s k < 4294967296
  | 0 => by simp [rvk]
  | k + 1 => Nat.or_lt_two_pow (n := 32) (Nat.mod_lt _ (by decide)) (by rw [Nat.and_one_is_mod]; omega)
theorem rfold_lt (l : List UInt8) : rfold l < 4294967296 := by
  unfold rfold
  suffices h : ∀ (l : List UInt8) s, s < 4294967296 → l.foldl (fun s b => rbk b.toNat 8 s) s < 4294967296 from h l _ (by decide)
  intro l
  induction l with
  | nil => exact fun s h => h
  | cons b r ih => exact fun s h => ih _ (rbk_lt h 8)

set_option maxHeartbeats 1600000 in
set_option maxRecDepth 100000 in
theorem rsum_any {R : Ending → World → Prop} {w : World} {a : Option Addr} {n c : Nat} {D : Nat → Prop} {l : List UInt8} (hp : Row 1 w D (.slice a n c) n (bs l)) (hl : l.length = n)
    (hR : R (.returned (.int .u32 (rsum l : Nat))) w) :
    Calls Try.prog 53 #[.slice a n c] w R := by
  have HR := Lib.hid hR
  clear hR
  have hle := hp.len
  obtain ⟨_, _, e0, hnc, hcm⟩ := hle
  unfold maxLen at hcm
  simp only [Value.slice.injEq] at e0
  obtain ⟨rfl, -, rfl⟩ := e0
  refine C.calls (args := [.slice a n c]) Try.func53 rfl rfl rfl ?_
  refine gob ?_
  refine C.cutQ (fun s : Nat => [(3, .int .u32 s)]) (fun s w' => w' = w ∧ s = rfold l) ?_ ?_
  · refine C.block ?_
    refine C.lp (fun x : Nat × Nat => [(0, .slice a n c), (3, .int .u32 x.2), (4, .int .i64 x.1)])
      (fun gk x w' => w' = w ∧ gk = n - x.1 ∧ x.1 ≤ n ∧ x.2 < 4294967296 ∧ (l.drop x.1).foldl (fun s b => rbk b.toNat 8 s) x.2 = rfold l) n (0, 4294967295) ⟨rfl, rfl, Nat.zero_le _, by simp only; omega, rfl⟩ ?_
    rintro gk ⟨i, s⟩ w' ⟨rfl, hgk, hi, hlt0, hf⟩
    simp only at hgk hi hlt0 hf ⊢
    refine go ?_
    refine C.cond_dec (p := (i : Int) < n) rfl (fun hlt => ?_) (fun hlt => ?_)
    rotate_left
    · refine go ?_
      have e : l.drop i = [] := List.drop_eq_nil_of_le (by omega)
      rw [e] at hf
      exact A.mt s ⟨rfl, hf⟩
    · have hin : i < l.length := by omega
      rw [List.drop_eq_getElem_cons hin, List.foldl_cons] at hf
      refine gob ?_
      refine C.block ?_
      refine gob ?_
      refine C.cutQ (fun s' : Nat => [(0, .slice a n c), (3, .int .u32 s'), (4, .int .i64 i)]) (fun s' w2 => w2 = w' ∧ s' = rbk l[i].toNat 8 s) ?_ ?_
      · refine C.block ?_
        refine C.lp (fun k : Nat => [(0, .slice a n c), (3, .int .u32 (rbk l[i].toNat k s : Nat)), (4, .int .i64 i), (5, .int .i64 k)])
          (fun gk k w2 => w2 = w' ∧ gk = 8 - k ∧ k ≤ 8) 8 0 ⟨rfl, rfl, by omega⟩ ?_
        rintro gk2 k w2 ⟨rfl, hgk2, hk⟩
        have hs1 := rbk_lt (b := l[i].toNat) hlt0 k
        have hb := l[i].toNat_lt
        have hdiv : l[i].toNat / 2 ^ k ≤ 255 := Nat.le_trans (Nat.div_le_self _ _) (by omega)
        refine go ?_
        refine C.cond_dec (p := (k : Int) < 8) rfl (fun hlt => ?_) (fun hlt => ?_)
        rotate_left
        · refine go ?_
          have : k = 8 := by omega
          subst this
          exact A.mt (rbk l[i].toNat 8 s) ⟨rfl, rfl⟩
        · refine go ?_
          refine E.ixr el_u8 hp i (bs_get hin) ?_
          intro b6 o6 hc6
          refine go ?_
          have hmod : l[i].toNat / 2 ^ k % 4294967296 = l[i].toNat / 2 ^ k := Nat.mod_eq_of_lt (Nat.lt_of_le_of_lt hdiv (by decide))
          rw [hmod]
          have htop : rbk l[i].toNat k s / 2 ^ 31 < 4294967296 := by omega
          have h0 : rbk l[i].toNat (k + 1) s = rbit (rbk l[i].toNat k s) ((l[i].toNat / 2 ^ k) &&& 1) := rfl
          by_cases hbt : (l[i].toNat / 2 ^ k) &&& 1 = rbk l[i].toNat k s / 2 ^ 31
          · have hd : decide ((((l[i].toNat / 2 ^ k) &&& 1 : Nat) : Int) = ((rbk l[i].toNat k s / 2 ^ 31 : Nat) : Int)) = true := by simp only [decide_eq_true_eq, Int.natCast_inj]; exact hbt
            refine C.cond rfl (fun h => by rw [hd] at h; cases h) (fun _ => ?_)
            rw [rbit, if_pos hbt] at h0
            refine go ?_
            refine A.rd (8 - (k + 1)) (k + 1) ⟨rfl, rfl, by omega⟩ (hw := by rw [h0]; exact wk_)
          · have hd : decide ((((l[i].toNat / 2 ^ k) &&& 1 : Nat) : Int) = ((rbk l[i].toNat k s / 2 ^ 31 : Nat) : Int)) = false := by simp only [decide_eq_false_iff_not, Int.natCast_inj]; exact hbt
            refine C.cond rfl (fun _ => ?_) (fun h => by rw [hd] at h; cases h)
            rw [rbit, if_neg hbt] at h0
            have hm : rbk l[i].toNat k s * 2 ^ 1 % 2 ^ 32 < 4294967296 := by omega
            refine go ?_
            refine A.rd (8 - (k + 1)) (k + 1) ⟨rfl, rfl, by omega⟩ (hw := by rw [h0]; exact wk_)
      · rintro s' w2 ⟨rfl, rfl⟩
        refine go ?_
        exact A.rd (n - (i + 1)) (i + 1, rbk l[i].toNat 8 s) ⟨rfl, rfl, by simp only; omega, rbk_lt hlt0 8, hf⟩
  · rintro s w' ⟨rfl, rfl⟩
    have hrl := rfold_lt l
    refine gob ?_
    have hx : (2 ^ 32 - 1) ^^^ rfold l < 4294967296 := Nat.xor_lt_two_pow (n := 32) (by decide) hrl
    have ex : 2 ^ IntKind.u32.bits - 1 ^^^ rfold l = (2 ^ 32 - 1) ^^^ rfold l := rfl
    refine C.cutQ (fun _ : Unit => [(8, .int .u32 (rsum l : Nat))]) (fun _ w2 => w2 = w') ?_ ?_
    · rw [show rsum l = rvk ((2 ^ 32 - 1) ^^^ rfold l) 32 from rfl]
      refine C.block ?_
      refine C.lp (fun k : Nat => [(3, .int .u32 ((2 ^ 32 - 1) ^^^ rfold l : Nat)), (8, .int .u32 (rvk ((2 ^ 32 - 1) ^^^ rfold l) k : Nat)), (9, .int .i64 k)])
        (fun gk k w2 => w2 = w' ∧ gk = 32 - k ∧ k ≤ 32) 32 0 ⟨rfl, rfl, by omega⟩ ?_
      generalize (2 ^ 32 - 1) ^^^ rfold l = z at hx
      rintro gk2 k w2 ⟨rfl, hgk2, hk⟩
      have hz1 := rvk_lt z k
      have hz2 : z / 2 ^ k < 4294967296 := Nat.lt_of_le_of_lt (Nat.div_le_self _ _) hx
      have hz3 : rvk z k * 2 ^ 1 % 2 ^ 32 < 4294967296 := Nat.mod_lt _ (by decide)
      refine go ?_
      refine C.cond_dec (p := (k : Int) < 32) rfl (fun hlt => ?_) (fun hlt => ?_)
      · refine go ?_
        exact A.rd (32 - (k + 1)) (k + 1) ⟨rfl, rfl, by omega⟩
      · have : k = 32 := by omega
        subst this
        refine go ?_
        exact A.mt () rfl
    · rintro _ w2 rfl
      refine go ?_
      refine A.r1 ?_
      exact HR.out

/-! The two sums are one. -/
/-- Bits turned around. -/
def Rv (s r : Nat) : Prop := s < 4294967296 ∧ r < 4294967296 ∧ ∀ j, j < 32 → r.testBit j = s.testBit (31 - j)
theorem rv_poly : Rv 2197175160 517762881 := by
  refine ⟨by decide, by decide, ?_⟩
  have : ∀ j : Fin 32, Nat.testBit 517762881 j.val = Nat.testBit 2197175160 (31 - j.val) := by decide +kernel
  exact fun j hj => this ⟨j, hj⟩
theorem Rv.xor {s r s' r' : Nat} (h : Rv s r) (h' : Rv s' r') : Rv (s ^^^ s') (r ^^^ r') :=
  ⟨Nat.xor_lt_two_pow (n := 32) h.1 h'.1, Nat.xor_lt_two_pow (n := 32) h.2.1 h'.2.1, fun j hj => by rw [Nat.testBit_xor, Nat.testBit_xor, h.2.2 j hj, h'.2.2 j hj]⟩
theorem Rv.shift {s r : Nat} (h : Rv s r) : Rv (s / 2 ^ 1) (r * 2 ^ 1 % 2 ^ 32) := by
  obtain ⟨h1, h2, h3⟩ := h
  refine ⟨by omega, Nat.mod_lt _ (by decide), fun j hj => ?_⟩
  rw [Nat.testBit_mod_two_pow, Nat.testBit_mul_two_pow, Nat.testBit_div_two_pow]
  rcases Nat.eq_zero_or_pos j with rfl | hp
  · have : s.testBit (31 - 0 + 1) = false := Nat.testBit_lt_two_pow (by simpa using h1)
    rw [this]; simp
  · rw [show 31 - j + 1 = 31 - (j - 1) by omega, ← h3 (j - 1) (by omega)]
    have : 1 ≤ j := hp
    simp [hj, this]
theorem Rv.top {s r : Nat} (h : Rv s r) : r / 2 ^ 31 = s &&& 1 := by
  obtain ⟨h1, h2, h3⟩ := h
  have h0 := h3 31 (by decide)
  have e1 : r / 2 ^ 31 = (r.testBit 31).toNat := by
    rw [Nat.testBit_eq_decide_div_mod_eq]
    have : r / 2 ^ 31 < 2 := by omega
    rcases (show r / 2 ^ 31 = 0 ∨ r / 2 ^ 31 = 1 by omega) with h | h <;> rw [h] <;> rfl
  have e2 : s &&& 1 = (s.testBit 0).toNat := by
    rw [Nat.testBit_eq_decide_div_mod_eq, Nat.and_one_is_mod]
    rcases Nat.mod_two_eq_zero_or_one s with h | h <;> simp [h]
  rw [e1, e2, h0]
theorem crcBit_if (s : Nat) : crcBit s = if s &&& 1 = 1 then (s / 2 ^ 1) ^^^ 2197175160 else s / 2 ^ 1 := by
  unfold crcBit
  rcases (show s &&& 1 = 0 ∨ s &&& 1 = 1 by rw [Nat.and_one_is_mod]; omega) with h | h <;> simp [h]
/-- One bit: the byte's bit meets the lowest one here, the highest one there. -/
theorem rv_step {s r c : Nat} (h : Rv s r) (hc : c = 0 ∨ c = 1) : Rv (if (s &&& 1) ^^^ c = 1 then (s / 2 ^ 1) ^^^ 2197175160 else s / 2 ^ 1) (rbit r c) := by
  have ht := h.top
  unfold rbit
  rw [ht]
  have hs : s &&& 1 = 0 ∨ s &&& 1 = 1 := by rw [Nat.and_one_is_mod]; omega
  rcases hs with hs | hs <;> rcases hc with rfl | rfl <;> rw [hs] <;> simp only [Nat.reduceXor, Nat.zero_ne_one, Nat.one_ne_zero, if_true, if_false, Nat.xor_self, Nat.xor_zero, Nat.zero_xor]
  · exact h.shift
  · exact h.shift.xor rv_poly
  · exact h.shift.xor rv_poly
  · exact h.shift
/-- A byte, bit by bit. -/
def sbk (b : Nat) : Nat → Nat → Nat
  | 0, s => s
  | k + 1, s => if (sbk b k s &&& 1) ^^^ ((b / 2 ^ k) &&& 1) = 1 then (sbk b k s / 2 ^ 1) ^^^ 2197175160 else sbk b k s / 2 ^ 1
theorem rv_sbk {s r b : Nat} (h : Rv s r) : ∀ k, Rv (sbk b k s) (rbk b k r)
  | 0 => h
  | k + 1 => rv_step (rv_sbk h k) (by rw [Nat.and_one_is_mod]; omega)
theorem crcN_succ : ∀ (k s : Nat), crcN (k + 1) s = crcBit (crcN k s)
  | 0, _ => rfl
  | k + 1, s => by
    show crcN (k + 1) (crcBit s) = crcBit (crcN k (crcBit s))
    exact crcN_succ k (crcBit s)
theorem and_xor_one (a b : Nat) : (a ^^^ b) &&& 1 = (a &&& 1) ^^^ (b &&& 1) := by
  apply Nat.eq_of_testBit_eq
  intro i
  simp only [Nat.testBit_and, Nat.testBit_xor]
  cases a.testBit i <;> cases b.testBit i <;> cases Nat.testBit 1 i <;> rfl
theorem xor_div (a b k : Nat) : (a ^^^ b) / 2 ^ k = (a / 2 ^ k) ^^^ (b / 2 ^ k) := by
  apply Nat.eq_of_testBit_eq
  intro i
  simp only [Nat.testBit_div_two_pow, Nat.testBit_xor]
theorem crcN_sbk (b s : Nat) : ∀ k, crcN k (s ^^^ b) = sbk b k s ^^^ (b / 2 ^ k)
  | 0 => by simp [crcN, sbk]
  | k + 1 => by
    rw [crcN_succ, crcN_sbk b s k, crcBit_if, and_xor_one, xor_div, Nat.div_div_eq_div_mul, ← Nat.pow_add]
    simp only [sbk]
    split
    · rw [Nat.xor_assoc, Nat.xor_assoc, Nat.xor_comm (b / 2 ^ (k + 1))]
    · rfl
theorem crcByte_sbk (s : Nat) (b : UInt8) : crcByte s b = sbk b.toNat 8 s := by
  have hb := b.toNat_lt
  unfold crcByte
  rw [crcN_sbk, Nat.div_eq_of_lt (by omega), Nat.xor_zero]
theorem rv_fold : ∀ (l : List UInt8) (s r : Nat), Rv s r → Rv (l.foldl crcByte s) (l.foldl (fun s b => rbk b.toNat 8 s) r)
  | [], _, _, h => h
  | b :: l, s, r, h => by
    simp only [List.foldl_cons]
    rw [crcByte_sbk]
    exact rv_fold l _ _ (rv_sbk h 8)
theorem rv_ones : Rv 4294967295 4294967295 := by
  refine ⟨by decide, by decide, ?_⟩
  have : ∀ j : Fin 32, Nat.testBit 4294967295 j.val = Nat.testBit 4294967295 (31 - j.val) := by decide +kernel
  exact fun j hj => this ⟨j, hj⟩
theorem rvk_bit (s : Nat) : ∀ k, k ≤ 32 → ∀ j, (rvk s k).testBit j = (decide (j < k) && s.testBit (k - 1 - j))
  | 0, _, j => by simp [rvk]
  | k + 1, hk, j => by
    have e1 : ((s / 2 ^ k) &&& 1).testBit j = (decide (j = 0) && s.testBit k) := by
      rw [Nat.testBit_and, Nat.testBit_div_two_pow]
      rcases Nat.eq_zero_or_pos j with rfl | hp
      · simp
      · have : Nat.testBit 1 j = false := by
          rw [show (1 : Nat) = 2 ^ 0 from rfl, Nat.testBit_two_pow]; simp; omega
        rw [this]
        have : ¬ j = 0 := by omega
        simp [this]
    have e2 : (rvk s k * 2 ^ 1 % 2 ^ 32).testBit j = (decide (1 ≤ j ∧ j < k + 1) && s.testBit (k - j)) := by
      rw [Nat.testBit_mod_two_pow, Nat.testBit_mul_two_pow]
      by_cases h1 : 1 ≤ j
      · rw [rvk_bit s k (by omega) (j - 1)]
        by_cases h2 : j < k + 1
        · have h3 : j - 1 < k := by omega
          have h4 : j < 32 := by omega
          simp [h1, h2, h3, h4]
          congr 1
          omega
        · have h3 : ¬ j - 1 < k := by omega
          simp [h2, h3]
      · simp [h1]
    simp only [rvk, Nat.testBit_or, e1, e2]
    rcases Nat.eq_zero_or_pos j with rfl | hp
    · simp
    · have h0 : ¬ j = 0 := by omega
      have h1 : 1 ≤ j := hp
      simp [h0, h1, show k + 1 - 1 - j = k - j by omega]
theorem rsum_crc (l : List UInt8) : rsum l = crc l := by
  have h := rv_fold l _ _ rv_ones
  have h2 := Rv.xor rv_ones h
  apply Nat.eq_of_testBit_eq
  intro j
  unfold rsum
  rw [rvk_bit _ 32 (Nat.le_refl _) j]
  by_cases hj : j < 32
  · have := h2.2.2 (31 - j) (by omega)
    rw [show 31 - (31 - j) = j by omega] at this
    simp only [hj, decide_true, Bool.true_and]
    exact this
  · have : (crc l).testBit j = false := Nat.testBit_lt_two_pow (Nat.lt_of_lt_of_le (crc_lt l) (Nat.le_trans (by decide) (Nat.pow_le_pow_right (by decide) (show 32 ≤ j by omega))))
    simp [hj, this]

set_option maxHeartbeats 1600000 in
set_option maxRecDepth 100000 in
theorem rwrap_any {R : Ending → World → Prop} {W w : World} {g : Hl} {H : List HP} {a : Option Addr} {n c : Nat} {t : List UInt8} (hs : Sat W w g H) (hp : Pr 1 g (.slice a n c) n (bs t)) (ht : t.length = n) (hm : n ≤ 1000000000)
    (hR : ∀ a' c' w', Sat W w' g (own 5 1 (.slice a' (wrapB t).length c') (wrapB t).length (bs (wrapB t)) :: H) → R (.returned (.slice a' (wrapB t).length c')) w') :
    Calls Try.prog 31 #[.slice a n c] w R := by
  have HR := Lib.hid hR
  clear hR
  refine C.calls (args := [.slice a n c]) Try.func31 rfl rfl rfl ?_
  refine go ?_
  refine E.callf Try.func52 rfl ?_
  refine ?_
  refine C.calls (args := [.slice none 0 0, .slice a n c]) Try.func52 rfl rfl rfl ?_
  refine go ?_
  refine E.callf Try.func32 rfl ?_
  refine rlay_any (xs := []) (D := fun _ => True) hs (fun w' _ => Row.nil _ _) rfl (by decide) (by omega) ?_
  intro a1 c1 w1 hs
  simp only [List.nil_append] at hs ⊢
  have hten := layN_ten (n := n) (by omega)
  refine go ?_
  refine E.app el_u8 hs (hp.row hs) ?_
  intro a2 c2 w2 _ _ hs
  refine go ?_
  refine A.r1 ?_
  have e1 : bs (layN n) ++ bs t = bs (textB t) := by rw [← bs_append, textB, ht]
  have e2 : (layN n).length + n = (textB t).length := by rw [textB, List.length_append, ht]
  rw [e1, e2] at hs
  rw [e2]
  refine go ?_
  have hrow : Row 1 w2 (fun _ => True) (.slice a2 (textB t).length c2) (textB t).length (bs (textB t)) := Row.of_owns hs.owns (fun _ _ => trivial)
  refine E.callf Try.func53 rfl ?_
  refine rsum_any hrow rfl ?_
  rw [rsum_crc]
  have hc := crc_lt (textB t)
  generalize hcc : crc (textB t) = q at hc ⊢
  refine go ?_
  refine E.bsl hs ?_
  intro b3 w3 hs
  have htl := textB_len t (by omega)
  refine E.app el_u8 hs.swap (hs.rowOf (size := 1) 4 rfl (by decide)) ?_ (h1 := ?_)
  rotate_left
  · intro u hu
    simp only [List.mem_cons, List.not_mem_nil, or_false] at hu
    rcases hu with rfl | rfl | rfl | rfl <;> exact rfl
  intro a4 c4 w4 _ _ hs
  refine go ?_
  refine A.r1 ?_
  have key := HR.out a4 c4 w4
  have e3 : bs (wrapB t) = bs (textB t) ++ [.int .u8 ((q : Int) / 16777216), .int .u8 ((q : Int) / 65536 % 256), .int .u8 ((q : Int) / 256 % 256), .int .u8 ((q : Int) % 256)] := by
    rw [wrapB, hcc, bs_append, fourB]
    simp only [bs, List.map_cons, List.map_nil, UInt8.toNat_ofNat', List.append_cancel_left_eq, List.cons.injEq, Value.int.injEq, true_and, and_true]
    omega
  have e4 : (wrapB t).length = (textB t).length + 4 := by rw [wrapB, List.length_append, fourB]; rfl
  rw [e3, e4] at key
  exact key hs.swap.drop
end Go.Proofs.Ytcfbmmlgdopbmaa
