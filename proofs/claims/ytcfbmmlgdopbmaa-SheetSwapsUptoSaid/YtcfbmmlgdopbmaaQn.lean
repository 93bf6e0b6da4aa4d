/-
  Layers 2 and 3: what is laid is taken again (lists of bytes alone).
-/
import Derived.Test.YtcfbmmlgdopbmaaQj
import Derived.Test.YtcfbmmlgdopbmaaQh
namespace Go.Proofs.Ytcfbmmlgdopbmaa

theorem and127 (n : Nat) : n &&& 127 = n % 128 := by
  have := Nat.and_two_pow_sub_one_eq_mod n 7
  simpa using this
theorem or_mul (n a i : Nat) (h : n < 2 ^ i) : n ||| (a * 2 ^ i) = n + a * 2 ^ i := by
  have := Nat.two_pow_add_eq_or_of_lt h a
  rw [Nat.mul_comm] at this
  rw [Nat.or_comm, Nat.add_comm]
  exact this.symm
theorem or128 (m : Nat) (h : m < 256) : (m ||| 128) < 256 ∧ 128 ≤ (m ||| 128) ∧ (m ||| 128) % 128 = m % 128 := by
  have : ∀ m : Fin 256, ((m.val ||| 128) < 256 ∧ 128 ≤ (m.val ||| 128) ∧ (m.val ||| 128) % 128 = m.val % 128) := by decide +kernel
  exact this ⟨m, h⟩
/-- Taking what was laid: the general step. -/
theorem takeGo_lay (r : List UInt8) : ∀ (k i s n : Nat), n < 128 ^ k → 1 ≤ k → i + k ≤ 10 → (i = 0 ∨ 0 < n) → (k + i = 10 → n < 2 * 128 ^ (k - 1)) → s < 2 ^ (7 * i) →
    takeGo i s (layN n ++ r) = (s + n * 2 ^ (7 * i), i + (layN n).length, 0)
  | 0, _, _, _, _, hk, _, _, _, _ => by omega
  | k + 1, i, s, n, hn, _, hik, hi0, h10, hs => by
    by_cases h : n < 128
    · rw [layN_small h]
      have h8 : (UInt8.ofNat n).toNat = n := by simp; omega
      have hbad : ¬ ((i = 9 ∧ 1 < n) ∨ (0 < i ∧ n = 0)) := by
        rintro (⟨rfl, h1⟩ | ⟨h1, rfl⟩)
        · have : k = 0 := by omega
          subst this
          have := h10 (by omega)
          omega
        · omega
      simp only [List.cons_append, List.nil_append, takeGo, h8]
      rw [if_neg hbad, if_pos h, and127, Nat.mod_eq_of_lt h, or_mul _ _ _ hs]
      simp
    · rw [layN_big h]
      obtain ⟨o1, o2, o3⟩ := or128 (n % 256) (Nat.mod_lt _ (by decide))
      have h8 : (UInt8.ofNat ((n % 256) ||| 128)).toNat = (n % 256) ||| 128 := by rw [UInt8.toNat_ofNat', Nat.mod_eq_of_lt (by simpa using o1)]
      have hk1 : 1 ≤ k := by
        rcases Nat.eq_zero_or_pos k with rfl | h'
        · simp at hn; omega
        · exact h'
      have hbad : ¬ ((i = 9 ∧ 1 < ((n % 256) ||| 128)) ∨ (0 < i ∧ ((n % 256) ||| 128) = 0)) := by omega
      simp only [List.cons_append, takeGo, h8]
      rw [if_neg hbad, if_neg (by omega), and127, o3, or_mul _ _ _ hs]
      have hm : n % 256 % 128 = n % 128 := Nat.mod_mod_of_dvd n (by decide)
      rw [hm]
      have hp : (2 : Nat) ^ (7 * (i + 1)) = 128 * 2 ^ (7 * i) := by rw [Nat.mul_add, Nat.pow_add, Nat.mul_comm]
      have hdiv := Nat.div_add_mod n 128
      have e7 : (2 : Nat) ^ 7 = 128 := rfl
      rw [e7]
      rw [takeGo_lay r k (i + 1) _ (n / 128) ?_ hk1 (by omega) (.inr (by omega)) ?_ ?_]
      · simp only [List.length_cons, Prod.mk.injEq, and_true]
        refine ⟨?_, by omega⟩
        rw [hp]
        have : n / 128 * (128 * 2 ^ (7 * i)) = 128 * (n / 128) * 2 ^ (7 * i) := by
          rw [← Nat.mul_assoc, Nat.mul_comm (n / 128) 128]
        rw [this, Nat.add_assoc, ← Nat.add_mul, Nat.add_comm (n % 128), hdiv]
      · rw [Nat.div_lt_iff_lt_mul (by decide)]
        rw [Nat.pow_succ] at hn; exact hn
      · intro h'
        have := h10 (by omega)
        obtain ⟨k', rfl⟩ : ∃ k', k = k' + 1 := ⟨k - 1, by omega⟩
        simp only [Nat.add_sub_cancel] at this ⊢
        rw [Nat.div_lt_iff_lt_mul (by decide)]
        rw [Nat.pow_succ] at this; omega
      · rw [hp]
        have : n % 128 * 2 ^ (7 * i) ≤ 127 * 2 ^ (7 * i) := Nat.mul_le_mul_right _ (by omega)
        omega
theorem takeGo_layN (n : Nat) (hn : n < 18446744073709551616) (r : List UInt8) : takeGo 0 0 (layN n ++ r) = (n, (layN n).length, 0) := by
  have := takeGo_lay r 10 0 0 n (by omega) (by decide) (by decide) (.inl rfl) (fun _ => by omega) (by decide)
  simpa using this
theorem rdNum_lay (most n : Nat) (hn : n < 18446744073709551616) (hm : n ≤ most) (r : List UInt8) : rdNum most (layN n ++ r) = .ok (n, r) := by
  simp [rdNum, takeGo_layN n hn r]; omega

end Go.Proofs.Ytcfbmmlgdopbmaa
