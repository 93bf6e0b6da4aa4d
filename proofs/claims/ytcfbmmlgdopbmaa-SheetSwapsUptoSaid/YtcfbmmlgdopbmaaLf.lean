/-
  A file that is torn, in plain lists: what is left of its records.
-/
import Derived.Test.YtcfbmmlgdopbmaaLc
namespace Go.Proofs.Ytcfbmmlgdopbmaa
set_option linter.unusedVariables false
set_option linter.unusedSimpArgs false

/-- Taking what is not all there. -/
theorem takeGo_torn : ∀ (k i s n m : Nat), n < 128 ^ k → 1 ≤ k → i + k ≤ 10 → (i = 0 ∨ 0 < n) → (k + i = 10 → n < 2 * 128 ^ (k - 1)) → m < (layN n).length →
    takeGo i s ((layN n).take m) = (0, 0, 5)
  | 0, _, _, _, _, _, hk, _, _, _, _ => by omega
  | k + 1, i, s, n, m, hn, _, hik, hi0, h10, hm => by
    by_cases h : n < 128
    · rw [layN_small h] at hm ⊢
      simp only [List.length_cons, List.length_nil] at hm
      have : m = 0 := by omega
      subst this
      simp [takeGo]
    · rw [layN_big h] at hm ⊢
      cases m with
      | zero => simp [takeGo]
      | succ m =>
        obtain ⟨o1, o2, o3⟩ := or128 (n % 256) (Nat.mod_lt _ (by decide))
        have h8 : (UInt8.ofNat ((n % 256) ||| 128)).toNat = (n % 256) ||| 128 := by rw [UInt8.toNat_ofNat', Nat.mod_eq_of_lt (by simpa using o1)]
        have hk1 : 1 ≤ k := by
          rcases Nat.eq_zero_or_pos k with rfl | h'
          · simp at hn; omega
          · exact h'
        have hbad : ¬ ((i = 9 ∧ 1 < ((n % 256) ||| 128)) ∨ (0 < i ∧ ((n % 256) ||| 128) = 0)) := by omega
        simp only [List.take_succ_cons, takeGo, h8]
        rw [if_neg hbad, if_neg (by omega)]
        have e7 : (2 : Nat) ^ 7 = 128 := rfl
        simp only [List.length_cons] at hm
        rw [e7] at hm ⊢
        refine takeGo_torn k (i + 1) _ (n / 128) m ?_ hk1 (by omega) (.inr (by omega)) ?_ (by omega)
        · rw [Nat.div_lt_iff_lt_mul (by decide)]
          rw [Nat.pow_succ] at hn; exact hn
        · intro h'
          have := h10 (by omega)
          obtain ⟨k', rfl⟩ : ∃ k', k = k' + 1 := ⟨k - 1, by omega⟩
          simp only [Nat.add_sub_cancel] at this ⊢
          rw [Nat.div_lt_iff_lt_mul (by decide)]
          rw [Nat.pow_succ] at this; omega
theorem takeGo_layN_torn (n : Nat) (hn : n < 18446744073709551616) (m : Nat) (hm : m < (layN n).length) : takeGo 0 0 ((layN n).take m) = (0, 0, 5) :=
  takeGo_torn 10 0 0 n m (by omega) (by decide) (by decide) (.inl rfl) (fun _ => by omega) hm
theorem openB_torn (t : List UInt8) (most m : Nat) (h : t.length ≤ most) (hm : most ≤ 1000000000) (hml : m < (wrapB t).length) : openB ((wrapB t).take m) most = .error 5 := by
  have h1 : wrapB t = layN t.length ++ (t ++ fourB (crc (textB t))) := by simp [wrapB, textB]
  have hw := wrapB_length t
  by_cases hk : m < (layN t.length).length
  · have h2 : (wrapB t).take m = (layN t.length).take m := by
      rw [h1, List.take_append_of_le_length (by omega)]
    unfold openB
    rw [h2, takeGo_layN_torn _ (by omega) m hk]
    simp
  · have h2 : (wrapB t).take m = layN t.length ++ (t ++ fourB (crc (textB t))).take (m - (layN t.length).length) := by
      rw [h1, List.take_append, List.take_of_length_le (by omega)]
    have h3 := takeGo_layN t.length (by omega) ((t ++ fourB (crc (textB t))).take (m - (layN t.length).length))
    have hlen : ((wrapB t).take m).length = m := by rw [List.length_take]; omega
    unfold openB
    have h3' : takeGo 0 0 ((wrapB t).take m) = (t.length, (layN t.length).length, 0) := by rw [h2]; exact h3
    rw [h3']
    simp only [ne_eq, not_true_eq_false, if_false, hlen]
    rw [if_neg (by omega)]
    split
    · rfl
    · rw [if_pos (by omega)]
theorem catB_cons (x : List UInt8) (ls : List (List UInt8)) : catB (x :: ls) = wrapB x ++ catB ls := by simp [catB]
theorem allC_cons (x : List UInt8) (r : List UInt8) (hx : x.length ≤ 2097152) : allC (wrapB x ++ r) = (x :: (allC r).1, (wrapB x).length + (allC r).2.1, (allC r).2.2) := by
  have := allC_cat r [x] (by simpa using hx)
  simpa [catB] using this
/-- The records of the first so many bytes. -/
theorem allC_torn : ∀ (ls : List (List UInt8)) (m : Nat), (∀ x ∈ ls, x.length ≤ 2097152) → m ≤ (catB ls).length →
    ∃ k e, k ≤ ls.length ∧ allC ((catB ls).take m) = (ls.take k, (catB (ls.take k)).length, e) ∧ (catB (ls.take k)).length ≤ m ∧ (k < ls.length → m < (catB (ls.take (k + 1))).length) ∧ (e = 0 → m = (catB (ls.take k)).length)
  | [], m, _, hm => ⟨0, 0, by simp, by simp [catB, allC_nil], by simp [catB], by simp, fun _ => by simpa [catB] using hm⟩
  | x :: ls, m, hx, hm => by
    have hx0 := hx x (by simp)
    rw [catB_cons, List.length_append] at hm
    by_cases h : m < (wrapB x).length
    · have h1 : (catB (x :: ls)).take m = (wrapB x).take m := by rw [catB_cons, List.take_append_of_le_length (by omega)]
      have h5 : (catB ((x :: ls).take (0 + 1))).length = (wrapB x).length := by simp [catB]
      rw [h1]
      by_cases h0 : m = 0
      · subst h0
        exact ⟨0, 0, by simp, by simp [catB, allC_nil], by simp [catB], fun _ => by rw [h5]; omega, fun _ => by simp [catB]⟩
      · refine ⟨0, 5, by simp, ?_, by simp [catB], fun _ => by rw [h5]; omega, fun e => by cases e⟩
        have hne : (wrapB x).take m ≠ [] := by
          have : 0 < ((wrapB x).take m).length := by rw [List.length_take]; omega
          exact List.length_pos_iff.1 this
        unfold allC
        rw [allB, if_neg hne, openB_torn x _ m hx0 (by decide) h]
        simp [catB]
    · obtain ⟨k, e, q1, q2, q3, q4, q5⟩ := allC_torn ls (m - (wrapB x).length) (fun y hy => hx y (by simp [hy])) (by omega)
      refine ⟨k + 1, e, by simpa using q1, ?_, ?_, ?_, ?_⟩
      · have h1 : (catB (x :: ls)).take m = wrapB x ++ (catB ls).take (m - (wrapB x).length) := by
          rw [catB_cons, List.take_append, List.take_of_length_le (by omega)]
        rw [h1, allC_cons _ _ hx0, q2, List.take_succ_cons, catB_cons, List.length_append]
      · rw [List.take_succ_cons, catB_cons, List.length_append]; omega
      · intro hk
        rw [List.take_succ_cons, catB_cons, List.length_append]
        have := q4 (by simpa using hk)
        omega
      · intro he
        rw [List.take_succ_cons, catB_cons, List.length_append]
        have := q5 he
        omega
theorem catB_take (ls : List (List UInt8)) (k : Nat) : (catB ls).take (catB (ls.take k)).length = catB (ls.take k) := by
  have : catB ls = catB (ls.take k) ++ catB (ls.drop k) := by
    unfold catB
    rw [← List.flatten_append, ← List.map_append, List.take_append_drop]
  rw [this, List.take_append_of_le_length (Nat.le_refl _), List.take_of_length_le (Nat.le_refl _)]
/-- A torn file is mended. -/
theorem mend_torn {d : Dk} (h : d.calm) {name : List UInt8} {t : Ti} (ht : t.ok) {ls : List (List UInt8)} {m s : Nat} (hl : ∀ x ∈ ls, x.length ≤ 2097152) (hm : m ≤ (catB ls).length) (hf : aget name d.fs = some ⟨headB t ++ (catB ls).take m, s⟩) :
    ∃ k d' s', k ≤ ls.length ∧ (catB (ls.take k)).length ≤ m ∧ (k < ls.length → m < (catB (ls.take (k + 1))).length) ∧
      d.mend name = (.ok ⟨t, ls.take k, (headB t).length + (catB (ls.take k)).length, 0⟩, d') ∧ d'.fs = aput name ⟨headB t ++ catB (ls.take k), s'⟩ d.fs ∧ d'.room = d.room ∧ d'.calm := by
  obtain ⟨k, e, q1, q2, q3, q4, q5⟩ := allC_torn ls m hl hm
  have hscan := scanB_lay t ht [] (by simp) ((catB ls).take m)
  rw [q2] at hscan
  have e0 : catB [] = [] := rfl
  simp only [e0, List.nil_append, List.length_nil, Nat.add_zero] at hscan
  have hsheet : d.sheet name = .ok ⟨t, ls.take k, (headB t).length + (catB (ls.take k)).length, e⟩ := by
    unfold Dk.sheet
    rw [h.read hf]
    exact hscan
  by_cases he : e = 0
  · have hm2 := q5 he
    refine ⟨k, d, s, q1, q3, q4, ?_, ?_, rfl, h⟩
    · unfold Dk.mend
      rw [hsheet]
      simp [he]
    · rw [hm2, catB_take] at hf
      exact (aput_same hf).symm
  · obtain ⟨d', c1, c2, c3, c4⟩ := h.cut (n := (headB t).length + (catB (ls.take k)).length) hf (by rw [List.length_append, List.length_take]; omega)
    refine ⟨k, d', (headB t).length + (catB (ls.take k)).length, q1, q3, q4, ?_, ?_, c3, c4⟩
    · unfold Dk.mend
      rw [hsheet]
      simp only [he, if_false, c1, if_true]
    · rw [c2]
      simp only
      rw [List.take_append, List.take_of_length_le (by omega), Nat.add_sub_cancel_left, List.take_take, Nat.min_eq_left q3, catB_take]
where aput_same {name : List UInt8} {f : Fl} : ∀ {fs : List (List UInt8 × Fl)}, aget name fs = some f → aput name f fs = fs
  | [], h => by cases h
  | (a, u) :: r, h => by
    simp only [aget, aput] at h ⊢
    split at h
    · rename_i heq
      simp only [Option.some.injEq] at h
      subst h
      rw [if_pos heq]
    · rename_i hne
      rw [if_neg hne, aput_same h]
end Go.Proofs.Ytcfbmmlgdopbmaa
