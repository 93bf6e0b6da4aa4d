/-
  A heap, in plain words: keys by place.
-/
import Derived.WalkKit
namespace Go.Proofs.Ytkolnecahlkndaa
set_option linter.unusedVariables false

/-- Places i and j changed. -/
def sw {α : Type} (l : List α) (i j : Nat) : List α := match l[i]?, l[j]? with
  | some a, some b => (l.set i b).set j a
  | _, _ => l
theorem sw_len {α : Type} (l : List α) (i j : Nat) : (sw l i j).length = l.length := by unfold sw; split <;> simp
theorem sw_eq {α : Type} {l : List α} {i j : Nat} (hi : i < l.length) (hj : j < l.length) : sw l i j = (l.set i l[j]).set j l[i] := by
  unfold sw; simp [hi, hj]
theorem sw_get {α : Type} {l : List α} {i j : Nat} (hi : i < l.length) (hj : j < l.length) (k : Nat) : (sw l i j)[k]? = if k = j then l[i]? else if k = i then l[j]? else l[k]? := by
  rw [sw_eq hi hj, List.getElem?_set, List.getElem?_set]
  simp only [List.length_set]
  by_cases h1 : j = k
  · subst h1
    simp [hj, hi]
  · rw [if_neg h1, if_neg (Ne.symm h1)]
    by_cases h2 : i = k
    · subst h2
      simp [hi, hj]
    · rw [if_neg h2, if_neg (Ne.symm h2)]
theorem sw_perm {α : Type} {l : List α} {i j : Nat} (hi : i < l.length) (hj : j < l.length) : (sw l i j).Perm l := by
  rw [sw_eq hi hj]
  exact List.set_set_perm hi hj
section
variable {α : Type} (k : α → Nat)
/-- The key at a place. -/
def kat (l : List α) (q : Nat) : Nat := (l[q]?.map k).getD 0
theorem kat_sw {l : List α} {i j : Nat} (hi : i < l.length) (hj : j < l.length) (q : Nat) : kat k (sw l i j) q = if q = j then kat k l i else if q = i then kat k l j else kat k l q := by
  unfold kat
  rw [sw_get hi hj]
  split
  · rfl
  split <;> rfl
/-- From place s on each stands behind its parent, but those below i. -/
def HInv (f : Nat → Nat) (s n i : Nat) : Prop :=
  (∀ c, 0 < c → c < n → s ≤ (c - 1) / 2 → (c - 1) / 2 ≠ i → f ((c - 1) / 2) ≤ f c) ∧ (0 < i → s ≤ (i - 1) / 2 → ∀ c, 0 < c → c < n → (c - 1) / 2 = i → f ((i - 1) / 2) ≤ f c)
def Heap (f : Nat → Nat) (s n : Nat) : Prop := ∀ c, 0 < c → c < n → s ≤ (c - 1) / 2 → f ((c - 1) / 2) ≤ f c
theorem heap_step {f f' : Nat → Nat} {s n i j : Nat} (h : HInv f s n i) (hs : s ≤ i) (hj : j = 2 * i + 1 ∨ j = 2 * i + 2) (hjn : j < n) (hlt : f j < f i) (hmin : ∀ c, c < n → c = 2 * i + 1 ∨ c = 2 * i + 2 → f j ≤ f c)
    (hf : ∀ q, f' q = if q = j then f i else if q = i then f j else f q) : HInv f' s n j := by
  obtain ⟨h1, h2⟩ := h
  constructor
  · intro c hc hcn hsc hne
    have hp : (c - 1) / 2 < c := by omega
    by_cases e1 : c = j
    · subst e1
      have e : (c - 1) / 2 = i := by omega
      rw [e, hf, hf, if_neg (by omega), if_pos rfl, if_pos rfl]
      omega
    by_cases e2 : c = i
    · subst e2
      rw [hf ((c - 1) / 2), hf c, if_neg hne, if_neg (by omega), if_neg (by omega), if_pos rfl]
      exact h2 hc hsc j (by omega) hjn (by omega)
    rw [hf c, if_neg e1, if_neg e2, hf]
    rw [if_neg hne]
    by_cases e3 : (c - 1) / 2 = i
    · rw [if_pos e3]
      exact hmin c hcn (by omega)
    · rw [if_neg e3]
      exact h1 c hc hcn hsc e3
  · intro hj0 hsj c hc hcn hcj
    have e : (j - 1) / 2 = i := by omega
    rw [e, hf, hf, if_neg (by omega), if_pos rfl, if_neg (by omega), if_neg (by omega)]
    have := h1 c hc hcn (by omega) (by omega)
    rw [hcj] at this
    exact this
theorem heap_done {f : Nat → Nat} {s n i : Nat} (h : HInv f s n i) (hmin : ∀ c, c < n → c = 2 * i + 1 ∨ c = 2 * i + 2 → f i ≤ f c) : Heap f s n := by
  intro c hc hcn hsc
  by_cases e : (c - 1) / 2 = i
  · rw [e]; exact hmin c hcn (by omega)
  · exact h.1 c hc hcn hsc e
theorem heap_start {f : Nat → Nat} {n i : Nat} (h : Heap f (i + 1) n) : HInv f i n i := by
  refine ⟨fun c hc hcn hsc hne => h c hc hcn (by omega), fun h0 hs => by omega⟩
theorem heap_min {f : Nat → Nat} {n : Nat} (h : Heap f 0 n) : ∀ c, c < n → f 0 ≤ f c := by
  intro c
  induction c using Nat.strongRecOn with
  | ind c ih =>
    intro hc
    rcases Nat.eq_zero_or_pos c with rfl | h0
    · exact Nat.le_refl _
    · exact Nat.le_trans (ih ((c - 1) / 2) (by omega) (by omega)) (h c h0 hc (Nat.zero_le _))
/-- The root changed. -/
theorem heap_root {f f' : Nat → Nat} {n : Nat} (h : Heap f 0 n) (hf : ∀ q, 0 < q → q < n → f' q = f q) : HInv f' 0 n 0 := by
  refine ⟨fun c hc hcn _ hne => ?_, fun h0 => by omega⟩
  rw [hf c hc hcn, hf ((c - 1) / 2) (by omega) (by omega)]
  exact h c hc hcn (Nat.zero_le _)
end
end Go.Proofs.Ytkolnecahlkndaa
