/-
  What came in: bytes, rows of bytes; and how much it is.
-/
import Derived.Test.YtcfbmmlgdopbmaaRows
import Derived.Test.YtcfbmmlgdopbmaaBs
import Derived.OpenShut
import Derived.ChangeOld
namespace Go.Proofs.Ytcfbmmlgdopbmaa
open Go.RowKit Go.ChangeShapes Go.WideShapes
set_option linter.unusedVariables false
set_option linter.unusedSimpArgs false

theorem bulk_one {H : Type} (d : DataW H) : 1 ≤ Rows.uptoBulk d := by
  cases d with
  | lit l => cases l <;> simp [Rows.uptoBulk]
  | nil => simp [Rows.uptoBulk]
  | ptr d => simp [Rows.uptoBulk]
  | slice elems spare => simp [Rows.uptoBulk]
  | agg parts => simp [Rows.uptoBulk]
  | iface t d => simp [Rows.uptoBulk]
  | map entries => simp [Rows.uptoBulk]
  | held h => simp [Rows.uptoBulk]
theorem bulk_all {H : Type} : ∀ (l : List (DataW H)), Rows.uptoBulkAll l = (l.map Rows.uptoBulk).sum
  | [] => by simp [Rows.uptoBulkAll]
  | x :: r => by simp [Rows.uptoBulkAll, bulk_all r]
theorem bulk_slice {H : Type} (a b : List (DataW H)) : Rows.uptoBulk (.slice a b) = (a.map Rows.uptoBulk).sum + (b.map Rows.uptoBulk).sum + 1 := by
  simp only [Rows.uptoBulk, bulk_all]
  try omega
theorem sum_ge {H : Type} (l : List (DataW H)) : l.length ≤ (l.map Rows.uptoBulk).sum := by
  induction l with
  | nil => simp
  | cons x r ih => have := bulk_one x; simp only [List.map_cons, List.sum_cons, List.length_cons]; omega

section
variable {H : Type} {enc : TypeId × Value → H} {P : Program} {w : World} {base : Nat} {held : Bool}
/-- The world's own blocks as a pool. -/
abbrev hp (w : World) : Hl := fun b => w.heap[b]?

theorem in_bytes {t e : TypeId} {fuel : Nat} {cs : List Value} {x : DataW H × List MemPlace} (ht : P.underlying t = some (.slice e)) (he : P.underlying e = some (.int .u8)) (hc : P.cellsOf e = 1)
    (h : DataW.trod enc P w base (fun _ => true) held fuel t cs = some x) : ∃ a n c, ∃ l : List UInt8, cs = [.slice a n c] ∧ l.length = n ∧ Pr 1 (hp w) (.slice a n c) n (bs l) ∧ l.length + 1 ≤ Rows.uptoBulk x.1 := by
  rcases open_ints ht he hc h with ⟨rfl, rfl⟩ | ⟨a, len, cap, zs, rfl, _, hl, hm, hz, rfl, hcell, hw⟩
  · exact ⟨none, 0, 0, [], rfl, rfl, Pr.nil, by simp [Rows.uptoBulk]⟩
  · simp only [if_true] at hz
    obtain ⟨l, h1, h2⟩ := pr_bytes (w := w) (a := some a) (len := len) (cap := cap) (zs := zs) (.inr ⟨a, rfl, hl, hm, hz, hcell, hw⟩)
    refine ⟨some a, len, cap, l, rfl, h1, h2, ?_⟩
    rw [bulk_slice]
    have := sum_ge (H := H) (lits .u8 (zs.take len))
    have hlen : (lits (H := H) .u8 (zs.take len)).length = len := by simp [lits, hz]; omega
    omega

theorem pr_cells {x : Addr} {len cap : Nat} {xs : List Value} (hl : len ≤ cap) (hm : cap ≤ maxLen) (hx : xs.length = len) (hc : ∀ i, i < len → w.cell? (x.add i) = xs[i]?) : Pr 1 (hp w) (.slice (some x) len cap) len xs := by
  refine ⟨by simp [hx], _, cap, rfl, hl, hm, fun e => by simp at e, ?_⟩
  rcases Nat.eq_zero_or_pos len with h0 | h0
  · exact .inl h0
  · obtain ⟨b, o, sp⟩ := x
    have c0 := hc 0 h0
    rw [List.getElem?_eq_getElem (by omega)] at c0
    simp only [Addr.add, if_true] at c0
    have hsp : sp = none := by simpa using World.cell?_spot c0
    subst hsp
    unfold World.cell? at c0
    simp only at c0
    cases hb : w.heap[b]? with
    | none => rw [hb] at c0; simp at c0
    | some ob =>
      cases ob with
      | cells cur e fz =>
        refine .inr ⟨b, o, cur, e, fz, rfl, hb, ?_⟩
        apply List.ext_getElem?
        intro j
        rw [List.getElem?_take, Nat.mul_one]
        by_cases hj : j < len
        · rw [if_pos hj]
          have cj := hc j hj
          rw [Addr.add_lit] at cj
          simp only [World.cell?, hb] at cj
          simp at cj
          rw [List.getElem?_drop, Array.getElem?_toList, cj]
        · rw [if_neg hj, List.getElem?_eq_none (by omega)]
      | _ => rw [hb] at c0; simp at c0

theorem choose_list {α : Type} : ∀ (n : Nat) {Q : Nat → α → Prop}, (∀ i, i < n → ∃ p, Q i p) → ∃ ps : List α, ps.length = n ∧ ∀ i (h : i < ps.length), Q i ps[i]
  | 0, _, _ => ⟨[], rfl, fun i h => by simp at h⟩
  | n + 1, Q, h => by
    obtain ⟨ps, h1, h2⟩ := choose_list n (Q := Q) fun i hi => h i (by omega)
    obtain ⟨p, hp⟩ := h n (by omega)
    refine ⟨ps ++ [p], by simp [h1], fun i hi => ?_⟩
    by_cases hin : i < ps.length
    · rw [List.getElem_append_left hin]; exact h2 i hin
    · have : i = n := by simp at hi; omega
      subst this
      rw [List.getElem_append_right (by omega)]
      simpa [h1] using hp
theorem sum_le_sum {α β : Type} (f : α → Nat) (g : β → Nat) : ∀ (l : List α) (m : List β), l.length = m.length → (∀ i (h : i < l.length) (h' : i < m.length), f l[i] ≤ g m[i]) → (l.map f).sum ≤ (m.map g).sum
  | [], [], _, _ => by simp
  | [], _ :: _, h, _ => by simp at h
  | _ :: _, [], h, _ => by simp at h
  | a :: l, b :: m, h, hi => by
    have h0 := hi 0 (by simp) (by simp)
    have ih := sum_le_sum f g l m (by simpa using h) fun i h1 h2 => by
      have := hi (i + 1) (by simpa using h1) (by simpa using h2)
      simpa using this
    simp only [List.map_cons, List.sum_cons]
    simp only [List.getElem_cons_zero] at h0
    omega
end

end Go.Proofs.Ytcfbmmlgdopbmaa
