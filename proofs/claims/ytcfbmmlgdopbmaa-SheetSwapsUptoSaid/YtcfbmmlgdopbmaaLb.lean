/-
  Layers 3 and 5, in plain lists: records that are laid are read again; a disk that doesn't stop.
-/
import Derived.Test.YtcfbmmlgdopbmaaSb
namespace Go.Proofs.Ytcfbmmlgdopbmaa

theorem fourB_len (n : Nat) : (fourB n).length = 4 := rfl
theorem openB_wrap (t r : List UInt8) (most : Nat) (h : t.length ≤ most) (hm : most ≤ 1000000000) : openB (wrapB t ++ r) most = .ok ((layN t.length).length, t.length) := by
  have h1 : wrapB t ++ r = layN t.length ++ (t ++ (fourB (crc (textB t)) ++ r)) := by simp [wrapB, textB]
  have h2 := takeGo_layN t.length (by omega) (t ++ (fourB (crc (textB t)) ++ r))
  have h3 : (wrapB t ++ r).take ((layN t.length).length + t.length) = textB t := by
    rw [wrapB, List.append_assoc, List.take_append_of_le_length (by simp [textB]), List.take_of_length_le (by simp [textB])]
  have h4 : (wrapB t ++ r).drop ((layN t.length).length + t.length) = fourB (crc (textB t)) ++ r := by
    rw [wrapB, List.append_assoc, List.drop_append_of_le_length (by simp [textB]), List.drop_eq_nil_of_le (by simp [textB])]; rfl
  have h5 : (wrapB t ++ r).length = (layN t.length).length + t.length + (4 + r.length) := by
    rw [h1]; simp [fourB_len]; omega
  unfold openB
  have h2' : takeGo 0 0 (wrapB t ++ r) = (t.length, (layN t.length).length, 0) := by rw [h1]; exact h2
  rw [h2']
  simp only [ne_eq, not_true_eq_false, if_false, h3, h4, h5]
  rw [if_neg (by omega), if_neg (by omega), if_neg (by omega), if_pos (by rw [List.take_append_of_le_length (by simp [fourB_len]), List.take_of_length_le (by simp [fourB_len])])]
theorem wrapB_length (t : List UInt8) : (wrapB t).length = (layN t.length).length + t.length + 4 := by
  simp [wrapB, textB, fourB_len, Nat.add_assoc]
theorem wrap_take (t r : List UInt8) : ((wrapB t ++ r).drop (layN t.length).length).take t.length = t := by
  have h1 : wrapB t ++ r = layN t.length ++ (t ++ (fourB (crc (textB t)) ++ r)) := by simp [wrapB, textB]
  rw [h1, List.drop_append_of_le_length (Nat.le_refl _), List.drop_eq_nil_of_le (Nat.le_refl _), List.nil_append, List.take_append_of_le_length (Nat.le_refl _), List.take_of_length_le (Nat.le_refl _)]
theorem wrap_drop (t r : List UInt8) : (wrapB t ++ r).drop ((layN t.length).length + t.length + 4) = r := by
  rw [← wrapB_length, List.drop_append_of_le_length (Nat.le_refl _), List.drop_eq_nil_of_le (Nat.le_refl _), List.nil_append]

/-- Records, and then any bytes. -/
theorem allC_cat (r : List UInt8) : ∀ (ls : List (List UInt8)), (∀ x ∈ ls, x.length ≤ 2097152) → allC (catB ls ++ r) = (ls ++ (allC r).1, (catB ls).length + (allC r).2.1, (allC r).2.2)
  | [], _ => by simp [catB]
  | x :: ls, h => by
    have hx := h x (by simp)
    have e : catB (x :: ls) ++ r = wrapB x ++ (catB ls ++ r) := by simp [catB]
    have ih := allC_cat r ls fun y hy => h y (by simp [hy])
    have hne : wrapB x ++ (catB ls ++ r) ≠ [] := by
      have : 0 < (wrapB x ++ (catB ls ++ r)).length := by rw [List.length_append, wrapB_length]; omega
      exact List.length_pos_iff.1 this
    unfold allC at ih ⊢
    rw [e]
    have hlen : (wrapB x ++ (catB ls ++ r)).length = (wrapB x).length + (catB ls ++ r).length := by simp
    rw [allB, if_neg hne, openB_wrap x _ _ hx (by decide)]
    simp only [wrap_take, wrap_drop]
    rw [allB_fuel 2097152 _ ((catB ls ++ r).length + 1) (catB ls ++ r) (by rw [hlen, wrapB_length]; omega) (by omega), ih]
    have e2 : (catB (x :: ls)).length = (wrapB x).length + (catB ls).length := by simp [catB]
    simp only [List.cons_append, Prod.mk.injEq, and_true, true_and, e2, wrapB_length]
    omega
theorem allC_nil : allC [] = ([], 0, 0) := by simp [allC, allB]
theorem scanB_lay (t : Ti) (ht : t.ok) (ls : List (List UInt8)) (hl : ∀ x ∈ ls, x.length ≤ 2097152) (r : List UInt8) :
    scanB (headB t ++ (catB ls ++ r)) = .ok ⟨t, ls ++ (allC r).1, (headB t).length + (catB ls).length + (allC r).2.1, (allC r).2.2⟩ := by
  have h1 := titleB_len ht
  unfold scanB headB
  rw [openB_wrap _ _ _ (by omega) (by decide)]
  simp only [wrap_take, wrap_drop, rdTitle_titleB t ht, allC_cat r ls hl]
  simp only [wrapB_length]
  congr 2
  omega

/-! A disk that doesn't stop. -/
def Dk.calm (d : Dk) : Prop := d.off = false ∧ d.fuse < 0
theorem Dk.calm.act {d : Dk} (h : d.calm) : d.act.1 = 0 ∧ d.act.2.fs = d.fs ∧ d.act.2.room = d.room ∧ d.act.2.calm ∧ d.act.2.torn = d.torn := by
  obtain ⟨h1, h2⟩ := h
  unfold Dk.act
  rw [if_neg (by rw [h1]; simp), if_neg (by omega), if_neg (by omega)]
  exact ⟨rfl, rfl, rfl, ⟨h1, h2⟩, rfl⟩
theorem Dk.calm.append {d : Dk} (h : d.calm) {name p : List UInt8} (hn : namedB name = true) (hr : (tk d.fs : Int) + p.length ≤ d.room) :
    ∃ d', d.append name p = (0, d') ∧ d'.fs = put name p d.fs ∧ d'.room = d.room ∧ d'.calm := by
  obtain ⟨a, b, c, e, _⟩ := h.act
  refine ⟨{ d.act.2 with fs := put name p d.fs }, ?_, rfl, c, e⟩
  unfold Dk.append
  rw [hn, a, if_neg (by simp), if_pos rfl, if_neg (by omega)]
theorem Dk.calm.full {d : Dk} (h : d.calm) {name p : List UInt8} (hn : namedB name = true) (hr : d.room < (tk d.fs : Int) + p.length) :
    ∃ d', d.append name p = (3, d') ∧ d'.fs = d.fs ∧ d'.room = d.room ∧ d'.calm := by
  obtain ⟨a, b, c, e, _⟩ := h.act
  refine ⟨_, ?_, b, c, e⟩
  unfold Dk.append
  rw [hn, a, if_neg (by simp), if_pos rfl, if_pos (by omega)]
theorem Dk.calm.sync {d : Dk} (h : d.calm) {name : List UInt8} {f : Fl} (hf : aget name d.fs = some f) :
    ∃ d', d.sync name = (0, d') ∧ d'.fs = aput name ⟨f.p, f.p.length⟩ d.fs ∧ d'.room = d.room ∧ d'.calm := by
  obtain ⟨a, b, c, e, _⟩ := h.act
  refine ⟨{ d.act.2 with fs := aput name ⟨f.p, f.p.length⟩ d.fs }, ?_, rfl, c, e⟩
  unfold Dk.sync
  rw [a, if_pos rfl, hf]
theorem Dk.calm.remove {d : Dk} (h : d.calm) {name : List UInt8} {f : Fl} (hf : aget name d.fs = some f) :
    ∃ d', d.remove name = (0, d') ∧ d'.fs = adrop name d.fs ∧ d'.room = d.room ∧ d'.calm := by
  obtain ⟨a, b, c, e, _⟩ := h.act
  refine ⟨{ d.act.2 with fs := adrop name d.fs }, ?_, rfl, c, e⟩
  unfold Dk.remove
  rw [a, if_pos rfl, hf]
theorem Dk.calm.remove_none {d : Dk} (h : d.calm) {name : List UInt8} (hf : aget name d.fs = none) :
    ∃ d', d.remove name = (2, d') ∧ d'.fs = d.fs ∧ d'.room = d.room ∧ d'.calm := by
  obtain ⟨a, b, c, e, _⟩ := h.act
  refine ⟨_, ?_, b, c, e⟩
  unfold Dk.remove
  rw [a, if_pos rfl, hf]
theorem Dk.calm.move {d : Dk} (h : d.calm) {src dst : List UInt8} {f : Fl} (hn : namedB dst = true) (hf : aget src d.fs = some f) :
    ∃ d', d.move src dst = (0, d') ∧ d'.fs = aput dst f (adrop src d.fs) ∧ d'.room = d.room ∧ d'.calm := by
  obtain ⟨a, b, c, e, _⟩ := h.act
  refine ⟨{ d.act.2 with fs := aput dst f (adrop src d.fs) }, ?_, rfl, c, e⟩
  unfold Dk.move
  rw [hn, a, if_neg (by simp), if_pos rfl, hf]
theorem Dk.calm.cut {d : Dk} (h : d.calm) {name : List UInt8} {f : Fl} {n : Nat} (hf : aget name d.fs = some f) (hn : n ≤ f.p.length) :
    ∃ d', d.cut name n = (0, d') ∧ d'.fs = aput name ⟨f.p.take n, n⟩ d.fs ∧ d'.room = d.room ∧ d'.calm := by
  obtain ⟨a, b, c, e, _⟩ := h.act
  refine ⟨{ d.act.2 with fs := aput name ⟨f.p.take n, n⟩ d.fs }, ?_, rfl, c, e⟩
  unfold Dk.cut
  rw [a, if_pos rfl, hf]
  simp only
  rw [if_neg (by omega)]
  simp
theorem Dk.calm.read {d : Dk} (h : d.calm) {name : List UInt8} {f : Fl} (hf : aget name d.fs = some f) : d.read name = .ok f.p := by
  unfold Dk.read
  rw [h.1, if_neg (by simp), hf]
theorem Dk.calm.read_none {d : Dk} (h : d.calm) {name : List UInt8} (hf : aget name d.fs = none) : d.read name = .error 2 := by
  unfold Dk.read
  rw [h.1, if_neg (by simp), hf]
end Go.Proofs.Ytcfbmmlgdopbmaa
