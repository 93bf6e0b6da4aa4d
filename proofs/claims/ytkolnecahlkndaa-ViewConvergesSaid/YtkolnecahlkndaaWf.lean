/-
  Layer 15 (view): Mark, Fold; how long a fold of few events is.
-/
import Derived.Test.YtkolnecahlkndaaWc
import Derived.Test.YtkolnecahlkndaaFd
namespace Go.Proofs.Ytkolnecahlkndaa
open Go.RowKit
set_option linter.unusedVariables false
set_option linter.unusedSimpArgs false

set_option maxHeartbeats 1600000 in
set_option maxRecDepth 100000 in
theorem vwMark_any {R : Ending → World → Prop} {W w : World} {g : Hl} {H : List HP} {vb b b' : Nat} {x : El} {f : Fo} (hs : Sat W w g (vw vb b b' x :: fold b' f :: H)) (hR : R (.returned (.int .u64 f.mark)) w) : Calls Try.prog 14 #[ptr vb] w R := by
  have HR := Lib.hid hR
  clear hR
  simp only [vw, El.v] at hs
  refine C.calls (args := [.pointer (some ⟨vb, 0, none⟩)]) Try.func14 rfl rfl rfl ?_
  refine go ?_
  refine E.callf Try.func28 rfl ?_
  refine foldMark_any hs.swap ?_
  refine go ?_
  refine A.r1 ?_
  exact HR.out

set_option maxHeartbeats 1600000 in
set_option maxRecDepth 100000 in
theorem vwFold_any {R : Ending → World → Prop} {W w : World} {g : Hl} {H : List HP} {vb b b' : Nat} {x : El} {f : Fo} (hs : Sat W w g (vw vb b b' x :: fold b' f :: H))
    (hR : ∀ b2 w', Sat W w' g (fold b2 f :: vw vb b b' x :: fold b' f :: H) → R (.returned (ptr b2)) w') : Calls Try.prog 15 #[ptr vb] w R := by
  have HR := Lib.hid hR
  clear hR
  simp only [vw, El.v] at hs HR
  refine C.calls (args := [.pointer (some ⟨vb, 0, none⟩)]) Try.func15 rfl rfl rfl ?_
  refine go ?_
  refine E.callf Try.func22 rfl ?_
  refine foldCopy_any hs.swap ?_
  intro b2 w2 hs
  rw [show ptr b2 = .pointer (some ⟨b2, 0, none⟩) from rfl]
  refine go ?_
  refine A.r1 ?_
  exact HR.out b2 _ (hs.perm (List.Perm.cons _ (.swap _ _ _)))

/-- Keys and texts are short. -/
def Fo.short (f : Fo) : Prop := ∀ p ∈ f.cells, p.1.length ≤ 1 ∧ p.2.text.length ≤ 1
theorem aput_len {κ β : Type} [DecidableEq κ] (k : κ) (v : β) (l : List (κ × β)) : (aput k v l).length ≤ l.length + 1 := by
  rcases aput_keys (k := k) (v := v) l with ⟨h, _⟩ | ⟨h, _⟩
  · have := congrArg List.length h
    simp only [List.length_map] at this
    omega
  · have := congrArg List.length h
    simp only [List.length_map, List.length_append, List.length_cons, List.length_nil] at this
    omega
theorem Fo.short_add {f : Fo} {e : Ev} (h : f.short) (he : e.good) : (f.add e).short ∧ (f.add e).cells.length ≤ f.cells.length + 1 := by
  have key : ∀ (c : Ce), c.text.length ≤ 1 → (∀ p ∈ aput e.key c f.cells, p.1.length ≤ 1 ∧ p.2.text.length ≤ 1) ∧ (aput e.key c f.cells).length ≤ f.cells.length + 1 := fun c hc => ⟨fun p hp => by
    rcases aput_mem hp with rfl | hp
    · exact ⟨he.key, hc⟩
    · exact h p hp, aput_len _ _ _⟩
  unfold Fo.short
  simp only [Fo.add]
  split
  · exact key _ he.text
  split
  · exact key _ (by simp)
  split
  · exact key _ (by simp)
  split
  · exact ⟨fun p hp => h p ((adrop_sub _ _).subset hp), by have := (adrop_sub e.key f.cells).length_le; omega⟩
  · exact ⟨h, by omega⟩
theorem Fo.short_adds : ∀ (T : List Ev) (f : Fo), f.short → (∀ e ∈ T, e.good) → (f.adds T).short ∧ (f.adds T).cells.length ≤ f.cells.length + T.length
  | [], f, h, _ => ⟨h, by simp [Fo.adds]⟩
  | e :: T, f, h, hg => by
    obtain ⟨h1, h2⟩ := Fo.short_add h (hg e (List.mem_cons_self ..))
    obtain ⟨h3, h4⟩ := Fo.short_adds T (f.add e) h1 fun x hx => hg x (List.mem_cons_of_mem _ hx)
    refine ⟨h3, ?_⟩
    simp only [List.length_cons]
    have e1 : f.adds (e :: T) = (f.add e).adds T := rfl
    rw [e1]
    omega
theorem flat_le {α : Type} (r : α → List UInt8) (n : Nat) : ∀ (l : List α), (∀ x ∈ l, (r x).length ≤ n) → (l.flatMap r).length ≤ n * l.length
  | [], _ => by simp
  | x :: t, h => by
    have h1 := flat_le r n t fun y hy => h y (List.mem_cons_of_mem _ hy)
    have h2 := h x (List.mem_cons_self ..)
    simp only [List.flatMap_cons, List.length_append, List.length_cons, Nat.mul_add, Nat.mul_one]
    omega
theorem Fo.enc_len {f : Fo} (ho : f.ok) (h : f.short) (hc : f.cells.length ≤ 180) : f.enc.length ≤ 10000000 := by
  have h1 := vecB_len f.vec ho.vec ho.vlt
  have h2 := layN_ten ho.tm
  have h3 := layN_ten (n := f.wrN) (by unfold Fo.wrN; omega)
  have h4 := layN_ten (n := f.cells.length) (by omega)
  have h5 : f.headB.length ≤ 800 := by
    simp only [Fo.headB, List.length_append, fixB_len]
    omega
  have h6 : ∀ k ∈ f.keys, (f.row k).length ≤ 30 := by
    intro k hk
    have hk1 : k.length ≤ 1 := by
      have h7 : k ∈ f.cells.map Prod.fst := (rising_perm _).mem_iff.1 hk
      obtain ⟨p, hp, rfl⟩ := List.mem_map.1 h7
      exact (h p hp).1
    have hx : ((f.cell k).getD ⟨0, [], 0⟩).text.length ≤ 1 := by
      cases hq : f.cell k with
      | none => simp
      | some c => exact (h _ (aget_mem hq)).2
    have h8 := textB_len k (by omega)
    have h9 := textB_len ((f.cell k).getD ⟨0, [], 0⟩).text (by omega)
    unfold Fo.row cellB
    generalize (f.cell k).getD ⟨0, [], 0⟩ = c at hx h9
    simp only [List.length_append, List.length_cons, List.length_nil]
    split
    · omega
    · rw [fixB_len]; omega
  have h7 := flat_le f.row 30 f.keys h6
  rw [f.keys_length] at h7
  simp only [Fo.enc, List.length_append]
  omega
theorem Tale.short {T : List Ev} (h : Tale T) : ((foNew 3).adds T).short ∧ ((foNew 3).adds T).cells.length ≤ 180 := by
  obtain ⟨h1, h2⟩ := Fo.short_adds T (foNew 3) (fun p hp => by simp [foNew] at hp) h.good
  refine ⟨h1, ?_⟩
  have h3 := h.few
  have h4 : (foNew 3).cells.length = 0 := rfl
  omega
end Go.Proofs.Ytkolnecahlkndaa
