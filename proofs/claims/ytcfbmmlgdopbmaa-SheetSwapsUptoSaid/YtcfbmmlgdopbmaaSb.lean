/-
  Layer 5 (sheet): Swap.
-/
import Derived.Test.YtcfbmmlgdopbmaaSa
namespace Go.Proofs.Ytcfbmmlgdopbmaa
open Go.RowKit
set_option linter.unusedVariables false
set_option linter.unusedSimpArgs false

theorem Pr.le {g : Hl} {s n c : Nat} {a : Option Addr} {xs : List Value} (h : Pr s g (.slice a n c) n xs) : n ≤ c ∧ c ≤ 9223372036854775807 := by
  obtain ⟨_, _, e, h1, h2⟩ := h.len
  simp only [Value.slice.injEq] at e
  omega
theorem LB.le {g : Hl} {n c : Nat} {a : Option Addr} {ls : List (List UInt8)} (h : LB g a n c ls) : n ≤ c ∧ c ≤ 9223372036854775807 := by
  obtain ⟨ps, _, _, _, h⟩ := h
  exact h.le
theorem LB.get {g : Hl} {a : Option Addr} {n c : Nat} {ls : List (List UInt8)} (h : LB g a n c ls) {i : Nat} (hi : i < n) : ∃ xs : List Value, Pr 1 g (.slice a n c) n xs ∧ ∃ a' c', xs[i]? = some (.slice a' (ls[i]'(by rw [h.len]; exact hi)).length c') ∧ Pr 1 g (.slice a' (ls[i]'(by rw [h.len]; exact hi)).length c') (ls[i]'(by rw [h.len]; exact hi)).length (bs (ls[i]'(by rw [h.len]; exact hi))) := by
  obtain ⟨ps, rfl, h2, h3, h4⟩ := h
  have hip : i < ps.length := by omega
  have h5 := h3 ps[i] (List.getElem_mem hip)
  obtain ⟨a', c', e, _⟩ := h5.len
  refine ⟨_, h4, a', c', ?_, ?_⟩
  · rw [List.getElem?_map, List.getElem?_eq_getElem hip]
    simp only [Option.map_some, List.getElem_map, Option.some.injEq]
    exact e
  · simp only [List.getElem_map]
    rw [e] at h5
    exact h5

def catB (ls : List (List UInt8)) : List UInt8 := (ls.map wrapB).flatten
def sumL (ls : List (List UInt8)) : Nat := (ls.map fun x => x.length + 14).sum
theorem catB_snoc (ls : List (List UInt8)) (x : List UInt8) : catB (ls ++ [x]) = catB ls ++ wrapB x := by simp [catB]
theorem sumL_snoc (ls : List (List UInt8)) (x : List UInt8) : sumL (ls ++ [x]) = sumL ls + (x.length + 14) := by simp [sumL]
theorem sumL_mem {ls : List (List UInt8)} {x : List UInt8} (h : x ∈ ls) : x.length + 14 ≤ sumL ls := by
  obtain ⟨l1, l2, rfl⟩ := List.append_of_mem h
  simp only [sumL, List.map_append, List.map_cons, List.sum_append, List.sum_cons]
  omega
theorem sumL_take (ls : List (List UInt8)) (i : Nat) : sumL (ls.take i) ≤ sumL ls := by
  have : sumL ls = sumL (ls.take i) + sumL (ls.drop i) := by
    have h : sumL (ls.take i ++ ls.drop i) = sumL (ls.take i) + sumL (ls.drop i) := by
      simp only [sumL, List.map_append, List.sum_append]
    rw [List.take_append_drop] at h
    exact h
  omega
theorem catB_len : ∀ (ls : List (List UInt8)), sumL ls ≤ 1000000000 → (catB ls).length ≤ sumL ls
  | [], _ => by simp [catB]
  | x :: r, h => by
    have e : sumL (x :: r) = (x.length + 14) + sumL r := by simp [sumL]
    have h1 := wrapB_len x (by omega)
    have h2 := catB_len r (by omega)
    have e2 : catB (x :: r) = wrapB x ++ catB r := by simp [catB]
    rw [e2, List.length_append]
    omega

def newB : List UInt8 := [46, 110, 101, 119]
/-- How 'Swap' goes. -/
def Dk.swap (d : Dk) (name : List UInt8) (t : Ti) (ls : List (List UInt8)) : Int × Dk :=
  let r1 := d.remove (name ++ newB)
  if r1.1 ≠ 0 ∧ r1.1 ≠ 2 then r1 else
  if ls.any (fun x => decide (2097152 < x.length)) then (6, r1.2) else
  let r2 := r1.2.append (name ++ newB) (headB t ++ catB ls)
  if r2.1 ≠ 0 then r2 else
  let r3 := r2.2.sync (name ++ newB)
  if r3.1 ≠ 0 then r3 else r3.2.move (name ++ newB) name

set_option maxHeartbeats 1600000 in
set_option maxRecDepth 100000 in
theorem swap_any {R : Ending → World → Prop} {W w : World} {g : Hl} {H : List HP} {b n c : Nat} {a : Option Addr} {d : Dk} {name : List UInt8} {t : Ti} {ls : List (List UInt8)} (ht : t.ok) (hs : Sat W w g (disk b d :: H)) (hl : LB g a n c ls) (hb : sumL ls ≤ 100000000) (hnm : name.length ≤ 1000)
    (hR : ∀ w' g', Hl.le g g' → Sat W w' g' (disk b (d.swap name t ls).2 :: H) → R (.returned (.int .i64 (d.swap name t ls).1)) w') :
    Calls Try.prog 20 #[ptr b, str name, t.val, .slice a n c] w R := by
  have HR := Lib.hid hR
  clear hR
  refine C.calls (args := [ptr b, str name, t.val, .slice a n c]) Try.func20 rfl rfl rfl ?_
  have e0 : str name = .string ⟨name.toArray⟩ := rfl
  rw [e0]
  refine go ?_
  refine E.bx hs ?_
  intro b1 w1 hs
  have hs : Sat W w1 g (blk b1 t.cs 24 :: disk b d :: H) := hs
  refine go ?_
  have key := HR.out
  simp only [Dk.swap] at key
  refine E.callf Try.func38 rfl ?_
  refine remove_any (name := name ++ newB) hs.swap ?_
  intro w2 hs
  generalize d.remove (name ++ newB) = r1 at hs key ⊢
  obtain ⟨e1, d1⟩ := r1
  simp only at hs key ⊢
  have hll := hl.len
  have hle := hl.le
  have hhl := headB_len ht
  by_cases h12 : e1 = 0 ∨ e1 = 2
  rotate_left
  · have h1 : ¬ e1 = 0 := fun h => h12 (.inl h)
    have h2 : ¬ e1 = 2 := fun h => h12 (.inr h)
    have d1' : decide (e1 = 0) = false := by simp [h1]
    have d2' : decide (e1 = 2) = false := by simp [h2]
    refine go ?_
    rw [d1']
    refine go ?_
    rw [d2']
    refine go ?_
    refine A.r1 ?_
    rw [if_pos ⟨h1, h2⟩] at key
    exact key _ _ (Hl.le_refl _) hs.swap.drop
  rw [if_neg (by omega)] at key
  have K := Lib.hid key
  clear key HR
  rcases h12 with rfl | rfl
  all_goals
    refine go ?_
    refine E.lda hs.swap ag_title ?_
    refine go ?_
    refine E.callf Try.func26 rfl ?_
    refine head_any hs ht ?_
    intro a3 c3 w3 g3 hg3 hs
    have hl3 := hl.mono hg3
    refine gob ?_
    refine C.cutQ (fun x : Option Addr × Nat => [(0, ptr b), (1, str name), (9, str (name ++ newB)), (11, .slice x.1 (headB t ++ catB ls).length x.2)]) (fun x w => ls.any (fun x => decide (2097152 < x.length)) = false ∧ Sat W w g3 (own 5 1 (.slice x.1 (headB t ++ catB ls).length x.2) (headB t ++ catB ls).length (bs (headB t ++ catB ls)) :: disk b d1 :: blk b1 t.cs 24 :: H)) ?_ ?_
    · refine C.block ?_
      refine C.lp (fun x : Nat × Option Addr × Nat => [(0, ptr b), (1, str name), (9, str (name ++ newB)), (11, .slice x.2.1 (headB t ++ catB (ls.take x.1)).length x.2.2), (30, .slice a n c), (31, .int .i64 n), (32, .int .i64 x.1)])
        (fun gk x w => gk = n - x.1 ∧ x.1 ≤ n ∧ (ls.take x.1).any (fun x => decide (2097152 < x.length)) = false ∧ Sat W w g3 (own 5 1 (.slice x.2.1 (headB t ++ catB (ls.take x.1)).length x.2.2) (headB t ++ catB (ls.take x.1)).length (bs (headB t ++ catB (ls.take x.1))) :: disk b d1 :: blk b1 t.cs 24 :: H)) n (0, a3, c3)
        ⟨rfl, Nat.zero_le _, by simp, by simpa [catB] using hs⟩ ?_ (hw := ?_)
      rotate_left
      · simp only [List.take_zero, catB, List.map_nil, List.flatten_nil, List.append_nil]
        exact wk_
      clear hs
      rintro gk ⟨i, a4, c4⟩ w4 ⟨rfl, hi, hany, hs⟩
      simp only at hi hany hs ⊢
      refine go ?_
      refine C.cond_dec (p := (i : Int) < n) rfl (fun hlt => ?_) (fun hlt => ?_)
      rotate_left
      · have hin : i = n := by omega
        refine go ?_
        have ht2 : ls.take i = ls := List.take_of_length_le (by omega)
        rw [ht2] at hs hany ⊢
        exact A.mt (a4, c4) ⟨hany, hs⟩
      · have hin : i < n := by omega
        obtain ⟨xs, hpx, a5, c5, hxi, hp5⟩ := hl3.get hin
        have hil : i < ls.length := by omega
        have htk : ls.take (i + 1) = ls.take i ++ [ls[i]] := List.take_succ_eq_append_getElem hil
        have hmx := sumL_mem (List.getElem_mem hil)
        have hst := sumL_take ls (i + 1)
        have hcl := catB_len (ls.take i) (by have := sumL_take ls i; omega)
        have hst0 := sumL_take ls i
        rw [htk, sumL_snoc] at hst
        refine go ?_
        refine E.ix el_row hs hpx i hxi ?_
        intro b6 o6 hc6
        refine go ?_
        refine C.cond_dec (p := (2097152 : Int) < (ls[i].length : Nat)) rfl (fun hbig => ?_) (fun hbig => ?_)
        · refine go ?_
          refine A.r1 ?_
          have hA : ls.any (fun x => decide (2097152 < x.length)) = true := List.any_eq_true.2 ⟨ls[i], List.getElem_mem hil, by simp; omega⟩
          have key := K.out
          rw [if_pos hA] at key
          exact key _ _ hg3 hs.drop.swap.drop
        · refine go ?_
          refine E.callf Try.func28 rfl ?_
          refine wrap_any hs hp5 rfl (by omega) ?_
          intro a7 c7 w7 hs
          have hwl := wrapB_len ls[i] (by omega)
          have hrw : Row 1 w7 (fun _ => True) (.slice a7 (wrapB ls[i]).length c7) (wrapB ls[i]).length (bs (wrapB ls[i])) := Row.of_owns hs.owns (fun _ _ => trivial)
          have hpl : (headB t ++ catB (ls.take i)).length ≤ 39 + sumL (ls.take i) := by rw [List.length_append]; omega
          refine go ?_
          refine E.app el_u8 hs.swap hrw ?_
          intro a8 c8 w8 _ _ hs
          refine go ?_
          have e8 : (headB t ++ catB (ls.take i)).length + (wrapB ls[i]).length = (headB t ++ catB (ls.take (i + 1))).length := by rw [htk, catB_snoc]; simp [Nat.add_assoc]
          have e9 : bs (headB t ++ catB (ls.take i)) ++ bs (wrapB ls[i]) = bs (headB t ++ catB (ls.take (i + 1))) := by rw [← bs_append, htk, catB_snoc, List.append_assoc]
          rw [e8, e9] at hs
          rw [e8]
          refine A.rd (n - (i + 1)) (i + 1, a8, c8) ⟨rfl, by simp only; omega, ?_, hs.swap.drop⟩
          simp only
          rw [htk, List.any_append, hany]
          simp
          omega
    · rintro ⟨a4, c4⟩ w4 ⟨hany, hs⟩
      simp only at hs ⊢
      have key := K.out
      rw [if_neg (by rw [hany]; simp)] at key
      have hcl := catB_len ls (by omega)
      have hpl : (headB t ++ catB ls).length ≤ 39 + sumL ls := by rw [List.length_append]; omega
      obtain ⟨g5, hg5, hp5, hs⟩ := hs.publishOwn
      refine go ?_
      refine E.callf Try.func18 rfl ?_
      refine append_any hs hp5 rfl (by omega) ?_
      intro w5 hs
      generalize d1.append (name ++ newB) (headB t ++ catB ls) = r2 at hs key ⊢
      obtain ⟨e2, d2⟩ := r2
      simp only at hs key ⊢
      refine go ?_
      by_cases h2 : e2 = 0
      rotate_left
      · have hd : (!decide (e2 = 0)) = true := by simp [h2]
        refine C.cond rfl (fun _ => ?_) (fun h => by rw [hd] at h; cases h)
        refine go ?_
        refine A.r1 ?_
        rw [if_pos h2] at key
        exact key _ _ (hg3.trans hg5) hs.swap.drop
      rw [if_neg (by omega)] at key
      subst h2
      refine go ?_
      refine E.callf Try.func27 rfl ?_
      refine sync_any hs ?_
      intro w6 hs
      generalize d2.sync (name ++ newB) = r3 at hs key ⊢
      obtain ⟨e3, d3⟩ := r3
      simp only at hs key ⊢
      refine go ?_
      by_cases h3 : e3 = 0
      rotate_left
      · have hd : (!decide (e3 = 0)) = true := by simp [h3]
        refine C.cond rfl (fun _ => ?_) (fun h => by rw [hd] at h; cases h)
        refine go ?_
        refine A.r1 ?_
        rw [if_pos h3] at key
        exact key _ _ (hg3.trans hg5) hs.swap.drop
      rw [if_neg (by omega)] at key
      subst h3
      refine go ?_
      refine E.callf Try.func39 rfl ?_
      refine move_any hs ?_
      intro w7 hs
      refine go ?_
      refine A.r1 ?_
      exact key _ _ (hg3.trans hg5) hs.swap.drop
end Go.Proofs.Ytcfbmmlgdopbmaa
