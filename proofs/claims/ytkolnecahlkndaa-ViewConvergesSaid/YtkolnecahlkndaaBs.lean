/-
  What is owned: many things as one; rows whose array may be longer than they may grow; lists of keys and things.
-/
import Derived.Test.YtkolnecahlkndaaIx
import Derived.ArgAppend
namespace Go.Proofs.Ytkolnecahlkndaa
open Go.RowKit
set_option linter.unusedVariables false
set_option linter.unusedSimpArgs false
set_option linter.unusedSectionVars false

/-- Many things as one. -/
def bsep : List HP → HP
  | [] => nothing
  | P :: r => sep P (bsep r)
theorem Sat.bopen {W w : World} {g : Hl} : ∀ {l H : List HP}, Sat W w g (bsep l :: H) → Sat W w g (l ++ H)
  | [], _, hs => hs.drop
  | P :: r, H, hs => by
    have h1 := hs.split.swap
    have h2 := Sat.bopen (l := r) h1
    exact h2.toFront
theorem Sat.bclose {W w : World} {g : Hl} : ∀ {l H : List HP}, Sat W w g (l ++ H) → Sat W w g (bsep l :: H)
  | [], _, hs => hs.mknothing
  | P :: r, H, hs => by
    have h1 : Sat W w g (P :: (r ++ H)) := hs
    have h2 := Sat.bclose (l := r) (h1.toBack (H := r) (H' := H))
    exact h2.swap.join

theorem Sat.d1 {W w : World} {g : Hl} {A B : HP} {H : List HP} (hs : Sat W w g (A :: B :: H)) : Sat W w g (A :: H) := hs.swap.drop
/-- An own row whose array may be longer than its capacity. -/
def ownwP (E : TypeId) (size : Nat) (v : Value) (n : Nat) (xs : List Value) (h : Hl) : Prop :=
  xs.length = n * size ∧ ((v = .slice none 0 0 ∧ n = 0 ∧ h = Hl.emp) ∨
    ∃ (b cap : Nat) (cur : Array Value), v = .slice (some ⟨b, 0, none⟩) n cap ∧ n ≤ cap ∧ cap ≤ 9223372036854775807 ∧ cap * size ≤ cur.size ∧ cur.toList.take (n * size) = xs ∧ h = Hl.one b (.cells cur E (0, 0)))
def ownw (E : TypeId) (size : Nat) (v : Value) (n : Nat) (xs : List Value) : HP := ⟨fun _ h => ownwP E size v n xs h, fun _ _ _ _ h => h⟩

namespace Sat
variable {W w w' : World} {g g' : Hl} {H H' : List HP} {E : TypeId} {size : Nat} {v : Value} {n : Nat} {xs : List Value}
theorem slack (hs : Sat W w g (own E size v n xs :: H)) : Sat W w g (ownw E size v n xs :: H) := hs.conv fun h ⟨h1, h2⟩ => ⟨h1, by
  rcases h2 with h2 | ⟨b, cap, cur, e, hn, hm, hc, ht, he⟩
  · exact .inl h2
  · exact .inr ⟨b, cap, cur, e, hn, by unfold maxLen at hm; omega, by omega, ht, he⟩⟩
theorem wnil (hs : Sat W w g H) : Sat W w g (ownw E size (.slice none 0 0) 0 [] :: H) := hs.mknothing.conv fun h e => ⟨by simp, .inl ⟨rfl, rfl, e⟩⟩
theorem wlen (hs : Sat W w g (ownw E size v n xs :: H)) : xs.length = n * size ∧ ∃ a c, v = .slice a n c ∧ n ≤ c ∧ c ≤ 9223372036854775807 ∧ (a = none → n = 0 ∧ c = 0) := hs.fact fun h ⟨h1, h2⟩ => ⟨h1, by
  rcases h2 with ⟨e, h0, _⟩ | ⟨b, cap, cur, e, hn, hm, _⟩
  · subst h0; exact ⟨none, 0, e, Nat.le_refl _, Nat.zero_le _, fun _ => ⟨rfl, rfl⟩⟩
  · exact ⟨_, cap, e, hn, hm, fun e => by simp at e⟩⟩
/-- It reads as a row. -/
theorem wrow (hs : Sat W w g (ownw E size v n xs :: H)) : Row size w (fun _ => True) v n xs := by
  obtain ⟨h1, h2, h3, h, ⟨a, x, d, rfl, ⟨hl, hp⟩, s⟩, dg, ag⟩ := hs
  rcases hp with ⟨rfl, rfl, _⟩ | ⟨b, cap, cur, rfl, hn, hm, hcs, ht, rfl⟩
  · obtain rfl : xs = [] := List.eq_nil_of_length_eq_zero (by simpa using hl)
    exact Row.nil _ _
  · refine ⟨hl, _, cap, rfl, hn, by unfold maxLen; omega, fun e => by simp at e, .inr ⟨b, 0, cur, E, (0, 0), rfl, trivial, ag b (.cells cur E (0, 0)) ?_, by simpa using ht⟩⟩
    rcases dg b with e | e
    · simp [Hl.un, e, Hl.one]
    · simp [Hl.un, Hl.one] at e
theorem wempty {b : Nat} (hs : Sat W w g (blk b [] E :: H)) : Sat W w g (ownw E size (.slice (some ⟨b, 0, none⟩) 0 0) 0 [] :: H) := hs.conv fun h e => ⟨by simp, .inr ⟨b, 0, #[], rfl, Nat.le_refl _, by omega, by simp, by simp, e⟩⟩
/-- It becomes the pool's. -/
theorem wpublish (hs : Sat W w g (ownw E size v n xs :: H)) : ∃ g', Hl.le g g' ∧ Pr size g' v n xs ∧ Sat W w g' H := by
  obtain ⟨h, ⟨h1, h2⟩, hle, hle2, hs2⟩ := hs.publish
  refine ⟨_, hle, ⟨h1, ?_⟩, hs2⟩
  rcases h2 with ⟨rfl, rfl, _⟩ | ⟨b, cap, cur, rfl, hn, hm, hcs, ht, rfl⟩
  · exact ⟨none, 0, rfl, Nat.le_refl _, Nat.zero_le _, fun _ => ⟨rfl, rfl⟩, .inl rfl⟩
  · exact ⟨_, cap, rfl, hn, by unfold maxLen; omega, fun e => by simp at e, .inr ⟨b, 0, cur, E, (0, 0), rfl, hle2 b (.cells cur E (0, 0)) (by simp [Hl.one]), by simpa using ht⟩⟩
/-- Its first elements, that may not grow. -/
theorem wcut {c : Nat} {a : Option Addr} (hs : Sat W w g (ownw E size (.slice a n c) n xs :: H)) {k : Nat} (hk : k ≤ n) : Sat W w g (ownw E size (.slice a k k) k (xs.take (k * size)) :: H) := hs.conv fun h ⟨h1, h2⟩ => by
  have hks : k * size ≤ n * size := Nat.mul_le_mul_right _ hk
  refine ⟨by rw [List.length_take, h1]; omega, ?_⟩
  rcases h2 with ⟨e, rfl, he⟩ | ⟨b, cap, cur, e, hn, hm, hcs, ht, he⟩
  · obtain rfl : k = 0 := by omega
    simp only [Value.slice.injEq] at e
    exact .inl ⟨by rw [e.1], rfl, he⟩
  · simp only [Value.slice.injEq] at e
    obtain ⟨rfl, -, rfl⟩ := e
    have hkc : k * size ≤ c * size := Nat.mul_le_mul_right _ (by omega)
    exact .inr ⟨b, k, cur, rfl, Nat.le_refl _, by omega, by omega, by rw [← ht, List.take_take, Nat.min_eq_left hks], he⟩
end Sat

section
variable {P : Program} {W w w' : World} {g g' : Hl} {H H' : List HP} {t e ty : TypeId} {z : Value} {size bytes : Nat} {n : Fm} {ρ : List (Nat × Value)} {Q : Exit → Act → World → Prop} {ops : Array Oper} {rest : List Oper} {d : Option Tmp} {ps : String} {af : Array Edge} {x y : Operand} {N : List (Nat × Value) → World → Prop}

theorem run_appendw (he : ElemOf P t e z size bytes) {a : Option Addr} {k c m : Nat} {u : Value} {xs news : List Value} (hs : Sat W w g (ownw e size (.slice a k c) k xs :: H)) {D : Nat → Prop} (hrow : Row size w D u m news) (h1 : ∀ x ∈ news, x.oneCell' = true) (h63 : k + m ≤ 9223372036854775807) (hbytes : (k + m) * bytes ≤ 140737488355328) :
    ∃ a' c' w', (Builtin.append_ #[t, t] ty #[.slice a k c, u]).run P w = .ok (.slice a' (k + m) c') w' ∧ Sat W w' g (ownw e size (.slice a' (k + m) c') (k + m) (xs ++ news) :: H) := by
  obtain ⟨hl, _, _, e0, hkc, hcm, hnone⟩ := hs.wlen
  simp only [Value.slice.injEq] at e0
  obtain ⟨rfl, -, rfl⟩ := e0
  obtain ⟨ht, ⟨i, hi, hz, hsz, hb⟩, hzs, hpos⟩ := he
  by_cases hm : m = 0
  · subst hm
    have hn0 : news = [] := List.eq_nil_of_length_eq_zero (by simpa using hrow.1)
    subst hn0
    refine ⟨a, c, w, ?_, by simpa using hs⟩
    rcases hrow.news with ⟨rfl, _, _⟩ | ⟨a', c', rfl, _, _⟩
    · cases a <;> simp [Builtin.append_, run_underlying ht, sizeOf, typeInfo, hi, Builtin.lenOf, hkc, Builtin.firstCells, storeCells]
    · cases a <;> simp [Builtin.append_, run_underlying ht, sizeOf, typeInfo, hi, Builtin.lenOf, hkc, Builtin.firstCells, loadCells, loadCellsFrom, storeCells]
  rcases hrow.news with ⟨_, h0, _⟩ | ⟨a', c', rfl, hnl, hnc⟩
  · exact absurd h0 hm
  have fin : ∀ v' w', w'.ownsRow w.heap.size e size v' (k + m) (xs ++ news) → w.grownBy w' none → ∃ a2 c2, v' = .slice a2 (k + m) c2 ∧ Sat W w' g (ownw e size (.slice a2 (k + m) c2) (k + m) (xs ++ news) :: H) := by
    intro v' w' ho hg
    have hs2 := (hs.drop.newOwn ho ⟨hg.os, hg.tape, hg.output, hg.size, fun q hq => hg.block q hq (by simp)⟩)
    obtain ⟨a2, c2, rfl, _⟩ := hs2.ownLen
    exact ⟨a2, c2, rfl, hs2.slack⟩
  by_cases hroom : k + m ≤ c
  · -- in place
    cases ha : a with
    | none => have := hnone ha; omega
    | some ad =>
      subst ha
      have key : ∃ b cur, ad = ⟨b, 0, none⟩ ∧ c * size ≤ cur.size ∧ cur.toList.take (k * size) = xs ∧ Sat W w g (obj b (.cells cur e (0, 0)) :: H) := by
        obtain ⟨q1, q2, q3, h, ⟨x1, x2, d, ed, ⟨_, hp⟩, s⟩, dg, ag⟩ := hs
        rcases hp with ⟨e1, _⟩ | ⟨b, cap, cur, e1, _, _, hcs, htk, rfl⟩
        · cases e1
        · simp only [Value.slice.injEq, Option.some.injEq] at e1
          obtain ⟨rfl, -, rfl⟩ := e1
          exact ⟨b, cur, rfl, hcs, htk, q1, q2, q3, h, ⟨_, x2, d, ed, rfl, s⟩, dg, ag⟩
      obtain ⟨b, cur, rfl, hcs, htk, ho⟩ := key
      subst hsz
      have hks : (k + m) * i.size ≤ c * i.size := Nat.mul_le_mul_right _ hroom
      rw [Nat.add_mul] at hks
      have hfit : k * i.size + news.length ≤ cur.size := by rw [hnl]; omega
      have hrun := run_append_room (P := P) w t ty e i ht hi b k c cur ho.heap a' m c' news hnl hnc h1 hroom hfit
      refine ⟨_, _, _, hrun, ?_⟩
      refine (ho.update (w' := w.setRow b (cur.toList.take (k * i.size) ++ news ++ cur.toList.drop (k * i.size + news.length)).toArray) (o' := .cells (cur.toList.take (k * i.size) ++ news ++ cur.toList.drop (k * i.size + news.length)).toArray e (0, 0)) rfl rfl rfl ?_ ?_).conv fun h hh => ⟨?_, .inr ⟨b, c, _, rfl, hroom, hcm, ?_, ?_, hh⟩⟩
      · exact setRow_heap w b cur _ e _ ho.heap
      · intro q hq hne
        exact setRow_other w b q _ hne
      · rw [List.length_append, hl, hnl, Nat.add_mul]
      · simp only [List.size_toArray, List.length_append, List.length_take, List.length_drop, Array.length_toList]
        omega
      · have e3 : (cur.toList.take (k * i.size) ++ news).length = (k + m) * i.size := by rw [List.length_append, htk, hl, hnl, Nat.add_mul]
        simp only
        rw [List.take_append_of_le_length (by omega), List.take_of_length_le (by omega), htk]
  · -- a new one
    cases ha : a with
    | none =>
      subst ha
      obtain ⟨rfl, rfl⟩ := hnone rfl
      obtain rfl : xs = [] := List.eq_nil_of_length_eq_zero (by simpa using hl)
      obtain ⟨v', w', hrun, r1, r2, _⟩ := run_append_own (P := P) w w.heap.size t ty e i z size bytes ht hi hz hsz hb hzs hpos (.slice none 0 0) 0 [] (World.ownsRow_nil w _ e size) a' m c' news hnl hnc h1 (by unfold maxLen; omega) hbytes (Nat.le_refl _)
      obtain ⟨a2, c2, rfl, h2⟩ := fin v' w' r1 r2
      exact ⟨a2, c2, w', hrun, h2⟩
    | some ad =>
      subst ha
      have hc0 : ∀ j u, xs[j]? = some u → w.cell? (ad.add j) = some u := by
        rcases hs.wrow.news with ⟨e, _⟩ | ⟨a, c, e, _, hc⟩
        · cases e
        · simp only [Value.slice.injEq, Option.some.injEq] at e
          obtain ⟨rfl, _⟩ := e
          exact hc
      obtain ⟨v', w', hrun, r1, r2⟩ := run_append_arg_grows (P := P) w t ty e i z size bytes ht hi hz hsz hb hzs hpos ad k c xs hl hc0 a' m c' news hnl hnc (by omega) (by unfold maxLen; omega) hbytes
      obtain ⟨a2, c2, rfl, h2⟩ := fin v' w' r1 r2
      exact ⟨a2, c2, w', hrun, h2⟩

/-- append onto such a row. -/
theorem E.appw {s : Operand} {a : Option Addr} {k c m : Nat} {u : Value} {xs news : List Value} (he : ElemOf P t e z size bytes) (hs : Sat W w g (ownw e size (.slice a k c) k xs :: H)) {D : Nat → Prop} (hrow : Row size w D u m news)
    (h : ∀ a' c' w', Sat W w' g (ownw e size (.slice a' (k + m) c') (k + m) (xs ++ news) :: H) → E P n ops rest (pushv d (.slice a' (k + m) c') ρ) w' Q) (h63 : k + m ≤ 9223372036854775807 := by omega) (hbytes : (k + m) * bytes ≤ 140737488355328 := by omega)
    (hx : evo n ρ s = some (.slice a k c) := by exact rfl) (hy : evo n ρ y = some u := by exact rfl) (h1 : ∀ x ∈ news, x.oneCell' = true := by first | exact bs_one _ | (intro u hu; simp only [List.mem_cons, List.not_mem_nil, or_false] at hu; rcases hu with rfl | rfl | rfl <;> exact rfl)) :
    E P n ops (⟨d, .call ⟨.builtin .append, #[s, y], #[t, t]⟩, ty, ps, af, none⟩ :: rest) ρ w Q := by
  obtain ⟨a', c', w', hr, hs'⟩ := run_appendw (P := P) (ty := ty) he hs hrow h1 h63 hbytes
  refine E.cons (St.val (v := .slice a' (k + m) c') (w' := w') (fun ac ha => ?_) (h a' c' w' hs'))
  simp only [execOp, resolve, invoke, builtin, Sem.run_bind, Sem.run_pure, Result.andThen_ok, List.map_toArray, List.map_cons, List.map_nil, ha.eval hx, ha.eval hy, hr]
end

/-! Lists of keys and things. -/
section
variable {κ β : Type} [DecidableEq κ]
def aget (k : κ) : List (κ × β) → Option β
  | [] => none
  | (a, v) :: r => if k = a then some v else aget k r
def aput (k : κ) (v : β) : List (κ × β) → List (κ × β)
  | [] => [(k, v)]
  | (a, u) :: r => if k = a then (a, v) :: r else (a, u) :: aput k v r
def adrop (k : κ) : List (κ × β) → List (κ × β)
  | [] => []
  | (a, u) :: r => if k = a then r else (a, u) :: adrop k r
theorem alook_map (f : β → Value) (k : κ) : ∀ (l : List (κ × β)), alook k (l.map fun p => (p.1, f p.2)) = (aget k l).map f
  | [] => rfl
  | (a, v) :: r => by
    simp only [List.map_cons, alook, aget]
    split
    · rfl
    · exact alook_map f k r
theorem aset_map (f : β → Value) (k : κ) (v : β) : ∀ (l : List (κ × β)), aset k (f v) (l.map fun p => (p.1, f p.2)) = (aput k v l).map fun p => (p.1, f p.2)
  | [] => rfl
  | (a, u) :: r => by
    simp only [List.map_cons, aset, aput]
    split
    · rfl
    · simp only [List.map_cons, aset_map f k v r]
theorem adel_map (f : β → Value) (k : κ) : ∀ (l : List (κ × β)), adel k (l.map fun p => (p.1, f p.2)) = (adrop k l).map fun p => (p.1, f p.2)
  | [] => rfl
  | (a, u) :: r => by
    simp only [List.map_cons, adel, adrop]
    split
    · rfl
    · simp only [List.map_cons, adel_map f k r]
theorem al_split {k : κ} {v : β} : ∀ {l : List (κ × β)}, aget k l = some v → ∃ l1 l2, l = l1 ++ (k, v) :: l2 ∧ (∀ u, aput k u l = l1 ++ (k, u) :: l2) ∧ adrop k l = l1 ++ l2
  | [], h => by cases h
  | (a, u) :: r, h => by
    simp only [aget] at h
    by_cases e : k = a
    · subst e
      simp only [if_true, Option.some.injEq] at h
      subst h
      exact ⟨[], r, rfl, fun u => by simp [aput], by simp [adrop]⟩
    · rw [if_neg e] at h
      obtain ⟨l1, l2, rfl, h2, h3⟩ := al_split h
      exact ⟨(a, u) :: l1, l2, rfl, fun u => by simp [aput, e, h2], by simp [adrop, e, h3]⟩
theorem as_none {k : κ} {v : β} : ∀ {l : List (κ × β)}, aget k l = none → aput k v l = l ++ [(k, v)] ∧ adrop k l = l
  | [], _ => ⟨rfl, rfl⟩
  | (a, u) :: r, h => by
    simp only [aget] at h
    by_cases e : k = a
    · simp [e] at h
    · rw [if_neg e] at h
      obtain ⟨h1, h2⟩ := as_none (v := v) h
      simp [aput, adrop, e, h1, h2]
theorem al_map {γ : Type} (f : β → γ) (k : κ) : ∀ (l : List (κ × β)), aget k (l.map fun p => (p.1, f p.2)) = (aget k l).map f
  | [] => rfl
  | (a, v) :: r => by
    simp only [List.map_cons, aget]
    split
    · rfl
    · exact al_map f k r
theorem as_map {γ : Type} (f : β → γ) (k : κ) (v : β) : ∀ (l : List (κ × β)), aput k (f v) (l.map fun p => (p.1, f p.2)) = (aput k v l).map fun p => (p.1, f p.2)
  | [] => rfl
  | (a, u) :: r => by
    simp only [List.map_cons, aput]
    split
    · rfl
    · simp only [List.map_cons, as_map f k v r]
theorem ad_map {γ : Type} (f : β → γ) (k : κ) : ∀ (l : List (κ × β)), adrop k (l.map fun p => (p.1, f p.2)) = (adrop k l).map fun p => (p.1, f p.2)
  | [] => rfl
  | (a, u) :: r => by
    simp only [List.map_cons, adrop]
    split
    · rfl
    · simp only [List.map_cons, ad_map f k r]
end

end Go.Proofs.Ytkolnecahlkndaa
