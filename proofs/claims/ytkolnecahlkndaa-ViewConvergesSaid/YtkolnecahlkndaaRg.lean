/-
  A map that a call owns, while it is gone through.
-/
import Derived.Test.YtkolnecahlkndaaBs
import Derived.Maps.RangeRun
namespace Go.Proofs.Ytkolnecahlkndaa
open Go.RowKit
set_option linter.unusedVariables false
set_option linter.unusedSimpArgs false
set_option linter.unusedSectionVars false

section
variable {κ : Type} [DecidableEq κ]

structure IS where
  es : Array MapEntry
  clock : Nat
  since : Nat
  seen : Array Nat
  c0 : Nat
/-- Block b is a map, block r goes through it: 'todo' is still to come; 'cur' came last. -/
def IterOk (enc : κ → Value) (l todo : List (κ × Value)) (cur : Option (κ × Value)) (s : IS) : Prop :=
  Ents enc l s.es s.clock ∧ (∀ x ∈ s.es.toList, x.born < s.since) ∧ s.since ≤ s.c0 ∧ s.since ≤ s.clock ∧ (leftOf s.es s.seen).toList.map entOf = todo.map (fun p => (enc p.1, p.2)) ∧
    ∀ p, cur = some p → ∃ e ∈ s.es.toList, entOf e = (enc p.1, p.2) ∧ ∃ sn : Array Nat, s.seen = sn.push e.born ∧ s.c0 = s.clock
def iter (enc : κ → Value) (b r : Nat) (l todo : List (κ × Value)) (cur : Option (κ × Value)) : HP :=
  exs fun s : IS => wit (fun _ => IterOk enc l todo cur s) (fun _ _ _ h => h) (sep (obj b (.map s.es s.clock)) (obj r (.mapIter (some b) s.since s.seen s.c0)))

variable {P : Program} {W w : World} {g : Hl} {H : List HP} {enc : κ → Value} {t kt et ty : TypeId} {b r : Nat} {l todo : List (κ × Value)} {cur : Option (κ × Value)}

theorem iter_open (hs : Sat W w g (iter enc b r l todo cur :: H)) : ∃ s : IS, IterOk enc l todo cur s ∧ Sat W w g (obj b (.map s.es s.clock) :: obj r (.mapIter (some b) s.since s.seen s.c0) :: H) := by
  obtain ⟨s, h⟩ := hs.unexs
  exact ⟨s, h.unwit.1, h.unwit.2.split⟩
theorem iter_close (s : IS) (h : IterOk enc l todo cur s) (hs : Sat W w g (obj b (.map s.es s.clock) :: obj r (.mapIter (some b) s.since s.seen s.c0) :: H)) : Sat W w g (iter enc b r l todo cur :: H) :=
  Sat.mkexs s (Sat.mkwit h hs.join)

theorem mp_iter (ht : P.underlying t = some (.map kt et)) (hs : Sat W w g (mp enc b l :: H)) : ∃ w', (Instr.range t (.map (some b))).run P w = .ok (.pointer (some ⟨w.heap.size, 0, none⟩)) w' ∧ Sat W w' g (iter enc b w.heap.size l l none :: H) := by
  obtain ⟨es, clock, he, ho⟩ := mp_open hs
  refine ⟨_, run_range_map w t kt et b es clock ht ho.heap, ?_⟩
  have h2 := (ho.alloc (.mapIter (some b) clock #[] clock)).swap
  refine iter_close ⟨es, clock, clock, #[], clock⟩ ⟨he, he.2.1, Nat.le_refl _, Nat.le_refl _, ?_, fun p hp => by cases hp⟩ h2
  have : (leftOf es #[]) = es := by simp [leftOf]
  simp only [this]
  exact he.1
/-- The map again. -/
theorem iter_end (hs : Sat W w g (iter enc b r l todo cur :: H)) : Sat W w g (mp enc b l :: H) := by
  obtain ⟨s, h, hs⟩ := iter_open hs
  exact (mp_close h.1 hs).swap.drop

theorem filter_mid (es : List MapEntry) (q : MapEntry → Bool) (e : MapEntry) (hn : (es.map (·.born)).Nodup) (he : e ∈ es.filter q) : ∃ l1 l2, es.filter q = l1 ++ e :: l2 ∧ es.filter (fun x => q x && !(x.born == e.born)) = l1 ++ l2 := by
  obtain ⟨l1, l2, h⟩ := List.append_of_mem he
  refine ⟨l1, l2, h, ?_⟩
  have h2 : es.filter (fun x => q x && !(x.born == e.born)) = (es.filter q).filter (fun x => !(x.born == e.born)) := by
    rw [List.filter_filter]
    congr 1
    funext x
    rw [Bool.and_comm]
  have hnd : ((es.filter q).map (·.born)).Nodup := hn.sublist (List.Sublist.map _ List.filter_sublist)
  rw [h2, h, List.filter_append, List.filter_cons]
  rw [h, List.map_append, List.map_cons] at hnd
  have hd := List.nodup_append.1 hnd
  have f1 : l1.filter (fun x => !(x.born == e.born)) = l1 := List.filter_eq_self.2 fun x hx => by
    have := hd.2.2 x.born (List.mem_map.2 ⟨x, hx, rfl⟩) e.born (by simp)
    simpa using this
  have f2 : l2.filter (fun x => !(x.born == e.born)) = l2 := List.filter_eq_self.2 fun x hx => by
    have h1 := (List.nodup_cons.1 hd.2.1).1
    have : x.born ≠ e.born := fun hq => h1 (List.mem_map.2 ⟨x, hx, hq⟩)
    simpa using this
  simp [f1, f2]

theorem map_eq_split {α β γ : Type} {f : α → γ} {h : β → γ} : ∀ {l1 l2 : List α} {e : α} {m : List β}, (l1 ++ e :: l2).map f = m.map h → ∃ m1 p m2, m = m1 ++ p :: m2 ∧ f e = h p ∧ (l1 ++ l2).map f = (m1 ++ m2).map h
  | [], l2, e, m, hm => by
    cases m with
    | nil => simp at hm
    | cons p m =>
      simp only [List.nil_append, List.map_cons, List.cons.injEq] at hm
      exact ⟨[], p, m, rfl, hm.1, by simpa using hm.2⟩
  | a :: l1, l2, e, m, hm => by
    cases m with
    | nil => simp at hm
    | cons q m =>
      simp only [List.cons_append, List.map_cons, List.cons.injEq] at hm
      obtain ⟨m1, p, m2, rfl, h2, h3⟩ := map_eq_split (l1 := l1) hm.2
      exact ⟨q :: m1, p, m2, rfl, h2, by rw [List.cons_append, List.cons_append, List.map_cons, List.map_cons, hm.1, h3]⟩

/-- The next one, whichever it is. -/
theorem run_iter_next (hs : Sat W w g (iter enc b r l todo cur :: H)) :
    (todo = [] ∧ (Instr.next (.pointer (some ⟨r, 0, none⟩)) false ty).run P w = .ok (.tuple #[.bool false]) w) ∨
    ∃ t1 p t2 w', todo = t1 ++ p :: t2 ∧ (Instr.next (.pointer (some ⟨r, 0, none⟩)) false ty).run P w = .ok (.tuple #[.bool true, enc p.1, p.2]) w' ∧ Sat W w' g (iter enc b r l (t1 ++ t2) (some p) :: H) := by
  obtain ⟨⟨es, clock, since, seen, c0⟩, ⟨he, hold, hsc, hsk, hleft, _⟩, ho⟩ := iter_open hs
  simp only at he hold hsc hsk hleft ho
  rcases run_next_at (P := P) w ty r b since c0 seen es clock ho.swap.heap ho.heap hold hsc with ⟨h0, hr⟩ | ⟨e, hel, w1, hw1, hr⟩
  · refine .inl ⟨?_, hr⟩
    have : (leftOf es seen).toList = [] := by simpa using h0
    rw [this] at hleft
    simpa using hleft.symm
  · right
    have ho1 : Sat W w1 g (obj b (.map es clock) :: obj r (.mapIter (some b) since seen c0) :: H) := by
      rcases hw1 with rfl | rfl
      · exact ho
      · exact ho.drew
    have hl : (leftOf es seen).toList = es.toList.filter (fun x => !seen.contains x.born) := by simp [leftOf]
    rw [hl] at hel
    obtain ⟨l1, l2, h1, h2⟩ := filter_mid es.toList _ e he.2.2 hel
    rw [hl, h1] at hleft
    obtain ⟨m1, p, m2, rfl, h3, h4⟩ := map_eq_split hleft
    have hp : e.key = enc p.1 ∧ e.val = p.2 := by simpa [entOf] using h3
    rw [hp.1, hp.2] at hr
    refine ⟨m1, p, m2, _, rfl, hr, ?_⟩
    have ho2 : Sat W (Go.ChangeMaps.setBlock w1 r (.mapIter (some b) since (seen.push e.born) clock)) g (obj r (.mapIter (some b) since (seen.push e.born) clock) :: obj b (.map es clock) :: H) := by
      refine ho1.swap.update rfl rfl rfl ?_ ?_
      · simp [Go.ChangeMaps.setBlock, ho1.swap.lt]
      · intro k hk hne
        simp [Go.ChangeMaps.setBlock, Array.getElem?_setIfInBounds_ne (Ne.symm hne)]
    refine iter_close ⟨es, clock, since, seen.push e.born, clock⟩ ⟨he, hold, hsk, hsk, ?_, ?_⟩ ho2.swap
    · have : (leftOf es (seen.push e.born)).toList = es.toList.filter (fun x => !seen.contains x.born && !(x.born == e.born)) := by
        simp only [leftOf, Array.toList_filter]
        congr 1
        funext x
        rw [contains_push]
        cases seen.contains x.born <;> simp
      simp only [this, h2]
      exact h4
    · rintro q hq
      cases hq
      exact ⟨e, (List.mem_filter.1 hel).1, h3, seen, rfl, rfl⟩

/-- The one that came last, read again. -/
theorem run_iter_entry {p : κ × Value} (hs : Sat W w g (iter enc b r l todo (some p) :: H)) : (Instr.entry (.pointer (some ⟨r, 0, none⟩))).run P w = .ok (.tuple #[enc p.1, p.2]) w := by
  obtain ⟨⟨es, clock, since, seen, c0⟩, ⟨he, hold, hsc, hsk, hleft, hcur⟩, ho⟩ := iter_open hs
  simp only at he hold hsc hleft ho hcur
  obtain ⟨e, hel, hent, sn, rfl, rfl⟩ := hcur p rfl
  have hp : e.key = enc p.1 ∧ e.val = p.2 := by simpa [entOf] using hent
  rw [← hp.1, ← hp.2]
  exact run_entry_at w r b since sn es c0 e ho.swap.heap ho.heap hel he.2.2
variable {n : Fm} {ρ : List (Nat × Value)} {Q : Exit → Act → World → Prop} {ops : Array Oper} {rest : List Oper} {d : Option Tmp} {ps : String} {af : Array Edge} {x : Operand}
theorem E.range (ht : P.underlying t = some (.map kt et)) (hs : Sat W w g (mp enc b l :: H)) (h : ∀ r w', Sat W w' g (iter enc b r l l none :: H) → E P n ops rest (pushv d (.pointer (some ⟨r, 0, none⟩)) ρ) w' Q) (hx : evo n ρ x = some (.map (some b)) := by exact rfl) :
    E P n ops (⟨d, .range t x, ty, ps, af, none⟩ :: rest) ρ w Q := by
  obtain ⟨w', hr, hs'⟩ := mp_iter ht hs
  exact E.cons (St.val (fun a ha => by simp [execOp, ha.eval hx, hr]) (h _ _ hs'))
theorem E.next (hs : Sat W w g (iter enc b r l todo cur :: H)) (h0 : todo = [] → E P n ops rest (pushv d (.tuple #[.bool false]) ρ) w Q)
    (h1 : ∀ t1 p t2 w', todo = t1 ++ p :: t2 → Sat W w' g (iter enc b r l (t1 ++ t2) (some p) :: H) → E P n ops rest (pushv d (.tuple #[.bool true, enc p.1, p.2]) ρ) w' Q) (hx : evo n ρ x = some (.pointer (some ⟨r, 0, none⟩)) := by exact rfl) :
    E P n ops (⟨d, .next x false, ty, ps, af, none⟩ :: rest) ρ w Q := by
  rcases run_iter_next (P := P) (ty := ty) hs with ⟨he, hr⟩ | ⟨t1, p, t2, w', he, hr, hs'⟩
  · exact E.cons (St.val (fun a ha => by simp [execOp, ha.eval hx, hr]) (h0 he))
  · exact E.cons (St.val (fun a ha => by simp [execOp, ha.eval hx, hr]) (h1 t1 p t2 w' he hs'))
theorem E.entry {p : κ × Value} (hs : Sat W w g (iter enc b r l todo (some p) :: H)) (h : E P n ops rest (pushv d (.tuple #[enc p.1, p.2]) ρ) w Q) (hx : evo n ρ x = some (.pointer (some ⟨r, 0, none⟩)) := by exact rfl) :
    E P n ops (⟨d, .entry x, ty, ps, af, none⟩ :: rest) ρ w Q :=
  E.cons (St.val (fun a ha => by simp [execOp, ha.eval hx, run_iter_entry hs]) h)
end

section
variable {P : Program} {W w : World} {g : Hl} {H : List HP} {t ty : TypeId} {r : Nat} {n : Fm} {ρ : List (Nat × Value)} {Q : Exit → Act → World → Prop} {ops : Array Oper} {rest : List Oper} {d : Option Tmp} {ps : String} {af : Array Edge} {x : Operand} {s : ByteArray} {i : Nat}
/-- A string's characters. -/
theorem E.ranges (hs : Sat W w g H) (h : ∀ r w', Sat W w' g (obj r (.stringIter s 0) :: H) → E P n ops rest (pushv d (.pointer (some ⟨r, 0, none⟩)) ρ) w' Q) (hx : evo n ρ x = some (.string s) := by exact rfl) (ht : P.underlying t = some .string := by kernel_rfl) :
    E P n ops (⟨d, .range t x, ty, ps, af, none⟩ :: rest) ρ w Q :=
  E.cons (St.val (w' := w.alloc (.stringIter s 0)) (fun a ha => by simp [execOp, ha.eval hx, Instr.range, run_underlying ht]) (h _ _ (hs.alloc _)))
theorem E.nexts (hs : Sat W w g (obj r (.stringIter s i) :: H)) (h0 : s.size ≤ i → E P n ops rest (pushv d (.tuple #[.bool false]) ρ) w Q)
    (h1 : ∀ w', i < s.size → Sat W w' g (obj r (.stringIter s (i + (Utf8.decode s i).2)) :: H) → E P n ops rest (pushv d (.tuple #[.bool true, .int .i64 i, .int .i32 (Utf8.decode s i).1]) ρ) w' Q) (hx : evo n ρ x = some (.pointer (some ⟨r, 0, none⟩)) := by exact rfl) :
    E P n ops (⟨d, .next x true, ty, ps, af, none⟩ :: rest) ρ w Q := by
  have hb := hs.heap
  by_cases h : i < s.size
  · refine E.cons (St.val (w' := Go.ChangeMaps.setBlock w r (.stringIter s (i + (Utf8.decode s i).2))) (fun a ha => ?_) (h1 _ h ?_))
    · have hso : (setObj r (.stringIter s (i + (Utf8.decode s i).2))).run P w = .ok () (Go.ChangeMaps.setBlock w r (.stringIter s (i + (Utf8.decode s i).2))) := by
        simp [setObj, Sem.run, hb, Go.ChangeMaps.setBlock]
      simp only [execOp, ha.eval hx, Instr.next, getObj, Sem.run_bind, Sem.run, hb, Result.andThen, h, if_true, hso]
      rfl
    · refine hs.update rfl rfl rfl ?_ ?_
      · simp [Go.ChangeMaps.setBlock, hs.lt]
      · intro k hk hne
        simp [Go.ChangeMaps.setBlock, Array.getElem?_setIfInBounds_ne (Ne.symm hne)]
  · refine E.cons (St.val (w' := w) (fun a ha => ?_) (h0 (by omega)))
    simp only [execOp, ha.eval hx, Instr.next, getObj, Sem.run_bind, Sem.run, hb, Result.andThen, h, if_false]
    rfl
end

end Go.Proofs.Ytkolnecahlkndaa
