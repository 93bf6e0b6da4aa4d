/-
  Maps that a call owns: a block that holds a list of keys and values.
-/
import Derived.Test.YtkolnecahlkndaaSl
import Derived.MapKept
import Derived.Maps.RangeRun
namespace Go.Proofs.Ytkolnecahlkndaa
open Go.RowKit
set_option linter.unusedVariables false
set_option linter.unusedSimpArgs false
set_option linter.unusedSectionVars false

/-- A type of keys, and how they are laid. -/
structure Ky {κ : Type} [DecidableEq κ] (P : Program) (kt : TypeId) (enc : κ → Value) : Prop where
  kind : ∃ d, P.underlying kt = some d ∧ (∀ a, Go.MapKept.IsKey d (enc a)) ∧ ∀ a b, Instr.sameNow d (enc a) (enc b) = some (decide (a = b))
  bits : ∀ a, Instr.sameBits 10000 (enc a) (enc a) = true

section
variable {κ : Type} [DecidableEq κ]
def alook (k : κ) : List (κ × Value) → Option Value
  | [] => none
  | (a, v) :: r => if k = a then some v else alook k r
def aidx (k : κ) : List (κ × Value) → Nat → Option (Nat × Value)
  | [], _ => none
  | (a, v) :: r, i => if k = a then some (i, v) else aidx k r (i + 1)
def aset (k : κ) (v : Value) : List (κ × Value) → List (κ × Value)
  | [] => [(k, v)]
  | (a, u) :: r => if k = a then (a, v) :: r else (a, u) :: aset k v r
def adel (k : κ) : List (κ × Value) → List (κ × Value)
  | [] => []
  | (a, u) :: r => if k = a then r else (a, u) :: adel k r

def entOf (e : MapEntry) : Value × Value := (e.key, e.val)
/-- The entries of a map's block. -/
def Ents (enc : κ → Value) (l : List (κ × Value)) (es : Array MapEntry) (clock : Nat) : Prop :=
  es.toList.map entOf = l.map (fun p => (enc p.1, p.2)) ∧ (∀ x ∈ es.toList, x.born < clock) ∧ (es.toList.map (·.born)).Nodup
def mp (enc : κ → Value) (b : Nat) (l : List (κ × Value)) : HP :=
  ⟨fun _ h => ∃ es clock, h = Hl.one b (.map es clock) ∧ Ents enc l es clock, fun _ _ _ _ h => h⟩

theorem alook_aidx (k : κ) : ∀ (l : List (κ × Value)) (i : Nat), alook k l = (aidx k l i).map Prod.snd
  | [], _ => rfl
  | (a, v) :: r, i => by
    simp only [alook, aidx]
    split
    · rfl
    · exact alook_aidx k r (i + 1)
theorem aidx_at (k : κ) : ∀ (l : List (κ × Value)) (i j : Nat) (v : Value), aidx k l i = some (j, v) → ∃ m, j = i + m ∧ l[m]? = some (k, v) ∧ (∀ u, aset k u l = l.set m (k, u)) ∧ adel k l = l.eraseIdx m
  | [], _, _, _, h => by cases h
  | (a, v') :: r, i, j, v, h => by
    simp only [aidx] at h
    split at h
    · rename_i e
      subst e
      cases h
      exact ⟨0, rfl, rfl, fun u => by simp [aset], by simp [adel]⟩
    · rename_i e
      obtain ⟨m, h1, h2, h3, h4⟩ := aidx_at k r (i + 1) j v h
      exact ⟨m + 1, by omega, by simpa using h2, fun u => by simp [aset, e, h3 u], by simp [adel, e, h4]⟩
theorem aidx_none (k : κ) : ∀ (l : List (κ × Value)) (i : Nat), aidx k l i = none → (∀ u, aset k u l = l ++ [(k, u)]) ∧ adel k l = l
  | [], _, _ => ⟨fun _ => rfl, rfl⟩
  | (a, v) :: r, i, h => by
    simp only [aidx] at h
    split at h
    · cases h
    · rename_i e
      obtain ⟨h1, h2⟩ := aidx_none k r (i + 1) h
      exact ⟨fun u => by simp [aset, e, h1 u], by simp [adel, e, h2]⟩

theorem find_ents {d : TypeDesc} {enc : κ → Value} (hd : ∀ a b, Instr.sameNow d (enc a) (enc b) = some (decide (a = b))) (k : κ) : ∀ (es : List MapEntry) (l : List (κ × Value)) (i : Nat), es.map entOf = l.map (fun p => (enc p.1, p.2)) → Instr.findNow d (enc k) es i = some (aidx k l i)
  | [], [], i, _ => rfl
  | [], _ :: _, i, h => by simp at h
  | _ :: _, [], i, h => by simp at h
  | e :: es, (a, v) :: l, i, h => by
    simp only [List.map_cons, List.cons.injEq, entOf, Prod.mk.injEq] at h
    obtain ⟨⟨h1, h2⟩, h3⟩ := h
    simp only [Instr.findNow, h1, hd, aidx]
    by_cases hk : k = a
    · simp [hk, h2]
    · simp only [hk, decide_false, if_false]
      exact find_ents hd k es l (i + 1) h3

variable {P : Program} {W w : World} {g : Hl} {H : List HP} {enc : κ → Value} {t kt et : TypeId} {b : Nat} {l : List (κ × Value)}

theorem mp_open (hs : Sat W w g (mp enc b l :: H)) : ∃ es clock, Ents enc l es clock ∧ Sat W w g (obj b (.map es clock) :: H) := by
  obtain ⟨⟨es, clock⟩, h⟩ := hs.opens (F := fun q : Array MapEntry × Nat => wit (fun _ => Ents enc l q.1 q.2) (fun _ _ _ h => h) (obj b (.map q.1 q.2))) (by
    rintro h ⟨es, clock, e, he⟩
    exact ⟨(es, clock), he, e⟩)
  exact ⟨es, clock, h.unwit.1, h.unwit.2⟩
theorem mp_close {es : Array MapEntry} {clock : Nat} (he : Ents enc l es clock) (hs : Sat W w g (obj b (.map es clock) :: H)) : Sat W w g (mp enc b l :: H) :=
  hs.conv fun _ e => ⟨es, clock, e, he⟩

theorem ents_nil : Ents enc ([] : List (κ × Value)) #[] 0 := ⟨rfl, by simp, by simp⟩

/-- A new map. -/
theorem mp_new (hs : Sat W w g H) : Sat W (w.alloc (.map #[] 0)) g (mp enc w.heap.size ([] : List (κ × Value)) :: H) := mp_close ents_nil (hs.alloc _)

theorem run_lookup_mp (K : Ky P kt enc) (ht : P.underlying t = some (.map kt et)) (hs : Sat W w g (mp enc b l :: H)) (k : κ) {z : Value} (hz : (zeroValue et).run P w = .ok z w) (ok : Bool) :
    (Instr.lookup t (.map (some b)) (enc k) ok).run P w = .ok (if ok then .tuple #[(alook k l).getD z, .bool (alook k l).isSome] else (alook k l).getD z) w := by
  obtain ⟨es, clock, he, ho⟩ := mp_open hs
  obtain ⟨d, hd, hk, hn⟩ := K.kind
  have hb := ho.heap
  have hf := Go.MapKept.run_findKey (P := P) (w := w) hd (find_ents hn k es.toList l 0 he.1)
  have hc := Go.MapKept.run_checkKey (P := P) (w := w) hd (hk k) es.isEmpty 9999
  have hg := Go.MapKept.run_getObj_map (P := P) hb
  rw [alook_aidx k l 0]
  simp only [Instr.lookup, Sem.run_bind, run_underlying ht, Result.andThen, hg, Sem.run_pure, hc, hf]
  cases aidx k l 0 with
  | none => cases ok <;> simp [hz, Result.andThen]
  | some p => cases ok <;> simp [Result.andThen]

theorem upd_block {es : Array MapEntry} {c : Nat} (hs : Sat W w g (obj b (.map es c) :: H)) (o : Obj) : Sat W { w with heap := w.heap.setIfInBounds b o } g (obj b o :: H) :=
  hs.update rfl rfl rfl (by simp [hs.lt]) fun k hk hne => by simp [Array.getElem?_setIfInBounds_ne (Ne.symm hne)]

theorem run_update_mp (K : Ky P kt enc) (ht : P.underlying t = some (.map kt et)) (hs : Sat W w g (mp enc b l :: H)) (k : κ) (v : Value) :
    ∃ w', (Instr.mapUpdate t (.map (some b)) (enc k) v).run P w = .ok () w' ∧ Sat W w' g (mp enc b (aset k v l) :: H) := by
  obtain ⟨es, clock, he, ho⟩ := mp_open hs
  obtain ⟨d, hd, hk, hn⟩ := K.kind
  have hb := ho.heap
  have hf := Go.MapKept.run_findKey (P := P) (w := w) hd (find_ents hn k es.toList l 0 he.1)
  have hc := Go.MapKept.run_checkKey (P := P) (w := w) hd (hk k) false 9999
  have hg := Go.MapKept.run_getObj_map (P := P) hb
  obtain ⟨e1, e2, e3⟩ := he
  cases hi : aidx k l 0 with
  | none =>
    obtain ⟨ha, _⟩ := aidx_none k l 0 hi
    refine ⟨_, ?_, mp_close (es := es.push ⟨enc k, v, clock⟩) (clock := clock + 1) ?_ (upd_block ho _)⟩
    · simp only [Instr.mapUpdate, Sem.run_bind, run_underlying ht, Result.andThen, hg, hc, hf, hi]
      exact Go.MapKept.run_setObj_map _ hb
    · rw [ha]
      refine ⟨by simp [e1, entOf], ?_, ?_⟩
      · intro x hx
        simp only [Array.toList_push, List.mem_append, List.mem_singleton] at hx
        rcases hx with hx | rfl
        · have := e2 x hx; omega
        · simp
      · simp only [Array.toList_push, List.map_append, List.map_cons, List.map_nil]
        refine List.nodup_append.2 ⟨e3, by simp, ?_⟩
        intro a ha c hc
        simp only [List.mem_singleton] at hc
        obtain ⟨x, hx, rfl⟩ := List.mem_map.1 ha
        have := e2 x hx
        omega
  | some p =>
    obtain ⟨j, u⟩ := p
    obtain ⟨m, h1, h2, h3, h4⟩ := aidx_at k l 0 j u hi
    obtain rfl : j = m := by omega
    have hm : es.toList.map entOf = l.map (fun p => (enc p.1, p.2)) := e1
    have hlen : es.size = l.length := by simpa using congrArg List.length hm
    have hjl : j < l.length := (List.getElem?_eq_some_iff.1 h2).1
    have hkey : (es[j]?).map (·.key) = some (enc k) := by
      have := congrArg (fun q => q[j]?) hm
      simp only [List.getElem?_map, h2, Option.map_some] at this
      cases hx : es[j]? with
      | none => simp [hx] at this
      | some x => simp [hx, entOf] at this; simp [this.1]
    refine ⟨_, ?_, mp_close (es := es.modify j fun e => { e with key := enc k, val := v }) (clock := clock) ?_ (upd_block ho _)⟩
    · simp only [Instr.mapUpdate, Sem.run_bind, run_underlying ht, Result.andThen, hg, hc, hf, hi]
      simp only [hkey, Option.getD_some, Instr.keyThatStays, K.bits k, if_true, Sem.run_pure, Result.andThen]
      exact Go.MapKept.run_setObj_map _ hb
    · rw [h3]
      have hset : (es.modify j fun e => { e with key := enc k, val := v }).toList = es.toList.modify j (fun e => { e with key := enc k, val := v }) := by simp
      refine ⟨?_, ?_, ?_⟩
      · rw [hset]
        apply List.ext_getElem?
        intro i
        have hmi := congrArg (fun q => q[i]?) hm
        simp only [List.getElem?_map] at hmi
        simp only [List.getElem?_map, List.getElem?_modify, List.getElem?_set]
        by_cases hij : j = i
        · subst hij
          have : j < es.toList.length := by simpa [hlen] using hjl
          simp [hjl, entOf, List.getElem?_eq_getElem this]
        · simp [hij]
          simpa using hmi
      · intro x hx
        rw [hset] at hx
        obtain ⟨i, hi', hx⟩ := List.mem_iff_getElem.1 hx
        rw [List.getElem_modify] at hx
        have hi2 : i < es.toList.length := by simpa using hi'
        have h0 := e2 _ (List.getElem_mem hi2)
        split at hx
        · subst hx
          exact h0
        · subst hx
          exact h0
      · rw [hset]
        have : (es.toList.modify j fun e => { e with key := enc k, val := v }).map (·.born) = es.toList.map (·.born) := by
          apply List.ext_getElem?
          intro i
          simp only [List.getElem?_map, List.getElem?_modify]
          by_cases hij : j = i
          · subst hij; cases es.toList[j]? <;> simp
          · simp [hij]
        rw [this]
        exact e3

theorem run_delete_mp (K : Ky P kt enc) (ht : P.underlying t = some (.map kt et)) (hs : Sat W w g (mp enc b l :: H)) (k : κ) (ty kt' : TypeId) :
    ∃ w', (Builtin.delete_ #[t, kt'] ty #[.map (some b), enc k]).run P w = .ok (.tuple #[]) w' ∧ Sat W w' g (mp enc b (adel k l) :: H) := by
  obtain ⟨es, clock, he, ho⟩ := mp_open hs
  obtain ⟨d, hd, hk, hn⟩ := K.kind
  have hb := ho.heap
  have hf := Go.MapKept.run_findKey (P := P) (w := w) hd (find_ents hn k es.toList l 0 he.1)
  have hc := Go.MapKept.run_checkKey (P := P) (w := w) hd (hk k) es.isEmpty 9999
  have hg := Go.MapKept.run_getObj_map (P := P) hb
  obtain ⟨e1, e2, e3⟩ := he
  cases hi : aidx k l 0 with
  | none =>
    obtain ⟨_, ha⟩ := aidx_none k l 0 hi
    rw [ha]
    refine ⟨_, ?_, mp_close ⟨e1, e2, e3⟩ (upd_block ho _)⟩
    simp [Builtin.delete_, run_underlying ht, Result.andThen, hg, hc, hf, hi, Go.MapKept.run_setObj_map _ hb]
  | some p =>
    obtain ⟨j, u⟩ := p
    obtain ⟨m, h1, h2, h3, h4⟩ := aidx_at k l 0 j u hi
    obtain rfl : j = m := by omega
    refine ⟨_, ?_, mp_close (es := es.eraseIdxIfInBounds j) (clock := clock) ?_ (upd_block ho _)⟩
    · simp [Builtin.delete_, run_underlying ht, Result.andThen, hg, hc, hf, hi, Go.MapKept.run_setObj_map _ hb]
    · have hset : (es.eraseIdxIfInBounds j).toList = es.toList.eraseIdx j := by simp
      rw [h4]
      refine ⟨?_, ?_, ?_⟩
      · rw [hset, Go.ChangeMaps.map_eraseIdx, e1, Go.ChangeMaps.map_eraseIdx]
      · intro x hx
        rw [hset] at hx
        exact e2 x (List.mem_of_mem_eraseIdx hx)
      · rw [hset, Go.ChangeMaps.map_eraseIdx]
        exact e3.sublist (List.eraseIdx_sublist _ _)
end

end Go.Proofs.Ytkolnecahlkndaa
