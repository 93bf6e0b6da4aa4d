/-
  Layer 9 (feed), plain: an event is added, a feed is folded, opened anew.
-/
import Derived.Test.YtdkbpcibmipelaaGreatDoorMn
import Derived.Test.YtdkbpcibmipelaaGreatDoorMk
import Derived.Test.YtdkbpcibmipelaaGreatDoorMm
import Derived.Test.YtdkbpcibmipelaaGreatDoorMl
namespace Go.Proofs.YtdkbpcibmipelaaGreatDoor
open Go.RowKit
set_option linter.unusedVariables false
set_option linter.unusedSimpArgs false

def evS (l : List Sp) : List Ep := l.flatMap fun s => s.es
abbrev Fe.segs (f : Fe) : List Sp := f.l.map Sg.sp
/-- What a feed and its disk keep. -/
structure FGood (f : Fe) (d : Dk) : Prop where
  inv : FInv f.wr f.floor f.segs d
  own : ∀ s ∈ f.l, s.wr = f.wr
  dirty : f.dirty = true → f.l ≠ []
theorem feed_sync {f : Fe} {d : Dk} (h : FGood f d) : ∃ d', f.sync d = (0, { f with dirty := false }, d') ∧ FGood { f with dirty := false } d' ∧ Same f.wr d d' ∧ tk d'.fs = tk d.fs := by
  unfold Fe.sync
  cases hd : f.dirty with
  | false =>
    have e : ({ f with dirty := false } : Fe) = f := by cases f; simp only at hd; subst hd; rfl
    refine ⟨d, ?_, ?_, ⟨h.inv.calm, rfl, fun _ _ => rfl⟩, rfl⟩
    · simp [e]
    · rw [e]; exact h
  | true =>
    have hne := h.dirty hd
    cases hla : f.l.getLast? with
    | none => exact absurd (List.getLast?_eq_none_iff.1 hla) hne
    | some s =>
      have hs : s ∈ f.l := by
        obtain ⟨L, e⟩ := List.getLast?_eq_some_iff.1 hla
        rw [e]; simp
      obtain ⟨d', e1, e2, e3, e4⟩ := h.inv.synced (s := s.sp) (List.mem_map_of_mem hs)
      have e5 : d.sync (nameB s.wr s.first) = (0, d') := by rw [h.own s hs]; exact e1
      refine ⟨d', by simp [e5], ⟨e2, h.own, fun h => by cases h⟩, e3, e4⟩
theorem next_last {f : Fe} {d : Dk} (h : FGood f d) {L : List Sg} {s : Sg} (hl : f.l = L ++ [s]) : f.next = max (f.floor + 1) (s.first + s.x.es.length) ∧ s.next = s.first + s.x.es.length ∧ s.first + s.x.es.length ≤ 9223372036854775808 := by
  have h1 := (h.inv.first s.sp (List.mem_map_of_mem (by rw [hl]; simp))).2
  have h2 : s.first + s.x.es.length ≤ 9223372036854775808 := by simpa [Sg.sp] using h1
  have h3 : s.next = s.first + s.x.es.length := by unfold Sg.next; omega
  refine ⟨?_, h3, h2⟩
  simp [Fe.next, hl, h3]
theorem feed_rolled {f : Fe} {d : Dk} (h : FGood f d) {sq : Nat} (hsq : sq = f.next) (h2 : sq ≤ 9223372036854775807) (hr : (tk d.fs : Int) + 39 ≤ d.room) :
    ∃ f1 d1, f.rolled d sq = (0, f1, d1) ∧ FGood f1 d1 ∧ f1.wr = f.wr ∧ f1.floor = f.floor ∧ f1.time = f.time ∧ f1.cap = f.cap ∧ Same f.wr d d1 ∧ tk d1.fs ≤ tk d.fs + 39 ∧ (∃ L s, f1.l = L ++ [s] ∧ s.first + s.x.es.length = sq) ∧ evS f1.segs = evS f.segs ∧ f1.l.length ≤ f.l.length + 1 := by
  have roll : (∀ s, f.l.getLast? = some s → s.first < sq ∧ s.first + s.x.es.length ≤ sq ∧ (sq = s.first + s.x.es.length ∨ sq ≤ f.floor + 1)) → (f.l = [] → sq ≤ f.floor + 1) → 1 ≤ sq → f.full sq = true →
      ∃ f1 d1, f.rolled d sq = (0, f1, d1) ∧ FGood f1 d1 ∧ f1.wr = f.wr ∧ f1.floor = f.floor ∧ f1.time = f.time ∧ f1.cap = f.cap ∧ Same f.wr d d1 ∧ tk d1.fs ≤ tk d.fs + 39 ∧ (∃ L s, f1.l = L ++ [s] ∧ s.first + s.x.es.length = sq) ∧ evS f1.segs = evS f.segs ∧ f1.l.length ≤ f.l.length + 1 := by
    intro hl hn h1 hfu
    obtain ⟨d0, e1, e2, e3, e4⟩ := feed_sync h
    obtain ⟨d1, g1, g2, g3, g4⟩ := e2.inv.begun (n := sq) h1 h2 (fun s hs => by
      rw [List.getLast?_map] at hs
      cases hla : f.l.getLast? with
      | none => simp [hla] at hs
      | some t =>
        simp only [hla, Option.map_some, Option.some.injEq] at hs
        subst hs
        have := hl t hla
        simpa [Sg.sp] using this) (fun he => hn (by simpa using he)) (by rw [e3.room, e4]; exact hr)
    refine ⟨{ f with dirty := false, l := f.l ++ [sgNew 0 f.wr sq] }, d1, ?_, ⟨?_, ?_, fun h => by cases h⟩, rfl, rfl, rfl, rfl, e3.trans g3, by omega, ⟨f.l, sgNew 0 f.wr sq, rfl, by simp [sgNew]⟩, ?_, by simp⟩
    · simp only [Fe.rolled, hfu, if_true, Fe.roll, e1, ne_eq, not_true_eq_false, if_false]
      simp only at g1
      rw [g1]
      rfl
    · simp only [Fe.segs, List.map_append, List.map_cons, List.map_nil]
      exact g2
    · intro s hs
      rcases List.mem_append.1 hs with hs | hs
      · exact h.own s hs
      · rw [List.mem_singleton.1 hs]; rfl
    · simp [evS, Fe.segs, sgNew, Sg.sp]
  cases hla : f.l.getLast? with
  | none =>
    have hl0 := List.getLast?_eq_none_iff.1 hla
    have hnx : f.next = f.floor + 1 := by simp [Fe.next, hla]
    exact roll (fun s hs => by rw [hla] at hs; cases hs) (fun _ => by omega) (by omega) (by simp [Fe.full, hla])
  | some s =>
    obtain ⟨L, hl⟩ := List.getLast?_eq_some_iff.1 hla
    obtain ⟨n1, n2, n3⟩ := next_last h hl
    cases hfu : f.full sq with
    | true =>
      refine roll (fun t ht => ?_) (fun h0 => by rw [h0] at hla; cases hla) (by omega) hfu
      rw [hla] at ht
      simp only [Option.some.injEq] at ht
      subst ht
      simp only [Fe.full, hla, Bool.or_eq_true, Bool.and_eq_true, decide_eq_true_eq, Bool.not_eq_true', decide_eq_false_iff_not] at hfu
      omega
    | false =>
      simp only [Fe.full, hla, Bool.or_eq_false_iff, Bool.not_eq_false', decide_eq_true_eq] at hfu
      refine ⟨f, d, by simp [Fe.rolled, Fe.full, hla, hfu], h, rfl, rfl, rfl, rfl, ⟨h.inv.calm, rfl, fun _ _ => rfl⟩, by omega, ⟨L, s, hl, by omega⟩, rfl, by omega⟩
theorem Fe.next_ge (f : Fe) : f.floor + 1 ≤ f.next := by
  unfold Fe.next
  split <;> omega
/-- An event is added. -/
theorem feed_add {f : Fe} {d : Dk} (h : FGood f d) {e : Ev} (hp : f.addP e = 0) (hr : e.right = 0) (hkd : e.kd < 256) (hn : e.num < 18446744073709551616) (hlen : e.enc.length ≤ 2097152) (hroom : (tk d.fs : Int) + 39 + (wrapB e.enc).length ≤ d.room) :
    (f.addR d e).1 = 0 ∧ Same f.wr d (f.addR d e).2.2 ∧ tk (f.addR d e).2.2.fs ≤ tk d.fs + 39 + (wrapB e.enc).length ∧
      ∀ f', (f.addR d e).2.1.grown f' e → FGood f' (f.addR d e).2.2 ∧ f'.wr = f.wr ∧ f'.floor = f.floor ∧ f'.time = f.time ∧ f'.cap = f.cap ∧ f'.dirty = true ∧ evS f'.segs = evS f.segs ++ [e.ep] ∧ f'.next = e.sq + 1 ∧ f'.l.length ≤ f.l.length + 1 := by
  have hsq : e.wr = f.wr ∧ e.sq = f.next := by
    simp only [Fe.addP] at hp
    split at hp
    · cases hp
    · split at hp
      · cases hp
      · rename_i h2
        exact Classical.byContradiction fun h3 => h2 h3
  have h2 : e.sq ≤ 9223372036854775807 := by
    unfold Ev.right at hr
    split at hr
    · omega
    split at hr
    · omega
    split at hr
    · omega
    omega
  obtain ⟨f1, d1, r1, r2, r3, r4, r5, r6, r7, r8, ⟨L, s, r9, r10⟩, r11, r12⟩ := feed_rolled h hsq.2 h2 (by omega)
  have hla : f1.l.getLast? = some s := by rw [r9]; simp
  have hown := r2.own s (by rw [r9]; simp)
  have hinv := r2.inv
  simp only [Fe.segs, r9, List.map_append, List.map_cons, List.map_nil] at hinv
  obtain ⟨n1, n2, n3⟩ := next_last r2 r9
  have hw : e.ep.wr = f1.wr := by
    simp only [Ev.ep]; omega
  obtain ⟨d2, a1, a2, a3, a4⟩ := hinv.added (p := e.ep) hw (by simp only [Ev.ep, Sg.sp, List.length_map]; omega) (by simp only [Ev.ep]; omega) (by rw [enc_ep]; exact decE_right hr hkd hn) (by rw [enc_ep]; exact hlen) (by rw [enc_ep, r7.room]; omega)
  rw [enc_ep] at a1 a2 a4
  have hfit : s.fit e = 0 := by
    simp only [Sg.fit]
    rw [if_pos hr, if_pos]
    exact ⟨by omega, by omega⟩
  have hR : f.addR d e = (0, f1, d2) := by
    simp only [Fe.addR, hp, ne_eq, not_true_eq_false, if_false, r1, hla, Sg.addE, Sg.addD, hfit, if_true]
    rw [hown]
    simp only [Sg.sp] at a1
    rw [a1]
  rw [hR]
  refine ⟨rfl, r7.trans (by rw [← r3]; exact a3), by simp only; omega, ?_⟩
  rintro f' ⟨L', s0, s', q1, q2, rfl⟩
  have hLs : L' = L ∧ s0 = s := by
    have := q1.symm.trans r9
    have h1 := List.append_inj' this rfl
    exact ⟨h1.1, by simpa using h1.2⟩
  obtain ⟨rfl, rfl⟩ := hLs
  obtain ⟨tv, q3⟩ := q2.es
  have hsp : s'.sp = ⟨s0.sp.first, s0.sp.es ++ [e.ep], s0.sp.size + recN e.enc.length⟩ := by
    simp only [Sg.sp, q2.first, q3, q2.size, List.map_append, List.map_cons, List.map_nil, Ep.raw_ev]
  refine ⟨⟨?_, ?_, fun _ => by simp⟩, r3, r4, r5, r6, rfl, ?_, ?_, by rw [r9] at r12; simpa using r12⟩
  · simp only [Fe.segs, List.map_append, List.map_cons, List.map_nil, hsp]
    exact a2
  · intro t ht
    rcases List.mem_append.1 ht with ht | ht
    · exact r2.own t (by rw [r9]; exact List.mem_append_left _ ht)
    · rw [List.mem_singleton.1 ht]
      exact q2.wr.trans hown
  · rw [← r11]
    simp only [evS, Fe.segs, r9, List.map_append, List.map_cons, List.map_nil, hsp, List.flatMap_append, List.flatMap_cons, List.flatMap_nil, List.append_nil, List.append_assoc]
  · have : s'.next = e.sq + 1 := by
      unfold Sg.next
      rw [q2.first, q3, List.length_append, List.length_singleton]
      omega
    have hge := f.next_ge
    have h7 := hsq.2
    simp only [Fe.next, List.getLast?_concat, this]
    omega
end Go.Proofs.YtdkbpcibmipelaaGreatDoor

/-
  Layer 9 (feed), plain: a feed is folded, opened anew.
-/
namespace Go.Proofs.YtdkbpcibmipelaaGreatDoor
open Go.RowKit
set_option linter.unusedVariables false
set_option linter.unusedSimpArgs false

theorem chain_lt0 {floor : Nat} : ∀ {l : List Sp} {s : Sp}, ChainP floor (s :: l) → ∀ u ∈ l, s.first < u.first
  | [], _, _, u, hu => by cases hu
  | t :: r, s, hc, u, hu => by
    rcases List.mem_cons.1 hu with rfl | hu
    · exact hc.1.1
    · exact Nat.lt_trans hc.1.1 (chain_lt0 hc.2 u hu)
theorem chain_pairwise {floor : Nat} : ∀ {l : List Sp}, ChainP floor l → (l.map Sp.first).Pairwise (· < ·)
  | [], _ => List.Pairwise.nil
  | s :: r, h => by
    rw [List.map_cons, List.pairwise_cons]
    refine ⟨fun x hx => ?_, chain_pairwise (chain_tail h)⟩
    obtain ⟨u, hu, rfl⟩ := List.mem_map.1 hx
    exact chain_lt0 h u hu
/-- The first segment is removed. -/
theorem FInv.removed {wr floor : Nat} {s t : Sp} {r : List Sp} {d : Dk} (h : FInv wr floor (s :: t :: r) d) (hn : s.first + s.es.length ≤ floor + 1) : ∃ d', d.remove (nameB wr s.first) = (0, d') ∧ FInv wr floor (t :: r) d' ∧ Same wr d d' ∧ tk d'.fs ≤ tk d.fs := by
  obtain ⟨q, hq⟩ := h.files s (by simp)
  obtain ⟨d', e1, e2, e3, e4⟩ := h.calm.remove hq
  have hs1 := (h.first s (by simp)).2
  refine ⟨d', e1, ⟨h.lt, e4, fun u hu => h.fit u (List.mem_cons_of_mem _ hu), fun u hu => h.size u (List.mem_cons_of_mem _ hu), fun u hu => h.first u (List.mem_cons_of_mem _ hu), h.chain.2, fun u hu => ?_, fun x hx hnn => ?_, fun u hu => ?_, by rw [e2]; exact drop_keys h.keys⟩, ⟨e4, e3, fun x hx => ?_⟩, ?_⟩
  · have h1 := chain_lt0 h.chain u hu
    have h2 := (h.first u (List.mem_cons_of_mem _ hu)).2
    rw [e2, aget_drop_ne (fun e => by have := nameB_inj (w := wr) (by omega) (by omega) e; omega)]
    exact h.files u (List.mem_cons_of_mem _ hu)
  · rw [e2] at hnn
    have hne : x ≠ nameB wr s.first := by
      rintro rfl
      apply hnn
      rw [aget_none_iff, adrop_keys h.keys]
      simp
    rw [aget_drop_ne hne] at hnn
    obtain ⟨u, hu, h5⟩ := h.only x hx hnn
    rcases List.mem_cons.1 hu with rfl | hu
    · exact absurd h5 hne
    · exact ⟨u, hu, h5⟩
  · simp only [List.head?_cons, Option.some.injEq] at hu
    subst hu
    rcases h.chain.1.2.2 with h6 | h6 <;> omega
  · rw [e2, aget_drop_ne]
    exact ne_of_hasP hx
  · rw [e2]
    obtain ⟨l1, l2, h1, -, h3⟩ := al_split hq
    rw [h3, h1]
    simp only [tk_append, tk_cons]
    omega
/-- The only segment is removed. -/
theorem FInv.removed1 {wr floor : Nat} {s : Sp} {d : Dk} (h : FInv wr floor [s] d) : ∃ d', d.remove (nameB wr s.first) = (0, d') ∧ FInv wr floor [] d' ∧ Same wr d d' ∧ tk d'.fs ≤ tk d.fs := by
  obtain ⟨q, hq⟩ := h.files s (by simp)
  obtain ⟨d', e1, e2, e3, e4⟩ := h.calm.remove hq
  refine ⟨d', e1, ⟨h.lt, e4, fun u hu => (by cases hu), fun u hu => (by cases hu), fun u hu => (by cases hu), trivial, fun u hu => (by cases hu), fun x hx hnn => ?_, fun u hu => (by cases hu), by rw [e2]; exact drop_keys h.keys⟩, ⟨e4, e3, fun x hx => ?_⟩, ?_⟩
  · rw [e2] at hnn
    have hne : x ≠ nameB wr s.first := by
      rintro rfl
      apply hnn
      rw [aget_none_iff, adrop_keys h.keys]
      simp
    rw [aget_drop_ne hne] at hnn
    obtain ⟨u, hu, h5⟩ := h.only x hx hnn
    rw [List.mem_singleton.1 hu] at h5
    exact absurd h5 hne
  · rw [e2, aget_drop_ne]
    exact ne_of_hasP hx
  · rw [e2]
    obtain ⟨l1, l2, h1, -, h3⟩ := al_split hq
    rw [h3, h1]
    simp only [tk_append, tk_cons]
    omega
/-- The events behind a floor. -/
def liveP (floor : Nat) (l : List Sp) : List Ep := (evS l).filter fun p => decide (floor < p.sq)
theorem liveP_drop {wr floor : Nat} {s : Sp} {r : List Sp} (hf : FitP wr s.first 0 s.es) (h1 : s.first + s.es.length ≤ 9223372036854775808) (hn : s.first + s.es.length ≤ floor + 1) : liveP floor (s :: r) = liveP floor r := by
  have : s.es.filter (fun p => decide (floor < p.sq)) = [] := by
    rw [List.filter_eq_nil_iff]
    intro p hp
    obtain ⟨j, hj, rfl⟩ := List.getElem_of_mem hp
    have := (hf.at j hj).2
    simp only [decide_eq_true_eq]
    omega
  simp only [liveP, evS, List.flatMap_cons, List.filter_append, this, List.nil_append]
theorem FInv.floor {wr floor floor' : Nat} {l : List Sp} {d : Dk} (h : FInv wr floor l d) (hf : floor ≤ floor') : FInv wr floor' l d :=
  ⟨h.lt, h.calm, h.fit, h.size, h.first, chain_floor hf h.chain, h.files, h.only, fun s hs => by have := h.head s hs; omega, h.keys⟩
theorem trim_plain {wr fl : Nat} : ∀ {l : List Sg} {d : Dk}, FInv wr fl (l.map Sg.sp) d → (∀ s ∈ l, s.wr = wr) →
    ∃ l' d', trimR fl l d = (0, l', d') ∧ FInv wr fl (l'.map Sg.sp) d' ∧ Same wr d d' ∧ tk d'.fs ≤ tk d.fs ∧ liveP fl (l'.map Sg.sp) = liveP fl (l.map Sg.sp) ∧ l'.getLast? = l.getLast? ∧ l' <:+ l
  | [], d, h, _ => ⟨[], d, rfl, h, ⟨h.calm, rfl, fun _ _ => rfl⟩, Nat.le_refl _, rfl, rfl, List.suffix_refl _⟩
  | [s], d, h, _ => ⟨[s], d, rfl, h, ⟨h.calm, rfl, fun _ _ => rfl⟩, Nat.le_refl _, rfl, rfl, List.suffix_refl _⟩
  | s :: t :: r, d, h, hw => by
    have h1 := (h.first s.sp (by simp)).2
    have hnx : s.next = s.first + s.x.es.length := by
      rw [← Sg.sp_next, Sp.next_eq h1]; simp [Sg.sp]
    by_cases hc : s.next ≤ fl + 1
    · obtain ⟨d', e1, e2, e3, e4⟩ := FInv.removed (s := s.sp) (t := t.sp) (r := r.map Sg.sp) h (by simp only [Sg.sp, List.length_map]; omega)
      obtain ⟨l', d2, i1, i2, i3, i4, i5, i6, i7⟩ := trim_plain (l := t :: r) e2 (fun u hu => hw u (List.mem_cons_of_mem _ hu))
      have e5 : d.remove (nameB s.wr s.first) = (0, d') := by rw [hw s (by simp)]; exact e1
      refine ⟨l', d2, ?_, i2, e3.trans i3, by omega, ?_, by rw [i6]; simp, i7.trans (List.suffix_cons _ _)⟩
      · unfold trimR
        rw [if_pos hc, e5]
        simpa using i1
      · have h9 := liveP_drop (floor := fl) (s := s.sp) (r := (t :: r).map Sg.sp) (h.fit s.sp (by simp)) h1 (by simp only [Sg.sp, List.length_map]; omega)
        rw [i5, List.map_cons (l := t :: r), h9]
    · refine ⟨s :: t :: r, d, ?_, h, ⟨h.calm, rfl, fun _ _ => rfl⟩, Nat.le_refl _, rfl, rfl, List.suffix_refl _⟩
      unfold trimR
      rw [if_neg hc]
/-- A feed is folded. -/
theorem feed_fold {f : Fe} {d : Dk} (h : FGood f d) {fl tm : Nat} (hb : f.floor ≤ fl) (hn : fl < f.next) (hd : f.dirty = false) :
    ∃ l' d', f.foldR d fl tm = (0, { f with floor := fl, time := max f.time tm, l := l' }, d') ∧ FGood { f with floor := fl, time := max f.time tm, l := l' } d' ∧ Same f.wr d d' ∧ tk d'.fs ≤ tk d.fs ∧ liveP fl (l'.map Sg.sp) = liveP fl f.segs ∧
      Fe.next { f with floor := fl, time := max f.time tm, l := l' } = f.next ∧ l' <:+ f.l := by
  obtain ⟨l', d', e1, e2, e3, e4, e5, e6, e7⟩ := trim_plain (h.inv.floor hb) h.own
  refine ⟨l', d', ?_, ⟨e2, fun s hs => h.own s (e7.subset hs), fun hx => by simp only at hx; rw [hd] at hx; cases hx⟩, e3, e4, e5, ?_, e7⟩
  · unfold Fe.foldR
    rw [if_neg (by rintro (h1 | h1 | h1); · omega
                   · omega
                   · rw [hd] at h1; cases h1), e1]
  · simp only [Fe.next, e6]
    cases hla : f.l.getLast? with
    | none =>
      simp only [Fe.next, hla] at hn
      simp only
      omega
    | some s =>
      simp only [Fe.next, hla] at hn
      simp only
      omega
/-- The names of a feed's segments. -/
theorem feed_names {wr floor : Nat} {l : List Sp} {d : Dk} (h : FInv wr floor l d) : d.names (beginB wr) = (l.map Sp.first).map (nameB wr) := by
  have hlt : ∀ n ∈ l.map Sp.first, n < 18446744073709551616 := by
    intro n hn
    obtain ⟨s, hs, rfl⟩ := List.mem_map.1 hn
    have := (h.first s hs).2
    omega
  have hpw := chain_pairwise h.chain
  refine names_firsts h.calm.1 ?_ hpw hlt
  have hnd : ((l.map Sp.first).map (nameB wr)).Nodup := by
    rw [List.nodup_iff_pairwise_ne, List.pairwise_map]
    refine hpw.imp_of_mem fun {a b} ha hb hab e => ?_
    have := nameB_inj (w := wr) (hlt a ha) (hlt b hb) e
    omega
  refine (List.perm_ext_iff_of_nodup (h.keys.filter _) hnd).2 fun x => ?_
  rw [List.mem_filter]
  constructor
  · rintro ⟨hx, hp⟩
    obtain ⟨s, hs, rfl⟩ := h.only x hp (fun e => by rw [aget_none_iff] at e; exact e hx)
    exact List.mem_map_of_mem (List.mem_map_of_mem hs)
  · intro hx
    obtain ⟨n, hn, rfl⟩ := List.mem_map.1 hx
    obtain ⟨s, hs, rfl⟩ := List.mem_map.1 hn
    refine ⟨?_, hasP_self _ _⟩
    obtain ⟨q, hq⟩ := h.files s hs
    exact Classical.byContradiction fun hc => by
      rw [aget_none_iff.2 hc] at hq
      cases hq
end Go.Proofs.YtdkbpcibmipelaaGreatDoor

/-
  Layer 9 (feed), plain: a feed that is opened anew has the same events.
-/
namespace Go.Proofs.YtdkbpcibmipelaaGreatDoor
open Go.RowKit
set_option linter.unusedVariables false
set_option linter.unusedSimpArgs false

/-- The segments that are kept. -/
def keepL (floor : Nat) : List Sp → List Sp
  | [] => []
  | [s] => if s.next ≤ floor + 1 ∧ 0 < s.es.length then [] else [s]
  | s :: t :: r => if s.next ≤ floor + 1 then keepL floor (t :: r) else s :: t :: r
theorem opn_inv {wr floor : Nat} {l : List Sp} {d : Dk} (h : FInv wr floor l d) {s : Sp} (hs : s ∈ l) : d.opn wr s.first = (.ok (s.es, s.size, 0), d) := by
  obtain ⟨q, hq⟩ := h.files s hs
  have := (h.first s hs).2
  rw [opn_plain h.calm h.lt (by omega) (h.fit s hs) hq, h.size s hs]
  rfl
theorem fopS_keep {wr floor n sz : Nat} {last : Bool} {es : List Ep} {acc : List Sp} {d : Dk} (hop : d.opn wr n = (.ok (es, sz, 0), d)) (hk : keepP floor acc last ⟨n, es, sz⟩ 0 = true) : fopS wr floor last n acc d = (0, acc ++ [⟨n, es, sz⟩], d) := by
  have h1 : opR (d.opn wr n).1 = 0 := by rw [hop]; rfl
  have h2 : opS n (d.opn wr n).1 = ⟨n, es, sz⟩ := by rw [hop]; rfl
  have h3 : (d.opn wr n).2 = d := by rw [hop]
  unfold fopS
  rw [if_neg (by rw [h1]; decide), if_pos (by rw [h1, h2]; exact hk), h2, h3]
theorem fopS_rm {wr floor n sz : Nat} {last : Bool} {es : List Ep} {acc : List Sp} {d : Dk} (hop : d.opn wr n = (.ok (es, sz, 0), d)) (hk : keepP floor acc last ⟨n, es, sz⟩ 0 = false) : fopS wr floor last n acc d = ((d.remove (nameB wr n)).1, acc, (d.remove (nameB wr n)).2) := by
  have h1 : opR (d.opn wr n).1 = 0 := by rw [hop]; rfl
  have h2 : opS n (d.opn wr n).1 = ⟨n, es, sz⟩ := by rw [hop]; rfl
  have h3 : (d.opn wr n).2 = d := by rw [hop]
  unfold fopS
  rw [if_neg (by rw [h1]; decide), if_neg (by rw [h1, h2, hk]; decide), h3]
theorem nextP_snoc (floor : Nat) (l : List Sp) (s : Sp) : nextP floor (l ++ [s]) = max (floor + 1) s.next := by simp [nextP]
/-- Behind a segment that has something behind the floor all are kept. -/
theorem fop_rest {wr floor : Nat} {d : Dk} : ∀ {r acc : List Sp} {s : Sp}, FInv wr floor (acc ++ s :: r) d → floor + 1 < s.next → fopR wr floor (r.map Sp.first) (acc ++ [s]) d = (0, acc ++ s :: r, d)
  | [], acc, s, h, _ => by simp [fopR]
  | t :: r, acc, s, h, hs => by
    have hsm : s ∈ acc ++ s :: t :: r := by simp
    have htm : t ∈ acc ++ s :: t :: r := by simp
    have hsn := Sp.next_eq (h.first s hsm).2
    have htn := Sp.next_eq (h.first t htm).2
    have hch : t.first = s.first + s.es.length := by
      have hc : ∀ (acc : List Sp), ChainP floor (acc ++ s :: t :: r) → ChainP floor (s :: t :: r) := by
        intro acc
        induction acc with
        | nil => exact id
        | cons a acc ih => exact fun hc => ih (chain_tail hc)
      have := (hc acc h.chain).1
      omega
    have hk : keepP floor (acc ++ [s]) ((r.map Sp.first).isEmpty) t 0 = true := by
      have h1 : folP floor (acc ++ [s]) t = true := by
        have : nextP floor (acc ++ [s]) = t.first := by rw [nextP_snoc]; omega
        unfold folP
        cases hacc : acc ++ [s] with
        | nil => simp at hacc
        | cons a b =>
          simp only
          rw [← hacc, this]
          simp
      unfold keepP
      rw [h1, decide_eq_false (show ¬ t.next ≤ floor + 1 by omega)]
      rfl
    have hstep : fopS wr floor ((r.map Sp.first).isEmpty) t.first (acc ++ [s]) d = (0, acc ++ [s] ++ [t], d) := by
      exact fopS_keep (opn_inv h htm) hk
    rw [List.map_cons]
    unfold fopR
    rw [hstep]
    simp only [ne_eq, not_true_eq_false, if_false]
    have e : acc ++ s :: t :: r = (acc ++ [s]) ++ t :: r := by simp
    rw [e] at h ⊢
    exact fop_rest (acc := acc ++ [s]) (s := t) h (by omega)
theorem fop_plain {wr floor : Nat} : ∀ {l : List Sp} {d : Dk}, FInv wr floor l d → ∃ d', fopR wr floor (l.map Sp.first) [] d = (0, keepL floor l, d') ∧ FInv wr floor (keepL floor l) d' ∧ Same wr d d' ∧ tk d'.fs ≤ tk d.fs ∧ liveP floor (keepL floor l) = liveP floor l ∧ nextP floor (keepL floor l) = nextP floor l
  | [], d, h => ⟨d, rfl, h, ⟨h.calm, rfl, fun _ _ => rfl⟩, Nat.le_refl _, rfl, rfl⟩
  | [s], d, h => by
    have hsm : s ∈ [s] := by simp
    have hsn := Sp.next_eq (h.first s hsm).2
    have hhd := h.head s rfl
    have hfo : folP floor [] s = true := decide_eq_true hhd
    have hop := opn_inv h hsm
    by_cases hk : s.next ≤ floor + 1 ∧ 0 < s.es.length
    · obtain ⟨d', e1, e2, e3, e4⟩ := h.removed1
      have hstep : fopS wr floor true s.first [] d = (0, [], d') := by
        rw [fopS_rm hop, e1]
        unfold keepP
        rw [decide_eq_true hk.1, decide_eq_true hk.2]
        simp
      refine ⟨d', ?_, ?_, e3, e4, ?_, ?_⟩
      · simp only [List.map_cons, List.map_nil, fopR, List.isEmpty_nil, hstep, ne_eq, not_true_eq_false, if_false, keepL, if_pos hk]
      · simpa [keepL, if_pos hk] using e2
      · simp only [keepL, if_pos hk]
        exact (liveP_drop (h.fit s hsm) (h.first s hsm).2 (by omega)).symm
      · simp only [keepL, if_pos hk, nextP, List.getLast?_nil, List.getLast?_singleton]
        omega
    · have hstep : fopS wr floor true s.first [] d = (0, [s], d) := by
        rw [fopS_keep hop]
        · rfl
        · unfold keepP
          rw [show folP floor [] ⟨s.first, s.es, s.size⟩ = true from hfo]
          have : (decide (Sp.next ⟨s.first, s.es, s.size⟩ ≤ floor + 1) && (!true || decide (0 < s.es.length))) = false := by
            rw [Bool.eq_false_iff]
            intro hx
            simp only [Bool.not_true, Bool.false_or, Bool.and_eq_true, decide_eq_true_eq] at hx
            exact hk hx
          rw [this]
          rfl
      refine ⟨d, ?_, ?_, ⟨h.calm, rfl, fun _ _ => rfl⟩, Nat.le_refl _, ?_, ?_⟩
      · simp only [List.map_cons, List.map_nil, fopR, List.isEmpty_nil, hstep, ne_eq, not_true_eq_false, if_false, keepL, if_neg hk]
      · simpa only [keepL, if_neg hk] using h
      · simp only [keepL, if_neg hk]
      · simp only [keepL, if_neg hk]
  | s :: t :: r, d, h => by
    have hsm : s ∈ s :: t :: r := by simp
    have hsn := Sp.next_eq (h.first s hsm).2
    have hhd := h.head s rfl
    have hfo : folP floor [] s = true := decide_eq_true hhd
    have hop := opn_inv h hsm
    by_cases hk : s.next ≤ floor + 1
    · obtain ⟨d1, e1, e2, e3, e4⟩ := h.removed (by omega)
      have hstep : fopS wr floor false s.first [] d = (0, [], d1) := by
        rw [fopS_rm hop, e1]
        unfold keepP
        rw [decide_eq_true (show Sp.next ⟨s.first, s.es, s.size⟩ ≤ floor + 1 from hk)]
        simp
      obtain ⟨d2, i1, i2, i3, i4, i5, i6⟩ := fop_plain (l := t :: r) e2
      refine ⟨d2, ?_, ?_, e3.trans i3, by omega, ?_, ?_⟩
      · rw [List.map_cons, fopR]
        simp only [List.map_cons, List.isEmpty_cons, hstep, ne_eq, not_true_eq_false, if_false, keepL, if_pos hk]
        simpa using i1
      · simpa only [keepL, if_pos hk] using i2
      · simp only [keepL, if_pos hk]
        rw [i5]
        exact (liveP_drop (h.fit s hsm) (h.first s hsm).2 (by omega)).symm
      · simp only [keepL, if_pos hk]
        rw [i6]
        simp [nextP]
    · have hstep : fopS wr floor false s.first [] d = (0, [s], d) := by
        rw [fopS_keep hop]
        · rfl
        · unfold keepP
          rw [show folP floor [] ⟨s.first, s.es, s.size⟩ = true from hfo, decide_eq_false (show ¬ Sp.next ⟨s.first, s.es, s.size⟩ ≤ floor + 1 from hk)]
          rfl
      have hrest := fop_rest (acc := []) (s := s) (r := t :: r) h (by omega)
      refine ⟨d, ?_, ?_, ⟨h.calm, rfl, fun _ _ => rfl⟩, Nat.le_refl _, ?_, ?_⟩
      · rw [List.map_cons, fopR]
        simp only [List.map_cons, List.isEmpty_cons, hstep, ne_eq, not_true_eq_false, if_false, keepL, if_neg hk]
        simpa using hrest
      · simpa only [keepL, if_neg hk] using h
      · simp only [keepL, if_neg hk]
      · simp only [keepL, if_neg hk]
end Go.Proofs.YtdkbpcibmipelaaGreatDoor

/-
  The law of layer 9: its events; awake.
-/
namespace Go.Proofs.YtdkbpcibmipelaaGreatDoor
open Go.RowKit
set_option linter.unusedVariables false
set_option linter.unusedSimpArgs false

def evQ (V sq tm : Nat) (tv : Value) : Ev := ⟨3, sq, tm, 1 + V % 4, [UInt8.ofNat (97 + V % 5)], if 1 + V % 4 = 1 then List.replicate (V % 20) 0 else [], 0, 0, tv⟩
theorem evQ_text (V sq tm : Nat) (tv : Value) : (evQ V sq tm tv).text.length ≤ 20 := by
  simp only [evQ]; split
  · simp; omega
  · simp
theorem evQ_right {V sq tm : Nat} {tv : Value} (h1 : 1 ≤ sq) (h2 : sq ≤ 9223372036854775807) (h3 : 1 ≤ tm) (h4 : tm ≤ 9223372036854775807) : (evQ V sq tm tv).right = 0 := by
  have hl := evQ_text V sq tm tv
  have hk : (evQ V sq tm tv).key.length = 1 := rfl
  have hkd : (evQ V sq tm tv).kd = 1 + V % 4 := rfl
  unfold Ev.right
  rw [hk, hkd, if_neg, if_neg, if_neg]
  · simp only [evQ]; omega
  · omega
  · simp only [evQ]; omega
theorem evQ_len {V sq tm : Nat} {tv : Value} (h2 : sq < 18446744073709551616) (h4 : tm < 18446744073709551616) : (evQ V sq tm tv).enc.length ≤ 82 := by
  have hl := evQ_text V sq tm tv
  have h := Ev.enc_len (evQ V sq tm tv) (by simp only [evQ]; omega) h2 h4 (by simp [evQ]) (by omega) (by simp [evQ])
  have hk1 : (evQ V sq tm tv).key.length = 1 := rfl
  omega

set_option maxHeartbeats 1600000 in
set_option maxRecDepth 100000 in
theorem event9_any {R : Ending → World → Prop} {W w : World} {g : Hl} {H : List HP} {K V sq tm : Nat} (hA : V < 256) (hsq : sq < 18446744073709551616) (htm : tm < 18446744073709551616) (hs : Sat W w g H)
    (hR : ∀ tv w' g', Hl.le g g' → (evQ V sq tm tv).ok g' → Sat W w' g' H → R (.returned (evQ V sq tm tv).val) w') : Calls Tryz.prog 36 #[.agg #[.int .u8 K, .int .u8 V], .int .u64 sq, .int .u64 tm] w R := by
  have HR := Lib.hid hR
  clear hR
  have ag1 := ag_ev
  refine C.calls (args := [(.agg #[.int .u8 K, .int .u8 V]), .int .u64 sq, .int .u64 tm]) Tryz.func36 rfl rfl rfl ?_
  refine go ?_
  refine E.bx hs ?_
  intro b3 w1 hs
  refine go ?_
  refine E.al hs ?_
  intro b6 w2 hs
  refine go ?_
  refine E.bsl hs ?_
  intro b9 w3 hs
  have hch : ((97 + V % 5 : Nat) : Int) = ((UInt8.ofNat (97 + V % 5)).toNat : Int) := by
    have : (UInt8.ofNat (97 + V % 5)).toNat = 97 + V % 5 := by
      rw [UInt8.toNat_ofNat']; omega
    rw [this]
  refine E.strc (bl := [UInt8.ofNat (97 + V % 5)]) (by
    have := hs.rowOf (size := 1) 1 rfl (by decide)
    simp only [bs, List.map_cons, List.map_nil]
    rw [← hch]
    exact this) Tryz.underlying33 Tryz.underlying5 Tryz.underlying9 ?_
  clear hch
  generalize hc : UInt8.ofNat (97 + V % 5) = ch
  have hc := Lib.hid hc
  refine go ?_
  refine E.al hs ?_
  intro b7 w4 hs
  refine go ?_
  refine E.sto hs ?_
  intro w5 hs
  refine go ?_
  refine C.cond_dec (p := (1 : Int) + V % 4 = 1) rfl (fun h => ?_) (fun h => ?_)
  · have hK0 : 1 + V % 4 = 1 := by omega
    refine go ?_
    refine E.mk (k2 := V % 20) el_u8 hs ?_ (hi := (Int.ofNat_tmod V 20).symm) (hj := (Int.ofNat_tmod V 20).symm)
    intro a11 w6 hs
    refine go ?_
    refine E.sto (vs := [.slice a11 (V % 20) (V % 20)]) (ys := [.int .i64 3, .int .u64 sq, .int .u64 tm, .int .u8 (1 + (V : Int) % 4), .string ⟨#[ch]⟩, .slice a11 (V % 20) (V % 20), .float .f64 0, .int .i64 0]) hs ?_ (hv := rfl) (hsp := rfl)
    intro w7 hs
    refine go ?_
    refine E.sto (vs := [.int .i64 3, .int .u64 sq, .int .u64 tm, .int .u8 (1 + (V : Int) % 4), .string ⟨#[ch]⟩, .slice a11 (V % 20) (V % 20), .float .f64 0, .int .i64 0]) (ys := [.int .i64 3, .int .u64 sq, .int .u64 tm, .int .u8 (1 + (V : Int) % 4), .string ⟨#[ch]⟩, .slice a11 (V % 20) (V % 20), .float .f64 0, .int .i64 0]) hs ?_ (hv := rfl) (hsp := rfl)
    intro w8 hs
    refine go ?_
    obtain ⟨g9, hg9, hp9, hs⟩ := hs.publishOwn
    refine A.c1 rfl rfl (run_lda hs.pull2 ag_ev) ?_
    have key := HR.out (.slice a11 (V % 20) (V % 20)) w8 g9 hg9
    have hc := hc.out
    subst hc
    simp only [evQ, if_pos hK0] at key
    exact key ⟨by simp only; omega, hsq, htm, by simp only; omega, by simp only; omega, by simp only; omega, by simp, by simp; omega, by
      simp only [List.length_replicate]
      rw [zeros8] at hp9
      exact hp9⟩ hs.drop.drop.drop.drop
  · have hK0 : ¬ 1 + V % 4 = 1 := by omega
    refine go ?_
    refine E.sto hs ?_
    intro w7 hs
    refine go ?_
    refine A.c1 rfl rfl (run_lda hs.swap ag_ev) ?_
    have key := HR.out (.slice none 0 0) w7 g (Hl.le_refl _)
    have hc := hc.out
    subst hc
    simp only [evQ, if_neg hK0] at key
    exact key ⟨by simp only; omega, hsq, htm, by simp only; omega, by simp only; omega, by simp only; omega, by simp, by simp, Pr.nil⟩ hs.drop.drop.drop.drop

set_option maxHeartbeats 1600000 in
set_option maxRecDepth 100000 in
theorem fwriter_any {R : Ending → World → Prop} {W w : World} {g : Hl} {H : List HP} {b db : Nat} {f : Fe} (hs : Sat W w g (feed b db f :: H))
    (hR : ∀ w', Sat W w' g (feed b db f :: H) → R (.returned (.int .i64 f.wr)) w') : Calls Tryz.prog 46 #[ptr b] w R := by
  have HR := Lib.hid hR
  clear hR
  obtain ⟨a, c, hok, hs⟩ := feed_open hs
  refine C.calls (args := [ptr b]) Tryz.func46 rfl rfl rfl ?_
  refine go ?_
  refine A.r1 ?_
  exact HR.out _ (feed_close hok hs)
set_option maxHeartbeats 1600000 in
set_option maxRecDepth 100000 in
theorem ffloor_any {R : Ending → World → Prop} {W w : World} {g : Hl} {H : List HP} {b db : Nat} {f : Fe} (hs : Sat W w g (feed b db f :: H))
    (hR : ∀ w', Sat W w' g (feed b db f :: H) → R (.returned (.int .u64 f.floor)) w') : Calls Tryz.prog 39 #[ptr b] w R := by
  have HR := Lib.hid hR
  clear hR
  obtain ⟨a, c, hok, hs⟩ := feed_open hs
  refine C.calls (args := [ptr b]) Tryz.func39 rfl rfl rfl ?_
  refine go ?_
  refine A.r1 ?_
  exact HR.out _ (feed_close hok hs)
/-- V feed of a new disk. -/
theorem fopen_new {R : Ending → World → Prop} {W w : World} {g : Hl} {H : List HP} {db wr fl tm : Nat} {room cap : Int} (hg : Gl g) (hwr : wr < 64) (hfl : fl ≤ 9223372036854775807) (htm : tm < 18446744073709551616) (hcap : -9223372036854775808 ≤ cap ∧ cap ≤ 9223372036854775807) (hs : Sat W w g (disk db ⟨[], room, -1, 0, 0, false⟩ :: H))
    (hR : ∀ b w' g', Hl.le g g' → Sat W w' g' (feed b db ⟨wr, cap, fl, tm, [], false⟩ :: disk db ⟨[], room, -1, 0, 0, false⟩ :: H) → R (.returned (.tuple #[ptr b, .int .i64 0])) w') :
    Calls Tryz.prog 34 #[ptr db, .int .i64 wr, .int .i64 cap, .int .u64 fl, .int .u64 tm] w R := by
  have hn : Dk.names ⟨[], room, -1, 0, 0, false⟩ (beginB wr) = ([] : List Nat).map (nameB wr) := by
    simp [Dk.names, rising]
  refine fopen_any (ns := []) hg hwr hfl htm hcap (fun p hp => by cases hp) (by simp) hn (fun n hn => by cases hn) hs (fun b l w' g' hg' _ hl hs => ?_) (fun w' g' _ h _ => absurd rfl h)
  have : l = [] := by
    simp only [fopR] at hl
    simpa using hl
  subst this
  exact hR b w' g' hg' hs

set_option maxHeartbeats 1600000 in
set_option maxRecDepth 100000 in
theorem awake9_any {R : Ending → World → Prop} {W w : World} {g : Hl} {H : List HP} (hg : Gl g) (hs : Sat W w g H) (hR : ∀ w' g', Hl.le g g' → Sat W w' g' H → R (.returned (.bool true)) w') : Calls Tryz.prog 33 #[] w R := by
  have HR := Lib.hid hR
  clear hR
  refine C.calls (args := []) Tryz.func33 rfl rfl rfl ?_
  refine go ?_
  refine E.callf Tryz.func16 rfl ?_
  refine new_any (by omega) hs ?_
  intro db w1 hs
  refine go ?_
  refine E.callf Tryz.func34 rfl ?_
  refine fopen_new (wr := 3) (fl := 4) (tm := 0) hg (by decide) (by decide) (by decide) (by decide) hs ?_
  intro b w2 g2 hg2 hs
  refine go ?_
  have hsm : Fe.small ⟨3, 100, 4, 0, [], false⟩ := fun s hs => by cases hs
  refine E.callf Tryz.func40 rfl ?_
  refine fnext_any hsm hs ?_
  intro w3 hs
  rw [show Fe.next ⟨3, 100, 4, 0, [], false⟩ = 5 from rfl]
  refine go ?_
  refine E.callf Tryz.func46 rfl ?_
  refine fwriter_any hs ?_
  intro w4 hs
  refine go ?_
  refine A.r1 ?_
  exact HR.out _ _ hg2 hs.drop.drop
end Go.Proofs.YtdkbpcibmipelaaGreatDoor

/-
  Layer 9 (feed), plain: the last event; how much there is.
-/
namespace Go.Proofs.YtdkbpcibmipelaaGreatDoor
open Go.RowKit
set_option linter.unusedVariables false
set_option linter.unusedSimpArgs false

theorem all_raw (f : Fe) : f.all.map Ev.raw = liveP f.floor f.segs := by
  have h : ∀ l : List Ev, (l.filter fun e => decide (f.floor < e.sq)).map Ev.raw = (l.map Ev.raw).filter fun p => decide (f.floor < p.sq) := by
    intro l
    rw [List.filter_map]
    rfl
  have h2 : (f.l.flatMap fun s => s.x.es).map Ev.raw = evS f.segs := by
    simp only [evS, Fe.segs, List.map_flatMap, List.flatMap_map]
    rfl
  simp only [Fe.all, liveE, liveP, h, h2]
theorem sealed_live (f : Fe) : f.sealed = match (liveP f.floor f.segs).getLast? with | some p => decide (p.kd = 6) | none => false := by
  rw [← all_raw, List.getLast?_map]
  unfold Fe.sealed
  cases f.all.getLast? <;> rfl
theorem tm_live (f : Fe) : f.tm = match (liveP f.floor f.segs).getLast? with | some p => p.tm | none => f.time := by
  rw [← all_raw, List.getLast?_map]
  unfold Fe.tm
  cases f.all.getLast? <;> rfl
theorem count_eq (f : Fe) : f.count = (evS f.segs).length := by
  have h2 : (f.l.flatMap fun s => s.x.es).map Ev.raw = evS f.segs := by
    simp only [evS, Fe.segs, List.map_flatMap, List.flatMap_map]
    rfl
  rw [← h2, List.length_map]
  rfl
theorem mem_flat_len {α β : Type} (h : α → List β) : ∀ {l : List α} {x : α}, x ∈ l → (h x).length ≤ (l.flatMap h).length
  | y :: r, x, hx => by
    rw [List.flatMap_cons, List.length_append]
    rcases List.mem_cons.1 hx with rfl | hx
    · omega
    · have := mem_flat_len h hx; omega
theorem small_of {f : Fe} {d : Dk} (h : FGood f d) (hc : (evS f.segs).length ≤ 1000000000) (ht : tk d.fs ≤ 1000000000) : f.small := by
  intro s hs
  have hm : s.sp ∈ f.segs := List.mem_map_of_mem hs
  obtain ⟨q, hq⟩ := h.inv.files _ hm
  have h1 := aget_tk hq
  have h2 := h.inv.size _ hm
  have h3 := mem_flat_len (fun s : Sp => s.es) hm
  simp only [Sg.sp, List.length_map] at h2 h3 h1
  simp only [evS] at hc
  constructor
  · rw [h2]
    simp only [Sp.file] at h1
    simp only [Sp.file]
    omega
  · omega
theorem live_all {wr floor : Nat} {l : List Sp} {d : Dk} (h : FInv wr floor l d) : liveP 0 l = evS l := by
  unfold liveP
  rw [List.filter_eq_self]
  intro p hp
  simp only [evS, List.mem_flatMap] at hp
  obtain ⟨s, hs, hp⟩ := hp
  obtain ⟨j, hj, rfl⟩ := List.getElem_of_mem hp
  have h1 := ((h.fit s hs).at j hj).2
  have h2 := h.first s hs
  rw [decide_eq_true_eq, h1]
  omega
theorem FGood.new (wr : Nat) (cap room : Int) (floor time : Nat) (h : wr < 64) : FGood ⟨wr, cap, floor, time, [], false⟩ ⟨[], room, -1, 0, 0, false⟩ :=
  ⟨⟨h, ⟨rfl, by simp⟩, fun s hs => (by cases hs), fun s hs => (by cases hs), fun s hs => (by cases hs), trivial, fun s hs => (by cases hs), fun x _ hn => absurd rfl hn, fun s hs => (by cases hs), List.nodup_nil⟩, fun s hs => (by cases hs), fun h => (by cases h)⟩
/-- The same in other words: what is to be known of the feed that comes out. -/
theorem feed_sync1 {f : Fe} {d : Dk} (h : FGood f d) : ∃ f' d', f.sync d = (0, f', d') ∧ FGood f' d' ∧ Same f.wr d d' ∧ tk d'.fs = tk d.fs ∧ f'.l = f.l ∧ f'.wr = f.wr ∧ f'.floor = f.floor ∧ f'.time = f.time ∧ f'.cap = f.cap ∧ f'.dirty = false ∧ f'.next = f.next := by
  obtain ⟨d', h1, h2, h3, h4⟩ := feed_sync h
  exact ⟨_, d', h1, h2, h3, h4, rfl, rfl, rfl, rfl, rfl, rfl, rfl⟩
theorem feed_fold1 {f : Fe} {d : Dk} (h : FGood f d) {fl tm : Nat} (hb : f.floor ≤ fl) (hn : fl < f.next) (hd : f.dirty = false) :
    ∃ f' d', f.foldR d fl tm = (0, f', d') ∧ FGood f' d' ∧ Same f.wr d d' ∧ tk d'.fs ≤ tk d.fs ∧ f'.wr = f.wr ∧ f'.floor = fl ∧ f'.time = max f.time tm ∧ f'.cap = f.cap ∧ f'.dirty = false ∧ liveP fl f'.segs = liveP fl f.segs ∧ f'.next = f.next ∧ f'.l <:+ f.l := by
  obtain ⟨l', d', h1, h2, h3, h4, h5, h6, h7⟩ := feed_fold h hb hn hd (tm := tm)
  exact ⟨_, d', h1, h2, h3, h4, rfl, rfl, rfl, rfl, hd, h5, h6, h7⟩
theorem small_suffix {f f' : Fe} (h : f.small) (hl : f'.l <:+ f.l) : f'.small := fun s hs => h s (hl.subset hs)
theorem count_suffix {f f' : Fe} (hl : f'.l <:+ f.l) : f'.count ≤ f.count := by
  obtain ⟨t, ht⟩ := hl
  unfold Fe.count
  rw [← ht, List.flatMap_append, List.length_append]
  omega
end Go.Proofs.YtdkbpcibmipelaaGreatDoor

/-
  Layer 9 (feed), plain: where each of a feed's events stands.
-/
namespace Go.Proofs.YtdkbpcibmipelaaGreatDoor
open Go.RowKit
set_option linter.unusedVariables false
set_option linter.unusedSimpArgs false

theorem drop_live {floor : Nat} : ∀ {es : List Ev} {f : Nat}, (∀ j (h : j < es.length), es[j].sq = f + j) → es.filter (fun e => decide (floor < e.sq)) = es.drop (floor + 1 - f)
  | [], _, _ => by simp
  | e :: r, f, h => by
    have h0 : e.sq = f := h 0 (by simp)
    have hr : ∀ j (h : j < r.length), r[j].sq = f + 1 + j := fun j hj => by
      have := h (j + 1) (by simpa using hj)
      simp only [List.getElem_cons_succ] at this
      omega
    have ih := drop_live (floor := floor) hr
    by_cases hf : floor < f
    · have e1 : floor + 1 - f = 0 := by omega
      rw [e1, List.drop_zero, List.filter_eq_self]
      intro x hx
      obtain ⟨j, hj, rfl⟩ := List.getElem_of_mem hx
      have := h j hj
      exact decide_eq_true (by omega)
    · have e1 : floor + 1 - f = (floor + 1 - (f + 1)) + 1 := by omega
      rw [e1, List.drop_succ_cons, ← ih, List.filter_cons]
      rw [decide_eq_false (show ¬ floor < e.sq by omega)]
      simp
structure Sg.fine (s : Sg) : Prop where
  next : s.next = s.first + s.x.es.length
  sq : ∀ j (h : j < s.x.es.length), s.x.es[j].sq = s.first + j
def AtL (l : List Sg) (q : Nat) (e : Ev) : Prop := ∃ k j, ∃ (hk : k < l.length) (hj : j < l[k].x.es.length), (∀ i (h : i < l.length), i < k → l[i].next ≤ q) ∧ (∀ i (h : i < l.length), k ≤ i → q < l[i].next) ∧ q = l[k].first + j ∧ l[k].x.es[j] = e
theorem AtL.cons {l : List Sg} {q : Nat} {e : Ev} {s : Sg} (h : AtL l q e) (hs : s.next ≤ q) : AtL (s :: l) q e := by
  obtain ⟨k, j, hk, hj, h1, h2, h3, h4⟩ := h
  refine ⟨k + 1, j, by simpa using hk, by simpa using hj, fun i hi hik => ?_, fun i hi hik => ?_, by simpa using h3, by simpa using h4⟩
  · cases i with
    | zero => simpa using hs
    | succ i => simpa using h1 i (by simpa using hi) (by omega)
  · cases i with
    | zero => omega
    | succ i => simpa using h2 i (by simpa using hi) (by omega)
theorem chain_first {floor : Nat} : ∀ {l : List Sg} {s : Sg}, ChainP floor ((s :: l).map Sg.sp) → (∀ t ∈ s :: l, t.fine) → ∀ t ∈ l, s.next ≤ t.next
  | u :: r, s, hc, hf, t, ht => by
    have h1 : s.first + s.x.es.length ≤ u.first := by
      have := hc.1.2.1
      simpa [Sg.sp] using this
    have h2 := (hf s (by simp)).next
    have h3 := (hf u (by simp)).next
    rcases List.mem_cons.1 ht with rfl | ht
    · omega
    · have := chain_first (l := r) (s := u) hc.2 (fun t ht => hf t (List.mem_cons_of_mem _ ht)) t ht
      omega
theorem live_at {floor : Nat} : ∀ {l : List Sg} {n : Nat}, floor + 1 ≤ n → ChainP floor (l.map Sg.sp) → (∀ t ∈ l, t.fine) → (∀ s, l.head? = some s → s.first = n ∨ (s.first ≤ floor + 1 ∧ n = floor + 1)) →
    (∀ i (h : i < (liveE floor l).length), AtL l (n + i) (liveE floor l)[i]) ∧ n + (liveE floor l).length = (match l.getLast? with | none => n | some s => max n s.next)
  | [], n, _, _, _, _ => ⟨fun i h => by simp [liveE] at h, by simp [liveE]⟩
  | s :: r, n, hn, hc, hf, hh => by
    have hs := hf s (by simp)
    have hnx := hs.next
    have hfs := hh s rfl
    have hdl := drop_live (floor := floor) hs.sq
    have e1 : liveE floor (s :: r) = s.x.es.drop (floor + 1 - s.first) ++ liveE floor r := by
      rw [← hdl]; simp [liveE]
    have hcr : ChainP floor (r.map Sg.sp) := chain_tail hc
    have hfr : ∀ t ∈ r, t.fine := fun t ht => hf t (List.mem_cons_of_mem _ ht)
    have hcf := chain_first hc hf
    have hlast : (match (s :: r).getLast? with | none => n | some u => max n u.next) = (match r.getLast? with | none => max n s.next | some u => max n u.next) := by
      cases hr : r.getLast? with
      | none => rw [List.getLast?_eq_none_iff.1 hr]; rfl
      | some u =>
        obtain ⟨L, rfl⟩ := List.getLast?_eq_some_iff.1 hr
        rw [← List.cons_append, List.getLast?_append]; rfl
    have hmem : ∀ u, r.getLast? = some u → s.next ≤ u.next := fun u hu => by
      obtain ⟨L, rfl⟩ := List.getLast?_eq_some_iff.1 hu
      exact hcf u (by simp)
    by_cases hA : s.next ≤ floor + 1
    · have hn1 : n = floor + 1 := by omega
      have e2 : s.x.es.drop (floor + 1 - s.first) = [] := List.drop_eq_nil_of_le (by omega)
      rw [e2, List.nil_append] at e1
      have hhr : ∀ t, r.head? = some t → t.first = floor + 1 ∨ (t.first ≤ floor + 1 ∧ floor + 1 = floor + 1) := by
        intro t ht
        cases r with
        | nil => cases ht
        | cons u r =>
          cases ht
          have h3 := hc.1.2.2
          simp only [Sg.sp, List.length_map] at h3
          omega
      obtain ⟨h1, h2⟩ := live_at (l := r) (n := floor + 1) (Nat.le_refl _) hcr hfr hhr
      subst hn1
      rw [e1, hlast, h2]
      refine ⟨fun i h => (h1 i h).cons (by omega), ?_⟩
      cases hr : r.getLast? with
      | none => simp only; omega
      | some u => rfl
    · have hn1 : s.first ≤ n ∧ n ≤ s.next ∧ (floor + 1 - s.first) = n - s.first := by omega
      obtain ⟨hn1, hn2, hn3⟩ := hn1
      have hhr : ∀ t, r.head? = some t → t.first = s.next ∨ (t.first ≤ floor + 1 ∧ s.next = floor + 1) := by
        intro t ht
        cases r with
        | nil => cases ht
        | cons u r =>
          cases ht
          have h3 := hc.1.2.2
          have h4 := hc.1.2.1
          simp only [Sg.sp, List.length_map] at h3 h4
          omega
      obtain ⟨h1, h2⟩ := live_at (l := r) (n := s.next) (by omega) hcr hfr hhr
      rw [hn3] at e1
      have hl : (s.x.es.drop (n - s.first)).length = s.next - n := by rw [List.length_drop]; omega
      constructor
      · intro i h
        by_cases hi : i < s.next - n
        · have e3 : (liveE floor (s :: r))[i] = s.x.es[n - s.first + i]'(by omega) := by
            simp only [e1]
            rw [List.getElem_append_left (by omega), List.getElem_drop]
          rw [e3]
          refine ⟨0, n - s.first + i, by simp, by simp only [List.getElem_cons_zero]; omega, fun i hi h => by omega, fun q hq _ => ?_, by simp only [List.getElem_cons_zero]; omega, rfl⟩
          cases q with
          | zero => simp only [List.getElem_cons_zero]; omega
          | succ q =>
            simp only [List.getElem_cons_succ]
            have := hcf _ (List.getElem_mem (by simpa using hq : q < r.length))
            omega
        · have hir : i - (s.next - n) < (liveE floor r).length := by
            rw [e1, List.length_append, hl] at h; omega
          have e3 : (liveE floor (s :: r))[i] = (liveE floor r)[i - (s.next - n)] := by
            simp only [e1]
            rw [List.getElem_append_right (by omega)]
            simp only [hl]
          rw [e3]
          have := (h1 _ hir).cons (s := s) (by omega)
          rw [show s.next + (i - (s.next - n)) = n + i by omega] at this
          exact this
      · rw [hlast, e1, List.length_append, hl]
        have e4 : n + (s.next - n + (liveE floor r).length) = s.next + (liveE floor r).length := by omega
        rw [e4, h2]
        cases hr : r.getLast? with
        | none => simp only; omega
        | some u =>
          have := hmem u hr
          simp only; omega

theorem FGood.fine {f : Fe} {d : Dk} (h : FGood f d) : ∀ s ∈ f.l, s.fine := by
  intro s hs
  have h1 := h.inv.first s.sp (List.mem_map_of_mem hs)
  have h2 := h.inv.fit s.sp (List.mem_map_of_mem hs)
  have h3 : s.first + s.x.es.length ≤ 9223372036854775808 := by simpa [Sg.sp] using h1.2
  refine ⟨by unfold Sg.next; omega, fun j hj => ?_⟩
  have h4 := (h2.at j (by simpa [Sg.sp] using hj)).2
  simp only [Sg.sp, List.getElem_map, Ev.raw] at h4
  omega
/-- Its events behind the floor stand one behind the other. -/
theorem FGood.at {f : Fe} {d : Dk} (h : FGood f d) : (∀ i (h : i < f.all.length), f.At (f.floor + 1 + i) f.all[i]) ∧ f.floor + 1 + f.all.length = f.next := by
  have hc : ChainP f.floor (f.l.map Sg.sp) := h.inv.chain
  obtain ⟨h1, h2⟩ := live_at (n := f.floor + 1) (Nat.le_refl _) hc h.fine (fun s hs => .inr ⟨by
    have := h.inv.head s.sp (by rw [Fe.segs, List.head?_map, hs]; rfl)
    simpa [Sg.sp] using this, rfl⟩)
  refine ⟨fun i hi => ⟨h1 i hi⟩, ?_⟩
  have e : f.all = liveE f.floor f.l := rfl
  rw [e, h2]
  unfold Fe.next
  cases f.l.getLast? <;> rfl
end Go.Proofs.YtdkbpcibmipelaaGreatDoor

/-
  The reference of layer 6: are two lists of events one? The second stands in a row of one's own.
-/
namespace Go.Proofs.YtdkbpcibmipelaaGreatDoor
open Go.RowKit
set_option linter.unusedVariables false
set_option linter.unusedSimpArgs false

theorem evC_in {cur : List Value} {off : Nat} {Y : List Ev} (h : (cur.drop off).take (Y.length * 8) = evC Y) {i : Nat} (hi : i < Y.length) : (cur.drop (off + i * 8)).take 8 = Y[i].cs := by
  have := evC_at hi
  rw [← h, List.drop_take, List.drop_drop, List.take_take, Nat.min_eq_left (by omega)] at this
  exact this

set_option maxHeartbeats 3200000 in
set_option maxRecDepth 100000 in
theorem sameAllB {R : Ending → World → Prop} {W w : World} {g : Hl} {H : List HP} {x : El} {Y : List Ev} {rb off cy : Nat} {cur : List Value} (hx : x.ok g) (hY : ∀ e ∈ Y, e.ok g) (hcur : (cur.drop off).take (Y.length * 8) = evC Y) (fx : ∀ e ∈ x.es, e.fit) (fy : ∀ e ∈ Y, e.fit) (hlx : x.es.length ≤ 1000000000) (hly : Y.length ≤ 1000000000) (hs : Sat W w g (blk rb cur 46 :: H))
    (hR : ∀ w' g', Hl.le g g' → Sat W w' g' (blk rb cur 46 :: H) → R (.returned (.bool (sameE x.es Y))) w') :
    Calls Tryz.prog 25 #[x.v, .slice (some ⟨rb, off, none⟩) Y.length cy] w R := by
  have HR := Lib.hid hR
  clear hR
  refine C.calls (args := [.slice x.a x.es.length x.c, .slice (some ⟨rb, off, none⟩) Y.length cy]) Tryz.func25 rfl rfl rfl ?_
  refine go ?_
  cases h0 : decide ((x.es.length : Int) = Y.length) with
  | false =>
    have h0 := of_decide_eq_false h0
    refine go ?_
    refine A.r1 ?_
    have := HR.out _ g (Hl.le_refl _) hs
    rw [show sameE x.es Y = false from decide_eq_false (fun h => by have := congrArg List.length h; simp at this; omega)] at this
    exact this
  | true =>
  have h0 := of_decide_eq_true h0
  refine gob ?_
  have hxy0 : x.es.length = Y.length := by omega
  have hxy := Lib.hid hxy0
  clear h0 hxy0
  refine C.block ?_
  refine C.lp (fun i : Nat => [(0, .slice x.a x.es.length x.c), (1, .slice (some ⟨rb, off, none⟩) Y.length cy), (5, .int .i64 i)])
    (fun gk i w => gk = x.es.length - i ∧ i ≤ x.es.length ∧ (x.es.take i).map Ev.enc = (Y.take i).map Ev.enc ∧ ∃ g', Hl.le g g' ∧ Sat W w g' (blk rb cur 46 :: H)) x.es.length 0 ⟨rfl, Nat.zero_le _, rfl, g, Hl.le_refl _, hs⟩ ?_
  clear hs
  rintro gk i w2 ⟨rfl, hi, heq, g2, hg2, hs⟩
  refine go ?_
  refine C.cond_dec (p := (i : Int) < x.es.length) rfl (fun h => ?_) (fun h => ?_)
  · have hix : i < x.es.length := by omega
    have hiy : i < Y.length := by have := hxy.out; omega
    have hiy' : (i : Int) < Y.length := by omega
    have hrx := hx.row.mono hg2
    have hxy1 := hxy.out
    obtain ⟨bx, ox, hxa⟩ := pr_some hrx (by omega)
    have hex := hx.evs x.es[i] (List.getElem_mem hix)
    have hey := hY Y[i] (List.getElem_mem hiy)
    have hyi := evC_in hcur hiy
    simp only [El.v, hxa] at hrx
    clear hxy1
    refine go ?_
    rw [hxa]
    refine C.held1 rb hs ?_
    intro w3 hk hs
    refine goh ?_
    refine EH.t0 hk ?_ (hy := Pf.loadpr ag_ev hrx hix (evC_at hix) rfl rfl)
    refine EH.t0 hk ?_ (hy := Pf.loadp rfl .here ag_ev hyi rfl)
    refine EH.one (St.callf Tryz.func54 rfl ?_)
    refine same_any (e := x.es[i]) (f := Y[i]) (hex.1.mono hg2) (hey.mono hg2) (fx _ (List.getElem_mem hix)) (fy _ (List.getElem_mem hiy)) hs ?_
    intro w4 g4 hg4 hs
    refine kept1 hs (fun hk => ?_) hg4
    refine goh ?_
    refine EH.done ?_
    refine go ?_
    cases hd : decide (x.es[i].enc = Y[i].enc) with
    | true =>
      have hd := of_decide_eq_true hd
      refine go ?_
      rw [← hxa]
      refine A.rd (x.es.length - (i + 1)) (i + 1) ⟨rfl, by omega, ?_, g4, hg2.trans hg4, hs⟩
      rw [List.take_succ_eq_append_getElem hix, List.take_succ_eq_append_getElem hiy, List.map_append, List.map_append, heq]
      simp [hd]
    | false =>
      have hd := of_decide_eq_false hd
      refine go ?_
      refine A.r1 ?_
      have := HR.out _ _ (hg2.trans hg4) hs
      rw [show sameE x.es Y = false from decide_eq_false (fun h => hd (by
        have h1 := congrArg (fun l => l[i]?) h
        simp only [List.getElem?_map, List.getElem?_eq_getElem hix, List.getElem?_eq_getElem hiy, Option.map_some, Option.some.injEq] at h1
        exact h1))] at this
      exact this
  · obtain rfl : i = x.es.length := by omega
    refine go ?_
    refine A.r1 ?_
    have := HR.out _ _ hg2 hs
    rw [List.take_length, hxy.out, List.take_length] at heq
    rw [show sameE x.es Y = true from decide_eq_true heq] at this
    exact this
end Go.Proofs.YtdkbpcibmipelaaGreatDoor

/-
  law09: told, the first half (under way).
-/
namespace Go.Proofs.YtdkbpcibmipelaaGreatDoor
open Go.RowKit
set_option linter.unusedVariables false
set_option linter.unusedSimpArgs false

/-- What a feed is told to have: all of L, of which the first are folded. -/
structure Told (f : Fe) (L : List Ev) (tm : Nat) : Prop where
  small : f.small
  count : f.count ≤ 1000000000
  ln : f.l.length ≤ 1000000000
  fl : f.floor ≤ L.length
  next : f.next = L.length + 1
  all : sameE f.all (L.drop f.floor) = true
  time : f.tm = (match (L.drop f.floor).getLast? with | some e => e.tm | none => tm)
  fx : ∀ e ∈ f.all, e.fit
  fy : ∀ e ∈ L, e.fit
  at' : ∀ i (h : i < f.all.length), f.At (f.floor + 1 + i) f.all[i]

set_option maxHeartbeats 6400000 in
set_option maxRecDepth 100000 in
theorem told_some {R : Ending → World → Prop} {W w : World} {g : Hl} {H : List HP} {b db rb c tm : Nat} {f : Fe} {L : List Ev} {cur : List Value} (ht : Told f L tm) (hL : ∀ e ∈ L, e.ok g) (hl0 : 0 < L.length) (hl1 : L.length ≤ 50) (hlc : L.length ≤ c) (hcm : c ≤ 9223372036854775807) (hcur : cur.take (L.length * 8) = evC L) (htm : tm < 18446744073709551616) (hs : Sat W w g (feed b db f :: blk rb cur 46 :: H))
    (hR : ∀ w' g', Hl.le g g' → Sat W w' g' (feed b db f :: blk rb cur 46 :: H) → R (.returned (.bool true)) w') :
    Calls Tryz.prog 41 #[ptr b, .slice (some ⟨rb, 0, none⟩) L.length c, .int .i64 f.floor, .int .u64 tm] w R := by
  have HR := Lib.hid hR
  clear hR
  have hfl := ht.fl
  have hnx := Lib.hid ht.next
  have hY : ∃ o, (∀ w, (Instr.sliceAt 27 (.slice (some ⟨rb, 0, none⟩) L.length c) (some (.int .i64 (f.floor : Int))) none none).run Tryz.prog w = .ok (.slice (some ⟨rb, o, none⟩) (L.drop f.floor).length (c - f.floor)) w) ∧ (cur.drop o).take ((L.drop f.floor).length * 8) = evC (L.drop f.floor) := by
    obtain ⟨o, h1, h2⟩ := run_slice_l_at (P := Tryz.prog) (kd := .i64) (b := rb) (o0 := 0) (c := c) el_ev hfl
    refine ⟨o, fun w => by rw [h1 w, List.length_drop], ?_⟩
    have e1 : evC (L.drop f.floor) = (evC L).drop (f.floor * 8) := (evC_drop L f.floor).symm
    rw [e1, List.length_drop]
    rcases h2 with h2 | h2
    · have e2 : L.length - f.floor = 0 := by omega
      rw [e2, Nat.zero_mul, List.take_zero, List.drop_eq_nil_of_le (by rw [evC_length]; omega)]
    · rw [h2, Nat.zero_add, ← hcur, List.drop_take, Nat.sub_mul]
  obtain ⟨o, hsl, hYc⟩ := hY
  refine C.calls (args := [ptr b, .slice (some ⟨rb, 0, none⟩) L.length c, .int .i64 f.floor, .int .u64 tm]) Tryz.func41 rfl rfl rfl ?_
  refine go ?_
  refine C.held1 rb hs ?_
  intro w1 hk hs
  refine goh ?_
  refine EH.one (St.guard rfl rfl (St.callf Tryz.func39 rfl ?_))
  refine ffloor_any hs ?_
  intro w2 hs
  refine kept1 hs (fun hk => ?_) (Hl.le_refl _)
  refine goh ?_
  rw [show decide ((f.floor : Int) = (f.floor : Int)) = true from decide_eq_true rfl, Bool.not_true]
  refine goh ?_
  refine EH.one (St.guard rfl rfl (St.callf Tryz.func40 rfl ?_))
  refine fnext_any ht.small hs ?_
  intro w3 hs
  refine kept1 hs (fun hk => ?_) (Hl.le_refl _)
  rw [hnx.out]
  refine goh ?_
  rw [show decide (((L.length + 1 : Nat) : Int) = ((L.length + 1 : Nat) : Int)) = true from decide_eq_true rfl, Bool.not_true]
  refine goh ?_
  refine EH.tp 23 hk ?_ (hy := Pf.pv (Pv.slice rfl rfl rfl rfl hsl))
  refine EH.one (St.guard rfl rfl (St.callf Tryz.func48 rfl ?_))
  refine fall_any ht.count hs ?_
  intro x w4 g4 hg4 hx hxe hs
  refine kept1 hs (fun hk => ?_) hg4
  have hxl : x.es.length ≤ 1000000000 := by
    rw [hxe]
    exact Nat.le_trans (liveE_len f.floor f.l) ht.count
  have hfx : ∀ e ∈ x.es, e.fit := by rw [hxe]; exact ht.fx
  have hsame : sameE x.es (L.drop f.floor) = true := by rw [hxe]; exact ht.all
  clear hxe
  refine goh ?_
  refine EH.one (St.guard rfl rfl (St.callf Tryz.func25 rfl ?_))
  refine sameAllB (x := x) (Y := L.drop f.floor) hx (fun e he => (hL e (List.mem_of_mem_drop he)).mono hg4) hYc hfx (fun e he => ht.fy e (List.mem_of_mem_drop he)) hxl (by rw [List.length_drop]; omega) hs.swap ?_
  intro w5 g5 hg5 hs
  replace hs := hs.swap
  rw [hsame]
  have hg5' := hg4.trans hg5
  refine kept1 hs (fun hk => ?_) hg5'
  refine goh ?_
  refine EH.done ?_
  refine go ?_
  apply later (α := Hl) (f := fun _ => [(0, ptr b), (1, .slice (some ⟨rb, 0, none⟩) L.length c), (2, .int .i64 f.floor), (3, .int .u64 tm), (9, .int .u64 0)]) (M := fun g6 w => Hl.le g g6 ∧ Sat W w g6 (feed b db f :: blk rb cur 46 :: H))
  · intro ky
    have htime := ht.time
    obtain ⟨q, hq⟩ : ∃ q, q = L.length - 1 := ⟨_, rfl⟩
    have hql : q < L.length := by omega
    have hcl : (cur.drop (0 + q * 8)).take 8 = L[q].cs := evC_in (by rw [List.drop_zero]; exact hcur) hql
    have hqi : (L.length : Int) - 1 = (q : Int) := by omega
    by_cases hA : f.floor < L.length
    · have hla : (L.drop f.floor).getLast? = some L[q] := by
        rw [List.getLast?_drop, if_neg (by omega), List.getLast?_eq_getElem?, ← hq, List.getElem?_eq_getElem hql]
      rw [hla] at htime
      simp only at htime
      replace htime := Lib.hid htime
      have hct : cur[q * 8 + 2]? = some (.int .u64 L[q].tm) := by
        have h1 := congrArg (fun l => l[2]?) hcl
        simp only [List.getElem?_take, List.getElem?_drop] at h1
        rw [Nat.zero_add] at h1
        exact h1
      replace hq := Lib.hid hq
      refine C.held1 rb hs ?_
      intro w6 hk hs
      have hrd : Rd (Keeps g5 [(rb, cur, 46)]) rb (q * 8 + 2) (.int .u64 L[q].tm) := Rd.blk .here hct
      refine goh ?_
      rw [decide_eq_true (show (f.floor : Int) < (L.length : Int) by omega)]
      refine goh ?_
      refine EH.one (St.guard rfl rfl (St.callf Tryz.func47 rfl ?_))
      refine ftime_any ht.count hs ?_
      intro w7 g7 hg7 hs
      rw [htime.out]
      refine kept1 hs (fun hk => ?_) hg7
      refine goh ?_
      rw [show decide (((L[q].tm : Nat) : Int) = ((L[q].tm : Nat) : Int)) = true from decide_eq_true rfl, Bool.not_true]
      refine goh ?_
      rw [decide_eq_false (show ¬ (L.length : Int) = (f.floor : Int) by omega)]
      refine goh ?_
      refine EH.done ?_
      refine gob ?_
      exact C.forget wk_ (ky g7 _ ⟨hg5'.trans hg7, hs⟩)
    · have hLf : L.length = f.floor := by omega
      rw [show L.drop f.floor = [] from List.drop_eq_nil_of_le (by omega)] at htime
      simp only [List.getLast?_nil] at htime
      replace htime := Lib.hid htime
      replace hLf := Lib.hid hLf
      refine C.held1 rb hs ?_
      intro w6 hk hs
      refine goh ?_
      rw [decide_eq_false (show ¬ (f.floor : Int) < (L.length : Int) by omega)]
      refine goh ?_
      rw [decide_eq_true (show (L.length : Int) = (f.floor : Int) by have := hLf.out; omega)]
      refine goh ?_
      refine EH.one (St.guard rfl rfl (St.callf Tryz.func47 rfl ?_))
      refine ftime_any ht.count hs ?_
      intro w7 g7 hg7 hs
      rw [htime.out]
      refine kept1 hs (fun hk => ?_) hg7
      refine goh ?_
      rw [show decide (((tm : Nat) : Int) = ((tm : Nat) : Int)) = true from decide_eq_true rfl, Bool.not_true]
      refine goh ?_
      refine EH.done ?_
      refine gob ?_
      exact C.forget wk_ (ky g7 _ ⟨hg5'.trans hg7, hs⟩)
  clear hs hk
  rintro g6 w8 ⟨hg6, hs⟩
  refine C.cutQ (fun _ : Unit => []) (fun _ w => ∃ g', Hl.le g g' ∧ Sat W w g' (feed b db f :: blk rb cur 46 :: H)) ?_ ?_
  · refine C.block ?_
    refine C.lp (fun n : Nat => [(0, ptr b), (1, .slice (some ⟨rb, 0, none⟩) L.length c), (2, .int .i64 f.floor), (3, .int .u64 tm), (9, .int .u64 n)]) (fun gk n w => gk = L.length + 2 - n ∧ n ≤ L.length + 2 ∧ ∃ g', Hl.le g g' ∧ Sat W w g' (feed b db f :: blk rb cur 46 :: H)) (L.length + 2) 0 ⟨rfl, Nat.zero_le _, g6, hg6, hs⟩ ?_
    clear hs hg6
    rintro gk n w9 ⟨rfl, hn, g9, hg9, hs⟩
    refine go ?_
    by_cases hn1 : n ≤ L.length + 1
    rotate_left
    · rw [decide_eq_false (show ¬ (n : Int) ≤ ((L.length + 1 : Nat) : Int) by omega)]
      refine go ?_
      exact A.mt () ⟨g9, hg9, hs⟩
    rw [decide_eq_true (show (n : Int) ≤ ((L.length + 1 : Nat) : Int) by omega)]
    refine go ?_
    by_cases hnone : n = 0 ∨ L.length < n
    · refine E.callf Tryz.func44 rfl ?_
      refine fget_none ht.small (by omega) (by have := hnx.out; omega) hs ?_
      intro w10 hs
      refine go ?_
      refine E.al hs ?_
      intro b10 w11 hs
      refine E.sto (vs := [.int .i64 0, .int .u64 0, .int .u64 0, .int .u8 0, .string ⟨#[]⟩, .slice none 0 0, .float .f64 0, .int .i64 0]) (ys := [.int .i64 0, .int .u64 0, .int .u64 0, .int .u8 0, .string ⟨#[]⟩, .slice none 0 0, .float .f64 0, .int .i64 0]) hs ?_ (hv := rfl) (hsp := rfl)
      intro w12 hs
      replace hs := hs.drop
      refine go ?_
      apply laterE (α := Unit) (f := fun _ => [(0, ptr b), (1, .slice (some ⟨rb, 0, none⟩) L.length c), (2, .int .i64 f.floor), (3, .int .u64 tm), (9, .int .u64 n), (11, .int .i64 2), (12, .int .i64 2), (99, ptr b), (100, .int .u64 n)]) (M := fun _ w => Sat W w g9 (feed b db f :: blk rb cur 46 :: H))
      · intro ky
        by_cases h0 : n = 0
        · rw [decide_eq_true (show (n : Int) = 0 by omega)]
          refine go ?_
          exact E.forget wk_ (ky () _ hs)
        · rw [decide_eq_false (show ¬ (n : Int) = 0 by omega)]
          refine go ?_
          rw [decide_eq_true (show (L.length : Int) < n by omega)]
          refine go ?_
          exact E.forget wk_ (ky () _ hs)
      clear hs
      rintro _ w13 hs
      refine E.callf Tryz.func45 rfl ?_
      refine frange_none (m := 3) ht.small (by omega) (by have := hnx.out; omega) hs ?_
      intro w14 hs
      refine go ?_
      refine C.held0 hs ?_
      intro w15 hk hs
      refine goh ?_
      refine EH.done ?_
      refine go ?_
      cases hE : decide ((L.length : Int) < n + 2) with
      | true =>
        refine go ?_
        exact A.rd (L.length + 2 - (n + 1)) (n + 1) ⟨rfl, by omega, g9, hg9, hs⟩
      | false =>
        refine go ?_
        exact A.rd (L.length + 2 - (n + 1)) (n + 1) ⟨rfl, by omega, g9, hg9, hs⟩
    · have h0 : ¬ (n : Int) = 0 := by omega
      have hnl : n ≤ L.length := by omega
      have hlt : ¬ (L.length : Int) < n := by omega
      by_cases hF : n ≤ f.floor
      · have hF' : (n : Int) ≤ f.floor := by omega
        refine E.callf Tryz.func44 rfl ?_
        refine fget_folded ht.small (by omega) (by omega) (by have := hnx.out; omega) hF hs ?_
        intro w10 hs
        refine go ?_
        refine E.al hs ?_
        intro b10 w11 hs
        refine E.sto (vs := [.int .i64 0, .int .u64 0, .int .u64 0, .int .u8 0, .string ⟨#[]⟩, .slice none 0 0, .float .f64 0, .int .i64 0]) (ys := [.int .i64 0, .int .u64 0, .int .u64 0, .int .u8 0, .string ⟨#[]⟩, .slice none 0 0, .float .f64 0, .int .i64 0]) hs ?_ (hv := rfl) (hsp := rfl)
        intro w12 hs
        replace hs := hs.drop
        refine go ?_
        rw [decide_eq_false h0]
        refine go ?_
        rw [decide_eq_false hlt]
        refine go ?_
        rw [decide_eq_true hF']
        refine go ?_
        refine E.callf Tryz.func45 rfl ?_
        refine frange_folded (m := 3) ht.small (by omega) (by omega) (by have := hnx.out; omega) hF hs ?_
        intro w14 hs
        refine go ?_
        refine C.held0 hs ?_
        intro w15 hk hs
        refine goh ?_
        refine EH.done ?_
        refine go ?_
        cases hE : decide ((L.length : Int) < n + 2) with
        | true =>
          refine go ?_
          exact A.rd (L.length + 2 - (n + 1)) (n + 1) ⟨rfl, by omega, g9, hg9, hs⟩
        | false =>
          refine go ?_
          exact A.rd (L.length + 2 - (n + 1)) (n + 1) ⟨rfl, by omega, g9, hg9, hs⟩
      · have hF' : ¬ (n : Int) ≤ f.floor := by omega
        have hall : f.all.map Ev.enc = (L.drop f.floor).map Ev.enc := of_decide_eq_true ht.all
        have hal : f.all.length = L.length - f.floor := by
          have := congrArg List.length hall
          simpa using this
        have hi0 : n - f.floor - 1 < f.all.length := by omega
        have hat := ht.at' _ hi0
        have hnn : f.floor + 1 + (n - f.floor - 1) = n := by omega
        rw [hnn] at hat
        have hLn : n - 1 < L.length := by omega
        have henc : f.all[n - f.floor - 1].enc = L[n - 1].enc := by
          have h1 := congrArg (fun l => l[n - f.floor - 1]?) hall
          have e1 : f.floor + (n - f.floor - 1) = n - 1 := by omega
          simp only [List.getElem?_map, List.getElem?_eq_getElem hi0, List.getElem?_drop, e1, List.getElem?_eq_getElem hLn, Option.map_some, Option.some.injEq] at h1
          exact h1
        have hfit := ht.fx _ (List.getElem_mem hi0)
        obtain ⟨es, hes0⟩ : ∃ es, es = (f.all.drop (n - f.floor - 1)).take 3 := ⟨_, rfl⟩
        have hel : es.length = min 3 (L.length + 1 - n) := by
          rw [hes0, List.length_take, List.length_drop, hal]; omega
        have hel2 : es.length = min 3 (f.next - n) := by rw [hnx.out]; exact hel
        have hes : ∀ i (h : i < es.length), f.At (n + i) es[i] := by
          intro i hi
          have h1 : n - f.floor - 1 + i < f.all.length := by omega
          have h2 := ht.at' _ h1
          rw [show f.floor + 1 + (n - f.floor - 1 + i) = n + i by omega] at h2
          simp only [hes0, List.getElem_take, List.getElem_drop]
          exact h2
        have hesE : sameE es ((L.drop (n - 1)).take 3) = true := by
          refine decide_eq_true ?_
          rw [hes0, List.map_take, List.map_take, List.map_drop, hall, List.map_drop, List.drop_drop, ← List.map_drop, show f.floor + (n - f.floor - 1) = n - 1 by omega, List.map_drop]
        have hfes : ∀ e ∈ es, e.fit := fun e he => ht.fx e (List.mem_of_mem_drop (List.mem_of_mem_take (by rw [hes0] at he; exact he)))
        clear hes0
        replace hes := Lib.hid hes
        replace hesE := Lib.hid hesE
        replace hel2 := Lib.hid hel2
        replace hel := Lib.hid hel
        generalize f.all[n - f.floor - 1] = e at hat henc hfit
        replace hat := Lib.hid hat
        replace henc := Lib.hid henc
        replace hal := Lib.hid hal
        clear hnn hall
        refine E.callf Tryz.func44 rfl ?_
        refine fget_at ht.small ht.ln (by omega) (by have := hnx.out; omega) (by omega) hat.out hs ?_
        intro w10 heo helo hs
        refine go ?_
        refine E.al hs ?_
        intro b10 w11 hs
        refine E.sto (vs := e.cs) (ys := e.cs) hs ?_ (hv := rfl) (hsp := spl_all (by rfl)) (h1 := Ev.cs_one heo)
        intro w12 hs
        refine go ?_
        rw [decide_eq_false h0]
        refine go ?_
        rw [decide_eq_false hlt]
        refine go ?_
        rw [decide_eq_false hF']
        refine go ?_
        have ag1 := ag_ev
        refine E.callf Tryz.func45 rfl ?_
        refine frange_ok (q := n) (m := 3) (es := es) ht.small ht.ln (by omega) (by decide) (by have := hnx.out; omega) (by omega) (by decide) hel2.out hes.out hs.swap ?_
        intro x w14 g14 hg14 hxo hxe hs
        replace hxe := Lib.hid hxe
        obtain ⟨q, hq⟩ : ∃ q, q = n - 1 := ⟨_, rfl⟩
        have hqL : q < L.length := by omega
        have hcn : (cur.drop (q * 8)).take 8 = L[q].cs := by
          have := evC_in (off := 0) (by rw [List.drop_zero]; exact hcur) hqL
          rw [Nat.zero_add] at this
          exact this
        have hLo := (hL L[q] (List.getElem_mem hqL)).mono (hg9.trans hg14)
        have hLf := ht.fy L[q] (List.getElem_mem hqL)
        have henc2 : e.enc = L[q].enc := by
          have := henc.out
          subst hq
          exact this
        have hqn : IntKind.u64.wrap ((n : Int) - 1) = (q : Int) := by rw [wrapu64_id (by omega) (by omega)]; omega
        replace henc2 := Lib.hid henc2
        replace hqn := Lib.hid hqn
        replace hq := Lib.hid hq
        refine go ?_
        refine C.held2 b10 rb hs ?_
        intro w15 hk hs
        refine goh ?_
        rw [hqn.out]
        refine goh ?_
        refine EH.t0 hk ?_ (hy := Pf.loadp rfl (.there .here) ag_ev hcn rfl)
        refine EH.one (St.guard rfl rfl (St.callf Tryz.func54 rfl ?_))
        refine same_any (e := e) (f := L[q]) (heo.mono hg14) hLo hfit hLf hs ?_
        intro w16 g16 hg16 hs
        refine kept2 hs (fun hk => ?_) hg16
        rw [decide_eq_true henc2.out]
        refine goh ?_
        refine EH.done ?_
        refine gob ?_
        obtain ⟨h, hh⟩ : ∃ h, h = min (n + 2) L.length := ⟨_, rfl⟩
        have hqn1 : n = q + 1 := by have := hq.out; omega
        have hYX : ∃ (Y : List Ev) (o : Nat), Y.length = h - q ∧ sameE es Y = true ∧ (∀ e ∈ Y, e ∈ L) ∧ (cur.drop o).take (Y.length * 8) = evC Y ∧ (∀ w, (Instr.sliceAt 27 (.slice (some ⟨rb, 0, none⟩) L.length c) (some (.int .u64 (q : Int))) (some (.int .i64 (h : Int))) none).run Tryz.prog w = .ok (.slice (some ⟨rb, o, none⟩) Y.length (c - q)) w) := by
          obtain ⟨o, h1, h2⟩ := run_slice_lh_at (P := Tryz.prog) (kd := .u64) (kd' := .i64) (b := rb) (o0 := 0) (n := L.length) (c := c) (l := q) (h := h) el_ev (by omega) (by omega)
          have ho : o = q * 8 := by omega
          have hl : ((L.drop q).take 3).length = h - q := by rw [List.length_take, List.length_drop]; omega
          refine ⟨(L.drop q).take 3, o, hl, ?_, fun e he => List.mem_of_mem_drop (List.mem_of_mem_take he), ?_, fun w => by rw [hl]; exact h1 w⟩
          · have := hesE.out
            rw [← hq.out] at this
            exact this
          · rw [hl, ho, ← evC_take, ← evC_drop, ← hcur, List.drop_take, List.take_take]
            congr 1
            omega
        obtain ⟨Y, o, hYl, hYs, hYm, hYc, hYr⟩ := hYX
        have hYo : ∀ e ∈ Y, e.ok g16 := fun e he => (hL e (hYm e he)).mono (hg9.trans (hg14.trans hg16))
        have hYf : ∀ e ∈ Y, e.fit := fun e he => ht.fy e (hYm e he)
        have hYn : Y.length ≤ 1000000000 := by omega
        have hxl : x.es.length ≤ 1000000000 := by rw [hxe.out, hel.out]; omega
        have hxf : ∀ e ∈ x.es, e.fit := by rw [hxe.out]; exact hfes
        have hxs : sameE x.es Y = true := by rw [hxe.out]; exact hYs
        replace hh := Lib.hid hh
        replace hYl := Lib.hid hYl
        replace hqn1 := Lib.hid hqn1
        apply laterE (α := Unit) (f := fun _ => [(0, ptr b), (1, .slice (some ⟨rb, 0, none⟩) L.length c), (2, .int .i64 f.floor), (3, .int .u64 tm), (9, .int .u64 n), (137, .bool true), (138, x.v), (139, .slice (some ⟨rb, 0, none⟩) L.length c), (141, .int .u64 q), (142, .int .i64 h)]) (M := fun _ w => Sat W w g16 (feed b db f :: blk b10 e.cs 46 :: blk rb cur 46 :: H))
        · intro ky
          cases hE : decide ((L.length : Int) < n + 2) with
          | true =>
            have e1 : (L.length : Int) = (h : Int) := by have := hh.out; have := of_decide_eq_true hE; omega
            replace e1 := Lib.hid e1
            clear hE
            refine go ?_
            rw [e1.out]
            refine go ?_
            rw [hqn.out]
            refine go ?_
            exact E.forget wk_ (ky () _ hs)
          | false =>
            have e1 : (n : Int) + 2 = (h : Int) := by have := hh.out; have := of_decide_eq_false hE; omega
            replace e1 := Lib.hid e1
            clear hE
            rw [e1.out]
            refine go ?_
            rw [hqn.out]
            refine go ?_
            exact E.forget wk_ (ky () _ hs)
        clear hs
        rintro _ w17 hs
        refine E.pv (Pv.slice rfl rfl rfl rfl hYr) ?_
        refine go ?_
        refine E.callf Tryz.func25 rfl ?_
        refine sameAllB (x := x) (Y := Y) (hxo.mono hg16) hYo hYc hxf hYf hxl hYn hs.pull2 ?_
        intro w18 g18 hg18 hs
        rw [hxs]
        refine go ?_
        exact A.rd (L.length + 2 - (n + 1)) (n + 1) ⟨rfl, by omega, g18, hg9.trans (hg14.trans (hg16.trans hg18)), hs.pull2.drop.swap⟩
  clear hs
  rintro _ w20 ⟨g20, hg20, hs⟩
  refine go ?_
  refine A.r1 ?_
  exact HR.out _ _ hg20 hs
end Go.Proofs.YtdkbpcibmipelaaGreatDoor

/-
  FeedPlays, plain: what a feed keeps while events are added, made safe, folded, and all is opened anew.
-/
namespace Go.Proofs.YtdkbpcibmipelaaGreatDoor
open Go.RowKit
set_option linter.unusedVariables false
set_option linter.unusedSimpArgs false

structure PInv (f : Fe) (d : Dk) (L : List Ev) (tm i : Nat) : Prop where
  good : FGood f d
  wr : f.wr = 3
  time : f.time = tm
  fl : f.floor ≤ L.length
  next : f.next = L.length + 1
  live : liveP f.floor f.segs = (L.filter fun e => decide (f.floor < e.sq)).map Ev.ep
  evs : (evS f.segs).length ≤ i
  len : f.l.length ≤ i
  li : L.length ≤ i
  room : d.room = 65536
  tk : tk d.fs ≤ 200 * i
  out : ∀ x, hasP (beginB 3) x = false → aget x d.fs = none
  tms : tm ≤ i
  tm0 : ∀ e ∈ L, f.floor < e.sq → tm ≤ e.tm
  evq : ∀ j (h : j < L.length), ∃ V t tv, L[j] = evQ V (j + 1) t tv ∧ t ≤ i
  rise : L.Pairwise fun a b => a.tm ≤ b.tm

theorem evQ_fit (V sq tm : Nat) (tv : Value) : (evQ V sq tm tv).fit := ⟨by simp [evQ], by simp only [evQ]; omega, fun h => by simp [evQ]⟩
theorem PInv.mem {f : Fe} {d : Dk} {L : List Ev} {tm i : Nat} (h : PInv f d L tm i) {e : Ev} (he : e ∈ L) : ∃ V t tv, e = evQ V e.sq t tv ∧ t ≤ i := by
  obtain ⟨j, hj, rfl⟩ := List.getElem_of_mem he
  obtain ⟨V, t, tv, h1, h2⟩ := h.evq j hj
  refine ⟨V, t, tv, ?_, h2⟩
  have h3 : L[j].sq = j + 1 := by rw [h1]; rfl
  rw [h3]; exact h1
theorem PInv.drop {f : Fe} {d : Dk} {L : List Ev} {tm i : Nat} (h : PInv f d L tm i) (n : Nat) : L.filter (fun e => decide (n < e.sq)) = L.drop n := by
  have := drop_live (floor := n) (es := L) (f := 1) (fun j hj => by
    obtain ⟨V, t, tv, h1, h2⟩ := h.evq j hj
    rw [h1]
    simp only [evQ]
    omega)
  rw [this, Nat.add_sub_cancel]
theorem PInv.lives {f : Fe} {d : Dk} {L : List Ev} {tm i : Nat} (h : PInv f d L tm i) : liveP f.floor f.segs = (L.drop f.floor).map Ev.ep := by
  rw [h.live, h.drop]
theorem PInv.last {f : Fe} {d : Dk} {L : List Ev} {tm i : Nat} (h : PInv f d L tm i) : ∀ p ∈ liveP f.floor f.segs, p.wr = 3 ∧ 1 ≤ p.kd ∧ p.kd ≤ 4 ∧ p.tm ≤ i := by
  intro p hp
  rw [h.lives] at hp
  obtain ⟨e, he, rfl⟩ := List.mem_map.1 hp
  obtain ⟨V, t, tv, h1, h2⟩ := h.mem (List.mem_of_mem_drop he)
  rw [h1]
  simp only [Ev.ep, evQ]
  refine ⟨rfl, by omega, by omega, h2⟩
theorem PInv.small {f : Fe} {d : Dk} {L : List Ev} {tm i : Nat} (h : PInv f d L tm i) (hi : i ≤ 50) : f.small := small_of h.good (by have := h.evs; omega) (by have := h.tk; omega)
theorem PInv.count {f : Fe} {d : Dk} {L : List Ev} {tm i : Nat} (h : PInv f d L tm i) (hi : i ≤ 50) : f.count ≤ 1000000000 := by
  rw [count_eq]; have := h.evs; omega

theorem PInv.told {f : Fe} {d : Dk} {L : List Ev} {tm i : Nat} (h : PInv f d L tm i) (hi : i ≤ 50) : Told f L tm := by
  have hlv := h.lives
  have hraw := all_raw f
  rw [hlv] at hraw
  have henc : f.all.map Ev.enc = (L.drop f.floor).map Ev.enc := by
    have h1 := congrArg (List.map Ep.enc) hraw
    rw [List.map_map, List.map_map] at h1
    have e1 : f.all.map Ev.enc = f.all.map (Ep.enc ∘ Ev.raw) := List.map_congr_left fun e _ => enc_raw e
    have e2 : (L.drop f.floor).map Ev.enc = (L.drop f.floor).map (Ep.enc ∘ Ev.ep) := List.map_congr_left fun e _ => (enc_ep e).symm
    rw [e1, e2]; exact h1
  refine ⟨h.small hi, h.count hi, by have := h.len; omega, h.fl, h.next, decide_eq_true henc, ?_, fun e he => ?_, fun e he => ?_, h.good.at.1⟩
  · rw [tm_live, hlv, List.getLast?_map]
    cases (L.drop f.floor).getLast? with
    | none => simp [h.time]
    | some e => simp [Ev.ep]
  · have h1 := h.last e.raw (by rw [← all_raw]; exact List.mem_map_of_mem he)
    simp only [Ev.raw] at h1
    exact ⟨by omega, h1.2.1, fun h5 => by omega⟩
  · obtain ⟨V, t, tv, h1, _⟩ := h.mem he
    rw [h1]; exact evQ_fit _ _ _ _

/-- An event is added. -/
theorem PInv.add {f : Fe} {d : Dk} {L : List Ev} {tm i : Nat} (h : PInv f d L tm i) (hi : i < 50) {V : Nat} {tv : Value} :
    (f.addR d (evQ V (L.length + 1) (i + 1) tv)).1 = 0 ∧ ∀ f', (f.addR d (evQ V (L.length + 1) (i + 1) tv)).2.1.grown f' (evQ V (L.length + 1) (i + 1) tv) → PInv f' (f.addR d (evQ V (L.length + 1) (i + 1) tv)).2.2 (L ++ [evQ V (L.length + 1) (i + 1) tv]) tm (i + 1) ∧ f'.floor = f.floor ∧ f'.cap = f.cap := by
  have hli := h.li
  have hlen := evQ_len (V := V) (sq := L.length + 1) (tm := i + 1) (tv := tv) (by omega) (by omega)
  have hw := wrapB_len (evQ V (L.length + 1) (i + 1) tv).enc (by omega)
  have htk := h.tk
  have hp : f.addP (evQ V (L.length + 1) (i + 1) tv) = 0 := by
    have hs : f.sealed = false := by
      rw [sealed_live]
      split
      · rename_i p hp
        have := h.last p (List.mem_of_getLast? hp)
        exact decide_eq_false (by omega)
      · rfl
    have ht : f.tm < i + 1 := by
      rw [tm_live]
      split
      · rename_i p hp
        have := h.last p (List.mem_of_getLast? hp)
        omega
      · rw [h.time]; have := h.tms; omega
    simp only [Fe.addP, hs, Bool.false_eq_true, if_false]
    rw [if_neg, if_neg]
    · simp only [evQ]; omega
    · simp only [evQ, h.wr, h.next]
      simp
  obtain ⟨h1, h2, h3, h4⟩ := feed_add h.good hp (evQ_right (by omega) (by omega) (by omega) (by omega)) (by simp only [evQ]; omega) (by simp [evQ]) (by omega) (by rw [h.room]; omega)
  refine ⟨h1, fun f' hf' => ?_⟩
  obtain ⟨q1, q2, q3, q4, q5, q6, q7, q8, q9⟩ := h4 f' hf'
  have hsq : (evQ V (L.length + 1) (i + 1) tv).sq = L.length + 1 := rfl
  have hsp : (evQ V (L.length + 1) (i + 1) tv).ep.sq = L.length + 1 := rfl
  have htm : (evQ V (L.length + 1) (i + 1) tv).tm = i + 1 := rfl
  have hfl := h.fl
  have hw3 := h.wr
  rw [hw3] at h2
  refine ⟨⟨q1, q2.trans h.wr, q4.trans h.time, by rw [q3, List.length_append]; omega, by rw [q8, hsq, List.length_append]; rfl, ?_, by rw [q7, List.length_append]; have := h.evs; simp only [List.length_singleton]; omega, by have := h.len; omega, by rw [List.length_append, List.length_singleton]; omega, h2.room.trans h.room, by omega, fun x hx => by rw [h2.frame x hx]; exact h.out x hx, by have := h.tms; omega, ?_, ?_, ?_⟩, q3, q5⟩
  · rw [q3, List.filter_append, List.map_append, ← h.live]
    unfold liveP
    rw [q7, List.filter_append]
    congr 1
    rw [List.filter_cons, List.filter_cons, hsq, hsp, decide_eq_true (show f.floor < L.length + 1 by omega)]
    rfl
  · intro e he hq
    rw [q3] at hq
    rcases List.mem_append.1 he with he | he
    · exact h.tm0 e he hq
    · rw [List.mem_singleton.1 he, htm]
      have := h.tms
      omega
  · intro j hj
    by_cases hjl : j < L.length
    · obtain ⟨V', t, tv', e1, e2⟩ := h.evq j hjl
      exact ⟨V', t, tv', by rw [List.getElem_append_left hjl]; exact e1, by omega⟩
    · obtain rfl : j = L.length := by
        rw [List.length_append, List.length_singleton] at hj; omega
      exact ⟨V, i + 1, tv, by simp, Nat.le_refl _⟩
  · rw [List.pairwise_append]
    refine ⟨h.rise, List.pairwise_singleton _ _, fun a ha b hb => ?_⟩
    rw [List.mem_singleton.1 hb, htm]
    obtain ⟨V', t, tv', e1, e2⟩ := h.mem ha
    rw [e1]
    simp only [evQ]
    omega

/-- It is made safe. -/
theorem PInv.sync {f : Fe} {d : Dk} {L : List Ev} {tm i : Nat} (h : PInv f d L tm i) : ∃ f' d', f.sync d = (0, f', d') ∧ PInv f' d' L tm i ∧ f'.dirty = false ∧ f'.floor = f.floor ∧ f'.cap = f.cap := by
  obtain ⟨f', d', y1, y2, y3, y4, y5, y6, y7, y8, y9, y10, y11⟩ := feed_sync1 h.good
  have hw3 := h.wr
  rw [hw3] at y3
  have hsg : f'.segs = f.segs := by unfold Fe.segs; rw [y5]
  exact ⟨f', d', y1, ⟨y2, y6.trans h.wr, y8.trans h.time, by rw [y7]; exact h.fl, y11.trans h.next, by rw [hsg, y7]; exact h.live, by rw [hsg]; exact h.evs, by rw [y5]; exact h.len, h.li, y3.room.trans h.room, by rw [y4]; exact h.tk, fun x hx => by rw [y3.frame x hx]; exact h.out x hx, h.tms, fun e he hq => h.tm0 e he (by rw [← y7]; exact hq), h.evq, h.rise⟩, y10, y7, y9⟩

theorem live_sub {m n : Nat} (h : m ≤ n) (l : List Sp) : liveP n l = (liveP m l).filter fun p => decide (n < p.sq) := by
  unfold liveP
  rw [List.filter_filter]
  refine List.filter_congr fun p _ => ?_
  by_cases hn : n < p.sq
  · rw [decide_eq_true hn, decide_eq_true (show m < p.sq by omega)]; rfl
  · rw [decide_eq_false hn]; rfl
/-- It is folded. -/
theorem PInv.fold {f : Fe} {d : Dk} {L : List Ev} {tm i : Nat} (h : PInv f d L tm i) (hd : f.dirty = false) {n tm' : Nat} (h1 : f.floor ≤ n) (h2 : n ≤ L.length) (ht : (n = f.floor ∧ tm' = tm) ∨ (f.floor < n ∧ ∃ q : n - 1 < L.length, tm' = L[n - 1].tm)) :
    ∃ f' d', f.foldR d n tm' = (0, f', d') ∧ PInv f' d' L tm' i ∧ f'.floor = n ∧ f'.cap = f.cap := by
  obtain ⟨f', d', z1, z2, z3, z4, z5, z6, z7, z8, z9, z10, z11, z12⟩ := feed_fold1 (fl := n) (tm := tm') h.good h1 (by rw [h.next]; omega) hd
  have hw3 := h.wr
  rw [hw3] at z3
  have hlast : f.floor < n → ∃ q : n - 1 < L.length, tm' = L[n - 1].tm ∧ L[n - 1].sq = n := fun hn => by
    rcases ht with ht | ⟨_, q, ht⟩
    · omega
    · refine ⟨q, ht, ?_⟩
      obtain ⟨V, t, tv, e1, _⟩ := h.evq (n - 1) q
      rw [e1]
      simp only [evQ]; omega
  have hle : tm ≤ tm' := by
    rcases ht with ht | ⟨hn, _⟩
    · omega
    · obtain ⟨q, e1, e2⟩ := hlast hn
      rw [e1]
      exact h.tm0 _ (List.getElem_mem q) (by omega)
  have hle2 : tm' ≤ i := by
    rcases ht with ht | ⟨_, q, ht⟩
    · have := h.tms; omega
    · obtain ⟨V, t, tv, e1, e2⟩ := h.mem (List.getElem_mem q)
      rw [ht, e1]
      exact e2
  refine ⟨f', d', z1, ⟨z2, z5.trans h.wr, by rw [z7, h.time]; omega, by rw [z6]; exact h2, z11.trans h.next, ?_, ?_, Nat.le_trans z12.length_le h.len, h.li, z3.room.trans h.room, Nat.le_trans z4 h.tk, fun x hx => by rw [z3.frame x hx]; exact h.out x hx, hle2, ?_, h.evq, h.rise⟩, z6, z8⟩
  · rw [z6, z10, live_sub h1, h.live, List.filter_map, List.filter_filter]
    congr 1
    refine List.filter_congr fun e _ => ?_
    have e1 : ((fun p : Ep => decide (n < p.sq)) ∘ Ev.ep) e = decide (n < e.sq) := rfl
    rw [e1]
    by_cases hn : n < e.sq
    · rw [decide_eq_true hn, decide_eq_true (show f.floor < e.sq by omega)]; rfl
    · rw [decide_eq_false hn]; rfl
  · have q1 := count_suffix z12
    rw [count_eq, count_eq] at q1
    exact Nat.le_trans q1 h.evs
  · intro e he hq
    rw [z6] at hq
    rcases ht with ht | ⟨hn, _⟩
    · rw [ht.2]
      exact h.tm0 e he (by omega)
    · obtain ⟨q, e1, e2⟩ := hlast hn
      rw [e1]
      obtain ⟨j, hj, rfl⟩ := List.getElem_of_mem he
      obtain ⟨V, t, tv, e3, _⟩ := h.evq j hj
      have hjs : L[j].sq = j + 1 := by rw [e3]; rfl
      exact List.pairwise_iff_getElem.1 h.rise (n - 1) j q hj (by omega)

theorem keepL_suffix (floor : Nat) : ∀ (l : List Sp), keepL floor l <:+ l
  | [] => List.suffix_refl _
  | [s] => by
    unfold keepL
    split
    · exact List.nil_suffix
    · exact List.suffix_refl _
  | s :: t :: r => by
    unfold keepL
    split
    · exact (keepL_suffix floor (t :: r)).trans (List.suffix_cons _ _)
    · exact List.suffix_refl _
/-- All is opened anew. -/
theorem PInv.reopen {f : Fe} {d : Dk} {L : List Ev} {tm i : Nat} (h : PInv f d L tm i) (cap : Int) : ∃ d', (fopR 3 f.floor (f.segs.map Sp.first) [] d).1 = 0 ∧ (fopR 3 f.floor (f.segs.map Sp.first) [] d).2.2 = d' ∧
    ∀ l, l.map Sg.sp = (fopR 3 f.floor (f.segs.map Sp.first) [] d).2.1 → (∀ s ∈ l, s.wr = 3) → PInv ⟨3, cap, f.floor, tm, l, false⟩ d' L tm i := by
  have hinv := h.good.inv
  rw [h.wr] at hinv
  obtain ⟨d', e1, e2, e3, e4, e5, e6⟩ := fop_plain hinv
  refine ⟨d', by rw [e1], by rw [e1], fun l hl hown => ?_⟩
  rw [e1] at hl
  simp only at hl
  have hks := keepL_suffix f.floor f.segs
  have hsg : Fe.segs ⟨3, cap, f.floor, tm, l, false⟩ = keepL f.floor f.segs := hl
  have hll : l.length = (keepL f.floor f.segs).length := by rw [← hl, List.length_map]
  have hsl : f.segs.length = f.l.length := by simp [Fe.segs]
  refine ⟨⟨by rw [hsg]; exact e2, hown, fun h => by cases h⟩, rfl, rfl, h.fl, ?_, ?_, ?_, ?_, h.li, e3.room.trans h.room, Nat.le_trans e4 h.tk, fun x hx => by rw [e3.frame x hx]; exact h.out x hx, h.tms, h.tm0, h.evq, h.rise⟩
  · rw [Fe.next_sp]
    simp only
    rw [hl, e6, ← h.next, Fe.next_sp]
  · rw [hsg]
    simp only
    rw [e5]
    exact h.live
  · rw [hsg]
    refine Nat.le_trans ?_ h.evs
    obtain ⟨t, ht⟩ := hks
    have h1 := congrArg (fun l => (evS l).length) ht
    simp only [evS, List.flatMap_append, List.length_append] at h1 ⊢
    omega
  · have := hks.length_le
    have := h.len
    simp only
    omega
/-- The names of its files. -/
theorem PInv.names {f : Fe} {d : Dk} {L : List Ev} {tm i : Nat} (h : PInv f d L tm i) : d.names (beginB 3) = (f.segs.map Sp.first).map (nameB 3) := by
  have := feed_names h.good.inv
  rw [h.wr] at this
  exact this
theorem PInv.first {f : Fe} {d : Dk} {L : List Ev} {tm i : Nat} (h : PInv f d L tm i) : ∀ n ∈ f.segs.map Sp.first, n < 18446744073709551616 := by
  intro n hn
  obtain ⟨s, hs, rfl⟩ := List.mem_map.1 hn
  have := (h.good.inv.first s hs).2
  omega
theorem PInv.key {f : Fe} {d : Dk} {L : List Ev} {tm i : Nat} (h : PInv f d L tm i) : ∀ x ∈ d.fs.map Prod.fst, hasP (beginB 3) x = true ∧ x.length ≤ 1000000 := by
  intro x hx
  have hne : aget x d.fs ≠ none := fun e => (aget_none_iff.1 e) hx
  have hp : hasP (beginB 3) x = true := by
    cases hp : hasP (beginB 3) x with
    | true => rfl
    | false => exact absurd (h.out x hp) hne
  refine ⟨hp, ?_⟩
  have hinv := h.good.inv
  rw [h.wr] at hinv
  obtain ⟨s, hs, e⟩ := hinv.only x hp hne
  have hf := (hinv.first s hs).2
  have h1 := padB_len (n := s.first) (by omega)
  have h2 := beginB_len (w := 3) (by omega)
  rw [e, nameB, List.length_append]
  omega
theorem PInv.files {f : Fe} {d : Dk} {L : List Ev} {tm i : Nat} (h : PInv f d L tm i) : d.fs.length ≤ i := by
  have h1 := h.names
  unfold Dk.names at h1
  have hoff : d.off = false := by
    have hc := h.good.inv.calm
    exact hc.1
  rw [hoff] at h1
  simp only [Bool.false_eq_true, if_false] at h1
  have h2 : (rising (d.fs.map Prod.fst)).filter (hasP (beginB 3)) = rising (d.fs.map Prod.fst) := by
    rw [List.filter_eq_self]
    intro x hx
    exact (h.key x ((rising_perm _).mem_iff.1 hx)).1
  rw [h2] at h1
  have h3 := (rising_perm (d.fs.map Prod.fst)).length_eq
  rw [h1] at h3
  simp only [List.length_map] at h3
  have := h.len
  omega
theorem PInv.new (cap : Int) : PInv ⟨3, cap, 0, 0, [], false⟩ ⟨[], 65536, -1, 0, 0, false⟩ [] 0 0 :=
  ⟨FGood.new 3 cap 65536 0 0 (by decide), rfl, rfl, Nat.le_refl _, rfl, rfl, Nat.le_refl _, Nat.le_refl _, Nat.le_refl _, rfl, Nat.le_refl 0, fun _ _ => rfl, Nat.le_refl _, fun e he => (by cases he), fun j hj => (by simp at hj), List.Pairwise.nil⟩
theorem PInv.step {f : Fe} {d : Dk} {L : List Ev} {tm i : Nat} (h : PInv f d L tm i) : PInv f d L tm (i + 1) :=
  ⟨h.good, h.wr, h.time, h.fl, h.next, h.live, by have := h.evs; omega, by have := h.len; omega, by have := h.li; omega, h.room, by have := h.tk; omega, h.out, by have := h.tms; omega, h.tm0, fun j hj => by
    obtain ⟨V, t, tv, e1, e2⟩ := h.evq j hj
    exact ⟨V, t, tv, e1, by omega⟩, h.rise⟩
end Go.Proofs.YtdkbpcibmipelaaGreatDoor

/-
  What came in, layer 9: the acts.
-/
namespace Go.Proofs.YtdkbpcibmipelaaGreatDoor
open Go.RowKit Go.ChangeShapes Go.WideShapes
set_option linter.unusedVariables false
set_option linter.unusedSimpArgs false
section
variable {H : Type} {enc : TypeId × Value → H} {w : World} {base : Nat} {held : Bool}
set_option maxRecDepth 100000 in
theorem in_acts {fuel : Nat} {cs : List Value} {x : DataW H × List MemPlace} (h : DataW.trod enc Tryz.prog w base (fun _ => true) held fuel 72 cs = some x) :
    ∃ a n c ps, cs = [.slice a n c] ∧ ps.length = n ∧ (∀ p ∈ ps, p.1 < 256 ∧ p.2 < 256) ∧ Pr 2 (hp w) (.slice a n c) n (putC ps) := by
  have hc : Program.cellsOf Tryz.prog 68 = 2 := by kernel_rfl
  have hc1 : Program.cellsOf Tryz.prog 5 = 1 := by kernel_rfl
  rcases DataW.trod_slice Tryz.underlying72 h with ⟨rfl, rfl⟩ | ⟨a, len, cap, elems, rest, n, _, rfl, rfl, hb, hl, hm, hlen, hel, hsp, _⟩
  · exact ⟨none, 0, 0, [], rfl, rfl, fun p hp => (by cases hp), Pr.nil⟩
  · have each : ∀ i, i < len → ∃ p : Nat × Nat, (p.1 < 256 ∧ p.2 < 256) ∧ w.cell? ((a.add (i * 2)).add 0) = some (.int .u8 p.1) ∧ w.cell? ((a.add (i * 2)).add 1) = some (.int .u8 p.2) := by
      intro i hi
      have h1 := hel i hi
      rw [hc, List.getElem?_eq_getElem (by omega), Option.bind_eq_some_iff] at h1
      obtain ⟨cs', hcs, hy⟩ := h1
      obtain ⟨_, hl2, hcell⟩ := World.cells?_some hcs
      obtain ⟨y0, y1, m, _, _, g0, g1⟩ := trod_struct2 Tryz.underlying68 hy
      simp only [hc1] at g0 g1
      obtain ⟨k0, e0, _, w0⟩ := DataW.trod_int Tryz.underlying5 g0
      obtain ⟨k1, e1, _, w1⟩ := DataW.trod_int Tryz.underlying5 g1
      simp [Lit.wf, IntKind.min, IntKind.max, IntKind.signed, IntKind.bits] at w0 w1
      match cs', hl2 with
      | [c0, c1], _ =>
        simp at e0 e1
        subst e0 e1
        refine ⟨(k0.toNat, k1.toNat), ⟨by simp only; omega, by simp only; omega⟩, ?_, ?_⟩
        · rw [hcell 0 (by omega)]
          simp only [List.getElem?_cons_zero]
          rw [Int.toNat_of_nonneg w0.1]
        · rw [hcell 1 (by omega)]
          simp only [List.getElem?_cons_succ, List.getElem?_cons_zero]
          rw [Int.toNat_of_nonneg w1.1]
    obtain ⟨ps, h1, h2⟩ := choose_list len each
    refine ⟨some a, len, cap, ps, rfl, h1, fun p hp => ?_, pr_cellss hl hm (by decide) (by rw [putC_len, h1]) fun i hi => ?_⟩
    · obtain ⟨i, hi, rfl⟩ := List.mem_iff_getElem.1 hp
      exact (h2 i hi).1
    · have hlt : i / 2 < ps.length := by omega
      obtain ⟨_, q0, q1⟩ := h2 (i / 2) hlt
      obtain ⟨r0, r1⟩ := putC_get hlt
      rw [Addr.add_add] at q0 q1
      rcases Nat.mod_two_eq_zero_or_one i with hm2 | hm2
      · have e : i = i / 2 * 2 := by omega
        rw [e, r0, ← q0]
        try simp
      · have e : i = i / 2 * 2 + 1 := by omega
        rw [e, r1, ← q1]
        try simp
end
end Go.Proofs.YtdkbpcibmipelaaGreatDoor

/-
  law09: told of an empty list, and of any.
-/
namespace Go.Proofs.YtdkbpcibmipelaaGreatDoor
open Go.RowKit
set_option linter.unusedVariables false
set_option linter.unusedSimpArgs false

set_option maxHeartbeats 6400000 in
set_option maxRecDepth 100000 in
theorem told_nil {R : Ending → World → Prop} {W w : World} {g : Hl} {H : List HP} {b db tm : Nat} {f : Fe} (ht : Told f [] tm) (htm : tm < 18446744073709551616) (hs : Sat W w g (feed b db f :: H))
    (hR : ∀ w' g', Hl.le g g' → Sat W w' g' (feed b db f :: H) → R (.returned (.bool true)) w') :
    Calls Tryz.prog 41 #[ptr b, .slice none 0 0, .int .i64 f.floor, .int .u64 tm] w R := by
  have HR := Lib.hid hR
  clear hR
  have hfl : f.floor = 0 := by have := ht.fl; simpa using this
  have hnx := Lib.hid ht.next
  have hsl : ∀ w, (Instr.sliceAt 27 (.slice none 0 0) (some (.int .i64 (0 : Int))) none none).run Tryz.prog w = .ok (.slice none 0 0) w := by
    intro w
    have := run_slice_l (P := Tryz.prog) (kd := .i64) (a := none) (n := 0) (c := 0) (l := 0) el_ev (Nat.le_refl _) w
    exact this
  rw [hfl]
  replace hfl := Lib.hid hfl
  refine C.calls (args := [ptr b, .slice none 0 0, .int .i64 0, .int .u64 tm]) Tryz.func41 rfl rfl rfl ?_
  refine go ?_
  refine C.held0 hs ?_
  intro w1 hk hs
  refine goh ?_
  refine EH.one (St.guard rfl rfl (St.callf Tryz.func39 rfl ?_))
  refine ffloor_any hs ?_
  intro w2 hs
  rw [hfl.out]
  refine kept0 hs (fun hk => ?_) (Hl.le_refl _)
  refine goh ?_
  refine EH.one (St.guard rfl rfl (St.callf Tryz.func40 rfl ?_))
  refine fnext_any ht.small hs ?_
  intro w3 hs
  refine kept0 hs (fun hk => ?_) (Hl.le_refl _)
  rw [hnx.out]
  refine goh ?_
  refine EH.tp 23 hk ?_ (hy := Pf.pv (Pv.slice rfl rfl rfl rfl hsl))
  refine EH.one (St.guard rfl rfl (St.callf Tryz.func48 rfl ?_))
  refine fall_any ht.count hs ?_
  intro x w4 g4 hg4 hx hxe hs
  refine kept0 hs (fun hk => ?_) hg4
  have hxl : x.es.length ≤ 1000000000 := by
    rw [hxe]
    exact Nat.le_trans (liveE_len f.floor f.l) ht.count
  have hfx : ∀ e ∈ x.es, e.fit := by rw [hxe]; exact ht.fx
  have hsame : sameE x.es [] = true := by
    have := ht.all
    rw [List.drop_nil] at this
    rw [hxe]; exact this
  clear hxe
  refine goh ?_
  refine EH.one (St.guard rfl rfl (St.callf Tryz.func25 rfl ?_))
  refine sameAll_any (x := x) (y := ⟨none, 0, []⟩) hx ⟨Pr.nil, fun e he => by cases he⟩ hfx (fun e he => by cases he) hxl (by simp) hs ?_
  intro w5 g5 hg5 hs
  rw [hsame]
  have hg5' := hg4.trans hg5
  refine kept0 hs (fun hk => ?_) hg5'
  refine goh ?_
  refine EH.done ?_
  refine go ?_
  have htime : f.tm = tm := by have := ht.time; simpa using this
  replace htime := Lib.hid htime
  refine C.held0 hs ?_
  intro w6 hk hs
  refine goh ?_
  refine EH.one (St.guard rfl rfl (St.callf Tryz.func47 rfl ?_))
  refine ftime_any ht.count hs ?_
  intro w7 g7 hg7 hs
  rw [htime.out]
  refine kept0 hs (fun hk => ?_) hg7
  refine goh ?_
  rw [show decide (((tm : Nat) : Int) = ((tm : Nat) : Int)) = true from decide_eq_true rfl, Bool.not_true]
  refine goh ?_
  refine EH.done ?_
  refine gob ?_
  replace hs := hs
  have hgg := hg5'.trans hg7
  have hnx1 : f.next = 1 := by have := hnx.out; simpa using this
  replace hnx1 := Lib.hid hnx1
  clear hg5' hg5 hg4 hsame hfx hxl hx hk
  refine C.cutQ (fun _ : Unit => []) (fun _ w => ∃ g', Hl.le g g' ∧ Sat W w g' (feed b db f :: H)) ?_ ?_
  · refine C.block ?_
    refine C.lp (fun n : Nat => [(0, ptr b), (1, .slice none 0 0), (2, .int .i64 0), (3, .int .u64 tm), (9, .int .u64 n)]) (fun gk n w => gk = 2 - n ∧ n ≤ 2 ∧ ∃ g', Hl.le g g' ∧ Sat W w g' (feed b db f :: H)) 2 0 ⟨rfl, Nat.zero_le _, g7, hgg, hs⟩ ?_
    clear hs hgg
    rintro gk n w9 ⟨rfl, hn, g9, hg9, hs⟩
    refine go ?_
    by_cases hn1 : n ≤ 1
    rotate_left
    · rw [decide_eq_false (show ¬ (n : Int) ≤ ((0 + 1 : Nat) : Int) by omega)]
      refine go ?_
      exact A.mt () ⟨g9, hg9, hs⟩
    rw [decide_eq_true (show (n : Int) ≤ ((0 + 1 : Nat) : Int) by omega)]
    refine go ?_
    refine E.callf Tryz.func44 rfl ?_
    refine fget_none ht.small (by omega) (by have := hnx1.out; omega) hs ?_
    intro w10 hs
    refine go ?_
    refine E.al hs ?_
    intro b10 w11 hs
    refine E.sto (vs := [.int .i64 0, .int .u64 0, .int .u64 0, .int .u8 0, .string ⟨#[]⟩, .slice none 0 0, .float .f64 0, .int .i64 0]) (ys := [.int .i64 0, .int .u64 0, .int .u64 0, .int .u8 0, .string ⟨#[]⟩, .slice none 0 0, .float .f64 0, .int .i64 0]) hs ?_ (hv := rfl) (hsp := rfl)
    intro w12 hs
    replace hs := hs.drop
    refine go ?_
    apply laterE (α := Unit) (f := fun _ => [(0, ptr b), (1, .slice none 0 0), (2, .int .i64 0), (3, .int .u64 tm), (9, .int .u64 n), (11, .int .i64 2), (12, .int .i64 2), (99, ptr b), (100, .int .u64 n)]) (M := fun _ w => Sat W w g9 (feed b db f :: H))
    · intro ky
      by_cases h0 : n = 0
      · rw [decide_eq_true (show (n : Int) = 0 by omega)]
        refine go ?_
        exact E.forget wk_ (ky () _ hs)
      · rw [decide_eq_false (show ¬ (n : Int) = 0 by omega)]
        refine go ?_
        rw [decide_eq_true (show (0 : Int) < n by omega)]
        refine go ?_
        exact E.forget wk_ (ky () _ hs)
    clear hs
    rintro _ w13 hs
    refine E.callf Tryz.func45 rfl ?_
    refine frange_none (m := 3) ht.small (by omega) (by have := hnx1.out; omega) hs ?_
    intro w14 hs
    refine go ?_
    refine C.held0 hs ?_
    intro w15 hk hs
    refine goh ?_
    refine EH.done ?_
    refine go ?_
    cases hE : decide ((0 : Int) < n + 2) with
    | true =>
      refine go ?_
      exact A.rd (2 - (n + 1)) (n + 1) ⟨rfl, by omega, g9, hg9, hs⟩
    | false =>
      refine go ?_
      exact A.rd (2 - (n + 1)) (n + 1) ⟨rfl, by omega, g9, hg9, hs⟩
  clear hs
  rintro _ w20 ⟨g20, hg20, hs⟩
  refine go ?_
  refine A.r1 ?_
  exact HR.out _ _ hg20 hs

namespace Sat
variable {W w : World} {g : Hl} {H : List HP} {E : TypeId} {size n c : Nat} {xs : List Value} {a : Option Addr}
/-- An own row as its block. -/
theorem ownopen (hs : Sat W w g (own E size (.slice a n c) n xs :: H)) (hn : a ≠ none) : ∃ b cur, a = some ⟨b, 0, none⟩ ∧ cur.length = c * size ∧ cur.take (n * size) = xs ∧ n ≤ c ∧ c ≤ maxLen ∧ xs.length = n * size ∧ Sat W w g (blk b cur E :: H) := by
  obtain ⟨q1, q2, q3, h, ⟨x1, x2, d, ed, ⟨hl, hp⟩, s⟩, dg, ag⟩ := hs
  rcases hp with ⟨e1, _⟩ | ⟨b, cap, cur, e1, h1, h2, hcs, htk, rfl⟩
  · simp only [Value.slice.injEq] at e1
    exact absurd e1.1 hn
  · simp only [Value.slice.injEq] at e1
    obtain ⟨rfl, -, rfl⟩ := e1
    exact ⟨b, cur.toList, rfl, by simpa using hcs, htk, h1, h2, hl, q1, q2, q3, h, ⟨_, x2, d, ed, by simp [blk, obj], s⟩, dg, ag⟩
theorem ownclose {b : Nat} {cur : List Value} (hs : Sat W w g (blk b cur E :: H)) (hcs : cur.length = c * size) (ht : cur.take (n * size) = xs) (hn : n ≤ c) (hc : c ≤ maxLen) : Sat W w g (own E size (.slice (some ⟨b, 0, none⟩) n c) n xs :: H) := hs.conv fun h e => ⟨by
  have := Nat.mul_le_mul_right size hn
  rw [← ht, List.length_take]; omega, .inr ⟨b, c, cur.toArray, rfl, hn, hc, by simpa using hcs, by simpa using ht, e⟩⟩
end Sat

theorem told_any {R : Ending → World → Prop} {W w : World} {g : Hl} {H : List HP} {b db c tm : Nat} {f : Fe} {L : List Ev} {a : Option Addr} (ht : Told f L tm) (hL : ∀ e ∈ L, e.ok g) (hl1 : L.length ≤ 50) (ha : L = [] → a = none) (htm : tm < 18446744073709551616) (hs : Sat W w g (feed b db f :: own 46 8 (.slice a L.length c) L.length (evC L) :: H))
    (hR : ∀ w' g', Hl.le g g' → Sat W w' g' (feed b db f :: own 46 8 (.slice a L.length c) L.length (evC L) :: H) → R (.returned (.bool true)) w') :
    Calls Tryz.prog 41 #[ptr b, .slice a L.length c, .int .i64 f.floor, .int .u64 tm] w R := by
  by_cases h : a = none
  · subst h
    have h0 := hs.swap.slack.wlen
    obtain ⟨_, a', c', e, h1, h2, h3⟩ := h0
    simp only [Value.slice.injEq] at e
    obtain ⟨rfl, -, rfl⟩ := e
    obtain ⟨h4, rfl⟩ := h3 rfl
    obtain rfl : L = [] := List.eq_nil_of_length_eq_zero h4
    exact told_nil ht htm hs fun w' g' hg hs => hR w' g' hg hs
  · obtain ⟨rb, cur, rfl, h1, h2, h3, h4, h5, hb⟩ := hs.swap.ownopen h
    have hl0 : 0 < L.length := by
      rcases Nat.eq_zero_or_pos L.length with h0 | h0
      · have := ha (List.eq_nil_of_length_eq_zero h0)
        simp at this
      · exact h0
    refine told_some ht hL hl0 hl1 h3 (by unfold maxLen at h4; omega) h2 htm hb.swap fun w' g' hg hs => hR w' g' hg ?_
    exact (hs.swap.ownclose h1 h2 h3 h4).swap
end Go.Proofs.YtdkbpcibmipelaaGreatDoor
