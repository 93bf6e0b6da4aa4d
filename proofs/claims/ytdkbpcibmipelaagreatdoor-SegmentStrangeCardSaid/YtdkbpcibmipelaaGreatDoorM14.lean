/-
  Layer 9 (feed): one more event.
-/
import Derived.Test.YtdkbpcibmipelaaGreatDoorM13
import Derived.Test.YtdkbpcibmipelaaGreatDoorM03
import Derived.Test.YtdkbpcibmipelaaGreatDoorM12
import Derived.Test.YtdkbpcibmipelaaGreatDoorM10
namespace Go.Proofs.YtdkbpcibmipelaaGreatDoor
open Go.RowKit
set_option linter.unusedVariables false
set_option linter.unusedSimpArgs false

def Sg.addE (s : Sg) (d : Dk) (e : Ev) : Int := if s.fit e = 0 then (d.add (nameB s.wr s.first) e.enc).1 else s.fit e
def Sg.addD (s : Sg) (d : Dk) (e : Ev) : Dk := if s.fit e = 0 then (d.add (nameB s.wr s.first) e.enc).2 else d
/-- A segment with one more event. -/
structure Sg.grown (s s' : Sg) (e : Ev) : Prop where
  wr : s'.wr = s.wr
  first : s'.first = s.first
  es : ∃ tv, s'.x.es = s.x.es ++ [e.ep.ev tv]
  size : s'.size = s.size + recN e.enc.length
theorem sgAdd_one {R : Ending → World → Prop} {W w : World} {g : Hl} {H : List HP} {b : Nat} {d : Dk} {s : Sg} {e : Ev} (hg : Gl g) (ho : e.ok g) (hx : s.x.ok g) (hwr : s.wr < 64) (hf : s.first < 18446744073709551616) (hsz : s.size ≤ 4000000000000000000) (hl : s.x.es.length ≤ 1000000000) (hs : Sat W w g (disk b d :: H))
    (hR : ∀ s' w' g', Hl.le g g' → s'.x.ok g' → (s.addE d e = 0 → s.grown s' e) → (s.addE d e ≠ 0 → s' = s) → Sat W w' g' (disk b (s.addD d e) :: H) → R (.returned (.tuple #[s'.val, .int .i64 (s.addE d e)])) w') :
    Calls Tryz.prog 28 #[s.val, ptr b, e.val] w R := by
  refine sgAdd_any hg ho hx hwr hf hsz hl hs (fun w' g' hg' hne hs => ?_) (fun w' g' hg' hz hne hs => ?_) (fun a' c' tv w' g' hg' hz he hxo hs => ?_)
  · have h1 : s.addE d e = s.fit e := by simp only [Sg.addE, if_neg hne]
    have h2 : s.addD d e = d := by simp only [Sg.addD, if_neg hne]
    have key := hR s w' g' hg' (hx.mono hg') (fun h => absurd (h1.symm.trans h) hne) (fun _ => rfl)
    rw [h1, h2] at key
    exact key hs
  · have h1 : s.addE d e = (d.add (nameB s.wr s.first) e.enc).1 := by simp only [Sg.addE, if_pos hz]
    have h2 : s.addD d e = (d.add (nameB s.wr s.first) e.enc).2 := by simp only [Sg.addD, if_pos hz]
    have key := hR s w' g' hg' (hx.mono hg') (fun h => absurd (h1.symm.trans h) hne) (fun _ => rfl)
    rw [h1, h2] at key
    exact key hs
  · have h1 : s.addE d e = 0 := by simp only [Sg.addE, if_pos hz, he]
    have h2 : s.addD d e = (d.add (nameB s.wr s.first) e.enc).2 := by simp only [Sg.addD, if_pos hz]
    have key := hR ⟨s.wr, s.first, ⟨a', c', s.x.es ++ [e.ep.ev tv]⟩, s.size + recN e.enc.length⟩ w' g' hg' hxo (fun _ => ⟨rfl, rfl, ⟨tv, rfl⟩, rfl⟩) (fun h => absurd h1 h)
    rw [h1, h2] at key
    exact key hs

/-- Why an event isn't added; 0: it may be. -/
def Fe.addP (f : Fe) (e : Ev) : Int := if f.sealed = true then 12 else if ¬ (e.wr = f.wr ∧ e.sq = f.next) then 9 else if e.tm ≤ f.tm then 10 else 0
/-- Does an event want a new segment. -/
def Fe.full (f : Fe) (sq : Nat) : Bool := match f.l.getLast? with
  | none => true
  | some s => (decide (0 < s.x.es.length) && decide (f.cap ≤ s.size)) || !decide (s.next = sq)
def Fe.rolled (f : Fe) (d : Dk) (sq : Nat) : Int × Fe × Dk := if f.full sq then f.roll d sq else (0, f, d)
/-- How 'Add' goes: its error, the feed (where nothing is added), the disk. -/
def Fe.addR (f : Fe) (d : Dk) (e : Ev) : Int × Fe × Dk :=
  if f.addP e ≠ 0 then (f.addP e, f, d) else
  if (f.rolled d e.sq).1 ≠ 0 then f.rolled d e.sq else
  match (f.rolled d e.sq).2.1.l.getLast? with
  | none => (0, f, d)
  | some s => (s.addE (f.rolled d e.sq).2.2 e, (f.rolled d e.sq).2.1, s.addD (f.rolled d e.sq).2.2 e)
/-- A feed with one more event. -/
structure Fe.grown (f f' : Fe) (e : Ev) : Prop where
  ex : ∃ L s s', f.l = L ++ [s] ∧ s.grown s' e ∧ f' = { f with l := L ++ [s'], dirty := true }
theorem Fe.roll_ok {f : Fe} {d : Dk} {n : Nat} (h : (f.roll d n).1 = 0) : (f.roll d n).2.1.l = f.l ++ [sgNew 0 f.wr n] ∧ (f.roll d n).2.1.wr = f.wr ∧ (f.roll d n).2.1.floor = f.floor ∧ (f.roll d n).2.1.time = f.time ∧ (f.roll d n).2.1.cap = f.cap := by
  obtain ⟨e1, e2, e3, e4, e5⟩ := f.sync_wr d
  unfold Fe.roll at h ⊢
  split
  · rename_i h1
    rw [if_pos h1] at h
    exact absurd h h1
  · rename_i h1
    rw [if_neg h1] at h
    simp only at h ⊢
    rw [if_pos h]
    exact ⟨by simp only [e2], e1, e3, e4, e5⟩
theorem At4.put {a : Option Addr} {n c rb off p : Nat} {cur : List Value} {L : List Sg} {s s' : Sg} (h : At4 a n c rb off p L.length cur (L ++ [s]) s) (hn : n = L.length + 1) : ((spl cur p s'.cs).drop off).take (n * 4) = sgC (L ++ [s']) := by
  have hf := h.fit
  have hr := h.row
  have hp := h.pe
  have hnc := h.nc
  have e4 : ∀ t : Sg, t.cs.length = 4 := fun _ => rfl
  have hsplit : cur = cur.take p ++ s.cs ++ cur.drop (p + 4) := by
    have h2 : cur.drop (p + 4) = (cur.drop p).drop 4 := by rw [List.drop_drop]
    rw [List.append_assoc, h2, ← h.at4, List.take_append_drop, List.take_append_drop]
  have hpl : (cur.take p).length = p := by rw [List.length_take]; omega
  have hsp : spl cur p s'.cs = cur.take p ++ s'.cs ++ cur.drop (p + 4) := by
    have := spl_mid s'.cs (cur.take p) s.cs (cur.drop (p + 4)) (by rw [e4, e4])
    rw [hpl, ← hsplit] at this
    exact this
  have hpre : (cur.take p).drop off = sgC L := by
    have h3 := congrArg (List.take (L.length * 4)) hr
    rw [List.take_take, Nat.min_eq_left (by omega)] at h3
    have h5 : (sgC (L ++ [s])).take (L.length * 4) = sgC L := by
      rw [sgC_append, List.take_append_of_le_length (by rw [sgC_len]; omega), List.take_of_length_le (by rw [sgC_len]; omega)]
    rw [List.drop_take, hp, Nat.add_sub_cancel_left]
    exact h3.trans h5
  rw [hsp, List.append_assoc, List.drop_append, hpre, hpl, show off - p = 0 by omega, List.drop_zero, sgC_append, sgC_one, ← List.append_assoc, List.take_append_of_le_length (by rw [List.length_append, sgC_len, e4]; omega), List.take_of_length_le (by rw [List.length_append, sgC_len, e4]; omega)]

set_option maxHeartbeats 6400000 in
set_option maxRecDepth 100000 in
theorem fadd_any {R : Ending → World → Prop} {W w : World} {g : Hl} {H : List HP} {b db : Nat} {f : Fe} {d : Dk} {e : Ev} (hg : Gl g) (ho : e.ok g) (hsm : f.small) (hc : f.count ≤ 1000000000) (hd : f.dirty = true → f.l ≠ []) (hln : f.l.length ≤ 1000000000) (hs : Sat W w g (feed b db f :: disk db d :: H))
    (hR : ∀ f' w' g', Hl.le g g' → ((f.addR d e).1 = 0 → (f.addR d e).2.1.grown f' e) → ((f.addR d e).1 ≠ 0 → f' = (f.addR d e).2.1) → Sat W w' g' (feed b db f' :: disk db (f.addR d e).2.2 :: H) → R (.returned (.int .i64 (f.addR d e).1)) w') : Calls Tryz.prog 35 #[ptr b, e.val] w R := by
  have HR := Lib.hid hR
  clear hR
  have ag1 := ag_sg
  have ag2 := ag_ev
  obtain ⟨ea, ec, etv, hnce, _⟩ := ho.tv.len
  refine C.calls (args := [ptr b, e.val]) Tryz.func35 rfl rfl rfl ?_
  refine go ?_
  refine E.bx hs (xs := e.cs) ?_ (hx := rfl)
  intro b3 w1 hs
  refine go ?_
  refine E.callf Tryz.func49 rfl ?_
  refine fsealed_any hc hs.swap ?_
  intro w2 g2 hg2 hs
  cases hse : f.sealed with
  | true =>
    have hp : f.addP e = 12 := by simp only [Fe.addP, hse, if_true]
    have hr : f.addR d e = (12, f, d) := by simp only [Fe.addR, hp]; rfl
    refine go ?_
    refine A.r1 ?_
    have key := HR.out f w2 g2 hg2
    rw [hr] at key
    exact key (fun h => by cases h) (fun _ => rfl) hs.swap.drop
  | false =>
  have hwr : f.wr < 64 := by
    obtain ⟨_, _, h, _⟩ := feed_open hs
    exact h.wr
  refine go ?_
  obtain ⟨a, c, hok, hs⟩ := feed_open hs
  simp only [Fe.cs] at hs
  refine C.held2 b3 b hs ?_
  intro w3 hk hs
  refine goh ?_
  cases hcw : decide (e.wr = (f.wr : Int)) with
  | false =>
    have hp : f.addP e = 9 := by simp only [Fe.addP, hse, Bool.false_eq_true, if_false, of_decide_eq_false hcw, false_and, not_false_eq_true, if_true]
    have hr : f.addR d e = (9, f, d) := by simp only [Fe.addR, hp]; rfl
    refine goh ?_
    refine EH.done ?_
    refine go ?_
    refine A.r1 ?_
    have key := HR.out f w3 g2 hg2
    rw [hr] at key
    exact key (fun h => by cases h) (fun _ => rfl) (feed_close hok hs).swap.drop
  | true =>
  have hcw := of_decide_eq_true hcw
  refine goh ?_
  refine EH.one (St.guard rfl rfl (St.callf Tryz.func40 rfl ?_))
  refine fnext_raw hsm hok hs ?_
  intro w4 hs
  refine kept2 hs (fun hk => ?_) (Hl.le_refl _)
  refine goh ?_
  refine EH.done ?_
  refine go ?_
  cases hq : decide ((e.sq : Int) = (f.next : Nat)) with
  | false =>
    have hp : f.addP e = 9 := by
      have : ¬ e.sq = f.next := fun h => of_decide_eq_false hq (by rw [h])
      simp only [Fe.addP, hse, Bool.false_eq_true, if_false, this, and_false, not_false_eq_true, if_true]
    have hr : f.addR d e = (9, f, d) := by simp only [Fe.addR, hp]; rfl
    refine go ?_
    refine A.r1 ?_
    have key := HR.out f w4 g2 hg2
    rw [hr] at key
    exact key (fun h => by cases h) (fun _ => rfl) (feed_close hok hs).swap.drop
  | true =>
  have hqq : e.sq = f.next := by have := of_decide_eq_true hq; omega
  clear hq
  refine go ?_
  replace hs := feed_close hok hs
  refine C.held1 b3 hs ?_
  intro w5 hk hs
  refine goh ?_
  refine EH.one (St.callf Tryz.func47 rfl ?_)
  refine ftime_any hc hs ?_
  intro w6 g6 hg6 hs
  refine kept1 hs (fun hk => ?_) hg6
  refine goh ?_
  refine EH.done ?_
  refine go ?_
  clear hok
  cases ht : decide ((e.tm : Int) ≤ (f.tm : Nat)) with
  | true =>
    have hp : f.addP e = 10 := by
      have ht := of_decide_eq_true ht
      simp only [Fe.addP, hse, Bool.false_eq_true, if_false, hcw, hqq, and_self, not_true_eq_false]
      rw [if_pos (by omega)]
    have hr : f.addR d e = (10, f, d) := by simp only [Fe.addR, hp]; rfl
    refine go ?_
    refine A.r1 ?_
    have key := HR.out f w6 g6 (hg2.trans hg6)
    rw [hr] at key
    exact key (fun h => by cases h) (fun _ => rfl) hs.swap.drop
  | false =>
  have hp : f.addP e = 0 := by
    have ht := of_decide_eq_false ht
    simp only [Fe.addP, hse, Bool.false_eq_true, if_false, hcw, hqq, and_self, not_true_eq_false]
    rw [if_neg (by omega)]
  clear ht hk
  have hR1 : f.addR d e = (if (f.rolled d e.sq).1 ≠ 0 then f.rolled d e.sq else match (f.rolled d e.sq).2.1.l.getLast? with
    | none => (0, f, d)
    | some s => (s.addE (f.rolled d e.sq).2.2 e, (f.rolled d e.sq).2.1, s.addD (f.rolled d e.sq).2.2 e)) := by
    simp only [Fe.addR, hp]
    rw [if_neg (by simp)]
  obtain ⟨a, c, hok, hs⟩ := feed_open hs
  have hfl := hok.floor
  have hnx0 : e.sq ≠ 0 := by
    have h1 : f.floor + 1 ≤ f.next := by
      unfold Fe.next
      split <;> omega
    omega
  refine go ?_
  have hg6' := hg2.trans hg6
  have hR1 := Lib.hid hR1
  have Hcw := Lib.hid hcw
  have Hqq := Lib.hid hqq
  clear hcw hqq hp hse hg2 hg6
  apply later (α := Fe × Dk × Hl) (f := fun _ => [(0, ptr b), (3, ptr b3)])
    (M := fun q w => f.rolled d e.sq = (0, q.1, q.2.1) ∧ q.1.l ≠ [] ∧ q.1.wr = f.wr ∧ (∀ s ∈ q.1.l, s.size ≤ 4000000000000000000 ∧ s.x.es.length ≤ 1000000000) ∧ q.1.l.length ≤ 1000000001 ∧ Hl.le g q.2.2 ∧ Sat W w q.2.2 (feed b db q.1 :: blk b3 e.cs 46 :: disk db q.2.1 :: H))
  · intro key
    apply laterE (α := Unit) (f := fun _ => [(0, ptr b), (3, ptr b3), (86, ptr b), (88, .int .u64 e.sq)]) (M := fun _ w => f.full e.sq = true ∧ Sat W w g6 (feed b db f :: blk b3 e.cs 46 :: disk db d :: H))
    · intro keyR
      by_cases h0 : f.l.length = 0
      · have hfu : f.full e.sq = true := by
          have : f.l = [] := List.eq_nil_of_length_eq_zero h0
          simp [Fe.full, this]
        have hd0 : decide ((f.l.length : Int) = 0) = true := decide_eq_true (by omega)
        replace hd0 := Lib.hid hd0
        clear h0
        refine C.held2 b3 b hs ?_
        intro w7 hk hs
        refine goh ?_
        rw [hd0.out]
        refine goh ?_
        refine EH.done ?_
        refine go ?_
        exact E.forget wk_ (keyR () _ ⟨hfu, feed_close hok hs⟩)
      · have hj : f.l.length - 1 < f.l.length := by omega
        obtain ⟨rb, off, p, cur, h4, hs⟩ := row_open hj rfl hs.swap
        have hgd := hok.l _ (List.getElem_mem hj)
        have hss := hsm _ (List.getElem_mem hj)
        have hla : f.l.getLast? = some f.l[f.l.length - 1] := by rw [List.getLast?_eq_getElem?, List.getElem?_eq_getElem hj]
        have hn63 : f.l.length ≤ 9223372036854775807 := by have := h4.nc; have := h4.c63; omega
        generalize hsg : f.l[f.l.length - 1] = s at h4 hgd hss hla
        replace hla := Lib.hid hla
        clear hsg
        have hne0 : ¬ ((f.l.length : Int) = 0) := by omega
        refine C.held3 b3 b rb hs ?_
        intro w7 hk hs
        have hr2 : Rd (Keeps g6 [(b3, e.cs, 46), (b, f.cs db a c, 167), (rb, cur, 29)]) rb (p + 2) s.x.v := Rd.blk (.there (.there .here)) h4.c2
        have hr3 : Rd (Keeps g6 [(b3, e.cs, 46), (b, f.cs db a c, 167), (rb, cur, 29)]) rb (p + 3) (.int .i64 s.size) := Rd.blk (.there (.there .here)) h4.c3
        have hxv : s.x.v = .slice s.x.a s.x.es.length s.x.c := rfl
        rw [hxv] at hr2
        clear hxv
        refine goh ?_
        rw [decide_eq_false hne0]
        refine goh ?_
        refine EH.tp 9 hk ?_ (hy := Pf.pv (Pv.indexAddr rfl rfl (h4.ix (i := (f.l.length : Int) - 1) (by omega))))
        refine goh ?_
        cases hes : decide ((0 : Int) < s.x.es.length) with
        | false =>
          have hes : decide (0 < s.x.es.length) = false := by have := of_decide_eq_false hes; exact decide_eq_false (by omega)
          refine goh ?_
          refine EH.tp 38 hk ?_ (hy := Pf.pv (Pv.indexAddr rfl rfl (h4.ix (i := (f.l.length : Int) - 1) (by omega))))
          refine EH.tp 39 hk ?_ (hy := Pf.loadp rfl (.there (.there .here)) ag_sg h4.at4 rfl)
          refine goh ?_
          refine EH.one (St.guard rfl rfl (St.callf Tryz.func26 rfl ?_))
          refine sgNext_any (s := s) hgd.2.2 hss.2 hs ?_
          intro w8 hs
          refine kept3 hs (fun hk => ?_) (Hl.le_refl _)
          refine goh ?_
          cases hnq : decide (((s.next : Nat) : Int) = e.sq) with
          | true =>
            have hnq : s.next = e.sq := by have := of_decide_eq_true hnq; omega
            have hfu : f.full e.sq = false := by simp only [Fe.full, hla.out, hes, Bool.false_and, Bool.false_or, hnq]; simp
            refine goh ?_
            refine EH.done ?_
            refine go ?_
            exact C.forget wk_ (key (f, d, g6) _ ⟨by simp only [Fe.rolled, hfu]; rfl, fun h => h0 (by rw [h]; rfl), rfl, hsm, by simp only; omega, hg6', feed_close hok (row_close h4 hs).swap⟩)
          | false =>
            have hnq : ¬ s.next = e.sq := by have := of_decide_eq_false hnq; omega
            have hfu : f.full e.sq = true := by simp only [Fe.full, hla.out, hes, Bool.false_and, Bool.false_or]; simp [hnq]
            refine goh ?_
            refine EH.done ?_
            refine go ?_
            exact E.forget wk_ (keyR () _ ⟨hfu, feed_close hok (row_close h4 hs).swap⟩)
        | true =>
          have hes : decide (0 < s.x.es.length) = true := by have := of_decide_eq_true hes; exact decide_eq_true (by omega)
          refine goh ?_
          refine EH.tp 21 hk ?_ (hy := Pf.pv (Pv.indexAddr rfl rfl (h4.ix (i := (f.l.length : Int) - 1) (by omega))))
          refine goh ?_
          cases hcs : decide (f.cap ≤ (s.size : Int)) with
          | true =>
            have hfu : f.full e.sq = true := by simp only [Fe.full, hla.out, hes, hcs, Bool.and_self, Bool.true_or]
            refine goh ?_
            refine EH.done ?_
            refine go ?_
            exact E.forget wk_ (keyR () _ ⟨hfu, feed_close hok (row_close h4 hs).swap⟩)
          | false =>
            refine goh ?_
            refine EH.tp 38 hk ?_ (hy := Pf.pv (Pv.indexAddr rfl rfl (h4.ix (i := (f.l.length : Int) - 1) (by omega))))
            refine EH.tp 39 hk ?_ (hy := Pf.loadp rfl (.there (.there .here)) ag_sg h4.at4 rfl)
            refine goh ?_
            refine EH.one (St.guard rfl rfl (St.callf Tryz.func26 rfl ?_))
            refine sgNext_any (s := s) hgd.2.2 hss.2 hs ?_
            intro w8 hs
            refine kept3 hs (fun hk => ?_) (Hl.le_refl _)
            refine goh ?_
            cases hnq : decide (((s.next : Nat) : Int) = e.sq) with
            | true =>
              have hnq : s.next = e.sq := by have := of_decide_eq_true hnq; omega
              have hfu : f.full e.sq = false := by simp only [Fe.full, hla.out, hes, hcs, Bool.and_false, Bool.false_or, hnq]; simp
              refine goh ?_
              refine EH.done ?_
              refine go ?_
              exact C.forget wk_ (key (f, d, g6) _ ⟨by simp only [Fe.rolled, hfu]; rfl, fun h => h0 (by rw [h]; rfl), rfl, hsm, by simp only; omega, hg6', feed_close hok (row_close h4 hs).swap⟩)
            | false =>
              have hnq : ¬ s.next = e.sq := by have := of_decide_eq_false hnq; omega
              have hfu : f.full e.sq = true := by simp only [Fe.full, hla.out, hes, hcs, Bool.and_false, Bool.false_or]; simp [hnq]
              refine goh ?_
              refine EH.done ?_
              refine go ?_
              exact E.forget wk_ (keyR () _ ⟨hfu, feed_close hok (row_close h4 hs).swap⟩)
    rintro _ w7 ⟨hfu, hs⟩
    have hrd : f.rolled d e.sq = f.roll d e.sq := by simp only [Fe.rolled, hfu, if_true]
    refine E.callf Tryz.func107 rfl ?_
    refine froll_any (n := e.sq) (hg.mono hg6') hd ho.sq hnx0 hln hs.pull2.swap ?_
    intro w8 g8 hg8 hs
    have hfin : ∀ w', Sat W w' g8 (feed b db (f.roll d e.sq).2.1 :: disk db (f.roll d e.sq).2.2 :: blk b3 e.cs 46 :: H) → (f.roll d e.sq).1 ≠ 0 → R (.returned (.int .i64 (f.roll d e.sq).1)) w' := by
      intro w' hs hne
      have key := HR.out (f.roll d e.sq).2.1 w' g8 (hg6'.trans hg8)
      rw [hR1.out, hrd, if_pos hne] at key
      exact key (fun h => absurd h hne) (fun _ => rfl) hs.pull2.drop
    have hok0 := @Fe.roll_ok f d e.sq
    generalize f.roll d e.sq = q at hs hfin hok0 hrd ⊢
    obtain ⟨er, f1, d1⟩ := q
    simp only at hs hfin hok0 ⊢
    refine go ?_
    by_cases hz : er = 0
    · subst hz
      obtain ⟨q1, q2, q3, q4, q5⟩ := hok0 rfl
      have hdd : (!decide ((0 : Int) = 0)) = false := by simp
      refine C.cond rfl (fun h => by rw [hdd] at h; cases h) (fun _ => ?_)
      refine go ?_
      refine C.forget wk_ (key (f1, d1, g8) _ ⟨hrd, ?_, q2, ?_, ?_, hg6'.trans hg8, hs.pull2.swap⟩)
      · rw [q1]; simp
      · rw [q1]
        intro s hs'
        rcases List.mem_append.1 hs' with h | h
        · exact hsm s h
        · rw [List.mem_singleton.1 h]
          have := headB_len (t := ⟨115, f.wr, e.sq⟩) ⟨by simp only; omega, ho.sq⟩
          simp only [sgNew, if_true, List.length_nil]
          omega
      · simp only [q1, List.length_append, List.length_singleton]; omega
    · have hdd : (!decide (er = 0)) = true := by simp [hz]
      refine C.cond rfl (fun _ => ?_) (fun h => by rw [hdd] at h; cases h)
      refine go ?_
      refine A.r1 ?_
      exact hfin w8 hs hz
  rintro ⟨f1, d1, g1⟩ w10 ⟨hrl, hl1, hw1, hsm1, hll1, hg1, hs⟩
  simp only at hrl hl1 hw1 hsm1 hll1 hg1 hs ⊢
  have hl0 : 0 < f1.l.length := List.length_pos_iff.2 hl1
  have hj : f1.l.length - 1 < f1.l.length := by omega
  have hla : f1.l.getLast? = some f1.l[f1.l.length - 1] := by rw [List.getLast?_eq_getElem?, List.getElem?_eq_getElem hj]
  have hdl : f1.l = f1.l.dropLast ++ [f1.l[f1.l.length - 1]] := by
    have h1 := List.dropLast_concat_getLast hl1
    rw [List.getLast_eq_getElem] at h1
    exact h1.symm
  have hss := hsm1 _ (List.getElem_mem hj)
  have key := HR.out
  rw [hR1.out, hrl] at key
  simp only [hla, ne_eq, not_true_eq_false, if_false] at key
  obtain ⟨a1, c1, hok1, hs⟩ := feed_open hs
  obtain ⟨rb, off, p, cur, h4, hs⟩ := row_open hj rfl hs.swap
  have hgd := hok1.l _ (List.getElem_mem hj)
  have hdlen : f1.l.dropLast.length = f1.l.length - 1 := by simp
  generalize f1.l[f1.l.length - 1] = s at h4 hgd hss hla hdl key
  replace hla := Lib.hid hla
  replace hdl := Lib.hid hdl
  replace hdlen := Lib.hid hdlen
  replace hrl := Lib.hid hrl
  have hn63 : f1.l.length ≤ 9223372036854775807 := by omega
  have hswr : s.wr < 64 := by omega
  refine C.held3 b3 b rb hs ?_
  intro w11 hk hs
  apply laterH (α := Nat × Sg × Hl) (f := fun q => [(0, ptr b), (7, ptr q.1), (112, q.2.1.val), (113, .int .i64 (s.addE d1 e))])
    (M := fun q w => Hl.le g1 q.2.2 ∧ q.2.1.x.ok q.2.2 ∧ (s.addE d1 e = 0 → s.grown q.2.1 e) ∧ (s.addE d1 e ≠ 0 → q.2.1 = s) ∧ Sat W w q.2.2 (disk db (s.addD d1 e) :: blk q.1 [.int .i64 0, .int .u64 0, .slice none 0 0, .int .i64 0] 29 :: blk rb cur 29 :: blk b (f1.cs db a1 c1) 167 :: blk b3 e.cs 46 :: H))
  · intro B
    refine goh ?_
    refine EH.tp 10 hk ?_ (hy := Pf.pv (Pv.indexAddr rfl rfl (h4.ix (i := (f1.l.length : Int) - 1) (by omega))))
    refine EH.tp 11 hk ?_ (hy := Pf.loadp rfl (.there (.there .here)) ag_sg h4.at4 rfl)
    refine goh ?_
    refine EH.ora hs (St.callf Tryz.func28 rfl ?_) ?_
    · refine sgAdd_one (s := s) (e := e) (hg.mono hg1) (ho.mono hg1) hgd.1 hswr hgd.2.2 hss.1 hss.2 hs.pull3 ?_
      intro s' w12 g12 hg12 hxo h1 h2 hs
      refine kept3 hs (fun hk => ?_) hg12
      refine goh ?_
      refine EH.al hs ?_
      intro b7 w13 hs
      refine kept3 hs (fun hk => ?_) hg12
      refine goh ?_
      exact EH.forget wk_ (B (b7, s', g12) _ ⟨hg12, hxo, h1, h2, hs.swap⟩)
    · intro b7 w12 hs
      refine kept3 hs (fun hk => ?_) (Hl.le_refl _)
      refine goh ?_
      refine EH.one (St.callf Tryz.func28 rfl ?_)
      refine sgAdd_one (s := s) (e := e) (hg.mono hg1) (ho.mono hg1) hgd.1 hswr hgd.2.2 hss.1 hss.2 hs.pull4 ?_
      intro s' w13 g13 hg13 hxo h1 h2 hs
      refine kept3 hs (fun hk => ?_) hg13
      refine goh ?_
      exact EH.forget wk_ (B (b7, s', g13) _ ⟨hg13, hxo, h1, h2, hs⟩)
  rintro ⟨b7, s', g12⟩ w12 ⟨hg12, hxo, h1, h2, hs⟩
  simp only at hg12 hxo h1 h2 hs ⊢
  have hk := Keeps.of3 hs hg12 (b1 := b3) (b2 := b) (b3 := rb)
  refine EH.sto (vs := s'.cs) (ys := s'.cs) hs ?_ (hv := rfl) (hsp := rfl)
  intro w13 hs
  refine kept3 hs (fun hk => ?_) hg12
  refine goh ?_
  refine EH.done ?_
  have hok12 := hok1.mono hg12
  refine go ?_
  by_cases hz : s.addE d1 e = 0
  · refine C.cond rfl (fun _ => ?_) (fun h => by rw [decide_eq_true hz] at h; cases h)
    replace hz := Lib.hid hz
    replace h1 := h1 hz.out
    clear h2
    refine go ?_
    have hput := Lib.hid (At4.put (s' := s') (L := f1.l.dropLast) (by have hdn := hdl.out; rw [← hdn, hdlen.out]; exact h4) (by rw [hdlen.out]; omega))
    refine C.heldN hs ?_
    intro w14 hs
    have hk : Keeps g12 [(b7, s'.cs, 29), (b, f1.cs db a1 c1, 167)] w14 := Keeps.of2 hs (Hl.le_refl _)
    refine EH.tail 65536 65536 65535 16 1 (Keeps g12 [(b7, s'.cs, 29), (b, f1.cs db a1 c1, 167)]) (fun _ _ => trivial) ?_
    refine goh ?_
    refine EH.tp 12 hk ?_ (hy := Pf.pv (Pv.indexAddr rfl rfl (h4.ix (i := (f1.l.length : Int) - 1) (by omega))))
    refine goh ?_
    have hcf := h4.fit
    have hpe := h4.pe
    have hnc := h4.nc
    refine EH.sto (b := rb) (j := p) (xs := cur) (v := s'.val) (vs := s'.cs) (ys := spl cur p s'.cs) hs ?_ (hv := rfl) (hsp := rfl) (hj := by simp only [Sg.cs, List.length_cons, List.length_nil, Nat.ble_eq]; omega)
    intro w15 hs
    refine kept2 hs (fun hk => ?_) (Hl.le_refl _)
    refine goh ?_
    refine EH.done ?_
    refine A.mid ?_
    refine EH.sto (vs := [.bool true]) (ys := ({ f1 with l := f1.l.dropLast ++ [s'], dirty := true } : Fe).cs db a1 c1) hs ?_ (hv := rfl) (hsp := by
      simp only [Fe.cs, List.length_append, List.length_singleton, hdlen.out]
      rw [show f1.l.length - 1 + 1 = f1.l.length by omega]
      rfl)
    intro w16 hs
    refine ⟨trivial, ?_⟩
    refine EH.done ?_
    refine go ?_
    refine A.r1 ?_
    have key := key { f1 with l := f1.l.dropLast ++ [s'], dirty := true } w16 g12 (hg1.trans hg12) (fun _ => ⟨f1.l.dropLast, s, s', hdl.out, h1, rfl⟩) (fun h => absurd hz.out h)
    have hlen : (f1.l.dropLast ++ [s']).length = f1.l.length := by rw [List.length_append, List.length_singleton, hdlen.out]; omega
    have hs2 := Sat.oclose (size := 4) (n := f1.l.length) (c := c1) hs.swap.drop.swap (by rw [spl_len]; exact h4.fit) hput.out h4.nc h4.c63
    rw [← h4.addr, ← hlen] at hs2
    have hs3 := feed_close (a := a1) (c := c1) (f := { f1 with l := f1.l.dropLast ++ [s'], dirty := true }) ⟨hok12.wr, hok12.floor, hok12.time, hok12.cap, fun t ht => ?_⟩ hs2.pull2
    · exact key hs3.pull2.drop
    · rcases List.mem_append.1 ht with h | h
      · exact hok12.l t ((List.dropLast_sublist _).subset h)
      · rw [List.mem_singleton.1 h]
        exact ⟨hxo, h1.wr.trans hgd.2.1, by rw [h1.first]; exact hgd.2.2⟩
  · refine C.cond rfl (fun h => by rw [decide_eq_false hz] at h; cases h) (fun _ => ?_)
    refine go ?_
    refine A.r1 ?_
    have key := key f1 w13 g12 (hg1.trans hg12) (fun h => absurd h hz) (fun _ => rfl)
    exact key (feed_close hok12 (row_close h4 hs.swap.drop.swap).pull2).pull2.drop
end Go.Proofs.YtdkbpcibmipelaaGreatDoor

/-
  Layer 9 (feed): Fold.
-/
namespace Go.Proofs.YtdkbpcibmipelaaGreatDoor
open Go.RowKit
set_option linter.unusedVariables false
set_option linter.unusedSimpArgs false

/-- Segments that have nothing behind a floor are removed, but the last one. -/
def trimR (floor : Nat) : List Sg → Dk → Int × List Sg × Dk
  | s :: t :: r, d => if s.next ≤ floor + 1 then
      (if (d.remove (nameB s.wr s.first)).1 ≠ 0 then ((d.remove (nameB s.wr s.first)).1, s :: t :: r, (d.remove (nameB s.wr s.first)).2) else trimR floor (t :: r) (d.remove (nameB s.wr s.first)).2)
    else (0, s :: t :: r, d)
  | l, d => (0, l, d)
/-- How 'Fold' goes. -/
def Fe.foldR (f : Fe) (d : Dk) (floor time : Nat) : Int × Fe × Dk :=
  if floor < f.floor ∨ f.next ≤ floor ∨ f.dirty = true then (1, f, d) else
  ((trimR floor f.l d).1, { f with floor := floor, time := max f.time time, l := (trimR floor f.l d).2.1 }, (trimR floor f.l d).2.2)

set_option maxHeartbeats 6400000 in
set_option maxRecDepth 100000 in
theorem ffold_any {R : Ending → World → Prop} {W w : World} {g : Hl} {H : List HP} {b db : Nat} {f : Fe} {d : Dk} {fl tm : Nat} (hg : Gl g) (hsm : f.small) (hfl : fl ≤ 9223372036854775807) (htm : tm < 18446744073709551616) (hs : Sat W w g (feed b db f :: disk db d :: H))
    (hR : ∀ w', Sat W w' g (feed b db (f.foldR d fl tm).2.1 :: disk db (f.foldR d fl tm).2.2 :: H) → R (.returned (.int .i64 (f.foldR d fl tm).1)) w') : Calls Tryz.prog 38 #[ptr b, .int .u64 fl, .int .u64 tm] w R := by
  have HR := Lib.hid hR
  clear hR
  have ag1 := ag_sg
  obtain ⟨a, c, hok, hs⟩ := feed_open hs
  refine C.calls (args := [ptr b, .int .u64 fl, .int .u64 tm]) Tryz.func38 rfl rfl rfl ?_
  refine go ?_
  have bad : (fl < f.floor ∨ f.next ≤ fl ∨ f.dirty = true) → ∀ w', Sat W w' g (blk b (f.cs db a c) 167 :: owno 29 4 (.slice a f.l.length c) f.l.length (sgC f.l) :: disk db d :: H) → R (.returned (.int .i64 1)) w' := by
    intro h w' hs
    have key := HR.out w'
    simp only [Fe.foldR, if_pos h] at key
    exact key (feed_close hok hs)
  cases h1 : decide ((fl : Int) < f.floor) with
  | true =>
    have h1 := of_decide_eq_true h1
    refine go ?_
    refine A.r1 ?_
    exact bad (.inl (by omega)) _ hs
  | false =>
  have h1 := of_decide_eq_false h1
  refine go ?_
  refine E.callf Tryz.func40 rfl ?_
  refine fnext_raw hsm hok hs ?_
  intro w1 hs
  refine go ?_
  cases h2 : decide (((f.next : Nat) : Int) ≤ fl) with
  | true =>
    have h2 := of_decide_eq_true h2
    refine go ?_
    refine A.r1 ?_
    exact bad (.inr (.inl (by omega))) _ hs
  | false =>
  have h2 := of_decide_eq_false h2
  refine go ?_
  cases h3 : f.dirty with
  | true =>
    refine go ?_
    refine A.r1 ?_
    exact bad (.inr (.inr h3)) _ hs
  | false =>
  clear bad
  have key := HR.out
  simp only [Fe.foldR] at key
  rw [if_neg (fun h => by
    rcases h with h | h | h
    · omega
    · omega
    · rw [h3] at h; cases h)] at key
  have h3 := Lib.hid h3
  refine go ?_
  refine E.sto (vs := [.int .u64 fl]) (ys := ({ f with floor := fl } : Fe).cs db a c) hs ?_ (hv := rfl) (hsp := rfl)
  intro w2 hs
  refine go ?_
  have emx : Max.max (f.time : Int) (tm : Int) = ((max f.time tm : Nat) : Int) := by omega
  rw [emx]
  clear emx
  refine E.sto (vs := [.int .u64 (max f.time tm : Nat)]) (ys := ({ f with floor := fl, time := max f.time tm } : Fe).cs db a c) hs ?_ (hv := rfl) (hsp := rfl)
  intro w3 hs
  refine gob ?_
  have htm2 := hok.time
  have hs := feed_close (f := { f with floor := fl, time := max f.time tm }) ⟨hok.wr, hfl, by simp only; omega, hok.cap, hok.l⟩ hs
  have hwr := hok.wr
  clear hok
  refine C.cutQ (fun _ : Unit => []) (fun _ w => (trimR fl f.l d).1 = 0 ∧ Sat W w g (feed b db { f with floor := fl, time := max f.time tm, l := (trimR fl f.l d).2.1 } :: disk db (trimR fl f.l d).2.2 :: H)) ?_ ?_
  · refine C.block ?_
    refine C.lp (fun q : List Sg × Dk => [(0, ptr b), (1, .int .u64 fl)])
      (fun gk q w => gk = q.1.length ∧ trimR fl f.l d = trimR fl q.1 q.2 ∧ (∀ s ∈ q.1, s.size ≤ 4000000000000000000 ∧ s.x.es.length ≤ 1000000000) ∧ Sat W w g (feed b db { f with floor := fl, time := max f.time tm, l := q.1 } :: disk db q.2 :: H)) f.l.length (f.l, d) ⟨rfl, rfl, hsm, hs⟩ ?_
    clear hs
    rintro gk ⟨L, d1⟩ w4 ⟨rfl, hT, hsm1, hs⟩
    simp only at hT hsm1 hs ⊢
    replace hT := Lib.hid hT
    obtain ⟨a, c, hok, hs⟩ := feed_open hs
    by_cases hlen : 1 < L.length
    rotate_left
    · have hT2 : trimR fl L d1 = (0, L, d1) := by
        match L, hlen with
        | [], _ => rfl
        | [s], _ => rfl
        | s :: t :: r, h => simp at h
      have hd1 : decide ((1 : Int) < L.length) = false := decide_eq_false (by omega)
      replace hd1 := Lib.hid hd1
      clear hlen
      refine go ?_
      rw [hd1.out]
      refine go ?_
      refine A.mt () ⟨?_, ?_⟩
      · rw [hT.out, hT2]
      · rw [hT.out, hT2]
        exact feed_close hok hs
    obtain ⟨s, t, r, rfl⟩ : ∃ s t r, L = s :: t :: r := by
      match L, hlen with
      | [], h => simp at h
      | [_], h => simp at h
      | s :: t :: r, _ => exact ⟨s, t, r, rfl⟩
    obtain ⟨rb, off, p, cur, h4, hs⟩ := row_open (j := 0) (by simp) rfl hs.swap
    have hgd : s.x.ok g ∧ s.wr = f.wr ∧ s.first < 18446744073709551616 := hok.l s (by simp)
    have hss := hsm1 s (by simp)
    have h4 : At4 a (s :: t :: r).length c rb off p 0 cur (s :: t :: r) s := h4
    have hnl : ((s :: t :: r).length : Int) = r.length + 2 := by simp only [List.length_cons]; omega
    have hlen1 : (1 : Int) < ((s :: t :: r).length : Nat) := by omega
    replace hnl := Lib.hid hnl
    clear hlen1 hlen
    refine go ?_
    rw [decide_eq_true (show (1 : Int) < r.length + 1 + 1 by omega)]
    refine go ?_
    refine E.pv (Pv.indexAddr rfl rfl (h4.ix (i := 0) rfl)) ?_
    refine go ?_
    refine E.ldp hs ?_ (hv := h4.at4) (vs := s.cs)
    refine go ?_
    refine E.callf Tryz.func26 rfl ?_
    refine sgNext_any (s := s) hgd.2.2 hss.2 hs ?_
    intro w5 hs
    refine go ?_
    cases hnx : decide (((s.next : Nat) : Int) ≤ (fl + 1 : Nat)) with
    | false =>
      have hnx := of_decide_eq_false hnx
      have hT2 : trimR fl (s :: t :: r) d1 = (0, s :: t :: r, d1) := by
        unfold trimR
        rw [if_neg (by omega)]
      refine go ?_
      refine A.mt () ⟨?_, ?_⟩
      · rw [hT.out, hT2]
      · rw [hT.out, hT2]
        exact feed_close hok (row_close h4 hs).swap
    | true =>
    have hnx := of_decide_eq_true hnx
    have hT2 : trimR fl (s :: t :: r) d1 = (if (d1.remove (nameB s.wr s.first)).1 ≠ 0 then ((d1.remove (nameB s.wr s.first)).1, s :: t :: r, (d1.remove (nameB s.wr s.first)).2) else trimR fl (t :: r) (d1.remove (nameB s.wr s.first)).2) := by
      conv => lhs; unfold trimR
      rw [if_pos (by omega)]
    replace hT2 := Lib.hid hT2
    clear hnx
    refine go ?_
    refine E.pv (Pv.indexAddr rfl rfl (h4.ix (i := 0) rfl)) ?_
    refine go ?_
    refine E.ldp hs ?_ (hv := h4.at4) (vs := s.cs)
    refine go ?_
    refine E.al hs ?_
    intro b7 w6 hs
    refine E.sto (vs := s.cs) (ys := s.cs) hs ?_ (hv := rfl) (hsp := rfl)
    intro w7 hs
    refine go ?_
    refine C.held2 b7 b hs ?_
    intro w8 hk hs
    refine goh ?_
    refine EH.one (St.callf Tryz.func18 rfl ?_)
    refine segName_any (i := s.wr) (n := s.first) hg (by omega) hgd.2.2 hs ?_
    intro w9 hs
    refine kept2 hs (fun hk => ?_) (Hl.le_refl _)
    refine goh ?_
    refine EH.one (St.callf Tryz.func106 rfl ?_)
    refine remove_any hs.pull3 ?_
    intro w10 hs
    refine kept2 hs (fun hk => ?_) (Hl.le_refl _)
    refine goh ?_
    refine EH.done ?_
    refine go ?_
    by_cases hz : (d1.remove (nameB s.wr s.first)).1 = 0
    · have hdd : (!decide ((d1.remove (nameB s.wr s.first)).1 = 0)) = false := by simp [hz]
      refine C.cond rfl (fun h => by rw [hdd] at h; cases h) (fun _ => ?_)
      clear hdd
      have hT3 := hT2.out
      rw [if_neg (by simp [hz])] at hT3
      replace hT3 := Lib.hid (hT.out.trans hT3)
      replace hz := Lib.hid hz
      have hs := row_close h4 hs.swap.drop.swap
      refine go ?_
      refine E.sla el_sg hs (by simp) ?_
      intro a' hs
      refine go ?_
      refine E.sto (vs := [.slice a' (t :: r).length (c - 1)]) (ys := ({ f with floor := fl, time := max f.time tm, l := t :: r } : Fe).cs db a' (c - 1)) hs ?_ (hv := rfl) (hsp := rfl)
      intro w11 hs
      refine go ?_
      refine A.rd (t :: r).length (t :: r, (d1.remove (nameB s.wr s.first)).2) ⟨rfl, hT3.out, fun u hu => hsm1 u (by simp only [List.mem_cons] at hu ⊢; exact .inr hu), ?_⟩
      exact feed_close ⟨hok.wr, hok.floor, hok.time, hok.cap, fun u hu => hok.l u (by simp only [List.mem_cons] at hu ⊢; exact .inr hu)⟩ (hs.pull2)
    · have hdd : (!decide ((d1.remove (nameB s.wr s.first)).1 = 0)) = true := by simp [hz]
      refine C.cond rfl (fun _ => ?_) (fun h => by rw [hdd] at h; cases h)
      clear hdd
      have hT3 := hT2.out
      rw [if_pos hz] at hT3
      replace hT3 := Lib.hid (hT.out.trans hT3)
      refine go ?_
      refine A.r1 ?_
      have key := key w10
      rw [hT3.out] at key
      exact key (feed_close hok (row_close h4 hs.swap.drop.swap).pull2)
  clear hs
  rintro _ w9 ⟨hz, hs⟩
  refine go ?_
  refine A.r1 ?_
  have key := key w9
  rw [hz] at key
  exact key hs
end Go.Proofs.YtdkbpcibmipelaaGreatDoor

/-
  Layer 9 (feed): Open.
-/
namespace Go.Proofs.YtdkbpcibmipelaaGreatDoor
open Go.RowKit
set_option linter.unusedVariables false
set_option linter.unusedSimpArgs false

/-- A segment, plain. -/
structure Sp where
  first : Nat
  es : List Ep
  size : Nat
def Sg.sp (s : Sg) : Sp := ⟨s.first, s.x.es.map Ev.raw, s.size⟩
def Sp.next (s : Sp) : Nat := (s.first + s.es.length) % 18446744073709551616
theorem Sg.sp_next (s : Sg) : s.sp.next = s.next := by simp [Sp.next, Sg.next, Sg.sp]
def nextP (floor : Nat) (l : List Sp) : Nat := match l.getLast? with
  | none => floor + 1
  | some s => max (floor + 1) s.next
theorem Fe.next_sp (f : Fe) : f.next = nextP f.floor (f.l.map Sg.sp) := by
  unfold Fe.next nextP
  rw [List.getLast?_map]
  cases f.l.getLast? with
  | none => rfl
  | some s => simp [Sg.sp_next]
/-- What 'segment.Open' tells: the segment, the error. -/
def opS (n : Nat) : Except Int (List Ep × Nat × Int) → Sp
  | .error _ => ⟨0, [], 0⟩
  | .ok (es, sz, _) => ⟨n, es, sz⟩
def opR : Except Int (List Ep × Nat × Int) → Int
  | .error e => e
  | .ok (_, _, e) => e
theorem opE_few {wr f : Nat} : ∀ (ls : List (List UInt8)) (acc : List Ep) (sz : Nat), (∀ p ∈ ls, p.length ≤ 2097152) → (opE wr f acc sz ls).1.length ≤ acc.length + ls.length ∧ (opE wr f acc sz ls).2.1 ≤ sz + ls.length * 2097166
  | [], acc, sz, _ => by simp [opE]
  | p :: r, acc, sz, h => by
    have hp := h p (by simp)
    have hrec : recN p.length ≤ 2097166 := by
      have := layN_ten (n := p.length) (by omega)
      unfold recN; omega
    have ih := fun acc sz => opE_few (wr := wr) (f := f) r acc sz fun q hq => h q (by simp [hq])
    simp only [opE]
    split
    · simp only [List.length_cons]; omega
    · split
      · rename_i e _ _
        have := ih (acc ++ [e]) (sz + recN p.length)
        simp only [List.length_append, List.length_singleton, List.length_cons, List.length_nil] at this ⊢
        omega
      · simp only [List.length_cons]; omega
theorem opn_few {d : Dk} (hd : d.ok) {i n : Nat} (hi : i < 64) (hn : n < 18446744073709551616) : (opS n (d.opn i n).1).es.length ≤ 1000000000 ∧ (opS n (d.opn i n).1).size ≤ 4000000000000000000 := by
  have hto : Ti.ok ⟨115, i, n⟩ := ⟨by simp only; omega, hn⟩
  have hhl := headB_len hto
  unfold Dk.opn
  cases hm : (d.mend (nameB i n)).1 with
  | error e => simp [opS]
  | ok s =>
    obtain ⟨h1, h2⟩ := mend_few hd hm
    have h3 := opE_few (wr := i) (f := n) s.l [] (headB ⟨115, i, n⟩).length h1
    simp only
    split
    · split
      · simp only [opS, List.length_nil] at h3 ⊢; omega
      · simp only [opS, List.length_nil] at h3 ⊢; omega
    · simp [opS]
theorem sgOpen_one {R : Ending → World → Prop} {W w : World} {g : Hl} {H : List HP} {b : Nat} {d : Dk} {i n : Nat} (hg : Gl g) (hi : i < 64) (hn : n < 18446744073709551616) (hs : Sat W w g (disk b d :: H))
    (hR : ∀ (s : Sg) w' g', Hl.le g g' → s.x.ok g' → s.sp = opS n (d.opn i n).1 → (opR (d.opn i n).1 = 0 → s.wr = i) → s.first < 18446744073709551616 → (∀ e ∈ s.x.es, e.right = 0) → Sat W w' g' (disk b (d.opn i n).2 :: H) → R (.returned (.tuple #[s.val, .int .i64 (opR (d.opn i n).1)])) w') :
    Calls Tryz.prog 20 #[ptr b, str (nameB i n)] w R := by
  refine sgOpen_all hg hi hn hs (fun e w' g' hg' he hne hs => ?_) (fun x sz er w' g' hg' he hx hxr hs => ?_)
  · have key := hR ⟨0, 0, ⟨none, 0, []⟩, 0⟩ w' g' hg' ⟨Pr.nil, fun e he => by cases he⟩ (by rw [he]; rfl) (fun h => by rw [he] at h; exact absurd h hne) (by decide) (fun e he => by cases he) hs
    rw [he] at key
    exact key
  · have key := hR ⟨i, n, x, sz⟩ w' g' hg' hx (by rw [he]; rfl) (fun _ => rfl) hn hxr hs
    rw [he] at key
    exact key

/-- Does a segment follow. -/
def folP (floor : Nat) (acc : List Sp) (s : Sp) : Bool := match acc with
  | [] => decide (s.first ≤ floor + 1)
  | _ :: _ => decide (s.first = nextP floor acc)
/-- Is it kept. -/
def keepP (floor : Nat) (acc : List Sp) (last : Bool) (s : Sp) (er : Int) : Bool :=
  decide (er = 0) && folP floor acc s && !(decide (s.next ≤ floor + 1) && (!last || decide (0 < s.es.length)))
def fopS (wr floor : Nat) (last : Bool) (n : Nat) (acc : List Sp) (d : Dk) : Int × List Sp × Dk :=
  if opR (d.opn wr n).1 = 7 then (7, acc, (d.opn wr n).2) else
  if keepP floor acc last (opS n (d.opn wr n).1) (opR (d.opn wr n).1) = true then (0, acc ++ [opS n (d.opn wr n).1], (d.opn wr n).2) else
  (((d.opn wr n).2.remove (nameB wr n)).1, acc, ((d.opn wr n).2.remove (nameB wr n)).2)
/-- How 'Open' goes over the segments' first numbers. -/
def fopR (wr floor : Nat) : List Nat → List Sp → Dk → Int × List Sp × Dk
  | [], acc, d => (0, acc, d)
  | n :: r, acc, d => if (fopS wr floor r.isEmpty n acc d).1 ≠ 0 then fopS wr floor r.isEmpty n acc d else fopR wr floor r (fopS wr floor r.isEmpty n acc d).2.1 (fopS wr floor r.isEmpty n acc d).2.2

set_option maxHeartbeats 6400000 in
set_option maxRecDepth 100000 in
theorem fopen_any {R : Ending → World → Prop} {W w : World} {g : Hl} {H : List HP} {db : Nat} {d : Dk} {wr fl tm : Nat} {cap : Int} {ns : List Nat} (hg : Gl g) (hwr : wr < 64) (hfl : fl ≤ 9223372036854775807) (htm : tm < 18446744073709551616) (hcap : -9223372036854775808 ≤ cap ∧ cap ≤ 9223372036854775807) (hnm : ∀ p ∈ d.fs, p.1.length ≤ 1000000) (hfs : d.fs.length ≤ 1000000000)
    (hns : d.names (beginB wr) = ns.map (nameB wr)) (hlt : ∀ n ∈ ns, n < 18446744073709551616) (hs : Sat W w g (disk db d :: H))
    (hOK : ∀ b l w' g', Hl.le g g' → (fopR wr fl ns [] d).1 = 0 → l.map Sg.sp = (fopR wr fl ns [] d).2.1 → Sat W w' g' (feed b db ⟨wr, cap, fl, tm, l, false⟩ :: disk db (fopR wr fl ns [] d).2.2 :: H) → R (.returned (.tuple #[ptr b, .int .i64 0])) w')
    (hE : ∀ w' g', Hl.le g g' → (fopR wr fl ns [] d).1 ≠ 0 → Sat W w' g' (disk db (fopR wr fl ns [] d).2.2 :: H) → R (.returned (.tuple #[.pointer none, .int .i64 (fopR wr fl ns [] d).1])) w') :
    Calls Tryz.prog 34 #[ptr db, .int .i64 wr, .int .i64 cap, .int .u64 fl, .int .u64 tm] w R := by
  have HOK := Lib.hid hOK
  have HE := Lib.hid hE
  clear hOK hE
  have ag1 := ag_sg
  have hnl : ns.length ≤ 1000000000 := by
    have h1 : (ns.map (nameB wr)).length ≤ d.fs.length := by
      rw [← hns]
      unfold Dk.names
      split
      · simp
      · have := List.length_filter_le (hasP (beginB wr)) (rising (d.fs.map Prod.fst))
        rw [(rising_perm _).length_eq, List.length_map] at this
        exact this
    rw [List.length_map] at h1
    omega
  have hbl := beginB_len (w := wr) (by omega)
  refine C.calls (args := [ptr db, .int .i64 wr, .int .i64 cap, .int .u64 fl, .int .u64 tm]) Tryz.func34 rfl rfl rfl ?_
  refine go ?_
  rw [decide_eq_false (show ¬ (64 : Int) ≤ wr by omega)]
  refine go ?_
  refine E.bx hs ?_
  intro b w1 hs
  refine go ?_
  refine E.callf Tryz.func85 rfl ?_
  refine segBegin_any (i := wr) (by omega) ?_
  refine go ?_
  refine E.callf Tryz.func42 rfl ?_
  refine names_gen (p := beginB wr) (by omega) hnm hfs hs.swap ?_
  intro k a c w2 g2 hk hg2 hpn hs
  rw [hns] at hk hpn
  rw [List.length_map] at hk
  subst hk
  have hf0 : (⟨wr, cap, fl, tm, [], false⟩ : Fe).ok g2 := ⟨hwr, hfl, htm, hcap, fun s hs => by cases hs⟩
  have hs : Sat W w2 g2 (feed b db ⟨wr, cap, fl, tm, [], false⟩ :: disk db d :: H) := feed_close (a := none) (c := 0) hf0 (Sat.swap (Sat.onil (hs.swap)))
  clear hf0
  refine gob ?_
  refine C.cut (fun _ : Unit => [(12, ptr b)]) (fun _ w => ∃ l g', Hl.le g g' ∧ (fopR wr fl ns [] d).1 = 0 ∧ l.map Sg.sp = (fopR wr fl ns [] d).2.1 ∧ Sat W w g' (feed b db ⟨wr, cap, fl, tm, l, false⟩ :: disk db (fopR wr fl ns [] d).2.2 :: H)) ?_ ?_
  · refine C.block ?_
    refine C.lp (fun q : Nat × List Sg × Dk => [(0, ptr db), (3, .int .u64 fl), (12, ptr b), (13, .slice a ns.length c), (38, .slice a ns.length c), (39, .int .i64 ns.length), (40, .int .i64 q.1)])
      (fun gk q w => gk = ns.length - q.1 ∧ q.1 ≤ ns.length ∧ fopR wr fl ns [] d = fopR wr fl (ns.drop q.1) (q.2.1.map Sg.sp) q.2.2 ∧ (∀ s ∈ q.2.1, s.size ≤ 4000000000000000000 ∧ s.x.es.length ≤ 1000000000) ∧ q.2.1.length ≤ q.1 ∧ ∃ g', Hl.le g2 g' ∧ Sat W w g' (feed b db ⟨wr, cap, fl, tm, q.2.1, false⟩ :: disk db q.2.2 :: H)) ns.length (0, [], d) ⟨rfl, Nat.zero_le _, rfl, (fun s hs => by cases hs), Nat.zero_le _, g2, Hl.le_refl _, hs⟩ ?_
    clear hs
    rintro gk ⟨i, L, d1⟩ w4 ⟨rfl, hi, hT, hsm1, hLi, g4, hg4, hs⟩
    simp only at hi hT hsm1 hLi hs ⊢
    replace hT := Lib.hid hT
    have hgg := hg2.trans hg4
    refine go ?_
    refine C.cond_dec (p := (i : Int) < ns.length) rfl (fun h => ?_) (fun h => ?_)
    rotate_left
    · obtain rfl : i = ns.length := by omega
      have hT2 := hT.out
      rw [List.drop_length] at hT2
      replace hT2 := Lib.hid hT2
      refine go ?_
      refine A.mt () ⟨L, g4, hgg, ?_, ?_, ?_⟩
      · rw [hT2.out]; rfl
      · rw [hT2.out]; rfl
      · rw [hT2.out]; exact hs
    have hil : i < ns.length := by omega
    have hdr : ns.drop i = ns[i] :: ns.drop (i + 1) := List.drop_eq_getElem_cons hil
    have hnlt := hlt ns[i] (List.getElem_mem hil)
    have hlast : (ns.drop (i + 1)).isEmpty = decide ((i : Int) = (ns.length : Int) - 1) := by
      rw [Bool.eq_iff_iff, List.isEmpty_iff, List.drop_eq_nil_iff, decide_eq_true_eq]
      omega
    have hT2 := hT.out
    rw [hdr] at hT2
    rw [fopR, hlast] at hT2
    obtain ⟨q, hq⟩ : ∃ q, q = fopS wr fl (decide ((i : Int) = (ns.length : Int) - 1)) ns[i] (L.map Sg.sp) d1 := ⟨_, rfl⟩
    rw [← hq] at hT2
    replace hT2 := Lib.hid hT2
    replace hq := Lib.hid hq
    replace hlast := Lib.hid hlast
    refine go ?_
    refine E.ix el_strs hs (hpn.mono hg4) i (v := str (nameB wr ns[i])) (by simp [hil]) ?_
    intro b5 o5 hc5
    generalize ns[i] = n at hnlt hq hc5
    refine go ?_
    have hfew := opn_few (disk_ok hs.swap) hwr hnlt
    refine E.callf Tryz.func20 rfl ?_
    refine sgOpen_one (i := wr) (n := n) (hg.mono hgg) hwr hnlt hs.swap ?_
    intro s w5 g5 hg5 hxo hsp hswr hsf hright hs
    replace hq := hq.out
    unfold fopS at hq
    rw [← hsp] at hq
    rw [← hsp] at hfew
    have hss : s.x.es.length ≤ 1000000000 := by
      have := hfew.1
      simpa [Sg.sp] using this
    have hsz : s.size ≤ 4000000000000000000 := hfew.2
    clear hfew hsp
    generalize opR (d1.opn wr n).1 = er at hq hswr ⊢
    generalize (d1.opn wr n).2 = d2 at hq hs
    replace hq := Lib.hid hq
    refine go ?_
    refine E.al hs ?_
    intro b16 w6 hs
    refine E.sto (vs := s.cs) (ys := s.cs) hs ?_ (hv := rfl) (hsp := rfl)
    intro w7 hs
    refine go ?_
    by_cases he7 : er = 7
    · have hq2 := hq.out
      rw [if_pos he7] at hq2
      have hT3 := hT2.out
      rw [hq2, if_pos (by simp)] at hT3
      refine C.cond rfl (fun _ => ?_) (fun h => by rw [decide_eq_true he7] at h; cases h)
      have key := HE.out w7 g5 (hgg.trans hg5)
      rw [hT3] at key
      clear hT3 hq2
      subst he7
      refine go ?_
      refine A.r2 ?_
      exact key (by simp) hs.drop.swap.drop
    refine C.cond rfl (fun h => by rw [decide_eq_false he7] at h; cases h) (fun _ => ?_)
    replace hq := hq.out
    rw [if_neg he7] at hq
    replace hq := Lib.hid hq
    refine go ?_
    generalize hlb : decide ((i : Int) = (ns.length : Int) - 1) = lastB at hq ⊢
    generalize hfo : folP fl (L.map Sg.sp) s.sp = fo
    have hsn := Sg.sp_next s
    refine C.cut (fun _ : Unit => [(0, ptr db), (3, .int .u64 fl), (12, ptr b), (13, .slice a ns.length c), (15, str (nameB wr n)), (16, ptr b16), (17, .int .i64 er), (18, .bool lastB), (19, .bool fo), (38, .slice a ns.length c), (39, .int .i64 ns.length), (40, .int .i64 i)]) (fun _ w => Sat W w g5 (blk b16 s.cs 29 :: feed b db ⟨wr, cap, fl, tm, L, false⟩ :: disk db d2 :: H)) ?_ ?_
    · replace hs := hs.pull2.swap
      obtain ⟨a1, c1, hok, hs⟩ := feed_open hs.swap
      cases hL : L with
      | nil =>
        subst hL
        refine C.held2 b16 b hs ?_
        intro w8 hk hs
        refine goh ?_
        cases hv : decide ((s.first : Int) ≤ (fl + 1 : Nat)) with
        | true =>
          obtain rfl : fo = true := by rw [← hfo]; have := of_decide_eq_true hv; exact decide_eq_true (show s.first ≤ fl + 1 by omega)
          refine goh ?_
          refine EH.done ?_
          exact A.mt () (feed_close hok hs).swap
        | false =>
          obtain rfl : fo = false := by rw [← hfo]; have := of_decide_eq_false hv; exact decide_eq_false (show ¬ s.first ≤ fl + 1 by omega)
          refine goh ?_
          refine EH.done ?_
          exact A.mt () (feed_close hok hs).swap
      | cons x r =>
        subst hL
        have hnx := Fe.next_sp ⟨wr, cap, fl, tm, x :: r, false⟩
        have hrl : r.length ≤ 1000000000 := by
          simp only [List.length_cons] at hLi
          omega
        replace hnx := Lib.hid hnx
        refine C.held2 b16 b hs ?_
        intro w8 hk hs
        refine goh ?_
        rw [decide_eq_false (show ¬ ((r.length : Int) + 1 = 0) by omega)]
        refine goh ?_
        rw [decide_eq_true (show (0 : Int) < (r.length : Int) + 1 by omega)]
        refine goh ?_
        refine EH.one (St.guard rfl rfl (St.callf Tryz.func40 rfl ?_))
        refine fnext_raw (f := ⟨wr, cap, fl, tm, x :: r, false⟩) hsm1 hok hs ?_
        intro w9 hs
        refine kept2 hs (fun hk => ?_) (Hl.le_refl _)
        refine goh ?_
        cases hv : decide ((s.first : Int) = (Fe.next ⟨wr, cap, fl, tm, x :: r, false⟩ : Nat)) with
        | true =>
          obtain rfl : fo = true := by
            rw [← hfo]
            have := of_decide_eq_true hv
            refine decide_eq_true (show s.first = nextP fl (List.map Sg.sp (x :: r)) from ?_)
            have := hnx.out
            simp only at this
            omega
          refine goh ?_
          refine EH.done ?_
          exact A.mt () (feed_close hok hs).swap
        | false =>
          obtain rfl : fo = false := by
            rw [← hfo]
            have := of_decide_eq_false hv
            refine decide_eq_false (show ¬ s.first = nextP fl (List.map Sg.sp (x :: r)) from ?_)
            have := hnx.out
            simp only at this
            omega
          refine goh ?_
          refine EH.done ?_
          exact A.mt () (feed_close hok hs).swap
    clear hs
    rintro _ w10 hs
    have hq1 := hq.out
    unfold keepP at hq1
    rw [hfo, hsn] at hq1
    replace hq := Lib.hid hq1
    clear hq1
    replace hfo := Lib.hid hfo
    replace hsn := Lib.hid hsn
    replace hlb := Lib.hid hlb
    apply laterE (α := Unit) (f := fun _ => [(0, ptr db), (3, .int .u64 fl), (12, ptr b), (13, .slice a ns.length c), (38, .slice a ns.length c), (39, .int .i64 ns.length), (40, .int .i64 i), (110, ptr db), (111, str (nameB wr n))]) (M := fun _ w => q = ((d2.remove (nameB wr n)).1, L.map Sg.sp, (d2.remove (nameB wr n)).2) ∧ Sat W w g5 (blk b16 s.cs 29 :: feed b db ⟨wr, cap, fl, tm, L, false⟩ :: disk db d2 :: H))
    · intro keyR
      apply later (α := Unit) (f := fun _ => [(0, ptr db), (3, .int .u64 fl), (12, ptr b), (13, .slice a ns.length c), (16, ptr b16), (38, .slice a ns.length c), (39, .int .i64 ns.length), (40, .int .i64 i)]) (M := fun _ w => q = (0, L.map Sg.sp ++ [s.sp], d2) ∧ s.wr = wr ∧ Sat W w g5 (blk b16 s.cs 29 :: feed b db ⟨wr, cap, fl, tm, L, false⟩ :: disk db d2 :: H))
      · intro keyK
        by_cases he0 : er = 0
        · have hdd : (!decide (er = 0)) = false := by simp [he0]
          have hw := hswr he0
          replace hdd := Lib.hid hdd
          replace hw := Lib.hid hw
          cases fo with
          | false =>
            have hrm : q = ((d2.remove (nameB wr n)).1, L.map Sg.sp, (d2.remove (nameB wr n)).2) := by
              rw [hq.out, if_neg (by simp)]
            replace hrm := Lib.hid hrm
            clear he0
            refine go ?_
            rw [hdd.out]
            refine go ?_
            exact E.forget wk_ (keyR () _ ⟨hrm.out, hs⟩)
          | true =>
          have hde : decide (er = 0) = true := decide_eq_true he0
          replace hde := Lib.hid hde
          clear he0
          refine go ?_
          rw [hdd.out]
          refine go ?_
          refine E.callf Tryz.func26 rfl ?_
          refine sgNext_any (s := s) hsf hss hs ?_
          intro w11 hs
          refine go ?_
          cases hA : decide (((s.next : Nat) : Int) ≤ (fl + 1 : Nat)) with
          | false =>
            have hA2 : decide (s.next ≤ fl + 1) = false := by have := of_decide_eq_false hA; exact decide_eq_false (by omega)
            have hkp : q = (0, L.map Sg.sp ++ [s.sp], d2) := by
              rw [hq.out, if_pos (by rw [hde.out, hA2]; rfl)]
            replace hkp := Lib.hid hkp
            refine go ?_
            exact C.forget wk_ (keyK () _ ⟨hkp.out, hw.out, hs⟩)
          | true =>
          have hA2 : decide (s.next ≤ fl + 1) = true := by have := of_decide_eq_true hA; exact decide_eq_true (by omega)
          replace hA2 := Lib.hid hA2
          cases lastB with
          | false =>
            have hrm : q = ((d2.remove (nameB wr n)).1, L.map Sg.sp, (d2.remove (nameB wr n)).2) := by
              rw [hq.out, if_neg (by rw [hde.out, hA2.out]; simp)]
            replace hrm := Lib.hid hrm
            refine go ?_
            exact E.forget wk_ (keyR () _ ⟨hrm.out, hs⟩)
          | true =>
          have hxv : s.x.v = .slice s.x.a s.x.es.length s.x.c := rfl
          replace hxv := Lib.hid hxv
          have hes : s.sp.es.length = s.x.es.length := by simp [Sg.sp]
          replace hes := Lib.hid hes
          refine go ?_
          cases hB : decide ((0 : Int) < s.x.es.length) with
          | true =>
            have hrm : q = ((d2.remove (nameB wr n)).1, L.map Sg.sp, (d2.remove (nameB wr n)).2) := by
              have := of_decide_eq_true hB
              have h0 : decide (0 < s.sp.es.length) = true := decide_eq_true (by rw [hes.out]; omega)
              rw [hq.out, if_neg (by rw [hde.out, hA2.out, h0]; simp)]
            replace hrm := Lib.hid hrm
            refine go ?_
            exact E.forget wk_ (keyR () _ ⟨hrm.out, hs⟩)
          | false =>
            have hkp : q = (0, L.map Sg.sp ++ [s.sp], d2) := by
              have := of_decide_eq_false hB
              have h0 : decide (0 < s.sp.es.length) = false := decide_eq_false (by rw [hes.out]; omega)
              rw [hq.out, if_pos (by rw [hde.out, hA2.out, h0]; rfl)]
            replace hkp := Lib.hid hkp
            refine go ?_
            exact C.forget wk_ (keyK () _ ⟨hkp.out, hw.out, hs⟩)
        · have hdd : (!decide (er = 0)) = true := by simp [he0]
          have hrm : q = ((d2.remove (nameB wr n)).1, L.map Sg.sp, (d2.remove (nameB wr n)).2) := by
            rw [hq.out, if_neg (by simp [he0])]
          replace hdd := Lib.hid hdd
          replace hrm := Lib.hid hrm
          refine go ?_
          rw [hdd.out]
          refine go ?_
          exact E.forget wk_ (keyR () _ ⟨hrm.out, hs⟩)
      rintro _ w12 ⟨hqk, hsw, hs⟩
      have hT3 := hT2.out
      rw [hqk] at hT3
      simp only [ne_eq, not_true_eq_false, if_false] at hT3
      replace hT3 := Lib.hid hT3
      replace hqk := Lib.hid hqk
      obtain ⟨a1, c1, hok, hs⟩ := feed_open hs.swap
      have hLl : L.length ≤ 1000000000 := by omega
      refine C.heldN hs ?_
      intro w13 hs
      have hk : Keeps g5 [(b16, s.cs, 29), (b, (⟨wr, cap, fl, tm, L, false⟩ : Fe).cs db a1 c1, 167)] w13 := Keeps.of2 hs (Hl.le_refl _)
      refine EH.tail 1024 1024 1023 10 1 (Keeps g5 [(b16, s.cs, 29), (b, (⟨wr, cap, fl, tm, L, false⟩ : Fe).cs db a1 c1, 167)]) (fun _ _ => trivial) ?_
      refine goh ?_
      refine EH.bsle el_sg hs (cs := s.cs) rfl ?_
      intro b7 w14 hs
      refine kept2 hs (fun hk => ?_)
      refine goh ?_
      refine EH.appo (k := L.length) el_sg hs.pull2 (row_of_sg hs) ?_ (h1 := sg_one _)
      intro a8 c8 w15 hs
      refine kept2 hs (fun hk => ?_)
      refine goh ?_
      refine EH.done ?_
      refine A.mid ?_
      refine EH.sto (vs := [.slice a8 (L.length + 1) c8]) (ys := (⟨wr, cap, fl, tm, L ++ [s], false⟩ : Fe).cs db a8 c8) hs ?_ (hv := rfl) (hsp := by simp only [Fe.cs, List.length_append, List.length_singleton]; rfl)
      intro w16 hs
      refine ⟨trivial, ?_⟩
      refine EH.done ?_
      refine go ?_
      refine A.rd (ns.length - (i + 1)) (i + 1, L ++ [s], d2) ⟨rfl, by simp only; omega, ?_, ?_, by simp only [List.length_append, List.length_singleton]; omega, g5, hg4.trans hg5, ?_⟩
      · rw [hT3.out]
        simp
      · intro u hu
        rcases List.mem_append.1 hu with h | h
        · exact hsm1 u h
        · rw [List.mem_singleton.1 h]
          exact ⟨hsz, hss⟩
      · refine feed_close (a := a8) (c := c8) ⟨hok.wr, hok.floor, hok.time, hok.cap, fun u hu => ?_⟩ ?_
        · rcases List.mem_append.1 hu with h | h
          · exact hok.l u h
          · rw [List.mem_singleton.1 h]
            exact ⟨hxo, hsw, hsf⟩
        · simp only [sgC_append, sgC_one, List.length_append, List.length_singleton]
          exact (hs.swap.drop.swap.pull2.drop)
    rintro _ w12 ⟨hqr, hs⟩
    have hT3 := hT2.out
    rw [hqr] at hT3
    simp only at hT3
    replace hT3 := Lib.hid hT3
    replace hqr := Lib.hid hqr
    refine E.callf Tryz.func106 rfl ?_
    refine remove_any hs.pull2 ?_
    intro w13 hs
    refine go ?_
    by_cases hz : (d2.remove (nameB wr n)).1 = 0
    · have hdd : (!decide ((d2.remove (nameB wr n)).1 = 0)) = false := by simp [hz]
      refine C.cond rfl (fun h => by rw [hdd] at h; cases h) (fun _ => ?_)
      clear hdd
      have hT4 := hT3.out
      rw [if_neg (by simp [hz])] at hT4
      replace hT4 := Lib.hid hT4
      replace hz := Lib.hid hz
      refine go ?_
      exact A.rd (ns.length - (i + 1)) (i + 1, L, (d2.remove (nameB wr n)).2) ⟨rfl, by simp only; omega, hT4.out, hsm1, by simp only; omega, g5, hg4.trans hg5, hs.swap.drop.swap⟩
    · have hdd : (!decide ((d2.remove (nameB wr n)).1 = 0)) = true := by simp [hz]
      refine C.cond rfl (fun _ => ?_) (fun h => by rw [hdd] at h; cases h)
      clear hdd
      have hT4 := hT3.out
      rw [if_pos hz] at hT4
      have key := HE.out w13 g5 (hgg.trans hg5)
      rw [hT4] at key
      replace hT4 := Lib.hid hT4
      refine go ?_
      refine A.r2 ?_
      exact key hz hs.swap.drop.swap.drop
  clear hs
  rintro _ w9 ⟨l, g9, hg9, hz, hl, hs⟩
  replace hl := Lib.hid hl
  replace hz := Lib.hid hz
  refine go ?_
  refine A.r2 ?_
  exact HOK.out b l w9 g9 hg9 hz.out hl.out hs
end Go.Proofs.YtdkbpcibmipelaaGreatDoor

/-
  Layer 9 (feed), plain: what stands on a disk that doesn't stop.
-/
namespace Go.Proofs.YtdkbpcibmipelaaGreatDoor
open Go.RowKit
set_option linter.unusedVariables false
set_option linter.unusedSimpArgs false

section
variable {β : Type}
theorem aget_put (k : List UInt8) (v : β) : ∀ (l : List (List UInt8 × β)), aget k (aput k v l) = some v
  | [] => by simp [aput, aget]
  | (a, u) :: r => by
    simp only [aput]
    split
    · rename_i h; simp [aget, h]
    · rename_i h; simp only [aget, if_neg h, aget_put k v r]
theorem aget_put_ne {k k' : List UInt8} (v : β) (h : k' ≠ k) : ∀ (l : List (List UInt8 × β)), aget k' (aput k v l) = aget k' l
  | [] => by simp [aput, aget, h]
  | (a, u) :: r => by
    simp only [aput]
    split
    · rename_i h2
      subst h2
      simp [aget, h]
    · simp only [aget, aget_put_ne v h r]
theorem aput_keys_some {k : List UInt8} {v u : β} : ∀ {l : List (List UInt8 × β)}, aget k l = some u → (aput k v l).map Prod.fst = l.map Prod.fst
  | [], h => by cases h
  | (a, w) :: r, h => by
    simp only [aget] at h
    simp only [aput]
    split
    · rfl
    · rename_i h2
      rw [if_neg h2] at h
      simp only [List.map_cons, aput_keys_some h]
theorem aget_drop_ne {k k' : List UInt8} (h : k' ≠ k) : ∀ (l : List (List UInt8 × β)), aget k' (adrop k l) = aget k' l
  | [] => rfl
  | (a, u) :: r => by
    simp only [adrop]
    split
    · rename_i h2
      subst h2
      simp [aget, h]
    · simp only [aget, aget_drop_ne h r]
theorem aget_none_iff {k : List UInt8} : ∀ {l : List (List UInt8 × β)}, aget k l = none ↔ k ∉ l.map Prod.fst
  | [] => by simp [aget]
  | (a, u) :: r => by
    simp only [aget, List.map_cons, List.mem_cons, not_or]
    split
    · rename_i h; simp [h]
    · rename_i h; simp [h, aget_none_iff (l := r)]
theorem adrop_keys {k : List UInt8} : ∀ {l : List (List UInt8 × β)}, (l.map Prod.fst).Nodup → (adrop k l).map Prod.fst = (l.map Prod.fst).filter (fun x => !decide (x = k))
  | [], _ => rfl
  | (a, u) :: r, h => by
    simp only [List.map_cons, List.nodup_cons] at h
    simp only [adrop]
    by_cases h2 : k = a
    · subst h2
      have h3 : (r.map Prod.fst).filter (fun x => !decide (x = k)) = r.map Prod.fst := List.filter_eq_self.2 (fun x hx => by
        have : x ≠ k := by rintro rfl; exact h.1 hx
        simp [this])
      simp [List.filter_cons, h3]
    · have h4 : ¬ a = k := fun e => h2 e.symm
      rw [if_neg h2]
      simp [List.filter_cons, h4, adrop_keys h.2]
end
/-- An event that is kept, as bytes. -/
def Ep.enc (p : Ep) : List UInt8 := (p.ev (.slice none 0 0)).enc
theorem enc_raw (e : Ev) : e.enc = e.raw.enc := rfl
theorem enc_ep (e : Ev) : e.ep.enc = e.enc := by
  unfold Ep.enc Ev.enc
  have hk : ((e.ep.ev (.slice none 0 0)).keyB) = e.keyB := by
    simp only [Ev.keyB, Ep.ev, Ev.ep]
    split
    · rfl
    · rfl
  have hr : ((e.ep.ev (.slice none 0 0)).restB) = e.restB := by
    simp only [Ev.restB, Ep.ev, Ev.ep]
    by_cases h1 : e.kd = 1
    · simp [h1]
    · by_cases h2 : e.kd = 2 ∨ e.kd = 3
      · simp only [h1, if_false, if_pos h2, bitsF_twice]
      · by_cases h5 : e.kd = 5
        · simp only [h5, if_true, Int.toNat_natCast]; rfl
        · simp [h1, h2, h5]
  rw [hk, hr]
  simp only [Ep.ev, Ev.ep, Int.toNat_natCast]
theorem ep_ev_ep {e : Ev} {tv : Value} : (e.ep.ev tv).ep = e.ep := by
  simp only [Ev.ep, Ep.ev, Int.toNat_natCast, Ep.mk.injEq, true_and]
  refine ⟨?_, ?_, ?_, ?_⟩
  · split <;> rfl
  · split <;> rfl
  · by_cases h : e.kd = 2 ∨ e.kd = 3
    · simp only [if_pos h, bitsF_twice]
    · simp only [if_neg h]
  · split <;> rfl
/-- What is read of an event that may be, whatever else it bears. -/
theorem decE_right {e : Ev} (h : e.right = 0) (hkd : e.kd < 256) (hn : e.num < 18446744073709551616) : decE e.enc = .ok e.ep := by
  have h1 := ep_right h
  obtain ⟨w1, w2, w3⟩ := right_zero h
  have hd := h1
  rw [← Ep.right_ev _ (.slice none 0 0)] at hd
  have key : ∀ p : Ep, p.right = 0 → p.kd < 256 → p.num < 18446744073709551616 → (p.key.length ≤ 64) → p.text.length ≤ 1048576 → p.nd ≤ 63 → decE p.enc = .ok (p.ev (.slice none 0 0)).ep := by
    intro p hp a b c d e'
    exact decE_enc (e := p.ev (.slice none 0 0)) hp a c d b (by simpa [Ep.ev] using e')
  have hb := bitsF_lt hn
  unfold Ev.right at h
  split at h
  · omega
  split at h
  · omega
  rename_i a1 a2
  rw [← enc_ep, key e.ep h1 (by simpa [Ev.ep] using hkd) ?_ ?_ ?_ ?_]
  · rw [ep_ev_ep]
  · simp only [Ev.ep]; split <;> omega
  · simp only [Ev.ep]
    split
    · omega
    · simp
  · simp only [Ev.ep]
    split
    · omega
    · simp
  · simp only [Ev.ep]
    split
    · rename_i h5; have := w3 h5; omega
    · omega

/-- Events that a segment holds. -/
def FitP (i f : Nat) : Nat → List Ep → Prop
  | _, [] => True
  | k, p :: r => (p.wr = i ∧ p.sq = (f + k) % 18446744073709551616 ∧ decE p.enc = .ok p ∧ p.enc.length ≤ 2097152) ∧ FitP i f (k + 1) r
theorem FitP.append {i f : Nat} : ∀ {k : Nat} {a b : List Ep}, FitP i f k a → FitP i f (k + a.length) b → FitP i f k (a ++ b)
  | _, [], _, _, hb => by simpa using hb
  | k, e :: r, b, ha, hb => ⟨ha.1, ha.2.append (by
      have e1 : k + 1 + r.length = k + (r.length + 1) := by omega
      rw [e1]; exact hb)⟩
theorem FitP.len {i f : Nat} : ∀ {k : Nat} {a : List Ep}, FitP i f k a → ∀ x ∈ a.map Ep.enc, x.length ≤ 2097152
  | _, [], _, x, hx => by cases hx
  | _, e :: r, h, x, hx => by
    rw [List.map_cons] at hx
    rcases List.mem_cons.1 hx with rfl | hx
    · exact h.1.2.2.2
    · exact h.2.len x hx
theorem FitP.at {i f : Nat} : ∀ {k : Nat} {a : List Ep}, FitP i f k a → ∀ j (h : j < a.length), a[j].wr = i ∧ a[j].sq = (f + (k + j)) % 18446744073709551616
  | _, e :: r, h, 0, _ => ⟨h.1.1, h.1.2.1⟩
  | k, e :: r, h, j + 1, hj => by
    have := h.2.at j (by simpa using hj)
    rw [show k + 1 + j = k + (j + 1) by omega] at this
    exact this
theorem opP_all {i f : Nat} : ∀ {ps acc : List Ep} {sz : Nat}, FitP i f acc.length ps → opE i f acc sz (ps.map Ep.enc) = (acc ++ ps, sz + (catB (ps.map Ep.enc)).length, false)
  | [], acc, sz, _ => by simp [catB, opE]
  | p :: r, acc, sz, h => by
    rw [List.map_cons]
    simp only [opE, h.1.2.2.1]
    rw [if_pos ⟨h.1.1, h.1.2.1⟩, opP_all (ps := r) (by simpa using h.2)]
    rw [catB_len1, List.append_assoc, Nat.add_assoc]
    rfl
/-- A segment's file. -/
def segP (i f : Nat) (ps : List Ep) : List UInt8 := headB ⟨115, i, f⟩ ++ catB (ps.map Ep.enc)
theorem segP_len (i f : Nat) (ps : List Ep) : (segP i f ps).length = (headB ⟨115, i, f⟩).length + (catB (ps.map Ep.enc)).length := by simp [segP]
theorem segP_snoc (i f : Nat) (ps : List Ep) (p : Ep) : segP i f (ps ++ [p]) = segP i f ps ++ wrapB p.enc := by
  simp only [segP, List.map_append, List.map_cons, List.map_nil, catB_snoc, List.append_assoc]
theorem opn_plain {d : Dk} (h : d.calm) {i f : Nat} (hi : i < 64) (hf : f < 18446744073709551616) {ps : List Ep} {s : Nat} (hes : FitP i f 0 ps) (ha : aget (nameB i f) d.fs = some ⟨segP i f ps, s⟩) :
    d.opn i f = (.ok (ps, (segP i f ps).length, 0), d) := by
  have hm := mend_whole h hi hf hes.len ha
  simp only [Dk.opn, hm]
  rw [if_pos ⟨trivial, trivial, trivial⟩, opP_all (acc := []) hes]
  simp [segP]
end Go.Proofs.YtdkbpcibmipelaaGreatDoor

/-
  SegmentStrange, plain: records that are no next events are cut off.
-/
namespace Go.Proofs.YtdkbpcibmipelaaGreatDoor
open Go.RowKit
set_option linter.unusedVariables false
set_option linter.unusedSimpArgs false

/-- A record that is not the next event. -/
def Strange (i sq : Nat) (P : List UInt8) : Prop := ∀ e, decE P = .ok e → ¬ (e.wr = i ∧ e.sq = sq)
theorem opE_stop {i f sz : Nat} {acc : List Ep} {P : List UInt8} {r : List (List UInt8)} (h : Strange i ((f + acc.length) % 18446744073709551616) P) : opE i f acc sz (P :: r) = (acc, sz, true) := by
  simp only [opE]
  split
  · rfl
  · rename_i e he
    rw [if_neg (h e he)]
theorem catB_app (a b : List (List UInt8)) : catB (a ++ b) = catB a ++ catB b := by simp [catB]
/-- The others are cut off. -/
theorem opn_strange {d : Dk} (h : d.calm) {i f : Nat} (hi : i < 64) (hf : f < 18446744073709551616) {es : List Ev} {P : List UInt8} {r : List (List UInt8)} {s : Nat} (hes : Fit i f 0 es) (hP : Strange i ((f + es.length) % 18446744073709551616) P) (hl : ∀ x ∈ P :: r, x.length ≤ 2097152) (ha : aget (nameB i f) d.fs = some ⟨headB ⟨115, i, f⟩ ++ catB (es.map Ev.enc ++ P :: r), s⟩) :
    ∃ d', d.opn i f = (.ok (es.map Ev.ep, (segB i f es).length, 0), d') ∧ d'.fs = aput (nameB i f) ⟨segB i f es, (segB i f es).length⟩ d.fs ∧ d'.room = d.room ∧ d'.calm := by
  have hm := mend_whole h hi hf (ls := es.map Ev.enc ++ P :: r) (fun x hx => by
    rcases List.mem_append.1 hx with hx | hx
    · exact hes.len x hx
    · exact hl x hx) ha
  have hop : opE i f [] (headB ⟨115, i, f⟩).length (es.map Ev.enc ++ P :: r) = (es.map Ev.ep, (segB i f es).length, true) := by
    rw [opE_fit (P :: r) hes, List.nil_append, opE_stop (by rw [List.length_map]; exact hP), segB_len]
  have hle : (segB i f es).length ≤ (headB ⟨115, i, f⟩ ++ catB (es.map Ev.enc ++ P :: r)).length := by
    rw [segB_len, catB_app]; simp only [List.length_append]; omega
  obtain ⟨d', c1, c2, c3, c4⟩ := h.cut ha hle
  have htk : (headB ⟨115, i, f⟩ ++ catB (es.map Ev.enc ++ P :: r)).take (segB i f es).length = segB i f es := by
    rw [catB_app, ← List.append_assoc]
    exact List.take_left
  rw [htk] at c2
  refine ⟨d', ?_, c2, c3, c4⟩
  simp only [Dk.opn, hm]
  rw [if_pos ⟨trivial, trivial, trivial⟩, hop]
  simp only [if_true]
  rw [c1]
theorem rdEv_more {e : Ev} (h1 : e.wr.toNat ≤ 63) (h2 : e.sq < 18446744073709551616) (h3 : e.tm < 18446744073709551616) (h4 : e.kd < 256) (h5 : e.key.length ≤ 64) (h6 : e.text.length ≤ 1048576) (h7 : e.num < 18446744073709551616) (h8 : e.nd.toNat ≤ 63) (x : UInt8) : rdEv (e.enc ++ [x]) = .error 4 := by
  have q1 := rdNum_lay 63 e.wr.toNat (by omega) h1 (layN e.sq ++ layN e.tm ++ [UInt8.ofNat e.kd] ++ e.keyB ++ e.restB ++ [x])
  have q2 := rdNum_lay 18446744073709551615 e.sq h2 (by omega) (layN e.tm ++ [UInt8.ofNat e.kd] ++ e.keyB ++ e.restB ++ [x])
  have q3 := rdNum_lay 18446744073709551615 e.tm h3 (by omega) ([UInt8.ofNat e.kd] ++ e.keyB ++ e.restB ++ [x])
  simp only [List.append_assoc, List.cons_append, List.nil_append] at q1 q2 q3
  have hk : (UInt8.ofNat e.kd).toNat = e.kd := by simp; omega
  have q4 : rdKey e.kd (e.keyB ++ (e.restB ++ [x])) = .ok (if 1 ≤ e.kd ∧ e.kd ≤ 4 then e.key else [], e.restB ++ [x]) := by
    unfold rdKey Ev.keyB
    split
    · exact rdText_text 64 e.key h5 (by decide) _
    · simp
  have q5 : rdRest e.kd (e.restB ++ [x]) = .ok ((if e.kd = 1 then e.text else [], if e.kd = 2 ∨ e.kd = 3 then bitsF e.num else 0, if e.kd = 5 then e.nd.toNat else 0), [x]) := by
    unfold rdRest Ev.restB
    by_cases k1 : e.kd = 1
    · have := rdText_text 1048576 e.text h6 (by decide) [x]
      simp [k1, this]
    · by_cases k2 : e.kd = 2 ∨ e.kd = 3
      · have := rdFix_fixB (bitsF_lt h7) [x]
        have k5 : e.kd ≠ 5 := by omega
        simp [k1, k2, k5, this, bitsF_twice]
      · by_cases k5 : e.kd = 5
        · have := rdNum_lay 63 e.nd.toNat (by omega) h8 [x]
          simp [k5, this]
        · simp [k1, k2, k5]
  unfold rdEv Ev.enc
  simp only [List.append_assoc, q1, q2, q3, List.cons_append, List.nil_append, rdByte, hk, q4, q5]
  rw [if_neg (by simp)]
/-- The law's strange records. -/
theorem strange_more {K T i sq tm : Nat} {tv : Value} {j n : Nat} (hi : i < 64) (h2 : sq < 18446744073709551616) (h4 : tm < 18446744073709551616) : Strange j n ((evP K T i sq tm tv).enc ++ [0]) := by
  have hl : (evP K T i sq tm tv).text.length ≤ 30 := by
    simp only [evP]; split
    · simp; omega
    · simp
  intro e he
  have := rdEv_more (e := evP K T i sq tm tv) (by simp only [evP]; omega) h2 h4 (by simp only [evP]; omega) (by simp [evP]) (by omega) (by simp [evP]) (by simp [evP]) 0
  simp only [decE, this] at he
  cases he
theorem strange_evP {K T i sq tm : Nat} {tv : Value} {j n : Nat} (hi : i < 64) (h1 : 1 ≤ sq) (h2 : sq ≤ 9223372036854775807) (h3 : 1 ≤ tm) (h4 : tm ≤ 9223372036854775807) (h : i ≠ j ∨ sq ≠ n) : Strange j n (evP K T i sq tm tv).enc := by
  intro e he
  rw [evP_dec hi h1 h2 h3 h4] at he
  cases he
  simp only [Ev.ep, evP]
  omega
/-- A file of another title. -/
theorem opn_title {d : Dk} (h : d.calm) {i f i' f' : Nat} (hi : i < 64) (hf : f < 18446744073709551616) {ls : List (List UInt8)} {s : Nat} (hl : ∀ x ∈ ls, x.length ≤ 2097152) (hne : f ≠ f') (ha : aget (nameB i' f') d.fs = some ⟨headB ⟨115, i, f⟩ ++ catB ls, s⟩) : d.opn i' f' = (.error 4, d) := by
  have hto : Ti.ok ⟨115, i, f⟩ := ⟨by simp only; omega, hf⟩
  have hrd : d.read (nameB i' f') = .ok (headB ⟨115, i, f⟩ ++ catB ls) := h.read ha
  have hsc := scanB_lay ⟨115, i, f⟩ hto ls hl []
  rw [List.append_nil, allC_nil] at hsc
  simp only [List.append_nil, Nat.add_zero] at hsc
  have hm : d.mend (nameB i' f') = (.ok ⟨⟨115, i, f⟩, ls, (headB ⟨115, i, f⟩ ++ catB ls).length, 0⟩, d) := by
    simp only [Dk.mend, Dk.sheet, hrd, hsc, List.length_append, if_true]
  simp only [Dk.opn, hm]
  rw [if_neg (by omega)]
/-- No file. -/
theorem opn_none {d : Dk} (h : d.calm) {i f : Nat} (ha : aget (nameB i f) d.fs = none) : d.opn i f = (.error 2, d) := by
  have hrd := h.read_none ha
  have hm : d.mend (nameB i f) = (.error 2, d) := by simp only [Dk.mend, Dk.sheet, hrd]
  simp only [Dk.opn, hm]
theorem fileP_seg (ps : List (Nat × Nat)) (i f n : Nat) : fileP ps i f n = segB i f (evL ps i f n) := rfl
/-- What the law's file comes to. -/
theorem strange_all {ps : List (Nat × Nat)} {n : Nat} {d : Dk} {P E : List UInt8} (hn : n ≤ 10) (hc : d.calm) (hr : d.room = 65536) (hfs : ∃ q, d.fs = [(nameB 5 3, ⟨fileP ps 5 3 n, q⟩)]) (hP : Strange 5 (3 + n) P) (hPl : P.length ≤ 200) (hEl : E.length ≤ 200) :
    ∃ d3, ((d.add (nameB 5 3) P).2.add (nameB 5 3) E).2.opn 5 3 = (.ok ((evL ps 5 3 n).map Ev.ep, (fileP ps 5 3 n).length, 0), d3) ∧ d3.calm ∧ d3.room = 65536 ∧ d3.fs = [(nameB 5 3, ⟨fileP ps 5 3 n, (fileP ps 5 3 n).length⟩)] := by
  obtain ⟨q, hq⟩ := hfs
  have hfl := fileP_len (ps := ps) (i := 5) (f := 3) (by decide) (by decide) n (by omega)
  have hw1 := wrapB_len P (by omega)
  have hw2 := wrapB_len E (by omega)
  have hnm : namedB (nameB 5 3) = true := nameB_named (by decide) (by decide)
  obtain ⟨d1, a1, a2, a3, a4⟩ := add_calm8 hc (name := nameB 5 3) (p := P) (by omega) hnm (by rw [hq, hr]; simp only [tk, List.map_cons, List.map_nil, List.sum_cons, List.sum_nil]; omega)
  have a5 : d1.fs = [(nameB 5 3, ⟨fileP ps 5 3 n ++ wrapB P, q⟩)] := by rw [a2, hq]; simp [put, aget, aput]
  obtain ⟨d2, b1, b2, b3, b4⟩ := add_calm8 a4 (name := nameB 5 3) (p := E) (by omega) hnm (by rw [a5, a3, hr]; simp only [tk, List.map_cons, List.map_nil, List.sum_cons, List.sum_nil, List.length_append]; omega)
  have b5 : d2.fs = [(nameB 5 3, ⟨headB ⟨115, 5, 3⟩ ++ catB ((evL ps 5 3 n).map Ev.enc ++ P :: [E]), q⟩)] := by
    rw [b2, a5]
    have e1 : headB ⟨115, 5, 3⟩ ++ catB ((evL ps 5 3 n).map Ev.enc ++ P :: [E]) = fileP ps 5 3 n ++ wrapB P ++ wrapB E := by
      rw [catB_app, fileP_seg, segB]
      simp [catB]
    rw [e1]
    simp [put, aget, aput]
  obtain ⟨d3, c1, c2, c3, c4⟩ := opn_strange b4 (i := 5) (f := 3) (es := evL ps 5 3 n) (P := P) (r := [E]) (s := q) (by decide) (by decide) (evL_fit (by decide) (by decide) (by decide) n (by omega)) (by rw [evL_len, Nat.mod_eq_of_lt (by omega)]; exact hP) (fun x hx => by
    rcases List.mem_cons.1 hx with rfl | hx
    · omega
    · rw [List.mem_singleton.1 hx]; omega) (by rw [b5]; simp [aget])
  refine ⟨d3, by rw [a1, b1]; exact c1, c4, c3.trans (b3.trans (a3.trans hr)), ?_⟩
  rw [c2, b5]
  simp [aput, fileP_seg]
/-- It is moved. -/
theorem strange_moved {ps : List (Nat × Nat)} {n : Nat} {d : Dk} (hn : n ≤ 10) (hc : d.calm) (hr : d.room = 65536) (hfs : d.fs = [(nameB 5 3, ⟨fileP ps 5 3 n, (fileP ps 5 3 n).length⟩)]) :
    ∃ d4, d.move (nameB 5 3) (nameB 5 4) = (0, d4) ∧ d4.opn 5 4 = (.error 4, d4) ∧ d4.calm ∧ d4.room = 65536 ∧ d4.fs = [(nameB 5 4, ⟨fileP ps 5 3 n, (fileP ps 5 3 n).length⟩)] := by
  obtain ⟨d4, a1, a2, a3, a4⟩ := hc.move (src := nameB 5 3) (dst := nameB 5 4) (f := ⟨fileP ps 5 3 n, (fileP ps 5 3 n).length⟩) (nameB_named (by decide) (by decide)) (by rw [hfs]; simp [aget])
  have a5 : d4.fs = [(nameB 5 4, ⟨fileP ps 5 3 n, (fileP ps 5 3 n).length⟩)] := by
    rw [a2, hfs]; simp [adrop, aput]
  refine ⟨d4, a1, ?_, a4, a3.trans hr, a5⟩
  exact opn_title a4 (i := 5) (f := 3) (ls := (evL ps 5 3 n).map Ev.enc) (s := (fileP ps 5 3 n).length) (by decide) (by decide) (evL_fit (by decide) (by decide) (by decide) n (by omega)).len (by decide) (by rw [a5]; simp [aget, fileP_seg, segB])
/-- Another file beside it. -/
theorem strange_beside {ps : List (Nat × Nat)} {n : Nat} {d : Dk} {p : List UInt8} (hn : n ≤ 10) (hp : p.length ≤ 100) (hc : d.calm) (hr : d.room = 65536) (hfs : d.fs = [(nameB 5 4, ⟨fileP ps 5 3 n, (fileP ps 5 3 n).length⟩)]) :
    (d.append [102, 101, 101, 100, 45, 120] p).2.opn 9 9 = (.error 2, (d.append [102, 101, 101, 100, 45, 120] p).2) := by
  have hfl := fileP_len (ps := ps) (i := 5) (f := 3) (by decide) (by decide) n (by omega)
  obtain ⟨d5, a1, a2, a3, a4⟩ := hc.append (name := [102, 101, 101, 100, 45, 120]) (p := p) (by decide +kernel) (by rw [hfs, hr]; simp only [tk, List.map_cons, List.map_nil, List.sum_cons, List.sum_nil]; omega)
  rw [a1]
  refine opn_none a4 ?_
  have n1 : nameB 9 9 ≠ nameB 5 4 := by decide +kernel
  have n2 : nameB 9 9 ≠ [102, 101, 101, 100, 45, 120] := by decide +kernel
  have n3 : nameB 5 4 ≠ [102, 101, 101, 100, 45, 120] := by decide +kernel
  rw [a2, hfs]
  unfold put
  rw [aget_put_ne _ n2]
  simp [aget, n1]
end Go.Proofs.YtdkbpcibmipelaaGreatDoor

/-
  A name that is no segment's: it isn't opened. The reference's Right for any writer.
-/
namespace Go.Proofs.YtdkbpcibmipelaaGreatDoor
open Go.RowKit
set_option linter.unusedVariables false
set_option linter.unusedSimpArgs false

set_option maxHeartbeats 3200000 in
set_option maxRecDepth 100000 in
theorem split_x {R : Ending → World → Prop} {W w : World} {g : Hl} {H : List HP} (hg : GlE g) (hs : Sat W w g H)
    (hR : ∀ w' g', Hl.le g g' → Sat W w' g' H → R (.returned (.tuple #[.int .i64 0, .int .u64 0, .bool false])) w') : Calls Tryz.prog 89 #[str [102, 101, 101, 100, 45, 120]] w R := by
  have HR := Lib.hid hR
  clear hR
  have hne : ([102, 101, 101, 100, 45, 120] : List UInt8) = ([102, 101, 101, 100, 45] : List UInt8) ++ [120] := rfl
  rw [hne]
  refine C.calls (args := [str (([102, 101, 101, 100, 45] : List UInt8) ++ [120])]) Tryz.func89 rfl rfl rfl ?_
  refine go ?_
  refine E.callf Tryz.func162 rfl ?_
  refine cutPrefix_has (p := [102, 101, 101, 100, 45]) (r := [120]) (by decide) ?_
  refine go ?_
  refine E.callf Tryz.func163 rfl ?_
  refine cut1_any (s := [120]) (c := 45) (by decide) hs ?_ ?_
  · intro k hk
    have : ixB 45 [120] = -1 := by decide +kernel
    omega
  · intro hk w2 hs
    refine go ?_
    refine E.callf Tryz.func164 rfl ?_
    refine atoi_x hg hs ?_
    intro t p w3 hs
    refine go ?_
    refine E.callf Tryz.func165 rfl ?_
    refine parseUint_nil hg hs ?_
    intro t2 p2 w4 hs
    refine go ?_
    refine A.r3 ?_
    exact HR.out _ g (Hl.le_refl _) hs
set_option maxHeartbeats 1600000 in
set_option maxRecDepth 100000 in
theorem segOpen_x {R : Ending → World → Prop} {W w : World} {g : Hl} {H : List HP} {b : Nat} (hg : GlE g) (hs : Sat W w g H)
    (hR : ∀ w' g', Hl.le g g' → Sat W w' g' H → R (.returned (.tuple #[noSg, .int .i64 1])) w') : Calls Tryz.prog 20 #[ptr b, str [102, 101, 101, 100, 45, 120]] w R := by
  have HR := Lib.hid hR
  clear hR
  have ag1 := ag_sg
  refine C.calls (args := [ptr b, str [102, 101, 101, 100, 45, 120]]) Tryz.func20 rfl rfl rfl ?_
  refine go ?_
  refine E.al hs ?_
  intro b4 w1 hs
  refine go ?_
  refine E.callf Tryz.func89 rfl ?_
  refine split_x hg hs ?_
  intro w2 g2 hg2 hs
  refine go ?_
  refine E.sto hs ?_
  intro w3 hs
  refine go ?_
  refine A.c1t1 rfl rfl rfl (run_lda hs ag_sg) ?_
  exact HR.out _ g2 hg2 hs.drop
set_option maxHeartbeats 1600000 in
set_option maxRecDepth 100000 in
theorem rright_wr {R : Ending → World → Prop} {W w : World} {g : Hl} {H : List HP} {e : Ev} (h1 : 0 ≤ e.wr ∧ e.wr ≤ 63) (h2 : 1 ≤ e.kd ∧ e.kd ≤ 4) (h3 : e.nd = 0) (h4 : 1 ≤ e.sq ∧ e.sq ≤ 9223372036854775807) (h5 : 1 ≤ e.tm ∧ e.tm ≤ 9223372036854775807) (h6 : e.key.length ≤ 64) (h7 : e.text.length ≤ 1000) (h8 : 1 ≤ e.key.length) (ho : e.ok g) (hs : Sat W w g H)
    (hR : ∀ w', Sat W w' g H → R (.returned (.int .i64 0)) w') : Calls Tryz.prog 29 #[e.val] w R := by
  have HR := Lib.hid hR
  clear hR
  obtain ⟨a, c, etv, hnc, _⟩ := ho.tv.len
  clear ho
  obtain ⟨wr, sq, tm, kd, key, text, num, nd, tv⟩ := e
  simp only at h1 h2 h3 h4 h5 h6 h7 h8 etv
  subst etv h3
  simp only [Ev.val, Ev.cs]
  have d1 : decide (wr < 0) = false := decide_eq_false (by omega)
  have d2 : decide (63 < wr) = false := decide_eq_false (by omega)
  have d3 : decide ((sq : Int) = 0) = false := decide_eq_false (by omega)
  have d4 : decide ((tm : Int) = 0) = false := decide_eq_false (by omega)
  have d5 : decide ((kd : Int) < 1) = false := decide_eq_false (by omega)
  have d6 : decide (6 < (kd : Int)) = false := decide_eq_false (by omega)
  have d7 : decide ((kd : Int) = 5) = false := decide_eq_false (by omega)
  refine C.calls (args := [.agg #[.int .i64 wr, .int .u64 sq, .int .u64 tm, .int .u8 kd, .string ⟨key.toArray⟩, .slice a text.length c, .float .f64 num, .int .i64 0]]) Tryz.func29 rfl rfl rfl ?_
  refine go ?_
  refine E.bx hs ?_
  intro b1 w1 hs
  refine go ?_
  rw [d1]
  refine go ?_
  rw [d2]
  refine go ?_
  rw [d3]
  refine go ?_
  rw [d4]
  refine go ?_
  rw [d5]
  refine go ?_
  rw [d6]
  refine go ?_
  rw [d7]
  refine go ?_
  rw [show decide ((kd : Int) ≤ 4) = true from decide_eq_true (by omega)]
  refine go ?_
  rw [show decide ((key.length : Int) = 0) = false from decide_eq_false (by omega)]
  refine go ?_
  rw [show decide (64 < (key.length : Int)) = false from decide_eq_false (by omega)]
  refine go ?_
  cases hk : decide ((kd : Int) = 1) with
  | true =>
    refine go ?_
    rw [show decide (1048576 < (text.length : Int)) = false from decide_eq_false (by omega)]
    refine go ?_
    rw [show decide (9223372036854775808 ≤ (sq : Int)) = false from decide_eq_false (by omega)]
    refine go ?_
    rw [show decide (9223372036854775808 ≤ (tm : Int)) = false from decide_eq_false (by omega)]
    refine go ?_
    refine A.r1 ?_
    exact HR.out _ hs.drop
  | false =>
    refine go ?_
    rw [show decide (9223372036854775808 ≤ (sq : Int)) = false from decide_eq_false (by omega)]
    refine go ?_
    rw [show decide (9223372036854775808 ≤ (tm : Int)) = false from decide_eq_false (by omega)]
    refine go ?_
    refine A.r1 ?_
    exact HR.out _ hs.drop
end Go.Proofs.YtdkbpcibmipelaaGreatDoor

/-
  SegmentStrange, walked.
-/
namespace Go.Proofs.YtdkbpcibmipelaaGreatDoor
open Go.RowKit
set_option linter.unusedVariables false
set_option linter.unusedSimpArgs false

set_option maxHeartbeats 6400000 in
set_option maxRecDepth 100000 in
theorem segStrange_any {R : Ending → World → Prop} {W w : World} {g : Hl} {H : List HP} {hw n c m cm : Nat} {a ap : Option Addr} {ps : List (Nat × Nat)} {bl : List UInt8} (hg0 : GlE g) (hhw : hw < 256) (hp : Pr 2 g (.slice a n c) n (putC ps)) (hn : ps.length = n) (hps : ∀ p ∈ ps, p.1 < 256 ∧ p.2 < 256) (hbp : Pr 1 g (.slice ap m cm) m (bs bl)) (hbn : bl.length = m) (hs : Sat W w g H)
    (hR : ∀ w' g', Hl.le g g' → Sat W w' g' H → R (.returned (.bool true)) w') :
    Calls Tryz.prog 5 #[.slice a n c, .int .u8 hw, .slice ap m cm] w R := by
  have HR := Lib.hid hR
  clear hR
  have hg := hg0.gl
  have ag1 := ag_sg
  have ag2 := ag_put
  have ag4 := ag_ev
  refine C.calls (args := [.slice a n c, .int .u8 hw, .slice ap m cm]) Tryz.func5 rfl rfl rfl ?_
  refine go ?_
  refine E.callf Tryz.func15 rfl ?_
  refine awake8_any hg hs ?_
  intro w1 hs
  refine go ?_
  cases h10 : decide ((10 : Int) < n) with
  | true =>
    refine go ?_
    refine E.callf Tryz.func15 rfl ?_
    refine awake8_any hg hs ?_
    intro w2 hs
    refine go ?_
    refine A.r1 ?_
    exact HR.out _ _ (Hl.le_refl _) hs
  | false =>
  have h10' := of_decide_eq_false h10
  clear h10
  refine go ?_
  cases h100 : decide ((100 : Int) < m) with
  | true =>
    refine go ?_
    refine E.callf Tryz.func15 rfl ?_
    refine awake8_any hg hs ?_
    intro w2 hs
    refine go ?_
    refine A.r1 ?_
    exact HR.out _ _ (Hl.le_refl _) hs
  | false =>
  have h100' := of_decide_eq_false h100
  clear h100
  refine go ?_
  refine E.callf Tryz.func16 rfl ?_
  refine new_any (by omega) hs ?_
  intro db w2 hs
  refine go ?_
  refine E.callf Tryz.func17 rfl ?_
  refine fill8_any (i := 5) (f := 3) hg (by decide) (by decide) (by decide) hp hn (by omega) hps ⟨rfl, by simp⟩ rfl rfl hs ?_
  intro s d w3 g3 hg3 hfull hs
  refine go ?_
  refine E.al hs ?_
  intro b8 w4 hs
  refine E.sto (vs := s.cs) (ys := s.cs) hs ?_ (hv := rfl) (hsp := rfl)
  intro w5 hs
  refine go ?_
  refine E.callf Tryz.func18 rfl ?_
  refine segName_any (i := 5) (n := 3) (hg.mono hg3) (by decide) (by decide) hs ?_
  intro w6 hs
  have hsxl := hfull.len
  have hsf := hfull.first
  have hnx : s.next = 3 + n := by
    unfold Sg.next
    rw [hsf, hsxl]; omega
  refine go ?_
  refine E.callf Tryz.func26 rfl ?_
  refine sgNext_any (s := s) (by omega) (by omega) hs ?_
  intro w7 hs
  rw [hnx]
  refine go ?_
  refine E.callf Tryz.func24 rfl ?_
  refine event8_any (K := 0) (T := 0) (i := 5) (sq := 3 + n) (tm := 50) (by decide) (by decide) (by decide) (by omega) (by decide) hs ?_
  intro tv w8 g8 hg8 heo hs
  refine go ?_
  refine E.al hs ?_
  intro b11 w9 hs
  refine E.sto (vs := (evP 0 0 5 (3 + n) 50 tv).cs) (ys := (evP 0 0 5 (3 + n) 50 tv).cs) hs ?_ (hv := rfl) (hsp := rfl) (h1 := Ev.cs_one heo)
  intro w10 hs
  refine gob ?_
  rw [show (hw : Int).tmod 4 = ((hw % 4 : Nat) : Int) from (Int.ofNat_tmod hw 4).symm]
  have hk4 : hw % 4 < 4 := Nat.mod_lt _ (by decide)
  generalize hkw : hw % 4 = k at hk4
  have hkw' := Lib.hid hkw
  clear hkw
  have htm4 : (hw : Int).tmod 4 = (k : Int) := by
    rw [show (hw : Int).tmod 4 = ((hw % 4 : Nat) : Int) from (Int.ofNat_tmod hw 4).symm, hkw'.out]
  replace htm4 := Lib.hid htm4
  have hgg := hg3.trans hg8
  have hel := evP_len (K := 0) (T := 0) (i := 5) (sq := 3 + n) (tm := 60) (tv := .slice none 0 0) (by decide) (by omega) (by decide)
  apply laterE (α := List UInt8 × Hl) (f := fun _ => [(2, .slice ap m cm), (7, ptr db), (8, ptr b8), (10, str (nameB 5 3)), (84, ptr db), (85, str (nameB 5 3)), (86, .agg #[.int .u8 0, .int .u8 0]), (87, s.val)]) (M := fun q w => (Strange 5 (3 + n) q.1 ∧ q.1.length ≤ 200 ∧ Hl.le g8 q.2) ∧ Sat W w q.2 (disk db (d.add (nameB 5 3) q.1).2 :: blk b8 s.cs 29 :: H))
  · intro ky
    by_cases k3 : k = 3
    · subst k3
      refine go ?_
      refine E.callf Tryz.func29 rfl ?_
      refine rright_wr (e := evP 0 0 5 (3 + n) 50 tv) (by simp [evP]) (by simp [evP]) rfl (by simp only [evP]; omega) (by simp [evP]) (by simp [evP]) (by simp [evP]) (by simp [evP]) heo hs ?_
      intro w11 hs
      refine go ?_
      refine E.callf Tryz.func23 rfl ?_
      refine rencode_any heo (by simp [evP]) (by simp only [evP]; omega) (fun h => by simp only [evP] at h; omega) hs ?_
      intro a12 c12 w12 g12 hg12 hs
      refine go ?_
      refine E.bsl hs ?_
      intro b13 w13 hs
      have hel5 := evP_len (K := 0) (T := 0) (i := 5) (sq := 3 + n) (tm := 50) (tv := tv) (by decide) (by omega) (by decide)
      refine E.app el_u8 hs.swap (hs.rowOf (size := 1) 1 rfl (by decide)) ?_
      intro a14 c14 w14 _ _ hs
      obtain ⟨g14, hg14, hp14, hs⟩ := hs.publishOwn
      have e4 : bs (evP 0 0 5 (3 + n) 50 tv).enc ++ [.int .u8 0] = bs ((evP 0 0 5 (3 + n) 50 tv).enc ++ [0]) := by simp [bs]
      rw [e4] at hp14
      refine go ?_
      refine E.callf Tryz.func30 rfl ?_
      refine add_any (p := (evP 0 0 5 (3 + n) 50 tv).enc ++ [0]) hs.pull3 hp14 (by simp) ?_
      intro w15 g15 hg15 hs
      refine go ?_
      rw [htm4.out]
      refine go ?_
      exact E.forget wk_ (ky ((evP 0 0 5 (3 + n) 50 tv).enc ++ [0], g15) _ ⟨⟨strange_more (by decide) (by omega) (by decide), by rw [List.length_append]; simp only [List.length_singleton]; omega, hg12.trans (hg14.trans hg15)⟩, hs.swap.drop.swap.drop⟩)
    apply laterE (α := Nat × Nat) (f := fun q => [(2, .slice ap m cm), (7, ptr db), (8, ptr b8), (10, str (nameB 5 3)), (79, ptr db), (80, str (nameB 5 3)), (81, (evP 0 0 q.1 q.2 50 tv).val)]) (M := fun q w => (q.1 < 64 ∧ 1 ≤ q.2 ∧ q.2 ≤ 100 ∧ (q.1 ≠ 5 ∨ q.2 ≠ 3 + n)) ∧ Sat W w g8 (blk b11 (evP 0 0 q.1 q.2 50 tv).cs 46 :: blk b8 s.cs 29 :: disk db d :: H))
    · intro ky2
      by_cases k0 : k = 0
      · subst k0
        refine go ?_
        refine E.sto (vs := [.int .i64 6]) (ys := (evP 0 0 6 (3 + n) 50 tv).cs) hs ?_ (hv := rfl) (hsp := rfl)
        intro w11 hs
        refine go ?_
        first | rw [hkw'.out] | rw [htm4.out]
        refine go ?_
        exact E.forget wk_ (ky2 (6, 3 + n) _ ⟨⟨by simp only; omega, by simp only; omega, by simp only; omega, .inl (by simp only; omega)⟩, hs⟩)
      by_cases k1 : k = 1
      · subst k1
        refine go ?_
        have e1 : IntKind.u64.wrap (((evP 0 0 5 (3 + n) 50 tv).sq : Nat) + 1 : Int) = ((3 + n + 1 : Nat) : Int) := by
          rw [wrapu64_id (by simp only [evP]; omega) (by simp only [evP]; omega)]
          simp only [evP]; omega
        rw [e1]
        clear e1
        refine E.sto (vs := [.int .u64 (3 + n + 1 : Nat)]) (ys := (evP 0 0 5 (3 + n + 1) 50 tv).cs) hs ?_ (hv := rfl) (hsp := rfl)
        intro w11 hs
        refine go ?_
        first | rw [hkw'.out] | rw [htm4.out]
        refine go ?_
        exact E.forget wk_ (ky2 (5, 3 + n + 1) _ ⟨⟨by simp only; omega, by simp only; omega, by simp only; omega, .inr (by simp only; omega)⟩, hs⟩)
      · obtain rfl : k = 2 := by omega
        refine go ?_
        have e1 : IntKind.u64.wrap (((evP 0 0 5 (3 + n) 50 tv).sq : Nat) - 1 : Int) = ((2 + n : Nat) : Int) := by
          rw [wrapu64_id (by simp only [evP]; omega) (by simp only [evP]; omega)]
          simp only [evP]; omega
        rw [e1]
        clear e1
        refine E.sto (vs := [.int .u64 (2 + n : Nat)]) (ys := (evP 0 0 5 (2 + n) 50 tv).cs) hs ?_ (hv := rfl) (hsp := rfl)
        intro w11 hs
        refine go ?_
        first | rw [hkw'.out] | rw [htm4.out]
        refine go ?_
        exact E.forget wk_ (ky2 (5, 2 + n) _ ⟨⟨by simp only; omega, by simp only; omega, by simp only; omega, .inr (by simp only; omega)⟩, hs⟩)
    clear hs
    rintro ⟨i', sq'⟩ w11 ⟨⟨x1, x2, x3, x4⟩, hs⟩
    simp only at x1 x2 x3 x4 hs
    have hev : (evP 0 0 i' sq' 50 tv).ok g8 := { heo with wr := by simp only [evP]; omega, sq := by simp only [evP]; omega }
    have hel5 := evP_len (K := 0) (T := 0) (i := i') (sq := sq') (tm := 50) (tv := tv) x1 (by omega) (by decide)
    refine E.callf Tryz.func23 rfl ?_
    refine rencode_any hev (by simp [evP]) (by simp only [evP]; omega) (fun h => by simp only [evP] at h; omega) hs ?_
    intro a12 c12 w12 g12 hg12 hs
    obtain ⟨g14, hg14, hp14, hs⟩ := hs.publishOwn
    refine go ?_
    refine E.callf Tryz.func30 rfl ?_
    refine add_any (p := (evP 0 0 i' sq' 50 tv).enc) hs.pull2 hp14 rfl ?_
    intro w15 g15 hg15 hs
    refine go ?_
    exact E.forget wk_ (ky ((evP 0 0 i' sq' 50 tv).enc, g15) _ ⟨⟨strange_evP x1 x2 (by omega) (by decide) (by decide) x4, by simp only; omega, hg12.trans (hg14.trans hg15)⟩, hs.swap.drop⟩)
  clear hs
  rintro ⟨P, g9⟩ w11 ⟨⟨hst, hPl, hg9⟩, hs⟩
  simp only at hst hPl hg9 hs
  refine E.callf Tryz.func26 rfl ?_
  refine sgNext_any (s := s) (by omega) (by omega) hs ?_
  intro w12 hs
  rw [hnx]
  refine go ?_
  refine E.callf Tryz.func24 rfl ?_
  refine event8_any (K := 0) (T := 0) (i := 5) (sq := 3 + n) (tm := 60) (by decide) (by decide) (by decide) (by omega) (by decide) hs ?_
  intro tv2 w13 g13 hg13 heo2 hs
  refine go ?_
  refine E.callf Tryz.func23 rfl ?_
  refine rencode_any heo2 (by simp [evP]) (by simp only [evP]; omega) (fun h => by simp only [evP] at h; omega) hs ?_
  intro a14 c14 w14 g14 hg14 hs
  obtain ⟨g15, hg15, hp15, hs⟩ := hs.publishOwn
  refine go ?_
  have hel2 := evP_len (K := 0) (T := 0) (i := 5) (sq := 3 + n) (tm := 60) (tv := tv2) (by decide) (by omega) (by decide)
  refine E.callf Tryz.func30 rfl ?_
  refine add_any hs hp15 rfl ?_
  intro w15 g16 hg16 hs
  obtain ⟨d3, s1, s2, s3, s4⟩ := strange_all (ps := ps) (n := n) (d := d) (P := P) (E := (evP 0 0 5 (3 + n) 60 tv2).enc) (by omega) hfull.calm hfull.room hfull.fs hst hPl (by omega)
  generalize ((d.add (nameB 5 3) P).2.add (nameB 5 3) (evP 0 0 5 (3 + n) 60 tv2).enc) = dd at hs s1 ⊢
  obtain ⟨dr, d2⟩ := dd
  simp only at hs s1 ⊢
  refine go ?_
  have hgo := hg.mono (hgg.trans (hg9.trans (hg13.trans (hg14.trans (hg15.trans hg16)))))
  refine E.callf Tryz.func20 rfl ?_
  refine sgOpen_all (i := 5) (n := 3) hgo (by decide) (by decide) hs ?_ ?_
  · intro e w9 g9 _ h
    rw [s1] at h; cases h
  intro x sz er w17 g17 hg17 hox hxo hxr hs
  rw [s1] at hox hs
  simp only [Except.ok.injEq, Prod.mk.injEq] at hox
  obtain ⟨hox1, rfl, rfl⟩ := hox
  clear s1
  refine go ?_
  have hsg : (⟨5, 3, x, (fileP ps 5 3 n).length⟩ : Sg).val = .agg (Sg.cs ⟨5, 3, x, (fileP ps 5 3 n).length⟩).toArray := rfl
  refine E.al hs ?_
  intro b12 w18 hs
  refine E.sto (vs := Sg.cs ⟨5, 3, x, (fileP ps 5 3 n).length⟩) (ys := Sg.cs ⟨5, 3, x, (fileP ps 5 3 n).length⟩) hs ?_ (hv := rfl) (hsp := rfl)
  intro w19 hs
  have hrd : d3.read (nameB 5 3) = .ok (fileP ps 5 3 n) := s2.read (f := ⟨fileP ps 5 3 n, (fileP ps 5 3 n).length⟩) (by rw [s4]; simp [aget])
  refine go ?_
  refine E.callf Tryz.func19 rfl ?_
  refine read_any hs.swap ?_ ?_
  rotate_left
  · intro e w7 h
    rw [hrd] at h; cases h
  intro p pa pc w20 g20 hrp hpl hg20 hpp hs
  rw [hrd] at hrp
  obtain rfl : fileP ps 5 3 n = p := by simpa using hrp
  clear hrp hrd
  have hxl : x.es.length = n := by
    have := congrArg List.length hox1
    simp only [List.length_map, evL_len] at this
    omega
  have hgl : Hl.le g3 g20 := hg8.trans (hg9.trans (hg13.trans (hg14.trans (hg15.trans (hg16.trans (hg17.trans hg20))))))
  have hxo2 := hxo.mono hg20
  have hsxo := hfull.x.mono hgl
  have hsame : sameE x.es s.x.es = true := sameE_raw (by rw [hfull.es]; exact hox1.symm)
  have hfx := fit_raw hxo2 hox1.symm (fun e he => evL_kd e he)
  have hfs := fit_raw hsxo hfull.es (fun e he => evL_kd e he)
  have hsz := hfull.size
  clear hox1
  replace hsz := Lib.hid hsz
  replace hsame := Lib.hid hsame
  refine go ?_
  refine E.callf Tryz.func25 rfl ?_
  refine sameAll_any (x := x) (y := s.x) hxo2 hsxo hfx hfs (by omega) (by omega) hs ?_
  intro w21 g21 hg21 hs
  rw [hsame.out]
  refine go ?_
  rw [show decide (((fileP ps 5 3 n).length : Int) = (s.size : Int)) = true from decide_eq_true (by rw [hsz.out]), Bool.not_true]
  refine go ?_
  have hg21 : Hl.le g g21 := hg3.trans (hgl.trans hg21)
  have hgq := hg0.mono hg21
  clear hsame hsz hfx hfs hxo2 hsxo hgl
  refine E.callf Tryz.func18 rfl ?_
  refine segName_any (i := 5) (n := 4) hgq.gl (by decide) (by decide) hs ?_
  intro w22 hs
  obtain ⟨d4, t1, t2, t3, t4, t5⟩ := strange_moved (ps := ps) (n := n) (d := d3) (by omega) s2 s3 s4
  refine go ?_
  refine E.callf Tryz.func31 rfl ?_
  refine move_any (d := d3) (src := nameB 5 3) (dst := nameB 5 4) hs ?_
  intro w23 hs
  rw [t1] at hs ⊢
  simp only at hs ⊢
  refine go ?_
  refine E.callf Tryz.func18 rfl ?_
  refine segName_any (i := 5) (n := 4) hgq.gl (by decide) (by decide) hs ?_
  intro w24 hs
  refine go ?_
  refine E.callf Tryz.func20 rfl ?_
  refine sgOpen_all (i := 5) (n := 4) hgq.gl (by decide) (by decide) hs ?_ ?_
  rotate_left
  · intro x sz er w9 g9 _ h
    rw [t2] at h; cases h
  intro e w25 g25 hg25 h _ hs
  rw [t2] at h hs
  obtain rfl : (4 : Int) = e := by simpa using h
  clear h t1 t2
  refine go ?_
  refine E.al hs ?_
  intro b16 w26 hs
  refine E.sto hs ?_
  intro w27 hs
  refine go ?_
  refine E.callf Tryz.func32 rfl ?_
  refine append_any (name := [102, 101, 101, 100, 45, 120]) (p := bl) hs.swap (hbp.mono (hg21.trans hg25)) hbn (by omega) ?_
  intro w28 hs
  have u1 := strange_beside (ps := ps) (n := n) (d := d4) (p := bl) (by omega) (by omega) t3 t4 t5
  generalize d4.append [102, 101, 101, 100, 45, 120] bl = dq at hs u1 ⊢
  obtain ⟨dr5, d5⟩ := dq
  simp only at hs u1 ⊢
  refine go ?_
  refine E.callf Tryz.func20 rfl ?_
  refine segOpen_x (hgq.mono hg25) hs ?_
  intro w29 g29 hg29 hs
  refine go ?_
  refine E.al hs ?_
  intro b18 w30 hs
  refine E.sto hs ?_
  intro w31 hs
  refine go ?_
  refine E.callf Tryz.func18 rfl ?_
  refine segName_any (i := 9) (n := 9) ((hgq.mono hg25).mono hg29).gl (by decide) (by decide) hs ?_
  intro w32 hs
  refine go ?_
  refine E.callf Tryz.func20 rfl ?_
  refine sgOpen_all (i := 9) (n := 9) ((hgq.mono hg25).mono hg29).gl (by decide) (by decide) hs.swap ?_ ?_
  rotate_left
  · intro x sz er w9 g9 _ h
    rw [u1] at h; cases h
  intro e w33 g33 hg33 h _ hs
  rw [u1] at h hs
  obtain rfl : (2 : Int) = e := by simpa using h
  clear h u1
  refine go ?_
  refine E.al hs ?_
  intro b20 w34 hs
  refine E.sto hs ?_
  intro w35 hs
  refine go ?_
  rw [show decide ((2 : Int) = 2) = true from rfl]
  refine A.r1 ?_
  exact HR.out _ g33 (hg21.trans (hg25.trans (hg29.trans hg33))) hs.drop.drop.drop.drop.drop.drop
end Go.Proofs.YtdkbpcibmipelaaGreatDoor
