/-
  Layer 15 (view): ViewRanges walked.
-/
import Derived.Test.YtkolnecahlkndaaWc
import Derived.Test.YtkolnecahlkndaaIz
namespace Go.Proofs.Ytkolnecahlkndaa
open Go.RowKit
set_option linter.unusedVariables false
set_option linter.unusedSimpArgs false

/-- What is wanted of the events k, .., i-1: those behind a place, so many at most. -/
def wantE (T : List Ev) (k t : Nat) (wr : Int) (m i : Nat) : List Ev := (((T.take i).drop k).filter fun e => decide (cmpS t wr e.tm e.wr < 0)).take m
theorem wantE_zero {T : List Ev} {k t : Nat} {wr : Int} {m : Nat} : wantE T k t wr m k = [] := by
  have : (T.take k).drop k = [] := List.drop_eq_nil_of_le (by rw [List.length_take]; omega)
  simp [wantE, this]
theorem wantE_all {T : List Ev} {k t : Nat} {wr : Int} {m : Nat} : wantE T k t wr m T.length = ((T.drop k).filter fun e => decide (cmpS t wr e.tm e.wr < 0)).take m := by
  rw [wantE, List.take_length]
theorem wantE_mem {T : List Ev} {k t : Nat} {wr : Int} {m i : Nat} : ∀ e ∈ wantE T k t wr m i, e ∈ T := by
  intro e he
  have h1 := List.mem_of_mem_take he
  have h2 := (List.mem_filter.1 h1).1
  exact List.mem_of_mem_take (List.mem_of_mem_drop h2)
theorem wantE_len {T : List Ev} {k t : Nat} {wr : Int} {m i : Nat} : (wantE T k t wr m i).length ≤ T.length := by
  unfold wantE
  have h1 : (((T.take i).drop k).filter fun e => decide (cmpS t wr e.tm e.wr < 0)).length ≤ ((T.take i).drop k).length := List.length_filter_le _ _
  rw [List.length_drop, List.length_take] at h1
  rw [List.length_take]
  omega
theorem take_more {α : Type} (l : List α) (a : α) (m : Nat) : (l ++ [a]).take m = if (l.take m).length < m then l.take m ++ [a] else l.take m := by
  rw [List.length_take]
  split
  · rw [List.take_of_length_le (l := l ++ [a]) (by simp; omega), List.take_of_length_le (by omega)]
  · rw [List.take_append_of_le_length (by omega)]
theorem wantE_succ {T : List Ev} {k t : Nat} {wr : Int} {m i : Nat} (hi : i < T.length) (hk : k ≤ i) : wantE T k t wr m (i + 1) = if cmpS t wr T[i].tm T[i].wr < 0 ∧ (wantE T k t wr m i).length < m then wantE T k t wr m i ++ [T[i]] else wantE T k t wr m i := by
  have e1 : (T.take (i + 1)).drop k = (T.take i).drop k ++ [T[i]] := by
    rw [List.take_succ_eq_append_getElem hi, List.drop_append_of_le_length (by rw [List.length_take]; omega)]
  unfold wantE
  rw [e1, List.filter_append]
  by_cases h : cmpS t wr T[i].tm T[i].wr < 0
  · have e2 : ([T[i]].filter fun e => decide (cmpS t wr e.tm e.wr < 0)) = [T[i]] := List.filter_cons_of_pos (by simpa using h)
    rw [e2, take_more]
    simp only [h, true_and]
  · have e2 : ([T[i]].filter fun e => decide (cmpS t wr e.tm e.wr < 0)) = [] := List.filter_cons_of_neg (by simpa using h)
    rw [e2, List.append_nil]
    simp only [h, false_and, if_false]

set_option maxHeartbeats 6400000 in
set_option maxRecDepth 100000 in
theorem viewRanges_any {R : Ending → World → Prop} {W w : World} {g : Hl} {H : List HP} {a : Option Addr} {n c cut t : Nat} {wr most : Int} {near : Bool} {zs : List Nat} (hp : Pr 1 g (.slice a n c) n (hs16 zs)) (hn : zs.length = n) (hz : ∀ z ∈ zs, z < 65536) (hcut : cut < 256) (hs : Sat W w g H)
    (hR : ∀ w' g', Hl.le g g' → Sat W w' g' H → R (.returned (.bool true)) w') :
    Calls Try.prog 3 #[.slice a n c, .int .u8 cut, spot t wr, .int .i64 most, .bool near] w R := by
  have HR := Lib.hid hR
  clear hR
  have ag1 := ag_ev
  have ag2 := ag_spot
  simp only [spot]
  refine C.calls (args := [.slice a n c, .int .u8 cut, .agg #[.int .u64 t, .int .i64 wr], .int .i64 most, .bool near]) Try.func3 rfl rfl rfl ?_
  refine go ?_
  refine E.bx hs ?_
  intro b7 w1 hs
  refine go ?_
  refine E.callf Try.func5 rfl ?_
  refine awake15_any hs ?_
  intro w2 g2 hg2 hs
  refine go ?_
  cases h60 : decide ((60 : Int) < n) with
  | true =>
    refine go ?_
    refine E.callf Try.func5 rfl ?_
    refine awake15_any hs ?_
    intro w3 g3 hg3 hs
    refine go ?_
    refine A.r1 ?_
    exact HR.out _ g3 (hg2.trans hg3) hs.drop
  | false =>
    have hn60 := of_decide_eq_false h60
    refine go ?_
    refine C.cut (fun x : Nat × Int × Int => [(0, .slice a n c), (1, .int .u8 cut), (3, .int .i64 x.2.2), (7, .pointer (some ⟨b7, 0, none⟩))])
      (fun x w => Sat W w g2 (blk b7 [.int .u64 x.1, .int .i64 x.2.1] 25 :: H)) ?_ ?_
    · cases near with
      | true =>
        refine go ?_
        refine E.sto (vs := [.int .u64 ((t : Int).tmod 60)]) (ys := [.int .u64 ((t : Int).tmod 60), .int .i64 wr]) hs ?_ (hv := rfl) (hsp := rfl)
        intro w3 hs
        refine go ?_
        refine E.sto (vs := [.int .i64 (wr.tmod 4)]) (ys := [.int .u64 ((t : Int).tmod 60), .int .i64 (wr.tmod 4)]) hs ?_ (hv := rfl) (hsp := rfl)
        intro w4 hs
        refine go ?_
        refine A.mt (t % 60, wr.tmod 4, most.tmod 20) ?_
        rw [show ((t : Int).tmod 60) = ((t % 60 : Nat) : Int) from (Int.ofNat_tmod t 60).symm] at hs
        exact hs
      | false =>
        refine go ?_
        exact A.mt (t, wr, most) hs
    clear hs
    rintro ⟨t1, wr1, most1⟩ w3 hs
    simp only at hs ⊢
    refine go ?_
    refine E.callf Try.func7 rfl ?_
    refine feeds_any (hp.mono hg2) hn hz (by omega) hs ?_
    intro a4 c4 outs w4 g4 hg4 ho3 hof hok hp4 hs
    have h3 : Three g4 outs := ⟨ho3, hof⟩
    refine go ?_
    refine E.callf Try.func6 rfl ?_
    refine whole_any hp4 ho3 (by decide) hok (by have := h3.few; omega) hs ?_
    intro y w5 g5 hg5 hy hyp hyu hs
    have hT := h3.tale hyp hyu
    have hT9 := hT.few
    clear hyp hyu
    rw [show y.v = .slice y.a y.es.length y.c from rfl]
    refine go ?_
    have ewr : (cut : Int).tmod (y.es.length + 1) = ((cut % (y.es.length + 1) : Nat) : Int) := (Int.ofNat_tmod cut (y.es.length + 1)).symm
    have hkl : cut % (y.es.length + 1) ≤ y.es.length := by have := Nat.mod_lt cut (show 0 < y.es.length + 1 by omega); omega
    rw [ewr]
    clear ewr
    generalize cut % (y.es.length + 1) = k at hkl
    refine C.held0 hs ?_
    intro w6 hk hs
    refine goh ?_
    refine EH.slq1 el_ev hy.row k y.es.length hk ?_
    intro a7 c7 hp7
    have hxe : (y.es.drop k).length = y.es.length - k := List.length_drop
    have ee : ((evC y.es).drop (k * 8)).take ((y.es.length - k) * 8) = evC (y.es.drop k) := by
      rw [evC_drop, evC_take, List.take_of_length_le (by omega)]
    rw [ee] at hp7
    have hx7 : ∀ {g' : Hl}, Hl.le g5 g' → El.ok ⟨a7, c7, y.es.drop k⟩ g' := fun hg => ⟨by simp only [El.v, hxe]; exact hp7.mono hg, fun e he => ⟨(hy.evs e ((List.drop_sublist k _).subset he)).1.mono hg, (hy.evs e ((List.drop_sublist k _).subset he)).2⟩⟩
    have hv7 : (⟨a7, c7, y.es.drop k⟩ : El).v = .slice a7 (y.es.length - k) c7 := by simp only [El.v, hxe]
    have hD := hT.drop k
    apply laterE (α := (Nat × Nat × Nat) × El × Hl) (f := fun x => [(3, .int .i64 most1), (7, .pointer (some ⟨b7, 0, none⟩)), (11, .slice y.a y.es.length y.c), (12, .int .i64 k), (60, .pointer (some ⟨x.1.1, 0, none⟩)), (61, .agg #[.int .u64 t1, .int .i64 wr1]), (62, .int .i64 most1)])
      (M := fun x w => Hl.le g5 x.2.2 ∧ x.2.1.ok x.2.2 ∧ x.2.1.es = y.es.drop k ∧ Sat W w x.2.2 (vw x.1.1 x.1.2.1 x.1.2.2 x.2.1 :: fold x.1.2.1 ((foNew 3).adds (y.es.take k)) :: blk b7 [.int .u64 t1, .int .i64 wr1] 25 :: H))
    · intro key
      refine EH.orb hs (St.callf Try.func9 rfl ?_) ?_
      · refine base_any (x := y) (k := k) hy hkl (by omega) (hT.fits_at k).1 hs ?_
        intro b9 w9 g9 hg9 hs
        refine kept0 hs (fun hk => ?_) hg9
        refine goh ?_
        refine EH.bsl hs ?_
        intro b8 w8 hs
        refine kept0 hs (fun hk => ?_) hg9
        refine goh ?_
        obtain ⟨g10, hg10, hp10, hs10⟩ := (hs.blkOwn (size := 1) 1 rfl (by decide)).publishOwn
        refine EH.one (St.callf Try.func8 rfl ?_)
        refine by_any (ls := [⟨a7, c7, y.es.drop k⟩]) (T := y.es.drop k) (by rw [List.map_singleton, hv7]; exact hp10) rfl (by decide) (fun z hz => ?_) (fun z hz => ?_) hD.1 (by simp) (by omega) (hT.fits_at k).2 hs10 ?_
        · simp only [List.mem_singleton] at hz
          subst hz
          exact hx7 (hg9.trans hg10)
        · simp only [List.mem_singleton] at hz
          subst hz
          exact hD.1
        clear hs hp10 hs10
        intro vb b11 x w11 g11 hg11 hx hxe6 hs
        refine kept0 hs (fun hk => ?_) (hg9.trans (hg10.trans hg11))
        refine goh ?_
        refine EH.done ?_
        refine go ?_
        exact E.forget wk_ (key ((vb, b9, b11), x, g11) _ ⟨hg9.trans (hg10.trans hg11), hx, hxe6, hs.pull2.drop⟩)
      · intro b8 w8 hs
        refine kept0 hs (fun hk => ?_)
        refine goh ?_
        obtain ⟨g10, hg10, hp10, hs10⟩ := (hs.blkOwn (size := 1) 1 rfl (by decide)).publishOwn
        refine EH.one (St.callf Try.func9 rfl ?_)
        refine base_any (x := y) (k := k) (hy.mono hg10) hkl (by omega) (hT.fits_at k).1 hs10 ?_
        clear hs hs10
        intro b9 w9 g9 hg9 hs
        refine kept0 hs (fun hk => ?_) (hg10.trans hg9)
        refine goh ?_
        refine EH.one (St.callf Try.func8 rfl ?_)
        refine by_any (ls := [⟨a7, c7, y.es.drop k⟩]) (T := y.es.drop k) (by rw [List.map_singleton, hv7]; exact hp10.mono hg9) rfl (by decide) (fun z hz => ?_) (fun z hz => ?_) hD.1 (by simp) (by omega) (hT.fits_at k).2 hs ?_
        · simp only [List.mem_singleton] at hz
          subst hz
          exact hx7 (hg10.trans hg9)
        · simp only [List.mem_singleton] at hz
          subst hz
          exact hD.1
        clear hs
        intro vb b11 x w11 g11 hg11 hx hxe6 hs
        refine kept0 hs (fun hk => ?_) (hg10.trans (hg9.trans hg11))
        refine goh ?_
        refine EH.done ?_
        refine go ?_
        exact E.forget wk_ (key ((vb, b9, b11), x, g11) _ ⟨hg10.trans (hg9.trans hg11), hx, hxe6, hs.pull2.drop⟩)
    clear hs
    rintro ⟨⟨vb, b9, b10⟩, x, g6⟩ w6 ⟨hg6, hx, hxe6, hs⟩
    simp only at hg6 hx hxe6 hs ⊢
    apply laterE (α := El × Int × Hl) (f := fun x => [(3, .int .i64 most1), (7, .pointer (some ⟨b7, 0, none⟩)), (11, .slice y.a y.es.length y.c), (12, .int .i64 k), (15, .slice x.1.a x.1.es.length x.1.c), (16, .int .i64 x.2.1)])
      (M := fun x w => Hl.le g5 x.2.2 ∧ x.1.ok x.2.2 ∧ (cmpS t1 wr1 ((foNew 3).adds (y.es.take k)).tm ((foNew 3).adds (y.es.take k)).wr < 0 ∧ x.1.es = [] ∧ x.2.1 = 13 ∨ ¬ cmpS t1 wr1 ((foNew 3).adds (y.es.take k)).tm ((foNew 3).adds (y.es.take k)).wr < 0 ∧ x.1.es = ((y.es.drop k).dropWhile (upto t1 wr1)).take most1.toNat ∧ x.2.1 = 0)
        ∧ Sat W w x.2.2 (blk b7 [.int .u64 t1, .int .i64 wr1] 25 :: H))
    · intro key
      refine E.callf Try.func10 rfl ?_
      refine vwRange_any (t := t1) (wr := wr1) hx (by rw [hxe6]; exact hD.1) (by rw [hxe6]; omega) hs ?_ ?_
      · intro hlt w7 hs
        refine go ?_
        exact E.forget wk_ (key (⟨none, 0, []⟩, 13, g6) _ ⟨hg6, ⟨Pr.nil, by simp⟩, .inl ⟨hlt, rfl, rfl⟩, hs.drop.drop⟩)
      · intro hlt w7 z g7 hg7 hz hze hs
        rw [show z.v = .slice z.a z.es.length z.c from rfl]
        refine go ?_
        exact E.forget wk_ (key (z, 0, g7) _ ⟨hg6.trans hg7, hz, .inr ⟨hlt, by rw [hze, hxe6], rfl⟩, hs.drop.drop⟩)
    clear hs
    rintro ⟨z, er, g8⟩ w8 ⟨hg8, hz, hcase, hs⟩
    simp only at hg8 hz hcase hs ⊢
    refine E.al hs ?_
    intro b17 w9 hs
    refine go ?_
    refine C.cut (fun _ : Unit => [(3, .int .i64 most1), (7, .pointer (some ⟨b7, 0, none⟩)), (11, .slice y.a y.es.length y.c), (12, .int .i64 k), (15, .slice z.a z.es.length z.c), (16, .int .i64 er), (17, .pointer (some ⟨b17, 0, none⟩))])
      (fun _ w => Sat W w g8 (blk b17 [.int .u64 ((foNew 3).adds (y.es.take k)).tm, .int .i64 ((foNew 3).adds (y.es.take k)).wr] 25 :: blk b7 [.int .u64 t1, .int .i64 wr1] 25 :: H)) ?_ ?_
    · refine C.cond_dec (p := (0 : Int) < k) rfl (fun h => ?_) (fun h => ?_)
      · rcases Tale.last hkl with ⟨h0, _⟩ | ⟨hq, hk0, e1, e2⟩
        · omega
        rw [e1, e2]
        refine go ?_
        refine E.ixs el_ev hs (hy.row.mono hg8) (k - 1) ?_
        intro b5 o5 hr
        rw [evC_at hq] at hr
        refine E.ldr hr ag_ev rfl ?_
        refine E.callf Try.func11 rfl ?_
        refine rat_any (e := y.es[k - 1]) hs ?_
        intro w10 hs
        refine go ?_
        refine E.sto (vs := [.int .u64 y.es[k - 1].tm, .int .i64 y.es[k - 1].wr]) (ys := [.int .u64 y.es[k - 1].tm, .int .i64 y.es[k - 1].wr]) hs ?_ (hv := rfl) (hsp := rfl)
        intro w11 hs
        refine go ?_
        exact A.mt () hs
      · rcases Tale.last hkl with ⟨h0, e1, e2⟩ | ⟨hq, hk0, e1, e2⟩
        · rw [e1, e2]
          refine go ?_
          exact A.mt () hs
        · omega
    clear hs
    rintro _ w12 hs
    refine go ?_
    refine E.callf Try.func12 rfl ?_
    refine ahead_any (t1 := t1) (w1 := wr1) (t2 := ((foNew 3).adds (y.es.take k)).tm) (w2 := ((foNew 3).adds (y.es.take k)).wr) hs ?_
    intro w13 hs
    rcases hcase with ⟨hlt, hze, rfl⟩ | ⟨hlt, hze, rfl⟩
    · have hzl : z.es.length = 0 := by rw [hze]; rfl
      rw [decide_eq_true hlt, hzl]
      refine go ?_
      refine A.r1 ?_
      exact HR.out _ g8 (hg2.trans (hg4.trans (hg5.trans hg8))) hs.drop.drop
    · rw [decide_eq_false hlt]
      refine gob ?_
      have hsn := hs
      clear hs
      refine C.cut (fun x : Option Addr × Nat => [(15, .slice z.a z.es.length z.c), (16, .int .i64 0), (18, .slice x.1 (wantE y.es k t1 wr1 most1.toNat y.es.length).length x.2)])
        (fun x w => Sat W w g8 (own 43 8 (.slice x.1 (wantE y.es k t1 wr1 most1.toNat y.es.length).length x.2) (wantE y.es k t1 wr1 most1.toNat y.es.length).length (evC (wantE y.es k t1 wr1 most1.toNat y.es.length)) :: H)) ?_ ?_
      · refine C.block ?_
        refine C.lp (fun x : Nat × Option Addr × Nat => [(3, .int .i64 most1), (7, .pointer (some ⟨b7, 0, none⟩)), (11, .slice y.a y.es.length y.c), (15, .slice z.a z.es.length z.c), (16, .int .i64 0), (18, .slice x.2.1 (wantE y.es k t1 wr1 most1.toNat x.1).length x.2.2), (19, .int .i64 x.1)])
          (fun gk x w => gk = y.es.length - x.1 ∧ k ≤ x.1 ∧ x.1 ≤ y.es.length ∧ Sat W w g8 (own 43 8 (.slice x.2.1 (wantE y.es k t1 wr1 most1.toNat x.1).length x.2.2) (wantE y.es k t1 wr1 most1.toNat x.1).length (evC (wantE y.es k t1 wr1 most1.toNat x.1)) :: blk b7 [.int .u64 t1, .int .i64 wr1] 25 :: H)) (y.es.length - k) (k, none, 0) ⟨rfl, Nat.le_refl _, hkl, ?_⟩ ?_ (hw := ?_)
        · simp only [wantE_zero]
          exact hsn.drop.nilOwn
        · rintro gk ⟨i, a2, c2⟩ w14 ⟨hgk, hki, hi, hs⟩
          simp only at hgk hki hi hs ⊢
          have hwl := wantE_len (T := y.es) (k := k) (t := t1) (wr := wr1) (m := most1.toNat) (i := i)
          refine go ?_
          refine C.cond_dec (p := (i : Int) < y.es.length) rfl (fun h => ?_) (fun h => ?_)
          · have hil : i < y.es.length := by omega
            have hsucc := Lib.hid (wantE_succ (T := y.es) (k := k) (t := t1) (wr := wr1) (m := most1.toNat) hil hki)
            have hee := hy.evs y.es[i] (List.getElem_mem hil)
            have hry := hy.row.mono hg8
            have hy8 := hy.row.mono hg8
            obtain ⟨by_, oy, hya⟩ := pr_some hry (by omega)
            simp only [El.v, hya] at hry
            refine go ?_
            rw [hya]
            refine C.held1 b7 hs ?_
            intro w15 hk hs
            refine goh ?_
            refine EH.t0 hk ?_ (hy := Pf.loadpr ag_ev hry hil (evC_at hil) rfl rfl)
            refine goh ?_
            refine EH.one (St.callf Try.func11 rfl ?_)
            refine rat_any (e := y.es[i]) hs ?_
            intro w16 hs
            refine kept1 hs (fun hk => ?_)
            refine goh ?_
            refine EH.one (St.callf Try.func12 rfl ?_)
            refine ahead_any (t1 := t1) (w1 := wr1) (t2 := y.es[i].tm) (w2 := y.es[i].wr) hs ?_
            intro w17 hs
            refine kept1 hs (fun hk => ?_)
            refine goh ?_
            cases hd : decide (cmpS t1 wr1 y.es[i].tm y.es[i].wr < 0) with
            | false =>
              have hd := of_decide_eq_false hd
              refine goh ?_
              refine EH.done ?_
              refine go ?_
              have hsucc := hsucc.out
              rw [if_neg (fun h => hd h.1)] at hsucc
              refine A.rd (y.es.length - (i + 1)) (i + 1, a2, c2) ⟨rfl, by omega, by omega, ?_⟩ (hw := ?_)
              · simp only [hsucc]
                exact hs
              · simp only [hsucc, hya]
                exact wk_
            | true =>
              have hd := of_decide_eq_true hd
              refine goh ?_
              refine EH.done ?_
              refine go ?_
              refine C.cond_dec (p := ((wantE y.es k t1 wr1 most1.toNat i).length : Int) < most1) rfl (fun h2 => ?_) (fun h2 => ?_)
              · rw [← hya]
                clear hya
                refine go ?_
                refine E.ixs el_ev hs hy8 i ?_
                intro b5 o5 hr
                rw [evC_at hil] at hr
                refine E.ldr hr ag_ev rfl ?_
                refine E.bsle el_ev hs (cs := y.es[i].cs) rfl ?_
                intro b18 w18 hs
                refine E.app el_ev hs.swap (hs.rowOf (size := 8) 1 rfl (by decide)) ?_ (h1 := fun u hu => List.all_eq_true.1 (Ev.cs_one hee.1) u hu)
                intro a19 c19 w19 _ _ hs
                refine go ?_
                have hsucc := hsucc.out
                rw [if_pos ⟨hd, by omega⟩] at hsucc
                refine A.rd (y.es.length - (i + 1)) (i + 1, a19, c19) ⟨rfl, by omega, by omega, ?_⟩ (hw := ?_)
                · simp only [hsucc, List.length_append, List.length_cons, List.length_nil, Nat.zero_add, evC_append]
                  have e2 : evC [y.es[i]] = y.es[i].cs := by simp [evC]
                  rw [e2]
                  exact hs.swap.drop
                · simp only [hsucc, List.length_append, List.length_cons, List.length_nil, Nat.zero_add]
                  exact wk_
              · refine go ?_
                have hsucc := hsucc.out
                rw [if_neg (fun h => h2 (by have := h.2; omega))] at hsucc
                refine A.rd (y.es.length - (i + 1)) (i + 1, a2, c2) ⟨rfl, by omega, by omega, ?_⟩ (hw := ?_)
                · simp only [hsucc]
                  exact hs
                · simp only [hsucc, hya]
                  exact wk_
          · obtain rfl : i = y.es.length := by omega
            refine go ?_
            exact A.mt (a2, c2) hs.swap.drop
        · simp only [wantE_zero]
          exact wk_
      clear hsn
      rintro ⟨a2, c2⟩ w16 hs
      simp only at hs ⊢
      obtain ⟨g9, hg9, hp9, hs⟩ := hs.publishOwn
      have hwf : ∀ e ∈ wantE y.es k t1 wr1 most1.toNat y.es.length, e.ok g9 ∧ e.low := fun e he => ⟨(hy.evs e (wantE_mem e he)).1.mono (hg8.trans hg9), (hy.evs e (wantE_mem e he)).2⟩
      have hfit : ∀ e ∈ wantE y.es k t1 wr1 most1.toNat y.es.length, e.fit := fun e he => (hT.good e (wantE_mem e he)).fit
      have hsame : z.es = wantE y.es k t1 wr1 most1.toNat y.es.length := by
        rw [hze, wantE_all, drop_filter (fun e he => (hD.2.2 e he).low) hD.1]
      have hwl := wantE_len (T := y.es) (k := k) (t := t1) (wr := wr1) (m := most1.toNat) (i := y.es.length)
      generalize wantE y.es k t1 wr1 most1.toNat y.es.length = V at hp9 hwf hfit hsame hwl
      refine go ?_
      refine E.callf Try.func13 rfl ?_
      refine sameAll_any (x := z) (y := ⟨a2, c2, V⟩) (hz.mono hg9) ⟨hp9, hwf⟩ (by rw [hsame]; exact hfit) hfit (by rw [hsame]; omega) (by simp only; omega) hs ?_
      intro w17 g17 hg17 hs
      rw [show sameE z.es V = true from decide_eq_true (by rw [hsame])]
      refine go ?_
      refine A.r1 ?_
      exact HR.out _ g17 (hg2.trans (hg4.trans (hg5.trans (hg8.trans (hg9.trans hg17))))) hs
end Go.Proofs.Ytkolnecahlkndaa
