/-
  The reference of layer 12: events sorted; all events of some lists.
-/
import Derived.Test.YtkolnecahlkndaaUa
import Derived.Test.YtkolnecahlkndaaIw
namespace Go.Proofs.Ytkolnecahlkndaa
open Go.RowKit
set_option linter.unusedVariables false
set_option linter.unusedSimpArgs false

theorem evC_one {l : List Ev} {g : Hl} (h : ∀ e ∈ l, e.ok g) : ∀ u ∈ evC l, u.oneCell' = true := by
  intro u hu
  obtain ⟨e, he, hu⟩ := List.mem_flatMap.1 hu
  exact List.all_eq_true.1 (Ev.cs_one (h e he)) u hu
/-- Rising. -/
def UpE (l : List Ev) : Prop := l.Pairwise fun a b => a.ky ≤ b.ky
theorem ins_up {l : List Ev} {e : Ev} {k : Nat} (h : UpE l) (hk : k ≤ l.length) (h1 : ∀ q (hq : q < l.length), k ≤ q → e.ky < l[q].ky) (h2 : k = 0 ∨ ∃ hq : k - 1 < l.length, l[k - 1].ky ≤ e.ky) : UpE (l.take k ++ e :: l.drop k) := by
  unfold UpE at *
  have hs := h
  rw [← List.take_append_drop k l] at hs
  obtain ⟨p1, p2, p3⟩ := List.pairwise_append.1 hs
  refine List.pairwise_append.2 ⟨p1, List.pairwise_cons.2 ⟨fun b hb => ?_, p2⟩, fun a ha b hb => ?_⟩
  · obtain ⟨q, hq, rfl⟩ := List.mem_iff_getElem.1 hb
    rw [List.getElem_drop]
    exact Nat.le_of_lt (h1 (k + q) (by rw [List.length_drop] at hq; omega) (by omega))
  · rcases List.mem_cons.1 hb with rfl | hb
    · obtain ⟨q, hq, rfl⟩ := List.mem_iff_getElem.1 ha
      rw [List.length_take] at hq
      rcases h2 with h2 | ⟨hq2, h2⟩
      · omega
      · rw [List.getElem_take]
        have hq3 : q < l.length := by omega
        rcases Nat.lt_or_ge q (k - 1) with hlt | hge
        · have := List.pairwise_iff_getElem.1 h q (k - 1) hq3 hq2 hlt
          omega
        · obtain rfl : q = k - 1 := by omega
          exact h2
    · exact p3 a ha b hb
theorem ins_perm {l : List Ev} {e : Ev} {k : Nat} : (l.take k ++ e :: l.drop k).Perm (e :: l) := by
  have := List.perm_middle (a := e) (l₁ := l.take k) (l₂ := l.drop k)
  rw [List.take_append_drop] at this
  exact this

set_option maxHeartbeats 3200000 in
set_option maxRecDepth 100000 in
theorem sort_any {R : Ending → World → Prop} {W w : World} {g : Hl} {H : List HP} {x : El} (hx : x.ok g) (hl : x.es.length ≤ 100000000) (hs : Sat W w g H)
    (hR : ∀ y w' g', Hl.le g g' → El.ok y g' → y.es.Perm x.es → UpE y.es → Sat W w' g' H → R (.returned y.v) w') :
    Calls Try.prog 20 #[x.v] w R := by
  have HR := Lib.hid hR
  clear hR
  refine C.calls (args := [.slice x.a x.es.length x.c]) Try.func20 rfl rfl rfl ?_
  refine gob ?_
  refine C.block ?_
  refine C.lp (fun q : Nat × El => [(0, .slice x.a x.es.length x.c), (3, .slice q.2.a q.2.es.length q.2.c), (4, .int .i64 q.1)])
    (fun gk q w => gk = x.es.length - q.1 ∧ q.1 ≤ x.es.length ∧ q.2.es.Perm (x.es.take q.1) ∧ UpE q.2.es ∧ ∃ g', Hl.le g g' ∧ q.2.ok g' ∧ Sat W w g' H) x.es.length (0, ⟨none, 0, []⟩)
    ⟨rfl, Nat.zero_le _, List.Perm.refl _, List.Pairwise.nil, g, Hl.le_refl _, ⟨Pr.nil, by simp⟩, hs⟩ ?_
  clear hs
  rintro gk ⟨i, y⟩ w2 ⟨hgk, hi, hp, hu, g2, hg2, hy, hs⟩
  simp only at hgk hi hp hu hy hs ⊢
  have hyl := hp.length_eq
  rw [List.length_take] at hyl
  have hyl2 := Lib.hid hyl
  clear hyl
  refine go ?_
  refine C.cond_dec (p := (i : Int) < x.es.length) rfl (fun h => ?_) (fun h => ?_)
  · have hil : i < x.es.length := by omega
    have hrx := hx.row.mono hg2
    obtain ⟨bx, ox, hxa⟩ := pr_some hrx (by omega)
    have hex := hx.evs x.es[i] (List.getElem_mem hil)
    have hrx' := hrx
    simp only [El.v, hxa] at hrx'
    have hy9 : y.es.length ≤ 100000000 := by have := hyl2.out; omega
    refine gob ?_
    refine C.block ?_
    refine gob ?_
    refine C.cut (fun k : Nat => [(0, .slice x.a x.es.length x.c), (3, .slice y.a y.es.length y.c), (4, .int .i64 i), (5, .int .i64 k)])
      (fun k w => k ≤ y.es.length ∧ (∀ q (hq : q < y.es.length), k ≤ q → x.es[i].ky < y.es[q].ky) ∧ (k = 0 ∨ ∃ hq : k - 1 < y.es.length, y.es[k - 1].ky ≤ x.es[i].ky) ∧ Sat W w g2 H) ?_ ?_
    · refine C.block ?_
      refine C.lp (fun k : Nat => [(0, .slice x.a x.es.length x.c), (3, .slice y.a y.es.length y.c), (4, .int .i64 i), (5, .int .i64 k)])
        (fun gk k w => gk = k ∧ k ≤ y.es.length ∧ (∀ q (hq : q < y.es.length), k ≤ q → x.es[i].ky < y.es[q].ky) ∧ Sat W w g2 H) y.es.length y.es.length ⟨rfl, Nat.le_refl _, fun q hq hk => by omega, hs⟩ ?_
      clear hs
      rintro gk k w3 ⟨rfl, hk, hkq, hs⟩
      have hkx := hk
      rcases Nat.eq_zero_or_pos gk with rfl | hpos
      · refine go ?_
        refine C.held0 hs ?_
        intro w4 hk hs
        refine goh ?_
        refine EH.done ?_
        refine go ?_
        exact A.mt 0 ⟨Nat.zero_le _, hkq, .inl rfl, hs⟩
      · obtain ⟨k, rfl⟩ : ∃ k, gk = k + 1 := ⟨gk - 1, by omega⟩
        have hry := hy.row
        obtain ⟨by_, oy, hya⟩ := pr_some hry (by omega)
        simp only [El.v, hya] at hry
        have hlt : k < y.es.length := by omega
        have hlt' : (k : Int) < y.es.length := by omega
        have hey := hy.evs y.es[k] (List.getElem_mem hlt)
        refine go ?_
        rw [hxa, hya]
        refine C.held0 hs ?_
        intro w4 hk hs
        refine goh ?_
        rw [show decide ((0 : Int) < ((k + 1 : Nat) : Int)) = true from decide_eq_true (by omega)]
        refine goh ?_
        rw [show ((k + 1 : Nat) : Int) - 1 = (k : Int) by omega]
        refine goh ?_
        refine EH.t0 hk ?_ (hy := Pf.loadpr ag_ev hrx' hil (evC_at hil) rfl rfl)
        refine EH.t1 hk ?_ (hy := Pf.loadpr ag_ev hry hlt (evC_at hlt) rfl rfl)
        refine EH.one (St.guard rfl rfl (St.callf Try.func11 rfl ?_))
        refine rat_any (e := x.es[i]) hs ?_
        intro w5 hs
        refine kept0 hs (fun hk => ?_)
        refine goh ?_
        refine EH.one (St.guard rfl rfl (St.callf Try.func11 rfl ?_))
        refine rat_any (e := y.es[k]) hs ?_
        intro w6 hs
        refine kept0 hs (fun hk => ?_)
        refine goh ?_
        refine EH.one (St.guard rfl rfl (St.callf Try.func12 rfl ?_))
        refine ahead_any (t1 := x.es[i].tm) (w1 := x.es[i].wr) (t2 := y.es[k].tm) (w2 := y.es[k].wr) hs ?_
        intro w7 hs
        refine kept0 hs (fun hk => ?_)
        refine goh ?_
        refine EH.done ?_
        refine go ?_
        have hkl := ky_lt hex.2 hey.2
        cases hd : decide (cmpS x.es[i].tm x.es[i].wr y.es[k].tm y.es[k].wr < 0) with
        | true =>
          have hd := hkl.1 (of_decide_eq_true hd)
          refine go ?_
          rw [show ((k + 1 : Nat) : Int) - 1 = (k : Int) by omega, ← hxa, ← hya]
          refine A.rd k k ⟨rfl, by omega, fun q hq hkq2 => ?_, hs⟩
          rcases Nat.eq_or_lt_of_le hkq2 with rfl | h'
          · exact hd
          · exact hkq q hq (by omega)
        | false =>
          have hd : ¬ x.es[i].ky < y.es[k].ky := fun h => of_decide_eq_false hd (hkl.2 h)
          refine go ?_
          rw [← hxa, ← hya]
          exact A.mt (k + 1) ⟨hkx, hkq, .inr ⟨hlt, by simp only [Nat.add_sub_cancel]; omega⟩, hs⟩
    clear hs
    rintro k w8 ⟨hk, hkq, hk0, hs⟩
    refine go ?_
    refine E.slp el_ev hy.row 0 k ?_
    intro a9 c9 hp9
    have e9 : ((evC y.es).drop (0 * 8)).take ((k - 0) * 8) = evC (y.es.take k) := by
      rw [Nat.zero_mul, List.drop_zero, Nat.sub_zero, evC_take]
    rw [e9] at hp9
    refine E.app el_ev hs.nilOwn (hp9.row hs) ?_ (h1 := evC_one fun e he => (hy.evs e (List.mem_of_mem_take he)).1)
    intro a10 c10 w10 _ _ hs
    simp only [Nat.zero_add, List.nil_append, Nat.sub_zero] at hs ⊢
    refine go ?_
    refine E.ldr (pr_range hs hrx' hil (evC_at hil)) ag_ev rfl ?_
    refine E.bsle el_ev hs (cs := x.es[i].cs) rfl ?_
    intro b12 w12 hs
    refine E.app el_ev hs.swap (hs.rowOf (size := 8) 1 rfl (by decide)) ?_ (h1 := fun u hu => List.all_eq_true.1 (Ev.cs_one hex.1) u hu)
    intro a13 c13 w13 _ _ hs
    replace hs := hs.swap.drop
    refine go ?_
    refine E.slp el_ev hy.row k y.es.length ?_
    intro a14 c14 hp14
    have e14 : ((evC y.es).drop (k * 8)).take ((y.es.length - k) * 8) = evC (y.es.drop k) := by
      rw [evC_drop, evC_take, List.take_of_length_le (by rw [List.length_drop]; exact Nat.le_refl _)]
    rw [e14] at hp14
    refine E.app el_ev hs (hp14.row hs) ?_ (h1 := evC_one fun e he => (hy.evs e (List.mem_of_mem_drop he)).1)
    intro a15 c15 w15 _ _ hs
    obtain ⟨g16, hg16, hp16, hs⟩ := hs.publishOwn
    have en : k + 1 + (y.es.length - k) = (y.es.take k ++ x.es[i] :: y.es.drop k).length := by
      simp only [List.length_append, List.length_take, List.length_cons, List.length_drop]; omega
    have ec : evC (y.es.take k) ++ x.es[i].cs ++ evC (y.es.drop k) = evC (y.es.take k ++ x.es[i] :: y.es.drop k) := by
      rw [evC_append]
      simp only [List.append_assoc]
      rfl
    rw [en, ec] at hp16
    rw [en]
    refine go ?_
    refine A.rd (x.es.length - (i + 1)) (i + 1, ⟨a15, c15, y.es.take k ++ x.es[i] :: y.es.drop k⟩) ⟨rfl, by simp only; omega, ?_, ?_, g16, hg2.trans hg16, ⟨hp16, ?_⟩, hs⟩
    · rw [List.take_succ_eq_append_getElem hil]
      exact ins_perm.trans ((List.Perm.cons _ hp).trans (List.perm_append_comm (l₁ := [x.es[i]])))
    · exact ins_up hu hk hkq hk0
    · intro e he
      have h1 := ins_perm.mem_iff.1 he
      rcases List.mem_cons.1 h1 with rfl | h1
      · exact ⟨(hex.1.mono hg2).mono hg16, hex.2⟩
      · exact ⟨(hy.evs e h1).1.mono hg16, (hy.evs e h1).2⟩
  · obtain rfl : i = x.es.length := by omega
    rw [List.take_length] at hp
    refine go ?_
    refine A.r1 ?_
    exact HR.out y _ g2 hg2 hy hp hu hs

set_option maxHeartbeats 3200000 in
set_option maxRecDepth 100000 in
theorem whole_any {R : Ending → World → Prop} {W w : World} {g : Hl} {H : List HP} {a : Option Addr} {n c : Nat} {ls : List El} (hp : Pr 1 g (.slice a n c) n (ls.map El.v)) (hn : ls.length = n) (hn2 : n ≤ 1000000000) (hok : ∀ x ∈ ls, x.ok g) (hl : (ls.flatMap El.es).length ≤ 100000000) (hs : Sat W w g H)
    (hR : ∀ y w' g', Hl.le g g' → El.ok y g' → y.es.Perm (ls.flatMap El.es) → UpE y.es → Sat W w' g' H → R (.returned y.v) w') :
    Calls Try.prog 6 #[.slice a n c] w R := by
  have HR := Lib.hid hR
  clear hR
  refine C.calls (args := [.slice a n c]) Try.func6 rfl rfl rfl ?_
  refine gob ?_
  refine C.cut (fun x : Option Addr × Nat => [(3, .slice x.1 (ls.flatMap El.es).length x.2)]) (fun x w => Sat W w g (own 43 8 (.slice x.1 (ls.flatMap El.es).length x.2) (ls.flatMap El.es).length (evC (ls.flatMap El.es)) :: H)) ?_ ?_
  · refine C.block ?_
    refine C.lp (fun x : Nat × Option Addr × Nat => [(0, .slice a n c), (3, .slice x.2.1 ((ls.take x.1).flatMap El.es).length x.2.2), (4, .int .i64 x.1)])
      (fun gk x w => gk = n - x.1 ∧ x.1 ≤ n ∧ Sat W w g (own 43 8 (.slice x.2.1 ((ls.take x.1).flatMap El.es).length x.2.2) ((ls.take x.1).flatMap El.es).length (evC ((ls.take x.1).flatMap El.es)) :: H)) n (0, none, 0) ⟨rfl, Nat.zero_le _, hs.nilOwn⟩ ?_
    clear hs
    rintro gk ⟨i, a2, c2⟩ w2 ⟨hgk, hi, hs⟩
    simp only at hgk hi hs ⊢
    refine go ?_
    refine C.cond_dec (p := (i : Int) < n) rfl (fun h => ?_) (fun h => ?_)
    · have hil : i < ls.length := by omega
      have ho := hok ls[i] (List.getElem_mem hil)
      have hsucc : (ls.take (i + 1)).flatMap El.es = (ls.take i).flatMap El.es ++ ls[i].es := by
        rw [List.take_succ_eq_append_getElem hil, List.flatMap_append]; simp
      have hle : ((ls.take i).flatMap El.es).length + ls[i].es.length ≤ 100000000 := by
        have h1 : ls.flatMap El.es = (ls.take (i + 1)).flatMap El.es ++ (ls.drop (i + 1)).flatMap El.es := by rw [← List.flatMap_append, List.take_append_drop]
        rw [h1, hsucc, List.length_append, List.length_append] at hl
        omega
      refine go ?_
      refine E.ix el_lists hs hp i (v := .slice ls[i].a ls[i].es.length ls[i].c) (by rw [List.getElem?_map, List.getElem?_eq_getElem hil]; rfl) ?_
      intro b3 o3 hc3
      refine go ?_
      refine E.app el_ev hs (ho.row.row hs) ?_ (h1 := evC_one fun e he => (ho.evs e he).1)
      intro a4 c4 w4 _ _ hs
      refine go ?_
      refine A.rd (n - (i + 1)) (i + 1, a4, c4) ⟨rfl, by omega, ?_⟩ (hw := ?_)
      · simp only [hsucc, List.length_append, evC_append]
        exact hs
      · simp only [hsucc, List.length_append]
        exact wk_
    · obtain rfl : i = n := by omega
      have e1 : ls.take i = ls := List.take_of_length_le (by omega)
      rw [e1] at hs ⊢
      refine go ?_
      exact A.mt (a2, c2) hs
  clear hs
  rintro ⟨a2, c2⟩ w2 hs
  simp only at hs ⊢
  obtain ⟨g3, hg3, hp3, hs⟩ := hs.publishOwn
  refine go ?_
  refine E.callf Try.func20 rfl ?_
  refine sort_any (x := ⟨a2, c2, ls.flatMap El.es⟩) ⟨hp3, fun e he => ?_⟩ hl hs ?_
  · obtain ⟨x, hx, he⟩ := List.mem_flatMap.1 he
    exact ⟨((hok x hx).evs e he).1.mono hg3, ((hok x hx).evs e he).2⟩
  intro y w4 g4 hg4 hy hyp hyu hs
  refine go ?_
  refine A.r1 ?_
  exact HR.out y _ g4 (hg3.trans hg4) hy hyp hyu hs
end Go.Proofs.Ytkolnecahlkndaa
