/-
  Layer 12 (order): a cursor: New, Next.
-/
import Derived.Test.YtkolnecahlkndaaHd
namespace Go.Proofs.Ytkolnecahlkndaa
open Go.RowKit
set_option linter.unusedVariables false
set_option linter.unusedSimpArgs false

/-- A list of events, as a slice of the pool's. -/
structure El where
  a : Option Addr
  c : Nat
  es : List Ev
def El.v (x : El) : Value := .slice x.a x.es.length x.c
structure El.ok (x : El) (g : Hl) : Prop where
  row : Pr 8 g x.v x.es.length (evC x.es)
  evs : ∀ e ∈ x.es, e.ok g ∧ e.low
theorem El.ok.mono {x : El} {g g' : Hl} (h : x.ok g) (hg : Hl.le g g') : x.ok g' := ⟨h.row.mono hg, fun e he => ⟨(h.evs e he).1.mono hg, (h.evs e he).2⟩⟩
theorem el_lists : ElemOf Try.prog 29 27 (.slice none 0 0) 1 24 := .of Try.underlying29 (by kernel_rfl) rfl (by decide)
theorem pr_some {s : Nat} {g : Hl} {a : Option Addr} {n c : Nat} {xs : List Value} (h : Pr s g (.slice a n c) n xs) (hn : 0 < n) : ∃ b o, a = some ⟨b, o, none⟩ := by
  obtain ⟨_, a0, c0, e, _, _, _, h0 | ⟨b, o, cur, t, fz, e2, _, _⟩⟩ := h
  · omega
  · simp only [Value.slice.injEq] at e
    exact ⟨b, o, e.1.trans e2⟩
theorem El.toHd {x : El} {g : Hl} (h : x.ok g) (hn : x.es ≠ []) : ∃ y : Hd, y.v = x.v ∧ y.es = x.es ∧ y.ok g := by
  have hl : 0 < x.es.length := by cases hx : x.es <;> simp_all
  obtain ⟨b, o, ha⟩ := pr_some h.row hl
  have ev : (⟨b, o, x.c, x.es⟩ : Hd).v = x.v := by simp only [Hd.v, El.v, ha]
  exact ⟨⟨b, o, x.c, x.es⟩, ev, rfl, ⟨by rw [ev]; exact h.row, hn, h.evs⟩⟩

/-- Rising strictly. -/
def Up1 (l : List Ev) : Prop := l.Pairwise fun a b => a.ky < b.ky
structure CrOk (L : List Hd) (T : List Ev) : Prop where
  heap : Heap (kat Hd.ky L) 0 L.length
  each : ∀ x ∈ L, Up1 x.es
  up : Up1 T
  perm : T.Perm (L.flatMap Hd.es)
  few : L.length ≤ 1000000000
/-- A cursor ahead of these events. -/
def crs (cb : Nat) (T : List Ev) : HP := exs fun L : List Hd => wit (fun _ => CrOk L T) (fun _ _ _ h => h) (cur cb L)
theorem crs_open {W w : World} {g : Hl} {H : List HP} {cb : Nat} {T : List Ev} (hs : Sat W w g (crs cb T :: H)) : ∃ L, CrOk L T ∧ Sat W w g (cur cb L :: H) := by
  obtain ⟨L, h⟩ := hs.unexs
  exact ⟨L, h.unwit⟩
theorem crs_close {W w : World} {g : Hl} {H : List HP} {cb : Nat} {T : List Ev} (L : List Hd) (h : CrOk L T) (hs : Sat W w g (cur cb L :: H)) : Sat W w g (crs cb T :: H) := Sat.mkexs L (Sat.mkwit h hs)

theorem CrOk.root {x : Hd} {L : List Hd} {T : List Ev} (h : CrOk (x :: L) T) (hne : ∀ y ∈ x :: L, y.es ≠ []) : ∃ T', T = x.hd :: T' ∧ T'.Perm (x.es.tail ++ L.flatMap Hd.es) := by
  have hmin : ∀ y ∈ T, x.hd.ky ≤ y.ky := by
    intro y hy
    obtain ⟨z, hz, hyz⟩ := List.mem_flatMap.1 (h.perm.mem_iff.1 hy)
    obtain ⟨q, hq, rfl⟩ := List.mem_iff_getElem.1 hz
    have h1 := heap_min h.heap q hq
    have e0 : kat Hd.ky (x :: L) 0 = x.hd.ky := rfl
    have e1 : kat Hd.ky (x :: L) q = (x :: L)[q].hd.ky := by simp only [kat, List.getElem?_eq_getElem hq]; rfl
    rw [e0, e1] at h1
    have h2 := h.each _ hz
    have hn2 := hne _ hz
    have h3 : (x :: L)[q].hd.ky ≤ y.ky := by
      unfold Up1 at h2
      unfold Hd.hd
      cases hes : (x :: L)[q].es with
      | nil => exact absurd hes hn2
      | cons a r =>
        rw [hes] at h2 hyz
        simp only [List.headD_cons]
        rcases List.mem_cons.1 hyz with rfl | hyr
        · exact Nat.le_refl _
        · exact Nat.le_of_lt ((List.pairwise_cons.1 h2).1 y hyr)
    omega
  have hxne := hne x (List.mem_cons_self ..)
  have hxT : x.hd ∈ T := h.perm.mem_iff.2 (List.mem_flatMap.2 ⟨x, List.mem_cons_self .., Hd.hd_mem hxne⟩)
  cases T with
  | nil => cases hxT
  | cons e T' =>
    have he : x.hd = e := by
      rcases List.mem_cons.1 hxT with h1 | h1
      · exact h1
      · have h2 := (List.pairwise_cons.1 h.up).1 _ h1
        have h3 := hmin e (List.mem_cons_self ..)
        omega
    subst he
    refine ⟨T', rfl, ?_⟩
    have h1 : x.es = x.hd :: x.es.tail := by
      unfold Hd.hd
      cases hes : x.es with
      | nil => exact absurd hes hxne
      | cons a r => rfl
    have h2 := h.perm
    rw [List.flatMap_cons, h1, List.cons_append] at h2
    exact (List.perm_cons _).1 h2

theorem pr_range {W w : World} {g : Hl} {H : List HP} {s m c b o j : Nat} {xs vs : List Value} (hs : Sat W w g H) (hp : Pr s g (.slice (some ⟨b, o, none⟩) m c) m xs) (hj : j < m) (hv : (xs.drop (j * s)).take s = vs) : w.rangeAt b (o + j * s) vs := by
  obtain ⟨h1, a0, c0, e1, hn, hc, hN, h⟩ := hp
  simp only [Value.slice.injEq] at e1
  obtain ⟨rfl, _, rfl⟩ := e1
  rcases h with rfl | ⟨b', o', cur, t', fz, e2, hg, ht⟩
  · omega
  · simp only [Option.some.injEq, Addr.mk.injEq] at e2
    obtain ⟨rfl, rfl, _⟩ := e2
    intro q v hq
    have hb := hs.pool hg
    rw [← hv, List.getElem?_take] at hq
    split at hq
    · rw [List.getElem?_drop, ← ht, List.getElem?_take] at hq
      split at hq
      · rw [List.getElem?_drop] at hq
        simp only [World.cell?, hb]
        rw [show o + j * s + q = o + (j * s + q) by omega]
        simpa using hq
      · cases hq
    · cases hq
theorem pr_head {W w : World} {g : Hl} {H : List HP} {x : Hd} (hs : Sat W w g H) (h : x.ok g) : w.rangeAt x.b x.o x.hd.cs := by
  have hl : 0 < x.es.length := by have := h.ne; cases hx : x.es <;> simp_all
  have := pr_range hs h.row hl (evC_at hl)
  rw [hd_zero hl] at this
  simpa using this

/-- No event. -/
def evZ : Value := .agg #[.int .i64 0, .int .u64 0, .int .u64 0, .int .u8 0, .string ⟨#[]⟩, .slice none 0 0, .float .f64 0, .int .i64 0]
set_option maxHeartbeats 1600000 in
set_option maxRecDepth 100000 in
theorem next_any {R : Ending → World → Prop} {W w : World} {g : Hl} {H : List HP} {cb : Nat} {T : List Ev} (hs : Sat W w g (crs cb T :: H))
    (h0 : T = [] → ∀ w', Sat W w' g (crs cb [] :: H) → R (.returned (.tuple #[evZ, .bool false])) w')
    (h1 : ∀ e T', T = e :: T' → e.ok g → e.low → ∀ w', Sat W w' g (crs cb T' :: H) → R (.returned (.tuple #[e.val, .bool true])) w') : Calls Try.prog 51 #[ptr cb] w R := by
  have HR0 := Lib.hid h0
  have HR1 := Lib.hid h1
  clear h0 h1
  have ag1 := ag_ev
  obtain ⟨L, hc, hs'⟩ := crs_open hs
  clear hs
  have hs := hs'
  clear hs'
  cases L with
  | nil =>
    have hT : T = [] := List.eq_nil_of_length_eq_zero (by have := hc.perm.length_eq; simpa using this)
    obtain ⟨a, c, hok, hs⟩ := cur_open hs
    refine C.calls (args := [.pointer (some ⟨cb, 0, none⟩)]) Try.func51 rfl rfl rfl ?_
    refine go ?_
    refine E.al hs ?_
    intro b2 w2 hs
    refine go ?_
    refine E.sto (vs := [.int .i64 0, .int .u64 0, .int .u64 0, .int .u8 0, .string ⟨#[]⟩, .slice none 0 0, .float .f64 0, .int .i64 0]) hs ?_ (hv := rfl)
    intro w3 hs
    refine go ?_
    refine A.c1t1 rfl rfl rfl (run_lda hs ag_ev) ?_
    subst hT
    exact HR0.out rfl _ (crs_close [] hc (cur_close rfl hok hs.drop))
  | cons x L =>
  obtain ⟨a, c, hok, hs⟩ := cur_open hs
  have hx := hok x (List.mem_cons_self ..)
  obtain ⟨T', rfl, hperm⟩ := hc.root fun y hy => (hok y hy).ne
  have hev := hx.evs _ (Hd.hd_mem hx.ne)
  have HR := Lib.hid (HR1.out x.hd T' rfl hev.1 hev.2)
  clear HR0 HR1
  have hxl : 0 < x.es.length := by have := hx.ne; cases h : x.es <;> simp_all
  obtain ⟨_, _, eq, hnc, hcm, _⟩ := Sat.ownLen hs.swap
  simp only [Value.slice.injEq] at eq
  obtain ⟨rfl, -, rfl⟩ := eq
  obtain ⟨hb, ys, rfl, hyc, _, _, hyt, hs⟩ := own_open (by simp) hs.swap
  have hy : ys[0]? = some (.slice (some ⟨x.b, x.o, none⟩) x.es.length x.c) := by
    have : (ys.take (x :: L).length)[0]? = ((x :: L).map Hd.v)[0]? := by rw [hyt]
    rw [List.getElem?_take, if_pos (by simp)] at this
    exact this
  have hlc : (x :: L).length = L.length + 1 := rfl
  have hf := hc.few
  refine C.calls (args := [.pointer (some ⟨cb, 0, none⟩)]) Try.func51 rfl rfl rfl ?_
  refine go ?_
  refine E.al hs ?_
  intro b2 w2 hs
  refine go ?_
  refine E.ld hs ?_ (hj := hy)
  refine go ?_
  refine E.ldr (pr_head hs hx) ag_ev rfl ?_
  refine E.al hs ?_
  intro b4 w4 hs
  refine E.sto (vs := x.hd.cs) (ys := x.hd.cs) hs ?_ (hv := rfl) (hsp := spl_all (by rfl)) (h1 := Ev.cs_one hev.1)
  intro w5 hs
  refine go ?_
  refine E.ld hs ?_ (hj := hy)
  refine go ?_
  refine E.slp el_ev hx.row 1 x.es.length ?_
  intro a6 c6 hp6
  have e6 : ((evC x.es).drop (1 * 8)).take ((x.es.length - 1) * 8) = evC x.es.tail := by
    rw [evC_drop, evC_take, List.drop_one, List.take_of_length_le (by simp)]
  rw [e6] at hp6
  have hup : Up1 T' := (List.pairwise_cons.1 hc.up).2
  have hxup : Up1 x.es.tail := by
    have := hc.each x (List.mem_cons_self ..)
    exact this.sublist (List.tail_sublist _)
  have hf' := hc.few
  simp only [List.length_cons] at hf'
  have tl : x.es.tail.length = x.es.length - 1 := List.length_tail
  refine go ?_
  cases hz : decide ((0 : Int) < ((x.es.length - 1 : Nat) : Int)) with
  | true =>
    have hz := of_decide_eq_true hz
    obtain ⟨b7, o7, rfl⟩ := pr_some hp6 (by omega)
    have hx' : (⟨b7, o7, c6, x.es.tail⟩ : Hd).ok g := by
      refine ⟨?_, fun h => by simp only at h; rw [h] at tl; simp at tl; omega, fun e he => hx.evs e (List.mem_of_mem_tail he)⟩
      simp only [Hd.v, tl]
      exact hp6
    have hok' : ∀ y ∈ (⟨b7, o7, c6, x.es.tail⟩ : Hd) :: L, y.ok g := fun y hy => by
      rcases List.mem_cons.1 hy with rfl | hy
      · exact hx'
      · exact hok y (List.mem_cons_of_mem _ hy)
    refine go ?_
    refine E.sto (vs := [.slice (some ⟨b7, o7, none⟩) (x.es.length - 1) c6]) (ys := ys.set 0 (.slice (some ⟨b7, o7, none⟩) (x.es.length - 1) c6)) hs ?_ (hv := rfl) (hsp := rfl) (hj := Nat.ble_eq ▸ (by simp only [List.length_cons, List.length_nil]; omega))
    intro w8 hs
    have hyt' : (ys.set 0 (.slice (some ⟨b7, o7, none⟩) (x.es.length - 1) c6)).take (x :: L).length = ((⟨b7, o7, c6, x.es.tail⟩ : Hd) :: L).map Hd.v := by
      rw [List.take_set, hyt]
      simp only [List.map_cons, List.set_cons_zero, Hd.v, tl]
    have hs := cur_close (cb := cb) (L := ⟨b7, o7, c6, x.es.tail⟩ :: L) (n := (x :: L).length) rfl hok' ((own_close (by simpa using hyc) hnc hcm hyt' hs.pull2).pull3)
    have hinv : HInv (kat Hd.ky ((⟨b7, o7, c6, x.es.tail⟩ : Hd) :: L)) 0 ((⟨b7, o7, c6, x.es.tail⟩ : Hd) :: L).length 0 := by
      refine heap_root (f := kat Hd.ky (x :: L)) hc.heap fun q h1 h2 => ?_
      obtain ⟨q, rfl⟩ : ∃ m, q = m + 1 := ⟨q - 1, by omega⟩
      rfl
    refine go ?_
    refine E.callf Try.func66 rfl ?_
    refine fix_any (by simp only [List.length_cons]; exact hf') hinv hs ?_
    intro w9 L2 hp2 hh2 hs
    refine go ?_
    refine E.sto (vs := x.hd.cs) (ys := x.hd.cs) hs ?_ (hv := rfl) (hf := .there (.there .here)) (hsp := spl_all (by rfl)) (h1 := Ev.cs_one hev.1)
    intro w10 hs
    refine go ?_
    refine A.c1t1 rfl rfl rfl (run_lda hs ag_ev (hf := .there (.there .here))) ?_
    refine HR.out _ (crs_close L2 ⟨hh2, fun y hy => ?_, hup, ?_, by rw [hp2.length_eq]; exact hf'⟩ (hs.swap.drop.swap.drop))
    · rcases List.mem_cons.1 (hp2.mem_iff.1 hy) with rfl | hy
      · exact hxup
      · exact hc.each y (List.mem_cons_of_mem _ hy)
    · have hfm : (L2.flatMap Hd.es).Perm (x.es.tail ++ L.flatMap Hd.es) := hp2.flatMap_right Hd.es
      exact hperm.trans hfm.symm
  | false =>
    have hz := of_decide_eq_false hz
    have htl : x.es.tail = [] := List.eq_nil_of_length_eq_zero (by omega)
    rw [htl, List.nil_append] at hperm
    have hs := cur_close (cb := cb) (L := x :: L) (n := (x :: L).length) rfl hok ((own_close hyc hnc hcm hyt hs.pull2).pull3)
    refine go ?_
    refine E.callf Try.func67 rfl ?_
    refine heapPop_any hc.few hc.heap hs ?_
    intro w9 v9 L2 hp2 hh2 hs
    refine go ?_
    refine E.sto (vs := x.hd.cs) (ys := x.hd.cs) hs ?_ (hv := rfl) (hf := .there (.there .here)) (hsp := spl_all (by rfl)) (h1 := Ev.cs_one hev.1)
    intro w10 hs
    refine go ?_
    refine A.c1t1 rfl rfl rfl (run_lda hs ag_ev (hf := .there (.there .here))) ?_
    refine HR.out _ (crs_close L2 ⟨hh2, fun y hy => hc.each y (List.mem_cons_of_mem _ (hp2.mem_iff.1 hy)), hup, ?_, by rw [hp2.length_eq]; omega⟩ (hs.swap.drop.swap.drop))
    exact hperm.trans (hp2.flatMap_right _).symm

set_option maxHeartbeats 1600000 in
set_option maxRecDepth 100000 in
theorem crsNew_any {R : Ending → World → Prop} {W w : World} {g : Hl} {H : List HP} {a : Option Addr} {n c : Nat} {ls : List El} {T : List Ev} (hp : Pr 1 g (.slice a n c) n (ls.map El.v)) (hn : ls.length = n) (hn2 : n ≤ 1000000000) (hok : ∀ x ∈ ls, x.ok g) (hup : ∀ x ∈ ls, Up1 x.es) (hT : Up1 T) (hperm : T.Perm (ls.flatMap El.es)) (hs : Sat W w g H)
    (hR : ∀ cb w', Sat W w' g (crs cb T :: H) → R (.returned (ptr cb)) w') : Calls Try.prog 49 #[.slice a n c] w R := by
  have HR := Lib.hid hR
  clear hR
  refine C.calls (args := [.slice a n c]) Try.func49 rfl rfl rfl ?_
  refine go ?_
  refine E.bx hs ?_
  intro cb w1 hs
  refine gob ?_
  refine C.cut (fun _ : Unit => [(3, .pointer (some ⟨cb, 0, none⟩))]) (fun _ w => ∃ L : List Hd, (∀ x ∈ L, Up1 x.es) ∧ L.flatMap Hd.es = ls.flatMap El.es ∧ L.length ≤ n ∧ Sat W w g (cur cb L :: H)) ?_ ?_
  · refine C.block ?_
    refine C.lp (fun i : Nat => [(3, .pointer (some ⟨cb, 0, none⟩)), (8, .slice a n c), (9, .int .i64 n), (10, .int .i64 i)])
      (fun gk i w => gk = n - i ∧ i ≤ n ∧ ∃ L : List Hd, (∀ x ∈ L, Up1 x.es) ∧ L.flatMap Hd.es = (ls.take i).flatMap El.es ∧ L.length ≤ i ∧ Sat W w g (cur cb L :: H)) n 0 ⟨rfl, Nat.zero_le _, [], by simp, by simp, Nat.le_refl _, cur_close rfl (by simp) hs.nilOwn.swap⟩ ?_
    clear hs
    rintro gk i w2 ⟨rfl, hi, L, hLu, hLf, hLl, hs⟩
    refine go ?_
    refine C.cond_dec (p := (i : Int) < n) rfl (fun h => ?_) (fun h => ?_)
    · have hil : i < ls.length := by omega
      have ho := hok ls[i] (List.getElem_mem hil)
      refine go ?_
      refine E.ix el_lists hs hp i (v := .slice ls[i].a ls[i].es.length ls[i].c) (by rw [List.getElem?_map, List.getElem?_eq_getElem hil]; rfl) ?_
      intro b3 o3 hc3
      refine go ?_
      have hsucc : (ls.take (i + 1)).flatMap El.es = (ls.take i).flatMap El.es ++ ls[i].es := by
        rw [List.take_succ_eq_append_getElem hil, List.flatMap_append]; simp
      cases hz : decide ((0 : Int) < (ls[i].es.length : Nat)) with
      | true =>
        have hz := of_decide_eq_true hz
        obtain ⟨y, hyv, hye, hyo⟩ := El.toHd ho (fun h => by rw [h] at hz; simp at hz)
        obtain ⟨a4, c4, hokL, hs⟩ := cur_open hs
        refine go ?_
        refine E.bsl hs ?_
        intro b5 w5 hs
        have hrow5 := hs.rowOf (size := 1) 1 rfl (by decide)
        refine E.app el_hds hs.pull2 hrow5 ?_
        intro a6 c6 w6 _ _ hs
        refine go ?_
        refine E.sto hs ?_
        intro w7 hs
        refine go ?_
        refine A.rd (n - (i + 1)) (i + 1) ⟨rfl, by omega, L ++ [y], ?_, ?_, by simp; omega, ?_⟩
        · intro x hx
          rcases List.mem_append.1 hx with hx | hx
          · exact hLu x hx
          · simp only [List.mem_singleton] at hx
            subst hx
            rw [hye]
            exact hup _ (List.getElem_mem hil)
        · rw [hsucc, List.flatMap_append, hLf]
          simp [hye]
        · refine cur_close (n := L.length + 1) (by simp) ?_ ?_ (a := a6) (c := c6)
          · intro x hx
            rcases List.mem_append.1 hx with hx | hx
            · exact hokL x hx
            · simp only [List.mem_singleton] at hx
              subst hx
              exact hyo
          · have e1 : (L ++ [y]).map Hd.v = L.map Hd.v ++ [.slice ls[i].a ls[i].es.length ls[i].c] := by
              rw [List.map_append, List.map_cons, List.map_nil, hyv]; rfl
            unfold hrow
            rw [e1]
            exact (hs.swap.drop).swap
      | false =>
        have hz := of_decide_eq_false hz
        refine go ?_
        refine A.rd (n - (i + 1)) (i + 1) ⟨rfl, by omega, L, hLu, ?_, by omega, hs⟩
        have : ls[i].es = [] := List.eq_nil_of_length_eq_zero (by omega)
        rw [hsucc, hLf, this, List.append_nil]
    · obtain rfl : i = n := by omega
      rw [List.take_of_length_le (by omega)] at hLf
      refine go ?_
      exact A.mt () ⟨L, hLu, hLf, by omega, hs⟩
  clear hs
  rintro _ w8 ⟨L, hLu, hLf, hLl, hs⟩
  refine go ?_
  refine E.callf Try.func65 rfl ?_
  refine init_any (by omega) hs ?_
  intro w9 L2 hp2 hh2 hs
  refine go ?_
  refine A.r1 ?_
  refine HR.out _ _ (crs_close L2 ⟨hh2, fun x hx => hLu x (hp2.mem_iff.1 hx), hT, ?_, by rw [hp2.length_eq]; omega⟩ hs)
  rw [← hLf] at hperm
  exact hperm.trans (hp2.flatMap_right Hd.es).symm
end Go.Proofs.Ytkolnecahlkndaa
