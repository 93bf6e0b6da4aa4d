/-
  Layer 12 (order): a cursor: New, Next.
-/
import Derived.Test.YtkolnecahlkndaaGreatMd
namespace Go.Proofs.YtkolnecahlkndaaGreat
open Go.RowKit
set_option linter.unusedVariables false
set_option linter.unusedSimpArgs false

/-- A list of events, as a slice of the pool's. -/
structure El where
  a : Option Addr
  c : Nat
  es : List Ev
def El.v (x : El) : Value := .slice x.a x.es.length x.c
structure El.ok (x : El) (g : Hl) : Prop where
  row : Pr 8 g x.v x.es.length (evC x.es)
  evs : ∀ e ∈ x.es, e.ok g ∧ e.low
theorem El.ok.mono {x : El} {g g' : Hl} (h : x.ok g) (hg : Hl.le g g') : x.ok g' := ⟨h.row.mono hg, fun e he => ⟨(h.evs e he).1.mono hg, (h.evs e he).2⟩⟩
theorem el_lists : ElemOf Tryz.prog 26 24 (.slice none 0 0) 1 24 := .of Tryz.underlying26 (by kernel_rfl) rfl (by decide)
theorem pr_some {s : Nat} {g : Hl} {a : Option Addr} {n c : Nat} {xs : List Value} (h : Pr s g (.slice a n c) n xs) (hn : 0 < n) : ∃ b o, a = some ⟨b, o, none⟩ := by
  obtain ⟨_, a0, c0, e, _, _, _, h0 | ⟨b, o, cur, t, fz, e2, _, _⟩⟩ := h
  · omega
  · simp only [Value.slice.injEq] at e
    exact ⟨b, o, e.1.trans e2⟩
theorem El.toHd {x : El} {g : Hl} (h : x.ok g) (hn : x.es ≠ []) : ∃ y : Hd, y.v = x.v ∧ y.es = x.es ∧ y.ok g := by
  have hl : 0 < x.es.length := by cases hx : x.es <;> simp_all
  obtain ⟨b, o, ha⟩ := pr_some h.row hl
  have ev : (⟨b, o, x.c, x.es⟩ : Hd).v = x.v := by simp only [Hd.v, El.v, ha]
  exact ⟨⟨b, o, x.c, x.es⟩, ev, rfl, ⟨by rw [ev]; exact h.row, hn, h.evs⟩⟩

/-- Rising strictly. -/
def Up1 (l : List Ev) : Prop := l.Pairwise fun a b => a.ky < b.ky
structure CrOk (L : List Hd) (T : List Ev) : Prop where
  heap : Heap (kat Hd.ky L) 0 L.length
  each : ∀ x ∈ L, Up1 x.es
  up : Up1 T
  perm : T.Perm (L.flatMap Hd.es)
  few : L.length ≤ 1000000000
/-- A cursor ahead of these events. -/
def crs (cb : Nat) (T : List Ev) : HP := exs fun L : List Hd => wit (fun _ => CrOk L T) (fun _ _ _ h => h) (cur cb L)
theorem crs_open {W w : World} {g : Hl} {H : List HP} {cb : Nat} {T : List Ev} (hs : Sat W w g (crs cb T :: H)) : ∃ L, CrOk L T ∧ Sat W w g (cur cb L :: H) := by
  obtain ⟨L, h⟩ := hs.unexs
  exact ⟨L, h.unwit⟩
theorem crs_close {W w : World} {g : Hl} {H : List HP} {cb : Nat} {T : List Ev} (L : List Hd) (h : CrOk L T) (hs : Sat W w g (cur cb L :: H)) : Sat W w g (crs cb T :: H) := Sat.mkexs L (Sat.mkwit h hs)

theorem CrOk.root {x : Hd} {L : List Hd} {T : List Ev} (h : CrOk (x :: L) T) (hne : ∀ y ∈ x :: L, y.es ≠ []) : ∃ T', T = x.hd :: T' ∧ T'.Perm (x.es.tail ++ L.flatMap Hd.es) := by
  have hmin : ∀ y ∈ T, x.hd.ky ≤ y.ky := by
    intro y hy
    obtain ⟨z, hz, hyz⟩ := List.mem_flatMap.1 (h.perm.mem_iff.1 hy)
    obtain ⟨q, hq, rfl⟩ := List.mem_iff_getElem.1 hz
    have h1 := heap_min h.heap q hq
    have e0 : kat Hd.ky (x :: L) 0 = x.hd.ky := rfl
    have e1 : kat Hd.ky (x :: L) q = (x :: L)[q].hd.ky := by simp only [kat, List.getElem?_eq_getElem hq]; rfl
    rw [e0, e1] at h1
    have h2 := h.each _ hz
    have hn2 := hne _ hz
    have h3 : (x :: L)[q].hd.ky ≤ y.ky := by
      unfold Up1 at h2
      unfold Hd.hd
      cases hes : (x :: L)[q].es with
      | nil => exact absurd hes hn2
      | cons a r =>
        rw [hes] at h2 hyz
        simp only [List.headD_cons]
        rcases List.mem_cons.1 hyz with rfl | hyr
        · exact Nat.le_refl _
        · exact Nat.le_of_lt ((List.pairwise_cons.1 h2).1 y hyr)
    omega
  have hxne := hne x (List.mem_cons_self ..)
  have hxT : x.hd ∈ T := h.perm.mem_iff.2 (List.mem_flatMap.2 ⟨x, List.mem_cons_self .., Hd.hd_mem hxne⟩)
  cases T with
  | nil => cases hxT
  | cons e T' =>
    have he : x.hd = e := by
      rcases List.mem_cons.1 hxT with h1 | h1
      · exact h1
      · have h2 := (List.pairwise_cons.1 h.up).1 _ h1
        have h3 := hmin e (List.mem_cons_self ..)
        omega
    subst he
    refine ⟨T', rfl, ?_⟩
    have h1 : x.es = x.hd :: x.es.tail := by
      unfold Hd.hd
      cases hes : x.es with
      | nil => exact absurd hes hxne
      | cons a r => rfl
    have h2 := h.perm
    rw [List.flatMap_cons, h1, List.cons_append] at h2
    exact (List.perm_cons _).1 h2

theorem pr_range {W w : World} {g : Hl} {H : List HP} {s m c b o j : Nat} {xs vs : List Value} (hs : Sat W w g H) (hp : Pr s g (.slice (some ⟨b, o, none⟩) m c) m xs) (hj : j < m) (hv : (xs.drop (j * s)).take s = vs) : w.rangeAt b (o + j * s) vs := by
  obtain ⟨h1, a0, c0, e1, hn, hc, hN, h⟩ := hp
  simp only [Value.slice.injEq] at e1
  obtain ⟨rfl, _, rfl⟩ := e1
  rcases h with rfl | ⟨b', o', cur, t', fz, e2, hg, ht⟩
  · omega
  · simp only [Option.some.injEq, Addr.mk.injEq] at e2
    obtain ⟨rfl, rfl, _⟩ := e2
    intro q v hq
    have hb := hs.pool hg
    rw [← hv, List.getElem?_take] at hq
    split at hq
    · rw [List.getElem?_drop, ← ht, List.getElem?_take] at hq
      split at hq
      · rw [List.getElem?_drop] at hq
        simp only [World.cell?, hb]
        rw [show o + j * s + q = o + (j * s + q) by omega]
        simpa using hq
      · cases hq
    · cases hq
theorem pr_head {W w : World} {g : Hl} {H : List HP} {x : Hd} (hs : Sat W w g H) (h : x.ok g) : w.rangeAt x.b x.o x.hd.cs := by
  have hl : 0 < x.es.length := by have := h.ne; cases hx : x.es <;> simp_all
  have := pr_range hs h.row hl (evC_at hl)
  rw [hd_zero hl] at this
  simpa using this

/-- No event. -/
def evZ : Value := .agg #[.int .i64 0, .int .u64 0, .int .u64 0, .int .u8 0, .string ⟨#[]⟩, .slice none 0 0, .float .f64 0, .int .i64 0]
set_option maxHeartbeats 1600000 in
set_option maxRecDepth 100000 in
theorem next_any {R : Ending → World → Prop} {W w : World} {g : Hl} {H : List HP} {cb : Nat} {T : List Ev} (hs : Sat W w g (crs cb T :: H))
    (h0 : T = [] → ∀ w', Sat W w' g (crs cb [] :: H) → R (.returned (.tuple #[evZ, .bool false])) w')
    (h1 : ∀ e T', T = e :: T' → e.ok g → e.low → ∀ w', Sat W w' g (crs cb T' :: H) → R (.returned (.tuple #[e.val, .bool true])) w') : Calls Tryz.prog 71 #[ptr cb] w R := by
  have HR0 := Lib.hid h0
  have HR1 := Lib.hid h1
  clear h0 h1
  have ag1 := ag_ev
  obtain ⟨L, hc, hs'⟩ := crs_open hs
  clear hs
  have hs := hs'
  clear hs'
  cases L with
  | nil =>
    have hT : T = [] := List.eq_nil_of_length_eq_zero (by have := hc.perm.length_eq; simpa using this)
    obtain ⟨a, c, hok, hs⟩ := cur_open hs
    refine C.calls (args := [.pointer (some ⟨cb, 0, none⟩)]) Tryz.func71 rfl rfl rfl ?_
    refine go ?_
    refine E.al hs ?_
    intro b2 w2 hs
    refine go ?_
    refine E.sto (vs := [.int .i64 0, .int .u64 0, .int .u64 0, .int .u8 0, .string ⟨#[]⟩, .slice none 0 0, .float .f64 0, .int .i64 0]) hs ?_ (hv := rfl)
    intro w3 hs
    refine go ?_
    refine A.c1t1 rfl rfl rfl (run_lda hs ag_ev) ?_
    subst hT
    exact HR0.out rfl _ (crs_close [] hc (cur_close rfl hok hs.drop))
  | cons x L =>
  obtain ⟨a, c, hok, hs⟩ := cur_open hs
  have hx := hok x (List.mem_cons_self ..)
  obtain ⟨T', rfl, hperm⟩ := hc.root fun y hy => (hok y hy).ne
  have hev := hx.evs _ (Hd.hd_mem hx.ne)
  have HR := Lib.hid (HR1.out x.hd T' rfl hev.1 hev.2)
  clear HR0 HR1
  have hxl : 0 < x.es.length := by have := hx.ne; cases h : x.es <;> simp_all
  obtain ⟨_, _, eq, hnc, hcm, _⟩ := Sat.ownLen hs.swap
  simp only [Value.slice.injEq] at eq
  obtain ⟨rfl, -, rfl⟩ := eq
  obtain ⟨hb, ys, rfl, hyc, _, _, hyt, hs⟩ := own_open (by simp) hs.swap
  have hy : ys[0]? = some (.slice (some ⟨x.b, x.o, none⟩) x.es.length x.c) := by
    have : (ys.take (x :: L).length)[0]? = ((x :: L).map Hd.v)[0]? := by rw [hyt]
    rw [List.getElem?_take, if_pos (by simp)] at this
    exact this
  have hlc : (x :: L).length = L.length + 1 := rfl
  have hf := hc.few
  refine C.calls (args := [.pointer (some ⟨cb, 0, none⟩)]) Tryz.func71 rfl rfl rfl ?_
  refine go ?_
  refine E.al hs ?_
  intro b2 w2 hs
  refine go ?_
  refine E.ld hs ?_ (hj := hy)
  refine go ?_
  refine E.ldr (pr_head hs hx) ag_ev rfl ?_
  refine E.al hs ?_
  intro b4 w4 hs
  refine E.sto (vs := x.hd.cs) (ys := x.hd.cs) hs ?_ (hv := rfl) (hsp := spl_all (by rfl)) (h1 := Ev.cs_one hev.1)
  intro w5 hs
  refine go ?_
  refine E.ld hs ?_ (hj := hy)
  refine go ?_
  refine E.slp el_ev hx.row 1 x.es.length ?_
  intro a6 c6 hp6
  have e6 : ((evC x.es).drop (1 * 8)).take ((x.es.length - 1) * 8) = evC x.es.tail := by
    rw [evC_drop, evC_take, List.drop_one, List.take_of_length_le (by simp)]
  rw [e6] at hp6
  have hup : Up1 T' := (List.pairwise_cons.1 hc.up).2
  have hxup : Up1 x.es.tail := by
    have := hc.each x (List.mem_cons_self ..)
    exact this.sublist (List.tail_sublist _)
  have hf' := hc.few
  simp only [List.length_cons] at hf'
  have tl : x.es.tail.length = x.es.length - 1 := List.length_tail
  refine go ?_
  cases hz : decide ((0 : Int) < ((x.es.length - 1 : Nat) : Int)) with
  | true =>
    have hz := of_decide_eq_true hz
    obtain ⟨b7, o7, rfl⟩ := pr_some hp6 (by omega)
    have hx' : (⟨b7, o7, c6, x.es.tail⟩ : Hd).ok g := by
      refine ⟨?_, fun h => by simp only at h; rw [h] at tl; simp at tl; omega, fun e he => hx.evs e (List.mem_of_mem_tail he)⟩
      simp only [Hd.v, tl]
      exact hp6
    have hok' : ∀ y ∈ (⟨b7, o7, c6, x.es.tail⟩ : Hd) :: L, y.ok g := fun y hy => by
      rcases List.mem_cons.1 hy with rfl | hy
      · exact hx'
      · exact hok y (List.mem_cons_of_mem _ hy)
    refine go ?_
    refine E.sto (vs := [.slice (some ⟨b7, o7, none⟩) (x.es.length - 1) c6]) (ys := ys.set 0 (.slice (some ⟨b7, o7, none⟩) (x.es.length - 1) c6)) hs ?_ (hv := rfl) (hsp := rfl) (hj := Nat.ble_eq ▸ (by simp only [List.length_cons, List.length_nil]; omega))
    intro w8 hs
    have hyt' : (ys.set 0 (.slice (some ⟨b7, o7, none⟩) (x.es.length - 1) c6)).take (x :: L).length = ((⟨b7, o7, c6, x.es.tail⟩ : Hd) :: L).map Hd.v := by
      rw [List.take_set, hyt]
      simp only [List.map_cons, List.set_cons_zero, Hd.v, tl]
    have hs := cur_close (cb := cb) (L := ⟨b7, o7, c6, x.es.tail⟩ :: L) (n := (x :: L).length) rfl hok' ((own_close (by simpa using hyc) hnc hcm hyt' hs.pull2).pull3)
    have hinv : HInv (kat Hd.ky ((⟨b7, o7, c6, x.es.tail⟩ : Hd) :: L)) 0 ((⟨b7, o7, c6, x.es.tail⟩ : Hd) :: L).length 0 := by
      refine heap_root (f := kat Hd.ky (x :: L)) hc.heap fun q h1 h2 => ?_
      obtain ⟨q, rfl⟩ : ∃ m, q = m + 1 := ⟨q - 1, by omega⟩
      rfl
    refine go ?_
    refine E.callf Tryz.func92 rfl ?_
    refine fix_any (by simp only [List.length_cons]; exact hf') hinv hs ?_
    intro w9 L2 hp2 hh2 hs
    refine go ?_
    refine E.sto (vs := x.hd.cs) (ys := x.hd.cs) hs ?_ (hv := rfl) (hf := .there (.there .here)) (hsp := spl_all (by rfl)) (h1 := Ev.cs_one hev.1)
    intro w10 hs
    refine go ?_
    refine A.c1t1 rfl rfl rfl (run_lda hs ag_ev (hf := .there (.there .here))) ?_
    refine HR.out _ (crs_close L2 ⟨hh2, fun y hy => ?_, hup, ?_, by rw [hp2.length_eq]; exact hf'⟩ (hs.swap.drop.swap.drop))
    · rcases List.mem_cons.1 (hp2.mem_iff.1 hy) with rfl | hy
      · exact hxup
      · exact hc.each y (List.mem_cons_of_mem _ hy)
    · have hfm : (L2.flatMap Hd.es).Perm (x.es.tail ++ L.flatMap Hd.es) := hp2.flatMap_right Hd.es
      exact hperm.trans hfm.symm
  | false =>
    have hz := of_decide_eq_false hz
    have htl : x.es.tail = [] := List.eq_nil_of_length_eq_zero (by omega)
    rw [htl, List.nil_append] at hperm
    have hs := cur_close (cb := cb) (L := x :: L) (n := (x :: L).length) rfl hok ((own_close hyc hnc hcm hyt hs.pull2).pull3)
    refine go ?_
    refine E.callf Tryz.func93 rfl ?_
    refine heapPop_any hc.few hc.heap hs ?_
    intro w9 v9 L2 hp2 hh2 hs
    refine go ?_
    refine E.sto (vs := x.hd.cs) (ys := x.hd.cs) hs ?_ (hv := rfl) (hf := .there (.there .here)) (hsp := spl_all (by rfl)) (h1 := Ev.cs_one hev.1)
    intro w10 hs
    refine go ?_
    refine A.c1t1 rfl rfl rfl (run_lda hs ag_ev (hf := .there (.there .here))) ?_
    refine HR.out _ (crs_close L2 ⟨hh2, fun y hy => hc.each y (List.mem_cons_of_mem _ (hp2.mem_iff.1 hy)), hup, ?_, by rw [hp2.length_eq]; omega⟩ (hs.swap.drop.swap.drop))
    exact hperm.trans (hp2.flatMap_right _).symm

set_option maxHeartbeats 1600000 in
set_option maxRecDepth 100000 in
theorem crsNew_any {R : Ending → World → Prop} {W w : World} {g : Hl} {H : List HP} {a : Option Addr} {n c : Nat} {ls : List El} {T : List Ev} (hp : Pr 1 g (.slice a n c) n (ls.map El.v)) (hn : ls.length = n) (hn2 : n ≤ 1000000000) (hok : ∀ x ∈ ls, x.ok g) (hup : ∀ x ∈ ls, Up1 x.es) (hT : Up1 T) (hperm : T.Perm (ls.flatMap El.es)) (hs : Sat W w g H)
    (hR : ∀ cb w', Sat W w' g (crs cb T :: H) → R (.returned (ptr cb)) w') : Calls Tryz.prog 69 #[.slice a n c] w R := by
  have HR := Lib.hid hR
  clear hR
  refine C.calls (args := [.slice a n c]) Tryz.func69 rfl rfl rfl ?_
  refine go ?_
  refine E.bx hs ?_
  intro cb w1 hs
  refine gob ?_
  refine C.cut (fun _ : Unit => [(3, .pointer (some ⟨cb, 0, none⟩))]) (fun _ w => ∃ L : List Hd, (∀ x ∈ L, Up1 x.es) ∧ L.flatMap Hd.es = ls.flatMap El.es ∧ L.length ≤ n ∧ Sat W w g (cur cb L :: H)) ?_ ?_
  · refine C.block ?_
    refine C.lp (fun i : Nat => [(3, .pointer (some ⟨cb, 0, none⟩)), (8, .slice a n c), (9, .int .i64 n), (10, .int .i64 i)])
      (fun gk i w => gk = n - i ∧ i ≤ n ∧ ∃ L : List Hd, (∀ x ∈ L, Up1 x.es) ∧ L.flatMap Hd.es = (ls.take i).flatMap El.es ∧ L.length ≤ i ∧ Sat W w g (cur cb L :: H)) n 0 ⟨rfl, Nat.zero_le _, [], by simp, by simp, Nat.le_refl _, cur_close rfl (by simp) hs.nilOwn.swap⟩ ?_
    clear hs
    rintro gk i w2 ⟨rfl, hi, L, hLu, hLf, hLl, hs⟩
    refine go ?_
    refine C.cond_dec (p := (i : Int) < n) rfl (fun h => ?_) (fun h => ?_)
    · have hil : i < ls.length := by omega
      have ho := hok ls[i] (List.getElem_mem hil)
      refine go ?_
      refine E.ix el_lists hs hp i (v := .slice ls[i].a ls[i].es.length ls[i].c) (by rw [List.getElem?_map, List.getElem?_eq_getElem hil]; rfl) ?_
      intro b3 o3 hc3
      refine go ?_
      have hsucc : (ls.take (i + 1)).flatMap El.es = (ls.take i).flatMap El.es ++ ls[i].es := by
        rw [List.take_succ_eq_append_getElem hil, List.flatMap_append]; simp
      cases hz : decide ((0 : Int) < (ls[i].es.length : Nat)) with
      | true =>
        have hz := of_decide_eq_true hz
        obtain ⟨y, hyv, hye, hyo⟩ := El.toHd ho (fun h => by rw [h] at hz; simp at hz)
        obtain ⟨a4, c4, hokL, hs⟩ := cur_open hs
        refine go ?_
        refine E.bsl hs ?_
        intro b5 w5 hs
        have hrow5 := hs.rowOf (size := 1) 1 rfl (by decide)
        refine E.app el_hds hs.pull2 hrow5 ?_
        intro a6 c6 w6 _ _ hs
        refine go ?_
        refine E.sto hs ?_
        intro w7 hs
        refine go ?_
        refine A.rd (n - (i + 1)) (i + 1) ⟨rfl, by omega, L ++ [y], ?_, ?_, by simp; omega, ?_⟩
        · intro x hx
          rcases List.mem_append.1 hx with hx | hx
          · exact hLu x hx
          · simp only [List.mem_singleton] at hx
            subst hx
            rw [hye]
            exact hup _ (List.getElem_mem hil)
        · rw [hsucc, List.flatMap_append, hLf]
          simp [hye]
        · refine cur_close (n := L.length + 1) (by simp) ?_ ?_ (a := a6) (c := c6)
          · intro x hx
            rcases List.mem_append.1 hx with hx | hx
            · exact hokL x hx
            · simp only [List.mem_singleton] at hx
              subst hx
              exact hyo
          · have e1 : (L ++ [y]).map Hd.v = L.map Hd.v ++ [.slice ls[i].a ls[i].es.length ls[i].c] := by
              rw [List.map_append, List.map_cons, List.map_nil, hyv]; rfl
            unfold hrow
            rw [e1]
            exact (hs.swap.drop).swap
      | false =>
        have hz := of_decide_eq_false hz
        refine go ?_
        refine A.rd (n - (i + 1)) (i + 1) ⟨rfl, by omega, L, hLu, ?_, by omega, hs⟩
        have : ls[i].es = [] := List.eq_nil_of_length_eq_zero (by omega)
        rw [hsucc, hLf, this, List.append_nil]
    · obtain rfl : i = n := by omega
      rw [List.take_of_length_le (by omega)] at hLf
      refine go ?_
      exact A.mt () ⟨L, hLu, hLf, by omega, hs⟩
  clear hs
  rintro _ w8 ⟨L, hLu, hLf, hLl, hs⟩
  refine go ?_
  refine E.callf Tryz.func91 rfl ?_
  refine init_any (by omega) hs ?_
  intro w9 L2 hp2 hh2 hs
  refine go ?_
  refine A.r1 ?_
  refine HR.out _ _ (crs_close L2 ⟨hh2, fun x hx => hLu x (hp2.mem_iff.1 hx), hT, ?_, by rw [hp2.length_eq]; omega⟩ hs)
  rw [← hLf] at hperm
  exact hperm.trans (hp2.flatMap_right Hd.es).symm
end Go.Proofs.YtkolnecahlkndaaGreat

/-
  The stepping engine: a slice of one struct.
-/
namespace Go.Proofs.YtkolnecahlkndaaGreat
open Go.RowKit
set_option linter.unusedVariables false
set_option linter.unusedSimpArgs false
set_option linter.unusedSectionVars false

theorem foldl_fill : ∀ (vs : List Value) (k : Nat) (pre xs : List Value), pre.length = k → xs.length = vs.length →
    (vs.zipIdx k).foldl (fun (cs : Array Value) (p : Value × Nat) => cs.setIfInBounds (0 + p.2) p.1) (pre ++ xs).toArray = (pre ++ vs).toArray
  | [], k, pre, xs, _, h => by
    obtain rfl : xs = [] := List.eq_nil_of_length_eq_zero (by simpa using h)
    rfl
  | v :: r, k, pre, x :: xs, hk, h => by
    subst hk
    simp only [List.zipIdx_cons, List.foldl_cons, Nat.zero_add]
    have e : (pre ++ x :: xs).toArray.setIfInBounds pre.length v = ((pre ++ [v]) ++ xs).toArray := by
      apply Array.ext'
      simp
    rw [e]
    have := foldl_fill r (pre.length + 1) (pre ++ [v]) xs (by simp) (by simpa using h)
    simp only [Nat.zero_add] at this
    rw [this]
    simp

section
variable {P : Program} {n : Fm} {ρ : List (Nat × Value)} {W w w' : World} {g : Hl} {H : List HP} {Q : Exit → Act → World → Prop} {ops : Array Oper} {rest : List Oper} {d : Option Tmp} {ty : TypeId} {ps : String} {af : Array Edge} {t e : TypeId} {z : Value} {s bytes : Nat} {cs : List Value}
theorem run_bsl_agg (he : ElemOf P t e z s bytes) (hc : cs.length = s) (hs : s ≤ 16777216) (w : World) : (Instr.buildSlice t 1 #[(0, .agg cs.toArray)]).run P w = .ok (.slice (some ⟨w.heap.size, 0, none⟩) 1 1) (w.alloc (.cells cs.toArray e)) := by
  obtain ⟨ht, ⟨inf, hin, hz, hsz, hby⟩, hzs, hpos⟩ := he
  have h1 : ¬ (1 * s > 2 ^ 24) := by omega
  have h2 : ¬ (1 * s = 0) := by omega
  have hzv : (zeroValue e).run P w = .ok z w := by simp [zeroValue, typeInfo, hin, hz, Result.andThen]
  have hl : (((Array.range (1 * s)).map (z.cells[· % z.cells.size]!)).toList).length = cs.length := by simp [hc]
  have hf : Instr.fill (fun i => some (i * s, s)) ((Array.range (1 * s)).map (z.cells[· % z.cells.size]!)) [(0, Value.agg cs.toArray)] = some cs.toArray := by
    have h3 : ¬ ((Value.agg cs.toArray).cells.size ≠ s || decide (0 * s + (Value.agg cs.toArray).cells.size > ((Array.range (1 * s)).map (z.cells[· % z.cells.size]!)).size)) = true := by
      simp [Value.cells, hc]
    simp only [Instr.fill]
    rw [if_neg h3]
    have := foldl_fill cs 0 [] ((Array.range (1 * s)).map (z.cells[· % z.cells.size]!)).toList rfl hl
    simp only [List.nil_append, Array.toArray_toList] at this
    refine congrArg some (Eq.trans ?_ this)
    simp only [Value.cells, Nat.zero_mul]
    rw [← Array.foldl_toList]
    simp
  unfold Instr.buildSlice
  simp only [Sem.run_bind, run_underlying ht, Result.andThen_ok, sizeOf, run_typeInfo_some hin, Sem.run_pure, hsz, if_neg h1, if_neg h2, hzv, hf]
  simp [newRow]
theorem E.bsle (he : ElemOf P t e z s bytes) (hs : Sat W w g H) (hc : cs.length = s) (h : ∀ b w', Sat W w' g (blk b cs e :: H) → E P n ops rest (pushv d (.slice (some ⟨b, 0, none⟩) 1 1) ρ) w' Q) {x : Operand} (hx : evo n ρ x = some (.agg cs.toArray) := by exact rfl) (hsm : s ≤ 16777216 := by decide) :
    E P n ops (⟨d, .buildSlice t 1 #[(0, x)], ty, ps, af, none⟩ :: rest) ρ w Q :=
  E.cons (St.buildSlice hs (xs := [(0, .agg cs.toArray)]) (by simp only [evp, hx]) (run_bsl_agg he hc hsm w) h)
theorem EH.bsle {l : List Oper} {S : World → Prop} {fuel m i : Nat} (he : ElemOf P t e z s bytes) (hs : Sat W w g H) (hc : cs.length = s) (h : ∀ b w', Sat W w' g (blk b cs e :: H) → S w' ∧ EH P n l S fuel (bset m i) (pushv d (.slice (some ⟨b, 0, none⟩) 1 1) ρ) w' Q) {x : Operand} (hr : rdy m l.length 0 l = [i] := by exact rfl) (hi : nth l i = some ⟨d, .buildSlice t 1 #[(0, x)], ty, ps, af, none⟩ := by exact rfl) (hx : evo n ρ x = some (.agg cs.toArray) := by exact rfl) (hsm : s ≤ 16777216 := by decide) :
    EH P n l S (fuel + 1) m ρ w Q := EH.one (St.buildSlice hs (xs := [(0, .agg cs.toArray)]) (by simp only [evp, hx]) (run_bsl_agg he hc hsm w) h) hr hi
/-- One operation, or a slice of one struct; in either order. -/
theorem EH.obe {l : List Oper} {S : World → Prop} {fuel m i i1 : Nat} {oi : Oper} (he : ElemOf P t e z s bytes) (hs : Sat W w g H) (hc : cs.length = s) (h1 : St P n l.toArray oi ρ w (fun ρ' w' => S w' ∧ EH P n l S fuel (bset m i1) ρ' w' Q) Q) (h : ∀ b w', Sat W w' g (blk b cs e :: H) → S w' ∧ EH P n l S fuel (bset m i) (pushv d (.slice (some ⟨b, 0, none⟩) 1 1) ρ) w' Q) {x : Operand} (hr : rdy m l.length 0 l = [i1, i] := by exact rfl) (ho : nth l i1 = some oi := by exact rfl) (hi : nth l i = some ⟨d, .buildSlice t 1 #[(0, x)], ty, ps, af, none⟩ := by exact rfl) (hx : evo n ρ x = some (.agg cs.toArray) := by exact rfl) (hsm : s ≤ 16777216 := by decide) :
    EH P n l S (fuel + 1) m ρ w Q := EH.two h1 (St.buildSlice hs (xs := [(0, .agg cs.toArray)]) (by simp only [evp, hx]) (run_bsl_agg he hc hsm w) h) hr ho hi
/-- A load, or a slice of one struct; in either order. -/
theorem EH.lbe {l : List Oper} {S : World → Prop} {fuel m i i1 b j : Nat} {t1 ty1 e1 : TypeId} {d1 : Option Tmp} {ps1 : String} {af1 : Array Edge} {xs : List Value} {v : Value} {y : Operand} (he : ElemOf P t e z s bytes) (hs : Sat W w g H) (hc : cs.length = s) (hj : xs[j]? = some v) (h1 : S w ∧ EH P n l S fuel (bset m i1) (pushv d1 v ρ) w Q) (h : ∀ b w', Sat W w' g (blk b cs e :: H) → S w' ∧ EH P n l S fuel (bset m i) (pushv d (.slice (some ⟨b, 0, none⟩) 1 1) ρ) w' Q) {x : Operand}
    (hr : rdy m l.length 0 l = [i1, i] := by exact rfl) (ho : nth l i1 = some ⟨d1, .load t1 y, ty1, ps1, af1, none⟩ := by exact rfl) (hi : nth l i = some ⟨d, .buildSlice t 1 #[(0, x)], ty, ps, af, none⟩ := by exact rfl) (hx : evo n ρ x = some (.agg cs.toArray) := by exact rfl) (hy : evo n ρ y = some (.pointer (some ⟨b, j, none⟩)) := by exact rfl) (hf : Fd H b xs e1 := by exact fd_) (ha : (isAgg t1).run P w = .ok false w := by first | (go_simp; done) | fail) (hsm : s ≤ 16777216 := by decide) :
    EH P n l S (fuel + 1) m ρ w Q := EH.two (St.load hs hy hf hj ha h1) (St.buildSlice hs (xs := [(0, .agg cs.toArray)]) (by simp only [evp, hx]) (run_bsl_agg he hc hsm w) h) hr ho hi
end
/-- The same behind code. -/
theorem laterA {α : Type} {n : Fm} {e : Exit} {Q : Exit → Act → World → Prop} {f : α → List (Nat × Value)} {M : α → World → Prop} {G : Prop} (main : (∀ x w, M x w → A n e (f x) w Q) → G) (key : ∀ x w, M x w → A n e (f x) w Q) : G := main key
end Go.Proofs.YtkolnecahlkndaaGreat

/-
  Layer 12 (order): Seek, Range, All.
-/
namespace Go.Proofs.YtkolnecahlkndaaGreat
open Go.RowKit
set_option linter.unusedVariables false
set_option linter.unusedSimpArgs false

/-- Does an event stand up to a place? -/
def upto (t : Nat) (wr : Int) (e : Ev) : Bool := decide (cmpS e.tm e.wr t wr ≤ 0)

set_option maxHeartbeats 3200000 in
set_option maxRecDepth 100000 in
theorem seek_any {R : Ending → World → Prop} {W w : World} {g : Hl} {H : List HP} {cb t : Nat} {wr : Int} {T : List Ev} (hl : T.length ≤ 1000000000) (hs : Sat W w g (crs cb T :: H))
    (hR : ∀ w' v, Sat W w' g (crs cb (T.dropWhile (upto t wr)) :: H) → R (.returned v) w') : Calls Tryz.prog 70 #[ptr cb, spot t wr] w R := by
  have HR := Lib.hid hR
  clear hR
  have ag1 := ag_ev
  have ag2 := ag_spot
  refine C.calls (args := [.pointer (some ⟨cb, 0, none⟩), .agg #[.int .u64 t, .int .i64 wr]]) Tryz.func70 rfl rfl rfl ?_
  refine go ?_
  refine E.bx hs ?_
  intro b3 w1 hs
  refine gob ?_
  refine C.cut (fun k : Nat => [(5, .int .i64 k)]) (fun k w => Sat W w g (crs cb (T.dropWhile (upto t wr)) :: H)) ?_ ?_
  · refine C.block ?_
    refine C.lp (fun x : Nat × List Ev => [(0, .pointer (some ⟨cb, 0, none⟩)), (3, .pointer (some ⟨b3, 0, none⟩)), (5, .int .i64 x.1)])
      (fun gk x w => gk = x.2.length ∧ x.1 + x.2.length = T.length ∧ x.2.dropWhile (upto t wr) = T.dropWhile (upto t wr) ∧ Sat W w g (crs cb x.2 :: blk b3 [.int .u64 t, .int .i64 wr] 56 :: H)) T.length (0, T) ⟨rfl, by simp, rfl, hs.swap⟩ ?_
    clear hs
    rintro gk ⟨k, T1⟩ w2 ⟨hgk, hkl, hT, hs⟩
    simp only at hgk hkl hT hs ⊢
    obtain ⟨L, hc, hs'⟩ := crs_open hs
    clear hs
    have hs := hs'
    clear hs'
    cases L with
    | nil =>
      have hT0 : T1 = [] := List.eq_nil_of_length_eq_zero (by have := hc.perm.length_eq; simpa using this)
      rw [hT0] at hT hc
      obtain ⟨a, c, hok, hs⟩ := cur_open hs
      refine gob ?_
      refine C.held2 cb b3 hs ?_
      intro w3 hk hs
      refine goh ?_
      refine EH.done ?_
      refine go ?_
      refine A.mt k ?_
      rw [← hT]
      exact crs_close [] hc (cur_close rfl hok hs.pull2.drop)
    | cons x L =>
      obtain ⟨a, c, hok, hs⟩ := cur_open hs
      have hx := hok x (List.mem_cons_self ..)
      obtain ⟨T', hTT, hperm⟩ := hc.root fun y hy => (hok y hy).ne
      have hxl : 0 < x.es.length := by have := hx.ne; cases h : x.es <;> simp_all
      have hxl' : (0 : Int) < (x.es.length : Nat) := by omega
      obtain ⟨_, _, eq, hnc, hcm, _⟩ := Sat.ownLen hs.swap
      simp only [Value.slice.injEq] at eq
      obtain ⟨rfl, -, rfl⟩ := eq
      obtain ⟨hb, ys, rfl, hyc, _, _, hyt, hs⟩ := own_open (by simp) hs.swap
      have hy : ys[0]? = some (.slice (some ⟨x.b, x.o, none⟩) x.es.length x.c) := by
        have : (ys.take (x :: L).length)[0]? = ((x :: L).map Hd.v)[0]? := by rw [hyt]
        rw [List.getElem?_take, if_pos (by simp)] at this
        exact this
      have hlc : (x :: L).length = L.length + 1 := rfl
      have hf := hc.few
      refine gob ?_
      refine C.held3 hb cb b3 hs ?_
      intro w3 hk hs
      have ri : Rd (Keeps g [(hb, ys, 24), (cb, [.slice (some ⟨hb, 0, none⟩) (x :: L).length c], 129), (b3, [.int .u64 t, .int .i64 wr], 56)]) hb 0 (.slice (some ⟨x.b, x.o, none⟩) x.es.length x.c) := Rd.blk .here hy
      refine goh ?_
      rw [show decide ((0 : Int) < (L.length : Int) + 1) = true from decide_eq_true (by omega)]
      refine goh ?_
      have vi : ((evC x.es).drop (0 * 8)).take 8 = x.hd.cs := by rw [evC_at hxl, hd_zero hxl]
      refine EH.t0 hk ?_ (hy := Pf.loadpr ag_ev hx.row hxl vi rfl rfl)
      refine goh ?_
      refine EH.one (St.guard rfl rfl (St.callf Tryz.func43 rfl ?_))
      refine at_any (e := x.hd) hs ?_
      intro w4 hs
      refine kept3 hs (fun hk => ?_)
      refine goh ?_
      refine EH.one (St.guard rfl rfl (St.callf Tryz.func42 rfl ?_))
      refine compare_any (t1 := x.hd.tm) (w1 := x.hd.wr) (t2 := t) (w2 := wr) hs ?_
      intro w5 hs
      refine kept3 hs (fun hk => ?_)
      refine goh ?_
      refine EH.done ?_
      refine go ?_
      have hs := crs_close (cb := cb) (x :: L) hc (cur_close (cb := cb) (n := (x :: L).length) rfl hok ((own_close hyc hnc hcm hyt hs).swap))
      rw [hTT] at hs hT hkl hgk
      simp only [List.length_cons] at hkl hgk
      refine C.cond_dec (p := cmpS x.hd.tm x.hd.wr t wr ≤ 0) rfl (fun h => ?_) (fun h => ?_)
      · refine go ?_
        refine E.callf Tryz.func71 rfl ?_
        refine next_any hs (fun h => by cases h) ?_
        rintro e T2 he _ _ w6 hs
        obtain ⟨rfl, rfl⟩ := List.cons.inj he
        refine go ?_
        refine A.rd T'.length (k + 1, T') ⟨rfl, by simp only; omega, ?_, hs⟩
        rw [← hT, List.dropWhile_cons_of_pos (by simp [upto, h])]
      · refine go ?_
        refine A.mt k ?_
        rw [← hT, List.dropWhile_cons_of_neg (by simp [upto]; omega)]
        exact hs.swap.drop
  · clear hs
    rintro k w6 hs
    refine go ?_
    refine A.r1 ?_
    exact HR.out _ _ hs

set_option maxHeartbeats 3200000 in
set_option maxRecDepth 100000 in
theorem range_any {R : Ending → World → Prop} {W w : World} {g : Hl} {H : List HP} {a : Option Addr} {n c t : Nat} {wr most : Int} {ls : List El} {T : List Ev} (hp : Pr 1 g (.slice a n c) n (ls.map El.v)) (hn : ls.length = n) (hn2 : n ≤ 1000000000) (hok : ∀ x ∈ ls, x.ok g) (hup : ∀ x ∈ ls, Up1 x.es) (hT : Up1 T) (hperm : T.Perm (ls.flatMap El.es)) (hl : T.length ≤ 1000000000) (hs : Sat W w g H)
    (hR : ∀ w' x g', Hl.le g g' → El.ok x g' → x.es = (T.dropWhile (upto t wr)).take most.toNat → Sat W w' g' H → R (.returned x.v) w') : Calls Tryz.prog 39 #[.slice a n c, spot t wr, .int .i64 most] w R := by
  have HR := Lib.hid hR
  clear hR
  have ag2 := ag_spot
  have hTl : (T.dropWhile (upto t wr)).length ≤ 1000000000 := by
    have := (List.dropWhile_sublist (upto t wr) (l := T)).length_le
    omega
  refine C.calls (args := [.slice a n c, .agg #[.int .u64 t, .int .i64 wr], .int .i64 most]) Tryz.func39 rfl rfl rfl ?_
  refine go ?_
  refine E.bx hs ?_
  intro b4 w1 hs
  refine go ?_
  refine E.callf Tryz.func69 rfl ?_
  refine crsNew_any hp hn hn2 hok hup hT hperm hs ?_
  intro cb w2 hs
  refine go ?_
  refine E.callf Tryz.func70 rfl ?_
  refine seek_any (t := t) (wr := wr) hl hs ?_
  intro w3 v3 hs
  refine gob ?_
  generalize T.dropWhile (upto t wr) = D at hs hTl HR
  refine C.cut (fun x : Option Addr × Nat => [(8, .slice x.1 (D.take most.toNat).length x.2)])
    (fun x w => (∀ e ∈ D.take most.toNat, e.ok g ∧ e.low) ∧ Sat W w g (own 32 8 (.slice x.1 (D.take most.toNat).length x.2) (D.take most.toNat).length (evC (D.take most.toNat)) :: H)) ?_ ?_
  · refine C.block ?_
    refine C.lp (fun x : List Ev × List Ev × Option Addr × Nat => [(2, .int .i64 most), (7, .pointer (some ⟨cb, 0, none⟩)), (8, .slice x.2.2.1 x.1.length x.2.2.2)])
      (fun gk x w => gk = x.2.1.length ∧ x.1 ++ x.2.1 = D ∧ x.1.length ≤ most.toNat ∧ (∀ e ∈ x.1, e.ok g ∧ e.low) ∧ Sat W w g (own 32 8 (.slice x.2.2.1 x.1.length x.2.2.2) x.1.length (evC x.1) :: crs cb x.2.1 :: H)) D.length ([], D, none, 0) ⟨rfl, rfl, Nat.zero_le _, by simp, hs.swap.drop.nilOwn⟩ ?_
    clear hs
    rintro gk ⟨O, T1, a5, c5⟩ w5 ⟨hgk, hD, hO, hOe, hs⟩
    simp only at hgk hD hO hOe hs ⊢
    have hDl : O.length + T1.length = D.length := by rw [← hD, List.length_append]
    have hO9 : O.length ≤ 1000000000 := by omega
    refine go ?_
    refine C.cond_dec (p := (O.length : Int) < most) rfl (fun h => ?_) (fun h => ?_)
    · refine go ?_
      refine E.callf Tryz.func71 rfl ?_
      refine next_any hs.swap (fun hT0 => ?_) ?_
      · intro w6 hs
        refine go ?_
        refine E.al hs ?_
        intro b9 w7 hs
        refine E.sto (vs := [.int .i64 0, .int .u64 0, .int .u64 0, .int .u8 0, .string ⟨#[]⟩, .slice none 0 0, .float .f64 0, .int .i64 0]) hs ?_ (hv := rfl)
        intro w8 hs
        refine go ?_
        rw [hT0, List.append_nil] at hD
        subst hD
        have e1 : O.take most.toNat = O := List.take_of_length_le (by omega)
        refine A.mt (a5, c5) ?_ ?_
        · simp only [e1]
          exact ⟨hOe, hs.drop.drop⟩
        · simp only [e1]
          exact wk_
      · rintro e T2 he hev helow w6 hs
        refine go ?_
        refine E.al hs ?_
        intro b9 w7 hs
        refine E.sto (vs := e.cs) (ys := e.cs) hs ?_ (hv := rfl) (hsp := spl_all (by rfl)) (h1 := Ev.cs_one hev)
        intro w8 hs
        refine go ?_
        refine E.lda hs ag_ev ?_
        refine E.bsle el_ev hs (cs := e.cs) rfl ?_
        intro b10 w9 hs
        refine E.app el_ev hs.pull3 (hs.rowOf (size := 8) 1 rfl (by decide)) ?_ (h1 := fun u hu => List.all_eq_true.1 (Ev.cs_one hev) u hu)
        intro a11 c11 w11 _ _ hs
        refine go ?_
        refine A.rd T2.length (O ++ [e], T2, a11, c11) ⟨rfl, by rw [← hD, he]; simp, by simp; omega, ?_, ?_⟩ (hg := by rw [hgk, he]; simp) (hw := ?_)
        · intro e' he'
          rcases List.mem_append.1 he' with h' | h'
          · exact hOe e' h'
          · simp only [List.mem_singleton] at h'
            subst h'
            exact ⟨hev, helow⟩
        · simp only [List.length_append, List.length_cons, List.length_nil, Nat.zero_add, evC_append]
          have e2 : evC [e] = e.cs := by simp [evC]
          rw [e2]
          exact hs.swap.drop.swap.drop
        · simp only [List.length_append, List.length_cons, List.length_nil, Nat.zero_add]
          exact wk_
    · refine go ?_
      have e1 : D.take most.toNat = O := by
        have : O.length = most.toNat := by omega
        rw [← hD, ← this, List.take_left]
      refine A.mt (a5, c5) ?_ ?_
      · simp only [e1]
        exact ⟨hOe, hs.swap.drop⟩
      · simp only [e1]
        exact wk_
  · clear hs
    rintro ⟨a5, c5⟩ w5 ⟨hOe, hs⟩
    simp only at hs ⊢
    obtain ⟨g6, hg6, hp6, hs⟩ := hs.publishOwn
    refine go ?_
    refine A.r1 ?_
    exact HR.out _ ⟨a5, c5, D.take most.toNat⟩ g6 hg6 ⟨hp6, fun e he => ⟨(hOe e he).1.mono hg6, (hOe e he).2⟩⟩ rfl hs

set_option maxHeartbeats 1600000 in
set_option maxRecDepth 100000 in
theorem all_any {R : Ending → World → Prop} {W w : World} {g : Hl} {H : List HP} {a : Option Addr} {n c : Nat} {ls : List El} {T : List Ev} (hp : Pr 1 g (.slice a n c) n (ls.map El.v)) (hn : ls.length = n) (hn2 : n ≤ 1000000000) (hok : ∀ x ∈ ls, x.ok g) (hup : ∀ x ∈ ls, Up1 x.es) (hT : Up1 T) (hperm : T.Perm (ls.flatMap El.es)) (hl : T.length ≤ 1000000000) (hs : Sat W w g H)
    (hR : ∀ w' x g', Hl.le g g' → El.ok x g' → x.es = T → Sat W w' g' H → R (.returned x.v) w') : Calls Tryz.prog 16 #[.slice a n c] w R := by
  have HR := Lib.hid hR
  clear hR
  refine C.calls (args := [.slice a n c]) Tryz.func16 rfl rfl rfl ?_
  refine go ?_
  refine E.callf Tryz.func39 rfl ?_
  refine range_any (t := 0) (wr := -1) hp hn hn2 hok hup hT hperm hl hs ?_
  intro w1 x g1 hg1 hx hxe hs
  refine go ?_
  refine A.r1 ?_
  refine HR.out _ x g1 hg1 hx ?_ hs
  have e1 : T.dropWhile (upto 0 (-1)) = T := by
    cases T with
    | nil => rfl
    | cons e r =>
      have : e.low := by
        have hm : e ∈ ls.flatMap El.es := hperm.mem_iff.1 (List.mem_cons_self ..)
        obtain ⟨y, hy, hey⟩ := List.mem_flatMap.1 hm
        exact ((hok y hy).evs e hey).2
      rw [List.dropWhile_cons_of_neg]
      simp only [upto, decide_eq_true_eq, cmpS_le]
      unfold Ev.low at this
      omega
  rw [hxe, e1, List.take_of_length_le (by omega)]
end Go.Proofs.YtkolnecahlkndaaGreat

/-
  Layers 1, 2 (quantity, digits): a quantity's bits; a number in eight bytes; bytes copied.
-/
namespace Go.Proofs.YtkolnecahlkndaaGreat
open Go.RowKit
set_option linter.unusedVariables false
set_option linter.unusedSimpArgs false

/-- A quantity's bits. -/
def bitsF (b : Nat) : Nat := if nanF b = true then 9221120237041090561 else b
/-- A quantity and some more, as it is kept. -/
def sumF (a b : Nat) : Nat := match Ieee.double.add a b with
  | some r => bitsF r
  | none => 9221120237041090561
theorem bitsF_lt {b : Nat} (h : b < 18446744073709551616) : bitsF b < 18446744073709551616 := by unfold bitsF; split <;> omega

set_option maxHeartbeats 1600000 in
set_option maxRecDepth 100000 in
theorem isNaN_any {R : Ending → World → Prop} {w : World} {b : Nat} (hR : R (.returned (.bool (nanF b))) w) : Calls Tryz.prog 66 #[.float .f64 b] w R := by
  have HR := Lib.hid hR
  clear hR
  refine C.calls (args := [.float .f64 b]) Tryz.func66 rfl rfl rfl ?_
  refine go ?_
  refine A.r1 ?_
  exact HR.out

set_option maxHeartbeats 1600000 in
set_option maxRecDepth 100000 in
theorem bits_any {R : Ending → World → Prop} {w : World} {b : Nat} (hR : R (.returned (.int .u64 (bitsF b))) w) : Calls Tryz.prog 35 #[.float .f64 b] w R := by
  have HR := Lib.hid hR
  clear hR
  refine C.calls (args := [.float .f64 b]) Tryz.func35 rfl rfl rfl ?_
  refine go ?_
  refine E.callf Tryz.func66 rfl ?_
  refine isNaN_any ?_
  refine go ?_
  cases hn : nanF b with
  | true =>
    refine go ?_
    refine A.r1 ?_
    simpa [bitsF, hn] using HR.out
  | false =>
    refine go ?_
    refine E.ext (v := .int .u64 b) (w' := w) Tryz.func67 (ex := Extern.MathFloatBits.float64bits) rfl ?_
    refine go ?_
    refine A.r1 ?_
    simpa [bitsF, hn] using HR.out

set_option maxHeartbeats 1600000 in
set_option maxRecDepth 100000 in
theorem plain_any {R : Ending → World → Prop} {w : World} {b : Nat} (hR : R (.returned (.float .f64 (bitsF b))) w) : Calls Tryz.prog 48 #[.float .f64 b] w R := by
  have HR := Lib.hid hR
  clear hR
  refine C.calls (args := [.float .f64 b]) Tryz.func48 rfl rfl rfl ?_
  refine go ?_
  refine E.callf Tryz.func35 rfl ?_
  refine bits_any ?_
  refine E.ext (v := .float .f64 (bitsF b)) (w' := w) Tryz.func78 (ex := Extern.MathFloatBits.float64frombits) rfl ?_
  refine go ?_
  refine A.r1 ?_
  exact HR.out

set_option maxHeartbeats 1600000 in
set_option maxRecDepth 100000 in
theorem qsum_any {R : Ending → World → Prop} {W w : World} {g : Hl} {H : List HP} {a b : Nat} (hs : Sat W w g H) (hR : ∀ w', Sat W w' g H → R (.returned (.float .f64 (sumF a b))) w') : Calls Tryz.prog 49 #[.float .f64 a, .float .f64 b] w R := by
  have HR := Lib.hid hR
  clear hR
  refine C.calls (args := [.float .f64 a, .float .f64 b]) Tryz.func49 rfl rfl rfl ?_
  refine go ?_
  refine E.fadd hs ?_
  intro r w1 hs hr
  refine E.callf Tryz.func48 rfl ?_
  refine plain_any ?_
  refine go ?_
  refine A.r1 ?_
  have := HR.out _ hs
  rcases hr with hr | ⟨hr, h2, h3⟩
  · simpa [sumF, hr] using this
  · simpa [sumF, hr, bitsF, nan_rung h2] using this

/-- A number's k lowest bytes, the highest first. -/
def fixG : Nat → Nat → List UInt8
  | 0, _ => []
  | k + 1, n => UInt8.ofNat (n / 2 ^ (8 * k)) :: fixG k n
def fixB (n : Nat) : List UInt8 := fixG 8 n
theorem fixG_len : ∀ (k n : Nat), (fixG k n).length = k
  | 0, _ => rfl
  | k + 1, n => by simp [fixG, fixG_len k n]
theorem fixB_len (n : Nat) : (fixB n).length = 8 := fixG_len 8 n

set_option maxHeartbeats 1600000 in
set_option maxRecDepth 100000 in
theorem fixed_any {R : Ending → World → Prop} {W w : World} {g : Hl} {H : List HP} {v : Value} {k n : Nat} {xs : List Value} (hs : Sat W w g (own 5 1 v k xs :: H)) (hn : n < 18446744073709551616) (hk : k ≤ 1000000000)
    (hR : ∀ a' c' w', Sat W w' g (own 5 1 (.slice a' (k + 8) c') (k + 8) (xs ++ bs (fixB n)) :: H) → R (.returned (.slice a' (k + 8) c')) w') :
    Calls Tryz.prog 31 #[v, .int .u64 n] w R := by
  have HR := Lib.hid hR
  clear hR
  obtain ⟨a, c, rfl, hkc, hcm, _⟩ := hs.ownLen
  refine C.calls (args := [.slice a k c, .int .u64 n]) Tryz.func31 rfl rfl rfl ?_
  refine gob ?_
  refine C.block ?_
  refine C.lp (fun x : Nat × Nat × Option Addr × Nat × List Value => [(0, .slice x.2.2.1 x.2.1 x.2.2.2.1), (1, .int .u64 n), (5, .int .i64 ((x.1 : Int) - 1))])
    (fun gk x w => gk = x.1 ∧ x.1 ≤ 8 ∧ x.2.1 + x.1 = k + 8 ∧ x.2.2.2.2 ++ bs (fixG x.1 n) = xs ++ bs (fixB n) ∧ Sat W w g (own 5 1 (.slice x.2.2.1 x.2.1 x.2.2.2.1) x.2.1 x.2.2.2.2 :: H)) 8 (8, k, a, c, xs) ⟨rfl, by omega, rfl, rfl, hs⟩ ?_
  clear hs
  rintro gk ⟨i, k1, a1, c1, ys⟩ w1 ⟨hgk, hi, hk1, hy, hs⟩
  simp only at hgk hi hk1 hy hs ⊢
  replace hgk := hgk.symm
  subst hgk
  refine go ?_
  refine C.cond_dec (p := (0 : Int) ≤ (i : Int) - 1) rfl (fun h => ?_) (fun h => ?_)
  · obtain ⟨j, rfl⟩ : ∃ j, i = j + 1 := ⟨i - 1, by omega⟩
    have ej : ((j + 1 : Nat) : Int) - 1 = j := by omega
    rw [ej]
    refine go ?_
    refine E.bsl hs ?_
    intro b2 w2 hs
    refine E.app el_u8 hs.swap (hs.rowOf (size := 1) 1 rfl (by decide)) ?_
    intro a3 c3 w3 _ _ hs
    refine go ?_
    refine A.rd j (j, k1 + 1, a3, c3, ys ++ [.int .u8 ((n / 2 ^ (8 * j) % 256 : Nat))]) ⟨rfl, by omega, by simp only; omega, ?_, hs.swap.drop⟩
    simp only
    rw [← hy]
    simp [fixG, bs]
  · refine go ?_
    refine A.r1 ?_
    have hi0 : i = 0 := by omega
    subst hi0
    simp only [fixG, bs, List.map_nil, List.append_nil] at hy
    subst hy
    obtain rfl : k1 = k + 8 := by omega
    exact HR.out _ _ _ hs

set_option maxHeartbeats 1600000 in
set_option maxRecDepth 100000 in
/-- bytes.Clone. -/
theorem bclone_any {R : Ending → World → Prop} {W w : World} {g : Hl} {H : List HP} {a : Option Addr} {n c : Nat} {l : List UInt8} (hs : Sat W w g H) (hp : Pr 1 g (.slice a n c) n (bs l)) (hn : n ≤ 1000000000)
    (hR : ∀ a' c' w' g', Hl.le g g' → Pr 1 g' (.slice a' n c') n (bs l) → Sat W w' g' H → R (.returned (.slice a' n c')) w') :
    Calls Tryz.prog 47 #[.slice a n c] w R := by
  have HR := Lib.hid hR
  clear hR
  cases a with
  | none =>
    obtain ⟨_, a0, c0, e, _, _, h0, _⟩ := id hp
    simp only [Value.slice.injEq] at e
    obtain ⟨rfl, _, rfl⟩ := e
    obtain ⟨rfl, rfl⟩ := h0 rfl
    refine C.calls (args := [.slice none 0 0]) Tryz.func47 rfl rfl rfl ?_
    refine go ?_
    refine A.r1 ?_
    exact HR.out _ _ _ _ (Hl.le_refl _) hp hs
  | some ad =>
    refine C.calls (args := [.slice (some ad) n c]) Tryz.func47 rfl rfl rfl ?_
    refine go ?_
    refine E.bsl hs ?_
    intro b1 w1 hs
    have hs := hs.blkOwn (size := 1) 0 rfl (by decide)
    refine go ?_
    refine E.app el_u8 hs (hp.row hs) ?_
    intro a2 c2 w2 _ _ hs
    obtain ⟨g2, hg2, hp2, hs⟩ := hs.publishOwn
    simp only [Nat.zero_add, List.nil_append] at hp2 ⊢
    refine go ?_
    refine A.r1 ?_
    exact HR.out _ _ _ _ hg2 hp2 hs

/-- An event as bytes. -/
def Ev.keyB (e : Ev) : List UInt8 := if 1 ≤ e.kd ∧ e.kd ≤ 4 then textB e.key else []
def Ev.restB (e : Ev) : List UInt8 := if e.kd = 1 then textB e.text else if e.kd = 2 ∨ e.kd = 3 then fixB (bitsF e.num) else if e.kd = 5 then layN e.nd.toNat else []
def Ev.enc (e : Ev) : List UInt8 := layN e.wr.toNat ++ layN e.sq ++ layN e.tm ++ [UInt8.ofNat e.kd] ++ e.keyB ++ e.restB
theorem Ev.enc_len (e : Ev) (h1 : e.wr.toNat < 18446744073709551616) (h2 : e.sq < 18446744073709551616) (h3 : e.tm < 18446744073709551616) (h4 : e.key.length < 18446744073709551616) (h5 : e.text.length < 18446744073709551616) (h6 : e.nd.toNat < 18446744073709551616) : e.enc.length ≤ 61 + e.key.length + e.text.length := by
  have := layN_ten h1
  have := layN_ten h2
  have := layN_ten h3
  have k1 : e.keyB.length ≤ e.key.length + 10 := by
    unfold Ev.keyB
    split
    · exact textB_len _ h4
    · simp
  have k2 : e.restB.length ≤ e.text.length + 20 := by
    unfold Ev.restB
    repeat' split
    · have := textB_len _ h5; omega
    · rw [fixB_len]; omega
    · have := layN_ten h6; omega
    · simp
  simp only [Ev.enc, List.length_append, List.length_cons, List.length_nil]
  omega

set_option maxHeartbeats 3200000 in
set_option maxRecDepth 100000 in
theorem encode_any {R : Ending → World → Prop} {W w : World} {g : Hl} {H : List HP} {e : Ev} (ho : e.ok g) (hwr : 0 ≤ e.wr) (hnd : e.kd = 5 → 0 ≤ e.nd) (hs : Sat W w g H)
    (hR : ∀ a' c' w' g', Hl.le g g' → Sat W w' g' (own 5 1 (.slice a' e.enc.length c') e.enc.length (bs e.enc) :: H) → R (.returned (.slice a' e.enc.length c')) w') :
    Calls Tryz.prog 46 #[e.val] w R := by
  have HR := Lib.hid hR
  clear hR
  obtain ⟨a, c, etv, hnc, _⟩ := ho.tv.len
  have hkd := ho.kd
  have hsq := ho.sq
  have htm := ho.tm
  have h1 := ho.wr
  have h2 := ho.nd
  have h3 := ho.key
  have h4 := ho.text
  have h5 := ho.tv
  have h6 := ho.num
  clear ho
  obtain ⟨wr, sq, tm, kd, key, text, num, nd, tv⟩ := e
  simp only at etv hkd hsq htm h1 h2 h3 h4 h5 h6 hwr hnd
  simp only [Ev.val, Ev.cs]
  subst etv
  obtain ⟨wr, rfl⟩ := Int.eq_ofNat_of_zero_le hwr
  have l1 := layN_ten (n := wr) (by omega)
  have l2 := layN_ten (n := sq) (by omega)
  have l3 := layN_ten (n := tm) (by omega)
  refine C.calls (args := [.agg #[.int .i64 wr, .int .u64 sq, .int .u64 tm, .int .u8 kd, .string ⟨key.toArray⟩, .slice a text.length c, .float .f64 num, .int .i64 nd]]) Tryz.func46 rfl rfl rfl ?_
  refine go ?_
  refine E.bx hs ?_
  intro b1 w1 hs
  refine go ?_
  refine E.callf Tryz.func30 rfl ?_
  refine lay_any hs.nilOwn (by omega) (by omega) ?_
  intro a2 c2 w2 hs
  simp only [Nat.zero_add, List.nil_append] at hs ⊢
  refine gob ?_
  have e8 : (UInt8.ofNat kd).toNat = kd := by simp; omega
  refine C.cut (fun x : Option Addr × Nat => [(1, .pointer (some ⟨b1, 0, none⟩)), (3, .slice x.1 (layN wr ++ layN sq ++ layN tm ++ [UInt8.ofNat kd]).length x.2)])
    (fun x w => Sat W w g (own 5 1 (.slice x.1 (layN wr ++ layN sq ++ layN tm ++ [UInt8.ofNat kd]).length x.2) (layN wr ++ layN sq ++ layN tm ++ [UInt8.ofNat kd]).length (bs (layN wr ++ layN sq ++ layN tm ++ [UInt8.ofNat kd])) :: blk b1 [.int .i64 wr, .int .u64 sq, .int .u64 tm, .int .u8 kd, .string ⟨key.toArray⟩, .slice a text.length c, .float .f64 num, .int .i64 nd] 32 :: H)) ?_ ?_
  · refine C.held1 b1 hs ?_
    intro w hk hs
    refine goh ?_
    refine EH.orb hs (St.callf Tryz.func30 rfl ?_) ?_
    · refine lay_any hs (by omega) (by omega) ?_
      intro a3 c3 w hs
      refine kept1 hs (fun hk => ?_)
      refine goh ?_
      refine EH.orb hs (St.callf Tryz.func30 rfl ?_) ?_
      · refine lay_any hs (by omega) (by omega) ?_
        intro a4 c4 w hs
        refine kept1 hs (fun hk => ?_)
        refine goh ?_
        refine EH.bsl hs ?_
        intro b5 w hs
        refine kept1 hs (fun hk => ?_)
        refine goh ?_
        refine EH.app el_u8 hs.swap (hs.rowOf (size := 1) 1 rfl (by decide)) ?_
        intro a9 c9 w _ _ hs
        refine kept1 hs (fun hk => ?_)
        refine goh ?_
        refine EH.done ?_
        refine A.mt (a9, c9) ?_ ?_
        · have := hs.swap.drop
          simpa [bs_append, bs, e8, Nat.add_assoc] using this
        · simp only [List.length_append, List.length_cons, List.length_nil, Nat.add_assoc]
          exact wk_
      · intro b5 w hs
        refine kept1 hs (fun hk => ?_)
        refine goh ?_
        refine EH.one (St.callf Tryz.func30 rfl ?_)
        refine lay_any hs.swap (by omega) (by omega) ?_
        intro a4 c4 w hs
        refine kept1 hs (fun hk => ?_)
        refine goh ?_
        refine EH.app el_u8 hs (hs.swap.rowOf (size := 1) 1 rfl (by decide)) ?_
        intro a9 c9 w _ _ hs
        refine kept1 hs (fun hk => ?_)
        refine goh ?_
        refine EH.done ?_
        refine A.mt (a9, c9) ?_ ?_
        · have := hs.swap.drop
          simpa [bs_append, bs, e8, Nat.add_assoc] using this
        · simp only [List.length_append, List.length_cons, List.length_nil, Nat.add_assoc]
          exact wk_
    · intro b5 w hs
      refine kept1 hs (fun hk => ?_)
      refine goh ?_
      refine EH.one (St.callf Tryz.func30 rfl ?_)
      refine lay_any hs.swap (by omega) (by omega) ?_
      intro a3 c3 w hs
      refine kept1 hs (fun hk => ?_)
      refine goh ?_
      refine EH.one (St.callf Tryz.func30 rfl ?_)
      refine lay_any hs (by omega) (by omega) ?_
      intro a4 c4 w hs
      refine kept1 hs (fun hk => ?_)
      refine goh ?_
      refine EH.app el_u8 hs (hs.swap.rowOf (size := 1) 1 rfl (by decide)) ?_
      intro a9 c9 w _ _ hs
      refine kept1 hs (fun hk => ?_)
      refine goh ?_
      refine EH.done ?_
      refine A.mt (a9, c9) ?_ ?_
      · have := hs.swap.drop
        simpa [bs_append, bs, e8, Nat.add_assoc] using this
      · simp only [List.length_append, List.length_cons, List.length_nil, Nat.add_assoc]
        exact wk_
  clear hs
  have lA : (layN wr ++ layN sq ++ layN tm ++ [UInt8.ofNat kd]).length ≤ 31 := by
    simp only [List.length_append, List.length_cons, List.length_nil]; omega
  have hR2 : ∀ (B : List UInt8) (n' : Nat), layN wr ++ layN sq ++ layN tm ++ [UInt8.ofNat kd] ++ B = Ev.enc ⟨wr, sq, tm, kd, key, text, num, nd, .slice a text.length c⟩ → n' = (layN wr ++ layN sq ++ layN tm ++ [UInt8.ofNat kd]).length + B.length → ∀ a' c' w' g', Hl.le g g' → Sat W w' g' (own 5 1 (.slice a' n' c') n' (bs (layN wr ++ layN sq ++ layN tm ++ [UInt8.ofNat kd]) ++ bs B) :: H) → R (.returned (.slice a' n' c')) w' := fun B n' hB hn' a' c' w' g' hg' hs' => by
    rw [← bs_append, hB] at hs'
    rw [← List.length_append, hB] at hn'
    subst hn'
    exact HR.out _ _ _ _ hg' hs'
  clear HR
  simp only [Ev.enc, Ev.keyB, Ev.restB, Int.toNat_natCast] at hR2
  generalize hAA : layN wr ++ layN sq ++ layN tm ++ [UInt8.ofNat kd] = A1 at lA hR2 ⊢
  clear hAA
  rintro ⟨a2, c2⟩ w2 hs
  simp only at hs ⊢
  have h3b : key.length ≤ 1000000000 := by omega
  have hkey := textB_len key (by omega)
  have htext := textB_len text (by omega)
  have hcases : kd = 1 ∨ kd = 2 ∨ kd = 3 ∨ kd = 4 ∨ kd = 5 ∨ kd = 0 ∨ 5 < kd := by omega
  rcases hcases with hq | hq | hq | hq | hq | hq | hq
  · subst hq
    simp only [show (1 ≤ 1 ∧ 1 ≤ 4) = True by simp, if_true] at hR2
    have HR2 := Lib.hid hR2
    clear hR2
    refine go ?_
    refine E.bytes Tryz.underlying9 Tryz.underlying29 Tryz.underlying5 hs h3b ?_
    intro b5 c5 w3 g3 hg3 hs hp5
    refine go ?_
    refine E.callf Tryz.func34 rfl ?_
    refine layText_any hs hp5 rfl (by omega) (by omega) ?_
    intro a4 c4 w4 hs
    refine go ?_
    refine E.callf Tryz.func34 rfl ?_
    refine layText_any hs (h5.mono hg3) rfl (by omega) (by omega) ?_
    intro a6 c6 w6 hs
    refine go ?_
    refine A.r1 ?_
    refine HR2.out (textB key ++ textB text) _ (by simp) (by simp; omega) _ _ _ _ hg3 ?_
    simp only [bs_append, ← List.append_assoc] at hs ⊢
    exact hs.swap.drop
  · subst hq
    simp only [show (1 ≤ 2 ∧ 2 ≤ 4) = True by simp, if_true] at hR2
    have HR2 := Lib.hid hR2
    clear hR2
    refine go ?_
    refine E.bytes Tryz.underlying9 Tryz.underlying29 Tryz.underlying5 hs h3b ?_
    intro b5 c5 w3 g3 hg3 hs hp5
    refine go ?_
    refine E.callf Tryz.func34 rfl ?_
    refine layText_any hs hp5 rfl (by omega) (by omega) ?_
    intro a4 c4 w4 hs
    refine go ?_
    refine E.callf Tryz.func35 rfl ?_
    refine bits_any ?_
    refine E.callf Tryz.func31 rfl ?_
    refine fixed_any hs (bitsF_lt h6) (by omega) ?_
    intro a6 c6 w6 hs
    refine go ?_
    refine A.r1 ?_
    refine HR2.out (textB key ++ fixB (bitsF num)) _ (by simp) (by simp [fixB_len]; omega) _ _ _ _ hg3 ?_
    simp only [bs_append, ← List.append_assoc] at hs ⊢
    exact hs.swap.drop
  · subst hq
    simp only [show (1 ≤ 3 ∧ 3 ≤ 4) = True by simp, if_true] at hR2
    have HR2 := Lib.hid hR2
    clear hR2
    refine go ?_
    refine E.bytes Tryz.underlying9 Tryz.underlying29 Tryz.underlying5 hs h3b ?_
    intro b5 c5 w3 g3 hg3 hs hp5
    refine go ?_
    refine E.callf Tryz.func34 rfl ?_
    refine layText_any hs hp5 rfl (by omega) (by omega) ?_
    intro a4 c4 w4 hs
    refine go ?_
    refine E.callf Tryz.func35 rfl ?_
    refine bits_any ?_
    refine E.callf Tryz.func31 rfl ?_
    refine fixed_any hs (bitsF_lt h6) (by omega) ?_
    intro a6 c6 w6 hs
    refine go ?_
    refine A.r1 ?_
    refine HR2.out (textB key ++ fixB (bitsF num)) _ (by simp) (by simp [fixB_len]; omega) _ _ _ _ hg3 ?_
    simp only [bs_append, ← List.append_assoc] at hs ⊢
    exact hs.swap.drop
  · subst hq
    simp only [show (1 ≤ 4 ∧ 4 ≤ 4) = True by simp, if_true] at hR2
    have HR2 := Lib.hid hR2
    clear hR2
    refine go ?_
    refine E.bytes Tryz.underlying9 Tryz.underlying29 Tryz.underlying5 hs h3b ?_
    intro b5 c5 w3 g3 hg3 hs hp5
    refine go ?_
    refine E.callf Tryz.func34 rfl ?_
    refine layText_any hs hp5 rfl (by omega) (by omega) ?_
    intro a4 c4 w4 hs
    refine go ?_
    refine A.r1 ?_
    refine HR2.out (textB key) _ (by simp) (by simp) _ _ _ _ hg3 ?_
    exact hs.swap.drop
  · subst hq
    obtain ⟨nd, rfl⟩ := Int.eq_ofNat_of_zero_le (hnd rfl)
    simp only [show (1 ≤ 5 ∧ 5 ≤ 4) = False by simp, if_false, Int.toNat_natCast] at hR2
    have HR2 := Lib.hid hR2
    clear hR2
    refine go ?_
    refine E.callf Tryz.func30 rfl ?_
    refine lay_any hs (by omega) (by omega) ?_
    intro a6 c6 w6 hs
    refine go ?_
    refine A.r1 ?_
    refine HR2.out (layN nd) _ (by simp) (by simp) _ _ _ _ (Hl.le_refl _) ?_
    exact hs.swap.drop
  · subst hq
    simp only [show (1 ≤ 0 ∧ 0 ≤ 4) = False by simp, if_false] at hR2
    have HR2 := Lib.hid hR2
    clear hR2
    refine go ?_
    refine A.r1 ?_
    refine HR2.out [] _ (by simp) (by simp) _ _ _ _ (Hl.le_refl _) ?_
    simpa [bs] using hs.swap.drop
  · refine go ?_
    rw [show decide ((1 : Int) ≤ kd) = true from decide_eq_true (by omega)]
    refine go ?_
    rw [show decide ((kd : Int) ≤ 4) = false from decide_eq_false (by omega)]
    refine go ?_
    rw [show decide ((kd : Int) = 1) = false from decide_eq_false (by omega)]
    refine go ?_
    rw [show decide ((kd : Int) = 2) = false from decide_eq_false (by omega)]
    refine go ?_
    rw [show decide ((kd : Int) = 3) = false from decide_eq_false (by omega)]
    refine go ?_
    rw [show decide ((kd : Int) = 5) = false from decide_eq_false (by omega)]
    refine go ?_
    refine A.r1 ?_
    have k1 : ¬ (1 ≤ kd ∧ kd ≤ 4) := by omega
    have k2 : ¬ kd = 1 := by omega
    have k3 : ¬ (kd = 2 ∨ kd = 3) := by omega
    have k4 : ¬ kd = 5 := by omega
    simp only [k1, k2, k3, k4, if_false] at hR2
    refine hR2 [] _ (by simp) (by simp) _ _ _ _ (Hl.le_refl _) ?_
    simpa [bs] using hs.swap.drop
end Go.Proofs.YtkolnecahlkndaaGreat

/-
  Layer 7 (vector): Get, Trim, With.
-/
namespace Go.Proofs.YtkolnecahlkndaaGreat
open Go.RowKit
set_option linter.unusedVariables false
set_option linter.unusedSimpArgs false

/-- The cells of numbers. -/
def us (v : List Nat) : List Value := v.map fun (n : Nat) => .int .u64 (n : Int)
@[simp] theorem us_length (v : List Nat) : (us v).length = v.length := by simp [us]
theorem us_one (l : List Nat) : ∀ u ∈ us l, u.oneCell' = true := by
  intro u hu
  obtain ⟨x, _, rfl⟩ := List.mem_map.1 hu
  rfl
theorem us_get {l : List Nat} {j : Nat} (h : j < l.length) : (us l)[j]? = some (.int .u64 (l[j] : Int)) := by simp [us, h]
theorem us_take (l : List Nat) (k : Nat) : us (l.take k) = (us l).take k := by simp [us, List.map_take]
theorem el_vec : ElemOf Tryz.prog 63 28 (.int .u64 0) 1 8 := .of Tryz.underlying63 (by kernel_rfl) rfl (by decide)

def vget (v : List Nat) (w : Int) : Nat := if 0 ≤ w then v.getD w.toNat 0 else 0
/-- How many without noughts behind. -/
def vlen : List Nat → Nat
  | [] => 0
  | x :: r => if vlen r = 0 ∧ x = 0 then 0 else vlen r + 1
def vtrim (v : List Nat) : List Nat := v.take (vlen v)
def vwith (v : List Nat) (w : Int) (n : Nat) : List Nat := if 0 ≤ w ∧ w < 64 then vtrim ((v ++ List.replicate (w.toNat + 1 - v.length) 0).set w.toNat n) else vtrim v
theorem vlen_le : ∀ (v : List Nat), vlen v ≤ v.length
  | [] => Nat.le_refl _
  | x :: r => by have := vlen_le r; simp only [vlen, List.length_cons]; split <;> omega
theorem vlen_zero : ∀ (v : List Nat), (∀ k, (h : k < v.length) → v[k] = 0) → vlen v = 0
  | [], _ => rfl
  | x :: r, h => by
    have h0 := h 0 (by simp)
    have := vlen_zero r fun k hk => by have := h (k + 1) (by simpa using hk); simpa using this
    simp only [vlen]
    rw [if_pos ⟨this, by simpa using h0⟩]
theorem vlen_eq : ∀ (v : List Nat) (n : Nat), n ≤ v.length → (∀ k, (h : k < v.length) → n ≤ k → v[k] = 0) → (n = 0 ∨ ∃ h : n - 1 < v.length, v[n - 1] ≠ 0) → vlen v = n
  | [], n, h, _, _ => by simp only [List.length_nil] at h; simp only [vlen]; omega
  | x :: r, 0, _, h, _ => vlen_zero _ fun k hk => h k hk (Nat.zero_le _)
  | x :: r, n + 1, h1, h2, h3 => by
    simp only [List.length_cons] at h1
    rcases h3 with h3 | ⟨h3, h4⟩
    · omega
    rcases Nat.eq_zero_or_pos n with rfl | hn
    · have h0 := vlen_zero r fun k hk => by have := h2 (k + 1) (by simpa using hk) (by omega); simpa using this
      simp only [vlen, h0]
      have : x ≠ 0 := by simpa using h4
      rw [if_neg (by omega)]
    · have ih := vlen_eq r n (by omega) (fun k hk hnk => by have := h2 (k + 1) (by simpa using hk) (by omega); simpa using this) (.inr ⟨by simp only [List.length_cons] at h3; omega, by
        obtain ⟨m, rfl⟩ : ∃ m, n = m + 1 := ⟨n - 1, by omega⟩
        simpa using h4⟩)
      simp only [vlen, ih]
      rw [if_neg (by omega)]
theorem vlen_tail : ∀ (v : List Nat) (k : Nat), vlen v ≤ k → v.getD k 0 = 0
  | [], k, _ => by simp
  | x :: r, k, h => by
    simp only [vlen] at h
    split at h
    · rename_i h0
      cases k with
      | zero => simpa using h0.2
      | succ k => have := vlen_tail r k (by omega); simpa using this
    · cases k with
      | zero => omega
      | succ k => have := vlen_tail r k (by omega); simpa using this
theorem vtrim_get (v : List Nat) (w : Int) : vget (vtrim v) w = vget v w := by
  unfold vget vtrim
  split
  · rw [List.getD_eq_getElem?_getD, List.getElem?_take]
    split
    · rw [List.getD_eq_getElem?_getD]
    · rename_i h
      have := vlen_tail v w.toNat (by omega)
      rw [this]; rfl
  · rfl
theorem vtrim_len (v : List Nat) : (vtrim v).length ≤ v.length := by unfold vtrim; rw [List.length_take]; omega
theorem vwith_get (v : List Nat) {w : Int} (n : Nat) (u : Int) (hw : 0 ≤ w ∧ w < 64) : vget (vwith v w n) u = if u = w then n else vget v u := by
  unfold vwith
  rw [if_pos hw, vtrim_get]
  unfold vget
  by_cases hu : 0 ≤ u
  · rw [if_pos hu, if_pos hu]
    rw [List.getD_eq_getElem?_getD, List.getElem?_set]
    by_cases he : u = w
    · subst he
      rw [if_pos rfl, if_pos rfl, if_pos (by simp; omega)]; rfl
    · rw [if_neg (by omega), if_neg he, List.getElem?_append, List.getD_eq_getElem?_getD]
      split
      · rfl
      · rename_i h
        rw [List.getElem?_eq_none (l := v) (by omega), List.getElem?_replicate]
        split <;> rfl
  · rw [if_neg hu, if_neg hu, if_neg (by omega)]
theorem vwith_len (v : List Nat) (w : Int) (n : Nat) (hv : v.length ≤ 64) : (vwith v w n).length ≤ 64 := by
  unfold vwith
  split
  · have := vtrim_len ((v ++ List.replicate (w.toNat + 1 - v.length) 0).set w.toNat n)
    simp only [List.length_set, List.length_append, List.length_replicate] at this
    omega
  · have := vtrim_len v; omega
theorem vwith_lt (v : List Nat) (w : Int) (n : Nat) (h : ∀ x ∈ v, x < 18446744073709551616) (hn : n < 18446744073709551616) : ∀ x ∈ vwith v w n, x < 18446744073709551616 := by
  intro x hx
  unfold vwith at hx
  split at hx
  · have h1 := List.mem_of_mem_take hx
    rcases List.mem_or_eq_of_mem_set h1 with h2 | rfl
    · rcases List.mem_append.1 h2 with h3 | h3
      · exact h x h3
      · have := (List.mem_replicate.1 h3).2; omega
    · exact hn
  · exact h x (List.mem_of_mem_take hx)

set_option maxHeartbeats 1600000 in
set_option maxRecDepth 100000 in
theorem vget_any {R : Ending → World → Prop} {W w : World} {g : Hl} {H : List HP} {a : Option Addr} {n c : Nat} {v : List Nat} {i : Int} (hs : Sat W w g H) (hp : Pr 1 g (.slice a n c) n (us v)) (hn : v.length = n) (hn2 : n ≤ 1000000000) (hR : R (.returned (.int .u64 (vget v i))) w) :
    Calls Tryz.prog 44 #[.slice a n c, .int .i64 i] w R := by
  have HR := Lib.hid hR
  clear hR
  refine C.calls (args := [.slice a n c, .int .i64 i]) Tryz.func44 rfl rfl rfl ?_
  refine go ?_
  cases h1 : decide (i < 0) with
  | true =>
    refine go ?_
    refine A.r1 ?_
    have h1 := of_decide_eq_true h1
    have := HR.out
    simp only [vget] at this
    rw [if_neg (by omega)] at this
    exact this
  | false =>
  have h1 := of_decide_eq_false h1
  refine go ?_
  cases h2 : decide ((n : Int) ≤ i) with
  | true =>
    refine go ?_
    refine A.r1 ?_
    have h2 := of_decide_eq_true h2
    have := HR.out
    simp only [vget] at this
    rw [if_pos (by omega), List.getD_eq_getElem?_getD, List.getElem?_eq_none (by omega)] at this
    exact this
  | false =>
  have h2 := of_decide_eq_false h2
  refine go ?_
  refine E.ix el_vec hs hp i.toNat (us_get (by omega)) ?_
  intro b o hc
  refine go ?_
  refine A.r1 ?_
  have := HR.out
  simp only [vget] at this
  rw [if_pos (by omega), List.getD_eq_getElem?_getD, List.getElem?_eq_getElem (by omega)] at this
  exact this

set_option maxHeartbeats 1600000 in
set_option maxRecDepth 100000 in
theorem vclone_any {R : Ending → World → Prop} {W w : World} {g : Hl} {H : List HP} {a : Option Addr} {n c : Nat} {v : List Nat} (hs : Sat W w g H) (hp : Pr 1 g (.slice a n c) n (us v)) (hn : n ≤ 1000000000)
    (hR : ∀ a' c' w', Sat W w' g (own 28 1 (.slice a' n c') n (us v) :: H) → R (.returned (.slice a' n c')) w') :
    Calls Tryz.prog 77 #[.slice a n c] w R := by
  have HR := Lib.hid hR
  clear hR
  cases a with
  | none =>
    obtain ⟨hx, a0, c0, e, _, _, h0, _⟩ := id hp
    simp only [Value.slice.injEq] at e
    obtain ⟨rfl, _, rfl⟩ := e
    obtain ⟨rfl, rfl⟩ := h0 rfl
    obtain rfl : v = [] := by simpa using hx
    refine C.calls (args := [.slice none 0 0]) Tryz.func77 rfl rfl rfl ?_
    refine go ?_
    refine A.r1 ?_
    exact HR.out _ _ _ hs.nilOwn
  | some ad =>
    refine C.calls (args := [.slice (some ad) n c]) Tryz.func77 rfl rfl rfl ?_
    refine go ?_
    refine E.bsl hs ?_
    intro b1 w1 hs
    have hs := hs.blkOwn (size := 1) 0 rfl (by decide)
    refine go ?_
    refine E.app el_vec hs (hp.row hs) ?_ (h1 := us_one _)
    intro a2 c2 w2 _ _ hs
    simp only [Nat.zero_add, List.nil_append] at hs ⊢
    refine go ?_
    refine A.r1 ?_
    exact HR.out _ _ _ hs

set_option maxHeartbeats 1600000 in
set_option maxRecDepth 100000 in
theorem vtrim_any {R : Ending → World → Prop} {W w : World} {g : Hl} {H : List HP} {a : Option Addr} {n c : Nat} {v : List Nat} (hs : Sat W w g H) (hp : Pr 1 g (.slice a n c) n (us v)) (hv : v.length = n) (hn : n ≤ 1000000000)
    (hR : ∀ a' c' w' g', Hl.le g g' → Pr 1 g' (.slice a' (vtrim v).length c') (vtrim v).length (us (vtrim v)) → Sat W w' g' H → R (.returned (.slice a' (vtrim v).length c')) w') :
    Calls Tryz.prog 63 #[.slice a n c] w R := by
  have HR := Lib.hid hR
  clear hR
  refine C.calls (args := [.slice a n c]) Tryz.func63 rfl rfl rfl ?_
  refine gob ?_
  refine C.cutQ (fun _ : Unit => [(0, .slice a n c), (3, .int .i64 (vlen v))]) (fun _ w => Sat W w g H) ?_ ?_
  · refine C.block ?_
    refine C.lp (fun m : Nat => [(0, .slice a n c), (3, .int .i64 m)]) (fun gk m w => gk = m ∧ m ≤ n ∧ (∀ k, (h : k < v.length) → m ≤ k → v[k] = 0) ∧ Sat W w g H) n n ⟨rfl, Nat.le_refl _, fun k h h2 => by omega, hs⟩ ?_
    clear hs
    rintro gk m w1 ⟨rfl, hm, hz, hs⟩
    refine go ?_
    cases h1 : decide ((0 : Int) < gk) with
    | false =>
      have h1 := of_decide_eq_false h1
      refine go ?_
      refine A.mt () hs ?_
      have : vlen v = gk := vlen_eq v gk (by omega) hz (.inl (by omega))
      rw [this]
      exact wk_
    | true =>
    have h1 := of_decide_eq_true h1
    refine go ?_
    have hlt : gk - 1 < v.length := by omega
    refine E.ix el_vec hs hp (gk - 1) (us_get hlt) ?_
    intro b o hc
    refine go ?_
    cases h2 : decide ((v[gk - 1] : Int) = 0) with
    | false =>
      have h2 := of_decide_eq_false h2
      refine go ?_
      refine A.mt () hs ?_
      have : vlen v = gk := vlen_eq v gk (by omega) hz (.inr ⟨hlt, by omega⟩)
      rw [this]
      exact wk_
    | true =>
      have h2 := of_decide_eq_true h2
      refine go ?_
      have e1 : ((gk : Int) - 1) = ((gk - 1 : Nat) : Int) := by omega
      rw [e1]
      refine A.rd (gk - 1) (gk - 1) ⟨rfl, by omega, fun k hk hmk => ?_, hs⟩
      rcases Nat.lt_or_ge k gk with h | h
      · obtain rfl : k = gk - 1 := by omega
        omega
      · exact hz k hk h
  clear hs
  rintro _ w1 hs
  have hvl := vlen_le v
  refine go ?_
  refine E.slp el_vec hp 0 (vlen v) ?_
  intro a2 c2 hp2
  simp only [Nat.zero_mul, List.drop_zero, Nat.sub_zero, Nat.mul_one] at hp2 ⊢
  rw [← us_take] at hp2
  have hl : (vtrim v).length = vlen v := by unfold vtrim; rw [List.length_take]; omega
  refine E.callf Tryz.func77 rfl ?_
  refine vclone_any hs hp2 (by omega) ?_
  intro a3 c3 w3 hs
  obtain ⟨g3, hg3, hp3, hs⟩ := hs.publishOwn
  refine go ?_
  refine A.r1 ?_
  have hp4 : Pr 1 g3 (.slice a3 (vtrim v).length c3) (vtrim v).length (us (vtrim v)) := by rw [hl]; exact hp3
  rw [← hl]
  exact HR.out _ _ _ _ hg3 hp4 hs

set_option maxHeartbeats 1600000 in
set_option maxRecDepth 100000 in
theorem vwith_any {R : Ending → World → Prop} {W w : World} {g : Hl} {H : List HP} {a : Option Addr} {n c m : Nat} {v : List Nat} {i : Int} (hs : Sat W w g H) (hp : Pr 1 g (.slice a n c) n (us v)) (hv : v.length = n) (hn : n ≤ 100000000)
    (hR : ∀ a' c' w' g', Hl.le g g' → Pr 1 g' (.slice a' (vwith v i m).length c') (vwith v i m).length (us (vwith v i m)) → Sat W w' g' H → R (.returned (.slice a' (vwith v i m).length c')) w') :
    Calls Tryz.prog 45 #[.slice a n c, .int .i64 i, .int .u64 m] w R := by
  have HR := Lib.hid hR
  clear hR
  by_cases hi : 0 ≤ i ∧ i < 64
  · obtain ⟨i, rfl⟩ := Int.eq_ofNat_of_zero_le hi.1
    have ew : vwith v i m = vtrim ((v ++ List.replicate (i + 1 - v.length) 0).set i m) := by unfold vwith; rw [if_pos hi]; rfl
    refine C.calls (args := [.slice a n c, .int .i64 i, .int .u64 m]) Tryz.func45 rfl rfl rfl ?_
    refine go ?_
    rw [show decide ((i : Int) < 0) = false from decide_eq_false (by omega)]
    refine go ?_
    rw [show decide ((64 : Int) ≤ i) = false from decide_eq_false (by omega)]
    refine go ?_
    refine E.callf Tryz.func77 rfl ?_
    refine vclone_any hs hp (by omega) ?_
    intro a2 c2 w2 hs
    refine gob ?_
    refine C.cut (fun x : Nat × Option Addr × Nat => [(1, .int .i64 i), (2, .int .u64 m), (7, .slice x.2.1 x.1 x.2.2)]) (fun x w => x.1 = (v ++ List.replicate (i + 1 - v.length) 0).length ∧ Sat W w g (own 28 1 (.slice x.2.1 x.1 x.2.2) x.1 (us (v ++ List.replicate (i + 1 - v.length) 0)) :: H)) ?_ ?_
    · refine C.block ?_
      refine C.lp (fun x : Nat × Option Addr × Nat => [(1, .int .i64 i), (2, .int .u64 m), (7, .slice x.2.1 x.1 x.2.2)]) (fun gk x w => gk = i + 1 - x.1 ∧ n ≤ x.1 ∧ x.1 ≤ max n (i + 1) ∧ Sat W w g (own 28 1 (.slice x.2.1 x.1 x.2.2) x.1 (us (v ++ List.replicate (x.1 - n) 0)) :: H)) (i + 1 - n) (n, a2, c2) ⟨rfl, Nat.le_refl _, by simp only; omega, by simpa using hs⟩ ?_
      clear hs
      rintro gk ⟨k, a3, c3⟩ w3 ⟨rfl, hk, hk2, hs⟩
      simp only at hk hk2 hs ⊢
      refine go ?_
      refine C.cond_dec (p := (k : Int) ≤ i) rfl (fun h => ?_) (fun h => ?_)
      · refine go ?_
        refine E.bsl hs ?_
        intro b4 w4 hs
        refine E.app el_vec hs.swap (hs.rowOf (size := 1) 1 rfl (by decide)) ?_
        intro a5 c5 w5 _ _ hs
        refine go ?_
        refine A.rd (i + 1 - (k + 1)) (k + 1, a5, c5) ⟨rfl, by simp only; omega, by simp only; omega, ?_⟩
        have e : us (v ++ List.replicate (k + 1 - n) 0) = us (v ++ List.replicate (k - n) 0) ++ [.int .u64 0] := by
          rw [show k + 1 - n = (k - n) + 1 by omega, List.replicate_succ']
          simp [us]
        simp only [e]
        exact hs.swap.drop
      · refine go ?_
        refine A.mt (k, a3, c3) ⟨?_, ?_⟩
        · simp only [List.length_append, List.length_replicate]; omega
        · rw [show i + 1 - v.length = k - n by omega]
          exact hs
    clear hs
    rintro ⟨k, a3, c3⟩ w3 ⟨hk, hs⟩
    simp only at hk hs ⊢
    have hlen : (v ++ List.replicate (i + 1 - v.length) 0).length = k := hk.symm
    have hik : i < k := by rw [hk]; simp only [List.length_append, List.length_replicate]; omega
    have hk9 : k ≤ 1000000000 := by rw [hk]; simp only [List.length_append, List.length_replicate]; omega
    generalize v ++ List.replicate (i + 1 - v.length) 0 = u at *
    clear hk
    obtain ⟨_, _, e1, hkc, hcm, hcase⟩ := hs.ownLen
    simp only [Value.slice.injEq] at e1
    obtain ⟨rfl, _, rfl⟩ := e1
    rcases hcase with rfl | ⟨bb, rfl⟩
    · exfalso
      rcases hs.owns.2 with ⟨e, _⟩ | ⟨_, _, _, e, _⟩
      · simp only [Value.slice.injEq] at e; omega
      · cases e
    refine go ?_
    refine E.cons (St.storeOwn hs rfl rfl rfl (by rw [us_length]; omega) rfl sz_ ?_)
    intro w4 hs
    have e2 : (us u).set i (.int .u64 m) = us (u.set i m) := by simp [us]
    rw [e2] at hs
    obtain ⟨g5, hg5, hp5, hs⟩ := hs.publishOwn
    refine go ?_
    refine E.callf Tryz.func63 rfl ?_
    refine vtrim_any hs hp5 (by simpa using hlen) (by omega) ?_
    intro a6 c6 w6 g6 hg6 hp6 hs
    rw [ew] at HR
    refine go ?_
    refine A.r1 ?_
    exact HR.out _ _ _ _ (hg5.trans hg6) hp6 hs
  · have ew : vwith v i m = vtrim v := by unfold vwith; rw [if_neg hi]
    rw [ew] at HR
    refine C.calls (args := [.slice a n c, .int .i64 i, .int .u64 m]) Tryz.func45 rfl rfl rfl ?_
    refine go ?_
    cases h1 : decide (i < 0) with
    | true =>
      refine go ?_
      refine E.callf Tryz.func63 rfl ?_
      refine vtrim_any hs hp hv (by omega) ?_
      intro a6 c6 w6 g6 hg6 hp6 hs
      refine go ?_
      refine A.r1 ?_
      exact HR.out _ _ _ _ hg6 hp6 hs
    | false =>
      have h1 := of_decide_eq_false h1
      refine go ?_
      rw [show decide ((64 : Int) ≤ i) = true from decide_eq_true (by omega)]
      refine go ?_
      refine E.callf Tryz.func63 rfl ?_
      refine vtrim_any hs hp hv (by omega) ?_
      intro a6 c6 w6 g6 hg6 hp6 hs
      refine go ?_
      refine A.r1 ?_
      exact HR.out _ _ _ _ hg6 hp6 hs
end Go.Proofs.YtkolnecahlkndaaGreat

/-
  Layer 11 (fold): what a fold is; New, Copy, and what is asked of it.
-/
namespace Go.Proofs.YtkolnecahlkndaaGreat
open Go.RowKit
set_option linter.unusedVariables false
set_option linter.unusedSimpArgs false

/-- What a key has. -/
structure Ce where
  kd : Nat
  text : List UInt8
  num : Nat
def ceV (c : Ce) (tv : Value) : Value := .agg #[.int .u8 c.kd, tv, .float .f64 c.num]
structure Fo where
  cells : List (List UInt8 × Ce)
  mem : List Bool
  ret : List Bool
  vec : List Nat
  tm : Nat
  wr : Int
  mark : Nat
structure Ce.ok (c : Ce) : Prop where
  kd : c.kd < 256
  num : c.num < 18446744073709551616
  text : c.text.length ≤ 100000000
structure Fo.ok (f : Fo) : Prop where
  mem : f.mem.length = 64
  ret : f.ret.length = 64
  vec : f.vec.length ≤ 64
  vlt : ∀ x ∈ f.vec, x < 18446744073709551616
  tm : f.tm < 18446744073709551616
  wr : -9223372036854775808 ≤ f.wr ∧ f.wr ≤ 9223372036854775807
  mark : f.mark < 18446744073709551616
  cells : ∀ p ∈ f.cells, p.2.ok ∧ p.1.length ≤ 100000000
  keys : (f.cells.map Prod.fst).Nodup

/-- The struct's cells. -/
def foC (mb : Nat) (hv : Value) (f : Fo) : List Value := .map (some mb) :: (f.mem.map Value.bool ++ (f.ret.map Value.bool ++ [hv, .int .u64 f.tm, .int .i64 f.wr, .int .u64 f.mark]))
section
variable {mb : Nat} {hv : Value} {f : Fo}
theorem foC_len (h1 : f.mem.length = 64) (h2 : f.ret.length = 64) : (foC mb hv f).length = 133 := by simp [foC, h1, h2]
theorem foC_0 : (foC mb hv f)[0]? = some (.map (some mb)) := rfl
theorem foC_mem (h1 : f.mem.length = 64) {i : Nat} (h : i < 64) : (foC mb hv f)[1 + i]? = some (.bool (f.mem.getD i false)) := by
  rw [foC, Nat.add_comm, List.getElem?_cons_succ, List.getElem?_append_left (by simpa [h1] using h), List.getElem?_map, List.getD_eq_getElem?_getD, List.getElem?_eq_getElem (by omega)]
  rfl
theorem foC_ret (h1 : f.mem.length = 64) (h2 : f.ret.length = 64) {i : Nat} (h : i < 64) : (foC mb hv f)[65 + i]? = some (.bool (f.ret.getD i false)) := by
  rw [foC, show 65 + i = (64 + i) + 1 by omega, List.getElem?_cons_succ, List.getElem?_append_right (by simp [h1])]
  simp only [List.length_map, h1]
  rw [show 64 + i - 64 = i by omega, List.getElem?_append_left (by simpa [h2] using h), List.getElem?_map, List.getD_eq_getElem?_getD, List.getElem?_eq_getElem (by omega)]
  rfl
theorem foC_at (h1 : f.mem.length = 64) (h2 : f.ret.length = 64) (i : Nat) : (foC mb hv f)[129 + i]? = [hv, .int .u64 f.tm, .int .i64 f.wr, .int .u64 f.mark][i]? := by
  rw [foC, show 129 + i = (128 + i) + 1 by omega, List.getElem?_cons_succ, List.getElem?_append_right (by simp only [List.length_map, h1]; omega)]
  rw [List.getElem?_append_right (by simp only [List.length_map, h1, h2]; omega)]
  simp only [List.length_map, h1, h2]
  rw [show 128 + i - 64 - 64 = i by omega]
set_option maxRecDepth 10000 in
theorem foC_129 (h1 : f.mem.length = 64) (h2 : f.ret.length = 64) : (foC mb hv f)[129]? = some hv := foC_at h1 h2 0
set_option maxRecDepth 10000 in
theorem foC_130 (h1 : f.mem.length = 64) (h2 : f.ret.length = 64) : (foC mb hv f)[130]? = some (.int .u64 f.tm) := foC_at h1 h2 1
set_option maxRecDepth 10000 in
theorem foC_131 (h1 : f.mem.length = 64) (h2 : f.ret.length = 64) : (foC mb hv f)[131]? = some (.int .i64 f.wr) := foC_at h1 h2 2
set_option maxRecDepth 10000 in
theorem foC_132 (h1 : f.mem.length = 64) (h2 : f.ret.length = 64) : (foC mb hv f)[132]? = some (.int .u64 f.mark) := foC_at h1 h2 3
theorem foC_last (h1 : f.mem.length = 64) (h2 : f.ret.length = 64) : ((foC mb hv f).drop 130).take 2 = [.int .u64 f.tm, .int .i64 f.wr] := by
  rw [foC, show 130 = 129 + 1 by rfl, List.drop_succ_cons, List.drop_append, List.drop_append]
  simp [h1, h2, List.drop_eq_nil_of_le]
theorem foC_setat (h1 : f.mem.length = 64) (h2 : f.ret.length = 64) (i : Nat) (u : Value) : (foC mb hv f).set (129 + i) u = .map (some mb) :: (f.mem.map Value.bool ++ (f.ret.map Value.bool ++ [hv, .int .u64 f.tm, .int .i64 f.wr, .int .u64 f.mark].set i u)) := by
  rw [foC, show 129 + i = (128 + i) + 1 by omega, List.set_cons_succ, List.set_append_right _ _ (by simp only [List.length_map, h1]; omega), List.set_append_right _ _ (by simp only [List.length_map, h1, h2]; omega)]
  simp only [List.length_map, h1, h2]
  rw [show 128 + i - 64 - 64 = i by omega]
set_option maxRecDepth 10000 in
theorem foC_set129 (h1 : f.mem.length = 64) (h2 : f.ret.length = 64) (u : Value) : spl (foC mb hv f) 129 [u] = foC mb u f := foC_setat h1 h2 0 u
set_option maxRecDepth 10000 in
theorem foC_set132 (h1 : f.mem.length = 64) (h2 : f.ret.length = 64) (m : Nat) : spl (foC mb hv f) 132 [.int .u64 m] = foC mb hv { f with mark := m } := foC_setat h1 h2 3 _
set_option maxRecDepth 10000 in
theorem foC_set130 (h1 : f.mem.length = 64) (h2 : f.ret.length = 64) (t : Nat) (wr : Int) : spl (foC mb hv f) 130 [.int .u64 t, .int .i64 wr] = foC mb hv { f with tm := t, wr := wr } := by
  have e1 : (foC mb hv f).set 130 (.int .u64 t) = foC mb hv { f with tm := t } := foC_setat h1 h2 1 _
  have e2 : (foC mb hv { f with tm := t }).set 131 (.int .i64 wr) = foC mb hv { f with tm := t, wr := wr } := foC_setat (f := { f with tm := t }) h1 h2 2 _
  simp only [spl, e1, e2]
theorem foC_setmem (h1 : f.mem.length = 64) {i : Nat} (h : i < 64) : spl (foC mb hv f) (1 + i) [.bool true] = foC mb hv { f with mem := f.mem.set i true } := by
  simp only [spl, foC]
  rw [Nat.add_comm, List.set_cons_succ, List.set_append_left _ _ (by simpa [h1] using h), List.map_set]
theorem foC_setret (h1 : f.mem.length = 64) (h2 : f.ret.length = 64) {i : Nat} (h : i < 64) : spl (foC mb hv f) (65 + i) [.bool true] = foC mb hv { f with ret := f.ret.set i true } := by
  simp only [spl, foC]
  rw [show 65 + i = (64 + i) + 1 by omega, List.set_cons_succ, List.set_append_right _ _ (by simp [h1]), List.length_map, h1, show 64 + i - 64 = i by omega, List.set_append_left _ _ (by simpa [h2] using h), List.map_set]
theorem foC_setmap (mb' : Nat) : spl (foC mb hv f) 0 [.map (some mb')] = foC mb' hv f := rfl
end

abbrev Cs := List (List UInt8 × (Ce × Value))
def Cs.plain (L : Cs) : List (List UInt8 × Ce) := L.map fun p => (p.1, p.2.1)
def Cs.tvs (L : Cs) (g : Hl) : Prop := ∀ p ∈ L, Pr 1 g p.2.2 p.2.1.text.length (bs p.2.1.text)
theorem Cs.tvs_mono {L : Cs} {g g' : Hl} (h : L.tvs g) (hg : Hl.le g g') : L.tvs g' := fun p hp => (h p hp).mono hg
def cmap (mb : Nat) (L : Cs) : HP := mp str mb (L.map fun p => (p.1, ceV p.2.1 p.2.2))
structure Fi where
  mb : Nat
  L : Cs
  a : Option Addr
  c : Nat
def Fi.hv (i : Fi) (f : Fo) : Value := .slice i.a f.vec.length i.c
structure Fi.ok (i : Fi) (f : Fo) (g : Hl) : Prop where
  ok : f.ok
  plain : Cs.plain i.L = f.cells
  tvs : i.L.tvs g
  vec : Pr 1 g (i.hv f) f.vec.length (us f.vec)
theorem Fi.ok.mono {i : Fi} {f : Fo} {g g' : Hl} (h : i.ok f g) (hg : Hl.le g g') : i.ok f g' := ⟨h.ok, h.plain, Cs.tvs_mono h.tvs hg, h.vec.mono hg⟩
def foB (b : Nat) (i : Fi) (f : Fo) : HP := blk b (foC i.mb (i.hv f) f) 79
/-- A fold. -/
def fold (b : Nat) (f : Fo) : HP := exs fun i : Fi => wit (fun g => i.ok f g) (fun _ _ hg h => h.mono hg) (sep (foB b i f) (cmap i.mb i.L))
section
variable {W w : World} {g : Hl} {H : List HP} {b : Nat} {f : Fo}
theorem fold_open (hs : Sat W w g (fold b f :: H)) : ∃ i : Fi, i.ok f g ∧ Sat W w g (foB b i f :: cmap i.mb i.L :: H) := by
  obtain ⟨i, h⟩ := hs.unexs
  exact ⟨i, h.unwit.1, h.unwit.2.split⟩
theorem fold_close (i : Fi) (h : i.ok f g) (hs : Sat W w g (foB b i f :: cmap i.mb i.L :: H)) : Sat W w g (fold b f :: H) := Sat.mkexs i (Sat.mkwit h hs.join)
end
theorem ag_fold : AggOf Tryz.prog 79 133 := ⟨_, Tryz.underlying79, rfl, by kernel_rfl⟩
theorem ag_cell : AggOf Tryz.prog 68 3 := ⟨_, Tryz.underlying68, rfl, by kernel_rfl⟩

/-- Of no events. -/
def foNew (k : Nat) : Fo := ⟨[], List.replicate k true ++ List.replicate (64 - k) false, List.replicate 64 false, [], 0, 0, 14695981039346656037⟩
theorem foNew_ok {k : Nat} (h : k ≤ 64) : (foNew k).ok := ⟨by simp [foNew]; omega, by simp [foNew], by simp [foNew], by simp [foNew], by simp [foNew], by simp [foNew], by simp [foNew], by simp [foNew], by simp [foNew]⟩

set_option maxHeartbeats 1600000 in
set_option maxRecDepth 100000 in
theorem foldNew_any {R : Ending → World → Prop} {W w : World} {g : Hl} {H : List HP} {n : Int} (hn : -9223372036854775808 ≤ n ∧ n ≤ 9223372036854775807) (hs : Sat W w g H)
    (hR : ∀ b w', Sat W w' g (fold b (foNew (min (max n 0) 64).toNat) :: H) → R (.returned (ptr b)) w') : Calls Tryz.prog 12 #[.int .i64 n] w R := by
  have HR := Lib.hid hR
  clear hR
  refine C.calls (args := [.int .i64 n]) Tryz.func12 rfl rfl rfl ?_
  refine go ?_
  apply E.cons
  apply St.makeMap (List UInt8) str hs
  intro mb w1 hs
  refine go ?_
  refine E.bx hs (xs := foC mb (.slice none 0 0) (foNew 0)) ?_ (hx := rfl)
  intro b w2 hs
  have e1 : Min.min (Max.max n 0) 64 = ((min (max n 0) 64).toNat : Int) := by omega
  have hk : (min (max n 0) 64).toNat ≤ 64 := by omega
  refine gob ?_
  rw [e1]
  generalize (min (max n 0) 64).toNat = k at hk HR ⊢
  refine C.block ?_
  refine C.lp (fun i : Nat => [(3, ptr b), (10, .int .i64 k), (11, .int .i64 i)]) (fun gk i w => gk = k - i ∧ i ≤ k ∧ Sat W w g (blk b (foC mb (.slice none 0 0) (foNew i)) 79 :: mp str mb ([] : List (List UInt8 × Value)) :: H)) k 0 ⟨rfl, Nat.zero_le _, hs⟩ ?_
  clear hs
  rintro gk i w3 ⟨rfl, hi, hs⟩
  have e0 : ptr b = .pointer (some ⟨b, 0, none⟩) := rfl
  rw [e0]
  refine go ?_
  refine C.cond_dec (p := (i : Int) < k) rfl (fun h => ?_) (fun h => ?_)
  · refine go ?_
    refine E.ixa i Tryz.underlying77 ?_
    have hx := foC_setmem (mb := mb) (hv := .slice none 0 0) (f := foNew i) (by simp [foNew]; omega) (i := i) (by omega)
    have e2 : { foNew i with mem := (foNew i).mem.set i true } = foNew (i + 1) := by
      simp only [foNew]
      congr 1
      rw [List.set_append_right _ _ (by simp), List.length_replicate, Nat.sub_self, List.replicate_succ', List.append_assoc]
      congr 1
      rw [show 64 - i = (64 - (i + 1)) + 1 by omega, List.replicate_succ]
      rfl
    rw [e2] at hx
    refine E.sto hs ?_ (hsp := hx) (hj := by rw [foC_len (by simp [foNew]; omega) (by simp [foNew])]; simp; omega)
    intro w4 hs
    refine go ?_
    exact A.rd (k - (i + 1)) (i + 1) ⟨rfl, by omega, hs⟩
  · refine go ?_
    refine A.r1 ?_
    obtain rfl : i = k := by omega
    refine HR.out _ _ (fold_close ⟨mb, [], none, 0⟩ ⟨foNew_ok hk, rfl, (fun p hp => by cases hp), Pr.nil⟩ hs)

set_option maxHeartbeats 1600000 in
set_option maxRecDepth 100000 in
theorem foldJoined_any {R : Ending → World → Prop} {W w : World} {g : Hl} {H : List HP} {b : Nat} {f : Fo} {k : Int} (hs : Sat W w g (fold b f :: H))
    (hR : R (.returned (.bool (decide (0 ≤ k) && f.mem.getD k.toNat false))) w) : Calls Tryz.prog 89 #[ptr b, .int .i64 k] w R := by
  have HR := Lib.hid hR
  clear hR
  obtain ⟨i, hi, hs⟩ := fold_open hs
  have h1 := hi.ok.mem
  have h2 := hi.ok.ret
  simp only [foB] at hs
  refine C.calls (args := [.pointer (some ⟨b, 0, none⟩), .int .i64 k]) Tryz.func89 rfl rfl rfl ?_
  refine go ?_
  cases h3 : decide (0 ≤ k) with
  | false =>
    refine go ?_
    refine A.r1 ?_
    simpa [h3] using HR.out
  | true =>
  have h3' := of_decide_eq_true h3
  obtain ⟨k, rfl⟩ := Int.eq_ofNat_of_zero_le h3'
  refine go ?_
  cases h4 : decide ((k : Int) < 64) with
  | false =>
    refine go ?_
    refine A.r1 ?_
    have h4 := of_decide_eq_false h4
    have := HR.out
    rw [h3, List.getD_eq_getElem?_getD, List.getElem?_eq_none (by omega)] at this
    exact this
  | true =>
  have h4 := of_decide_eq_true h4
  refine go ?_
  refine E.ld hs ?_ (hj := foC_mem h1 (by omega))
  refine go ?_
  refine A.r1 ?_
  have := HR.out
  rw [h3] at this
  exact this

set_option maxHeartbeats 1600000 in
set_option maxRecDepth 100000 in
theorem foldRetired_any {R : Ending → World → Prop} {W w : World} {g : Hl} {H : List HP} {b : Nat} {f : Fo} {k : Int} (hs : Sat W w g (fold b f :: H))
    (hR : R (.returned (.bool (decide (0 ≤ k) && f.ret.getD k.toNat false))) w) : Calls Tryz.prog 90 #[ptr b, .int .i64 k] w R := by
  have HR := Lib.hid hR
  clear hR
  obtain ⟨i, hi, hs⟩ := fold_open hs
  have h1 := hi.ok.mem
  have h2 := hi.ok.ret
  simp only [foB] at hs
  refine C.calls (args := [.pointer (some ⟨b, 0, none⟩), .int .i64 k]) Tryz.func90 rfl rfl rfl ?_
  refine go ?_
  cases h3 : decide (0 ≤ k) with
  | false =>
    refine go ?_
    refine A.r1 ?_
    simpa [h3] using HR.out
  | true =>
  have h3' := of_decide_eq_true h3
  obtain ⟨k, rfl⟩ := Int.eq_ofNat_of_zero_le h3'
  refine go ?_
  cases h4 : decide ((k : Int) < 64) with
  | false =>
    refine go ?_
    refine A.r1 ?_
    have h4 := of_decide_eq_false h4
    have := HR.out
    rw [h3, List.getD_eq_getElem?_getD, List.getElem?_eq_none (by omega)] at this
    exact this
  | true =>
  have h4 := of_decide_eq_true h4
  refine go ?_
  refine E.ld hs ?_ (hj := foC_ret h1 h2 (by omega))
  refine go ?_
  refine A.r1 ?_
  have := HR.out
  rw [h3] at this
  exact this
/-- Is a node a member? -/
def Fo.member (f : Fo) (k : Int) : Bool := (decide (0 ≤ k) && f.mem.getD k.toNat false) && !(decide (0 ≤ k) && f.ret.getD k.toNat false)
set_option maxHeartbeats 1600000 in
set_option maxRecDepth 100000 in
theorem foldMember_any {R : Ending → World → Prop} {W w : World} {g : Hl} {H : List HP} {b : Nat} {f : Fo} {k : Int} (hs : Sat W w g (fold b f :: H))
    (hR : R (.returned (.bool (f.member k))) w) : Calls Tryz.prog 68 #[ptr b, .int .i64 k] w R := by
  have HR := Lib.hid hR
  clear hR
  have e0 : ptr b = .pointer (some ⟨b, 0, none⟩) := rfl
  refine C.calls (args := [ptr b, .int .i64 k]) Tryz.func68 rfl rfl rfl ?_
  refine go ?_
  refine E.callf Tryz.func89 rfl ?_
  refine foldJoined_any hs ?_
  cases h3 : (decide (0 ≤ k) && f.mem.getD k.toNat false) with
  | false =>
    refine go ?_
    refine A.r1 ?_
    have := HR.out
    simp only [Fo.member, h3] at this
    exact this
  | true =>
    refine go ?_
    refine E.callf Tryz.func90 rfl ?_
    refine foldRetired_any hs ?_
    refine go ?_
    refine A.r1 ?_
    have := HR.out
    simp only [Fo.member, h3] at this
    exact this
/-- The members, rising. -/
def Fo.members (f : Fo) (k : Nat) : List Int := ((List.range k).filter fun (i : Nat) => f.member (i : Int)).map fun (i : Nat) => (i : Int)
def is_ (l : List Int) : List Value := l.map fun i => .int .i64 i
set_option maxHeartbeats 1600000 in
set_option maxRecDepth 100000 in
theorem foldMembers_any {R : Ending → World → Prop} {W w : World} {g : Hl} {H : List HP} {b : Nat} {f : Fo} (hs : Sat W w g (fold b f :: H))
    (hR : ∀ a' c' w', Sat W w' g (own 3 1 (.slice a' (f.members 64).length c') (f.members 64).length (is_ (f.members 64)) :: fold b f :: H) → R (.returned (.slice a' (f.members 64).length c')) w') : Calls Tryz.prog 36 #[ptr b] w R := by
  have HR := Lib.hid hR
  clear hR
  have hlen : ∀ k, (f.members k).length ≤ k := fun k => by
    unfold Fo.members
    rw [List.length_map]
    have := List.length_filter_le (fun (i : Nat) => f.member (i : Int)) (List.range k)
    rw [List.length_range] at this
    exact this
  have hsucc : ∀ k : Nat, f.members (k + 1) = f.members k ++ (if f.member (k : Int) then [(k : Int)] else []) := fun k => by
    unfold Fo.members
    rw [List.range_succ, List.filter_append, List.map_append]
    congr 1
    simp only [List.filter_cons, List.filter_nil]
    split <;> rfl
  refine C.calls (args := [ptr b]) Tryz.func36 rfl rfl rfl ?_
  refine gob ?_
  refine C.block ?_
  refine C.lp (fun x : Nat × Option Addr × Nat => [(0, ptr b), (3, .slice x.2.1 (f.members x.1).length x.2.2), (5, .int .i64 x.1)]) (fun gk x w => gk = 64 - x.1 ∧ x.1 ≤ 64 ∧ Sat W w g (own 3 1 (.slice x.2.1 (f.members x.1).length x.2.2) (f.members x.1).length (is_ (f.members x.1)) :: fold b f :: H)) 64 (0, none, 0) ⟨rfl, Nat.zero_le _, hs.nilOwn⟩ ?_
  clear hs
  rintro gk ⟨k, a1, c1⟩ w1 ⟨rfl, hk, hs⟩
  simp only at hk hs ⊢
  have hl := hlen k
  have hq := hsucc k
  refine go ?_
  refine C.cond_dec (p := (k : Int) < 64) rfl (fun h => ?_) (fun h => ?_)
  · refine go ?_
    refine E.callf Tryz.func68 rfl ?_
    refine foldMember_any hs.swap ?_
    cases hm : f.member (k : Int) with
    | true =>
      refine go ?_
      refine E.bsl hs ?_
      intro b2 w2 hs
      refine E.app el_int hs.swap (hs.rowOf (size := 1) 1 rfl (by decide)) ?_
      intro a3 c3 w3 _ _ hs
      refine go ?_
      have e1 : f.members (k + 1) = f.members k ++ [(k : Int)] := by rw [hq, hm]; rfl
      refine A.rd (64 - (k + 1)) (k + 1, a3, c3) ⟨rfl, by simp only; omega, ?_⟩ (hw := ?_)
      · simp only [e1, List.length_append, List.length_cons, List.length_nil, Nat.zero_add]
        have := hs.swap.drop
        simpa [is_] using this
      · simp only [e1, List.length_append, List.length_cons, List.length_nil, Nat.zero_add]
        exact wk_
    | false =>
      refine go ?_
      have e1 : f.members (k + 1) = f.members k := by rw [hq, hm]; simp
      refine A.rd (64 - (k + 1)) (k + 1, a1, c1) ⟨rfl, by simp only; omega, ?_⟩ (hw := ?_)
      · simp only [e1]
        exact hs
      · simp only [e1]
        exact wk_
  · obtain rfl : k = 64 := by omega
    refine go ?_
    refine A.r1 ?_
    exact HR.out _ _ _ hs
end Go.Proofs.YtkolnecahlkndaaGreat
