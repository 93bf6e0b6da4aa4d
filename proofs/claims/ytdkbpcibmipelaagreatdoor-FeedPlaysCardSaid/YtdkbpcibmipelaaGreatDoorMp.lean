/-
  FeedPlays, walked.
-/
import Derived.Test.YtdkbpcibmipelaaGreatDoorMo
namespace Go.Proofs.YtdkbpcibmipelaaGreatDoor
open Go.RowKit
set_option linter.unusedVariables false
set_option linter.unusedSimpArgs false

theorem el_act : ElemOf Tryz.prog 72 68 (.agg #[.int .u8 0, .int .u8 0]) 2 2 := .of Tryz.underlying72 (by kernel_rfl) rfl (by decide)
theorem ag_act : AggOf Tryz.prog 68 2 := ⟨_, Tryz.underlying68, rfl, by kernel_rfl⟩

/-- What stands at one round of the acts' loop. -/
structure At9 where
  b : Nat
  f : Fe
  d : Dk
  L : List Ev
  a : Option Addr
  c : Nat
  tm : Nat
structure Ok9 (q : At9) (i : Nat) (g : Hl) : Prop where
  inv : PInv q.f q.d q.L q.tm i
  ev : ∀ e ∈ q.L, e.ok g
  none : q.L = [] → q.a = none
theorem Ok9.mono {q : At9} {i : Nat} {g g' : Hl} (h : Ok9 q i g) (hg : Hl.le g g') : Ok9 q i g' := ⟨h.inv, fun e he => (h.ev e he).mono hg, h.none⟩
def At9.H (q : At9) (db : Nat) (H : List HP) : List HP := feed q.b db q.f :: disk db q.d :: own 46 8 (.slice q.a q.L.length q.c) q.L.length (evC q.L) :: H

set_option maxHeartbeats 6400000 in
set_option maxRecDepth 100000 in
theorem feedPlays_any {R : Ending → World → Prop} {W w : World} {g : Hl} {H : List HP} {sz n c : Nat} {a : Option Addr} {ps : List (Nat × Nat)} (hg : Gl g) (hsz : sz < 256) (hp : Pr 2 g (.slice a n c) n (putC ps)) (hn : ps.length = n) (hps : ∀ p ∈ ps, p.1 < 256 ∧ p.2 < 256) (hs : Sat W w g H)
    (hR : ∀ w' g', Hl.le g g' → Sat W w' g' H → R (.returned (.bool true)) w') :
    Calls Tryz.prog 7 #[.int .u8 sz, .slice a n c] w R := by
  have HR := Lib.hid hR
  clear hR
  have ag1 := ag_ev
  have ag2 := ag_act
  refine C.calls (args := [.int .u8 sz, .slice a n c]) Tryz.func7 rfl rfl rfl ?_
  refine go ?_
  refine E.callf Tryz.func33 rfl ?_
  refine awake9_any hg hs ?_
  intro w1 g1 hg1 hs
  refine go ?_
  cases h50 : decide ((50 : Int) < n) with
  | true =>
    refine go ?_
    refine E.callf Tryz.func33 rfl ?_
    refine awake9_any (hg.mono hg1) hs ?_
    intro w2 g2 hg2 hs
    refine go ?_
    refine A.r1 ?_
    exact HR.out _ _ (hg1.trans hg2) hs
  | false =>
  have h50' := of_decide_eq_false h50
  clear h50
  refine go ?_
  refine E.callf Tryz.func16 rfl ?_
  refine new_any (by omega) hs ?_
  intro db w2 hs
  refine go ?_
  refine E.callf Tryz.func34 rfl ?_
  refine fopen_new (wr := 3) (fl := 0) (tm := 0) (cap := sz) (hg.mono hg1) (by decide) (by decide) (by decide) (by omega) hs ?_
  intro b0 w3 g3 hg3 hs
  refine gob ?_
  have hgg := hg1.trans hg3
  have q0 : Ok9 ⟨b0, ⟨3, sz, 0, 0, [], false⟩, ⟨[], 65536, -1, 0, 0, false⟩, [], none, 0, 0⟩ 0 g3 := ⟨PInv.new sz, fun e he => (by cases he), fun _ => rfl⟩
  have hs : Sat W w3 g3 (At9.H ⟨b0, ⟨3, sz, 0, 0, [], false⟩, ⟨[], 65536, -1, 0, 0, false⟩, [], none, 0, 0⟩ db H) := hs.nilOwn.push2
  refine C.cutQ (fun _ : Unit => []) (fun _ w => ∃ g', Hl.le g g' ∧ Sat W w g' H) ?_ ?_
  · refine C.block ?_
    refine C.lp (fun q : Nat × At9 => [(0, .int .u8 sz), (1, .slice a n c), (5, ptr db), (6, ptr q.2.b), (8, .slice q.2.a q.2.L.length q.2.c), (9, .int .i64 q.2.f.floor), (10, .int .u64 q.2.tm), (11, .int .i64 q.1)])
      (fun gk q w => gk = n - q.1 ∧ q.1 ≤ n ∧ ∃ g', Hl.le g g' ∧ Ok9 q.2 q.1 g' ∧ Sat W w g' (q.2.H db H)) n (0, ⟨b0, ⟨3, sz, 0, 0, [], false⟩, ⟨[], 65536, -1, 0, 0, false⟩, [], none, 0, 0⟩) ⟨rfl, Nat.zero_le _, g3, hgg, q0, hs⟩ ?_
    clear hs q0
    rintro gk ⟨i, b, f, d, L, la, lc, tm⟩ w5 ⟨rfl, hi, g5, hg5, hq, hs⟩
    simp only [At9.H] at hs hi hq ⊢
    refine go ?_
    refine C.cond_dec (p := (i : Int) < n) rfl (fun h => ?_) (fun h => ?_)
    rotate_left
    · refine go ?_
      exact A.mt () ⟨g5, hg5, hs.drop.drop.drop⟩
    have hin : i < n := by omega
    have hps' := hps (ps[i]'(by omega)) (List.getElem_mem _)
    have hry := hp.mono hg5
    have hpc : ((putC ps).drop (i * 2)).take 2 = [.int .u8 (ps[i]'(by omega)).1, .int .u8 (ps[i]'(by omega)).2] := by
      have := putC_at (ps := ps) (j := i) (by omega)
      simpa [List.getD_eq_getElem?_getD, List.getElem?_eq_getElem (show i < ps.length by omega)] using this
    generalize (ps[i]'(by omega)).1 = K at hps' hpc
    generalize (ps[i]'(by omega)).2 = V at hps' hpc
    refine go ?_
    refine E.ixs el_act hs hry i ?_
    intro b15 o15 hrg
    rw [hpc] at hrg
    have hc0 := hrg 0 _ rfl
    have hc1 := hrg 1 _ rfl
    have hinv := hq.inv
    simp only at hinv
    have hli := hinv.li
    have hlen := hinv.len
    have hfl := hinv.fl
    have htms := hinv.tms
    have hg5' := hg.mono hg5
    refine gob ?_
    rw [show (K : Int).tmod 10 = ((K % 10 : Nat) : Int) from (Int.ofNat_tmod K 10).symm]
    have hk10 : K % 10 < 10 := Nat.mod_lt _ (by decide)
    generalize K % 10 = k at hk10
    clear hc0 hc1 hrg
    refine C.cut (fun q : At9 => [(0, .int .u8 sz), (1, .slice a n c), (5, ptr db), (6, ptr q.b), (8, .slice q.a q.L.length q.c), (9, .int .i64 q.f.floor), (10, .int .u64 q.tm), (11, .int .i64 i)]) (fun q w => ∃ g', Hl.le g5 g' ∧ Ok9 q (i + 1) g' ∧ Sat W w g' (q.H db H)) ?_ ?_
    · refine C.block ?_
      refine go ?_
      by_cases hk7 : k < 7
      · rw [decide_eq_true (show (k : Int) < 7 by omega)]
        refine go ?_
        refine E.ixs el_act hs hry i ?_
        intro b16 o16 hrg
        rw [hpc] at hrg
        refine E.ldr hrg ag2 rfl ?_
        refine go ?_
        refine E.callf Tryz.func36 rfl ?_
        refine event9_any (K := K) (V := V) (sq := L.length + 1) (tm := i + 1) hps'.2 (by omega) (by omega) hs ?_
        intro tv w6 g6 hg6 heo hs
        obtain ⟨s1, s2⟩ := hinv.add (by omega) (V := V) (tv := tv)
        generalize evQ V (L.length + 1) (i + 1) tv = e at heo s1 s2 ⊢
        replace s1 := Lib.hid s1
        refine go ?_
        refine E.al hs ?_
        intro b13 w7 hs
        refine E.sto (vs := e.cs) (ys := e.cs) hs ?_ (hv := rfl) (hsp := spl_all (by rfl)) (h1 := Ev.cs_one heo)
        intro w8 hs
        refine go ?_
        refine E.callf Tryz.func35 rfl ?_
        refine fadd_any (e := e) (hg5'.mono hg6) heo (hinv.small (by omega)) (hinv.count (by omega)) hinv.good.dirty (by omega) hs.push2 ?_
        intro f' w9 g9 hg9 h1 _ hs
        obtain ⟨p1, p2, p3⟩ := s2 f' (h1 s1.out)
        rw [s1.out]
        clear s2 h1
        generalize (f.addR d e).2.2 = d' at hs p1
        refine go ?_
        refine E.bsle el_ev hs (cs := e.cs) rfl ?_
        intro b14 w10 hs
        refine E.app el_ev hs.pull4 (hs.rowOf (size := 8) 1 rfl (by decide)) ?_ (h1 := fun u hu => List.all_eq_true.1 (Ev.cs_one heo) u hu)
        intro a11 c11 w11 _ _ hs
        have e3 : L.length + 1 = (L ++ [e]).length := by simp
        have e4 : evC L ++ e.cs = evC (L ++ [e]) := by rw [evC_append]; simp [evC]
        rw [e3, e4] at hs
        rw [e3, ← p2]
        clear e3 e4
        refine go ?_
        have hgf := hg6.trans hg9
        refine A.mt ⟨b, f', d', L ++ [e], a11, c11, tm⟩ ⟨g9, hgf, ⟨p1, fun x hx => ?_, fun h => by simp at h⟩, hs.swap.drop.push2.pull3.drop⟩
        rcases List.mem_append.1 hx with hx | hx
        · exact (hq.ev x hx).mono hgf
        · rw [List.mem_singleton.1 hx]
          exact heo.mono hg9
      rw [decide_eq_false (show ¬ (k : Int) < 7 by omega)]
      refine go ?_
      obtain ⟨f1, d1, y1, y2, y3, y4, y5⟩ := hinv.sync
      have y2' := y2.step
      by_cases hk7' : k = 7
      · rw [decide_eq_true (show (k : Int) = 7 by omega)]
        refine go ?_
        refine E.callf Tryz.func37 rfl ?_
        refine fsync_any hg5' hinv.good.dirty hs ?_
        intro w6 hs
        rw [y1] at hs ⊢
        simp only at hs ⊢
        rw [← y4]
        refine go ?_
        exact A.mt ⟨b, f1, d1, L, la, lc, tm⟩ ⟨g5, Hl.le_refl _, ⟨y2', hq.ev, hq.none⟩, hs⟩
      rw [decide_eq_false (show ¬ (k : Int) = 7 by omega)]
      refine go ?_
      by_cases hk8 : k = 8
      · rw [decide_eq_true (show (k : Int) = 8 by omega)]
        refine go ?_
        refine E.callf Tryz.func37 rfl ?_
        refine fsync_any hg5' hinv.good.dirty hs ?_
        intro w6 hs
        rw [y1] at hs ⊢
        simp only at hs ⊢
        refine go ?_
        have hfd : f1.floor = f.floor := y4
        apply laterE (α := Nat × Nat) (f := fun q => [(0, .int .u8 sz), (1, .slice a n c), (5, ptr db), (6, ptr b), (8, .slice la L.length lc), (10, .int .u64 q.2), (11, .int .i64 i), (14, .int .i64 q.1), (121, ptr b), (123, .int .u64 q.1), (124, .int .u64 q.2)]) (M := fun q w => (f.floor ≤ q.1 ∧ q.1 ≤ L.length ∧ ((q.1 = f.floor ∧ q.2 = tm) ∨ (f.floor < q.1 ∧ ∃ h : q.1 - 1 < L.length, q.2 = L[q.1 - 1].tm))) ∧ Sat W w g5 (feed b db f1 :: disk db d1 :: own 46 8 (.slice la L.length lc) L.length (evC L) :: H))
        · intro ky
          by_cases hA : f.floor < L.length
          · rw [decide_eq_true (show (f.floor : Int) < L.length by omega)]
            refine go ?_
            refine E.ixs el_act hs hry i ?_
            intro b17 o17 hrg
            rw [hpc] at hrg
            have hc1 := hrg 1 _ rfl
            refine go ?_
            refine E.pv (Pv.remn (a := V) (b := L.length - f.floor + 1) rfl rfl rfl (by omega) (by omega)) ?_
            have hr : V % (L.length - f.floor + 1) < L.length - f.floor + 1 := Nat.mod_lt _ (by omega)
            generalize V % (L.length - f.floor + 1) = r at hr
            refine go ?_
            rw [show (f.floor : Int) + (r : Int) = ((f.floor + r : Nat) : Int) by omega]
            obtain ⟨m, hm⟩ : ∃ m, m = f.floor + r := ⟨_, rfl⟩
            have hm1 : f.floor ≤ m ∧ m ≤ L.length := by omega
            rw [← hm]
            clear hm hr
            by_cases hB : f.floor < m
            · rw [decide_eq_true (show (f.floor : Int) < m by omega)]
              obtain ⟨q, hq1⟩ : ∃ q, q = m - 1 := ⟨_, rfl⟩
              have hql : q < L.length := by omega
              have hqm : (m : Int) - 1 = (q : Int) := by omega
              have hla : la ≠ none := by
                rintro rfl
                obtain ⟨_, a', c', e, _, _, h3⟩ := hs.pull2.slack.wlen
                simp only [Value.slice.injEq] at e
                have := (h3 e.1.symm).1
                omega
              obtain ⟨rb, cur, rfl, k1, k2, k3, k4, k5, hb⟩ := hs.pull2.ownopen hla
              have hcl : (cur.drop (0 + q * 8)).take 8 = L[q].cs := evC_in (by rw [List.drop_zero]; exact k2) hql
              have hct : cur[q * 8 + 2]? = some (.int .u64 L[q].tm) := by
                have h1 := congrArg (fun l => l[2]?) hcl
                simp only [List.getElem?_take, List.getElem?_drop] at h1
                rw [Nat.zero_add] at h1
                exact h1
              have hx3 : ∃ h : m - 1 < L.length, L[q].tm = L[m - 1].tm := by
                subst hq1
                exact ⟨hql, rfl⟩
              replace hq1 := Lib.hid hq1
              replace hqm := Lib.hid hqm
              replace hs := hb
              refine go ?_
              rw [hqm.out]
              refine go ?_
              refine E.ld hs ?_ (hj := hct)
              refine go ?_
              replace hs := (hs.ownclose k1 k2 k3 k4).push2
              exact E.forget wk_ (ky (m, L[q].tm) _ ⟨⟨hm1.1, hm1.2, .inr ⟨hB, hx3⟩⟩, hs⟩)
            · rw [decide_eq_false (show ¬ (f.floor : Int) < m by omega)]
              refine go ?_
              exact E.forget wk_ (ky (m, tm) _ ⟨⟨hm1.1, hm1.2, .inl ⟨by simp only; omega, rfl⟩⟩, hs⟩)
          · rw [decide_eq_false (show ¬ (f.floor : Int) < L.length by omega)]
            refine go ?_
            rw [decide_eq_false (show ¬ (f.floor : Int) < f.floor by omega)]
            refine go ?_
            exact E.forget wk_ (ky (f.floor, tm) _ ⟨⟨Nat.le_refl _, hfl, .inl ⟨rfl, rfl⟩⟩, hs⟩)
        clear hs
        rintro ⟨n', tm'⟩ w7 ⟨⟨x1, x2, x3⟩, hs⟩
        simp only at x1 x2 x3
        obtain ⟨f2, d2, z1, z2, z3, z4⟩ := y2.fold y3 (n := n') (tm' := tm') (by omega) x2 (by rw [hfd]; exact x3)
        have ht2 := z2.tms
        subst z3
        refine E.callf Tryz.func38 rfl ?_
        refine ffold_any (f := f1) (d := d1) (fl := f2.floor) (tm := tm') hg5' (y2.small (by omega)) (by omega) (by omega) hs ?_
        intro w8 hs
        rw [z1] at hs ⊢
        simp only at hs ⊢
        refine go ?_
        exact A.mt ⟨b, f2, d2, L, la, lc, tm'⟩ ⟨g5, Hl.le_refl _, ⟨z2.step, hq.ev, hq.none⟩, hs⟩
      rw [decide_eq_false (show ¬ (k : Int) = 8 by omega)]
      refine go ?_
      refine E.callf Tryz.func37 rfl ?_
      refine fsync_any hg5' hinv.good.dirty hs ?_
      intro w6 hs
      rw [y1] at hs ⊢
      simp only at hs ⊢
      refine go ?_
      obtain ⟨d2, r1, r2, r3⟩ := y2.reopen (sz : Int)
      rw [y4] at r1 r2 r3
      refine E.callf Tryz.func34 rfl ?_
      refine fopen_any (wr := 3) (fl := f.floor) (tm := tm) (cap := sz) (ns := f1.segs.map Sp.first) hg5' (by decide) (by omega) (by omega) (by omega) (fun p hp => (y2.key p.1 (List.mem_map_of_mem hp)).2) (by have := y2.files; omega) y2.names y2.first hs.drop ?_ ?_
      rotate_left
      · intro w7 g7 _ h
        exact absurd r1 h
      intro b2 l w7 g7 hg7 _ hl hs
      rw [r2] at hs
      have hown : ∀ s ∈ l, s.wr = 3 := by
        obtain ⟨_, _, hok, _⟩ := feed_open hs
        exact fun s hs => (hok.l s hs).2.1
      have z := (r3 l hl hown).step
      clear r1 r2 r3 hl hown
      refine go ?_
      exact A.mt ⟨b2, ⟨3, sz, f.floor, tm, l, false⟩, d2, L, la, lc, tm⟩ ⟨g7, hg7, ⟨z, fun x hx => (hq.ev x hx).mono hg7, hq.none⟩, hs⟩
    clear hs
    rintro ⟨b, f, d, L, la, lc, tm⟩ w16 ⟨g16, hg16, hq, hs⟩
    simp only [At9.H] at hs hq ⊢
    have hinv := hq.inv
    simp only at hinv
    have hli := hinv.li
    have htms := hinv.tms
    refine go ?_
    refine E.callf Tryz.func41 rfl ?_
    refine told_any (hinv.told (by omega)) hq.ev (by omega) hq.none (by omega) hs.pull2.swap ?_
    intro w17 g17 hg17 hs
    refine go ?_
    have hnm := hinv.names
    have hb3 : beginB 3 = [102, 101, 101, 100, 45, 51, 45] := by decide +kernel
    have hfn := hinv.files
    rw [hb3] at hnm
    refine E.callf Tryz.func42 rfl ?_
    refine names_gen (p := [102, 101, 101, 100, 45, 51, 45]) (by decide) (fun p hp => (hinv.key p.1 (List.mem_map_of_mem hp)).2) (by omega) hs.pull2 ?_
    intro k1 a1 c1 w18 g18 hk1 hg18 _ hs
    rw [hnm] at hk1
    simp only [List.length_map] at hk1
    subst hk1
    refine go ?_
    refine E.callf Tryz.func43 rfl ?_
    refine fsegments_any hs.swap ?_
    intro w19 hs
    refine go ?_
    rw [show decide ((f.l.length : Int) = (f.l.length : Int)) = true from decide_eq_true rfl, Bool.not_true]
    refine go ?_
    exact A.rd (n - (i + 1)) (i + 1, ⟨b, f, d, L, la, lc, tm⟩) ⟨rfl, by simp only; omega, g18, hg5.trans (hg16.trans (hg17.trans hg18)), hq.mono (hg17.trans hg18), hs⟩
  clear hs q0
  rintro _ w20 ⟨g20, hg20, hs⟩
  refine go ?_
  refine A.r1 ?_
  exact HR.out _ _ hg20 hs
end Go.Proofs.YtdkbpcibmipelaaGreatDoor
