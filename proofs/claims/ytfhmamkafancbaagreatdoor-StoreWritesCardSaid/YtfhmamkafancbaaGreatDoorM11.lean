/-
  Layer 9 (feed): Sealed, Time; Sync, a new segment.
-/
import Derived.Test.YtfhmamkafancbaaGreatDoorM10
import Derived.Test.YtfhmamkafancbaaGreatDoorM09
import Derived.Test.YtfhmamkafancbaaGreatDoorM06
import Derived.Test.YtfhmamkafancbaaGreatDoorM03
import Derived.Test.YtfhmamkafancbaaGreatDoorM02
import Derived.Laws.FloatBits
import Derived.Test.YtfhmamkafancbaaGreatDoorM08
namespace Go.Proofs.YtfhmamkafancbaaGreatDoor
open Go.RowKit
set_option linter.unusedVariables false
set_option linter.unusedSimpArgs false
def Fe.sealed (f : Fe) : Bool := match f.all.getLast? with
  | some e => decide (e.kd = 6)
  | none => false
def Fe.tm (f : Fe) : Nat := match f.all.getLast? with
  | some e => e.tm
  | none => f.time
set_option maxHeartbeats 1600000 in
set_option maxRecDepth 100000 in
theorem fsealed_any {R : Ending → World → Prop} {W w : World} {g : Hl} {H : List HP} {b db : Nat} {f : Fe} (hc : f.count ≤ 1000000000) (hs : Sat W w g (feed b db f :: H))
    (hR : ∀ w' g', Hl.le g g' → Sat W w' g' (feed b db f :: H) → R (.returned (.bool f.sealed)) w') : Calls Tryz.prog 107 #[ptr b] w R := by
  have HR := Lib.hid hR
  clear hR
  refine C.calls (args := [ptr b]) Tryz.func107 rfl rfl rfl ?_
  refine go ?_
  refine E.callf Tryz.func95 rfl ?_
  refine fall_any hc hs ?_
  intro x w1 g1 hg1 hx hxe hs
  have hxv : x.v = .slice x.a x.es.length x.c := rfl
  have hcl := liveE_len f.floor f.l
  have hxl : x.es.length ≤ 1000000000 := by
    rw [hxe]
    exact Nat.le_trans hcl hc
  by_cases h0 : x.es.length = 0
  · have key := HR.out w1 g1 hg1 hs
    have he : f.all = [] := by rw [← hxe]; exact List.eq_nil_of_length_eq_zero h0
    simp only [Fe.sealed, he, List.getLast?_nil] at key
    clear he hxe
    refine go ?_
    refine A.r1 ?_
    exact key
  · have hj : x.es.length - 1 < x.es.length := by omega
    have hrow := hx.row
    have Hxe := Lib.hid hxe
    clear hxe
    refine go ?_
    rw [decide_eq_true (show (0 : Int) < x.es.length by omega)]
    refine go ?_
    refine E.ixs el_ev hs hrow (x.es.length - 1) ?_
    intro b2 o2 hrg
    rw [evC_at hj] at hrg
    have key := HR.out w1 g1 hg1 hs
    have he : f.all.getLast? = some x.es[x.es.length - 1] := by rw [← Hxe.out, List.getLast?_eq_getElem?, List.getElem?_eq_getElem hj]
    simp only [Fe.sealed, he] at key
    clear he
    generalize x.es[x.es.length - 1] = e at hrg key
    have h3 : w1.cell? ⟨b2, o2 + 3, none⟩ = some (.int .u8 e.kd) := hrg 3 _ rfl
    refine go ?_
    have e6 : decide ((e.kd : Int) = 6) = decide (e.kd = 6) := by
      apply decide_eq_decide.2; omega
    rw [e6]
    refine A.r1 ?_
    exact key
set_option maxHeartbeats 1600000 in
set_option maxRecDepth 100000 in
theorem ftime_any {R : Ending → World → Prop} {W w : World} {g : Hl} {H : List HP} {b db : Nat} {f : Fe} (hc : f.count ≤ 1000000000) (hs : Sat W w g (feed b db f :: H))
    (hR : ∀ w' g', Hl.le g g' → Sat W w' g' (feed b db f :: H) → R (.returned (.int .u64 f.tm)) w') : Calls Tryz.prog 108 #[ptr b] w R := by
  have HR := Lib.hid hR
  clear hR
  refine C.calls (args := [ptr b]) Tryz.func108 rfl rfl rfl ?_
  refine go ?_
  refine E.callf Tryz.func95 rfl ?_
  refine fall_any hc hs ?_
  intro x w1 g1 hg1 hx hxe hs
  have hxv : x.v = .slice x.a x.es.length x.c := rfl
  have hcl := liveE_len f.floor f.l
  have hxl : x.es.length ≤ 1000000000 := by
    rw [hxe]
    exact Nat.le_trans hcl hc
  by_cases h0 : x.es.length = 0
  · have he : f.all = [] := by rw [← hxe]; exact List.eq_nil_of_length_eq_zero h0
    have key := HR.out w1 g1 hg1
    obtain ⟨a, c, hok, hs⟩ := feed_open hs
    simp only [Fe.tm, he, List.getLast?_nil] at key
    clear he hxe
    refine go ?_
    refine A.r1 ?_
    exact key (feed_close hok hs)
  · have hj : x.es.length - 1 < x.es.length := by omega
    have hrow := hx.row
    have Hxe := Lib.hid hxe
    clear hxe
    refine go ?_
    rw [decide_eq_true (show (0 : Int) < x.es.length by omega)]
    refine go ?_
    refine E.ixs el_ev hs hrow (x.es.length - 1) ?_
    intro b2 o2 hrg
    rw [evC_at hj] at hrg
    have key := HR.out w1 g1 hg1 hs
    have he : f.all.getLast? = some x.es[x.es.length - 1] := by rw [← Hxe.out, List.getLast?_eq_getElem?, List.getElem?_eq_getElem hj]
    simp only [Fe.tm, he] at key
    clear he
    generalize x.es[x.es.length - 1] = e at hrg key
    have h3 : w1.cell? ⟨b2, o2 + 2, none⟩ = some (.int .u64 e.tm) := hrg 2 _ rfl
    refine go ?_
    refine A.r1 ?_
    exact key
/-- How 'Sync' goes. -/
def Fe.sync (f : Fe) (d : Dk) : Int × Fe × Dk :=
  if f.dirty then match f.l.getLast? with
    | some s => ((d.sync (nameB s.wr s.first)).1, if (d.sync (nameB s.wr s.first)).1 = 0 then { f with dirty := false } else f, (d.sync (nameB s.wr s.first)).2)
    | none => (0, f, d)
  else (0, f, d)
set_option maxHeartbeats 3200000 in
set_option maxRecDepth 100000 in
theorem fsync_any {R : Ending → World → Prop} {W w : World} {g : Hl} {H : List HP} {b db : Nat} {f : Fe} {d : Dk} (hg : Gl g) (hd : f.dirty = true → f.l ≠ []) (hs : Sat W w g (feed b db f :: disk db d :: H))
    (hR : ∀ w', Sat W w' g (feed b db (f.sync d).2.1 :: disk db (f.sync d).2.2 :: H) → R (.returned (.int .i64 (f.sync d).1)) w') : Calls Tryz.prog 53 #[ptr b] w R := by
  have HR := Lib.hid hR
  clear hR
  have ag1 := ag_sg
  obtain ⟨a, c, hok, hs⟩ := feed_open hs
  refine C.calls (args := [ptr b]) Tryz.func53 rfl rfl rfl ?_
  refine go ?_
  cases hdt : f.dirty with
  | false =>
    refine go ?_
    refine A.r1 ?_
    have key := HR.out w
    simp only [Fe.sync, hdt, Bool.false_eq_true, if_false] at key
    exact key (feed_close hok hs)
  | true =>
    have hl0 : 0 < f.l.length := List.length_pos_iff.2 (hd hdt)
    have hj : f.l.length - 1 < f.l.length := by omega
    obtain ⟨rb, off, p, cur, h4, hs⟩ := row_open hj rfl hs.swap
    have hgd := hok.l _ (List.getElem_mem hj)
    have hn63 : f.l.length ≤ 9223372036854775807 := by have := h4.nc; have := h4.c63; omega
    have hla : f.l.getLast? = some f.l[f.l.length - 1] := by rw [List.getLast?_eq_getElem?, List.getElem?_eq_getElem hj]
    generalize hsg : f.l[f.l.length - 1] = s at h4 hgd hla
    have key := HR.out
    simp only [Fe.sync, hdt, if_true, hla] at key
    refine go ?_
    refine C.held2 b rb hs ?_
    intro w1 hk hs
    refine goh ?_
    refine EH.tp 10 hk ?_ (hy := Pf.pv (Pv.indexAddr rfl rfl (h4.ix (i := (f.l.length : Int) - 1) (by omega))))
    refine EH.tp 11 hk ?_ (hy := Pf.loadp rfl (.there .here) ag_sg h4.at4 rfl)
    refine EH.al hs ?_
    intro b3 w2 hs
    refine kept2 hs (fun hk => ?_)
    refine goh ?_
    refine EH.sto (vs := s.cs) (ys := s.cs) hs ?_ (hv := rfl) (hsp := rfl)
    intro w3 hs
    refine kept2 hs (fun hk => ?_)
    refine goh ?_
    refine EH.done ?_
    refine go ?_
    refine C.held2 b3 b hs ?_
    intro w4 hk hs
    refine goh ?_
    refine EH.one (St.callf Tryz.func112 rfl ?_)
    refine segName_any (i := s.wr) (n := s.first) hg (by have := hok.wr; omega) hgd.2.2 hs ?_
    intro w5 hs
    refine kept2 hs (fun hk => ?_) (Hl.le_refl _)
    refine goh ?_
    refine EH.one (St.callf Tryz.func111 rfl ?_)
    refine sync_any hs.pull3 ?_
    intro w6 hs
    refine kept2 hs (fun hk => ?_) (Hl.le_refl _)
    refine goh ?_
    refine EH.done ?_
    refine go ?_
    by_cases hz : (d.sync (nameB s.wr s.first)).1 = 0
    · have hdd : (!decide ((d.sync (nameB s.wr s.first)).1 = 0)) = false := by simp [hz]
      refine C.cond rfl (fun h => by rw [hdd] at h; cases h) (fun _ => ?_)
      clear hdd
      refine go ?_
      refine E.sto (vs := [.bool false]) (ys := ({ f with dirty := false } : Fe).cs db a c) hs ?_ (hv := rfl) (hsp := rfl)
      intro w7 hs
      refine go ?_
      refine A.r1 ?_
      rw [if_pos hz, hz] at key
      have hs2 := row_close h4 (hs.swap.drop.push2)
      refine key w7 (feed_close (f := { f with dirty := false }) ⟨hok.wr, hok.floor, hok.time, hok.cap, hok.l⟩ hs2.swap)
    · have hdd : (!decide ((d.sync (nameB s.wr s.first)).1 = 0)) = true := by simp [hz]
      refine C.cond rfl (fun _ => ?_) (fun h => by rw [hdd] at h; cases h)
      clear hdd
      refine go ?_
      refine A.r1 ?_
      rw [if_neg hz] at key
      have hs2 := row_close h4 (hs.swap.drop.push2)
      exact key w6 (feed_close hok hs2.swap)
end Go.Proofs.YtfhmamkafancbaaGreatDoor

/-
  append onto a row of one's own that begins behind the first place of its array, in a drawn region.
-/
namespace Go.Proofs.YtfhmamkafancbaaGreatDoor
open Go.RowKit
set_option linter.unusedVariables false
set_option linter.unusedSimpArgs false
section
variable {P : Program} {n : Fm} {ρ : List (Nat × Value)} {W w w' : World} {g g' : Hl} {H H' : List HP} {Q : Exit → Act → World → Prop} {l : List Oper} {S : World → Prop} {fuel m i : Nat} {d : Option Tmp} {ty : TypeId} {ps : String} {af : Array Edge} {v u : Value} {x y : Operand} {t e : TypeId} {z : Value} {size bytes : Nat}
theorem Keeps.of3 {b1 b2 b3 : Nat} {x1 x2 x3 : List Value} {e1 e2 e3 : TypeId} (hs : Sat W w g' H) (hg : Hl.le g g' := by first | exact Hl.le_refl _ | assumption | exact Hl.le.trans (by assumption) (by assumption)) (h1 : Fd H b1 x1 e1 := by exact fd_) (h2 : Fd H b2 x2 e2 := by exact fd_) (h3 : Fd H b3 x3 e3 := by exact fd_) : Keeps g [(b1, x1, e1), (b2, x2, e2), (b3, x3, e3)] w := (((Keeps.of0 hs hg).ofs hs h3).ofs hs h2).ofs hs h1
theorem EH.appo {s : Operand} {a : Option Addr} {k c q : Nat} {xs news : List Value} (he : ElemOf P t e z size bytes) (hs : Sat W w g (owno e size (.slice a k c) k xs :: H)) {D : Nat → Prop} (hrow : Row size w D u q news)
    (h : ∀ a' c' w', Sat W w' g (owno e size (.slice a' (k + q) c') (k + q) (xs ++ news) :: H) → S w' ∧ EH P n l S fuel (bset m i) (pushv d (.slice a' (k + q) c') ρ) w' Q)
    (hr : rdy m l.length 0 l = [i] := by exact rfl) (hi : nth l i = some ⟨d, .call ⟨.builtin .append, #[s, y], #[t, t]⟩, ty, ps, af, none⟩ := by exact rfl) (h63 : k + q ≤ 9223372036854775807 := by omega) (hbytes : (k + q) * bytes ≤ 140737488355328 := by omega)
    (hx : evo n ρ s = some (.slice a k c) := by exact rfl) (hy : evo n ρ y = some u := by exact rfl) (h1 : ∀ x ∈ news, x.oneCell' = true := by first | exact bs_one _ | (intro u hu; simp only [List.mem_cons, List.not_mem_nil, or_false] at hu; rcases hu with rfl | rfl | rfl | rfl <;> exact rfl)) :
    EH P n l S (fuel + 1) m ρ w Q := EH.one (St.appo he hs hrow h h63 hbytes hx hy h1) hr hi
end
end Go.Proofs.YtfhmamkafancbaaGreatDoor

/-
  Layer 9 (feed): a new segment.
-/
namespace Go.Proofs.YtfhmamkafancbaaGreatDoor
open Go.RowKit
set_option linter.unusedVariables false
set_option linter.unusedSimpArgs false
/-- What 'Create' tells. -/
def sgNew (er : Int) (i n : Nat) : Sg := if er = 0 then ⟨i, n, ⟨none, 0, []⟩, (headB ⟨115, i, n⟩).length⟩ else ⟨0, 0, ⟨none, 0, []⟩, 0⟩
theorem sgCreate_one {R : Ending → World → Prop} {W w : World} {g : Hl} {H : List HP} {b : Nat} {d : Dk} {i n : Nat} (hg : Gl g) (hi : i < 64) (hn : n < 18446744073709551616) (h0 : n ≠ 0) (hs : Sat W w g (disk b d :: H))
    (hR : ∀ w' g', Hl.le g g' → Sat W w' g' (disk b (d.begin (nameB i n) ⟨115, i, n⟩).2 :: H) → R (.returned (.tuple #[(sgNew (d.begin (nameB i n) ⟨115, i, n⟩).1 i n).val, .int .i64 (d.begin (nameB i n) ⟨115, i, n⟩).1])) w') :
    Calls Tryz.prog 168 #[ptr b, .int .i64 i, .int .u64 n] w R := by
  refine sgCreate_any hg hi hn h0 hs (fun w' g' hg' he hs => ?_) (fun w' g' hg' he hs => ?_)
  · have := hR w' g' hg' hs
    simp only [sgNew, if_pos he] at this
    rw [he] at this
    exact this
  · have := hR w' g' hg' hs
    simp only [sgNew, if_neg he] at this
    exact this
/-- How a new segment is made. -/
def Fe.roll (f : Fe) (d : Dk) (n : Nat) : Int × Fe × Dk :=
  if (f.sync d).1 ≠ 0 then f.sync d else
  let r := (f.sync d).2.2.begin (nameB f.wr n) ⟨115, f.wr, n⟩
  (r.1, if r.1 = 0 then { (f.sync d).2.1 with l := (f.sync d).2.1.l ++ [sgNew 0 f.wr n] } else (f.sync d).2.1, r.2)
theorem Fe.sync_wr (f : Fe) (d : Dk) : (f.sync d).2.1.wr = f.wr ∧ (f.sync d).2.1.l = f.l ∧ (f.sync d).2.1.floor = f.floor ∧ (f.sync d).2.1.time = f.time ∧ (f.sync d).2.1.cap = f.cap := by
  unfold Fe.sync
  split
  · split
    · simp only
      split <;> exact ⟨rfl, rfl, rfl, rfl, rfl⟩
    · exact ⟨rfl, rfl, rfl, rfl, rfl⟩
  · exact ⟨rfl, rfl, rfl, rfl, rfl⟩
theorem row_of_sg {W w : World} {g : Hl} {H : List HP} {b : Nat} {s : Sg} (hs : Sat W w g (blk b s.cs 157 :: H)) : Row 4 w (fun _ => True) (.slice (some ⟨b, 0, none⟩) 1 1) 1 s.cs := hs.rowOf (size := 4) 1 rfl (by decide)
theorem sg_one (s : Sg) : ∀ u ∈ s.cs, u.oneCell' = true := by
  intro u hu
  simp only [Sg.cs, List.mem_cons, List.not_mem_nil, or_false] at hu
  rcases hu with rfl | rfl | rfl | rfl <;> rfl
set_option maxHeartbeats 3200000 in
set_option maxRecDepth 100000 in
theorem froll_any {R : Ending → World → Prop} {W w : World} {g : Hl} {H : List HP} {b db : Nat} {f : Fe} {d : Dk} {n : Nat} (hg : Gl g) (hd : f.dirty = true → f.l ≠ []) (hn : n < 18446744073709551616) (h0 : n ≠ 0) (hln : f.l.length ≤ 1000000000) (hs : Sat W w g (feed b db f :: disk db d :: H))
    (hR : ∀ w' g', Hl.le g g' → Sat W w' g' (feed b db (f.roll d n).2.1 :: disk db (f.roll d n).2.2 :: H) → R (.returned (.int .i64 (f.roll d n).1)) w') : Calls Tryz.prog 109 #[ptr b, .int .u64 n] w R := by
  have HR := Lib.hid hR
  clear hR
  have ag1 := ag_sg
  refine C.calls (args := [ptr b, .int .u64 n]) Tryz.func109 rfl rfl rfl ?_
  refine go ?_
  refine E.callf Tryz.func53 rfl ?_
  refine fsync_any hg hd hs ?_
  intro w1 hs
  obtain ⟨e1, e2, -, -, -⟩ := f.sync_wr d
  have key := HR.out
  simp only [Fe.roll] at key
  have hwr : f.wr < 64 := by
    obtain ⟨_, _, h, _⟩ := feed_open hs
    have := h.wr
    omega
  generalize f.sync d = q at hs key e1 e2 ⊢
  obtain ⟨er, f1, d1⟩ := q
  simp only at hs key e1 e2 ⊢
  by_cases her : er = 0
  · subst her
    rw [if_neg (by simp)] at key
    refine go ?_
    obtain ⟨a, c, hok, hs⟩ := feed_open hs
    obtain ⟨fwr, fcap, ffl, ftm, fl, fdt⟩ := f1
    simp only at e1 e2
    subst e1 e2
    refine C.held1 b hs ?_
    intro w2 hk hs
    generalize hbg : d1.begin (nameB f.wr n) ⟨115, f.wr, n⟩ = r at key
    apply laterH (α := Nat × Hl) (f := fun q => [(0, ptr b), (6, ptr q.1), (24, (sgNew r.1 f.wr n).val), (25, .int .i64 r.1)])
      (M := fun q w => Hl.le g q.2 ∧ Sat W w q.2 (blk q.1 [.int .i64 0, .int .u64 0, .slice none 0 0, .int .i64 0] 157 :: blk b ((⟨f.wr, fcap, ffl, ftm, f.l, fdt⟩ : Fe).cs db a c) 155 :: disk db r.2 :: owno 157 4 (.slice a f.l.length c) f.l.length (sgC f.l) :: H))
    · intro B
      refine goh ?_
      refine EH.ora hs (St.callf Tryz.func168 rfl ?_) ?_
      · refine sgCreate_one (i := f.wr) (n := n) hg hwr hn h0 hs.pull2 ?_
        intro w3 g3 hg3 hs
        rw [hbg] at hs ⊢
        refine kept1 hs (fun hk => ?_) hg3
        refine goh ?_
        refine EH.al hs ?_
        intro b6 w4 hs
        refine kept1 hs (fun hk => ?_) hg3
        refine goh ?_
        exact EH.forget wk_ (B (b6, g3) _ ⟨hg3, hs.pull2.swap⟩)
      · intro b6 w3 hs
        refine kept1 hs (fun hk => ?_)
        refine goh ?_
        refine EH.one (St.callf Tryz.func168 rfl ?_)
        refine sgCreate_one (i := f.wr) (n := n) hg hwr hn h0 hs.pull3 ?_
        intro w4 g4 hg4 hs
        rw [hbg] at hs ⊢
        refine kept1 hs (fun hk => ?_) hg4
        refine goh ?_
        exact EH.forget wk_ (B (b6, g4) _ ⟨hg4, hs.push2⟩)
    clear hs hk
    rintro ⟨b6, g4⟩ w4 ⟨hg4, hs⟩
    simp only at hg4 hs ⊢
    have hk := Keeps.of1 hs hg4 (b1 := b)
    refine EH.sto (vs := (sgNew r.1 f.wr n).cs) (ys := (sgNew r.1 f.wr n).cs) hs ?_ (hv := rfl) (hsp := rfl)
    intro w5 hs
    refine kept1 hs (fun hk => ?_) hg4
    refine goh ?_
    refine EH.done ?_
    refine go ?_
    obtain ⟨er, d2⟩ := r
    simp only at key hs ⊢
    have hok4 := hok.mono hg4
    by_cases hz : er = 0
    · subst hz
      rw [if_pos rfl] at key
      rw [decide_eq_true rfl]
      refine go ?_
      refine C.heldN hs ?_
      intro w6 hs
      have hk : Keeps g4 [(b6, (sgNew 0 f.wr n).cs, 157), (b, (⟨f.wr, fcap, ffl, ftm, f.l, fdt⟩ : Fe).cs db a c, 155)] w6 := Keeps.of2 hs (Hl.le_refl _)
      refine EH.tail 1024 1024 1023 10 1 (Keeps g4 [(b6, (sgNew 0 f.wr n).cs, 157), (b, (⟨f.wr, fcap, ffl, ftm, f.l, fdt⟩ : Fe).cs db a c, 155)]) (fun _ _ => trivial) ?_
      refine goh ?_
      refine EH.bsle el_sg hs (cs := (sgNew 0 f.wr n).cs) rfl ?_
      intro b7 w7 hs
      refine kept2 hs (fun hk => ?_)
      refine goh ?_
      refine EH.appo el_sg hs.pull4 (row_of_sg hs) ?_ (h1 := sg_one _)
      intro a8 c8 w8 hs
      refine kept2 hs (fun hk => ?_)
      refine goh ?_
      refine EH.done ?_
      refine A.mid ?_
      refine EH.sto (vs := [.slice a8 (f.l.length + 1) c8]) (ys := (⟨f.wr, fcap, ffl, ftm, f.l ++ [sgNew 0 f.wr n], fdt⟩ : Fe).cs db a8 c8) hs ?_ (hv := rfl) (hsp := by simp only [Fe.cs, List.length_append, List.length_singleton]; rfl)
      intro w9 hs
      refine ⟨trivial, ?_⟩
      refine EH.done ?_
      refine go ?_
      refine A.r1 ?_
      refine key w9 g4 hg4 (feed_close (a := a8) (c := c8) ⟨hok4.wr, hok4.floor, hok4.time, hok4.cap, fun s hs' => ?_⟩ ?_)
      · rcases List.mem_append.1 hs' with h | h
        · exact hok4.l s h
        · rw [List.mem_singleton.1 h]
          exact ⟨⟨Pr.nil, fun e he => by cases he⟩, rfl, hn⟩
      · rw [sgC_append, sgC_one, List.length_append, List.length_singleton]
        exact hs.swap.drop.swap.drop.swap
    · rw [decide_eq_false hz]
      refine go ?_
      refine A.r1 ?_
      rw [if_neg hz] at key
      exact key w5 g4 hg4 (feed_close hok4 hs.drop.pull2.swap)
  · have hdd : (!decide (er = 0)) = true := by simp [her]
    rw [if_pos her] at key
    refine go ?_
    refine C.cond rfl (fun _ => ?_) (fun h => by rw [hdd] at h; cases h)
    refine go ?_
    refine A.r1 ?_
    exact key w1 g (Hl.le_refl _) hs
end Go.Proofs.YtfhmamkafancbaaGreatDoor

/-
  Layer 9 (feed): one more event.
-/
namespace Go.Proofs.YtfhmamkafancbaaGreatDoor
open Go.RowKit
set_option linter.unusedVariables false
set_option linter.unusedSimpArgs false
def Sg.addE (s : Sg) (d : Dk) (e : Ev) : Int := if s.fit e = 0 then (d.add (nameB s.wr s.first) e.enc).1 else s.fit e
def Sg.addD (s : Sg) (d : Dk) (e : Ev) : Dk := if s.fit e = 0 then (d.add (nameB s.wr s.first) e.enc).2 else d
/-- A segment with one more event. -/
structure Sg.grown (s s' : Sg) (e : Ev) : Prop where
  wr : s'.wr = s.wr
  first : s'.first = s.first
  es : ∃ tv, s'.x.es = s.x.es ++ [e.ep.ev tv]
  size : s'.size = s.size + recN e.enc.length
theorem sgAdd_one {R : Ending → World → Prop} {W w : World} {g : Hl} {H : List HP} {b : Nat} {d : Dk} {s : Sg} {e : Ev} (hg : Gl g) (ho : e.ok g) (hx : s.x.ok g) (hwr : s.wr < 64) (hf : s.first < 18446744073709551616) (hsz : s.size ≤ 4000000000000000000) (hl : s.x.es.length ≤ 1000000000) (hs : Sat W w g (disk b d :: H))
    (hR : ∀ s' w' g', Hl.le g g' → s'.x.ok g' → (s.addE d e = 0 → s.grown s' e) → (s.addE d e ≠ 0 → s' = s) → Sat W w' g' (disk b (s.addD d e) :: H) → R (.returned (.tuple #[s'.val, .int .i64 (s.addE d e)])) w') :
    Calls Tryz.prog 110 #[s.val, ptr b, e.val] w R := by
  refine sgAdd_any hg ho hx hwr hf hsz hl hs (fun w' g' hg' hne hs => ?_) (fun w' g' hg' hz hne hs => ?_) (fun a' c' tv w' g' hg' hz he hxo hs => ?_)
  · have h1 : s.addE d e = s.fit e := by simp only [Sg.addE, if_neg hne]
    have h2 : s.addD d e = d := by simp only [Sg.addD, if_neg hne]
    have key := hR s w' g' hg' (hx.mono hg') (fun h => absurd (h1.symm.trans h) hne) (fun _ => rfl)
    rw [h1, h2] at key
    exact key hs
  · have h1 : s.addE d e = (d.add (nameB s.wr s.first) e.enc).1 := by simp only [Sg.addE, if_pos hz]
    have h2 : s.addD d e = (d.add (nameB s.wr s.first) e.enc).2 := by simp only [Sg.addD, if_pos hz]
    have key := hR s w' g' hg' (hx.mono hg') (fun h => absurd (h1.symm.trans h) hne) (fun _ => rfl)
    rw [h1, h2] at key
    exact key hs
  · have h1 : s.addE d e = 0 := by simp only [Sg.addE, if_pos hz, he]
    have h2 : s.addD d e = (d.add (nameB s.wr s.first) e.enc).2 := by simp only [Sg.addD, if_pos hz]
    have key := hR ⟨s.wr, s.first, ⟨a', c', s.x.es ++ [e.ep.ev tv]⟩, s.size + recN e.enc.length⟩ w' g' hg' hxo (fun _ => ⟨rfl, rfl, ⟨tv, rfl⟩, rfl⟩) (fun h => absurd h1 h)
    rw [h1, h2] at key
    exact key hs
/-- Why an event isn't added; 0: it may be. -/
def Fe.addP (f : Fe) (e : Ev) : Int := if f.sealed = true then 12 else if ¬ (e.wr = f.wr ∧ e.sq = f.next) then 9 else if e.tm ≤ f.tm then 10 else 0
/-- Does an event want a new segment. -/
def Fe.full (f : Fe) (sq : Nat) : Bool := match f.l.getLast? with
  | none => true
  | some s => (decide (0 < s.x.es.length) && decide (f.cap ≤ s.size)) || !decide (s.next = sq)
def Fe.rolled (f : Fe) (d : Dk) (sq : Nat) : Int × Fe × Dk := if f.full sq then f.roll d sq else (0, f, d)
/-- How 'Add' goes: its error, the feed (where nothing is added), the disk. -/
def Fe.addR (f : Fe) (d : Dk) (e : Ev) : Int × Fe × Dk :=
  if f.addP e ≠ 0 then (f.addP e, f, d) else
  if (f.rolled d e.sq).1 ≠ 0 then f.rolled d e.sq else
  match (f.rolled d e.sq).2.1.l.getLast? with
  | none => (0, f, d)
  | some s => (s.addE (f.rolled d e.sq).2.2 e, (f.rolled d e.sq).2.1, s.addD (f.rolled d e.sq).2.2 e)
/-- A feed with one more event. -/
structure Fe.grown (f f' : Fe) (e : Ev) : Prop where
  ex : ∃ L s s', f.l = L ++ [s] ∧ s.grown s' e ∧ f' = { f with l := L ++ [s'], dirty := true }
theorem Fe.roll_ok {f : Fe} {d : Dk} {n : Nat} (h : (f.roll d n).1 = 0) : (f.roll d n).2.1.l = f.l ++ [sgNew 0 f.wr n] ∧ (f.roll d n).2.1.wr = f.wr ∧ (f.roll d n).2.1.floor = f.floor ∧ (f.roll d n).2.1.time = f.time ∧ (f.roll d n).2.1.cap = f.cap := by
  obtain ⟨e1, e2, e3, e4, e5⟩ := f.sync_wr d
  unfold Fe.roll at h ⊢
  split
  · rename_i h1
    rw [if_pos h1] at h
    exact absurd h h1
  · rename_i h1
    rw [if_neg h1] at h
    simp only at h ⊢
    rw [if_pos h]
    exact ⟨by simp only [e2], e1, e3, e4, e5⟩
theorem At4.put {a : Option Addr} {n c rb off p : Nat} {cur : List Value} {L : List Sg} {s s' : Sg} (h : At4 a n c rb off p L.length cur (L ++ [s]) s) (hn : n = L.length + 1) : ((spl cur p s'.cs).drop off).take (n * 4) = sgC (L ++ [s']) := by
  have hf := h.fit
  have hr := h.row
  have hp := h.pe
  have hnc := h.nc
  have e4 : ∀ t : Sg, t.cs.length = 4 := fun _ => rfl
  have hsplit : cur = cur.take p ++ s.cs ++ cur.drop (p + 4) := by
    have h2 : cur.drop (p + 4) = (cur.drop p).drop 4 := by rw [List.drop_drop]
    rw [List.append_assoc, h2, ← h.at4, List.take_append_drop, List.take_append_drop]
  have hpl : (cur.take p).length = p := by rw [List.length_take]; omega
  have hsp : spl cur p s'.cs = cur.take p ++ s'.cs ++ cur.drop (p + 4) := by
    have := spl_mid s'.cs (cur.take p) s.cs (cur.drop (p + 4)) (by rw [e4, e4])
    rw [hpl, ← hsplit] at this
    exact this
  have hpre : (cur.take p).drop off = sgC L := by
    have h3 := congrArg (List.take (L.length * 4)) hr
    rw [List.take_take, Nat.min_eq_left (by omega)] at h3
    have h5 : (sgC (L ++ [s])).take (L.length * 4) = sgC L := by
      rw [sgC_append, List.take_append_of_le_length (by rw [sgC_len]; omega), List.take_of_length_le (by rw [sgC_len]; omega)]
    rw [List.drop_take, hp, Nat.add_sub_cancel_left]
    exact h3.trans h5
  rw [hsp, List.append_assoc, List.drop_append, hpre, hpl, show off - p = 0 by omega, List.drop_zero, sgC_append, sgC_one, ← List.append_assoc, List.take_append_of_le_length (by rw [List.length_append, sgC_len, e4]; omega), List.take_of_length_le (by rw [List.length_append, sgC_len, e4]; omega)]
set_option maxHeartbeats 6400000 in
set_option maxRecDepth 100000 in
theorem fadd_any {R : Ending → World → Prop} {W w : World} {g : Hl} {H : List HP} {b db : Nat} {f : Fe} {d : Dk} {e : Ev} (hg : Gl g) (ho : e.ok g) (hsm : f.small) (hc : f.count ≤ 1000000000) (hd : f.dirty = true → f.l ≠ []) (hln : f.l.length ≤ 1000000000) (hs : Sat W w g (feed b db f :: disk db d :: H))
    (hR : ∀ f' w' g', Hl.le g g' → ((f.addR d e).1 = 0 → (f.addR d e).2.1.grown f' e) → ((f.addR d e).1 ≠ 0 → f' = (f.addR d e).2.1) → Sat W w' g' (feed b db f' :: disk db (f.addR d e).2.2 :: H) → R (.returned (.int .i64 (f.addR d e).1)) w') : Calls Tryz.prog 52 #[ptr b, e.val] w R := by
  have HR := Lib.hid hR
  clear hR
  have ag1 := ag_sg
  have ag2 := ag_ev
  obtain ⟨ea, ec, etv, hnce, _⟩ := ho.tv.len
  refine C.calls (args := [ptr b, e.val]) Tryz.func52 rfl rfl rfl ?_
  refine go ?_
  refine E.bx hs (xs := e.cs) ?_ (hx := rfl)
  intro b3 w1 hs
  refine go ?_
  refine E.callf Tryz.func107 rfl ?_
  refine fsealed_any hc hs.swap ?_
  intro w2 g2 hg2 hs
  cases hse : f.sealed with
  | true =>
    have hp : f.addP e = 12 := by simp only [Fe.addP, hse, if_true]
    have hr : f.addR d e = (12, f, d) := by simp only [Fe.addR, hp]; rfl
    refine go ?_
    refine A.r1 ?_
    have key := HR.out f w2 g2 hg2
    rw [hr] at key
    exact key (fun h => by cases h) (fun _ => rfl) hs.swap.drop
  | false =>
  have hwr : f.wr < 64 := by
    obtain ⟨_, _, h, _⟩ := feed_open hs
    exact h.wr
  refine go ?_
  obtain ⟨a, c, hok, hs⟩ := feed_open hs
  simp only [Fe.cs] at hs
  refine C.held2 b3 b hs ?_
  intro w3 hk hs
  refine goh ?_
  cases hcw : decide (e.wr = (f.wr : Int)) with
  | false =>
    have hp : f.addP e = 9 := by simp only [Fe.addP, hse, Bool.false_eq_true, if_false, of_decide_eq_false hcw, false_and, not_false_eq_true, if_true]
    have hr : f.addR d e = (9, f, d) := by simp only [Fe.addR, hp]; rfl
    refine goh ?_
    refine EH.done ?_
    refine go ?_
    refine A.r1 ?_
    have key := HR.out f w3 g2 hg2
    rw [hr] at key
    exact key (fun h => by cases h) (fun _ => rfl) (feed_close hok hs).swap.drop
  | true =>
  have hcw := of_decide_eq_true hcw
  refine goh ?_
  refine EH.one (St.guard rfl rfl (St.callf Tryz.func50 rfl ?_))
  refine fnext_raw hsm hok hs ?_
  intro w4 hs
  refine kept2 hs (fun hk => ?_) (Hl.le_refl _)
  refine goh ?_
  refine EH.done ?_
  refine go ?_
  cases hq : decide ((e.sq : Int) = (f.next : Nat)) with
  | false =>
    have hp : f.addP e = 9 := by
      have : ¬ e.sq = f.next := fun h => of_decide_eq_false hq (by rw [h])
      simp only [Fe.addP, hse, Bool.false_eq_true, if_false, this, and_false, not_false_eq_true, if_true]
    have hr : f.addR d e = (9, f, d) := by simp only [Fe.addR, hp]; rfl
    refine go ?_
    refine A.r1 ?_
    have key := HR.out f w4 g2 hg2
    rw [hr] at key
    exact key (fun h => by cases h) (fun _ => rfl) (feed_close hok hs).swap.drop
  | true =>
  have hqq : e.sq = f.next := by have := of_decide_eq_true hq; omega
  clear hq
  refine go ?_
  replace hs := feed_close hok hs
  refine C.held1 b3 hs ?_
  intro w5 hk hs
  refine goh ?_
  refine EH.one (St.callf Tryz.func108 rfl ?_)
  refine ftime_any hc hs ?_
  intro w6 g6 hg6 hs
  refine kept1 hs (fun hk => ?_) hg6
  refine goh ?_
  refine EH.done ?_
  refine go ?_
  clear hok
  cases ht : decide ((e.tm : Int) ≤ (f.tm : Nat)) with
  | true =>
    have hp : f.addP e = 10 := by
      have ht := of_decide_eq_true ht
      simp only [Fe.addP, hse, Bool.false_eq_true, if_false, hcw, hqq, and_self, not_true_eq_false]
      rw [if_pos (by omega)]
    have hr : f.addR d e = (10, f, d) := by simp only [Fe.addR, hp]; rfl
    refine go ?_
    refine A.r1 ?_
    have key := HR.out f w6 g6 (hg2.trans hg6)
    rw [hr] at key
    exact key (fun h => by cases h) (fun _ => rfl) hs.swap.drop
  | false =>
  have hp : f.addP e = 0 := by
    have ht := of_decide_eq_false ht
    simp only [Fe.addP, hse, Bool.false_eq_true, if_false, hcw, hqq, and_self, not_true_eq_false]
    rw [if_neg (by omega)]
  clear ht hk
  have hR1 : f.addR d e = (if (f.rolled d e.sq).1 ≠ 0 then f.rolled d e.sq else match (f.rolled d e.sq).2.1.l.getLast? with
    | none => (0, f, d)
    | some s => (s.addE (f.rolled d e.sq).2.2 e, (f.rolled d e.sq).2.1, s.addD (f.rolled d e.sq).2.2 e)) := by
    simp only [Fe.addR, hp]
    rw [if_neg (by simp)]
  obtain ⟨a, c, hok, hs⟩ := feed_open hs
  have hfl := hok.floor
  have hnx0 : e.sq ≠ 0 := by
    have h1 : f.floor + 1 ≤ f.next := by
      unfold Fe.next
      split <;> omega
    omega
  refine go ?_
  have hg6' := hg2.trans hg6
  have hR1 := Lib.hid hR1
  have Hcw := Lib.hid hcw
  have Hqq := Lib.hid hqq
  clear hcw hqq hp hse hg2 hg6
  apply later (α := Fe × Dk × Hl) (f := fun _ => [(0, ptr b), (3, ptr b3)])
    (M := fun q w => f.rolled d e.sq = (0, q.1, q.2.1) ∧ q.1.l ≠ [] ∧ q.1.wr = f.wr ∧ (∀ s ∈ q.1.l, s.size ≤ 4000000000000000000 ∧ s.x.es.length ≤ 1000000000) ∧ q.1.l.length ≤ 1000000001 ∧ Hl.le g q.2.2 ∧ Sat W w q.2.2 (feed b db q.1 :: blk b3 e.cs 26 :: disk db q.2.1 :: H))
  · intro key
    apply laterE (α := Unit) (f := fun _ => [(0, ptr b), (3, ptr b3), (86, ptr b), (88, .int .u64 e.sq)]) (M := fun _ w => f.full e.sq = true ∧ Sat W w g6 (feed b db f :: blk b3 e.cs 26 :: disk db d :: H))
    · intro keyR
      by_cases h0 : f.l.length = 0
      · have hfu : f.full e.sq = true := by
          have : f.l = [] := List.eq_nil_of_length_eq_zero h0
          simp [Fe.full, this]
        have hd0 : decide ((f.l.length : Int) = 0) = true := decide_eq_true (by omega)
        replace hd0 := Lib.hid hd0
        clear h0
        refine C.held2 b3 b hs ?_
        intro w7 hk hs
        refine goh ?_
        rw [hd0.out]
        refine goh ?_
        refine EH.done ?_
        refine go ?_
        exact E.forget wk_ (keyR () _ ⟨hfu, feed_close hok hs⟩)
      · have hj : f.l.length - 1 < f.l.length := by omega
        obtain ⟨rb, off, p, cur, h4, hs⟩ := row_open hj rfl hs.swap
        have hgd := hok.l _ (List.getElem_mem hj)
        have hss := hsm _ (List.getElem_mem hj)
        have hla : f.l.getLast? = some f.l[f.l.length - 1] := by rw [List.getLast?_eq_getElem?, List.getElem?_eq_getElem hj]
        have hn63 : f.l.length ≤ 9223372036854775807 := by have := h4.nc; have := h4.c63; omega
        generalize hsg : f.l[f.l.length - 1] = s at h4 hgd hss hla
        replace hla := Lib.hid hla
        clear hsg
        have hne0 : ¬ ((f.l.length : Int) = 0) := by omega
        refine C.held3 b3 b rb hs ?_
        intro w7 hk hs
        have hr2 : Rd (Keeps g6 [(b3, e.cs, 26), (b, f.cs db a c, 155), (rb, cur, 157)]) rb (p + 2) s.x.v := Rd.blk (.there (.there .here)) h4.c2
        have hr3 : Rd (Keeps g6 [(b3, e.cs, 26), (b, f.cs db a c, 155), (rb, cur, 157)]) rb (p + 3) (.int .i64 s.size) := Rd.blk (.there (.there .here)) h4.c3
        have hxv : s.x.v = .slice s.x.a s.x.es.length s.x.c := rfl
        rw [hxv] at hr2
        clear hxv
        refine goh ?_
        rw [decide_eq_false hne0]
        refine goh ?_
        refine EH.tp 9 hk ?_ (hy := Pf.pv (Pv.indexAddr rfl rfl (h4.ix (i := (f.l.length : Int) - 1) (by omega))))
        refine goh ?_
        cases hes : decide ((0 : Int) < s.x.es.length) with
        | false =>
          have hes : decide (0 < s.x.es.length) = false := by have := of_decide_eq_false hes; exact decide_eq_false (by omega)
          refine goh ?_
          refine EH.tp 38 hk ?_ (hy := Pf.pv (Pv.indexAddr rfl rfl (h4.ix (i := (f.l.length : Int) - 1) (by omega))))
          refine EH.tp 39 hk ?_ (hy := Pf.loadp rfl (.there (.there .here)) ag_sg h4.at4 rfl)
          refine goh ?_
          refine EH.one (St.guard rfl rfl (St.callf Tryz.func105 rfl ?_))
          refine sgNext_any (s := s) hgd.2.2 hss.2 hs ?_
          intro w8 hs
          refine kept3 hs (fun hk => ?_) (Hl.le_refl _)
          refine goh ?_
          cases hnq : decide (((s.next : Nat) : Int) = e.sq) with
          | true =>
            have hnq : s.next = e.sq := by have := of_decide_eq_true hnq; omega
            have hfu : f.full e.sq = false := by simp only [Fe.full, hla.out, hes, Bool.false_and, Bool.false_or, hnq]; simp
            refine goh ?_
            refine EH.done ?_
            refine go ?_
            exact C.forget wk_ (key (f, d, g6) _ ⟨by simp only [Fe.rolled, hfu]; rfl, fun h => h0 (by rw [h]; rfl), rfl, hsm, by simp only; omega, hg6', feed_close hok (row_close h4 hs).swap⟩)
          | false =>
            have hnq : ¬ s.next = e.sq := by have := of_decide_eq_false hnq; omega
            have hfu : f.full e.sq = true := by simp only [Fe.full, hla.out, hes, Bool.false_and, Bool.false_or]; simp [hnq]
            refine goh ?_
            refine EH.done ?_
            refine go ?_
            exact E.forget wk_ (keyR () _ ⟨hfu, feed_close hok (row_close h4 hs).swap⟩)
        | true =>
          have hes : decide (0 < s.x.es.length) = true := by have := of_decide_eq_true hes; exact decide_eq_true (by omega)
          refine goh ?_
          refine EH.tp 21 hk ?_ (hy := Pf.pv (Pv.indexAddr rfl rfl (h4.ix (i := (f.l.length : Int) - 1) (by omega))))
          refine goh ?_
          cases hcs : decide (f.cap ≤ (s.size : Int)) with
          | true =>
            have hfu : f.full e.sq = true := by simp only [Fe.full, hla.out, hes, hcs, Bool.and_self, Bool.true_or]
            refine goh ?_
            refine EH.done ?_
            refine go ?_
            exact E.forget wk_ (keyR () _ ⟨hfu, feed_close hok (row_close h4 hs).swap⟩)
          | false =>
            refine goh ?_
            refine EH.tp 38 hk ?_ (hy := Pf.pv (Pv.indexAddr rfl rfl (h4.ix (i := (f.l.length : Int) - 1) (by omega))))
            refine EH.tp 39 hk ?_ (hy := Pf.loadp rfl (.there (.there .here)) ag_sg h4.at4 rfl)
            refine goh ?_
            refine EH.one (St.guard rfl rfl (St.callf Tryz.func105 rfl ?_))
            refine sgNext_any (s := s) hgd.2.2 hss.2 hs ?_
            intro w8 hs
            refine kept3 hs (fun hk => ?_) (Hl.le_refl _)
            refine goh ?_
            cases hnq : decide (((s.next : Nat) : Int) = e.sq) with
            | true =>
              have hnq : s.next = e.sq := by have := of_decide_eq_true hnq; omega
              have hfu : f.full e.sq = false := by simp only [Fe.full, hla.out, hes, hcs, Bool.and_false, Bool.false_or, hnq]; simp
              refine goh ?_
              refine EH.done ?_
              refine go ?_
              exact C.forget wk_ (key (f, d, g6) _ ⟨by simp only [Fe.rolled, hfu]; rfl, fun h => h0 (by rw [h]; rfl), rfl, hsm, by simp only; omega, hg6', feed_close hok (row_close h4 hs).swap⟩)
            | false =>
              have hnq : ¬ s.next = e.sq := by have := of_decide_eq_false hnq; omega
              have hfu : f.full e.sq = true := by simp only [Fe.full, hla.out, hes, hcs, Bool.and_false, Bool.false_or]; simp [hnq]
              refine goh ?_
              refine EH.done ?_
              refine go ?_
              exact E.forget wk_ (keyR () _ ⟨hfu, feed_close hok (row_close h4 hs).swap⟩)
    rintro _ w7 ⟨hfu, hs⟩
    have hrd : f.rolled d e.sq = f.roll d e.sq := by simp only [Fe.rolled, hfu, if_true]
    refine E.callf Tryz.func109 rfl ?_
    refine froll_any (n := e.sq) (hg.mono hg6') hd ho.sq hnx0 hln hs.pull2.swap ?_
    intro w8 g8 hg8 hs
    have hfin : ∀ w', Sat W w' g8 (feed b db (f.roll d e.sq).2.1 :: disk db (f.roll d e.sq).2.2 :: blk b3 e.cs 26 :: H) → (f.roll d e.sq).1 ≠ 0 → R (.returned (.int .i64 (f.roll d e.sq).1)) w' := by
      intro w' hs hne
      have key := HR.out (f.roll d e.sq).2.1 w' g8 (hg6'.trans hg8)
      rw [hR1.out, hrd, if_pos hne] at key
      exact key (fun h => absurd h hne) (fun _ => rfl) hs.pull2.drop
    have hok0 := @Fe.roll_ok f d e.sq
    generalize f.roll d e.sq = q at hs hfin hok0 hrd ⊢
    obtain ⟨er, f1, d1⟩ := q
    simp only at hs hfin hok0 ⊢
    refine go ?_
    by_cases hz : er = 0
    · subst hz
      obtain ⟨q1, q2, q3, q4, q5⟩ := hok0 rfl
      have hdd : (!decide ((0 : Int) = 0)) = false := by simp
      refine C.cond rfl (fun h => by rw [hdd] at h; cases h) (fun _ => ?_)
      refine go ?_
      refine C.forget wk_ (key (f1, d1, g8) _ ⟨hrd, ?_, q2, ?_, ?_, hg6'.trans hg8, hs.pull2.swap⟩)
      · rw [q1]; simp
      · rw [q1]
        intro s hs'
        rcases List.mem_append.1 hs' with h | h
        · exact hsm s h
        · rw [List.mem_singleton.1 h]
          have := headB_len (t := ⟨115, f.wr, e.sq⟩) ⟨by simp only; omega, ho.sq⟩
          simp only [sgNew, if_true, List.length_nil]
          omega
      · simp only [q1, List.length_append, List.length_singleton]; omega
    · have hdd : (!decide (er = 0)) = true := by simp [hz]
      refine C.cond rfl (fun _ => ?_) (fun h => by rw [hdd] at h; cases h)
      refine go ?_
      refine A.r1 ?_
      exact hfin w8 hs hz
  rintro ⟨f1, d1, g1⟩ w10 ⟨hrl, hl1, hw1, hsm1, hll1, hg1, hs⟩
  simp only at hrl hl1 hw1 hsm1 hll1 hg1 hs ⊢
  have hl0 : 0 < f1.l.length := List.length_pos_iff.2 hl1
  have hj : f1.l.length - 1 < f1.l.length := by omega
  have hla : f1.l.getLast? = some f1.l[f1.l.length - 1] := by rw [List.getLast?_eq_getElem?, List.getElem?_eq_getElem hj]
  have hdl : f1.l = f1.l.dropLast ++ [f1.l[f1.l.length - 1]] := by
    have h1 := List.dropLast_concat_getLast hl1
    rw [List.getLast_eq_getElem] at h1
    exact h1.symm
  have hss := hsm1 _ (List.getElem_mem hj)
  have key := HR.out
  rw [hR1.out, hrl] at key
  simp only [hla, ne_eq, not_true_eq_false, if_false] at key
  obtain ⟨a1, c1, hok1, hs⟩ := feed_open hs
  obtain ⟨rb, off, p, cur, h4, hs⟩ := row_open hj rfl hs.swap
  have hgd := hok1.l _ (List.getElem_mem hj)
  have hdlen : f1.l.dropLast.length = f1.l.length - 1 := by simp
  generalize f1.l[f1.l.length - 1] = s at h4 hgd hss hla hdl key
  replace hla := Lib.hid hla
  replace hdl := Lib.hid hdl
  replace hdlen := Lib.hid hdlen
  replace hrl := Lib.hid hrl
  have hn63 : f1.l.length ≤ 9223372036854775807 := by omega
  have hswr : s.wr < 64 := by omega
  refine C.held3 b3 b rb hs ?_
  intro w11 hk hs
  apply laterH (α := Nat × Sg × Hl) (f := fun q => [(0, ptr b), (7, ptr q.1), (112, q.2.1.val), (113, .int .i64 (s.addE d1 e))])
    (M := fun q w => Hl.le g1 q.2.2 ∧ q.2.1.x.ok q.2.2 ∧ (s.addE d1 e = 0 → s.grown q.2.1 e) ∧ (s.addE d1 e ≠ 0 → q.2.1 = s) ∧ Sat W w q.2.2 (disk db (s.addD d1 e) :: blk q.1 [.int .i64 0, .int .u64 0, .slice none 0 0, .int .i64 0] 157 :: blk rb cur 157 :: blk b (f1.cs db a1 c1) 155 :: blk b3 e.cs 26 :: H))
  · intro B
    refine goh ?_
    refine EH.tp 10 hk ?_ (hy := Pf.pv (Pv.indexAddr rfl rfl (h4.ix (i := (f1.l.length : Int) - 1) (by omega))))
    refine EH.tp 11 hk ?_ (hy := Pf.loadp rfl (.there (.there .here)) ag_sg h4.at4 rfl)
    refine goh ?_
    refine EH.ora hs (St.callf Tryz.func110 rfl ?_) ?_
    · refine sgAdd_one (s := s) (e := e) (hg.mono hg1) (ho.mono hg1) hgd.1 hswr hgd.2.2 hss.1 hss.2 hs.pull3 ?_
      intro s' w12 g12 hg12 hxo h1 h2 hs
      refine kept3 hs (fun hk => ?_) hg12
      refine goh ?_
      refine EH.al hs ?_
      intro b7 w13 hs
      refine kept3 hs (fun hk => ?_) hg12
      refine goh ?_
      exact EH.forget wk_ (B (b7, s', g12) _ ⟨hg12, hxo, h1, h2, hs.swap⟩)
    · intro b7 w12 hs
      refine kept3 hs (fun hk => ?_) (Hl.le_refl _)
      refine goh ?_
      refine EH.one (St.callf Tryz.func110 rfl ?_)
      refine sgAdd_one (s := s) (e := e) (hg.mono hg1) (ho.mono hg1) hgd.1 hswr hgd.2.2 hss.1 hss.2 hs.pull4 ?_
      intro s' w13 g13 hg13 hxo h1 h2 hs
      refine kept3 hs (fun hk => ?_) hg13
      refine goh ?_
      exact EH.forget wk_ (B (b7, s', g13) _ ⟨hg13, hxo, h1, h2, hs⟩)
  rintro ⟨b7, s', g12⟩ w12 ⟨hg12, hxo, h1, h2, hs⟩
  simp only at hg12 hxo h1 h2 hs ⊢
  have hk := Keeps.of3 hs hg12 (b1 := b3) (b2 := b) (b3 := rb)
  refine EH.sto (vs := s'.cs) (ys := s'.cs) hs ?_ (hv := rfl) (hsp := rfl)
  intro w13 hs
  refine kept3 hs (fun hk => ?_) hg12
  refine goh ?_
  refine EH.done ?_
  have hok12 := hok1.mono hg12
  refine go ?_
  by_cases hz : s.addE d1 e = 0
  · refine C.cond rfl (fun _ => ?_) (fun h => by rw [decide_eq_true hz] at h; cases h)
    replace hz := Lib.hid hz
    replace h1 := h1 hz.out
    clear h2
    refine go ?_
    have hput := Lib.hid (At4.put (s' := s') (L := f1.l.dropLast) (by have hdn := hdl.out; rw [← hdn, hdlen.out]; exact h4) (by rw [hdlen.out]; omega))
    refine C.heldN hs ?_
    intro w14 hs
    have hk : Keeps g12 [(b7, s'.cs, 157), (b, f1.cs db a1 c1, 155)] w14 := Keeps.of2 hs (Hl.le_refl _)
    refine EH.tail 65536 65536 65535 16 1 (Keeps g12 [(b7, s'.cs, 157), (b, f1.cs db a1 c1, 155)]) (fun _ _ => trivial) ?_
    refine goh ?_
    refine EH.tp 12 hk ?_ (hy := Pf.pv (Pv.indexAddr rfl rfl (h4.ix (i := (f1.l.length : Int) - 1) (by omega))))
    refine goh ?_
    have hcf := h4.fit
    have hpe := h4.pe
    have hnc := h4.nc
    refine EH.sto (b := rb) (j := p) (xs := cur) (v := s'.val) (vs := s'.cs) (ys := spl cur p s'.cs) hs ?_ (hv := rfl) (hsp := rfl) (hj := by simp only [Sg.cs, List.length_cons, List.length_nil, Nat.ble_eq]; omega)
    intro w15 hs
    refine kept2 hs (fun hk => ?_) (Hl.le_refl _)
    refine goh ?_
    refine EH.done ?_
    refine A.mid ?_
    refine EH.sto (vs := [.bool true]) (ys := ({ f1 with l := f1.l.dropLast ++ [s'], dirty := true } : Fe).cs db a1 c1) hs ?_ (hv := rfl) (hsp := by
      simp only [Fe.cs, List.length_append, List.length_singleton, hdlen.out]
      rw [show f1.l.length - 1 + 1 = f1.l.length by omega]
      rfl)
    intro w16 hs
    refine ⟨trivial, ?_⟩
    refine EH.done ?_
    refine go ?_
    refine A.r1 ?_
    have key := key { f1 with l := f1.l.dropLast ++ [s'], dirty := true } w16 g12 (hg1.trans hg12) (fun _ => ⟨f1.l.dropLast, s, s', hdl.out, h1, rfl⟩) (fun h => absurd hz.out h)
    have hlen : (f1.l.dropLast ++ [s']).length = f1.l.length := by rw [List.length_append, List.length_singleton, hdlen.out]; omega
    have hs2 := Sat.oclose (size := 4) (n := f1.l.length) (c := c1) hs.swap.drop.swap (by rw [spl_len]; exact h4.fit) hput.out h4.nc h4.c63
    rw [← h4.addr, ← hlen] at hs2
    have hs3 := feed_close (a := a1) (c := c1) (f := { f1 with l := f1.l.dropLast ++ [s'], dirty := true }) ⟨hok12.wr, hok12.floor, hok12.time, hok12.cap, fun t ht => ?_⟩ hs2.pull2
    · exact key hs3.pull2.drop
    · rcases List.mem_append.1 ht with h | h
      · exact hok12.l t ((List.dropLast_sublist _).subset h)
      · rw [List.mem_singleton.1 h]
        exact ⟨hxo, h1.wr.trans hgd.2.1, by rw [h1.first]; exact hgd.2.2⟩
  · refine C.cond rfl (fun h => by rw [decide_eq_false hz] at h; cases h) (fun _ => ?_)
    refine go ?_
    refine A.r1 ?_
    have key := key f1 w13 g12 (hg1.trans hg12) (fun h => absurd h hz) (fun _ => rfl)
    exact key (feed_close hok12 (row_close h4 hs.swap.drop.swap).pull2).pull2.drop
end Go.Proofs.YtfhmamkafancbaaGreatDoor

/-
  Layer 9 (feed): Fold.
-/
namespace Go.Proofs.YtfhmamkafancbaaGreatDoor
open Go.RowKit
set_option linter.unusedVariables false
set_option linter.unusedSimpArgs false
end Go.Proofs.YtfhmamkafancbaaGreatDoor

/-
  Layer 9 (feed): Open.
-/
namespace Go.Proofs.YtfhmamkafancbaaGreatDoor
open Go.RowKit
set_option linter.unusedVariables false
set_option linter.unusedSimpArgs false
/-- A segment, plain. -/
structure Sp where
  first : Nat
  es : List Ep
  size : Nat
def Sg.sp (s : Sg) : Sp := ⟨s.first, s.x.es.map Ev.raw, s.size⟩
def Sp.next (s : Sp) : Nat := (s.first + s.es.length) % 18446744073709551616
theorem Sg.sp_next (s : Sg) : s.sp.next = s.next := by simp [Sp.next, Sg.next, Sg.sp]
def nextP (floor : Nat) (l : List Sp) : Nat := match l.getLast? with
  | none => floor + 1
  | some s => max (floor + 1) s.next
theorem Fe.next_sp (f : Fe) : f.next = nextP f.floor (f.l.map Sg.sp) := by
  unfold Fe.next nextP
  rw [List.getLast?_map]
  cases f.l.getLast? with
  | none => rfl
  | some s => simp [Sg.sp_next]
/-- What 'segment.Open' tells: the segment, the error. -/
def opS (n : Nat) : Except Int (List Ep × Nat × Int) → Sp
  | .error _ => ⟨0, [], 0⟩
  | .ok (es, sz, _) => ⟨n, es, sz⟩
def opR : Except Int (List Ep × Nat × Int) → Int
  | .error e => e
  | .ok (_, _, e) => e
theorem opE_few {wr f : Nat} : ∀ (ls : List (List UInt8)) (acc : List Ep) (sz : Nat), (∀ p ∈ ls, p.length ≤ 2097152) → (opE wr f acc sz ls).1.length ≤ acc.length + ls.length ∧ (opE wr f acc sz ls).2.1 ≤ sz + ls.length * 2097166
  | [], acc, sz, _ => by simp [opE]
  | p :: r, acc, sz, h => by
    have hp := h p (by simp)
    have hrec : recN p.length ≤ 2097166 := by
      have := layN_ten (n := p.length) (by omega)
      unfold recN; omega
    have ih := fun acc sz => opE_few (wr := wr) (f := f) r acc sz fun q hq => h q (by simp [hq])
    simp only [opE]
    split
    · simp only [List.length_cons]; omega
    · split
      · rename_i e _ _
        have := ih (acc ++ [e]) (sz + recN p.length)
        simp only [List.length_append, List.length_singleton, List.length_cons, List.length_nil] at this ⊢
        omega
      · simp only [List.length_cons]; omega
theorem opn_few {d : Dk} (hd : d.ok) {i n : Nat} (hi : i < 64) (hn : n < 18446744073709551616) : (opS n (d.opn i n).1).es.length ≤ 1000000000 ∧ (opS n (d.opn i n).1).size ≤ 4000000000000000000 := by
  have hto : Ti.ok ⟨115, i, n⟩ := ⟨by simp only; omega, hn⟩
  have hhl := headB_len hto
  unfold Dk.opn
  cases hm : (d.mend (nameB i n)).1 with
  | error e => simp [opS]
  | ok s =>
    obtain ⟨h1, h2⟩ := mend_few hd hm
    have h3 := opE_few (wr := i) (f := n) s.l [] (headB ⟨115, i, n⟩).length h1
    simp only
    split
    · split
      · simp only [opS, List.length_nil] at h3 ⊢; omega
      · simp only [opS, List.length_nil] at h3 ⊢; omega
    · simp [opS]
theorem sgOpen_one {R : Ending → World → Prop} {W w : World} {g : Hl} {H : List HP} {b : Nat} {d : Dk} {i n : Nat} (hg : Gl g) (hi : i < 64) (hn : n < 18446744073709551616) (hs : Sat W w g (disk b d :: H))
    (hR : ∀ (s : Sg) w' g', Hl.le g g' → s.x.ok g' → s.sp = opS n (d.opn i n).1 → (opR (d.opn i n).1 = 0 → s.wr = i) → s.first < 18446744073709551616 → (∀ e ∈ s.x.es, e.right = 0) → Sat W w' g' (disk b (d.opn i n).2 :: H) → R (.returned (.tuple #[s.val, .int .i64 (opR (d.opn i n).1)])) w') :
    Calls Tryz.prog 207 #[ptr b, str (nameB i n)] w R := by
  refine sgOpen_all hg hi hn hs (fun e w' g' hg' he hne hs => ?_) (fun x sz er w' g' hg' he hx hxr hs => ?_)
  · have key := hR ⟨0, 0, ⟨none, 0, []⟩, 0⟩ w' g' hg' ⟨Pr.nil, fun e he => by cases he⟩ (by rw [he]; rfl) (fun h => by rw [he] at h; exact absurd h hne) (by decide) (fun e he => by cases he) hs
    rw [he] at key
    exact key
  · have key := hR ⟨i, n, x, sz⟩ w' g' hg' hx (by rw [he]; rfl) (fun _ => rfl) hn hxr hs
    rw [he] at key
    exact key
/-- Does a segment follow. -/
def folP (floor : Nat) (acc : List Sp) (s : Sp) : Bool := match acc with
  | [] => decide (s.first ≤ floor + 1)
  | _ :: _ => decide (s.first = nextP floor acc)
/-- Is it kept. -/
def keepP (floor : Nat) (acc : List Sp) (last : Bool) (s : Sp) (er : Int) : Bool :=
  decide (er = 0) && folP floor acc s && !(decide (s.next ≤ floor + 1) && (!last || decide (0 < s.es.length)))
def fopS (wr floor : Nat) (last : Bool) (n : Nat) (acc : List Sp) (d : Dk) : Int × List Sp × Dk :=
  if opR (d.opn wr n).1 = 7 then (7, acc, (d.opn wr n).2) else
  if keepP floor acc last (opS n (d.opn wr n).1) (opR (d.opn wr n).1) = true then (0, acc ++ [opS n (d.opn wr n).1], (d.opn wr n).2) else
  (((d.opn wr n).2.remove (nameB wr n)).1, acc, ((d.opn wr n).2.remove (nameB wr n)).2)
/-- How 'Open' goes over the segments' first numbers. -/
def fopR (wr floor : Nat) : List Nat → List Sp → Dk → Int × List Sp × Dk
  | [], acc, d => (0, acc, d)
  | n :: r, acc, d => if (fopS wr floor r.isEmpty n acc d).1 ≠ 0 then fopS wr floor r.isEmpty n acc d else fopR wr floor r (fopS wr floor r.isEmpty n acc d).2.1 (fopS wr floor r.isEmpty n acc d).2.2
set_option maxHeartbeats 6400000 in
set_option maxRecDepth 100000 in
theorem fopen_rt {R : Ending → World → Prop} {W w : World} {g : Hl} {H : List HP} {db : Nat} {d : Dk} {wr fl tm : Nat} {cap : Int} {ns : List Nat} (hg : Gl g) (hwr : wr < 64) (hfl : fl ≤ 9223372036854775807) (htm : tm < 18446744073709551616) (hcap : -9223372036854775808 ≤ cap ∧ cap ≤ 9223372036854775807) (hnm : ∀ p ∈ d.fs, p.1.length ≤ 1000000) (hfs : d.fs.length ≤ 1000000000)
    (hns : d.names (beginB wr) = ns.map (nameB wr)) (hlt : ∀ n ∈ ns, n < 18446744073709551616) (hs : Sat W w g (disk db d :: H))
    (hOK : ∀ b l w' g', Hl.le g g' → (fopR wr fl ns [] d).1 = 0 → l.map Sg.sp = (fopR wr fl ns [] d).2.1 → (∀ s ∈ l, ∀ e ∈ s.x.es, e.right = 0) → Sat W w' g' (feed b db ⟨wr, cap, fl, tm, l, false⟩ :: disk db (fopR wr fl ns [] d).2.2 :: H) → R (.returned (.tuple #[ptr b, .int .i64 0])) w')
    (hE : ∀ w' g', Hl.le g g' → (fopR wr fl ns [] d).1 ≠ 0 → Sat W w' g' (disk db (fopR wr fl ns [] d).2.2 :: H) → R (.returned (.tuple #[.pointer none, .int .i64 (fopR wr fl ns [] d).1])) w') :
    Calls Tryz.prog 159 #[ptr db, .int .i64 wr, .int .i64 cap, .int .u64 fl, .int .u64 tm] w R := by
  have HOK := Lib.hid hOK
  have HE := Lib.hid hE
  clear hOK hE
  have ag1 := ag_sg
  have hnl : ns.length ≤ 1000000000 := by
    have h1 : (ns.map (nameB wr)).length ≤ d.fs.length := by
      rw [← hns]
      unfold Dk.names
      split
      · simp
      · have := List.length_filter_le (hasP (beginB wr)) (rising (d.fs.map Prod.fst))
        rw [(rising_perm _).length_eq, List.length_map] at this
        exact this
    rw [List.length_map] at h1
    omega
  have hbl := beginB_len (w := wr) (by omega)
  refine C.calls (args := [ptr db, .int .i64 wr, .int .i64 cap, .int .u64 fl, .int .u64 tm]) Tryz.func159 rfl rfl rfl ?_
  refine go ?_
  rw [decide_eq_false (show ¬ (64 : Int) ≤ wr by omega)]
  refine go ?_
  refine E.bx hs ?_
  intro b w1 hs
  refine go ?_
  refine E.callf Tryz.func171 rfl ?_
  refine segBegin_any (i := wr) (by omega) ?_
  refine go ?_
  refine E.callf Tryz.func84 rfl ?_
  refine names_gen (p := beginB wr) (by omega) hnm hfs hs.swap ?_
  intro k a c w2 g2 hk hg2 hpn hs
  rw [hns] at hk hpn
  rw [List.length_map] at hk
  subst hk
  have hf0 : (⟨wr, cap, fl, tm, [], false⟩ : Fe).ok g2 := ⟨hwr, hfl, htm, hcap, fun s hs => by cases hs⟩
  have hs : Sat W w2 g2 (feed b db ⟨wr, cap, fl, tm, [], false⟩ :: disk db d :: H) := feed_close (a := none) (c := 0) hf0 (Sat.swap (Sat.onil (hs.swap)))
  clear hf0
  refine gob ?_
  refine C.cut (fun _ : Unit => [(12, ptr b)]) (fun _ w => ∃ l g', Hl.le g g' ∧ (fopR wr fl ns [] d).1 = 0 ∧ l.map Sg.sp = (fopR wr fl ns [] d).2.1 ∧ (∀ s ∈ l, ∀ e ∈ s.x.es, e.right = 0) ∧ Sat W w g' (feed b db ⟨wr, cap, fl, tm, l, false⟩ :: disk db (fopR wr fl ns [] d).2.2 :: H)) ?_ ?_
  · refine C.block ?_
    refine C.lp (fun q : Nat × List Sg × Dk => [(0, ptr db), (3, .int .u64 fl), (12, ptr b), (13, .slice a ns.length c), (38, .slice a ns.length c), (39, .int .i64 ns.length), (40, .int .i64 q.1)])
      (fun gk q w => gk = ns.length - q.1 ∧ q.1 ≤ ns.length ∧ fopR wr fl ns [] d = fopR wr fl (ns.drop q.1) (q.2.1.map Sg.sp) q.2.2 ∧ (∀ s ∈ q.2.1, s.size ≤ 4000000000000000000 ∧ s.x.es.length ≤ 1000000000) ∧ (∀ s ∈ q.2.1, ∀ e ∈ s.x.es, e.right = 0) ∧ q.2.1.length ≤ q.1 ∧ ∃ g', Hl.le g2 g' ∧ Sat W w g' (feed b db ⟨wr, cap, fl, tm, q.2.1, false⟩ :: disk db q.2.2 :: H)) ns.length (0, [], d) ⟨rfl, Nat.zero_le _, rfl, (fun s hs => by cases hs), (fun s hs => by cases hs), Nat.zero_le _, g2, Hl.le_refl _, hs⟩ ?_
    clear hs
    rintro gk ⟨i, L, d1⟩ w4 ⟨rfl, hi, hT, hsm1, hrt1, hLi, g4, hg4, hs⟩
    simp only at hi hT hsm1 hrt1 hLi hs ⊢
    replace hT := Lib.hid hT
    have hgg := hg2.trans hg4
    refine go ?_
    refine C.cond_dec (p := (i : Int) < ns.length) rfl (fun h => ?_) (fun h => ?_)
    rotate_left
    · obtain rfl : i = ns.length := by omega
      have hT2 := hT.out
      rw [List.drop_length] at hT2
      replace hT2 := Lib.hid hT2
      refine go ?_
      refine A.mt () ⟨L, g4, hgg, ?_, ?_, hrt1, ?_⟩
      · rw [hT2.out]; rfl
      · rw [hT2.out]; rfl
      · rw [hT2.out]; exact hs
    have hil : i < ns.length := by omega
    have hdr : ns.drop i = ns[i] :: ns.drop (i + 1) := List.drop_eq_getElem_cons hil
    have hnlt := hlt ns[i] (List.getElem_mem hil)
    have hlast : (ns.drop (i + 1)).isEmpty = decide ((i : Int) = (ns.length : Int) - 1) := by
      rw [Bool.eq_iff_iff, List.isEmpty_iff, List.drop_eq_nil_iff, decide_eq_true_eq]
      omega
    have hT2 := hT.out
    rw [hdr] at hT2
    rw [fopR, hlast] at hT2
    obtain ⟨q, hq⟩ : ∃ q, q = fopS wr fl (decide ((i : Int) = (ns.length : Int) - 1)) ns[i] (L.map Sg.sp) d1 := ⟨_, rfl⟩
    rw [← hq] at hT2
    replace hT2 := Lib.hid hT2
    replace hq := Lib.hid hq
    replace hlast := Lib.hid hlast
    refine go ?_
    refine E.ix el_strs hs (hpn.mono hg4) i (v := str (nameB wr ns[i])) (by simp [hil]) ?_
    intro b5 o5 hc5
    generalize ns[i] = n at hnlt hq hc5
    refine go ?_
    have hfew := opn_few (disk_ok hs.swap) hwr hnlt
    refine E.callf Tryz.func207 rfl ?_
    refine sgOpen_one (i := wr) (n := n) (hg.mono hgg) hwr hnlt hs.swap ?_
    intro s w5 g5 hg5 hxo hsp hswr hsf hright hs
    replace hq := hq.out
    unfold fopS at hq
    rw [← hsp] at hq
    rw [← hsp] at hfew
    have hss : s.x.es.length ≤ 1000000000 := by
      have := hfew.1
      simpa [Sg.sp] using this
    have hsz : s.size ≤ 4000000000000000000 := hfew.2
    clear hfew hsp
    generalize opR (d1.opn wr n).1 = er at hq hswr ⊢
    generalize (d1.opn wr n).2 = d2 at hq hs
    replace hq := Lib.hid hq
    refine go ?_
    refine E.al hs ?_
    intro b16 w6 hs
    refine E.sto (vs := s.cs) (ys := s.cs) hs ?_ (hv := rfl) (hsp := rfl)
    intro w7 hs
    refine go ?_
    by_cases he7 : er = 7
    · have hq2 := hq.out
      rw [if_pos he7] at hq2
      have hT3 := hT2.out
      rw [hq2, if_pos (by simp)] at hT3
      refine C.cond rfl (fun _ => ?_) (fun h => by rw [decide_eq_true he7] at h; cases h)
      have key := HE.out w7 g5 (hgg.trans hg5)
      rw [hT3] at key
      clear hT3 hq2
      subst he7
      refine go ?_
      refine A.r2 ?_
      exact key (by simp) hs.drop.swap.drop
    refine C.cond rfl (fun h => by rw [decide_eq_false he7] at h; cases h) (fun _ => ?_)
    replace hq := hq.out
    rw [if_neg he7] at hq
    replace hq := Lib.hid hq
    refine go ?_
    generalize hlb : decide ((i : Int) = (ns.length : Int) - 1) = lastB at hq ⊢
    generalize hfo : folP fl (L.map Sg.sp) s.sp = fo
    have hsn := Sg.sp_next s
    refine C.cut (fun _ : Unit => [(0, ptr db), (3, .int .u64 fl), (12, ptr b), (13, .slice a ns.length c), (15, str (nameB wr n)), (16, ptr b16), (17, .int .i64 er), (18, .bool lastB), (19, .bool fo), (38, .slice a ns.length c), (39, .int .i64 ns.length), (40, .int .i64 i)]) (fun _ w => Sat W w g5 (blk b16 s.cs 157 :: feed b db ⟨wr, cap, fl, tm, L, false⟩ :: disk db d2 :: H)) ?_ ?_
    · replace hs := hs.pull2.swap
      obtain ⟨a1, c1, hok, hs⟩ := feed_open hs.swap
      cases hL : L with
      | nil =>
        subst hL
        refine C.held2 b16 b hs ?_
        intro w8 hk hs
        refine goh ?_
        cases hv : decide ((s.first : Int) ≤ (fl + 1 : Nat)) with
        | true =>
          obtain rfl : fo = true := by rw [← hfo]; have := of_decide_eq_true hv; exact decide_eq_true (show s.first ≤ fl + 1 by omega)
          refine goh ?_
          refine EH.done ?_
          exact A.mt () (feed_close hok hs).swap
        | false =>
          obtain rfl : fo = false := by rw [← hfo]; have := of_decide_eq_false hv; exact decide_eq_false (show ¬ s.first ≤ fl + 1 by omega)
          refine goh ?_
          refine EH.done ?_
          exact A.mt () (feed_close hok hs).swap
      | cons x r =>
        subst hL
        have hnx := Fe.next_sp ⟨wr, cap, fl, tm, x :: r, false⟩
        have hrl : r.length ≤ 1000000000 := by
          simp only [List.length_cons] at hLi
          omega
        replace hnx := Lib.hid hnx
        refine C.held2 b16 b hs ?_
        intro w8 hk hs
        refine goh ?_
        rw [decide_eq_false (show ¬ ((r.length : Int) + 1 = 0) by omega)]
        refine goh ?_
        rw [decide_eq_true (show (0 : Int) < (r.length : Int) + 1 by omega)]
        refine goh ?_
        refine EH.one (St.guard rfl rfl (St.callf Tryz.func50 rfl ?_))
        refine fnext_raw (f := ⟨wr, cap, fl, tm, x :: r, false⟩) hsm1 hok hs ?_
        intro w9 hs
        refine kept2 hs (fun hk => ?_) (Hl.le_refl _)
        refine goh ?_
        cases hv : decide ((s.first : Int) = (Fe.next ⟨wr, cap, fl, tm, x :: r, false⟩ : Nat)) with
        | true =>
          obtain rfl : fo = true := by
            rw [← hfo]
            have := of_decide_eq_true hv
            refine decide_eq_true (show s.first = nextP fl (List.map Sg.sp (x :: r)) from ?_)
            have := hnx.out
            simp only at this
            omega
          refine goh ?_
          refine EH.done ?_
          exact A.mt () (feed_close hok hs).swap
        | false =>
          obtain rfl : fo = false := by
            rw [← hfo]
            have := of_decide_eq_false hv
            refine decide_eq_false (show ¬ s.first = nextP fl (List.map Sg.sp (x :: r)) from ?_)
            have := hnx.out
            simp only at this
            omega
          refine goh ?_
          refine EH.done ?_
          exact A.mt () (feed_close hok hs).swap
    clear hs
    rintro _ w10 hs
    have hq1 := hq.out
    unfold keepP at hq1
    rw [hfo, hsn] at hq1
    replace hq := Lib.hid hq1
    clear hq1
    replace hfo := Lib.hid hfo
    replace hsn := Lib.hid hsn
    replace hlb := Lib.hid hlb
    apply laterE (α := Unit) (f := fun _ => [(0, ptr db), (3, .int .u64 fl), (12, ptr b), (13, .slice a ns.length c), (38, .slice a ns.length c), (39, .int .i64 ns.length), (40, .int .i64 i), (110, ptr db), (111, str (nameB wr n))]) (M := fun _ w => q = ((d2.remove (nameB wr n)).1, L.map Sg.sp, (d2.remove (nameB wr n)).2) ∧ Sat W w g5 (blk b16 s.cs 157 :: feed b db ⟨wr, cap, fl, tm, L, false⟩ :: disk db d2 :: H))
    · intro keyR
      apply later (α := Unit) (f := fun _ => [(0, ptr db), (3, .int .u64 fl), (12, ptr b), (13, .slice a ns.length c), (16, ptr b16), (38, .slice a ns.length c), (39, .int .i64 ns.length), (40, .int .i64 i)]) (M := fun _ w => q = (0, L.map Sg.sp ++ [s.sp], d2) ∧ s.wr = wr ∧ Sat W w g5 (blk b16 s.cs 157 :: feed b db ⟨wr, cap, fl, tm, L, false⟩ :: disk db d2 :: H))
      · intro keyK
        by_cases he0 : er = 0
        · have hdd : (!decide (er = 0)) = false := by simp [he0]
          have hw := hswr he0
          replace hdd := Lib.hid hdd
          replace hw := Lib.hid hw
          cases fo with
          | false =>
            have hrm : q = ((d2.remove (nameB wr n)).1, L.map Sg.sp, (d2.remove (nameB wr n)).2) := by
              rw [hq.out, if_neg (by simp)]
            replace hrm := Lib.hid hrm
            clear he0
            refine go ?_
            rw [hdd.out]
            refine go ?_
            exact E.forget wk_ (keyR () _ ⟨hrm.out, hs⟩)
          | true =>
          have hde : decide (er = 0) = true := decide_eq_true he0
          replace hde := Lib.hid hde
          clear he0
          refine go ?_
          rw [hdd.out]
          refine go ?_
          refine E.callf Tryz.func105 rfl ?_
          refine sgNext_any (s := s) hsf hss hs ?_
          intro w11 hs
          refine go ?_
          cases hA : decide (((s.next : Nat) : Int) ≤ (fl + 1 : Nat)) with
          | false =>
            have hA2 : decide (s.next ≤ fl + 1) = false := by have := of_decide_eq_false hA; exact decide_eq_false (by omega)
            have hkp : q = (0, L.map Sg.sp ++ [s.sp], d2) := by
              rw [hq.out, if_pos (by rw [hde.out, hA2]; rfl)]
            replace hkp := Lib.hid hkp
            refine go ?_
            exact C.forget wk_ (keyK () _ ⟨hkp.out, hw.out, hs⟩)
          | true =>
          have hA2 : decide (s.next ≤ fl + 1) = true := by have := of_decide_eq_true hA; exact decide_eq_true (by omega)
          replace hA2 := Lib.hid hA2
          cases lastB with
          | false =>
            have hrm : q = ((d2.remove (nameB wr n)).1, L.map Sg.sp, (d2.remove (nameB wr n)).2) := by
              rw [hq.out, if_neg (by rw [hde.out, hA2.out]; simp)]
            replace hrm := Lib.hid hrm
            refine go ?_
            exact E.forget wk_ (keyR () _ ⟨hrm.out, hs⟩)
          | true =>
          have hxv : s.x.v = .slice s.x.a s.x.es.length s.x.c := rfl
          replace hxv := Lib.hid hxv
          have hes : s.sp.es.length = s.x.es.length := by simp [Sg.sp]
          replace hes := Lib.hid hes
          refine go ?_
          cases hB : decide ((0 : Int) < s.x.es.length) with
          | true =>
            have hrm : q = ((d2.remove (nameB wr n)).1, L.map Sg.sp, (d2.remove (nameB wr n)).2) := by
              have := of_decide_eq_true hB
              have h0 : decide (0 < s.sp.es.length) = true := decide_eq_true (by rw [hes.out]; omega)
              rw [hq.out, if_neg (by rw [hde.out, hA2.out, h0]; simp)]
            replace hrm := Lib.hid hrm
            refine go ?_
            exact E.forget wk_ (keyR () _ ⟨hrm.out, hs⟩)
          | false =>
            have hkp : q = (0, L.map Sg.sp ++ [s.sp], d2) := by
              have := of_decide_eq_false hB
              have h0 : decide (0 < s.sp.es.length) = false := decide_eq_false (by rw [hes.out]; omega)
              rw [hq.out, if_pos (by rw [hde.out, hA2.out, h0]; rfl)]
            replace hkp := Lib.hid hkp
            refine go ?_
            exact C.forget wk_ (keyK () _ ⟨hkp.out, hw.out, hs⟩)
        · have hdd : (!decide (er = 0)) = true := by simp [he0]
          have hrm : q = ((d2.remove (nameB wr n)).1, L.map Sg.sp, (d2.remove (nameB wr n)).2) := by
            rw [hq.out, if_neg (by simp [he0])]
          replace hdd := Lib.hid hdd
          replace hrm := Lib.hid hrm
          refine go ?_
          rw [hdd.out]
          refine go ?_
          exact E.forget wk_ (keyR () _ ⟨hrm.out, hs⟩)
      rintro _ w12 ⟨hqk, hsw, hs⟩
      have hT3 := hT2.out
      rw [hqk] at hT3
      simp only [ne_eq, not_true_eq_false, if_false] at hT3
      replace hT3 := Lib.hid hT3
      replace hqk := Lib.hid hqk
      obtain ⟨a1, c1, hok, hs⟩ := feed_open hs.swap
      have hLl : L.length ≤ 1000000000 := by omega
      refine C.heldN hs ?_
      intro w13 hs
      have hk : Keeps g5 [(b16, s.cs, 157), (b, (⟨wr, cap, fl, tm, L, false⟩ : Fe).cs db a1 c1, 155)] w13 := Keeps.of2 hs (Hl.le_refl _)
      refine EH.tail 1024 1024 1023 10 1 (Keeps g5 [(b16, s.cs, 157), (b, (⟨wr, cap, fl, tm, L, false⟩ : Fe).cs db a1 c1, 155)]) (fun _ _ => trivial) ?_
      refine goh ?_
      refine EH.bsle el_sg hs (cs := s.cs) rfl ?_
      intro b7 w14 hs
      refine kept2 hs (fun hk => ?_)
      refine goh ?_
      refine EH.appo (k := L.length) el_sg hs.pull2 (row_of_sg hs) ?_ (h1 := sg_one _)
      intro a8 c8 w15 hs
      refine kept2 hs (fun hk => ?_)
      refine goh ?_
      refine EH.done ?_
      refine A.mid ?_
      refine EH.sto (vs := [.slice a8 (L.length + 1) c8]) (ys := (⟨wr, cap, fl, tm, L ++ [s], false⟩ : Fe).cs db a8 c8) hs ?_ (hv := rfl) (hsp := by simp only [Fe.cs, List.length_append, List.length_singleton]; rfl)
      intro w16 hs
      refine ⟨trivial, ?_⟩
      refine EH.done ?_
      refine go ?_
      refine A.rd (ns.length - (i + 1)) (i + 1, L ++ [s], d2) ⟨rfl, by simp only; omega, ?_, ?_, ?_, by simp only [List.length_append, List.length_singleton]; omega, g5, hg4.trans hg5, ?_⟩
      · rw [hT3.out]
        simp
      · intro u hu
        rcases List.mem_append.1 hu with h | h
        · exact hsm1 u h
        · rw [List.mem_singleton.1 h]
          exact ⟨hsz, hss⟩
      · intro u hu
        rcases List.mem_append.1 hu with h | h
        · exact hrt1 u h
        · rw [List.mem_singleton.1 h]
          exact hright
      · refine feed_close (a := a8) (c := c8) ⟨hok.wr, hok.floor, hok.time, hok.cap, fun u hu => ?_⟩ ?_
        · rcases List.mem_append.1 hu with h | h
          · exact hok.l u h
          · rw [List.mem_singleton.1 h]
            exact ⟨hxo, hsw, hsf⟩
        · simp only [sgC_append, sgC_one, List.length_append, List.length_singleton]
          exact (hs.swap.drop.swap.pull2.drop)
    rintro _ w12 ⟨hqr, hs⟩
    have hT3 := hT2.out
    rw [hqr] at hT3
    simp only at hT3
    replace hT3 := Lib.hid hT3
    replace hqr := Lib.hid hqr
    refine E.callf Tryz.func158 rfl ?_
    refine remove_any hs.pull2 ?_
    intro w13 hs
    refine go ?_
    by_cases hz : (d2.remove (nameB wr n)).1 = 0
    · have hdd : (!decide ((d2.remove (nameB wr n)).1 = 0)) = false := by simp [hz]
      refine C.cond rfl (fun h => by rw [hdd] at h; cases h) (fun _ => ?_)
      clear hdd
      have hT4 := hT3.out
      rw [if_neg (by simp [hz])] at hT4
      replace hT4 := Lib.hid hT4
      replace hz := Lib.hid hz
      refine go ?_
      exact A.rd (ns.length - (i + 1)) (i + 1, L, (d2.remove (nameB wr n)).2) ⟨rfl, by simp only; omega, hT4.out, hsm1, hrt1, by simp only; omega, g5, hg4.trans hg5, hs.swap.drop.swap⟩
    · have hdd : (!decide ((d2.remove (nameB wr n)).1 = 0)) = true := by simp [hz]
      refine C.cond rfl (fun _ => ?_) (fun h => by rw [hdd] at h; cases h)
      clear hdd
      have hT4 := hT3.out
      rw [if_pos hz] at hT4
      have key := HE.out w13 g5 (hgg.trans hg5)
      rw [hT4] at key
      replace hT4 := Lib.hid hT4
      refine go ?_
      refine A.r2 ?_
      exact key hz hs.swap.drop.swap.drop
  clear hs
  rintro _ w9 ⟨l, g9, hg9, hz, hl, hrt, hs⟩
  replace hl := Lib.hid hl
  replace hz := Lib.hid hz
  refine go ?_
  refine A.r2 ?_
  exact HOK.out b l w9 g9 hg9 hz.out hl.out hrt hs
end Go.Proofs.YtfhmamkafancbaaGreatDoor

/-
  The references of layers 2 and 3: a number, a text, a sum, a record: they are the program's.
-/
namespace Go.Proofs.YtfhmamkafancbaaGreatDoor
open Go.RowKit
set_option linter.unusedVariables false
set_option linter.unusedSimpArgs false
theorem or128_add (n : Nat) : (n % 256) ||| 128 = 128 + n % 128 := by
  have : ∀ m : Fin 256, (m.val ||| 128) = 128 + m.val % 128 := by decide +kernel
  have h := this ⟨n % 256, Nat.mod_lt _ (by decide)⟩
  simp only at h
  rw [h]
  omega
set_option maxHeartbeats 1600000 in
set_option maxRecDepth 100000 in
theorem rlay_any {R : Ending → World → Prop} {W w : World} {g : Hl} {H : List HP} {D : Nat → Prop} {a : Option Addr} {m c n : Nat} {xs : List UInt8} (hs : Sat W w g H) (hrow : ∀ w', Sat W w' g H → Row 1 w' D (.slice a m c) m (bs xs)) (hx : xs.length = m) (hm : m ≤ 1000000000) (hn : n < 18446744073709551616)
    (hR : ∀ a' c' w', Sat W w' g (own 5 1 (.slice a' (xs ++ layN n).length c') (xs ++ layN n).length (bs (xs ++ layN n)) :: H) → R (.returned (.slice a' (xs ++ layN n).length c')) w') :
    Calls Tryz.prog 68 #[.slice a m c, .int .u64 n] w R := by
  have HR := Lib.hid hR
  clear hR
  have hten := layN_ten hn
  refine C.calls (args := [.slice a m c, .int .u64 n]) Tryz.func68 rfl rfl rfl ?_
  refine go ?_
  refine E.app el_u8 hs.nilOwn (hrow w hs) ?_
  intro a1 c1 w1 _ _ hs
  refine gob ?_
  refine C.block ?_
  refine C.lp (fun x : Nat × List UInt8 × Option Addr × Nat => [(1, .int .u64 x.1), (5, .slice x.2.2.1 x.2.1.length x.2.2.2)])
    (fun gk x w => gk = x.1 ∧ x.1 < 18446744073709551616 ∧ x.2.1 ++ layN x.1 = xs ++ layN n ∧ Sat W w g (own 5 1 (.slice x.2.2.1 x.2.1.length x.2.2.2) x.2.1.length (bs x.2.1) :: H)) n (n, xs, a1, c1)
    ⟨rfl, hn, rfl, by rw [hx]; simpa using hs⟩ ?_ (hw := by simp only [hx, Nat.zero_add]; exact wk_)
  clear hs
  rintro gk ⟨q, ys, a2, c2⟩ w2 ⟨hgk, hq, hys, hs⟩
  simp only at hgk hq hys hs ⊢
  have hlen : ys.length + (layN q).length = xs.length + (layN n).length := by
    have := congrArg List.length hys
    simpa using this
  refine go ?_
  refine C.cond_dec (p := (127 : Int) < q) rfl (fun hlt => ?_) (fun hlt => ?_)
  · have e : layN q = UInt8.ofNat (128 + q % 128) :: layN (q / 128) := by
      rw [layN_big (by omega), or128_add]
    rw [e] at hys hlen
    simp only [List.length_cons] at hlen
    refine go ?_
    refine E.bsl hs ?_
    intro b3 w3 hs
    refine E.app el_u8 hs.swap (hs.rowOf (size := 1) 1 rfl (by decide)) ?_
    intro a4 c4 w4 _ _ hs
    refine go ?_
    refine A.rd (q / 128) (q / 128, ys ++ [UInt8.ofNat (128 + q % 128)], a4, c4) ⟨rfl, by simp only; omega, by simpa using hys, ?_⟩ (hw := ?_)
    · have h8 : (UInt8.ofNat (128 + q % 128)).toNat = 128 + q % 128 := by simp; omega
      have e2 : bs (ys ++ [UInt8.ofNat (128 + q % 128)]) = bs ys ++ [.int .u8 ((128 + q % 128 : Nat) : Int)] := by rw [bs_append]; simp only [bs, List.map_cons, List.map_nil, h8]
      simp only [e2, List.length_append, List.length_cons, List.length_nil]
      exact hs.swap.drop
    · simp only [List.length_append, List.length_cons, List.length_nil]
      exact wk_
  · have e : layN q = [UInt8.ofNat q] := layN_small (by omega)
    rw [e] at hys hlen
    simp only [List.length_cons, List.length_nil] at hlen
    refine go ?_
    refine E.bsl hs ?_
    intro b3 w3 hs
    refine E.app el_u8 hs.swap (hs.rowOf (size := 1) 1 rfl (by decide)) ?_
    intro a4 c4 w4 _ _ hs
    refine go ?_
    refine A.r1 ?_
    rw [← hys] at HR
    have key := HR.out a4 c4 w4
    have h8 : (UInt8.ofNat q).toNat = q := by simp; omega
    have e2 : bs (ys ++ [UInt8.ofNat q]) = bs ys ++ [.int .u8 (q : Int)] := by rw [bs_append]; simp only [bs, List.map_cons, List.map_nil, h8]
    simp only [e2, List.length_append, List.length_cons, List.length_nil, Nat.zero_add] at key
    exact key hs.swap.drop
end Go.Proofs.YtfhmamkafancbaaGreatDoor

/-
  The references of layers 1 and 2: a quantity's bits; a text, a number in eight bytes, behind some bytes.
-/
namespace Go.Proofs.YtfhmamkafancbaaGreatDoor
open Go.RowKit
set_option linter.unusedVariables false
set_option linter.unusedSimpArgs false
theorem own_row {W w : World} {g : Hl} {H : List HP} {E : TypeId} {size n : Nat} {v : Value} {xs : List Value} (hs : Sat W w g (own E size v n xs :: H)) : Row size w (fun _ => True) v n xs := Row.of_owns hs.owns fun _ _ => trivial
set_option maxHeartbeats 1600000 in
set_option maxRecDepth 100000 in
theorem void_any {R : Ending → World → Prop} {w : World} {b : Nat} (hR : R (.returned (.bool (nanF b))) w) : Calls Tryz.prog 132 #[.float .f64 b] w R := by
  have HR := Lib.hid hR
  clear hR
  refine C.calls (args := [.float .f64 b]) Tryz.func132 rfl rfl rfl ?_
  refine go ?_
  refine A.r1 ?_
  exact HR.out
set_option maxHeartbeats 1600000 in
set_option maxRecDepth 100000 in
theorem rbits_any {R : Ending → World → Prop} {w : World} {b : Nat} (hR : R (.returned (.int .u64 (bitsF b))) w) : Calls Tryz.prog 72 #[.float .f64 b] w R := by
  have HR := Lib.hid hR
  clear hR
  refine C.calls (args := [.float .f64 b]) Tryz.func72 rfl rfl rfl ?_
  refine go ?_
  refine E.callf Tryz.func132 rfl ?_
  refine void_any ?_
  refine go ?_
  cases hn : nanF b with
  | true =>
    refine go ?_
    refine A.r1 ?_
    simpa [bitsF, hn] using HR.out
  | false =>
    refine go ?_
    refine E.ext (v := .int .u64 b) (w' := w) Tryz.func133 (ex := Extern.MathFloatBits.float64bits) rfl ?_
    refine go ?_
    refine A.r1 ?_
    simpa [bitsF, hn] using HR.out
set_option maxHeartbeats 1600000 in
set_option maxRecDepth 100000 in
theorem rtextV_any {R : Ending → World → Prop} {W w : World} {g : Hl} {H : List HP} {a : Option Addr} {u : Value} {m c k : Nat} {xs t : List UInt8} (hs : Sat W w g (own 5 1 (.slice a m c) m (bs xs) :: H)) (hx : xs.length = m) (hm : m ≤ 500000000) (hp : Pr 1 g u k (bs t)) (ht : t.length = k) (hk : k ≤ 400000000)
    (hR : ∀ a' c' w', Sat W w' g (own 5 1 (.slice a' (xs ++ textB t).length c') (xs ++ textB t).length (bs (xs ++ textB t)) :: H) → R (.returned (.slice a' (xs ++ textB t).length c')) w') :
    Calls Tryz.prog 71 #[.slice a m c, u] w R := by
  have HR := Lib.hid hR
  clear hR
  obtain ⟨a1, c1, rfl, _, _⟩ := hp.len
  have hten := layN_ten (n := k) (by omega)
  refine C.calls (args := [.slice a m c, .slice a1 k c1]) Tryz.func71 rfl rfl rfl ?_
  refine go ?_
  refine E.callf Tryz.func68 rfl ?_
  refine rlay_any hs (fun w' h => own_row h) hx (by omega) (by omega) ?_
  intro a2 c2 w2 hs
  have hl2 : (xs ++ layN k).length = m + (layN k).length := by simp [hx]
  refine go ?_
  refine E.app el_u8 hs (hp.row hs) ?_
  intro a3 c3 w3 _ _ hs
  refine go ?_
  refine A.r1 ?_
  have e1 : (xs ++ layN k).length + k = (xs ++ textB t).length := by simp [textB, ht]; omega
  have e2 : bs (xs ++ layN k) ++ bs t = bs (xs ++ textB t) := by rw [← bs_append]; simp [textB, ht]
  rw [e1, e2] at hs
  rw [e1]
  exact HR.out _ _ _ hs.swap.drop
set_option maxHeartbeats 1600000 in
set_option maxRecDepth 100000 in
theorem rfixed_any {R : Ending → World → Prop} {W w : World} {g : Hl} {H : List HP} {a : Option Addr} {m c n : Nat} {xs : List UInt8} (hs : Sat W w g (own 5 1 (.slice a m c) m (bs xs) :: H)) (hx : xs.length = m) (hm : m ≤ 1000000000) (hn : n < 18446744073709551616)
    (hR : ∀ a' c' w', Sat W w' g (own 5 1 (.slice a' (xs ++ fixB n).length c') (xs ++ fixB n).length (bs (xs ++ fixB n)) :: H) → R (.returned (.slice a' (xs ++ fixB n).length c')) w') :
    Calls Tryz.prog 69 #[.slice a m c, .int .u64 n] w R := by
  have HR := Lib.hid hR
  clear hR
  refine C.calls (args := [.slice a m c, .int .u64 n]) Tryz.func69 rfl rfl rfl ?_
  refine go ?_
  refine E.app el_u8 hs.nilOwn (own_row hs) ?_
  intro a1 c1 w1 _ _ hs
  simp only [Nat.zero_add, List.nil_append] at hs ⊢
  refine gob ?_
  refine C.block ?_
  refine C.lp (fun x : Nat × Nat × Option Addr × Nat × List UInt8 => [(1, .int .u64 n), (5, .slice x.2.2.1 x.2.1 x.2.2.2.1), (6, .int .i64 x.1)])
    (fun gk x w => gk = 8 - x.1 ∧ x.1 ≤ 8 ∧ x.2.1 = m + x.1 ∧ x.2.2.2.2.length = x.2.1 ∧ x.2.2.2.2 ++ fixG (8 - x.1) n = xs ++ fixB n ∧ Sat W w g (own 5 1 (.slice x.2.2.1 x.2.1 x.2.2.2.1) x.2.1 (bs x.2.2.2.2) :: H)) 8 (0, m, a1, c1, xs) ⟨rfl, by omega, rfl, hx, rfl, hs.swap.drop⟩ ?_
  clear hs
  rintro gk ⟨i, k1, a2, c2, ys⟩ w2 ⟨hgk, hi, hk1, hyl, hy, hs⟩
  simp only at hgk hi hk1 hyl hy hs ⊢
  refine go ?_
  refine C.cond_dec (p := (i : Int) < 8) rfl (fun h => ?_) (fun h => ?_)
  · have ej : (56 : Int) - 8 * (i : Int) = ((8 * (7 - i) : Nat) : Int) := by omega
    have e8 : fixG (8 - i) n = UInt8.ofNat (n / 2 ^ (8 * (7 - i))) :: fixG (8 - (i + 1)) n := by
      rw [show 8 - i = (7 - i) + 1 by omega]
      simp only [fixG]
      rw [show 7 - i = 8 - (i + 1) by omega]
    refine go ?_
    rw [ej]
    refine go ?_
    refine E.bsl hs ?_
    intro b2 w2 hs
    refine E.app el_u8 hs.swap (hs.rowOf (size := 1) 1 rfl (by decide)) ?_
    intro a3 c3 w3 _ _ hs
    refine go ?_
    refine A.rd (8 - (i + 1)) (i + 1, k1 + 1, a3, c3, ys ++ [UInt8.ofNat (n / 2 ^ (8 * (7 - i)))]) ⟨rfl, by omega, by simp only; omega, by simp [hyl], ?_, ?_⟩
    · simp only
      rw [← hy, e8]
      simp
    · simp only [bs_append]
      have e9 : bs [UInt8.ofNat (n / 2 ^ (8 * (7 - i)))] = [.int .u8 ((n / 2 ^ (8 * (7 - i)) % 256 : Nat))] := by simp [bs]
      rw [e9]
      exact hs.swap.drop
  · refine go ?_
    refine A.r1 ?_
    obtain rfl : i = 8 := by omega
    simp only [Nat.sub_self, fixG, List.append_nil] at hy
    subst hy
    rw [← hyl] at hs ⊢
    exact HR.out _ _ _ hs
end Go.Proofs.YtfhmamkafancbaaGreatDoor

/-
  The reference of layer 6: places, and events as bytes: they are the program's.
-/
namespace Go.Proofs.YtfhmamkafancbaaGreatDoor
open Go.RowKit
set_option linter.unusedVariables false
set_option linter.unusedSimpArgs false
set_option maxHeartbeats 3200000 in
set_option maxRecDepth 100000 in
theorem rencode_any {R : Ending → World → Prop} {W w : World} {g : Hl} {H : List HP} {e : Ev} (ho : e.ok g) (hwr : 0 ≤ e.wr) (hk1 : 1 ≤ e.kd) (hnd : e.kd = 5 → 0 ≤ e.nd) (hs : Sat W w g H)
    (hR : ∀ a' c' w' g', Hl.le g g' → Sat W w' g' (own 5 1 (.slice a' e.enc.length c') e.enc.length (bs e.enc) :: H) → R (.returned (.slice a' e.enc.length c')) w') :
    Calls Tryz.prog 55 #[e.val] w R := by
  have HR := Lib.hid hR
  clear hR
  obtain ⟨a, c, etv, hnc, _⟩ := ho.tv.len
  have hkd := ho.kd
  have hsq := ho.sq
  have htm := ho.tm
  have h1 := ho.wr
  have h2 := ho.nd
  have h3 := ho.key
  have h4 := ho.text
  have h5 := ho.tv
  have h6 := ho.num
  clear ho
  obtain ⟨wr, sq, tm, kd, key, text, num, nd, tv⟩ := e
  simp only at etv hkd hsq htm h1 h2 h3 h4 h5 h6 hwr hnd hk1
  simp only [Ev.val, Ev.cs]
  subst etv
  obtain ⟨wr, rfl⟩ := Int.eq_ofNat_of_zero_le hwr
  have l1 := layN_ten (n := wr) (by omega)
  have l2 := layN_ten (n := sq) (by omega)
  have l3 := layN_ten (n := tm) (by omega)
  have m1 : (layN wr ++ layN sq).length ≤ 20 := by rw [List.length_append]; omega
  refine C.calls (args := [.agg #[.int .i64 wr, .int .u64 sq, .int .u64 tm, .int .u8 kd, .string ⟨key.toArray⟩, .slice a text.length c, .float .f64 num, .int .i64 nd]]) Tryz.func55 rfl rfl rfl ?_
  refine go ?_
  refine E.bx hs ?_
  intro b1 w1 hs
  refine go ?_
  have e8 : (UInt8.ofNat kd).toNat = kd := by simp; omega
  refine C.cut (fun x : Option Addr × Nat => [(1, .pointer (some ⟨b1, 0, none⟩)), (3, .slice x.1 (layN wr ++ layN sq ++ layN tm).length x.2)])
    (fun x w => Sat W w g (own 5 1 (.slice x.1 (layN wr ++ layN sq ++ layN tm).length x.2) (layN wr ++ layN sq ++ layN tm).length (bs (layN wr ++ layN sq ++ layN tm)) :: blk b1 [.int .i64 wr, .int .u64 sq, .int .u64 tm, .int .u8 kd, .string ⟨key.toArray⟩, .slice a text.length c, .float .f64 num, .int .i64 nd] 26 :: H)) ?_ ?_
  · refine C.held1 b1 hs ?_
    intro w hk hs
    refine goh ?_
    refine EH.one (St.callf Tryz.func68 rfl ?_)
    refine rlay_any (xs := []) hs (fun w' _ => Row.nil w' fun _ => True) rfl (by omega) (by omega) ?_
    intro a2 c2 w2 hs
    simp only [List.nil_append] at hs ⊢
    refine kept1 hs (fun hk => ?_)
    refine goh ?_
    refine EH.one (St.callf Tryz.func68 rfl ?_)
    refine rlay_any hs (fun w' h => own_row h) rfl (by omega) (by omega) ?_
    intro a3 c3 w3 hs
    replace hs := hs.swap.drop
    refine kept1 hs (fun hk => ?_)
    refine goh ?_
    refine EH.one (St.callf Tryz.func68 rfl ?_)
    refine rlay_any hs (fun w' h => own_row h) rfl (by omega) (by omega) ?_
    intro a4 c4 w4 hs
    replace hs := hs.swap.drop
    refine kept1 hs (fun hk => ?_)
    refine goh ?_
    refine EH.done ?_
    exact A.mt (a4, c4) hs
  clear hs
  rintro ⟨a2, c2⟩ w2 hs
  simp only at hs ⊢
  have lA0 : (layN wr ++ layN sq ++ layN tm).length ≤ 30 := by
    simp only [List.length_append]; omega
  refine go ?_
  refine E.bsl hs ?_
  intro b3 w3 hs
  refine E.app el_u8 hs.swap (hs.rowOf (size := 1) 1 rfl (by decide)) ?_
  intro a4 c4 w4 _ _ hs
  replace hs := hs.swap.drop
  have eA : bs (layN wr ++ layN sq ++ layN tm) ++ [.int .u8 (kd : Nat)] = bs (layN wr ++ layN sq ++ layN tm ++ [UInt8.ofNat kd]) := by simp [bs, e8]
  have eL : (layN wr ++ layN sq ++ layN tm).length + 1 = (layN wr ++ layN sq ++ layN tm ++ [UInt8.ofNat kd]).length := by simp [Nat.add_assoc]
  rw [eA, eL] at hs
  rw [eL]
  have lA : (layN wr ++ layN sq ++ layN tm ++ [UInt8.ofNat kd]).length ≤ 31 := by
    rw [← eL]; omega
  have hR2 : ∀ (B : List UInt8), layN wr ++ layN sq ++ layN tm ++ [UInt8.ofNat kd] ++ B = Ev.enc ⟨wr, sq, tm, kd, key, text, num, nd, .slice a text.length c⟩ → ∀ a' c' w' g', Hl.le g g' → Sat W w' g' (own 5 1 (.slice a' (layN wr ++ layN sq ++ layN tm ++ [UInt8.ofNat kd] ++ B).length c') (layN wr ++ layN sq ++ layN tm ++ [UInt8.ofNat kd] ++ B).length (bs (layN wr ++ layN sq ++ layN tm ++ [UInt8.ofNat kd] ++ B)) :: H) → R (.returned (.slice a' (layN wr ++ layN sq ++ layN tm ++ [UInt8.ofNat kd] ++ B).length c')) w' := fun B hB a' c' w' g' hg' hs' => by
    rw [hB] at hs' ⊢
    exact HR.out _ _ _ _ hg' hs'
  clear HR eA eL
  simp only [Ev.enc, Ev.keyB, Ev.restB, Int.toNat_natCast] at hR2
  generalize hAA : layN wr ++ layN sq ++ layN tm ++ [UInt8.ofNat kd] = A1 at lA hR2 hs ⊢
  clear hAA
  have h3b : key.length ≤ 1000000000 := by omega
  have hkey := textB_len key (by omega)
  have htext := textB_len text (by omega)
  have lk : (A1 ++ textB key).length ≤ 200000000 := by rw [List.length_append]; omega
  have hcases : kd = 1 ∨ kd = 2 ∨ kd = 3 ∨ kd = 4 ∨ kd = 5 ∨ 5 < kd := by omega
  rcases hcases with hq | hq | hq | hq | hq | hq
  · subst hq
    simp only [show (1 ≤ 1 ∧ 1 ≤ 4) = True by simp, if_true] at hR2
    have HR2 := Lib.hid hR2
    clear hR2
    refine go ?_
    refine E.bytes Tryz.underlying9 Tryz.underlying23 Tryz.underlying5 hs h3b ?_
    intro b5 c5 w3 g3 hg3 hs hp5
    refine go ?_
    refine E.callf Tryz.func71 rfl ?_
    refine rtextV_any hs rfl (by omega) hp5 rfl (by omega) ?_
    intro a4 c4 w4 hs
    refine go ?_
    refine E.callf Tryz.func71 rfl ?_
    refine rtextV_any hs rfl (by omega) (h5.mono hg3) rfl (by omega) ?_
    intro a6 c6 w6 hs
    refine go ?_
    refine A.r1 ?_
    rw [List.append_assoc A1] at hs ⊢
    exact HR2.out (textB key ++ textB text) (by simp) _ _ _ _ hg3 hs.swap.drop
  · subst hq
    simp only [show (1 ≤ 2 ∧ 2 ≤ 4) = True by simp, if_true] at hR2
    have HR2 := Lib.hid hR2
    clear hR2
    refine go ?_
    refine E.bytes Tryz.underlying9 Tryz.underlying23 Tryz.underlying5 hs h3b ?_
    intro b5 c5 w3 g3 hg3 hs hp5
    refine go ?_
    refine E.callf Tryz.func71 rfl ?_
    refine rtextV_any hs rfl (by omega) hp5 rfl (by omega) ?_
    intro a4 c4 w4 hs
    refine go ?_
    refine E.callf Tryz.func72 rfl ?_
    refine rbits_any ?_
    refine E.callf Tryz.func69 rfl ?_
    refine rfixed_any hs rfl (by omega) (bitsF_lt h6) ?_
    intro a6 c6 w6 hs
    refine go ?_
    refine A.r1 ?_
    rw [List.append_assoc A1] at hs ⊢
    exact HR2.out (textB key ++ fixB (bitsF num)) (by simp) _ _ _ _ hg3 hs.swap.drop
  · subst hq
    simp only [show (1 ≤ 3 ∧ 3 ≤ 4) = True by simp, if_true] at hR2
    have HR2 := Lib.hid hR2
    clear hR2
    refine go ?_
    refine E.bytes Tryz.underlying9 Tryz.underlying23 Tryz.underlying5 hs h3b ?_
    intro b5 c5 w3 g3 hg3 hs hp5
    refine go ?_
    refine E.callf Tryz.func71 rfl ?_
    refine rtextV_any hs rfl (by omega) hp5 rfl (by omega) ?_
    intro a4 c4 w4 hs
    refine go ?_
    refine E.callf Tryz.func72 rfl ?_
    refine rbits_any ?_
    refine E.callf Tryz.func69 rfl ?_
    refine rfixed_any hs rfl (by omega) (bitsF_lt h6) ?_
    intro a6 c6 w6 hs
    refine go ?_
    refine A.r1 ?_
    rw [List.append_assoc A1] at hs ⊢
    exact HR2.out (textB key ++ fixB (bitsF num)) (by simp) _ _ _ _ hg3 hs.swap.drop
  · subst hq
    simp only [show (1 ≤ 4 ∧ 4 ≤ 4) = True by simp, if_true] at hR2
    have HR2 := Lib.hid hR2
    clear hR2
    refine go ?_
    refine E.bytes Tryz.underlying9 Tryz.underlying23 Tryz.underlying5 hs h3b ?_
    intro b5 c5 w3 g3 hg3 hs hp5
    refine go ?_
    refine E.callf Tryz.func71 rfl ?_
    refine rtextV_any hs rfl (by omega) hp5 rfl (by omega) ?_
    intro a4 c4 w4 hs
    refine go ?_
    refine A.r1 ?_
    exact HR2.out (textB key) (by simp) _ _ _ _ hg3 hs.swap.drop
  · subst hq
    obtain ⟨nd, rfl⟩ := Int.eq_ofNat_of_zero_le (hnd rfl)
    simp only [show (1 ≤ 5 ∧ 5 ≤ 4) = False by simp, if_false, Int.toNat_natCast] at hR2
    have HR2 := Lib.hid hR2
    clear hR2
    refine go ?_
    refine E.callf Tryz.func68 rfl ?_
    refine rlay_any hs (fun w' h => own_row h) rfl (by omega) (by omega) ?_
    intro a6 c6 w6 hs
    refine go ?_
    refine A.r1 ?_
    exact HR2.out (layN nd) (by simp) _ _ _ _ (Hl.le_refl _) (hs.swap.drop.swap.drop)
  · refine go ?_
    rw [show decide ((kd : Int) ≤ 4) = false from decide_eq_false (by omega)]
    refine go ?_
    rw [show decide ((kd : Int) = 1) = false from decide_eq_false (by omega)]
    refine go ?_
    rw [show decide ((kd : Int) = 2) = false from decide_eq_false (by omega)]
    refine go ?_
    rw [show decide ((kd : Int) = 3) = false from decide_eq_false (by omega)]
    refine go ?_
    rw [show decide ((kd : Int) = 5) = false from decide_eq_false (by omega)]
    refine go ?_
    refine A.r1 ?_
    have k1 : ¬ (1 ≤ kd ∧ kd ≤ 4) := by omega
    have k2 : ¬ kd = 1 := by omega
    have k3 : ¬ (kd = 2 ∨ kd = 3) := by omega
    have k4 : ¬ kd = 5 := by omega
    simp only [k1, k2, k3, k4, if_false] at hR2
    have := hR2 [] (by simp) a4 c4 w4 g (Hl.le_refl _)
    rw [List.append_nil] at this
    exact this hs.swap.drop
end Go.Proofs.YtfhmamkafancbaaGreatDoor

/-
  The reference of layer 12: events sorted; all events of some lists.
-/
namespace Go.Proofs.YtfhmamkafancbaaGreatDoor
open Go.RowKit
set_option linter.unusedVariables false
set_option linter.unusedSimpArgs false
end Go.Proofs.YtfhmamkafancbaaGreatDoor

/-
  The reference of layer 12: events of three writers, from numbers.
-/
namespace Go.Proofs.YtfhmamkafancbaaGreatDoor
open Go.RowKit
set_option linter.unusedVariables false
set_option linter.unusedSimpArgs false
/-- A writer's event, from numbers. -/
structure Ev.fine (e : Ev) (g : Hl) (w : Nat) (last : Nat) : Prop where
  ok : e.ok g
  wr : e.wr = w
  kd : 1 ≤ e.kd ∧ e.kd ≤ 4
  key : e.key.length = 1
  text : e.text.length ≤ 1
  nd : e.nd = 0
  tm : 1 ≤ e.tm ∧ e.tm ≤ last
theorem Ev.fine.mono {e : Ev} {g g' : Hl} {w l l' : Nat} (h : e.fine g w l) (hg : Hl.le g g') (hl : l ≤ l') : e.fine g' w l' := ⟨h.ok.mono hg, h.wr, h.kd, h.key, h.text, h.nd, h.tm.1, by have := h.tm.2; omega⟩
structure Feed (g : Hl) (w : Nat) (es : List Ev) (last : Nat) : Prop where
  evs : ∀ e ∈ es, e.fine g w last
  sq : ∀ q (h : q < es.length), es[q].sq = q + 1
  up : es.Pairwise fun a b => a.tm < b.tm
theorem Feed.mono {g g' : Hl} {w l : Nat} {es : List Ev} (h : Feed g w es l) (hg : Hl.le g g') : Feed g' w es l := ⟨fun e he => (h.evs e he).mono hg (Nat.le_refl _), h.sq, h.up⟩
theorem Feed.add {g g' : Hl} {w l l' : Nat} {es : List Ev} {e : Ev} (h : Feed g w es l) (hg : Hl.le g g') (hl : l < e.tm) (he : e.fine g' w l') (hll : l ≤ l') (hsq : e.sq = es.length + 1) : Feed g' w (es ++ [e]) l' := by
  refine ⟨fun x hx => ?_, fun q hq => ?_, ?_⟩
  · rcases List.mem_append.1 hx with hx | hx
    · exact (h.evs x hx).mono hg hll
    · simp only [List.mem_singleton] at hx; subst hx; exact he
  · rcases Nat.lt_or_ge q es.length with hlt | hge
    · rw [List.getElem_append_left hlt]; exact h.sq q hlt
    · have : q = es.length := by simp at hq; omega
      subst this
      simp [hsq]
  · refine List.pairwise_append.2 ⟨h.up, List.pairwise_singleton _ _, fun a ha b hb => ?_⟩
    simp only [List.mem_singleton] at hb
    subst hb
    have := (h.evs a ha).tm.2
    omega
section
variable {P : Program} {n : Fm} {ρ : List (Nat × Value)} {W w : World} {g : Hl} {H : List HP} {Q : Exit → Act → World → Prop} {ops : Array Oper} {rest : List Oper} {d : Option Tmp} {ty : TypeId} {ps : String} {af : Array Edge} {x y : Operand}
theorem E.fdiv {s s' : TypeId} {a b r : Nat} (hr : Ieee.double.div a b = some r) (h : E P n ops rest (pushv d (.float .f64 r) ρ) w Q)
    (hx : evo n ρ x = some (.float .f64 a) := by exact rfl) (hy : evo n ρ y = some (.float .f64 b) := by exact rfl) : E P n ops (⟨d, .binOp .quo s x y s', ty, ps, af, none⟩ :: rest) ρ w Q := by
  refine E.cons (St.val (v := .float .f64 r) (w' := w) (fun ac ha => ?_) h)
  have e0 : FloatKind.f64.format.div a b = some r := hr
  simp [execOp, ha.eval hx, ha.eval hy, eqGuard, binOp, Op.floatArith, e0]
end
theorem bsep_out {W w : World} {g : Hl} {H : List HP} {l1 l2 : List HP} {p : HP} (hs : Sat W w g (bsep (l1 ++ p :: l2) :: H)) : Sat W w g (p :: bsep (l1 ++ l2) :: H) := by
  have h1 := hs.bopen
  simp only [List.append_assoc, List.cons_append] at h1
  have h2 := h1.toFront
  rw [← List.append_assoc] at h2
  exact (Sat.bclose (l := l1 ++ l2) (h2.toBack)).swap
theorem bsep_in {W w : World} {g : Hl} {H : List HP} {l1 l2 : List HP} {p : HP} (hs : Sat W w g (p :: bsep (l1 ++ l2) :: H)) : Sat W w g (bsep (l1 ++ p :: l2) :: H) := by
  have h1 := hs.swap.bopen
  simp only [List.append_assoc] at h1
  apply Sat.bclose
  simp only [List.append_assoc, List.cons_append]
  refine h1.perm ?_
  refine List.Perm.append_left _ ?_
  exact List.perm_middle
end Go.Proofs.YtfhmamkafancbaaGreatDoor

/-
  Layer 14 (store): what a store is in memory.
-/
namespace Go.Proofs.YtfhmamkafancbaaGreatDoor
open Go.RowKit
set_option linter.unusedVariables false
set_option linter.unusedSimpArgs false
theorem ag_man : AggOf Tryz.prog 99 5 := ⟨_, Tryz.underlying99, rfl, by kernel_rfl⟩
/-- The struct's cells. -/
def stC (db : Nat) (sz : Int) (m : Mf) (a : Option Addr) (c bb : Nat) (fv : List Value) (ck : Nat) (jo re : List Bool) : List Value :=
  ptr db :: .int .i64 sz :: .int .i64 m.node :: .int .u64 m.serial :: .slice a m.floor.length c :: .int .u64 m.time :: str m.name :: ptr bb :: (fv ++ (.int .u64 ck :: (jo.map Value.bool ++ re.map Value.bool)))
section
variable {db : Nat} {sz : Int} {m : Mf} {a : Option Addr} {c bb : Nat} {fv : List Value} {ck : Nat} {jo re : List Bool}
theorem stC_len (h0 : fv.length = 64) (h1 : jo.length = 64) (h2 : re.length = 64) : (stC db sz m a c bb fv ck jo re).length = 201 := by simp [stC, h0, h1, h2]
theorem stC_fit (h0 : fv.length = 64) (h1 : jo.length = 64) (h2 : re.length = 64) {k : Nat} (h : k ≤ 201) : Nat.ble k (stC db sz m a c bb fv ck jo re).length = true := by
  rw [stC_len h0 h1 h2]
  rw [Nat.ble_eq]
  exact h
theorem stC_fv (h0 : fv.length = 64) {i : Nat} (h : i < 64) {v : Value} (hv : fv[i]? = some v) : (stC db sz m a c bb fv ck jo re)[8 + i]? = some v := by
  rw [stC, Nat.add_comm]
  simp only [List.getElem?_cons_succ]
  rw [List.getElem?_append_left (by omega), hv]
theorem stC_ck (h0 : fv.length = 64) : (stC db sz m a c bb fv ck jo re)[72]? = some (.int .u64 ck) := by
  simp only [stC, List.getElem?_cons_succ]
  rw [List.getElem?_append_right (by omega), h0]
  rfl
theorem stC_jo (h0 : fv.length = 64) (h1 : jo.length = 64) {i : Nat} (h : i < 64) : (stC db sz m a c bb fv ck jo re)[73 + i]? = some (.bool (jo.getD i false)) := by
  rw [stC, Nat.add_comm]
  simp only [List.getElem?_cons_succ]
  rw [show i + 65 = 64 + (1 + i) by omega, List.getElem?_append_right (by omega), h0, show 64 + (1 + i) - 64 = i + 1 by omega, List.getElem?_cons_succ, List.getElem?_append_left (by simpa [h1] using h), List.getElem?_map, List.getD_eq_getElem?_getD, List.getElem?_eq_getElem (by omega)]
  rfl
theorem stC_re (h0 : fv.length = 64) (h1 : jo.length = 64) (h2 : re.length = 64) {i : Nat} (h : i < 64) : (stC db sz m a c bb fv ck jo re)[137 + i]? = some (.bool (re.getD i false)) := by
  rw [stC, Nat.add_comm]
  simp only [List.getElem?_cons_succ]
  rw [show i + 129 = 64 + (65 + i) by omega, List.getElem?_append_right (by omega), h0, show 64 + (65 + i) - 64 = (64 + i) + 1 by omega, List.getElem?_cons_succ, List.getElem?_append_right (by simp [h1]), List.length_map, h1, show 64 + i - 64 = i by omega, List.getElem?_map, List.getD_eq_getElem?_getD, List.getElem?_eq_getElem (by omega)]
  rfl
theorem stC_setfv (h0 : fv.length = 64) {i : Nat} (h : i < 64) (v : Value) : spl (stC db sz m a c bb fv ck jo re) (8 + i) [v] = stC db sz m a c bb (fv.set i v) ck jo re := by
  simp only [spl, stC]
  rw [Nat.add_comm]
  simp only [List.set_cons_succ]
  rw [List.set_append_left _ _ (by omega)]
theorem stC_setck (h0 : fv.length = 64) (ck' : Nat) : spl (stC db sz m a c bb fv ck jo re) 72 [.int .u64 ck'] = stC db sz m a c bb fv ck' jo re := by
  simp only [spl, stC]
  simp only [List.set_cons_succ]
  rw [List.set_append_right _ _ (by omega), h0]
  rfl
theorem stC_setjo (h0 : fv.length = 64) (h1 : jo.length = 64) {i : Nat} (h : i < 64) (v : Bool) : spl (stC db sz m a c bb fv ck jo re) (73 + i) [.bool v] = stC db sz m a c bb fv ck (jo.set i v) re := by
  simp only [spl, stC]
  rw [Nat.add_comm]
  simp only [List.set_cons_succ]
  rw [show i + 65 = 64 + (1 + i) by omega, List.set_append_right _ _ (by omega), h0, show 64 + (1 + i) - 64 = i + 1 by omega, List.set_cons_succ, List.set_append_left _ _ (by simpa [h1] using h), List.map_set]
theorem stC_setre (h0 : fv.length = 64) (h1 : jo.length = 64) (h2 : re.length = 64) {i : Nat} (h : i < 64) (v : Bool) : spl (stC db sz m a c bb fv ck jo re) (137 + i) [.bool v] = stC db sz m a c bb fv ck jo (re.set i v) := by
  simp only [spl, stC]
  rw [Nat.add_comm]
  simp only [List.set_cons_succ]
  rw [show i + 129 = 64 + (65 + i) by omega, List.set_append_right _ _ (by omega), h0, show 64 + (65 + i) - 64 = (64 + i) + 1 by omega, List.set_cons_succ, List.set_append_right _ _ (by simp [h1]), List.length_map, h1, show 64 + i - 64 = i by omega, List.map_set]
theorem stC_feeds (h0 : fv.length = 64) : ((stC db sz m a c bb fv ck jo re).drop 8).take 64 = fv := by
  simp only [stC, List.drop_succ_cons, List.drop_zero]
  rw [← h0, List.take_left]
end
/-- A store, without its feeds' and its fold's places. -/
structure So where
  size : Int
  m : Mf
  base : Fo
  fs : List Fe
  clock : Nat
  jo : List Bool
  re : List Bool
structure So.ok (s : So) : Prop where
  size : -9223372036854775808 ≤ s.size ∧ s.size ≤ 9223372036854775807
  m : s.m.ok
  fs : s.fs.length = 64
  clock : s.clock < 18446744073709551616
  jo : s.jo.length = 64
  re : s.re.length = 64
def feeds (db : Nat) (bs : List Nat) (fs : List Fe) : List HP := List.zipWith (fun b f => feed b db f) bs fs
structure Si where
  a : Option Addr
  c : Nat
  bb : Nat
  bs : List Nat
structure Si.ok (i : Si) (s : So) (g : Hl) : Prop where
  ok : s.ok
  len : i.bs.length = 64
  vec : Pr 1 g (.slice i.a s.m.floor.length i.c) s.m.floor.length (us s.m.floor)
theorem Si.ok.mono {i : Si} {s : So} {g g' : Hl} (h : i.ok s g) (hg : Hl.le g g') : i.ok s g' := ⟨h.ok, h.len, h.vec.mono hg⟩
theorem Si.ok.fv {i : Si} {s : So} {g : Hl} (h : i.ok s g) : (i.bs.map ptr).length = 64 := by rw [List.length_map]; exact h.len
def soB (sb db : Nat) (i : Si) (s : So) : HP := blk sb (stC db s.size s.m i.a i.c i.bb (i.bs.map ptr) s.clock s.jo s.re) 103
/-- A store, of a disk at db. -/
def store (sb db : Nat) (s : So) : HP := exs fun i : Si => wit (fun g => i.ok s g) (fun _ _ hg h => h.mono hg) (sep (soB sb db i s) (sep (fold i.bb s.base) (bsep (feeds db i.bs s.fs))))
section
variable {W w : World} {g : Hl} {H : List HP} {sb db : Nat} {s : So}
theorem store_open (hs : Sat W w g (store sb db s :: H)) : ∃ i : Si, i.ok s g ∧ Sat W w g (soB sb db i s :: fold i.bb s.base :: bsep (feeds db i.bs s.fs) :: H) := by
  obtain ⟨i, h⟩ := hs.unexs
  refine ⟨i, h.unwit.1, ?_⟩
  exact h.unwit.2.split.swap.split.pull2
theorem store_close (i : Si) (h : i.ok s g) (hs : Sat W w g (soB sb db i s :: fold i.bb s.base :: bsep (feeds db i.bs s.fs) :: H)) : Sat W w g (store sb db s :: H) :=
  Sat.mkexs i (Sat.mkwit h (hs.push2.join.swap.join))
theorem feeds_split {db : Nat} : ∀ {bs : List Nat} {fs : List Fe} {w : Nat} (hb : w < bs.length) (hf : w < fs.length), ∃ l1 l2, feeds db bs fs = l1 ++ feed bs[w] db fs[w] :: l2 ∧ ∀ b' f', feeds db (bs.set w b') (fs.set w f') = l1 ++ feed b' db f' :: l2
  | b :: bs, f :: fs, 0, _, _ => ⟨[], feeds db bs fs, rfl, fun b' f' => rfl⟩
  | b :: bs, f :: fs, w + 1, hb, hf => by
    obtain ⟨l1, l2, h1, h2⟩ := feeds_split (db := db) (bs := bs) (fs := fs) (w := w) (by simpa using hb) (by simpa using hf)
    refine ⟨feed b db f :: l1, l2, ?_, fun b' f' => ?_⟩
    · show feed b db f :: feeds db bs fs = _
      rw [h1]; rfl
    · show feed b db f :: feeds db (bs.set w b') (fs.set w f') = _
      rw [h2]; rfl
theorem set_self {α : Type} : ∀ {l : List α} {i : Nat} (h : i < l.length), l.set i l[i] = l
  | x :: l, 0, _ => rfl
  | x :: l, i + 1, h => by simp
/-- One of the feeds, beside the others. -/
theorem feeds_out {bs : List Nat} {fs : List Fe} {v : Nat} (hb : v < bs.length) (hf : v < fs.length) (hs : Sat W w g (bsep (feeds db bs fs) :: H)) : ∃ rest : HP, Sat W w g (feed bs[v] db fs[v] :: rest :: H) ∧ ∀ {W w : World} {g : Hl} {H : List HP} (b' : Nat) (f' : Fe), Sat W w g (feed b' db f' :: rest :: H) → Sat W w g (bsep (feeds db (bs.set v b') (fs.set v f')) :: H) := by
  obtain ⟨l1, l2, h1, h2⟩ := feeds_split (db := db) hb hf
  refine ⟨bsep (l1 ++ l2), ?_, fun b' f' hs => ?_⟩
  · rw [h1] at hs
    exact bsep_out hs
  · rw [h2]
    exact bsep_in hs
theorem feeds_snoc {bs : List Nat} {fs : List Fe} {b : Nat} {f : Fe} (hl : bs.length = fs.length) (hs : Sat W w g (feed b db f :: bsep (feeds db bs fs) :: H)) : Sat W w g (bsep (feeds db (bs ++ [b]) (fs ++ [f])) :: H) := by
  have e : feeds db (bs ++ [b]) (fs ++ [f]) = feeds db bs fs ++ [feed b db f] := by
    unfold feeds
    rw [List.zipWith_append hl]
    rfl
  rw [e]
  have := bsep_in (l1 := feeds db bs fs) (l2 := []) (p := feed b db f) (by rw [List.append_nil]; exact hs)
  exact this
end
end Go.Proofs.YtfhmamkafancbaaGreatDoor
