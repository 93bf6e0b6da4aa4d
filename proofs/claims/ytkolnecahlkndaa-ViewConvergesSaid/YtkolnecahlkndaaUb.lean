/-
  The reference of layer 6: whether events are one.
-/
import Derived.Test.YtkolnecahlkndaaUa
namespace Go.Proofs.Ytkolnecahlkndaa
open Go.RowKit
set_option linter.unusedVariables false
set_option linter.unusedSimpArgs false

/-- What a valid event's parts are. -/
structure Ev.fit (e : Ev) : Prop where
  wr : 0 ≤ e.wr
  kd : 1 ≤ e.kd
  nd : e.kd = 5 → 0 ≤ e.nd

set_option maxHeartbeats 3200000 in
set_option maxRecDepth 100000 in
theorem same_any {R : Ending → World → Prop} {W w : World} {g : Hl} {H : List HP} {e f : Ev} (he : e.ok g) (hf : f.ok g) (fe : e.fit) (ff : f.fit) (hs : Sat W w g H)
    (hR : ∀ w' g', Hl.le g g' → Sat W w' g' H → R (.returned (.bool (decide (e.enc = f.enc)))) w') :
    Calls Try.prog 27 #[e.val, f.val] w R := by
  have HR := Lib.hid hR
  clear hR
  have ag1 := ag_ev
  refine C.calls (args := [e.val, f.val]) Try.func27 rfl rfl rfl ?_
  refine go ?_
  refine E.bx hs (xs := e.cs) ?_ (hx := rfl)
  intro b1 w1 hs
  refine E.bx hs (xs := f.cs) ?_ (hx := rfl)
  intro b2 w2 hs
  refine go ?_
  refine C.held2 b1 b2 hs ?_
  intro w3 hk hs
  refine goh ?_
  refine EH.one (St.callf Try.func52 rfl ?_)
  refine rencode_any (e := e) he fe.wr fe.kd fe.nd hs ?_
  intro a4 c4 w4 g4 hg4 hs
  obtain ⟨g5, hg5, hp5, hs⟩ := hs.publishOwn
  refine kept2 hs (fun hk => ?_) (hg4.trans hg5)
  refine goh ?_
  refine EH.two (St.string rfl Try.underlying40 Try.underlying5 Try.underlying9 (hp5.row hs) ?_) (St.callf Try.func52 rfl ?_)
  · refine kept2 hs (fun hk => ?_) (hg4.trans hg5)
    refine goh ?_
    refine EH.one (St.callf Try.func52 rfl ?_)
    refine rencode_any (e := f) ((hf.mono hg4).mono hg5) ff.wr ff.kd ff.nd hs ?_
    intro a6 c6 w6 g6 hg6 hs
    obtain ⟨g7, hg7, hp7, hs⟩ := hs.publishOwn
    refine kept2 hs (fun hk => ?_) ((hg4.trans hg5).trans (hg6.trans hg7))
    refine goh ?_
    refine EH.one (St.string rfl Try.underlying40 Try.underlying5 Try.underlying9 (hp7.row hs) ?_)
    refine kept2 hs (fun hk => ?_) ((hg4.trans hg5).trans (hg6.trans hg7))
    refine goh ?_
    refine EH.done ?_
    refine go ?_
    refine A.r1 ?_
    exact HR.out _ _ ((hg4.trans hg5).trans (hg6.trans hg7)) hs.drop.drop
  · refine rencode_any (e := f) ((hf.mono hg4).mono hg5) ff.wr ff.kd ff.nd hs ?_
    intro a6 c6 w6 g6 hg6 hs
    obtain ⟨g7, hg7, hp7, hs⟩ := hs.publishOwn
    have hp5' := (hp5.mono hg6).mono hg7
    refine kept2 hs (fun hk => ?_) ((hg4.trans hg5).trans (hg6.trans hg7))
    refine goh ?_
    refine EH.two (St.string rfl Try.underlying40 Try.underlying5 Try.underlying9 (hp5'.row hs) ?_) (St.string rfl Try.underlying40 Try.underlying5 Try.underlying9 (hp7.row hs) ?_)
    · refine kept2 hs (fun hk => ?_) ((hg4.trans hg5).trans (hg6.trans hg7))
      refine goh ?_
      refine EH.one (St.string rfl Try.underlying40 Try.underlying5 Try.underlying9 (hp7.row hs) ?_)
      refine kept2 hs (fun hk => ?_) ((hg4.trans hg5).trans (hg6.trans hg7))
      refine goh ?_
      refine EH.done ?_
      refine go ?_
      refine A.r1 ?_
      exact HR.out _ _ ((hg4.trans hg5).trans (hg6.trans hg7)) hs.drop.drop
    · refine kept2 hs (fun hk => ?_) ((hg4.trans hg5).trans (hg6.trans hg7))
      refine goh ?_
      refine EH.one (St.string rfl Try.underlying40 Try.underlying5 Try.underlying9 (hp5'.row hs) ?_)
      refine kept2 hs (fun hk => ?_) ((hg4.trans hg5).trans (hg6.trans hg7))
      refine goh ?_
      refine EH.done ?_
      refine go ?_
      refine A.r1 ?_
      exact HR.out _ _ ((hg4.trans hg5).trans (hg6.trans hg7)) hs.drop.drop

/-- Two lists of events, by their bytes. -/
def sameE (a b : List Ev) : Bool := decide (a.map Ev.enc = b.map Ev.enc)

set_option maxHeartbeats 3200000 in
set_option maxRecDepth 100000 in
theorem sameAll_any {R : Ending → World → Prop} {W w : World} {g : Hl} {H : List HP} {x y : El} (hx : x.ok g) (hy : y.ok g) (fx : ∀ e ∈ x.es, e.fit) (fy : ∀ e ∈ y.es, e.fit) (hlx : x.es.length ≤ 1000000000) (hly : y.es.length ≤ 1000000000) (hs : Sat W w g H)
    (hR : ∀ w' g', Hl.le g g' → Sat W w' g' H → R (.returned (.bool (sameE x.es y.es))) w') :
    Calls Try.prog 13 #[x.v, y.v] w R := by
  have HR := Lib.hid hR
  clear hR
  refine C.calls (args := [.slice x.a x.es.length x.c, .slice y.a y.es.length y.c]) Try.func13 rfl rfl rfl ?_
  refine go ?_
  cases h0 : decide ((x.es.length : Int) = y.es.length) with
  | false =>
    have h0 := of_decide_eq_false h0
    refine go ?_
    refine A.r1 ?_
    have := HR.out _ g (Hl.le_refl _) hs
    rw [show sameE x.es y.es = false from decide_eq_false (fun h => by have := congrArg List.length h; simp at this; omega)] at this
    exact this
  | true =>
  have h0 := of_decide_eq_true h0
  refine gob ?_
  have hxy0 : x.es.length = y.es.length := by omega
  have hxy := Lib.hid hxy0
  clear h0 hxy0
  refine C.block ?_
  refine C.lp (fun i : Nat => [(0, .slice x.a x.es.length x.c), (1, .slice y.a y.es.length y.c), (5, .int .i64 i)])
    (fun gk i w => gk = x.es.length - i ∧ i ≤ x.es.length ∧ (x.es.take i).map Ev.enc = (y.es.take i).map Ev.enc ∧ ∃ g', Hl.le g g' ∧ Sat W w g' H) x.es.length 0 ⟨rfl, Nat.zero_le _, rfl, g, Hl.le_refl _, hs⟩ ?_
  clear hs
  rintro gk i w2 ⟨rfl, hi, heq, g2, hg2, hs⟩
  refine go ?_
  refine C.cond_dec (p := (i : Int) < x.es.length) rfl (fun h => ?_) (fun h => ?_)
  · have hix : i < x.es.length := by omega
    have hiy : i < y.es.length := by have := hxy.out; omega
    have hiy' : (i : Int) < y.es.length := by omega
    have hrx := hx.row.mono hg2
    have hry := hy.row.mono hg2
    have hxy1 := hxy.out
    obtain ⟨bx, ox, hxa⟩ := pr_some hrx (by omega)
    obtain ⟨by_, oy, hya⟩ := pr_some hry (by omega)
    have hex := hx.evs x.es[i] (List.getElem_mem hix)
    have hey := hy.evs y.es[i] (List.getElem_mem hiy)
    simp only [El.v, hxa] at hrx
    simp only [El.v, hya] at hry
    clear hxy1
    refine go ?_
    rw [hxa, hya]
    refine C.held0 hs ?_
    intro w3 hk hs
    refine goh ?_
    refine EH.t0 hk ?_ (hy := Pf.loadpr ag_ev hrx hix (evC_at hix) rfl rfl)
    refine EH.t0 hk ?_ (hy := Pf.loadpr ag_ev hry hiy (evC_at hiy) rfl rfl)
    refine EH.one (St.callf Try.func27 rfl ?_)
    refine same_any (e := x.es[i]) (f := y.es[i]) (hex.1.mono hg2) (hey.1.mono hg2) (fx _ (List.getElem_mem hix)) (fy _ (List.getElem_mem hiy)) hs ?_
    intro w4 g4 hg4 hs
    refine kept0 hs (fun hk => ?_) hg4
    refine goh ?_
    refine EH.done ?_
    refine go ?_
    cases hd : decide (x.es[i].enc = y.es[i].enc) with
    | true =>
      have hd := of_decide_eq_true hd
      refine go ?_
      rw [← hxa, ← hya]
      refine A.rd (x.es.length - (i + 1)) (i + 1) ⟨rfl, by omega, ?_, g4, hg2.trans hg4, hs⟩
      rw [List.take_succ_eq_append_getElem hix, List.take_succ_eq_append_getElem hiy, List.map_append, List.map_append, heq]
      simp [hd]
    | false =>
      have hd := of_decide_eq_false hd
      refine go ?_
      refine A.r1 ?_
      have := HR.out _ _ (hg2.trans hg4) hs
      rw [show sameE x.es y.es = false from decide_eq_false (fun h => hd (by
        have h1 := congrArg (fun l => l[i]?) h
        simp only [List.getElem?_map, List.getElem?_eq_getElem hix, List.getElem?_eq_getElem hiy, Option.map_some, Option.some.injEq] at h1
        exact h1))] at this
      exact this
  · obtain rfl : i = x.es.length := by omega
    refine go ?_
    refine A.r1 ?_
    have := HR.out _ _ hg2 hs
    rw [List.take_length, hxy.out, List.take_length] at heq
    rw [show sameE x.es y.es = true from decide_eq_true heq] at this
    exact this
end Go.Proofs.Ytkolnecahlkndaa
