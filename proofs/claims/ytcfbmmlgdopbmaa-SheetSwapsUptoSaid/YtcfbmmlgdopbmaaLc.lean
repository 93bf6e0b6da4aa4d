/-
  The statements' example of layer 5: awake.
-/
import Derived.Test.YtcfbmmlgdopbmaaLa
namespace Go.Proofs.Ytcfbmmlgdopbmaa
open Go.RowKit
set_option linter.unusedVariables false
set_option linter.unusedSimpArgs false

theorem begin_calm {d : Dk} (h : d.calm) {name : List UInt8} {t : Ti} (hn : namedB name = true) (hf : aget name d.fs = none) (hr : (tk d.fs : Int) + (headB t).length ≤ d.room) :
    ∃ d', d.begin name t = (0, d') ∧ d'.fs = d.fs ++ [(name, ⟨headB t, (headB t).length⟩)] ∧ d'.room = d.room ∧ d'.calm := by
  obtain ⟨d1, e1, e2, e3, e4⟩ := h.append hn hr
  have e5 : d1.fs = d.fs ++ [(name, ⟨headB t, 0⟩)] := by
    rw [e2, put, hf, (as_none hf).1]; simp
  have e6 : aget name d1.fs = some ⟨headB t, 0⟩ := by
    rw [e5]; exact aget_last hf
  obtain ⟨d2, g1, g2, g3, g4⟩ := e4.sync e6
  refine ⟨d2, ?_, ?_, g3.trans e3, g4⟩
  · unfold Dk.begin
    rw [h.read_none hf, e1]
    simp only [if_true, g1]
  · rw [g2, e5]
    exact aput_last hf
theorem begin_old {d : Dk} (h : d.calm) {name : List UInt8} {t : Ti} {f : Fl} (hf : aget name d.fs = some f) : d.begin name t = (10, d) := by
  unfold Dk.begin
  rw [h.read hf]
theorem add_calm {d : Dk} (h : d.calm) {name p : List UInt8} (hp : p.length ≤ 2097152) (hn : namedB name = true) (hr : (tk d.fs : Int) + (wrapB p).length ≤ d.room) :
    ∃ d', d.add name p = (0, d') ∧ d'.fs = put name (wrapB p) d.fs ∧ d'.room = d.room ∧ d'.calm := by
  obtain ⟨d1, e1, e2, e3, e4⟩ := h.append hn hr
  refine ⟨d1, ?_, e2, e3, e4⟩
  unfold Dk.add
  rw [if_neg (by omega)]
  exact e1
theorem aget_one {name : List UInt8} {f : Fl} : aget name [(name, f)] = some f := by simp [aget]
theorem aput_one {name : List UInt8} {f f' : Fl} : aput name f' [(name, f)] = [(name, f')] := by simp [aput]
theorem put_one {name p : List UInt8} {f : Fl} : put name p [(name, f)] = [(name, ⟨f.p ++ p, f.safe⟩)] := by simp [put, aget, aput]
theorem tk_one {name : List UInt8} {f : Fl} : tk [(name, f)] = f.p.length := by simp [tk]

def fB : List UInt8 := [102]
theorem fB_named : namedB [102] = true := by decide

set_option maxHeartbeats 3200000 in
set_option maxRecDepth 100000 in
theorem awake_any {R : Ending → World → Prop} {W w : World} {g : Hl} {H : List HP} (hs : Sat W w g H)
    (hR : ∀ w' g', Hl.le g g' → Sat W w' g' H → R (.returned (.bool true)) w') :
    Calls Try.prog 8 #[] w R := by
  have HR := Lib.hid hR
  clear hR
  have hto : (⟨120, 0, 0⟩ : Ti).ok := ⟨by decide, by decide⟩
  have hhl := headB_len hto
  have hwl := wrapB_len [120] (by decide)
  simp only [List.length_cons, List.length_nil] at hwl
  refine C.calls (args := []) Try.func8 rfl rfl rfl ?_
  refine go ?_
  refine E.callf Try.func10 rfl ?_
  refine new_any (by decide) hs ?_
  intro b w1 hs
  obtain ⟨d1, e1, e2, e3, e4⟩ := begin_calm (d := ⟨[], 1000, -1, 0, 0, false⟩) ⟨rfl, by simp⟩ (t := ⟨120, 0, 0⟩) fB_named rfl (by simp only [tk]; simp; omega)
  refine go ?_
  refine E.callf Try.func12 rfl ?_
  refine begin_any (name := [102]) (t := ⟨120, 0, 0⟩) hto hs ?_
  intro w2 g2 hg2 hs
  rw [e1] at hs ⊢
  replace hs : Sat W w2 g2 (disk b d1 :: H) := hs
  refine go ?_
  refine E.bsl hs ?_
  intro b3 w3 hs
  refine go ?_
  apply E.cons
  apply St.markBytes hs
  · exact rfl
  · exact Try.underlying37
  · exact Try.underlying5
  · exact rfl
  · decide
  intro w4 g4 hg4 hs hp4
  have e2' : d1.fs = [([102], ⟨headB ⟨120, 0, 0⟩, (headB ⟨120, 0, 0⟩).length⟩)] := e2
  obtain ⟨d2, k1, k2, k3, k4⟩ := add_calm (name := [102]) (p := [120]) e4 (by decide) fB_named (by rw [e2', tk_one, e3]; simp only; omega)
  refine go ?_
  refine E.callf Try.func13 rfl ?_
  refine add_any (p := [120]) hs hp4 rfl ?_
  intro w5 g5 hg5 hs
  rw [k1] at hs ⊢
  replace hs : Sat W w5 g5 (disk b d2 :: H) := hs
  refine go ?_
  refine E.bsl hs ?_
  intro b6 w6 hs
  refine go ?_
  apply E.cons
  apply St.markBytes hs
  · exact rfl
  · exact Try.underlying37
  · exact Try.underlying5
  · exact rfl
  · decide
  intro w7 g7 hg7 hs hp7
  rw [e2', put_one] at k2
  obtain ⟨d3, m1, m2, m3, m4⟩ := k4.append (name := [102]) (p := [49, 50, 51, 52]) fB_named (by rw [k2, tk_one, k3, e3]; simp only [List.length_append, List.length_cons, List.length_nil]; omega)
  refine go ?_
  refine E.callf Try.func18 rfl ?_
  refine append_any (name := [102]) (p := [49, 50, 51, 52]) hs hp7 rfl (by decide) ?_
  intro w8 hs
  rw [m1] at hs ⊢
  replace hs : Sat W w8 g7 (disk b d3 :: H) := hs
  rw [k2, put_one] at m2
  simp only at m2
  have hfile : aget [102] d3.fs = some ⟨headB ⟨120, 0, 0⟩ ++ (catB [[120]] ++ [49, 50, 51, 52]), (headB ⟨120, 0, 0⟩).length⟩ := by
    rw [m2, aget_one]; simp [catB]
  have hall : allC [49, 50, 51, 52] = ([], 0, 5) := by decide +kernel
  have hscan := scanB_lay ⟨120, 0, 0⟩ hto [[120]] (by simp) [49, 50, 51, 52]
  rw [hall] at hscan
  simp only [List.append_nil, Nat.add_zero] at hscan
  have hsheet : d3.sheet [102] = .ok ⟨⟨120, 0, 0⟩, [[120]], (headB ⟨120, 0, 0⟩).length + (catB [[120]]).length, 5⟩ := by
    unfold Dk.sheet
    rw [m4.read hfile]
    exact hscan
  obtain ⟨d4, n1, n2, n3, n4⟩ := m4.cut (n := (headB ⟨120, 0, 0⟩).length + (catB [[120]]).length) hfile (by simp [Nat.add_assoc])
  have hmend : d3.mend [102] = (.ok ⟨⟨120, 0, 0⟩, [[120]], (headB ⟨120, 0, 0⟩).length + (catB [[120]]).length, 0⟩, d4) := by
    unfold Dk.mend
    rw [hsheet]
    simp only
    rw [n1]
    rfl
  refine go ?_
  refine E.callf Try.func19 rfl ?_
  refine mend_any (name := [102]) hs ?_ ?_
  rotate_left
  · intro e w9 g9 hme
    rw [hmend] at hme
    cases hme
  intro s a9 c9 w9 g9 hme htok he hgd hg9 hlb hs
  rw [hmend] at hme hs
  simp only [Except.ok.injEq] at hme
  subst hme
  simp only [Sh.cs] at hlb hs ⊢
  refine go ?_
  refine E.al hs ?_
  intro b10 w10 hs
  refine go ?_
  refine E.sto hs ?_
  intro w11 hs
  refine go ?_
  have hf4 : aget [102] d4.fs = some ⟨(headB ⟨120, 0, 0⟩ ++ (catB [[120]] ++ [49, 50, 51, 52])).take ((headB ⟨120, 0, 0⟩).length + (catB [[120]]).length), (headB ⟨120, 0, 0⟩).length + (catB [[120]]).length⟩ := by
    rw [n2, m2, aput_one, aget_one]
  refine E.callf Try.func14 rfl ?_
  refine read_any (name := [102]) hs.swap ?_ ?_
  rotate_left
  · intro e w12 hre
    rw [n4.read hf4] at hre
    cases hre
  intro p a12 c12 w12 g12 hre hpl hg12 hp12 hs
  rw [n4.read hf4] at hre
  simp only [Except.ok.injEq] at hre
  have hplen : p.length = (headB ⟨120, 0, 0⟩).length + (catB [[120]]).length := by
    rw [← hre, List.length_take]; simp
  have hlb := hlb.mono hg12
  obtain ⟨xs, hpx, a5, c5, hxi, hp5⟩ := hlb.get (i := 0) (by decide)
  refine go ?_
  refine E.ix el_row hs hpx 0 hxi ?_ (hj := by decide)
  intro b13 o13 hc13
  refine go ?_
  refine E.strc (hp5.row hs) Try.underlying37 Try.underlying5 Try.underlying9 ?_
  refine go ?_
  rw [hplen]
  refine go ?_
  refine A.r1 ?_
  rw [decide_eq_true (by simp : (((headB ⟨120, 0, 0⟩).length : Int) + ((catB [[120]]).length : Int) = ((((headB ⟨120, 0, 0⟩).length + (catB [[120]]).length : Nat)) : Int)))]
  exact HR.out _ _ (((((hg2.trans hg4).trans hg5).trans hg7).trans hg9).trans hg12) hs.drop.drop
end Go.Proofs.Ytcfbmmlgdopbmaa
