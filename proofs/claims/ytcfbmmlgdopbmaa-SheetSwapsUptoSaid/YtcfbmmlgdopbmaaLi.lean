/-
  A swap that may be stopped at any act, in plain lists.
-/
import Derived.Test.YtcfbmmlgdopbmaaLg
import Derived.Test.YtcfbmmlgdopbmaaLd
import Derived.Test.YtcfbmmlgdopbmaaDg
namespace Go.Proofs.Ytcfbmmlgdopbmaa
set_option linter.unusedVariables false
set_option linter.unusedSimpArgs false

theorem Dk.act_cases {d : Dk} (h : d.off = false) : d.act.2.fs = d.fs ∧ d.act.2.room = d.room ∧ ((d.act.1 = 0 ∧ d.act.2.off = false) ∨ d.act.1 = 7) := by
  unfold Dk.act
  rw [if_neg (by rw [h]; simp)]
  split
  · exact ⟨rfl, rfl, .inr rfl⟩
  split
  · exact ⟨rfl, rfl, .inl ⟨rfl, h⟩⟩
  · exact ⟨rfl, rfl, .inl ⟨rfl, h⟩⟩
theorem Dk.remove_cases {d : Dk} (h : d.off = false) {name : List UInt8} (hf : aget name d.fs = none) : ∃ e d', d.remove name = (e, d') ∧ d'.fs = d.fs ∧ d'.room = d.room ∧ ((e = 2 ∧ d'.off = false) ∨ e = 7) := by
  obtain ⟨h1, h2, ⟨h3, h4⟩ | h3⟩ := Dk.act_cases h
  · exact ⟨2, d.act.2, by unfold Dk.remove; rw [if_pos h3, hf], h1, h2, .inl ⟨rfl, h4⟩⟩
  · exact ⟨7, d.act.2, by unfold Dk.remove; rw [if_neg (by omega), ← h3], h1, h2, .inr rfl⟩
theorem Dk.append_cases {d : Dk} (h : d.off = false) {name p : List UInt8} (hn : namedB name = true) (hr : (tk d.fs : Int) + p.length ≤ d.room) :
    ∃ e d', d.append name p = (e, d') ∧ d'.room = d.room ∧ ((e = 0 ∧ d'.off = false ∧ d'.fs = put name p d.fs) ∨ (e = 7 ∧ (d'.fs = d.fs ∨ ∃ q, d'.fs = put name q d.fs))) := by
  obtain ⟨h1, h2, ⟨h3, h4⟩ | h3⟩ := Dk.act_cases h
  · exact ⟨0, { d.act.2 with fs := put name p d.fs }, by unfold Dk.append; rw [hn, if_neg (by simp), if_pos h3, if_neg (by omega)], h2, .inl ⟨rfl, h4, rfl⟩⟩
  · unfold Dk.append
    rw [hn, if_neg (by simp), if_neg (by omega), h3]
    split
    · exact ⟨7, _, rfl, h2, .inr ⟨rfl, .inr ⟨_, rfl⟩⟩⟩
    · exact ⟨7, _, rfl, h2, .inr ⟨rfl, .inl h1⟩⟩
theorem Dk.sync_cases {d : Dk} (h : d.off = false) {name : List UInt8} {f : Fl} (hf : aget name d.fs = some f) :
    ∃ e d', d.sync name = (e, d') ∧ d'.room = d.room ∧ ((e = 0 ∧ d'.off = false ∧ d'.fs = aput name ⟨f.p, f.p.length⟩ d.fs) ∨ (e = 7 ∧ d'.fs = d.fs)) := by
  obtain ⟨h1, h2, ⟨h3, h4⟩ | h3⟩ := Dk.act_cases h
  · exact ⟨0, { d.act.2 with fs := aput name ⟨f.p, f.p.length⟩ d.fs }, by unfold Dk.sync; rw [if_pos h3, hf], h2, .inl ⟨rfl, h4, rfl⟩⟩
  · exact ⟨7, d.act.2, by unfold Dk.sync; rw [if_neg (by omega), ← h3], h2, .inr ⟨rfl, h1⟩⟩
theorem Dk.move_cases {d : Dk} (h : d.off = false) {src dst : List UInt8} {f : Fl} (hn : namedB dst = true) (hf : aget src d.fs = some f) :
    ∃ e d', d.move src dst = (e, d') ∧ d'.room = d.room ∧ ((e = 0 ∧ d'.fs = aput dst f (adrop src d.fs)) ∨ (e = 7 ∧ d'.fs = d.fs)) := by
  obtain ⟨h1, h2, ⟨h3, h4⟩ | h3⟩ := Dk.act_cases h
  · exact ⟨0, { d.act.2 with fs := aput dst f (adrop src d.fs) }, by unfold Dk.move; rw [hn, if_neg (by simp), if_pos h3, hf], h2, .inl ⟨rfl, rfl⟩⟩
  · exact ⟨7, d.act.2, by unfold Dk.move; rw [hn, if_neg (by simp), if_neg (by omega), ← h3], h2, .inr ⟨rfl, h1⟩⟩

def fN : List UInt8 := [102] ++ newB
theorem put_new {A : Fl} {p : List UInt8} : put fN p [([102], A)] = [([102], A), (fN, ⟨p, 0⟩)] := by simp [put, fN, newB, aget, aput]
theorem swap_f (d : Dk) (t : Ti) (ls : List (List UInt8)) : d.swap [102] t ls = (if (d.remove fN).1 ≠ 0 ∧ (d.remove fN).1 ≠ 2 then d.remove fN else
    if ls.any (fun x => decide (2097152 < x.length)) then (6, (d.remove fN).2) else
    if ((d.remove fN).2.append fN (headB t ++ catB ls)).1 ≠ 0 then (d.remove fN).2.append fN (headB t ++ catB ls) else
    if (((d.remove fN).2.append fN (headB t ++ catB ls)).2.sync fN).1 ≠ 0 then ((d.remove fN).2.append fN (headB t ++ catB ls)).2.sync fN else
    (((d.remove fN).2.append fN (headB t ++ catB ls)).2.sync fN).2.move fN [102]) := rfl
/-- Whichever act is the last one: what stands on the disk. -/
theorem swap_stop {d : Dk} (h : d.off = false) {A : Fl} {t : Ti} {ls : List (List UInt8)} (hfs : d.fs = [([102], A)]) (hl : ∀ x ∈ ls, x.length ≤ 2097152) (hr : (A.p.length : Int) + (headB t ++ catB ls).length ≤ d.room) :
    ∃ e d', d.swap [102] t ls = (e, d') ∧ d'.room = d.room ∧
      ((e = 7 ∧ (d'.fs = [([102], A)] ∨ ∃ X, d'.fs = [([102], A), (fN, X)])) ∨ (e = 0 ∧ d'.fs = [([102], ⟨headB t ++ catB ls, (headB t ++ catB ls).length⟩)])) := by
  have hany : ls.any (fun x => decide (2097152 < x.length)) = false := by
    rw [List.any_eq_false]
    intro x hx
    have := hl x hx
    simp; omega
  obtain ⟨e1, d1, a1, a2, a3, ⟨rfl, a4⟩ | rfl⟩ := Dk.remove_cases h (name := fN) (by rw [hfs]; rfl)
  rotate_left
  · refine ⟨7, d1, ?_, a3, .inl ⟨rfl, .inl (a2.trans hfs)⟩⟩
    rw [swap_f]
    simp [a1]
  obtain ⟨e2, d2, b1, b3, ⟨rfl, b4, b2⟩ | ⟨rfl, b2⟩⟩ := Dk.append_cases a4 (name := fN) (p := headB t ++ catB ls) (by decide) (by rw [a2, hfs, tk_one, a3]; exact hr)
  rotate_left
  · refine ⟨7, d2, ?_, b3.trans a3, .inl ⟨rfl, ?_⟩⟩
    · rw [swap_f]
      simp [a1, hany, b1]
    · rcases b2 with b2 | ⟨q, b2⟩
      · exact .inl (b2.trans (a2.trans hfs))
      · exact .inr ⟨_, by rw [b2, a2, hfs, put_new]⟩
  rw [a2, hfs, put_new] at b2
  have hg2 : aget fN d2.fs = some ⟨headB t ++ catB ls, 0⟩ := by rw [b2]; simp [aget, fN, newB]
  obtain ⟨e3, d3, c1, c3, ⟨rfl, c4, c2⟩ | ⟨rfl, c2⟩⟩ := Dk.sync_cases b4 hg2
  rotate_left
  · refine ⟨7, d3, ?_, c3.trans (b3.trans a3), .inl ⟨rfl, .inr ⟨_, c2.trans b2⟩⟩⟩
    rw [swap_f]
    simp [a1, hany, b1, c1]
  rw [b2] at c2
  have c2' : d3.fs = [([102], A), (fN, ⟨headB t ++ catB ls, (headB t ++ catB ls).length⟩)] := by rw [c2]; simp [aput, fN, newB]
  have hg3 : aget fN d3.fs = some ⟨headB t ++ catB ls, (headB t ++ catB ls).length⟩ := by rw [c2']; simp [aget, fN, newB]
  obtain ⟨e4, d4, f1, f3, ⟨rfl, f2⟩ | ⟨rfl, f2⟩⟩ := Dk.move_cases c4 (dst := [102]) (by decide) hg3
  · refine ⟨0, d4, ?_, f3.trans (c3.trans (b3.trans a3)), .inr ⟨rfl, ?_⟩⟩
    · rw [swap_f]
      simp [a1, hany, b1, c1, f1]
    · rw [f2, c2']
      simp [adrop, aput, fN, newB]
  · refine ⟨7, d4, ?_, f3.trans (c3.trans (b3.trans a3)), .inl ⟨rfl, .inr ⟨_, f2.trans c2'⟩⟩⟩
    rw [swap_f]
    simp [a1, hany, b1, c1, f1]
/-- What stands there behind a crash. -/
theorem crash_safe (p : List UInt8) (keep : Int) : (⟨p, p.length⟩ : Fl).crash keep = ⟨p, p.length⟩ := by
  have : (⟨p, p.length⟩ : Fl).kept keep = p.length := by unfold Fl.kept; simp only; omega
  unfold Fl.crash
  rw [this, List.take_length]
theorem swap_again {d : Dk} (h : d.calm) {A : Fl} {t : Ti} {ls : List (List UInt8)} (hfs : d.fs = [([102], A)] ∨ ∃ X, d.fs = [([102], A), (fN, X)]) (hl : ∀ x ∈ ls, x.length ≤ 2097152) (hr : (A.p.length : Int) + (headB t ++ catB ls).length ≤ d.room) :
    ∃ d', d.swap [102] t ls = (0, d') ∧ d'.fs = [([102], ⟨headB t ++ catB ls, (headB t ++ catB ls).length⟩)] ∧ d'.room = d.room ∧ d'.calm := by
  rcases hfs with hfs | ⟨X, hfs⟩
  · obtain ⟨d', q1, q2, q3, q4⟩ := swap_calm h (name := [102]) (t := t) (ls := ls) (by decide) (by decide) (by rw [hfs]; rfl) hl (by rw [hfs, tk_one]; exact hr)
    exact ⟨d', q1, by rw [q2, hfs, aput_one], q3, q4⟩
  · have hany : ls.any (fun x => decide (2097152 < x.length)) = false := by
      rw [List.any_eq_false]
      intro x hx
      have := hl x hx
      simp; omega
    obtain ⟨d1, a1, a2, a3, a4⟩ := h.remove (name := fN) (f := X) (by rw [hfs]; simp [aget, fN, newB])
    have a2' : d1.fs = [([102], A)] := by rw [a2, hfs]; simp [adrop, fN, newB]
    obtain ⟨d2, b1, b2, b3, b4⟩ := a4.append (name := fN) (p := headB t ++ catB ls) (by decide) (by rw [a2', tk_one, a3]; exact hr)
    rw [a2', put_new] at b2
    obtain ⟨d3, c1, c2, c3, c4⟩ := b4.sync (name := fN) (f := ⟨headB t ++ catB ls, 0⟩) (by rw [b2]; simp [aget, fN, newB])
    have c2' : d3.fs = [([102], A), (fN, ⟨headB t ++ catB ls, (headB t ++ catB ls).length⟩)] := by rw [c2, b2]; simp [aput, fN, newB]
    obtain ⟨d4, f1, f2, f3, f4⟩ := c4.move (src := fN) (dst := [102]) (f := ⟨headB t ++ catB ls, (headB t ++ catB ls).length⟩) (by decide) (by rw [c2']; simp [aget, fN, newB])
    refine ⟨d4, ?_, by rw [f2, c2']; simp [adrop, aput, fN, newB], by rw [f3, c3, b3, a3], f4⟩
    rw [swap_f]
    simp [a1, hany, b1, c1, f1]
end Go.Proofs.Ytcfbmmlgdopbmaa
