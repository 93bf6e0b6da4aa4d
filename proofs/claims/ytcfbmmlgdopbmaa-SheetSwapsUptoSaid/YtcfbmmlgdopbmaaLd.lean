/-
  The walk of SheetLong.
-/
import Derived.Test.YtcfbmmlgdopbmaaLc
namespace Go.Proofs.Ytcfbmmlgdopbmaa
open Go.RowKit
set_option linter.unusedVariables false
set_option linter.unusedSimpArgs false

theorem Sat.pubBlk {W w : World} {g : Hl} {H : List HP} {b n s : Nat} {xs : List Value} {e : TypeId} (hs : Sat W w g (blk b xs e :: H)) (hx : xs.length = n * s) (hn : n ≤ 9223372036854775807) : ∃ g', Hl.le g g' ∧ Pr s g' (.slice (some ⟨b, 0, none⟩) n n) n xs ∧ Sat W w g' H := by
  obtain ⟨h, e1, e2, e3, hs2⟩ := hs.publish
  have e1' : h = Hl.one b (.cells xs.toArray e (0, 0)) := e1
  refine ⟨_, e2, ⟨hx, _, n, rfl, Nat.le_refl _, by unfold maxLen; omega, fun e => by simp at e, .inr ⟨b, 0, xs.toArray, e, (0, 0), rfl, e3 _ _ (by rw [e1']; simp [Hl.one]), by simp [← hx]⟩⟩, hs2⟩
theorem adrop_last {β : Type} {name : List UInt8} {v : β} : ∀ {fs : List (List UInt8 × β)}, aget name fs = none → adrop name (fs ++ [(name, v)]) = fs
  | [], _ => by simp [adrop]
  | (a, u) :: r, h => by
    simp only [aget] at h
    split at h
    · cases h
    · rename_i hne
      simp only [List.cons_append, adrop, hne, if_false, adrop_last h]
theorem swap_calm {d : Dk} (h : d.calm) {name : List UInt8} {t : Ti} {ls : List (List UInt8)} (hn : namedB name = true) (hn2 : namedB (name ++ newB) = true) (hf : aget (name ++ newB) d.fs = none) (hl : ∀ x ∈ ls, x.length ≤ 2097152) (hr : (tk d.fs : Int) + (headB t ++ catB ls).length ≤ d.room) :
    ∃ d', d.swap name t ls = (0, d') ∧ d'.fs = aput name ⟨headB t ++ catB ls, (headB t ++ catB ls).length⟩ d.fs ∧ d'.room = d.room ∧ d'.calm := by
  obtain ⟨d1, a1, a2, a3, a4⟩ := h.remove_none hf
  obtain ⟨d2, b1, b2, b3, b4⟩ := a4.append (p := headB t ++ catB ls) hn2 (by rw [a2, a3]; exact hr)
  rw [a2, put, hf, (as_none hf).1] at b2
  simp only [Option.getD_none, List.nil_append] at b2
  obtain ⟨d3, c1, c2, c3, c4⟩ := b4.sync (name := name ++ newB) (f := ⟨headB t ++ catB ls, 0⟩) (by rw [b2]; exact aget_last hf)
  rw [b2, aput_last hf] at c2
  obtain ⟨d4, e1, e2, e3, e4⟩ := c4.move (src := name ++ newB) (dst := name) hn (by rw [c2]; exact aget_last hf)
  refine ⟨d4, ?_, by rw [e2, c2, adrop_last hf], by rw [e3, c3, b3, a3], e4⟩
  have hany : ls.any (fun x => decide (2097152 < x.length)) = false := by
    rw [List.any_eq_false]
    intro x hx
    have := hl x hx
    simp; omega
  unfold Dk.swap
  simp only [a1, b1, c1, hany, e1]
  simp
theorem swap_long {d : Dk} (h : d.calm) {name : List UInt8} {t : Ti} {ls : List (List UInt8)} (hf : aget (name ++ newB) d.fs = none) (hl : ∃ x ∈ ls, 2097152 < x.length) :
    ∃ d', d.swap name t ls = (6, d') ∧ d'.fs = d.fs ∧ d'.room = d.room ∧ d'.calm := by
  obtain ⟨d1, a1, a2, a3, a4⟩ := h.remove_none hf
  refine ⟨d1, ?_, a2, a3, a4⟩
  have hany : ls.any (fun x => decide (2097152 < x.length)) = true := by
    rw [List.any_eq_true]
    obtain ⟨x, hx, h⟩ := hl
    exact ⟨x, hx, by simpa using h⟩
  unfold Dk.swap
  simp only [a1, hany]
  simp
theorem swap_full {d : Dk} (h : d.calm) {name : List UInt8} {t : Ti} {ls : List (List UInt8)} (hn2 : namedB (name ++ newB) = true) (hf : aget (name ++ newB) d.fs = none) (hl : ∀ x ∈ ls, x.length ≤ 2097152) (hr : d.room < (tk d.fs : Int) + (headB t ++ catB ls).length) :
    ∃ d', d.swap name t ls = (3, d') ∧ d'.fs = d.fs ∧ d'.room = d.room ∧ d'.calm := by
  obtain ⟨d1, a1, a2, a3, a4⟩ := h.remove_none hf
  obtain ⟨d2, b1, b2, b3, b4⟩ := a4.full (p := headB t ++ catB ls) hn2 (by rw [a2, a3]; exact hr)
  refine ⟨d2, ?_, b2.trans a2, b3.trans a3, b4⟩
  have hany : ls.any (fun x => decide (2097152 < x.length)) = false := by
    rw [List.any_eq_false]
    intro x hx
    have := hl x hx
    simp; omega
  unfold Dk.swap
  simp only [a1, b1, hany]
  simp
theorem zeros_bs (k : Nat) : (madeCells (Value.int .u8 0).cells (k * 1)).toList = bs (List.replicate k 0) := by
  have h : ∀ k, (madeCells #[Value.int .u8 0] k).toList = bs (List.replicate k 0) := by
    intro k
    apply List.ext_getElem?
    intro j
    by_cases hj : j < k
    · simp [madeCells, bs, hj, Nat.mod_one]
    · simp [madeCells, bs, hj]
  rw [Nat.mul_one]
  exact h k
theorem t0_ok : (⟨0, 0, 0⟩ : Ti).ok := ⟨by decide, by decide⟩

set_option maxHeartbeats 3200000 in
set_option maxRecDepth 100000 in
theorem long_any {R : Ending → World → Prop} {W w : World} {g : Hl} {H : List HP} (n : Nat) (hn : n < 256) (hs : Sat W w g H)
    (hR : ∀ w' g', Hl.le g g' → Sat W w' g' H → R (.returned (.bool true)) w') :
    Calls Try.prog 5 #[.int .u8 n] w R := by
  have HR := Lib.hid hR
  clear hR
  have hhl := headB_len t0_ok
  refine C.calls (args := [.int .u8 n]) Try.func5 rfl rfl rfl ?_
  refine go ?_
  refine E.callf Try.func10 rfl ?_
  refine new_any (by decide) hs ?_
  intro b w1 hs
  obtain ⟨d1, e1, e2, e3, e4⟩ := begin_calm (d := ⟨[], 8388608, -1, 0, 0, false⟩) ⟨rfl, by simp⟩ (t := ⟨0, 0, 0⟩) fB_named rfl (by simp only [tk]; simp; omega)
  replace e2 : d1.fs = [([102], ⟨headB ⟨0, 0, 0⟩, (headB ⟨0, 0, 0⟩).length⟩)] := e2
  replace e3 : d1.room = 8388608 := e3
  obtain ⟨k, hk⟩ : ∃ k : Nat, k = 2097150 + n % 5 := ⟨_, rfl⟩
  have hk2 : k ≤ 2097154 := by omega
  have e5 : IntKind.i64.wrap (2097150 + (n : Int).tmod 5) = (k : Int) := by
    rw [show (n : Int).tmod 5 = ((n % 5 : Nat) : Int) from (Int.ofNat_tmod n 5).symm, wrap64_id (by omega) (by omega)]
    omega
  refine go ?_
  rw [e5]
  clear e5 hk
  refine E.callf Try.func12 rfl ?_
  refine begin_any (name := [102]) (t := ⟨0, 0, 0⟩) t0_ok hs ?_
  intro w2 g2 hg2 hs
  rw [e1] at hs ⊢
  replace hs : Sat W w2 g2 (disk b d1 :: H) := hs
  refine go ?_
  have hf1 : aget [102] d1.fs = some ⟨headB ⟨0, 0, 0⟩, (headB ⟨0, 0, 0⟩).length⟩ := by rw [e2, aget_one]
  refine E.callf Try.func14 rfl ?_
  refine read_any (name := [102]) hs ?_ ?_
  rotate_left
  · intro e w12 hre
    rw [e4.read hf1] at hre
    cases hre
  intro p1 a3 c3 w3 g3 hre _ hg3 hp3 hs
  rw [e4.read hf1] at hre
  simp only [Except.ok.injEq] at hre
  subst hre
  refine go ?_
  refine E.mk (k2 := k) el_u8 hs ?_
  intro a4 w4 hs
  rw [zeros_bs] at hs
  obtain ⟨g5, hg5, hp5, hs⟩ := hs.publishOwn
  have hrl : (List.replicate k (0 : UInt8)).length = k := by simp
  have hwl := wrapB_len (List.replicate k 0) (by rw [hrl]; omega)
  rw [hrl] at hwl
  have hk48 : (k : Int) ≤ 2097152 ∨ ¬ (k : Int) ≤ 2097152 := by omega
  have hadd : ∃ e d2, d1.add [102] (List.replicate k 0) = (e, d2) ∧ d2.calm ∧ d2.room = 8388608 ∧ (k ≤ 2097152 → e = 0 ∧ d2.fs = [([102], ⟨headB ⟨0, 0, 0⟩ ++ wrapB (List.replicate k 0), (headB ⟨0, 0, 0⟩).length⟩)]) ∧ (¬ k ≤ 2097152 → e = 6 ∧ d2.fs = d1.fs) := by
    by_cases h : k ≤ 2097152
    · obtain ⟨d2, q1, q2, q3, q4⟩ := add_calm (name := [102]) (p := List.replicate k 0) e4 (by rw [hrl]; exact h) fB_named (by rw [e2, tk_one, e3]; simp only; omega)
      exact ⟨0, d2, q1, q4, q3.trans e3, fun _ => ⟨rfl, by rw [q2, e2, put_one]⟩, fun h' => absurd h h'⟩
    · exact ⟨6, d1, by unfold Dk.add; rw [if_pos (by rw [hrl]; omega)], e4, e3, fun h' => absurd h' h, fun _ => ⟨rfl, rfl⟩⟩
  obtain ⟨ea, d2, q1, q2, q3, q4, q5⟩ := hadd
  refine go ?_
  refine E.callf Try.func13 rfl ?_
  refine add_any (name := [102]) (p := List.replicate k 0) hs hp5 hrl ?_
  intro w6 g6 hg6 hs
  rw [q1] at hs ⊢
  replace hs : Sat W w6 g6 (disk b d2 :: H) := hs
  refine go ?_
  refine E.mk (k2 := k) el_u8 hs ?_
  intro a7 w7 hs
  rw [zeros_bs] at hs
  obtain ⟨g7, hg7, hp7, hs⟩ := hs.publishOwn
  refine go ?_
  refine E.bsl hs ?_
  intro b8 w8 hs
  obtain ⟨g8, hg8, hp8, hs⟩ := hs.pubBlk (n := 1) (s := 1) rfl (by decide)
  have hlb : LB g8 (some ⟨b8, 0, none⟩) 1 1 [List.replicate k 0] := ⟨[(.slice a7 k k, List.replicate k 0)], rfl, rfl, by
    intro p hp
    simp only [List.mem_singleton] at hp
    subst hp
    simp only [hrl]
    exact hp7.mono hg8, hp8⟩
  have hfs : ∃ P s, d2.fs = [([102], ⟨P, s⟩)] ∧ P.length ≤ 2097205 ∧ (k ≤ 2097152 → P = headB ⟨0, 0, 0⟩ ++ wrapB (List.replicate k 0)) ∧ (¬ k ≤ 2097152 → P = headB ⟨0, 0, 0⟩) := by
    by_cases h : k ≤ 2097152
    · exact ⟨_, _, (q4 h).2, by rw [List.length_append]; omega, fun _ => rfl, fun h' => absurd h h'⟩
    · exact ⟨_, _, (q5 h).2.trans e2, by omega, fun h' => absurd h' h, fun _ => rfl⟩
  obtain ⟨P, s, hfs, hPl, hP1, hP2⟩ := hfs
  have hcat : catB [List.replicate k 0] = wrapB (List.replicate k 0) := by simp [catB]
  have hgn : aget ([103] ++ newB) d2.fs = none := by rw [hfs]; rfl
  have hswap : ∃ e d3, d2.swap [103] ⟨0, 0, 0⟩ [List.replicate k 0] = (e, d3) ∧ d3.calm ∧ aget [102] d3.fs = some ⟨P, s⟩ ∧ (k ≤ 2097152 → e = 0 ∧ ∃ f, aget [103] d3.fs = some f) ∧ (¬ k ≤ 2097152 → e = 6 ∧ aget [103] d3.fs = none) := by
    by_cases h : k ≤ 2097152
    · obtain ⟨d3, r1, r2, r3, r4⟩ := swap_calm (d := d2) q2 (name := [103]) (t := ⟨0, 0, 0⟩) (ls := [List.replicate k 0]) (by decide) (by decide) hgn (by simp; omega) (by rw [hfs, tk_one, q3, hcat, List.length_append]; simp only; omega)
      refine ⟨0, d3, r1, r4, ?_, fun _ => ⟨rfl, _, by rw [r2, hfs]; rfl⟩, fun h' => absurd h h'⟩
      rw [r2, hfs]
      rfl
    · obtain ⟨d3, r1, r2, r3, r4⟩ := swap_long (d := d2) q2 (name := [103]) (t := ⟨0, 0, 0⟩) (ls := [List.replicate k 0]) hgn ⟨List.replicate k 0, by simp, by rw [hrl]; omega⟩
      refine ⟨6, d3, r1, r4, ?_, fun h' => absurd h' h, fun _ => ⟨rfl, by rw [r2, hfs]; rfl⟩⟩
      rw [r2, hfs]
      rfl
  obtain ⟨es, d3, r1, r2, r3, r4, r5⟩ := hswap
  have hsum : sumL [List.replicate k (0 : UInt8)] ≤ 100000000 := by simp [sumL]; omega
  refine go ?_
  refine E.callf Try.func20 rfl ?_
  refine swap_any (name := [103]) (t := ⟨0, 0, 0⟩) t0_ok hs hlb hsum (by decide) ?_
  intro w9 g9 hg9 hs
  rw [r1] at hs ⊢
  replace hs : Sat W w9 g9 (disk b d3 :: H) := hs
  refine go ?_
  refine E.callf Try.func14 rfl ?_
  refine read_any (name := [102]) hs ?_ ?_
  rotate_left
  · intro e w12 hre
    rw [r2.read r3] at hre
    cases hre
  intro p2 a10 c10 w10 g10 hre _ hg10 hp10 hs
  rw [r2.read r3] at hre
  simp only [Except.ok.injEq] at hre
  subst hre
  have hg310 : Hl.le g3 g10 := ((((hg5.trans hg6).trans hg7).trans hg8).trans hg9).trans hg10
  have hgo : Hl.le g g10 := (hg2.trans hg3).trans hg310
  by_cases h : k ≤ 2097152
  · obtain ⟨rfl, -⟩ := q4 h
    obtain ⟨rfl, f, hf⟩ := r4 h
    have hP := hP1 h
    refine go ?_
    refine E.callf Try.func14 rfl ?_
    refine read_any (name := [103]) hs ?_ ?_
    rotate_left
    · intro e w12 hre
      rw [r2.read hf] at hre
      cases hre
    intro p3 a11 c11 w11 g11 hre _ hg11 hp11 hs
    refine go ?_
    refine C.cond_true (by rw [decide_eq_true (by omega)]; exact rfl) ?_
    refine go ?_
    refine E.callf Try.func8 rfl ?_
    refine awake_any hs ?_
    intro w12 g12 hg12 hs
    refine go ?_
    refine A.r1 ?_
    have hlt : ((headB ⟨0, 0, 0⟩).length : Int) < ((headB ⟨0, 0, 0⟩).length : Int) + ((wrapB (List.replicate k 0)).length : Int) := by
      rw [wrapB_length]; omega
    rw [decide_eq_true hlt]
    exact HR.out _ _ ((hgo.trans hg11).trans hg12) hs.drop
  · obtain ⟨rfl, -⟩ := q5 h
    obtain ⟨rfl, hf⟩ := r5 h
    have hP := hP2 h
    refine go ?_
    refine E.callf Try.func14 rfl ?_
    refine read_any (name := [103]) hs ?_ ?_
    · intro p3 a11 c11 w11 g11 hre
      rw [r2.read_none hf] at hre
      cases hre
    intro e w11 hre hne hs
    rw [r2.read_none hf] at hre
    simp only [Except.error.injEq] at hre
    subst hre
    refine go ?_
    refine C.cond_false (by rw [decide_eq_false (by omega)]; exact rfl) ?_
    refine go ?_
    refine E.callf Try.func8 rfl ?_
    refine awake_any hs ?_
    intro w12 g12 hg12 hs
    refine go ?_
    refine E.strc (((hp3.mono hg310).mono hg12).row hs) Try.underlying37 Try.underlying5 Try.underlying9 ?_
    refine go ?_
    refine E.strc ((hp10.mono hg12).row hs) Try.underlying37 Try.underlying5 Try.underlying9 ?_
    refine go ?_
    refine A.r1 ?_
    rw [decide_eq_true hP.symm]
    exact HR.out _ _ (hgo.trans hg12) hs.drop
end Go.Proofs.Ytcfbmmlgdopbmaa
