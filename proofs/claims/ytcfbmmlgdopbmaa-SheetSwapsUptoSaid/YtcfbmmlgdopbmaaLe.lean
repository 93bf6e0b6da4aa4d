/-
  The walk of SheetFiles.
-/
import Derived.Test.YtcfbmmlgdopbmaaLc
namespace Go.Proofs.Ytcfbmmlgdopbmaa
open Go.RowKit
set_option linter.unusedVariables false
set_option linter.unusedSimpArgs false

theorem sumL_S (ls : List (List UInt8)) : sumL ls ≤ 2 * sumS ls := by
  induction ls with
  | nil => simp [sumL, sumS]
  | cons x r ih =>
    have e1 : sumL (x :: r) = (x.length + 14) + sumL r := by simp [sumL]
    have e2 : sumS (x :: r) = (x.length + 10) + sumS r := by simp [sumS]
    omega
theorem sumS_mem {ls : List (List UInt8)} {x : List UInt8} (h : x ∈ ls) : x.length + 10 ≤ sumS ls := by
  obtain ⟨l1, l2, rfl⟩ := List.append_of_mem h
  simp only [sumS, List.map_append, List.map_cons, List.sum_append, List.sum_cons]
  omega

structure AddS where
  i : Nat
  d : Dk
  g : Hl

set_option maxHeartbeats 3200000 in
set_option maxRecDepth 100000 in
theorem files_any {R : Ending → World → Prop} {W w : World} {g : Hl} {H : List HP} {n c : Nat} {a : Option Addr} {t : Ti} {ls : List (List UInt8)} (ht : t.ok) (hs : Sat W w g H) (hl : LB g a n c ls) (hb : sumS ls ≤ 1000000000000000)
    (hR : ∀ w' g', Hl.le g g' → Sat W w' g' H → R (.returned (.bool true)) w') :
    Calls Try.prog 3 #[t.val, .slice a n c] w R := by
  have HR := Lib.hid hR
  clear hR
  have hhl := headB_len ht
  have hll := hl.len
  have hle := hl.le
  refine C.calls (args := [t.val, .slice a n c]) Try.func3 rfl rfl rfl ?_
  refine go ?_
  refine E.bx hs ?_
  intro b1 w1 hs
  replace hs : Sat W w1 g (blk b1 t.cs 24 :: H) := hs
  refine go ?_
  refine E.callf Try.func8 rfl ?_
  refine awake_any hs ?_
  intro w2 g2 hg2 hs
  refine go ?_
  refine E.callf Try.func9 rfl ?_
  refine short_any hs (hl.mono hg2) hb ?_
  intro w3 hs
  cases hsh : decide (sumS ls ≤ 2000)
  · refine go ?_
    refine E.callf Try.func8 rfl ?_
    refine awake_any hs ?_
    intro w4 g4 hg4 hs
    refine go ?_
    refine A.r1 ?_
    exact HR.out _ _ (hg2.trans hg4) hs.drop
  have hS : sumS ls ≤ 2000 := by simpa using hsh
  have hL := sumL_S ls
  refine go ?_
  refine E.callf Try.func10 rfl ?_
  refine new_any (by decide) hs ?_
  intro b w4 hs
  refine go ?_
  refine E.callf Try.func11 rfl ?_
  refine sread_any (name := [102]) hs ?_ ?_
  · intro s a' c' w' g' hsh
    cases hsh
  intro e w5 g5 he hne hg5 hs
  have he2 : e = 2 := by
    have : (⟨[], 65536, -1, 0, 0, false⟩ : Dk).sheet [102] = .error 2 := rfl
    rw [this] at he
    simpa using he.symm
  subst he2
  simp only [noSh]
  refine go ?_
  refine E.al hs ?_
  intro b6 w6 hs
  refine go ?_
  refine E.sto hs ?_
  intro w7 hs
  refine go ?_
  refine E.lda hs ag_title ?_
  obtain ⟨d1, e1, e2, e3, e4⟩ := begin_calm (d := ⟨[], 65536, -1, 0, 0, false⟩) ⟨rfl, by simp⟩ (t := t) fB_named rfl (by simp only [tk]; simp; omega)
  replace e2 : d1.fs = [([102], ⟨headB t, (headB t).length⟩)] := e2
  replace e3 : d1.room = 65536 := e3
  refine go ?_
  refine E.callf Try.func12 rfl ?_
  refine begin_any (name := [102]) ht hs.swap ?_
  intro w8 g8 hg8 hs
  rw [e1] at hs ⊢
  replace hs : Sat W w8 g8 (disk b d1 :: _) := hs
  refine go ?_
  refine E.lda hs ag_title ?_
  refine go ?_
  refine E.callf Try.func12 rfl ?_
  refine begin_any (name := [102]) ht hs ?_
  intro w9 g9 hg9 hs
  have hf1 : aget [102] d1.fs = some ⟨headB t, (headB t).length⟩ := by rw [e2, aget_one]
  rw [begin_old e4 hf1] at hs ⊢
  replace hs : Sat W w9 g9 (disk b d1 :: _) := hs
  replace hs := hs.d1
  have hg29 : Hl.le g2 g9 := (hg5.trans hg8).trans hg9
  have hl9 := hl.mono (hg2.trans hg29)
  refine gob ?_
  refine C.cutQ (fun _ : Unit => [(1, .slice a n c), (2, ptr b1), (5, ptr b)]) (fun _ w => ∃ d g', Hl.le g9 g' ∧ d.calm ∧ (∃ s, d.fs = [([102], ⟨headB t ++ catB ls, s⟩)]) ∧ Sat W w g' (disk b d :: blk b1 t.cs 24 :: H)) ?_ ?_
  · refine C.block ?_
    refine C.lp (fun x : AddS => [(1, .slice a n c), (2, ptr b1), (5, ptr b), (8, .int .i64 x.i)])
      (fun gk x w => gk = n - x.i ∧ x.i ≤ n ∧ Hl.le g9 x.g ∧ x.d.calm ∧ x.d.room = 65536 ∧ (∃ s, x.d.fs = [([102], ⟨headB t ++ catB (ls.take x.i), s⟩)]) ∧ Sat W w x.g (disk b x.d :: blk b1 t.cs 24 :: H)) n ⟨0, d1, g9⟩
      ⟨rfl, Nat.zero_le _, Hl.le_refl _, e4, e3, ⟨_, by rw [e2]; simp [catB]; rfl⟩, hs⟩ ?_
    clear hs e1 e2 e3 e4 hf1
    rintro gk ⟨i, d, gi⟩ w10 ⟨rfl, hi, hgi, hcalm, hroom, ⟨s, hfs⟩, hs⟩
    simp only at hi hgi hcalm hroom hfs hs ⊢
    refine go ?_
    refine C.cond_dec (p := (i : Int) < n) rfl (fun hlt => ?_) (fun hlt => ?_)
    rotate_left
    · have hin : i = n := by omega
      have ht2 : ls.take i = ls := List.take_of_length_le (by omega)
      rw [ht2] at hfs
      refine go ?_
      exact A.mt () ⟨d, gi, hgi, hcalm, ⟨s, hfs⟩, hs⟩
    · have hin : i < n := by omega
      obtain ⟨xs, hpx, a5, c5, hxi, hp5⟩ := (hl9.mono hgi).get hin
      have hil : i < ls.length := by omega
      have htk : ls.take (i + 1) = ls.take i ++ [ls[i]] := List.take_succ_eq_append_getElem hil
      have hst := sumL_take ls (i + 1)
      have hcl := catB_len (ls.take i) (by have := sumL_take ls i; omega)
      rw [htk, sumL_snoc] at hst
      have hwl := wrapB_len ls[i] (by omega)
      obtain ⟨d', q1, q2, q3, q4⟩ := add_calm (name := [102]) (p := ls[i]) hcalm (by omega) fB_named (by rw [hfs, tk_one, hroom]; simp only [List.length_append]; omega)
      refine go ?_
      refine E.ix el_row hs hpx i hxi ?_
      intro b11 o11 hc11
      refine go ?_
      refine E.callf Try.func13 rfl ?_
      refine add_any (name := [102]) hs hp5 rfl ?_
      intro w12 g12 hg12 hs
      rw [q1] at hs ⊢
      replace hs : Sat W w12 g12 (disk b d' :: _) := hs
      refine go ?_
      refine A.rd (n - (i + 1)) ⟨i + 1, d', g12⟩ ⟨rfl, by simp only; omega, hgi.trans hg12, q4, q3.trans hroom, ⟨s, ?_⟩, hs⟩
      rw [q2, hfs, put_one, htk, catB_snoc, List.append_assoc]
  clear hs e1 e2 e3 e4 hf1
  rintro _ w13 ⟨d, g13, hg13, hcalm, ⟨s, hfs⟩, hs⟩
  have hfile : aget [102] d.fs = some ⟨headB t ++ (catB ls ++ []), s⟩ := by rw [hfs, aget_one]; simp
  have hmx : ∀ x ∈ ls, x.length ≤ 2097152 := fun x hx => by have := sumS_mem hx; omega
  have hscan := scanB_lay t ht ls hmx []
  rw [allC_nil] at hscan
  simp only [List.append_nil, Nat.add_zero] at hscan hfile
  have hsheet : d.sheet [102] = .ok ⟨t, ls, (headB t).length + (catB ls).length, 0⟩ := by
    unfold Dk.sheet
    rw [hcalm.read hfile]
    exact hscan
  refine go ?_
  refine E.callf Try.func11 rfl ?_
  refine sread_any (name := [102]) hs ?_ ?_
  rotate_left
  · intro e w14 g14 he
    rw [hsheet] at he
    cases he
  intro sh a14 c14 w14 g14 he htok _ _ hg14 hlb hs
  rw [hsheet] at he
  simp only [Except.ok.injEq] at he
  subst he
  simp only [Sh.cs] at hlb ⊢
  obtain ⟨kd, ta, tb⟩ := t
  simp only [Ti.cs] at hs htok ht hhl hfs hfile hscan hsheet ⊢
  refine go ?_
  refine E.al hs ?_
  intro b15 w15 hs
  refine go ?_
  refine E.sto hs ?_
  intro w16 hs
  refine go ?_
  refine E.callf Try.func14 rfl ?_
  refine read_any (name := [102]) hs.swap ?_ ?_
  rotate_left
  · intro e w12 hre
    rw [hcalm.read hfile] at hre
    cases hre
  intro p a17 c17 w17 g17 hre hpl hg17 hp17 hs
  rw [hcalm.read hfile] at hre
  simp only [Except.ok.injEq] at hre
  subst hre
  have ag1 := ag_title
  have hl17 := hl9.mono ((hg13.trans hg14).trans hg17)
  have hlb17 := hlb.mono hg17
  refine go ?_
  refine C.held2 b15 b1 hs ?_
  intro w18 hk hs
  refine goh ?_
  refine EH.one (St.guard rfl rfl (St.callf Try.func15 rfl ?_))
  refine same_any hs hlb17 hl17 ?_
  intro w19 hs
  have e19 : decide (ls = ls) = true := by simp
  rw [e19]
  clear e19
  refine kept2 hs (fun hk => ?_)
  refine goh ?_
  have e21 : decide ((((headB ⟨kd, ta, tb⟩).length + (catB ls).length : Nat) : Int) = ((headB ⟨kd, ta, tb⟩).length : Int) + ((catB ls).length : Int)) = true := by rw [decide_eq_true_eq]; simp
  rw [e21]
  clear e21
  refine goh ?_
  refine EH.strc hp17 hk (fun _ h => ⟨h.1, h.2⟩) Try.underlying37 Try.underlying5 Try.underlying9 ?_
  refine goh ?_
  refine EH.one (St.guard rfl rfl (St.callf Try.func16 rfl ?_))
  refine llay_any (t := ⟨kd, ta, tb⟩) hs ht hl17 (by omega) ?_
  intro a22 c22 w22 g22 hg22 hs
  obtain ⟨g23, hg23, hp23, hs⟩ := hs.publishOwn
  refine kept2 hs (fun hk => ?_) (hg22.trans hg23)
  refine goh ?_
  refine EH.one (St.guard rfl rfl (St.string rfl Try.underlying37 Try.underlying5 Try.underlying9 (hp23.row hs) ?_))
  refine kept2 hs (fun hk => ?_) (hg22.trans hg23)
  refine goh ?_
  refine EH.done ?_
  refine go ?_
  refine A.r1 ?_
  rw [decide_eq_true rfl]
  refine HR.out _ _ (((((hg2.trans hg29).trans hg13).trans hg14).trans hg17).trans (hg22.trans hg23)) ?_
  exact hs.drop.drop.drop
end Go.Proofs.Ytcfbmmlgdopbmaa
