/-
  The walk of SheetSwaps.
-/
import Derived.Test.YtcfbmmlgdopbmaaLi
import Derived.Test.YtcfbmmlgdopbmaaDk
namespace Go.Proofs.Ytcfbmmlgdopbmaa
open Go.RowKit
set_option linter.unusedVariables false
set_option linter.unusedSimpArgs false

/-- Behind the swap that may be stopped, and the crash. -/
theorem swap_crash {d : Dk} (h : d.off = false) {p : List UInt8} {t : Ti} {ls : List (List UInt8)} (keep : Int) (hfs : d.fs = [([102], ⟨p, p.length⟩)]) (hl : ∀ x ∈ ls, x.length ≤ 2097152) (hr : (p.length : Int) + (headB t ++ catB ls).length ≤ d.room) :
    ∃ e d' P, d.swap [102] t ls = (e, d') ∧ (d'.crash keep).room = d.room ∧ (d'.crash keep).calm ∧
      ((d'.crash keep).fs = [([102], ⟨P, P.length⟩)] ∨ ∃ X, (d'.crash keep).fs = [([102], ⟨P, P.length⟩), (fN, X)]) ∧ ((e = 7 ∧ P = p) ∨ (e = 0 ∧ P = headB t ++ catB ls)) := by
  obtain ⟨e, d', q1, q2, ⟨rfl, q3 | ⟨X, q3⟩⟩ | ⟨rfl, q3⟩⟩ := swap_stop h (A := ⟨p, p.length⟩) (t := t) (ls := ls) hfs hl hr
  · exact ⟨7, d', p, q1, q2, ⟨rfl, by simp [Dk.crash]⟩, .inl (by simp [Dk.crash, q3, crash_safe]), .inl ⟨rfl, rfl⟩⟩
  · exact ⟨7, d', p, q1, q2, ⟨rfl, by simp [Dk.crash]⟩, .inr ⟨X.crash keep, by simp [Dk.crash, q3, crash_safe]⟩, .inl ⟨rfl, rfl⟩⟩
  · refine ⟨0, d', headB t ++ catB ls, q1, q2, ⟨rfl, by simp [Dk.crash]⟩, .inl ?_, .inr ⟨rfl, rfl⟩⟩
    have := crash_safe (headB t ++ catB ls) keep
    simp only [Dk.crash, q3, List.map_cons, List.map_nil, this]

set_option maxHeartbeats 6400000 in
set_option maxRecDepth 100000 in
theorem swaps_any {R : Ending → World → Prop} {W w : World} {g : Hl} {H : List HP} {n c n2 c2 stop : Nat} {torn keep : Int} {a a2 : Option Addr} {t u : Ti} {la lb : List (List UInt8)} (ht : t.ok) (hu : u.ok) (hs : Sat W w g H) (hla : LB g a n c la) (hba : sumS la ≤ 1000000000000000) (hlb : LB g a2 n2 c2 lb) (hbb : sumS lb ≤ 1000000000000000) (hstop : stop < 256)
    (hkeep : -9223372036854775808 ≤ keep ∧ keep ≤ 9223372036854775807)
    (hR : ∀ w' g', Hl.le g g' → Sat W w' g' H → R (.returned (.bool true)) w') :
    Calls Try.prog 7 #[t.val, u.val, .slice a n c, .slice a2 n2 c2, .int .u8 stop, .int .i64 torn, .int .i64 keep] w R := by
  have HR := Lib.hid hR
  clear hR
  have hhl := headB_len ht
  have hhu := headB_len hu
  refine C.calls (args := [t.val, u.val, .slice a n c, .slice a2 n2 c2, .int .u8 stop, .int .i64 torn, .int .i64 keep]) Try.func7 rfl rfl rfl ?_
  refine go ?_
  refine E.bx hs ?_
  intro b1 w0 hs
  replace hs : Sat W w0 g (blk b1 t.cs 24 :: H) := hs
  refine go ?_
  refine E.bx hs ?_
  intro b2 w1 hs
  replace hs : Sat W w1 g (blk b2 u.cs 24 :: blk b1 t.cs 24 :: H) := hs
  refine go ?_
  refine E.callf Try.func8 rfl ?_
  refine awake_any hs ?_
  intro w2 g2 hg2 hs
  refine go ?_
  refine E.callf Try.func9 rfl ?_
  refine short_any hs (hla.mono hg2) hba ?_
  intro w3 hs
  cases hsh : decide (sumS la ≤ 2000)
  · refine go ?_
    refine E.callf Try.func8 rfl ?_
    refine awake_any hs ?_
    intro w4 g4 hg4 hs
    refine go ?_
    refine A.r1 ?_
    exact HR.out _ _ (hg2.trans hg4) hs.drop.drop
  have hSa : sumS la ≤ 2000 := by simpa using hsh
  have hLa := sumL_S la
  clear hsh
  refine go ?_
  refine E.callf Try.func9 rfl ?_
  refine short_any hs (hlb.mono hg2) hbb ?_
  intro w3 hs
  cases hsh : decide (sumS lb ≤ 2000)
  · refine go ?_
    refine E.callf Try.func8 rfl ?_
    refine awake_any hs ?_
    intro w4 g4 hg4 hs
    refine go ?_
    refine A.r1 ?_
    exact HR.out _ _ (hg2.trans hg4) hs.drop.drop
  have hSb : sumS lb ≤ 2000 := by simpa using hsh
  have hLb := sumL_S lb
  clear hsh
  refine go ?_
  refine E.callf Try.func10 rfl ?_
  refine new_any (by decide) hs ?_
  intro b w5 hs
  have hcla := catB_len la (by omega)
  have hclb := catB_len lb (by omega)
  have e1 : (headB t ++ catB la).length = (headB t).length + (catB la).length := List.length_append
  have e2 : (headB u ++ catB lb).length = (headB u).length + (catB lb).length := List.length_append
  have hma : ∀ x ∈ la, x.length ≤ 2097152 := fun x hx => by have := sumS_mem hx; omega
  have hmb : ∀ x ∈ lb, x.length ≤ 2097152 := fun x hx => by have := sumS_mem hx; omega
  obtain ⟨d1, f1, f2, f3, f4⟩ := swap_calm (d := ⟨[], 65536, -1, 0, 0, false⟩) ⟨rfl, by simp⟩ (name := [102]) (t := t) (ls := la) (by decide) (by decide) rfl hma (by rw [e1]; simp only [tk]; simp; omega)
  replace f2 : d1.fs = [([102], ⟨headB t ++ catB la, (headB t ++ catB la).length⟩)] := f2
  replace f3 : d1.room = 65536 := f3
  refine go ?_
  refine E.lda hs ag_title ?_
  refine go ?_
  refine E.callf Try.func20 rfl ?_
  refine swap_any (name := [102]) ht hs (hla.mono hg2) (by omega) (by decide) ?_
  intro w6 g6 hg6 hs
  rw [f1] at hs ⊢
  replace hs : Sat W w6 g6 (disk b d1 :: _) := hs
  refine go ?_
  have ht1 : (torn.tmod 500) < 500 := Int.tmod_lt_of_pos torn (by decide)
  obtain ⟨k, hk⟩ : ∃ k : Nat, k = stop % 6 := ⟨_, rfl⟩
  have e3 : (stop : Int).tmod 6 = (k : Int) := by rw [hk]; exact (Int.ofNat_tmod stop 6).symm
  rw [e3]
  clear e3
  have hk6 : k < 6 := by omega
  clear hk
  generalize torn.tmod 500 = tt at ht1 ⊢
  refine E.callf Try.func22 rfl ?_
  refine arm_any (acts := (k : Int)) (torn := tt) (by omega) (by omega) hs ?_
  intro w7 hs
  obtain ⟨e, d3, P, q1, q2, q3, q4, q5⟩ := swap_crash (d := { d1 with fuse := (k : Int), torn := max tt 0 }) f4.1 (t := u) (ls := lb) keep f2 hmb (by simp only [f3]; omega)
  have q2' : (d3.crash keep).room = 65536 := q2.trans f3
  clear q2 f1
  refine go ?_
  refine E.lda hs ag_title ?_
  refine go ?_
  refine E.callf Try.func20 rfl ?_
  refine swap_any (name := [102]) hu hs (hlb.mono (hg2.trans hg6)) (by omega) (by decide) ?_
  intro w8 g8 hg8 hs
  rw [q1] at hs ⊢
  replace hs : Sat W w8 g8 (disk b d3 :: _) := hs
  clear q1
  refine go ?_
  refine E.callf Try.func23 rfl ?_
  refine crash_any hkeep hs ?_
  intro w9 hs
  obtain ⟨d4, hd4⟩ : ∃ d4, d4 = d3.crash keep := ⟨_, rfl⟩
  rw [← hd4] at hs q2' q3 q4
  clear hd4
  have hrd : d4.read [102] = .ok P := by
    rcases q4 with q4 | ⟨X, q4⟩
    · exact q3.read (f := ⟨P, P.length⟩) (by rw [q4, aget_one])
    · exact q3.read (f := ⟨P, P.length⟩) (by rw [q4]; simp [aget])
  refine go ?_
  refine E.callf Try.func14 rfl ?_
  refine read_any (name := [102]) hs ?_ ?_
  rotate_left
  · intro e w12 hre
    rw [hrd] at hre
    cases hre
  intro p a10 c10 w10 g10 hre _ hg10 hp10 hs
  rw [hrd] at hre
  simp only [Except.ok.injEq] at hre
  subst hre
  refine go ?_
  have ag1 := ag_title
  obtain ⟨kd, ta, tb⟩ := t
  obtain ⟨ku, ua, ub⟩ := u
  simp only [Ti.cs] at hs
  have hg10' : Hl.le g g10 := ((hg2.trans hg6).trans hg8).trans hg10
  refine C.cutQ (fun _ : Unit => [(3, .slice a2 n2 c2), (8, ptr b2), (15, ptr b), (16, .int .i64 e), (17, .slice a10 P.length c10), (19, .bool (decide (P = headB ⟨kd, ta, tb⟩ ++ catB la)))]) (fun _ w => ∃ g', Hl.le g10 g' ∧ Sat W w g' (disk b d4 :: blk b2 [.int .u8 ku.toNat, .int .u64 ua, .int .u64 ub] 24 :: blk b1 [.int .u8 kd.toNat, .int .u64 ta, .int .u64 tb] 24 :: H)) ?_ ?_
  · refine C.held2 b1 b2 hs ?_
    intro w12 hk hs
    refine goh ?_
    refine EH.strc hp10 hk (fun _ h => ⟨h.1, h.2⟩) Try.underlying37 Try.underlying5 Try.underlying9 ?_
    refine goh ?_
    refine EH.one (St.callf Try.func16 rfl ?_)
    refine llay_any (t := ⟨kd, ta, tb⟩) hs ht (hla.mono hg10') (by omega) ?_
    intro a22 c22 w22 g22 hg22 hs
    obtain ⟨g23, hg23, hp23, hs⟩ := hs.publishOwn
    refine kept2 hs (fun hk => ?_) (hg22.trans hg23)
    refine goh ?_
    refine EH.one (St.string rfl Try.underlying37 Try.underlying5 Try.underlying9 (hp23.row hs) ?_)
    refine kept2 hs (fun hk => ?_) (hg22.trans hg23)
    refine goh ?_
    refine EH.done ?_
    refine go ?_
    exact A.mt () ⟨g23, hg22.trans hg23, hs⟩
  clear hs
  rintro _ w13 ⟨g13, hg13, hs⟩
  refine go ?_
  refine C.cutQ (fun _ : Unit => [(3, .slice a2 n2 c2), (8, ptr b2), (15, ptr b), (16, .int .i64 e), (19, .bool (decide (P = headB ⟨kd, ta, tb⟩ ++ catB la))), (20, .bool (decide (P = headB ⟨ku, ua, ub⟩ ++ catB lb)))]) (fun _ w => ∃ g', Hl.le g13 g' ∧ Sat W w g' (disk b d4 :: blk b2 [.int .u8 ku.toNat, .int .u64 ua, .int .u64 ub] 24 :: blk b1 [.int .u8 kd.toNat, .int .u64 ta, .int .u64 tb] 24 :: H)) ?_ ?_
  · refine C.held2 b1 b2 hs ?_
    intro w12 hk hs
    refine goh ?_
    refine EH.strc (hp10.mono hg13) hk (fun _ h => ⟨h.1, h.2⟩) Try.underlying37 Try.underlying5 Try.underlying9 ?_
    refine goh ?_
    refine EH.one (St.callf Try.func16 rfl ?_)
    refine llay_any (t := ⟨ku, ua, ub⟩) hs hu (hlb.mono (hg10'.trans hg13)) (by omega) ?_
    intro a22 c22 w22 g22 hg22 hs
    obtain ⟨g23, hg23, hp23, hs⟩ := hs.publishOwn
    refine kept2 hs (fun hk => ?_) (hg22.trans hg23)
    refine goh ?_
    refine EH.one (St.string rfl Try.underlying37 Try.underlying5 Try.underlying9 (hp23.row hs) ?_)
    refine kept2 hs (fun hk => ?_) (hg22.trans hg23)
    refine goh ?_
    refine EH.done ?_
    refine go ?_
    exact A.mt () ⟨g23, hg22.trans hg23, hs⟩
  clear hs
  rintro _ w14 ⟨g14, hg14, hs⟩
  have hPl : P.length ≤ 10000 := by
    rcases q5 with ⟨-, hP⟩ | ⟨-, hP⟩
    · rw [hP]; omega
    · rw [hP]; omega
  obtain ⟨d5, r1, r2, r3, r4⟩ := swap_again q3 (A := ⟨P, P.length⟩) (t := ⟨ku, ua, ub⟩) (ls := lb) q4 hmb (by simp only [q2']; omega)
  have hnx1 : e = 7 → decide (P = headB ⟨kd, ta, tb⟩ ++ catB la) = true := fun h => by
    rcases q5 with ⟨-, hP⟩ | ⟨h2, -⟩
    · exact decide_eq_true hP
    · omega
  have hnx2 : e = 0 → decide (P = headB ⟨ku, ua, ub⟩ ++ catB lb) = true := fun h => by
    rcases q5 with ⟨h2, -⟩ | ⟨-, hP⟩
    · omega
    · exact decide_eq_true hP
  have he70 : e = 7 ∨ e = 0 := by
    rcases q5 with ⟨h, -⟩ | ⟨h, -⟩
    · exact .inl h
    · exact .inr h
  clear q5
  generalize decide (P = headB ⟨kd, ta, tb⟩ ++ catB la) = o1 at hnx1 ⊢
  generalize decide (P = headB ⟨ku, ua, ub⟩ ++ catB lb) = o2 at hnx2 ⊢
  have tail : ∀ (ρ : Unit), True := fun _ => trivial
  clear tail
  rcases he70 with rfl | rfl
  · have h1 : o1 = true := hnx1 rfl
    subst h1
    cases o2
    · refine go ?_
      refine E.callf Try.func20 rfl ?_
      refine swap_any (name := [102]) (t := ⟨ku, ua, ub⟩) hu hs (hlb.mono ((hg10'.trans hg13).trans hg14)) (by omega) (by decide) ?_
      intro w16 g16 hg16 hs
      rw [r1] at hs ⊢
      replace hs : Sat W w16 g16 (disk b d5 :: _) := hs
      clear r1
      refine go ?_
      refine E.callf Try.func24 rfl ?_
      refine names_any r4.1 (by rw [r2]; simp) (by rw [r2]; simp) hs ?_
      intro a17 c17 w17 g17 hg17 hp17 hs
      rw [r2]
      refine go ?_
      refine A.r1 ?_
      rw [decide_eq_true rfl]
      exact HR.out _ _ ((((hg10'.trans hg13).trans hg14).trans hg16).trans hg17) hs.drop.drop.drop
    · refine go ?_
      refine E.callf Try.func20 rfl ?_
      refine swap_any (name := [102]) (t := ⟨ku, ua, ub⟩) hu hs (hlb.mono ((hg10'.trans hg13).trans hg14)) (by omega) (by decide) ?_
      intro w16 g16 hg16 hs
      rw [r1] at hs ⊢
      replace hs : Sat W w16 g16 (disk b d5 :: _) := hs
      clear r1
      refine go ?_
      refine E.callf Try.func24 rfl ?_
      refine names_any r4.1 (by rw [r2]; simp) (by rw [r2]; simp) hs ?_
      intro a17 c17 w17 g17 hg17 hp17 hs
      rw [r2]
      refine go ?_
      refine A.r1 ?_
      rw [decide_eq_true rfl]
      exact HR.out _ _ ((((hg10'.trans hg13).trans hg14).trans hg16).trans hg17) hs.drop.drop.drop
  · have h1 : o2 = true := hnx2 rfl
    subst h1
    cases o1
    · refine go ?_
      refine E.callf Try.func20 rfl ?_
      refine swap_any (name := [102]) (t := ⟨ku, ua, ub⟩) hu hs (hlb.mono ((hg10'.trans hg13).trans hg14)) (by omega) (by decide) ?_
      intro w16 g16 hg16 hs
      rw [r1] at hs ⊢
      replace hs : Sat W w16 g16 (disk b d5 :: _) := hs
      clear r1
      refine go ?_
      refine E.callf Try.func24 rfl ?_
      refine names_any r4.1 (by rw [r2]; simp) (by rw [r2]; simp) hs ?_
      intro a17 c17 w17 g17 hg17 hp17 hs
      rw [r2]
      refine go ?_
      refine A.r1 ?_
      rw [decide_eq_true rfl]
      exact HR.out _ _ ((((hg10'.trans hg13).trans hg14).trans hg16).trans hg17) hs.drop.drop.drop
    · refine go ?_
      refine E.callf Try.func20 rfl ?_
      refine swap_any (name := [102]) (t := ⟨ku, ua, ub⟩) hu hs (hlb.mono ((hg10'.trans hg13).trans hg14)) (by omega) (by decide) ?_
      intro w16 g16 hg16 hs
      rw [r1] at hs ⊢
      replace hs : Sat W w16 g16 (disk b d5 :: _) := hs
      clear r1
      refine go ?_
      refine E.callf Try.func24 rfl ?_
      refine names_any r4.1 (by rw [r2]; simp) (by rw [r2]; simp) hs ?_
      intro a17 c17 w17 g17 hg17 hp17 hs
      rw [r2]
      refine go ?_
      refine A.r1 ?_
      rw [decide_eq_true rfl]
      exact HR.out _ _ ((((hg10'.trans hg13).trans hg14).trans hg16).trans hg17) hs.drop.drop.drop
end Go.Proofs.Ytcfbmmlgdopbmaa
