/-
  The walk of SheetFull.
-/
import Derived.Test.YtcfbmmlgdopbmaaLg
import Derived.Test.YtcfbmmlgdopbmaaLd
namespace Go.Proofs.Ytcfbmmlgdopbmaa
open Go.RowKit
set_option linter.unusedVariables false
set_option linter.unusedSimpArgs false

set_option maxHeartbeats 6400000 in
set_option maxRecDepth 100000 in
theorem full_any {R : Ending → World → Prop} {W w : World} {g : Hl} {H : List HP} {n c n2 c2 room : Nat} {a a2 : Option Addr} {t : Ti} {la lb : List (List UInt8)} (ht : t.ok) (hs : Sat W w g H) (hla : LB g a n c la) (hba : sumS la ≤ 1000000000000000) (hlb : LB g a2 n2 c2 lb) (hbb : sumS lb ≤ 1000000000000000) (hroom : room < 65536)
    (hR : ∀ w' g', Hl.le g g' → Sat W w' g' H → R (.returned (.bool true)) w') :
    Calls Try.prog 6 #[t.val, .slice a n c, .slice a2 n2 c2, .int .u16 room] w R := by
  have HR := Lib.hid hR
  clear hR
  have hhl := headB_len ht
  refine C.calls (args := [t.val, .slice a n c, .slice a2 n2 c2, .int .u16 room]) Try.func6 rfl rfl rfl ?_
  refine go ?_
  refine E.bx hs ?_
  intro b1 w1 hs
  replace hs : Sat W w1 g (blk b1 t.cs 24 :: H) := hs
  refine go ?_
  refine E.callf Try.func8 rfl ?_
  refine awake_any hs ?_
  intro w2 g2 hg2 hs
  refine go ?_
  refine E.callf Try.func9 rfl ?_
  refine short_any hs (hla.mono hg2) hba ?_
  intro w3 hs
  cases hsh : decide (sumS la ≤ 2000)
  · refine go ?_
    refine E.callf Try.func8 rfl ?_
    refine awake_any hs ?_
    intro w4 g4 hg4 hs
    refine go ?_
    refine A.r1 ?_
    exact HR.out _ _ (hg2.trans hg4) hs.drop
  have hSa : sumS la ≤ 2000 := by simpa using hsh
  have hLa := sumL_S la
  clear hsh
  refine go ?_
  refine E.callf Try.func9 rfl ?_
  refine short_any hs (hlb.mono hg2) hbb ?_
  intro w3 hs
  cases hsh : decide (sumS lb ≤ 2000)
  · refine go ?_
    refine E.callf Try.func8 rfl ?_
    refine awake_any hs ?_
    intro w4 g4 hg4 hs
    refine go ?_
    refine A.r1 ?_
    exact HR.out _ _ (hg2.trans hg4) hs.drop
  have hSb : sumS lb ≤ 2000 := by simpa using hsh
  have hLb := sumL_S lb
  clear hsh
  refine go ?_
  refine E.callf Try.func10 rfl ?_
  refine new_any (by decide) hs ?_
  intro b w5 hs
  have hcla := catB_len la (by omega)
  have hclb := catB_len lb (by omega)
  have e1 : (headB t ++ catB la).length = (headB t).length + (catB la).length := List.length_append
  have e2 : (headB t ++ catB lb).length = (headB t).length + (catB lb).length := List.length_append
  have hma : ∀ x ∈ la, x.length ≤ 2097152 := fun x hx => by have := sumS_mem hx; omega
  have hmb : ∀ x ∈ lb, x.length ≤ 2097152 := fun x hx => by have := sumS_mem hx; omega
  obtain ⟨d1, f1, f2, f3, f4⟩ := swap_calm (d := ⟨[], 65536, -1, 0, 0, false⟩) ⟨rfl, by simp⟩ (name := [102]) (t := t) (ls := la) (by decide) (by decide) rfl hma (by rw [e1]; simp only [tk]; simp; omega)
  replace f2 : d1.fs = [([102], ⟨headB t ++ catB la, (headB t ++ catB la).length⟩)] := f2
  replace f3 : d1.room = 65536 := f3
  refine go ?_
  refine E.lda hs.swap ag_title ?_
  refine go ?_
  refine E.callf Try.func20 rfl ?_
  refine swap_any (name := [102]) ht hs (hla.mono hg2) (by omega) (by decide) ?_
  intro w6 g6 hg6 hs
  rw [f1] at hs ⊢
  replace hs : Sat W w6 g6 (disk b d1 :: _) := hs
  refine go ?_
  refine E.lda hs ag_title ?_
  refine go ?_
  refine E.callf Try.func16 rfl ?_
  refine llay_any hs ht (hla.mono (hg2.trans hg6)) (by omega) ?_
  intro a7 c7 w7 g7 hg7 hs
  replace hs := hs.drop
  refine go ?_
  obtain ⟨m, hm⟩ : ∃ m : Nat, m = room % 3000 := ⟨_, rfl⟩
  have hm3 : m < 3000 := by omega
  have e3 : (room : Int).tmod 3000 = (m : Int) := by rw [hm]; exact (Int.ofNat_tmod room 3000).symm
  have e4 : IntKind.i64.wrap (((headB t).length : Int) + ((catB la).length : Int) + (room : Int).tmod 3000) = ((headB t).length : Int) + ((catB la).length : Int) + (m : Int) := by rw [e3, wrap64_id (by omega) (by omega)]
  rw [e4]
  clear e3
  have hE4 := Lib.hid e4
  clear e4 hm
  refine E.callf Try.func21 rfl ?_
  refine widen_any (room := ((headB t).length : Int) + ((catB la).length : Int) + (m : Int)) (by omega) hs ?_
  intro w8 hs
  have f4' : Dk.calm { d1 with room := ((headB t).length : Int) + ((catB la).length : Int) + (m : Int) } := f4
  refine go ?_
  refine E.lda hs ag_title ?_
  refine go ?_
  have hswap : ∃ e d3 P s, ({ d1 with room := ((headB t).length : Int) + ((catB la).length : Int) + (m : Int) } : Dk).swap [102] t lb = (e, d3) ∧ d3.calm ∧ aget [102] d3.fs = some ⟨P, s⟩ ∧ (m < (headB t).length + (catB lb).length → e = 3 ∧ P = headB t ++ catB la) ∧ (¬ m < (headB t).length + (catB lb).length → e = 0 ∧ P = headB t ++ catB lb) := by
    have htk : tk d1.fs = (headB t).length + (catB la).length := by rw [f2, tk_one, e1]
    by_cases h : m < (headB t).length + (catB lb).length
    · obtain ⟨d3, q1, q2, q3, q4⟩ := swap_full f4' (name := [102]) (t := t) (ls := lb) (by decide) (by rw [f2]; rfl) hmb (by simp only [e2, htk]; omega)
      exact ⟨3, d3, _, _, q1, q4, by rw [q2, f2, aget_one], fun _ => ⟨rfl, rfl⟩, fun h' => absurd h h'⟩
    · obtain ⟨d3, q1, q2, q3, q4⟩ := swap_calm f4' (name := [102]) (t := t) (ls := lb) (by decide) (by decide) (by rw [f2]; rfl) hmb (by simp only [e2, htk]; omega)
      exact ⟨0, d3, _, _, q1, q4, by rw [q2, f2, aput_one, aget_one], fun h' => absurd h' h, fun _ => ⟨rfl, rfl⟩⟩
  obtain ⟨e, d3, P, s, q1, q2, q3, q4, q5⟩ := hswap
  refine E.callf Try.func20 rfl ?_
  refine swap_any (name := [102]) ht hs (hlb.mono (hg2.trans (hg6.trans hg7))) (by omega) (by decide) ?_
  intro w9 g9 hg9 hs
  rw [q1] at hs ⊢
  replace hs : Sat W w9 g9 (disk b d3 :: _) := hs
  refine go ?_
  refine E.callf Try.func14 rfl ?_
  refine read_any (name := [102]) hs ?_ ?_
  rotate_left
  · intro e w12 hre
    rw [q2.read q3] at hre
    cases hre
  intro p a10 c10 w10 g10 hre _ hg10 hp10 hs
  rw [q2.read q3] at hre
  simp only [Except.ok.injEq] at hre
  subst hre
  refine go ?_
  refine E.lda hs ag_title ?_
  refine go ?_
  have hg10' : Hl.le g g10 := (((hg2.trans hg6).trans hg7).trans hg9).trans hg10
  refine E.callf Try.func16 rfl ?_
  refine llay_any hs ht (hlb.mono hg10') (by omega) ?_
  intro a11 c11 w11 g11 hg11 hs
  replace hs := hs.drop
  refine go ?_
  rw [hE4.out]
  have ag1 := ag_title
  obtain ⟨kd, ta, tb⟩ := t
  simp only [Ti.cs] at hs
  have hg11' := hg10'.trans hg11
  have hp11 := hp10.mono hg11
  by_cases h : m < (headB ⟨kd, ta, tb⟩).length + (catB lb).length
  · obtain ⟨rfl, rfl⟩ := q4 h
    refine C.cond_true (by rw [decide_eq_true (by omega)]; exact rfl) ?_
    refine gob ?_
    refine C.held1 b1 hs ?_
    intro w12 hk hs
    refine goh ?_
    refine EH.strc hp11 hk (fun _ h => h) Try.underlying37 Try.underlying5 Try.underlying9 ?_
    refine goh ?_
    refine EH.one (St.guard rfl rfl (St.callf Try.func16 rfl ?_))
    refine llay_any (t := ⟨kd, ta, tb⟩) hs ht (hla.mono hg11') (by omega) ?_
    intro a22 c22 w22 g22 hg22 hs
    obtain ⟨g23, hg23, hp23, hs⟩ := hs.publishOwn
    refine kept1 hs (fun hk => ?_) (hg22.trans hg23)
    refine goh ?_
    refine EH.one (St.guard rfl rfl (St.string rfl Try.underlying37 Try.underlying5 Try.underlying9 (hp23.row hs) ?_))
    refine kept1 hs (fun hk => ?_) (hg22.trans hg23)
    refine goh ?_
    refine EH.done ?_
    refine go ?_
    refine A.r1 ?_
    rw [decide_eq_true rfl]
    exact HR.out _ _ (hg11'.trans (hg22.trans hg23)) hs.drop.drop
  · obtain ⟨rfl, rfl⟩ := q5 h
    refine C.cond_false (by rw [decide_eq_false (by omega)]; exact rfl) ?_
    refine gob ?_
    refine C.held1 b1 hs ?_
    intro w12 hk hs
    refine goh ?_
    refine EH.strc hp11 hk (fun _ h => h) Try.underlying37 Try.underlying5 Try.underlying9 ?_
    refine goh ?_
    refine EH.one (St.guard rfl rfl (St.callf Try.func16 rfl ?_))
    refine llay_any (t := ⟨kd, ta, tb⟩) hs ht (hlb.mono hg11') (by omega) ?_
    intro a22 c22 w22 g22 hg22 hs
    obtain ⟨g23, hg23, hp23, hs⟩ := hs.publishOwn
    refine kept1 hs (fun hk => ?_) (hg22.trans hg23)
    refine goh ?_
    refine EH.one (St.guard rfl rfl (St.string rfl Try.underlying37 Try.underlying5 Try.underlying9 (hp23.row hs) ?_))
    refine kept1 hs (fun hk => ?_) (hg22.trans hg23)
    refine goh ?_
    refine EH.done ?_
    refine go ?_
    refine A.r1 ?_
    rw [decide_eq_true rfl]
    exact HR.out _ _ (hg11'.trans (hg22.trans hg23)) hs.drop.drop
end Go.Proofs.Ytcfbmmlgdopbmaa
