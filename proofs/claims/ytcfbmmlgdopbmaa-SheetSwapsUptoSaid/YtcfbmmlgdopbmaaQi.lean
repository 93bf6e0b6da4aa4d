/-
  Layer 3 (check): the walk of the records ahead.
-/
import Derived.Test.YtcfbmmlgdopbmaaQh
namespace Go.Proofs.Ytcfbmmlgdopbmaa
open Go.RowKit
set_option linter.unusedVariables false
set_option linter.unusedSimpArgs false

structure AS where
  ps : List (Value × List UInt8)
  la : Option Addr
  lc : Nat
  ra : Option Addr
  rn : Nat
  rc : Nat
  g : Hl

set_option maxHeartbeats 1600000 in
set_option maxRecDepth 100000 in
theorem all_any {R : Ending → World → Prop} {W w : World} {g : Hl} {H : List HP} {a : Option Addr} {n c : Nat} {l : List UInt8} (most : Nat) {mi : Int} (hmi : mi = most) (hmost : most ≤ 1000000000) (hs : Sat W w g H) (hp : Pr 1 g (.slice a n c) n (bs l)) (hl : l.length = n) (hn : n ≤ 1000000000)
    (hR : ∀ ps k e a' c' g' w', Hl.le g g' → Rws g' ps → allB most (n + 1) l = (ps.map Prod.snd, k, e) → k ≤ n → (e = 0 ∨ e = 4 ∨ e = 5 ∨ e = 6) → Sat W w' g' (own 37 1 (.slice a' ps.length c') ps.length (ps.map Prod.fst) :: H) → R (.returned (.tuple #[.slice a' ps.length c', .int .i64 (k : Nat), .int .i64 e])) w') :
    Calls Try.prog 47 #[.slice a n c, .int .i64 mi] w R := by
  subst hmi
  have HR := Lib.hid hR
  clear hR
  refine C.calls (args := [.slice a n c, .int .i64 most]) Try.func47 rfl rfl rfl ?_
  refine go ?_
  have rw0 : Rws g ([] : List (Value × List UInt8)) := fun p hp => by simp at hp
  have al0 : ∀ r k e, allB most (n + 1) (l.drop (n - n)) = (r, k, e) → allB most (n + 1) l = (([] : List (Value × List UInt8)).map Prod.snd ++ r, n - n + k, e) := fun r k e h => by simpa using h
  refine C.loop (fun x : AS => [(0, .slice a n c), (1, .int .i64 most), (7, .slice x.la x.ps.length x.lc), (8, .slice x.ra x.rn x.rc)])
    (fun gk x w => gk = x.rn ∧ Hl.le g x.g ∧ Rws x.g x.ps ∧ x.rn + x.ps.length ≤ n ∧ Pr 1 x.g (.slice x.ra x.rn x.rc) x.rn (bs (l.drop (n - x.rn))) ∧ Sat W w x.g (own 37 1 (.slice x.la x.ps.length x.lc) x.ps.length (x.ps.map Prod.fst) :: H) ∧
      (∀ r k e, allB most (x.rn + 1) (l.drop (n - x.rn)) = (r, k, e) → allB most (n + 1) l = (x.ps.map Prod.snd ++ r, n - x.rn + k, e))) n ⟨[], none, 0, a, n, c, g⟩ wk_ ⟨rfl, Hl.le_refl g, rw0, by simp, by simpa using hp, hs.nilOwn, al0⟩ ?_
  clear hs
  rintro rn ⟨ps, la, lc, ra, rn, rc, g1⟩ w1 ⟨rfl, hg1, hps, hrl, hpr, hs, hall⟩
  simp only at hg1 hps hrl hpr hs hall ⊢
  refine go ?_
  refine C.cond_dec (p := (0 : Int) < rn) rfl (fun hlt => ?_) (fun hlt => ?_)
  · have hrl2 : (l.drop (n - rn)).length = rn := by rw [List.length_drop]; omega
    have hne : l.drop (n - rn) ≠ [] := fun e => by rw [e] at hrl2; simp at hrl2; omega
    refine go ?_
    refine E.callf Try.func45 rfl ?_
    refine open_any most rfl hmost hs hpr hrl2 (by omega) ?_ ?_
    · intro v k b' o' c' a2 c2 w2 ho hk hkv hv hs hp2
      obtain ⟨g2, hg2, hpb, hs⟩ := hs.publishOwn
      refine go ?_
      refine E.bsl hs ?_
      intro b3 w3 hs
      apply E.cons
      apply St.append el_row hs.swap (hs.rowOf (size := 1) 1 rfl (by decide)) (by intro u hu; simp only [List.mem_singleton] at hu; subst hu; rfl) (by omega) (by omega)
      · exact rfl
      · exact rfl
      intro a4 c4 w4 _ _ hs
      refine go ?_
      have hv2 : ((l.drop (n - rn)).drop k).take v = (l.drop (n - rn + k)).take v := by rw [List.drop_drop]
      have hd2 : (l.drop (n - rn)).drop (k + v + 4) = l.drop (n - (rn - (k + v + 4))) := by
        rw [List.drop_drop]
        congr 1
        omega
      have hbl : (((l.drop (n - rn)).drop k).take v).length = v := by rw [List.length_take, List.length_drop, hrl2]; omega
      have e3 : ps.length + 1 = (ps ++ [(Value.slice a2 v c2, ((l.drop (n - rn)).drop k).take v)]).length := by simp
      have e1 : ps.map Prod.fst ++ [Value.slice a2 v c2] = (ps ++ [(Value.slice a2 v c2, ((l.drop (n - rn)).drop k).take v)]).map Prod.fst := by simp
      have hs := hs.swap.drop
      rw [e1, e3] at hs
      rw [e3]
      rw [hd2] at hp2
      refine A.round (rn - (k + v + 4)) ⟨_, a4, c4, _, rn - (k + v + 4), _, g2⟩ (by omega) wk_ ⟨rfl, hg1.trans hg2, ?_, ?_, hp2.mono hg2, hs, ?_⟩
      · intro p hp
        rcases List.mem_append.1 hp with hp | hp
        · exact (hps p hp).mono hg2
        · simp only [List.mem_singleton] at hp
          subst hp
          simp only [hbl]
          exact hpb
      · simp only [List.length_append, List.length_cons, List.length_nil]
        omega
      · intro r k2 e2 h2
        simp only at h2 ⊢
        have h3 : allB most rn (l.drop (n - (rn - (k + v + 4)))) = (r, k2, e2) := by
          rw [← h2]
          refine allB_fuel most _ _ _ ?_ ?_ <;> (rw [List.length_drop]; omega)
        have := hall ((((l.drop (n - rn)).drop k).take v) :: r) (k + v + 4 + k2) e2 (by
          simp only [allB]
          rw [if_neg hne, ho]
          simp only
          rw [hd2, h3])
        rw [this]
        simp only [List.map_append, List.map_cons, List.map_nil, List.append_assoc, List.singleton_append, Prod.mk.injEq, true_and, and_true]
        omega
    · intro e w2 ho he hs
      have hall' := hall [] 0 e (by simp only [allB]; rw [if_neg hne, ho])
      rcases he with rfl | rfl | rfl
      all_goals
        refine go ?_
        refine A.r3 ?_
        rw [show (n : Int) - rn = ((n - rn + 0 : Nat) : Int) by omega]
        refine HR.out ps (n - rn + 0) _ _ _ g1 _ hg1 hps ?_ (by omega) (by omega) hs
        simpa using hall'
  · refine go ?_
    refine A.r3 ?_
    have h0 : rn = 0 := by omega
    have hd : l.drop (n - rn) = [] := List.drop_eq_nil_of_le (by omega)
    have hall' := hall [] 0 0 (by simp only [allB]; rw [if_pos hd])
    refine HR.out ps n _ _ _ g1 _ hg1 hps ?_ (by omega) (by omega) hs
    rw [hall', h0]
    simp

end Go.Proofs.Ytcfbmmlgdopbmaa
