/-
  The reference of layer 11: of no events (printed by tools/gen_new.py).
-/
import Derived.Test.YtkolnecahlkndaaGreatMh
import Derived.Test.YtkolnecahlkndaaGreatMg
namespace Go.Proofs.YtkolnecahlkndaaGreat
open Go.RowKit
set_option linter.unusedVariables false
set_option linter.unusedSimpArgs false

theorem rep_bool (k : Nat) (h : k ≤ 64) : (List.replicate k (Value.bool true) ++ List.replicate (64 - k) (Value.bool false)).length = 64 := by simp; omega
set_option maxHeartbeats 3200000 in
set_option maxRecDepth 100000 in
theorem rfNew_any {R : Ending → World → Prop} {W w : World} {g : Hl} {H : List HP} (hs : Sat W w g H)
    (hR : ∀ r w' g', Hl.le g g' → Rf.ok r g' → r.L = [] → r.mem = (foNew 3).mem → r.ret = (foNew 3).ret → r.hv = List.replicate 64 0 → r.tm = 0 → r.wr = 0 → r.mark = 14695981039346656037 → Sat W w' g' H → R (.returned r.val) w') : Calls Tryz.prog 50 #[.int .i64 3] w R := by
  have HR := Lib.hid hR
  clear hR
  have ag2 := ag_rf
  refine C.calls (args := [.int .i64 3]) Tryz.func50 rfl rfl rfl ?_
  refine go ?_
  refine E.al hs ?_
  intro b2 w1 hs
  refine go ?_
  have hbz : (madeCells (Value.bool false).cells (64 * 1)).toList = (List.replicate 64 false).map Value.bool := (made1 _ _).trans (by rw [List.map_replicate])
  have huz : (madeCells (Value.int .u64 0).cells (64 * 1)).toList = us (List.replicate 64 0) := (made1 _ _).trans (by rw [us, List.map_replicate]; rfl)
  refine C.held0 hs ?_
  intro w2 hk hs
  apply laterK (fuel := 1) (m := 31) (α := Option Addr × Option Addr × Option Addr × Nat) (f := fun x => [(0, .int .i64 3), (2, .pointer (some ⟨b2, 0, none⟩)), (5, .slice x.1 64 64), (6, .slice x.2.1 64 64), (7, .slice x.2.2.1 64 64), (3, .pointer (some ⟨x.2.2.2, 0, none⟩)), (8, .agg #[.slice none 0 0, .slice x.1 64 64, .slice x.2.1 64 64, .slice x.2.2.1 64 64, .int .u64 0, .int .i64 0, .int .u64 14695981039346656037])]) (M := fun x w => Keeps g [] w ∧ Sat W w g (own 4 1 (.slice x.1 64 64) 64 ((List.replicate 64 false).map Value.bool) :: own 4 1 (.slice x.2.1 64 64) 64 ((List.replicate 64 false).map Value.bool) :: own 28 1 (.slice x.2.2.1 64 64) 64 (us (List.replicate 64 0)) :: blk x.2.2.2 [.slice none 0 0, .slice none 0 0, .slice none 0 0, .slice none 0 0, .int .u64 0, .int .i64 0, .int .u64 0] 58 :: blk b2 [.slice none 0 0, .slice none 0 0, .slice none 0 0, .slice none 0 0, .int .u64 0, .int .i64 0, .int .u64 0] 58 :: H))
  · rintro x w1 ⟨hk, hs⟩
    obtain ⟨a1, a2, a3, b3⟩ := x
    simp only at hs ⊢
    refine EH.sto (vs := [.slice none 0 0, .slice a1 64 64, .slice a2 64 64, .slice a3 64 64, .int .u64 0, .int .i64 0, .int .u64 14695981039346656037]) (ys := [.slice none 0 0, .slice a1 64 64, .slice a2 64 64, .slice a3 64 64, .int .u64 0, .int .i64 0, .int .u64 14695981039346656037]) hs ?_ (hv := rfl) (hsp := rfl)
    intro w3 hs
    refine kept0 hs (fun hk => ?_)
    refine EH.done ?_
    clear hk
    obtain ⟨d1, rfl⟩ := hs.ownAt (by decide)
    refine gob ?_
    refine C.cut (fun _ : Unit => [(2, .pointer (some ⟨b2, 0, none⟩)), (3, .pointer (some ⟨b3, 0, none⟩))])
      (fun _ w => Sat W w g (own 4 1 (.slice (some ⟨d1, 0, none⟩) 64 64) 64 ((List.replicate 3 true ++ List.replicate 61 false).map Value.bool) :: own 4 1 (.slice a2 64 64) 64 ((List.replicate 64 false).map Value.bool) :: own 28 1 (.slice a3 64 64) 64 (us (List.replicate 64 0)) :: blk b3 [.slice none 0 0, .slice (some ⟨d1, 0, none⟩) 64 64, .slice a2 64 64, .slice a3 64 64, .int .u64 0, .int .i64 0, .int .u64 14695981039346656037] 58 :: blk b2 [.slice none 0 0, .slice none 0 0, .slice none 0 0, .slice none 0 0, .int .u64 0, .int .i64 0, .int .u64 0] 58 :: H)) ?_ ?_
    · refine C.block ?_
      refine C.lp (fun i : Nat => [(0, .int .i64 3), (2, .pointer (some ⟨b2, 0, none⟩)), (3, .pointer (some ⟨b3, 0, none⟩)), (4, .int .i64 i)])
        (fun gk i w => gk = 3 - i ∧ i ≤ 3 ∧ Sat W w g (own 4 1 (.slice (some ⟨d1, 0, none⟩) 64 64) 64 ((List.replicate i true ++ List.replicate (64 - i) false).map Value.bool) :: own 4 1 (.slice a2 64 64) 64 ((List.replicate 64 false).map Value.bool) :: own 28 1 (.slice a3 64 64) 64 (us (List.replicate 64 0)) :: blk b3 [.slice none 0 0, .slice (some ⟨d1, 0, none⟩) 64 64, .slice a2 64 64, .slice a3 64 64, .int .u64 0, .int .i64 0, .int .u64 14695981039346656037] 58 :: blk b2 [.slice none 0 0, .slice none 0 0, .slice none 0 0, .slice none 0 0, .int .u64 0, .int .i64 0, .int .u64 0] 58 :: H)) 3 0 ⟨rfl, by decide, ?_⟩ ?_
      · exact hs
      clear hs
      rintro gk i w4 ⟨rfl, hi, hs⟩
      refine go ?_
      cases h : decide ((i : Int) < 3) with
      | true =>
        have h := of_decide_eq_true h
        refine go ?_
        rw [show decide ((i : Int) < 64) = true from decide_eq_true (by omega)]
        refine go ?_
        refine E.ixo el_bools i ?_
        refine E.cons (St.storeOwn (j := i) hs rfl rfl rfl (by simp; omega) rfl sz_ ?_)
        intro w5 hs
        refine go ?_
        refine A.rd (3 - (i + 1)) (i + 1) ⟨rfl, by omega, ?_⟩
        have e1 : ((List.replicate i true ++ List.replicate (64 - i) false).map Value.bool).set i (.bool true) = (List.replicate (i + 1) true ++ List.replicate (64 - (i + 1)) false).map Value.bool := by
          rw [← List.map_set, List.set_append_right _ _ (by simp), List.length_replicate, Nat.sub_self, List.replicate_succ', List.append_assoc]
          congr 2
          rw [show 64 - i = (64 - (i + 1)) + 1 by omega, List.replicate_succ]
          rfl
        rw [e1] at hs
        exact hs
      | false =>
        have h := of_decide_eq_false h
        obtain rfl : i = 3 := by omega
        refine go ?_
        exact A.mt () hs
    clear hs
    rintro _ w6 hs
    refine go ?_
    refine E.sto (vs := [.slice none 0 0, .slice (some ⟨d1, 0, none⟩) 64 64, .slice a2 64 64, .slice a3 64 64, .int .u64 0, .int .i64 0, .int .u64 14695981039346656037]) (ys := [.slice none 0 0, .slice (some ⟨d1, 0, none⟩) 64 64, .slice a2 64 64, .slice a3 64 64, .int .u64 0, .int .i64 0, .int .u64 14695981039346656037]) hs ?_ (hv := rfl) (hsp := rfl)
    intro w7 hs
    refine go ?_
    refine A.c1 rfl rfl (run_lda hs ag_rf) ?_
    obtain ⟨g1, hg1, p1, hs⟩ := hs.publishOwn
    obtain ⟨g2, hg2, p2, hs⟩ := hs.publishOwn
    obtain ⟨g3, hg3, p3, hs⟩ := hs.publishOwn
    refine HR.out ⟨[], none, 0, List.replicate 3 true ++ List.replicate 61 false, some ⟨d1, 0, none⟩, 64, List.replicate 64 false, a2, 64, List.replicate 64 0, a3, 64, 0, 0, 14695981039346656037⟩ _ g3 ((hg1.trans hg2).trans hg3) ⟨Pr.nil, (fun c hc => by cases hc), Nat.zero_le _, (p1.mono hg2).mono hg3, p2.mono hg3, p3, rfl, rfl, rfl, fun x hx => ?_, by simp only; omega, by simp only; omega⟩ rfl rfl rfl rfl rfl rfl rfl hs.drop.drop
    rw [List.mem_replicate] at hx
    omega
  intro key0124
  apply laterK (fuel := 2) (m := 15) (α := Option Addr × Option Addr × Option Addr × Nat) (f := fun x => [(0, .int .i64 3), (2, .pointer (some ⟨b2, 0, none⟩)), (5, .slice x.1 64 64), (6, .slice x.2.1 64 64), (7, .slice x.2.2.1 64 64), (8, .agg #[.slice none 0 0, .slice x.1 64 64, .slice x.2.1 64 64, .slice x.2.2.1 64 64, .int .u64 0, .int .i64 0, .int .u64 14695981039346656037])]) (M := fun x w => Keeps g [] w ∧ Sat W w g (own 4 1 (.slice x.1 64 64) 64 ((List.replicate 64 false).map Value.bool) :: own 4 1 (.slice x.2.1 64 64) 64 ((List.replicate 64 false).map Value.bool) :: own 28 1 (.slice x.2.2.1 64 64) 64 (us (List.replicate 64 0)) :: blk b2 [.slice none 0 0, .slice none 0 0, .slice none 0 0, .slice none 0 0, .int .u64 0, .int .i64 0, .int .u64 0] 58 :: H))
  · rintro x w1 ⟨hk, hs⟩
    refine EH.all (rs := [4]) ⟨⟨_, rfl, ?_⟩, trivial⟩ rfl (by simp)
    · refine St.al hs ?_
      intro q w2 hs
      refine kept0 hs (fun hk => ?_)
      exact EH.forget wk_ (key0124 (x.1, x.2.1, x.2.2.1, q) _ ⟨hk, hs.push3⟩)
  intro key012
  apply laterK (fuel := 3) (m := 19) (α := Option Addr × Option Addr × Option Addr × Nat) (f := fun x => [(0, .int .i64 3), (2, .pointer (some ⟨b2, 0, none⟩)), (5, .slice x.1 64 64), (6, .slice x.2.1 64 64), (3, .pointer (some ⟨x.2.2.2, 0, none⟩))]) (M := fun x w => Keeps g [] w ∧ Sat W w g (own 4 1 (.slice x.1 64 64) 64 ((List.replicate 64 false).map Value.bool) :: own 4 1 (.slice x.2.1 64 64) 64 ((List.replicate 64 false).map Value.bool) :: blk x.2.2.2 [.slice none 0 0, .slice none 0 0, .slice none 0 0, .slice none 0 0, .int .u64 0, .int .i64 0, .int .u64 0] 58 :: blk b2 [.slice none 0 0, .slice none 0 0, .slice none 0 0, .slice none 0 0, .int .u64 0, .int .i64 0, .int .u64 0] 58 :: H))
  · rintro x w1 ⟨hk, hs⟩
    refine EH.all (rs := [2]) ⟨⟨_, rfl, ?_⟩, trivial⟩ rfl (by simp)
    · refine St.mks (k2 := 64) el_u64s hs ?_
      intro q w2 hs
      rw [huz] at hs
      refine kept0 hs (fun hk => ?_)
      refine goh ?_
      exact EH.forget wk_ (key0124 (x.1, x.2.1, q, x.2.2.2) _ ⟨hk, hs.push2⟩)
  intro key014
  apply laterK (fuel := 3) (m := 21) (α := Option Addr × Option Addr × Option Addr × Nat) (f := fun x => [(0, .int .i64 3), (2, .pointer (some ⟨b2, 0, none⟩)), (5, .slice x.1 64 64), (7, .slice x.2.2.1 64 64), (3, .pointer (some ⟨x.2.2.2, 0, none⟩))]) (M := fun x w => Keeps g [] w ∧ Sat W w g (own 4 1 (.slice x.1 64 64) 64 ((List.replicate 64 false).map Value.bool) :: own 28 1 (.slice x.2.2.1 64 64) 64 (us (List.replicate 64 0)) :: blk x.2.2.2 [.slice none 0 0, .slice none 0 0, .slice none 0 0, .slice none 0 0, .int .u64 0, .int .i64 0, .int .u64 0] 58 :: blk b2 [.slice none 0 0, .slice none 0 0, .slice none 0 0, .slice none 0 0, .int .u64 0, .int .i64 0, .int .u64 0] 58 :: H))
  · rintro x w1 ⟨hk, hs⟩
    refine EH.all (rs := [1]) ⟨⟨_, rfl, ?_⟩, trivial⟩ rfl (by simp)
    · refine St.mks (k2 := 64) el_bools hs ?_
      intro q w2 hs
      rw [hbz] at hs
      refine kept0 hs (fun hk => ?_)
      refine goh ?_
      exact EH.forget wk_ (key0124 (x.1, q, x.2.2.1, x.2.2.2) _ ⟨hk, hs.swap⟩)
  intro key024
  apply laterK (fuel := 3) (m := 22) (α := Option Addr × Option Addr × Option Addr × Nat) (f := fun x => [(0, .int .i64 3), (2, .pointer (some ⟨b2, 0, none⟩)), (6, .slice x.2.1 64 64), (7, .slice x.2.2.1 64 64), (3, .pointer (some ⟨x.2.2.2, 0, none⟩))]) (M := fun x w => Keeps g [] w ∧ Sat W w g (own 4 1 (.slice x.2.1 64 64) 64 ((List.replicate 64 false).map Value.bool) :: own 28 1 (.slice x.2.2.1 64 64) 64 (us (List.replicate 64 0)) :: blk x.2.2.2 [.slice none 0 0, .slice none 0 0, .slice none 0 0, .slice none 0 0, .int .u64 0, .int .i64 0, .int .u64 0] 58 :: blk b2 [.slice none 0 0, .slice none 0 0, .slice none 0 0, .slice none 0 0, .int .u64 0, .int .i64 0, .int .u64 0] 58 :: H))
  · rintro x w1 ⟨hk, hs⟩
    refine EH.all (rs := [0]) ⟨⟨_, rfl, ?_⟩, trivial⟩ rfl (by simp)
    · refine St.mks (k2 := 64) el_bools hs ?_
      intro q w2 hs
      rw [hbz] at hs
      refine kept0 hs (fun hk => ?_)
      refine goh ?_
      exact EH.forget wk_ (key0124 (q, x.2.1, x.2.2.1, x.2.2.2) _ ⟨hk, hs⟩)
  intro key124
  apply laterK (fuel := 4) (m := 3) (α := Option Addr × Option Addr × Option Addr × Nat) (f := fun x => [(0, .int .i64 3), (2, .pointer (some ⟨b2, 0, none⟩)), (5, .slice x.1 64 64), (6, .slice x.2.1 64 64)]) (M := fun x w => Keeps g [] w ∧ Sat W w g (own 4 1 (.slice x.1 64 64) 64 ((List.replicate 64 false).map Value.bool) :: own 4 1 (.slice x.2.1 64 64) 64 ((List.replicate 64 false).map Value.bool) :: blk b2 [.slice none 0 0, .slice none 0 0, .slice none 0 0, .slice none 0 0, .int .u64 0, .int .i64 0, .int .u64 0] 58 :: H))
  · rintro x w1 ⟨hk, hs⟩
    refine EH.all (rs := [2, 4]) ⟨⟨_, rfl, ?_⟩, ⟨_, rfl, ?_⟩, trivial⟩ rfl (by simp)
    · refine St.mks (k2 := 64) el_u64s hs ?_
      intro q w2 hs
      rw [huz] at hs
      refine kept0 hs (fun hk => ?_)
      refine goh ?_
      exact EH.forget wk_ (key012 (x.1, x.2.1, q, x.2.2.2) _ ⟨hk, hs.push2⟩)
    · refine St.al hs ?_
      intro q w2 hs
      refine kept0 hs (fun hk => ?_)
      exact EH.forget wk_ (key014 (x.1, x.2.1, x.2.2.1, q) _ ⟨hk, hs.push2⟩)
  intro key01
  apply laterK (fuel := 4) (m := 5) (α := Option Addr × Option Addr × Option Addr × Nat) (f := fun x => [(0, .int .i64 3), (2, .pointer (some ⟨b2, 0, none⟩)), (5, .slice x.1 64 64), (7, .slice x.2.2.1 64 64)]) (M := fun x w => Keeps g [] w ∧ Sat W w g (own 4 1 (.slice x.1 64 64) 64 ((List.replicate 64 false).map Value.bool) :: own 28 1 (.slice x.2.2.1 64 64) 64 (us (List.replicate 64 0)) :: blk b2 [.slice none 0 0, .slice none 0 0, .slice none 0 0, .slice none 0 0, .int .u64 0, .int .i64 0, .int .u64 0] 58 :: H))
  · rintro x w1 ⟨hk, hs⟩
    refine EH.all (rs := [1, 4]) ⟨⟨_, rfl, ?_⟩, ⟨_, rfl, ?_⟩, trivial⟩ rfl (by simp)
    · refine St.mks (k2 := 64) el_bools hs ?_
      intro q w2 hs
      rw [hbz] at hs
      refine kept0 hs (fun hk => ?_)
      refine goh ?_
      exact EH.forget wk_ (key012 (x.1, q, x.2.2.1, x.2.2.2) _ ⟨hk, hs.swap⟩)
    · refine St.al hs ?_
      intro q w2 hs
      refine kept0 hs (fun hk => ?_)
      exact EH.forget wk_ (key024 (x.1, x.2.1, x.2.2.1, q) _ ⟨hk, hs.push2⟩)
  intro key02
  apply laterK (fuel := 4) (m := 17) (α := Option Addr × Option Addr × Option Addr × Nat) (f := fun x => [(0, .int .i64 3), (2, .pointer (some ⟨b2, 0, none⟩)), (5, .slice x.1 64 64), (3, .pointer (some ⟨x.2.2.2, 0, none⟩))]) (M := fun x w => Keeps g [] w ∧ Sat W w g (own 4 1 (.slice x.1 64 64) 64 ((List.replicate 64 false).map Value.bool) :: blk x.2.2.2 [.slice none 0 0, .slice none 0 0, .slice none 0 0, .slice none 0 0, .int .u64 0, .int .i64 0, .int .u64 0] 58 :: blk b2 [.slice none 0 0, .slice none 0 0, .slice none 0 0, .slice none 0 0, .int .u64 0, .int .i64 0, .int .u64 0] 58 :: H))
  · rintro x w1 ⟨hk, hs⟩
    refine EH.all (rs := [1, 2]) ⟨⟨_, rfl, ?_⟩, ⟨_, rfl, ?_⟩, trivial⟩ rfl (by simp)
    · refine St.mks (k2 := 64) el_bools hs ?_
      intro q w2 hs
      rw [hbz] at hs
      refine kept0 hs (fun hk => ?_)
      exact EH.forget wk_ (key014 (x.1, q, x.2.2.1, x.2.2.2) _ ⟨hk, hs.swap⟩)
    · refine St.mks (k2 := 64) el_u64s hs ?_
      intro q w2 hs
      rw [huz] at hs
      refine kept0 hs (fun hk => ?_)
      exact EH.forget wk_ (key024 (x.1, x.2.1, q, x.2.2.2) _ ⟨hk, hs.swap⟩)
  intro key04
  apply laterK (fuel := 4) (m := 6) (α := Option Addr × Option Addr × Option Addr × Nat) (f := fun x => [(0, .int .i64 3), (2, .pointer (some ⟨b2, 0, none⟩)), (6, .slice x.2.1 64 64), (7, .slice x.2.2.1 64 64)]) (M := fun x w => Keeps g [] w ∧ Sat W w g (own 4 1 (.slice x.2.1 64 64) 64 ((List.replicate 64 false).map Value.bool) :: own 28 1 (.slice x.2.2.1 64 64) 64 (us (List.replicate 64 0)) :: blk b2 [.slice none 0 0, .slice none 0 0, .slice none 0 0, .slice none 0 0, .int .u64 0, .int .i64 0, .int .u64 0] 58 :: H))
  · rintro x w1 ⟨hk, hs⟩
    refine EH.all (rs := [0, 4]) ⟨⟨_, rfl, ?_⟩, ⟨_, rfl, ?_⟩, trivial⟩ rfl (by simp)
    · refine St.mks (k2 := 64) el_bools hs ?_
      intro q w2 hs
      rw [hbz] at hs
      refine kept0 hs (fun hk => ?_)
      refine goh ?_
      exact EH.forget wk_ (key012 (q, x.2.1, x.2.2.1, x.2.2.2) _ ⟨hk, hs⟩)
    · refine St.al hs ?_
      intro q w2 hs
      refine kept0 hs (fun hk => ?_)
      exact EH.forget wk_ (key124 (x.1, x.2.1, x.2.2.1, q) _ ⟨hk, hs.push2⟩)
  intro key12
  apply laterK (fuel := 4) (m := 18) (α := Option Addr × Option Addr × Option Addr × Nat) (f := fun x => [(0, .int .i64 3), (2, .pointer (some ⟨b2, 0, none⟩)), (6, .slice x.2.1 64 64), (3, .pointer (some ⟨x.2.2.2, 0, none⟩))]) (M := fun x w => Keeps g [] w ∧ Sat W w g (own 4 1 (.slice x.2.1 64 64) 64 ((List.replicate 64 false).map Value.bool) :: blk x.2.2.2 [.slice none 0 0, .slice none 0 0, .slice none 0 0, .slice none 0 0, .int .u64 0, .int .i64 0, .int .u64 0] 58 :: blk b2 [.slice none 0 0, .slice none 0 0, .slice none 0 0, .slice none 0 0, .int .u64 0, .int .i64 0, .int .u64 0] 58 :: H))
  · rintro x w1 ⟨hk, hs⟩
    refine EH.all (rs := [0, 2]) ⟨⟨_, rfl, ?_⟩, ⟨_, rfl, ?_⟩, trivial⟩ rfl (by simp)
    · refine St.mks (k2 := 64) el_bools hs ?_
      intro q w2 hs
      rw [hbz] at hs
      refine kept0 hs (fun hk => ?_)
      exact EH.forget wk_ (key014 (q, x.2.1, x.2.2.1, x.2.2.2) _ ⟨hk, hs⟩)
    · refine St.mks (k2 := 64) el_u64s hs ?_
      intro q w2 hs
      rw [huz] at hs
      refine kept0 hs (fun hk => ?_)
      exact EH.forget wk_ (key124 (x.1, x.2.1, q, x.2.2.2) _ ⟨hk, hs.swap⟩)
  intro key14
  apply laterK (fuel := 4) (m := 20) (α := Option Addr × Option Addr × Option Addr × Nat) (f := fun x => [(0, .int .i64 3), (2, .pointer (some ⟨b2, 0, none⟩)), (7, .slice x.2.2.1 64 64), (3, .pointer (some ⟨x.2.2.2, 0, none⟩))]) (M := fun x w => Keeps g [] w ∧ Sat W w g (own 28 1 (.slice x.2.2.1 64 64) 64 (us (List.replicate 64 0)) :: blk x.2.2.2 [.slice none 0 0, .slice none 0 0, .slice none 0 0, .slice none 0 0, .int .u64 0, .int .i64 0, .int .u64 0] 58 :: blk b2 [.slice none 0 0, .slice none 0 0, .slice none 0 0, .slice none 0 0, .int .u64 0, .int .i64 0, .int .u64 0] 58 :: H))
  · rintro x w1 ⟨hk, hs⟩
    refine EH.all (rs := [0, 1]) ⟨⟨_, rfl, ?_⟩, ⟨_, rfl, ?_⟩, trivial⟩ rfl (by simp)
    · refine St.mks (k2 := 64) el_bools hs ?_
      intro q w2 hs
      rw [hbz] at hs
      refine kept0 hs (fun hk => ?_)
      exact EH.forget wk_ (key024 (q, x.2.1, x.2.2.1, x.2.2.2) _ ⟨hk, hs⟩)
    · refine St.mks (k2 := 64) el_bools hs ?_
      intro q w2 hs
      rw [hbz] at hs
      refine kept0 hs (fun hk => ?_)
      exact EH.forget wk_ (key124 (x.1, q, x.2.2.1, x.2.2.2) _ ⟨hk, hs⟩)
  intro key24
  apply laterK (fuel := 5) (m := 1) (α := Option Addr × Option Addr × Option Addr × Nat) (f := fun x => [(0, .int .i64 3), (2, .pointer (some ⟨b2, 0, none⟩)), (5, .slice x.1 64 64)]) (M := fun x w => Keeps g [] w ∧ Sat W w g (own 4 1 (.slice x.1 64 64) 64 ((List.replicate 64 false).map Value.bool) :: blk b2 [.slice none 0 0, .slice none 0 0, .slice none 0 0, .slice none 0 0, .int .u64 0, .int .i64 0, .int .u64 0] 58 :: H))
  · rintro x w1 ⟨hk, hs⟩
    refine EH.all (rs := [1, 2, 4]) ⟨⟨_, rfl, ?_⟩, ⟨_, rfl, ?_⟩, ⟨_, rfl, ?_⟩, trivial⟩ rfl (by simp)
    · refine St.mks (k2 := 64) el_bools hs ?_
      intro q w2 hs
      rw [hbz] at hs
      refine kept0 hs (fun hk => ?_)
      exact EH.forget wk_ (key01 (x.1, q, x.2.2.1, x.2.2.2) _ ⟨hk, hs.swap⟩)
    · refine St.mks (k2 := 64) el_u64s hs ?_
      intro q w2 hs
      rw [huz] at hs
      refine kept0 hs (fun hk => ?_)
      exact EH.forget wk_ (key02 (x.1, x.2.1, q, x.2.2.2) _ ⟨hk, hs.swap⟩)
    · refine St.al hs ?_
      intro q w2 hs
      refine kept0 hs (fun hk => ?_)
      exact EH.forget wk_ (key04 (x.1, x.2.1, x.2.2.1, q) _ ⟨hk, hs.swap⟩)
  intro key0
  apply laterK (fuel := 5) (m := 2) (α := Option Addr × Option Addr × Option Addr × Nat) (f := fun x => [(0, .int .i64 3), (2, .pointer (some ⟨b2, 0, none⟩)), (6, .slice x.2.1 64 64)]) (M := fun x w => Keeps g [] w ∧ Sat W w g (own 4 1 (.slice x.2.1 64 64) 64 ((List.replicate 64 false).map Value.bool) :: blk b2 [.slice none 0 0, .slice none 0 0, .slice none 0 0, .slice none 0 0, .int .u64 0, .int .i64 0, .int .u64 0] 58 :: H))
  · rintro x w1 ⟨hk, hs⟩
    refine EH.all (rs := [0, 2, 4]) ⟨⟨_, rfl, ?_⟩, ⟨_, rfl, ?_⟩, ⟨_, rfl, ?_⟩, trivial⟩ rfl (by simp)
    · refine St.mks (k2 := 64) el_bools hs ?_
      intro q w2 hs
      rw [hbz] at hs
      refine kept0 hs (fun hk => ?_)
      exact EH.forget wk_ (key01 (q, x.2.1, x.2.2.1, x.2.2.2) _ ⟨hk, hs⟩)
    · refine St.mks (k2 := 64) el_u64s hs ?_
      intro q w2 hs
      rw [huz] at hs
      refine kept0 hs (fun hk => ?_)
      exact EH.forget wk_ (key12 (x.1, x.2.1, q, x.2.2.2) _ ⟨hk, hs.swap⟩)
    · refine St.al hs ?_
      intro q w2 hs
      refine kept0 hs (fun hk => ?_)
      exact EH.forget wk_ (key14 (x.1, x.2.1, x.2.2.1, q) _ ⟨hk, hs.swap⟩)
  intro key1
  apply laterK (fuel := 5) (m := 4) (α := Option Addr × Option Addr × Option Addr × Nat) (f := fun x => [(0, .int .i64 3), (2, .pointer (some ⟨b2, 0, none⟩)), (7, .slice x.2.2.1 64 64)]) (M := fun x w => Keeps g [] w ∧ Sat W w g (own 28 1 (.slice x.2.2.1 64 64) 64 (us (List.replicate 64 0)) :: blk b2 [.slice none 0 0, .slice none 0 0, .slice none 0 0, .slice none 0 0, .int .u64 0, .int .i64 0, .int .u64 0] 58 :: H))
  · rintro x w1 ⟨hk, hs⟩
    refine EH.all (rs := [0, 1, 4]) ⟨⟨_, rfl, ?_⟩, ⟨_, rfl, ?_⟩, ⟨_, rfl, ?_⟩, trivial⟩ rfl (by simp)
    · refine St.mks (k2 := 64) el_bools hs ?_
      intro q w2 hs
      rw [hbz] at hs
      refine kept0 hs (fun hk => ?_)
      exact EH.forget wk_ (key02 (q, x.2.1, x.2.2.1, x.2.2.2) _ ⟨hk, hs⟩)
    · refine St.mks (k2 := 64) el_bools hs ?_
      intro q w2 hs
      rw [hbz] at hs
      refine kept0 hs (fun hk => ?_)
      exact EH.forget wk_ (key12 (x.1, q, x.2.2.1, x.2.2.2) _ ⟨hk, hs⟩)
    · refine St.al hs ?_
      intro q w2 hs
      refine kept0 hs (fun hk => ?_)
      exact EH.forget wk_ (key24 (x.1, x.2.1, x.2.2.1, q) _ ⟨hk, hs.swap⟩)
  intro key2
  apply laterK (fuel := 5) (m := 16) (α := Option Addr × Option Addr × Option Addr × Nat) (f := fun x => [(0, .int .i64 3), (2, .pointer (some ⟨b2, 0, none⟩)), (3, .pointer (some ⟨x.2.2.2, 0, none⟩))]) (M := fun x w => Keeps g [] w ∧ Sat W w g (blk x.2.2.2 [.slice none 0 0, .slice none 0 0, .slice none 0 0, .slice none 0 0, .int .u64 0, .int .i64 0, .int .u64 0] 58 :: blk b2 [.slice none 0 0, .slice none 0 0, .slice none 0 0, .slice none 0 0, .int .u64 0, .int .i64 0, .int .u64 0] 58 :: H))
  · rintro x w1 ⟨hk, hs⟩
    refine EH.all (rs := [0, 1, 2]) ⟨⟨_, rfl, ?_⟩, ⟨_, rfl, ?_⟩, ⟨_, rfl, ?_⟩, trivial⟩ rfl (by simp)
    · refine St.mks (k2 := 64) el_bools hs ?_
      intro q w2 hs
      rw [hbz] at hs
      refine kept0 hs (fun hk => ?_)
      exact EH.forget wk_ (key04 (q, x.2.1, x.2.2.1, x.2.2.2) _ ⟨hk, hs⟩)
    · refine St.mks (k2 := 64) el_bools hs ?_
      intro q w2 hs
      rw [hbz] at hs
      refine kept0 hs (fun hk => ?_)
      exact EH.forget wk_ (key14 (x.1, q, x.2.2.1, x.2.2.2) _ ⟨hk, hs⟩)
    · refine St.mks (k2 := 64) el_u64s hs ?_
      intro q w2 hs
      rw [huz] at hs
      refine kept0 hs (fun hk => ?_)
      exact EH.forget wk_ (key24 (x.1, x.2.1, q, x.2.2.2) _ ⟨hk, hs⟩)
  intro key4
  refine EH.all (rs := [0, 1, 2, 4]) ⟨⟨_, rfl, ?_⟩, ⟨_, rfl, ?_⟩, ⟨_, rfl, ?_⟩, ⟨_, rfl, ?_⟩, trivial⟩ rfl (by simp)
  · refine St.mks (k2 := 64) el_bools hs ?_
    intro q w2 hs
    rw [hbz] at hs
    refine kept0 hs (fun hk => ?_)
    exact EH.forget wk_ (key0 (q, none, none, 0) _ ⟨hk, hs⟩)
  · refine St.mks (k2 := 64) el_bools hs ?_
    intro q w2 hs
    rw [hbz] at hs
    refine kept0 hs (fun hk => ?_)
    exact EH.forget wk_ (key1 (none, q, none, 0) _ ⟨hk, hs⟩)
  · refine St.mks (k2 := 64) el_u64s hs ?_
    intro q w2 hs
    rw [huz] at hs
    refine kept0 hs (fun hk => ?_)
    exact EH.forget wk_ (key2 (none, none, q, 0) _ ⟨hk, hs⟩)
  · refine St.al hs ?_
    intro q w2 hs
    refine kept0 hs (fun hk => ?_)
    exact EH.forget wk_ (key4 (none, none, none, q) _ ⟨hk, hs⟩)
end Go.Proofs.YtkolnecahlkndaaGreat

/-
  The reference of layer 11: a quantity as it is kept.
-/
namespace Go.Proofs.YtkolnecahlkndaaGreat
open Go.RowKit
set_option linter.unusedVariables false
set_option linter.unusedSimpArgs false

set_option maxHeartbeats 1600000 in
set_option maxRecDepth 100000 in
theorem rplain_any {R : Ending → World → Prop} {W w : World} {g : Hl} {H : List HP} {b : Nat} (hb : b < 18446744073709551616) (hs : Sat W w g H)
    (hR : ∀ r w', bitsF r = bitsF b → r < 18446744073709551616 → Sat W w' g H → R (.returned (.float .f64 r)) w') : Calls Tryz.prog 81 #[.float .f64 b] w R := by
  have HR := Lib.hid hR
  clear hR
  refine C.calls (args := [.float .f64 b]) Tryz.func81 rfl rfl rfl ?_
  refine go ?_
  have e0 : (FloatKind.f64.format.order b b != some .eq) = nanF b := rfl
  rw [e0]
  cases hn : nanF b with
  | true =>
    refine go ?_
    refine E.fsub hs ?_
    intro r w2 hs hr
    rcases hr with hr | ⟨_, h1, h2⟩
    · rw [sub_nan hn] at hr
      cases hr
    · refine go ?_
      refine A.r1 ?_
      refine HR.out r w2 ?_ h2 hs
      have h3 := nan_rung h1
      simp only [bitsF, h3, hn, if_true]
  | false =>
    refine go ?_
    refine A.r1 ?_
    exact HR.out b w rfl hb hs
end Go.Proofs.YtkolnecahlkndaaGreat

/-
  The reference of layer 6: an event that is right.
-/
namespace Go.Proofs.YtkolnecahlkndaaGreat
open Go.RowKit
set_option linter.unusedVariables false
set_option linter.unusedSimpArgs false

set_option maxHeartbeats 1600000 in
set_option maxRecDepth 100000 in
theorem rright_any {R : Ending → World → Prop} {W w : World} {g : Hl} {H : List HP} {e : Ev} (he : e.good) (ho : e.ok g) (hs : Sat W w g H)
    (hR : ∀ w', Sat W w' g H → R (.returned (.int .i64 0)) w') : Calls Tryz.prog 79 #[e.val] w R := by
  have HR := Lib.hid hR
  clear hR
  obtain ⟨a, c, etv, hnc, _⟩ := ho.tv.len
  have h1 := he.wr
  have h2 := he.kd
  have h3 := he.nd
  have h4 := he.sq
  have h5 := he.tm
  have h6 := he.key
  have h7 := he.text
  have h8 := he.keyn
  clear he ho
  obtain ⟨wr, sq, tm, kd, key, text, num, nd, tv⟩ := e
  simp only at h1 h2 h3 h4 h5 h6 h7 h8 etv
  subst etv h3
  simp only [Ev.val, Ev.cs]
  have d1 : decide (wr < 0) = false := decide_eq_false (by omega)
  have d2 : decide (63 < wr) = false := decide_eq_false (by omega)
  have d3 : decide ((sq : Int) = 0) = false := decide_eq_false (by omega)
  have d4 : decide ((tm : Int) = 0) = false := decide_eq_false (by omega)
  have d5 : decide ((kd : Int) < 1) = false := decide_eq_false (by omega)
  have d6 : decide (6 < (kd : Int)) = false := decide_eq_false (by omega)
  have d7 : decide ((kd : Int) = 5) = false := decide_eq_false (by omega)
  refine C.calls (args := [.agg #[.int .i64 wr, .int .u64 sq, .int .u64 tm, .int .u8 kd, .string ⟨key.toArray⟩, .slice a text.length c, .float .f64 num, .int .i64 0]]) Tryz.func79 rfl rfl rfl ?_
  refine go ?_
  refine E.bx hs ?_
  intro b1 w1 hs
  refine go ?_
  rw [d1]
  refine go ?_
  rw [d2]
  refine go ?_
  rw [d3]
  refine go ?_
  rw [d4]
  refine go ?_
  rw [d5]
  refine go ?_
  rw [d6]
  refine go ?_
  rw [d7]
  refine go ?_
  rw [show decide ((kd : Int) ≤ 4) = true from decide_eq_true (by omega)]
  refine go ?_
  rw [show decide ((key.length : Int) = 0) = false from decide_eq_false (by omega)]
  refine go ?_
  rw [show decide (64 < (key.length : Int)) = false from decide_eq_false (by omega)]
  refine go ?_
  cases hk : decide ((kd : Int) = 1) with
  | true =>
    refine go ?_
    rw [show decide (1048576 < (text.length : Int)) = false from decide_eq_false (by omega)]
    refine go ?_
    rw [show decide (9223372036854775808 ≤ (sq : Int)) = false from decide_eq_false (by omega)]
    refine go ?_
    rw [show decide (9223372036854775808 ≤ (tm : Int)) = false from decide_eq_false (by omega)]
    refine go ?_
    refine A.r1 ?_
    exact HR.out _ hs.drop
  | false =>
    refine go ?_
    rw [show decide (9223372036854775808 ≤ (sq : Int)) = false from decide_eq_false (by omega)]
    refine go ?_
    rw [show decide (9223372036854775808 ≤ (tm : Int)) = false from decide_eq_false (by omega)]
    refine go ?_
    refine A.r1 ?_
    exact HR.out _ hs.drop
end Go.Proofs.YtkolnecahlkndaaGreat

/-
  The reference of layer 11: one more event.
-/
namespace Go.Proofs.YtkolnecahlkndaaGreat
open Go.RowKit
set_option linter.unusedVariables false
set_option linter.unusedSimpArgs false

theorem aget_none {β : Type} {k : List UInt8} : ∀ {l : List (List UInt8 × β)}, k ∉ l.map Prod.fst → aget k l = none
  | [], _ => rfl
  | (a, u) :: r, h => by
    simp only [List.map_cons, List.mem_cons, not_or] at h
    simp only [aget]
    rw [if_neg h.1]
    exact aget_none h.2
theorem fhas_key : ∀ {L : List Rc} {k : List UInt8}, fhas L k = true → ∃ h : fpos L k < L.length, L[fpos L k].key = k := by
  intro L k h
  have h1 := fhas_lt h
  refine ⟨h1, ?_⟩
  rw [fhas, List.getElem?_eq_getElem h1] at h
  simpa using h
theorem fhas_not : ∀ {L : List Rc} {k : List UInt8}, UpK L → fhas L k = false → ∀ c ∈ L, c.key ≠ k := by
  intro L k hu h c hc
  have h1 := filter_ne L k hu
  rw [h] at h1
  simp only [Bool.false_eq_true, if_false, Nat.add_zero, List.take_append_drop] at h1
  have h2 := List.filter_eq_self.1 h1 c hc
  simpa using h2
theorem sumF_bits (a b : Nat) : sumF (bitsF a) b = sumF a b := by
  unfold bitsF
  split
  · rename_i h
    unfold sumF
    rw [add_nan h, add_nan (by decide +kernel)]
  · rfl
theorem sumF_of {a b r : Nat} (h : Ieee.double.add a b = some r ∨ Ieee.double.add a b = none ∧ 9218868437227405312 < r % 9223372036854775808 ∧ r < 18446744073709551616) : bitsF r = sumF a b := by
  rcases h with h | ⟨h, h1, _⟩
  · unfold sumF; rw [h]
  · unfold sumF
    rw [h]
    simp only [bitsF, nan_rung h1, if_true]
theorem set_get (v : List Nat) (w n : Nat) (hw : w < v.length) (u : Nat) : vget (v.set w n) u = if u = w then n else vget v u := by
  unfold vget
  rw [if_pos (Int.natCast_nonneg u), if_pos (Int.natCast_nonneg u)]
  rw [Int.toNat_natCast, List.getD_eq_getElem?_getD, List.getD_eq_getElem?_getD, List.getElem?_set]
  by_cases h : w = u
  · subst h; simp [hw]
  · rw [if_neg h, if_neg (fun e => h e.symm)]

theorem fput_len (L : List Rc) (c : Rc) : (fput L c).length ≤ L.length + 1 := by
  unfold fput
  simp only [List.length_append, List.length_take, List.length_cons, List.length_drop]
  omega
theorem fdrop_len (L : List Rc) (k : List UInt8) : (fdrop L k).length ≤ L.length + 1 := by
  unfold fdrop
  split
  · simp only [List.length_append, List.length_take, List.length_drop]
    omega
  · omega
theorem fdrop_mem {L : List Rc} {k : List UInt8} {x : Rc} (h : x ∈ fdrop L k) : x ∈ L := by
  unfold fdrop at h
  split at h
  · rcases List.mem_append.1 h with h | h
    · exact List.mem_of_mem_take h
    · exact List.mem_of_mem_drop h
  · exact h
/-- With one more event, but for what it does to the keys. -/
def Rf.nxt (r : Rf) (e : Ev) (aH : Option Addr) (cH : Nat) (aL : Option Addr) (cL : Nat) (L : List Rc) : Rf := { r with hv := r.hv.set e.wr.toNat e.sq, aH := aH, cH := cH, tm := e.tm, wr := e.wr, mark := e.enc.foldl markB r.mark, aL := aL, cL := cL, L := L }
theorem Rel.nxt {r : Rf} {f : Fo} {e : Ev} {aH aL : Option Addr} {cH cL : Nat} {L : List Rc} {g : Hl} (h : Rel r f) (hr : r.ok g) (he : e.good) (hl : Rl L (f.add e).cells) : Rel (r.nxt e aH cH aL cL L) (f.add e) := by
  have h1 := he.wr
  have h2 := he.kd
  refine ⟨hl, ?_, ?_, fun u => ?_, rfl, rfl, ?_⟩
  · simp only [Rf.nxt, Fo.add, h.mem]; rw [if_neg (by omega)]
  · simp only [Rf.nxt, Fo.add, h.ret]; rw [if_neg (by omega)]
  · simp only [Rf.nxt, Fo.add]
    rw [vwith_get _ _ _ (by omega), ← h.hv u]
    rw [set_get _ _ _ (by rw [hr.lh]; omega)]
    by_cases h3 : u = e.wr.toNat
    · rw [if_pos h3, if_pos (by omega)]
    · rw [if_neg h3, if_neg (by omega)]
  · simp only [Rf.nxt, Fo.add, h.mark]

set_option maxHeartbeats 6400000 in
set_option maxRecDepth 100000 in
theorem rapply_any {R : Ending → World → Prop} {W w : World} {g : Hl} {H : List HP} {r : Rf} {f : Fo} {e : Ev} (hr : r.ok g) (hrel : Rel r f) (hn : (f.cells.map Prod.fst).Nodup) (he : e.good) (ho : e.ok g) (hst : f.step e = (0, f.add e)) (hfew : r.L.length ≤ 999999) (hs : Sat W w g H)
    (hR : ∀ r' w' g', Hl.le g g' → Rf.ok r' g' → Rel r' (f.add e) → r'.L.length ≤ r.L.length + 1 → Sat W w' g' H → R (.returned (.tuple #[r'.val, .int .i64 0])) w') : Calls Tryz.prog 51 #[r.val, e.val] w R := by
  have HR := Lib.hid hR
  clear hR
  have ag1 := ag_rf
  have ag2 := ag_ev
  have ag3 := ag_spot
  have ag4 := ag_rc
  have hwr := he.wr
  have hkd := he.kd
  have hsq := he.sq
  have hstep : cmpS r.tm r.wr e.tm e.wr < 0 ∧ e.sq = vget r.hv e.wr + 1 := by
    have h1 := hst
    unfold Fo.step at h1
    rw [if_neg (fun h => h he.right)] at h1
    have h2 := hrel.hv e.wr.toNat
    rw [show ((e.wr.toNat : Nat) : Int) = e.wr by omega] at h2
    rw [h2, hrel.tm, hrel.wr]
    split at h1
    · simp at h1
    · rename_i h3
      split at h1
      · simp at h1
      · rename_i h4
        have h5 := Decidable.not_not.1 h4
        rw [cmpS_le] at h3
        rw [cmpS_lt]
        refine ⟨by omega, ?_⟩
        have : vget f.vec e.wr < 18446744073709551616 := by
          rw [← h2]
          unfold vget
          rw [if_pos (by omega), List.getD_eq_getElem?_getD, List.getElem?_eq_getElem (by rw [hr.lh]; omega)]
          exact hr.hlt _ (List.getElem_mem _)
        have h6 : ∀ x : Nat, x < 18446744073709551616 → e.sq = (x + 1) % 18446744073709551616 → e.sq = x + 1 := by
          intro x hx hx2
          by_cases hx3 : x + 1 < 18446744073709551616
          · rw [Nat.mod_eq_of_lt hx3] at hx2; exact hx2
          · have : x + 1 = 18446744073709551616 := by omega
            rw [this, Nat.mod_self] at hx2
            omega
        exact h6 _ this h5
  obtain ⟨hahead, hsq1⟩ := hstep
  clear hst
  obtain ⟨wr, hwe⟩ := Int.eq_ofNat_of_zero_le hwr.1
  have hgv : ∃ h : wr < r.hv.length, vget r.hv e.wr = r.hv[wr] := by
    have h := hr.lh
    refine ⟨by omega, ?_⟩
    rw [hwe]
    unfold vget
    rw [if_pos (by omega), List.getD_eq_getElem?_getD]
    simp only [Int.toNat_natCast]
    rw [List.getElem?_eq_getElem (by omega)]
    rfl
  obtain ⟨hwl, hgv⟩ := hgv
  simp only [Rf.val, Rf.cs]
  refine C.calls (args := [.agg #[.slice r.aL r.L.length r.cL, .slice r.aJ 64 r.cJ, .slice r.aR 64 r.cR, .slice r.aH 64 r.cH, .int .u64 r.tm, .int .i64 r.wr, .int .u64 r.mark], e.val]) Tryz.func51 rfl rfl rfl ?_
  refine go ?_
  refine E.bx hs ?_
  intro b2 w1 hs
  refine go ?_
  refine E.bx hs (xs := e.cs) ?_ (hx := rfl)
  intro b3 w2 hs
  refine go ?_
  refine E.al hs ?_
  intro b4 w3 hs
  refine go ?_
  refine E.callf Tryz.func79 rfl ?_
  refine rright_any (e := e) he ho hs ?_
  intro w4 hs
  refine go ?_
  refine C.held2 b3 b2 hs ?_
  intro w5 hk hs
  refine goh ?_
  refine EH.one (St.callf Tryz.func38 rfl ?_)
  refine rat_any (e := e) hs ?_
  intro w6 hs
  refine kept2 hs (fun hk => ?_)
  refine goh ?_
  refine EH.one (St.callf Tryz.func37 rfl ?_)
  refine ahead_any (t1 := r.tm) (w1 := r.wr) (t2 := e.tm) (w2 := e.wr) hs ?_
  intro w7 hs
  refine kept2 hs (fun hk => ?_)
  rw [decide_eq_true hahead]
  refine goh ?_
  refine EH.done ?_
  refine go ?_
  refine C.held2 b3 b2 hs ?_
  intro w8 hk hs
  refine goh ?_
  refine EH.ix el_u64s hr.hv wr (us_get hwl) hk (fun w h => h) ?_ (hi := hwe)
  intro b9 o9 hc
  refine goh ?_
  rw [hsq1, hgv]
  refine goh ?_
  refine EH.done ?_
  refine go ?_
  rw [show decide (((r.hv[wr] + 1 : Nat) : Int) = ((r.hv[wr] + 1 : Nat) : Int)) = true from decide_eq_true rfl]
  refine go ?_
  refine E.app el_u64s hs.nilOwn (hr.hv.row hs) ?_ (h1 := us_one _)
  intro a10 c10 w10 _ _ hs
  simp only [Nat.zero_add, List.nil_append] at hs ⊢
  obtain ⟨d10, rfl⟩ := hs.ownAt (by decide)
  refine go ?_
  refine E.ixo el_u64s wr ?_
  refine E.cons (St.storeOwn (j := wr) hs rfl rfl rfl (by rw [us_length]; exact hwl) rfl sz_ ?_)
  intro w11 hs
  have e11 : (us r.hv).set wr (.int .u64 e.sq) = us (r.hv.set wr e.sq) := by simp [us]
  rw [e11] at hs
  clear e11
  obtain ⟨g12, hg12, hp12, hs⟩ := hs.publishOwn
  refine go ?_
  refine E.sto (vs := [.slice (some ⟨d10, 0, none⟩) 64 c10]) (ys := [.slice r.aL r.L.length r.cL, .slice r.aJ 64 r.cJ, .slice r.aR 64 r.cR, .slice (some ⟨d10, 0, none⟩) 64 c10, .int .u64 r.tm, .int .i64 r.wr, .int .u64 r.mark]) hs ?_ (hv := rfl) (hsp := rfl)
  intro w12 hs
  refine go ?_
  refine E.callf Tryz.func38 rfl ?_
  refine rat_any (e := e) hs ?_
  intro w13 hs
  refine go ?_
  refine E.sto (vs := [.int .u64 e.tm, .int .i64 e.wr]) (ys := [.slice r.aL r.L.length r.cL, .slice r.aJ 64 r.cJ, .slice r.aR 64 r.cR, .slice (some ⟨d10, 0, none⟩) 64 c10, .int .u64 e.tm, .int .i64 e.wr, .int .u64 r.mark]) hs ?_ (hv := rfl) (hsp := rfl)
  intro w14 hs
  refine go ?_
  refine E.callf Tryz.func62 rfl ?_
  refine rencode_any (e := e) (ho.mono hg12) hwr.1 (by omega) (fun h => by omega) hs ?_
  intro a15 c15 w15 g15 hg15 hs
  obtain ⟨g16, hg16, hp16, hs⟩ := hs.publishOwn
  have hel := Ev.enc_len e (by omega) ho.sq ho.tm (by have := ho.key; omega) (by have := ho.text; omega) (by have := he.nd; omega)
  have hel2 : e.enc.length ≤ 1000 := by have := he.key; have := he.text; omega
  have hgl : Hl.le g g16 := (hg12.trans hg15).trans hg16
  have hmk := hr.mark
  have hf3 : ∀ (l : List UInt8) (m : Nat), m < 18446744073709551616 → l.foldl markB m < 18446744073709551616 := fold_mark_lt
  refine gob ?_
  refine C.cut (fun _ : Unit => [(2, .pointer (some ⟨b2, 0, none⟩)), (3, .pointer (some ⟨b3, 0, none⟩)), (4, .pointer (some ⟨b4, 0, none⟩))])
    (fun _ w => Sat W w g16 (blk b4 [.slice none 0 0, .slice none 0 0, .slice none 0 0, .slice none 0 0, .int .u64 0, .int .i64 0, .int .u64 0] 58 :: blk b3 e.cs 32 :: blk b2 [.slice r.aL r.L.length r.cL, .slice r.aJ 64 r.cJ, .slice r.aR 64 r.cR, .slice (some ⟨d10, 0, none⟩) 64 c10, .int .u64 e.tm, .int .i64 e.wr, .int .u64 (e.enc.foldl markB r.mark : Nat)] 58 :: H)) ?_ ?_
  · refine C.block ?_
    refine C.lp (fun k : Nat => [(2, .pointer (some ⟨b2, 0, none⟩)), (3, .pointer (some ⟨b3, 0, none⟩)), (4, .pointer (some ⟨b4, 0, none⟩)), (8, .slice a15 e.enc.length c15), (9, .int .i64 k)])
      (fun gk k w => gk = e.enc.length - k ∧ k ≤ e.enc.length ∧ Sat W w g16 (blk b4 [.slice none 0 0, .slice none 0 0, .slice none 0 0, .slice none 0 0, .int .u64 0, .int .i64 0, .int .u64 0] 58 :: blk b3 e.cs 32 :: blk b2 [.slice r.aL r.L.length r.cL, .slice r.aJ 64 r.cJ, .slice r.aR 64 r.cR, .slice (some ⟨d10, 0, none⟩) 64 c10, .int .u64 e.tm, .int .i64 e.wr, .int .u64 ((e.enc.take k).foldl markB r.mark : Nat)] 58 :: H)) e.enc.length 0 ⟨rfl, Nat.zero_le _, hs⟩ ?_
    clear hs hk
    rintro gk k w17 ⟨rfl, hkl, hs⟩
    refine go ?_
    refine C.cond_dec (p := (k : Int) < e.enc.length) rfl (fun h => ?_) (fun h => ?_)
    · have hm := hf3 (e.enc.take k) r.mark hmk
      have hb := (e.enc[k]'(by omega)).toNat_lt
      refine go ?_
      refine C.held0 hs ?_
      intro w18 hk hs
      refine goh ?_
      refine EH.ix1 el_u8 hp16 k (bs_get (by omega)) hk (fun w h => h) ?_
      intro b19 o19 hc
      refine goh ?_
      refine EH.ld hs ?_ (hj := rfl)
      refine kept0 hs (fun hk => ?_)
      refine goh ?_
      have emk : IntKind.u64.wrap ((((e.enc.take k).foldl markB r.mark ^^^ (e.enc[k]'(by omega)).toNat : Nat) : Int) * 1099511628211) = ((markB ((e.enc.take k).foldl markB r.mark) (e.enc[k]'(by omega)) : Nat) : Int) := by
        have := u64_mod (((e.enc.take k).foldl markB r.mark ^^^ (e.enc[k]'(by omega)).toNat) * 1099511628211)
        rw [← show ((1099511628211 : Nat) : Int) = 1099511628211 from rfl, ← Int.natCast_mul, this, markB]
      rw [emk]
      refine EH.sto (vs := [.int .u64 (markB ((e.enc.take k).foldl markB r.mark) (e.enc[k]'(by omega)) : Nat)]) (ys := [.slice r.aL r.L.length r.cL, .slice r.aJ 64 r.cJ, .slice r.aR 64 r.cR, .slice (some ⟨d10, 0, none⟩) 64 c10, .int .u64 e.tm, .int .i64 e.wr, .int .u64 (markB ((e.enc.take k).foldl markB r.mark) (e.enc[k]'(by omega)) : Nat)]) hs ?_ (hv := rfl) (hsp := rfl)
      intro w20 hs
      refine kept0 hs (fun hk => ?_)
      refine EH.done ?_
      refine go ?_
      refine A.rd (e.enc.length - (k + 1)) (k + 1) ⟨rfl, by omega, ?_⟩
      rw [List.take_succ_eq_append_getElem (by omega), List.foldl_append, List.foldl_cons, List.foldl_nil]
      exact hs
    · obtain rfl : k = e.enc.length := by omega
      rw [List.take_length] at hs
      refine go ?_
      exact A.mt () hs
  clear hs
  rintro _ w14 hs
  have hset : (r.hv.set e.wr.toNat e.sq) = r.hv.set wr e.sq := by rw [hwe]; rfl
  have hok : ∀ (aL : Option Addr) (cL : Nat) (L : List Rc) g', Hl.le g16 g' → Pr 4 g' (.slice aL L.length cL) L.length (rcC L) → (∀ c ∈ L, c.ok g') → L.length ≤ r.L.length + 1 → (r.nxt e (some ⟨d10, 0, none⟩) c10 aL cL L).ok g' := by
    intro aL cL L g' hg' hp hc hl
    have hr' := hr.mono (hgl.trans hg')
    refine ⟨hp, hc, by simp only [Rf.nxt]; omega, hr'.mem, hr'.ret, ?_, hr'.lm, hr'.lr, by simp only [Rf.nxt, List.length_set]; exact hr.lh, ?_, ho.tm, hf3 _ _ hmk⟩
    · simp only [Rf.nxt, hset]
      exact (hp12.mono hg15).mono (hg16.trans hg')
    · simp only [Rf.nxt, hset]
      intro x hx
      rcases List.mem_or_eq_of_mem_set hx with hx | rfl
      · exact hr.hlt x hx
      · exact ho.sq
  have hok0 := hok r.aL r.cL r.L g16 (Hl.le_refl _) (hr.L.mono hgl) (fun c hc => (hr.cells c hc).mono hgl) (by omega)
  have ho16 := ho.mono hgl
  obtain ⟨at_, ct, etv, _, _⟩ := ho16.tv.len
  have htv := ho16.tv
  rw [etv] at htv
  have hcells := fun c hc => (hr.cells c hc).mono hgl
  refine gob ?_
  refine C.cut (fun x : Option Addr × Nat × List Rc × Hl => [(2, .pointer (some ⟨b2, 0, none⟩)), (4, .pointer (some ⟨b4, 0, none⟩))])
    (fun x w => Hl.le g16 x.2.2.2 ∧ Pr 4 x.2.2.2 (.slice x.1 x.2.2.1.length x.2.1) x.2.2.1.length (rcC x.2.2.1) ∧ (∀ c ∈ x.2.2.1, c.ok x.2.2.2) ∧ x.2.2.1.length ≤ r.L.length + 1 ∧ Rl x.2.2.1 (f.add e).cells ∧ Sat W w x.2.2.2 (blk b4 [.slice none 0 0, .slice none 0 0, .slice none 0 0, .slice none 0 0, .int .u64 0, .int .i64 0, .int .u64 0] 58 :: blk b3 e.cs 32 :: blk b2 [.slice x.1 x.2.2.1.length x.2.1, .slice r.aJ 64 r.cJ, .slice r.aR 64 r.cR, .slice (some ⟨d10, 0, none⟩) 64 c10, .int .u64 e.tm, .int .i64 e.wr, .int .u64 (e.enc.foldl markB r.mark : Nat)] 58 :: H)) ?_ ?_
  · have hcases : e.kd = 1 ∨ e.kd = 2 ∨ e.kd = 3 ∨ e.kd = 4 := by omega
    refine C.block ?_
    rcases hcases with hq | hq | hq | hq
    · have eadd : (f.add e).cells = aput e.key ⟨1, e.text, 0⟩ f.cells := by simp only [Fo.add]; rw [if_pos hq]
      refine go ?_
      rw [show decide ((e.kd : Int) = 1) = true from decide_eq_true (by omega)]
      refine go ?_
      rw [etv]
      refine go ?_
      have hcok : (⟨e.key, 1, e.text, 0, .slice at_ e.text.length ct⟩ : Rc).ok g16 := ⟨htv, by simp only; omega, by simp only; omega, ho16.key, ho16.text⟩
      refine E.callf Tryz.func80 rfl ?_
      refine put_any (r := r.nxt e (some ⟨d10, 0, none⟩) c10 r.aL r.cL r.L) (c := ⟨e.key, 1, e.text, 0, .slice at_ e.text.length ct⟩) hok0 hcok hs ?_
      intro a' c' w18 g18 hg18 hp18 hs
      simp only [Rf.nxt] at hp18 hs ⊢
      generalize hN : fput r.L ⟨e.key, 1, e.text, 0, .slice at_ e.text.length ct⟩ = L2 at hp18 hs ⊢
      refine go ?_
      refine E.sto (vs := [.slice a' L2.length c', .slice r.aJ 64 r.cJ, .slice r.aR 64 r.cR, .slice (some ⟨d10, 0, none⟩) 64 c10, .int .u64 e.tm, .int .i64 e.wr, .int .u64 (e.enc.foldl markB r.mark : Nat)]) (ys := [.slice a' L2.length c', .slice r.aJ 64 r.cJ, .slice r.aR 64 r.cR, .slice (some ⟨d10, 0, none⟩) 64 c10, .int .u64 e.tm, .int .i64 e.wr, .int .u64 (e.enc.foldl markB r.mark : Nat)]) hs ?_ (hv := rfl) (hsp := rfl)
      intro w19 hs
      refine go ?_
      subst hN
      refine A.mt (a', c', fput r.L ⟨e.key, 1, e.text, 0, .slice at_ e.text.length ct⟩, g18) ⟨hg18, hp18, fun c hc => ?_, fput_len _ _, ?_, hs⟩
      · rcases fput_mem hc with rfl | hc
        · exact hcok.mono hg18
        · exact (hcells c hc).mono hg18
      · rw [eadd]
        have := hrel.rl.put (c := ⟨e.key, 1, e.text, 0, .slice at_ e.text.length ct⟩) hn
        simp only [Rc.pr, show bitsF 0 = 0 by decide +kernel] at this
        exact this
    · have eadd : (f.add e).cells = aput e.key ⟨2, [], bitsF e.num⟩ f.cells := by simp only [Fo.add]; rw [if_neg (by omega), if_pos hq]
      refine go ?_
      rw [show decide ((e.kd : Int) = 1) = false from decide_eq_false (by omega)]
      refine go ?_
      rw [show decide ((e.kd : Int) = 2) = true from decide_eq_true (by omega)]
      refine go ?_
      refine C.held1 b3 hs ?_
      intro w15 hk hs
      refine goh ?_
      apply laterK (α := Nat) (fuel := 2) (m := 127) (f := fun x => [(2, .pointer (some ⟨b2, 0, none⟩)), (4, .pointer (some ⟨b4, 0, none⟩)), (89, .agg #[.slice r.aL r.L.length r.cL, .slice r.aJ 64 r.cJ, .slice r.aR 64 r.cR, .slice (some ⟨d10, 0, none⟩) 64 c10, .int .u64 e.tm, .int .i64 e.wr, .int .u64 (e.enc.foldl markB r.mark : Nat)]), (95, .agg #[.string ⟨e.key.toArray⟩, .int .u8 2, .slice none 0 0, .float .f64 x])])
        (M := fun x w => Keeps g16 [(b3, e.cs, 32)] w ∧ bitsF x = bitsF e.num ∧ x < 18446744073709551616 ∧ Sat W w g16 (blk b4 [.slice none 0 0, .slice none 0 0, .slice none 0 0, .slice none 0 0, .int .u64 0, .int .i64 0, .int .u64 0] 58 :: blk b3 e.cs 32 :: blk b2 [.slice r.aL r.L.length r.cL, .slice r.aJ 64 r.cJ, .slice r.aR 64 r.cR, .slice (some ⟨d10, 0, none⟩) 64 c10, .int .u64 e.tm, .int .i64 e.wr, .int .u64 (e.enc.foldl markB r.mark : Nat)] 58 :: H))
      · rintro x w16 ⟨hk, hx, hxl, hs⟩
        refine goh ?_
        have hcok : (⟨e.key, 2, [], x, .slice none 0 0⟩ : Rc).ok g16 := ⟨Pr.nil, by simp only; omega, hxl, ho16.key, by simp⟩
        refine EH.one (St.callf Tryz.func80 rfl ?_)
        refine put_any (r := r.nxt e (some ⟨d10, 0, none⟩) c10 r.aL r.cL r.L) (c := ⟨e.key, 2, [], x, .slice none 0 0⟩) hok0 hcok hs ?_
        intro a' c' w18 g18 hg18 hp18 hs
        simp only [Rf.nxt] at hp18 hs ⊢
        generalize hN : fput r.L ⟨e.key, 2, [], x, .slice none 0 0⟩ = L2 at hp18 hs ⊢
        refine kept1 hs (fun hk => ?_) hg18
        refine goh ?_
        refine EH.sto (vs := [.slice a' L2.length c', .slice r.aJ 64 r.cJ, .slice r.aR 64 r.cR, .slice (some ⟨d10, 0, none⟩) 64 c10, .int .u64 e.tm, .int .i64 e.wr, .int .u64 (e.enc.foldl markB r.mark : Nat)]) (ys := [.slice a' L2.length c', .slice r.aJ 64 r.cJ, .slice r.aR 64 r.cR, .slice (some ⟨d10, 0, none⟩) 64 c10, .int .u64 e.tm, .int .i64 e.wr, .int .u64 (e.enc.foldl markB r.mark : Nat)]) hs ?_ (hv := rfl) (hsp := rfl)
        intro w19 hs
        refine kept1 hs (fun hk => ?_) hg18
        refine EH.done ?_
        refine go ?_
        subst hN
        refine A.mt (a', c', fput r.L ⟨e.key, 2, [], x, .slice none 0 0⟩, g18) ⟨hg18, hp18, fun c hc => ?_, fput_len _ _, ?_, hs⟩
        · rcases fput_mem hc with rfl | hc
          · exact hcok.mono hg18
          · exact (hcells c hc).mono hg18
        · rw [eadd]
          have := hrel.rl.put (c := ⟨e.key, 2, [], x, .slice none 0 0⟩) hn
          simp only [Rc.pr, hx] at this
          exact this
      · intro key
        refine EH.two ?_ (St.callf Tryz.func81 rfl ?_)
        · refine St.ldp ag_rf hs ⟨hk, ?_⟩
          refine EH.one (St.callf Tryz.func81 rfl ?_)
          refine rplain_any ho.num hs ?_
          intro x w16 hx hxl hs
          refine kept1 hs (fun hk => ?_)
          refine goh ?_
          exact EH.forget wk_ (key x _ ⟨hk, hx, hxl, hs⟩)
        · refine rplain_any ho.num hs ?_
          intro x w16 hx hxl hs
          refine kept1 hs (fun hk => ?_)
          refine goh ?_
          refine EH.ldp ag_rf hs ⟨hk, ?_⟩
          exact EH.forget wk_ (key x _ ⟨hk, hx, hxl, hs⟩)
    · have eadd : (f.add e).cells = aput e.key ⟨2, [], (if ((aget e.key f.cells).map Ce.kd).getD 0 = 2 then sumF (((aget e.key f.cells).map Ce.num).getD 0) e.num else bitsF e.num)⟩ f.cells := by simp only [Fo.add]; rw [if_neg (by omega), if_neg (by omega), if_pos hq]
      refine go ?_
      rw [show decide ((e.kd : Int) = 1) = false from decide_eq_false (by omega)]
      refine go ?_
      rw [show decide ((e.kd : Int) = 2) = false from decide_eq_false (by omega)]
      refine go ?_
      rw [show decide ((e.kd : Int) = 3) = true from decide_eq_true (by omega)]
      refine go ?_
      refine E.callf Tryz.func81 rfl ?_
      refine rplain_any ho.num hs ?_
      intro x0 w15 hx0 hxl0 hs
      refine go ?_
      refine E.callf Tryz.func82 rfl ?_
      refine find_any (r := r.nxt e (some ⟨d10, 0, none⟩) c10 r.aL r.cL r.L) (k := e.key) hok0 hs ?_
      intro w16 hs
      simp only [Rf.nxt]
      apply laterE (α := Nat) (f := fun x => [(2, .pointer (some ⟨b2, 0, none⟩)), (4, .pointer (some ⟨b4, 0, none⟩)), (129, .agg #[.slice r.aL r.L.length r.cL, .slice r.aJ 64 r.cJ, .slice r.aR 64 r.cR, .slice (some ⟨d10, 0, none⟩) 64 c10, .int .u64 e.tm, .int .i64 e.wr, .int .u64 (e.enc.foldl markB r.mark : Nat)]), (133, .agg #[.string ⟨e.key.toArray⟩, .int .u8 2, .slice none 0 0, .float .f64 x])])
        (M := fun x w => bitsF x = (if ((aget e.key f.cells).map Ce.kd).getD 0 = 2 then sumF (((aget e.key f.cells).map Ce.num).getD 0) e.num else bitsF e.num) ∧ x < 18446744073709551616 ∧ Sat W w g16 (blk b4 [.slice none 0 0, .slice none 0 0, .slice none 0 0, .slice none 0 0, .int .u64 0, .int .i64 0, .int .u64 0] 58 :: blk b3 e.cs 32 :: blk b2 [.slice r.aL r.L.length r.cL, .slice r.aJ 64 r.cJ, .slice r.aR 64 r.cR, .slice (some ⟨d10, 0, none⟩) 64 c10, .int .u64 e.tm, .int .i64 e.wr, .int .u64 (e.enc.foldl markB r.mark : Nat)] 58 :: H))
      · intro key
        cases hfh : fhas r.L e.key with
        | false =>
          have hag : aget e.key f.cells = none := by
            refine aget_none fun hmem => ?_
            have h1 := (hrel.rl.1.map Prod.fst).mem_iff.2 hmem
            rw [List.map_map] at h1
            obtain ⟨c, hc, hce⟩ := List.mem_map.1 h1
            exact fhas_not hrel.rl.2 hfh c hc hce
          refine go ?_
          refine E.forget wk_ (key x0 _ ⟨?_, hxl0, hs⟩)
          rw [hag]
          simpa using hx0
        | true =>
          obtain ⟨hil, hik⟩ := fhas_key hfh
          generalize fpos r.L e.key = i at hil hik ⊢
          have hcl := hr.cells r.L[i] (List.getElem_mem hil)
          have hag : aget e.key f.cells = some ⟨r.L[i].kd, r.L[i].text, bitsF r.L[i].num⟩ := by
            have := hrel.cell hn (List.getElem_mem hil)
            rw [hik] at this
            exact this
          have hL : Pr 4 g16 (.slice r.aL r.L.length r.cL) r.L.length (rcC r.L) := hok0.L
          refine go ?_
          refine E.ixs el_rc hs hL i ?_
          intro b20 o20 hr20
          have hr21 : w16.rangeAt b20 o20 r.L[i].cs := by
            have := rcC_at (l := r.L) hil
            rw [← this]
            exact hr20
          have c1 : w16.cell? ⟨b20, o20 + 1, none⟩ = some (.int .u8 r.L[i].kd) := hr21 1 _ rfl
          refine go ?_
          cases hk2 : decide ((r.L[i].kd : Int) = 2) with
          | false =>
            have hk2 := of_decide_eq_false hk2
            refine go ?_
            refine E.forget wk_ (key x0 _ ⟨?_, hxl0, hs⟩)
            rw [hag]
            simp only [Option.map_some, Option.getD_some]
            rw [if_neg (by omega)]
            exact hx0
          | true =>
            have hk2 := of_decide_eq_true hk2
            refine go ?_
            obtain ⟨by_, oy, hya⟩ := pr_some hr.L (by omega)
            have hj : (rcC r.L)[i * 4 + 3]? = some (.float .f64 r.L[i].num) := by
              have := congrArg (fun l : List Value => l[3]?) (rcC_at hil)
              simp only [List.getElem?_take, List.getElem?_drop] at this
              simpa [Rc.cs] using this
            refine C.held2 b3 b2 hs ?_
            intro w21 hk hs
            have rd := Rd.pool (F := [(b3, e.cs, 32), (b2, [.slice r.aL r.L.length r.cL, .slice r.aJ 64 r.cJ, .slice r.aR 64 r.cR, .slice (some ⟨d10, 0, none⟩) 64 c10, .int .u64 e.tm, .int .i64 e.wr, .int .u64 (e.enc.foldl markB r.mark : Nat)], 58)]) (hya ▸ hL) hj
            refine goh ?_
            refine EH.one ?_
            refine St.fadd hs ?_
            intro s23 w23 hs hs23
            refine kept2 hs (fun hk => ?_)
            have hs23l : s23 < 18446744073709551616 := by
              rcases hs23 with h | h
              · exact Ieee.Format.add_lt _ h
              · exact h.2.2
            refine EH.one (St.callf Tryz.func81 rfl ?_)
            refine rplain_any hs23l hs ?_
            intro x w24 hx hxl hs
            refine kept2 hs (fun hk => ?_)
            refine goh ?_
            refine EH.done ?_
            refine go ?_
            refine E.forget wk_ (key x _ ⟨?_, hxl, hs⟩)
            rw [hag, hx, sumF_of hs23]
            simp only [Option.map_some, Option.getD_some]
            rw [if_pos (by omega), sumF_bits]
      · rintro x w22 ⟨hx, hxl, hs⟩
        have hcok : (⟨e.key, 2, [], x, .slice none 0 0⟩ : Rc).ok g16 := ⟨Pr.nil, by simp only; omega, hxl, ho16.key, by simp⟩
        refine E.callf Tryz.func80 rfl ?_
        refine put_any (r := r.nxt e (some ⟨d10, 0, none⟩) c10 r.aL r.cL r.L) (c := ⟨e.key, 2, [], x, .slice none 0 0⟩) hok0 hcok hs ?_
        intro a' c' w18 g18 hg18 hp18 hs
        simp only [Rf.nxt] at hp18 hs ⊢
        generalize hN : fput r.L ⟨e.key, 2, [], x, .slice none 0 0⟩ = L2 at hp18 hs ⊢
        refine go ?_
        refine E.sto (vs := [.slice a' L2.length c', .slice r.aJ 64 r.cJ, .slice r.aR 64 r.cR, .slice (some ⟨d10, 0, none⟩) 64 c10, .int .u64 e.tm, .int .i64 e.wr, .int .u64 (e.enc.foldl markB r.mark : Nat)]) (ys := [.slice a' L2.length c', .slice r.aJ 64 r.cJ, .slice r.aR 64 r.cR, .slice (some ⟨d10, 0, none⟩) 64 c10, .int .u64 e.tm, .int .i64 e.wr, .int .u64 (e.enc.foldl markB r.mark : Nat)]) hs ?_ (hv := rfl) (hsp := rfl)
        intro w19 hs
        refine go ?_
        subst hN
        refine A.mt (a', c', fput r.L ⟨e.key, 2, [], x, .slice none 0 0⟩, g18) ⟨hg18, hp18, fun c hc => ?_, fput_len _ _, ?_, hs⟩
        · rcases fput_mem hc with rfl | hc
          · exact hcok.mono hg18
          · exact (hcells c hc).mono hg18
        · rw [eadd]
          have := hrel.rl.put (c := ⟨e.key, 2, [], x, .slice none 0 0⟩) hn
          simp only [Rc.pr, hx] at this
          exact this
    · have eadd : (f.add e).cells = adrop e.key f.cells := by simp only [Fo.add]; rw [if_neg (by omega), if_neg (by omega), if_neg (by omega), if_pos hq]
      refine go ?_
      rw [show decide ((e.kd : Int) = 1) = false from decide_eq_false (by omega)]
      refine go ?_
      rw [show decide ((e.kd : Int) = 2) = false from decide_eq_false (by omega)]
      refine go ?_
      rw [show decide ((e.kd : Int) = 3) = false from decide_eq_false (by omega)]
      refine go ?_
      rw [show decide ((e.kd : Int) = 4) = true from decide_eq_true (by omega)]
      refine go ?_
      refine E.callf Tryz.func83 rfl ?_
      refine drop_any (r := r.nxt e (some ⟨d10, 0, none⟩) c10 r.aL r.cL r.L) (k := e.key) hok0 hs ?_
      intro a' c' w18 g18 hg18 hp18 hs
      simp only [Rf.nxt] at hp18 hs ⊢
      generalize hN : fdrop r.L e.key = L2 at hp18 hs ⊢
      refine go ?_
      refine E.sto (vs := [.slice a' L2.length c', .slice r.aJ 64 r.cJ, .slice r.aR 64 r.cR, .slice (some ⟨d10, 0, none⟩) 64 c10, .int .u64 e.tm, .int .i64 e.wr, .int .u64 (e.enc.foldl markB r.mark : Nat)]) (ys := [.slice a' L2.length c', .slice r.aJ 64 r.cJ, .slice r.aR 64 r.cR, .slice (some ⟨d10, 0, none⟩) 64 c10, .int .u64 e.tm, .int .i64 e.wr, .int .u64 (e.enc.foldl markB r.mark : Nat)]) hs ?_ (hv := rfl) (hsp := rfl)
      intro w19 hs
      refine go ?_
      subst hN
      refine A.mt (a', c', fdrop r.L e.key, g18) ⟨hg18, hp18, fun c hc => (hcells c (fdrop_mem hc)).mono hg18, fdrop_len _ _, ?_, hs⟩
      rw [eadd]
      exact hrel.rl.drop hn
  clear hs
  rintro ⟨aL, cL, L, g17⟩ w17 ⟨hg17, hp17, hc17, hl17, hL17, hs⟩
  simp only at hg17 hp17 hc17 hl17 hL17 hs ⊢
  refine go ?_
  refine E.sto (vs := [.slice aL L.length cL, .slice r.aJ 64 r.cJ, .slice r.aR 64 r.cR, .slice (some ⟨d10, 0, none⟩) 64 c10, .int .u64 e.tm, .int .i64 e.wr, .int .u64 (e.enc.foldl markB r.mark : Nat)]) (ys := [.slice aL L.length cL, .slice r.aJ 64 r.cJ, .slice r.aR 64 r.cR, .slice (some ⟨d10, 0, none⟩) 64 c10, .int .u64 e.tm, .int .i64 e.wr, .int .u64 (e.enc.foldl markB r.mark : Nat)]) hs ?_ (hv := rfl) (hsp := rfl)
  intro w19 hs
  refine go ?_
  refine A.c1t1 rfl rfl rfl (run_lda hs ag_rf) ?_
  exact HR.out (r.nxt e (some ⟨d10, 0, none⟩) c10 aL cL L) _ g17 (hgl.trans hg17) (hok _ _ _ _ hg17 hp17 hc17 hl17) (hrel.nxt hr he hL17) hl17 hs.drop.drop.drop
end Go.Proofs.YtkolnecahlkndaaGreat

/-
  The reference of layer 11: what events come to.
-/
namespace Go.Proofs.YtkolnecahlkndaaGreat
open Go.RowKit
set_option linter.unusedVariables false
set_option linter.unusedSimpArgs false

theorem Fo.add_nodup {f : Fo} {e : Ev} (h : (f.cells.map Prod.fst).Nodup) : ((f.add e).cells.map Prod.fst).Nodup := by
  simp only [Fo.add]
  split
  · exact aput_nodup h
  split
  · exact aput_nodup h
  split
  · exact aput_nodup h
  split
  · exact h.sublist ((adrop_sub _ _).map _)
  · exact h
theorem Fo.adds_nodup : ∀ (l : List Ev) (f : Fo), (f.cells.map Prod.fst).Nodup → ((f.adds l).cells.map Prod.fst).Nodup
  | [], _, h => h
  | _ :: l, _, h => Fo.adds_nodup l _ (Fo.add_nodup h)
theorem Rel.new {r : Rf} (h1 : r.L = []) (h2 : r.mem = (foNew 3).mem) (h3 : r.ret = (foNew 3).ret) (h4 : r.hv = List.replicate 64 0) (h5 : r.tm = 0) (h6 : r.wr = 0) (h7 : r.mark = 14695981039346656037) : Rel r (foNew 3) := by
  refine ⟨?_, h2, h3, fun u => ?_, h5, h6, h7⟩
  · rw [h1]
    exact ⟨List.Perm.refl _, List.Pairwise.nil⟩
  · rw [h4]
    unfold vget
    rw [if_pos (Int.natCast_nonneg u)]
    simp only [Int.toNat_natCast, List.getD_eq_getElem?_getD, List.getElem?_replicate, foNew]
    split <;> simp

set_option maxHeartbeats 3200000 in
set_option maxRecDepth 100000 in
theorem rof_any {R : Ending → World → Prop} {W w : World} {g : Hl} {H : List HP} {x : El} (hx : x.ok g) (hgd : ∀ e ∈ x.es, e.good) (hfit : (foNew 3).fits x.es) (hl : x.es.length ≤ 900000) (hs : Sat W w g H)
    (hR : ∀ r w' g', Hl.le g g' → Rf.ok r g' → Rel r ((foNew 3).adds x.es) → r.L.length ≤ x.es.length → Sat W w' g' H → R (.returned r.val) w') : Calls Tryz.prog 19 #[.int .i64 3, x.v] w R := by
  have HR := Lib.hid hR
  clear hR
  have ag1 := ag_rf
  have ag2 := ag_ev
  refine C.calls (args := [.int .i64 3, .slice x.a x.es.length x.c]) Tryz.func19 rfl rfl rfl ?_
  refine go ?_
  refine E.al hs ?_
  intro b4 w1 hs
  refine go ?_
  refine E.callf Tryz.func50 rfl ?_
  refine rfNew_any hs ?_
  intro r w2 g2 hg2 hr h1 h2 h3 h4 h5 h6 h7 hs
  have hrel := Rel.new h1 h2 h3 h4 h5 h6 h7
  have hrl : r.L.length = 0 := by rw [h1]; rfl
  clear h1 h2 h3 h4 h5 h6 h7
  refine E.al hs ?_
  intro b5 w3 hs
  refine E.sto (vs := r.cs) (ys := r.cs) hs ?_ (hv := rfl) (hsp := rfl)
  intro w4 hs
  refine gob ?_
  refine C.cut (fun _ : Unit => [(4, .pointer (some ⟨b4, 0, none⟩)), (5, .pointer (some ⟨b5, 0, none⟩))])
    (fun _ w => ∃ (r : Rf) (g' : Hl), Hl.le g g' ∧ r.ok g' ∧ Rel r ((foNew 3).adds x.es) ∧ r.L.length ≤ x.es.length ∧ Sat W w g' (blk b5 r.cs 58 :: blk b4 [.slice none 0 0, .slice none 0 0, .slice none 0 0, .slice none 0 0, .int .u64 0, .int .i64 0, .int .u64 0] 58 :: H)) ?_ ?_
  · refine C.block ?_
    refine C.lp (fun i : Nat => [(1, .slice x.a x.es.length x.c), (4, .pointer (some ⟨b4, 0, none⟩)), (5, .pointer (some ⟨b5, 0, none⟩)), (6, .int .i64 i)])
      (fun gk i w => gk = x.es.length - i ∧ i ≤ x.es.length ∧ ∃ (r : Rf) (g' : Hl), Hl.le g g' ∧ r.ok g' ∧ Rel r ((foNew 3).adds (x.es.take i)) ∧ r.L.length ≤ i ∧ Sat W w g' (blk b5 r.cs 58 :: blk b4 [.slice none 0 0, .slice none 0 0, .slice none 0 0, .slice none 0 0, .int .u64 0, .int .i64 0, .int .u64 0] 58 :: H)) x.es.length 0 ⟨rfl, Nat.zero_le _, r, g2, hg2, hr, hrel, by omega, hs⟩ ?_
    clear hs hrel hr hrl
    rintro gk i w5 ⟨rfl, hi, r, g5, hg5, hr, hrel, hrl, hs⟩
    refine go ?_
    refine C.cond_dec (p := (i : Int) < x.es.length) rfl (fun h => ?_) (fun h => ?_)
    · have hil : i < x.es.length := by omega
      have hee := hx.evs x.es[i] (List.getElem_mem hil)
      have hry := hx.row.mono hg5
      obtain ⟨by_, oy, hya⟩ := pr_some hry (by omega)
      simp only [El.v, hya] at hry
      refine go ?_
      rw [hya]
      refine C.held0 hs ?_
      intro w6 hk hs
      refine goh ?_
      refine EH.t1 hk ?_ (hy := Pf.loadpr ag_ev hry hil (evC_at hil) rfl rfl)
      refine goh ?_
      refine EH.ldp (vs := r.cs) ag_rf hs ⟨hk, ?_⟩ (hv := rfl)
      have hst : ((foNew 3).adds (x.es.take i)).step x.es[i] = (0, ((foNew 3).adds (x.es.take i)).add x.es[i]) := by
        have h1 := hfit
        rw [← List.take_append_drop i x.es, fits_append, List.drop_eq_getElem_cons hil] at h1
        exact h1.2.1
      have hnd : (((foNew 3).adds (x.es.take i)).cells.map Prod.fst).Nodup := Fo.adds_nodup _ _ (by simp [foNew])
      refine EH.one (St.callf Tryz.func51 rfl ?_)
      refine rapply_any (r := r) (e := x.es[i]) hr hrel hnd (hgd _ (List.getElem_mem hil)) (hee.1.mono hg5) hst (by omega) hs ?_
      intro r' w7 g7 hg7 hr' hrel' hrl' hs
      refine kept0 hs (fun hk => ?_) hg7
      refine goh ?_
      refine EH.sto (vs := r'.cs) (ys := r'.cs) hs ?_ (hv := rfl) (hsp := rfl)
      intro w8 hs
      refine kept0 hs (fun hk => ?_) hg7
      refine EH.done ?_
      refine go ?_
      rw [← hya]
      refine A.rd (x.es.length - (i + 1)) (i + 1) ⟨rfl, by omega, r', g7, hg5.trans hg7, hr', ?_, by omega, hs⟩
      rw [List.take_succ_eq_append_getElem hil, adds_append]
      exact hrel'
    · obtain rfl : i = x.es.length := by omega
      refine go ?_
      rw [List.take_length] at hrel
      exact A.mt () ⟨r, g5, hg5, hr, hrel, hrl, hs⟩
  clear hs hrel hr hrl
  rintro _ w9 ⟨r, g9, hg9, hr, hrel, hrl, hs⟩
  refine go ?_
  refine E.sto (vs := r.cs) (ys := r.cs) hs ?_ (hv := rfl) (hsp := rfl)
  intro w10 hs
  refine go ?_
  refine A.c1 rfl rfl (run_lda hs ag_rf) ?_
  exact HR.out r _ g9 hg9 hr hrel hrl hs.drop.drop
end Go.Proofs.YtkolnecahlkndaaGreat

/-
  Layer 15 (view): what a view tells (told).
-/
namespace Go.Proofs.YtkolnecahlkndaaGreat
open Go.RowKit
set_option linter.unusedVariables false
set_option linter.unusedSimpArgs false

set_option maxHeartbeats 6400000 in
set_option maxRecDepth 100000 in
theorem told_any {R : Ending → World → Prop} {W w : World} {g : Hl} {H : List HP} {vb b b' k : Nat} {x y : El} {f0 F : Fo} (hx : x.ok g) (hy : y.ok g) (hT : Tale x.es) (hkl : k ≤ x.es.length) (hye : y.es = x.es.drop k) (hF : F = (foNew 3).adds x.es) (hs : Sat W w g (vw vb b b' y :: fold b' F :: fold b f0 :: H))
    (hR : ∀ w' g', Hl.le g g' → Sat W w' g' (vw vb b b' y :: fold b' F :: fold b f0 :: H) → R (.returned (.bool true)) w') :
    Calls Tryz.prog 9 #[ptr vb, x.v, .int .i64 k] w R := by
  have HR := Lib.hid hR
  clear hR
  have ag1 := ag_rf
  have ag2 := ag_ev
  have ag3 := ag_cell
  have ag4 := ag_rc
  have hxl := hT.few
  have hyl : y.es.length = x.es.length - k := by rw [hye, List.length_drop]
  obtain ⟨hFs, hFc⟩ := hT.short
  rw [← hF] at hFs hFc
  have hFo : F.ok := by
    obtain ⟨i, hi, _⟩ := fold_open hs.swap
    exact hi.ok
  have hFl := Fo.enc_len hFo hFs hFc
  refine C.calls (args := [ptr vb, .slice x.a x.es.length x.c, .int .i64 k]) Tryz.func9 rfl rfl rfl ?_
  refine go ?_
  refine E.callf Tryz.func19 rfl ?_
  refine rof_any (x := x) hx hT.good hT.fits (by omega) hs ?_
  intro r w2 g2 hg2 hr hrel hrl hs
  rw [← hF] at hrel
  have henc := hrel.enc hFo.keys
  have hlen : r.L.length = F.cells.length := by
    have := hrel.rl.1.length_eq
    simpa using this
  have hlb : r.L.length ≤ 180 := by omega
  have hcb : F.cells.length ≤ 1000000000 := by omega
  have hkeys : F.keys = r.L.map Rc.key := hrel.keys
  replace hlen := Lib.hid hlen
  replace hF := Lib.hid hF
  replace hye := Lib.hid hye
  replace hkeys := Lib.hid hkeys
  refine E.al hs ?_
  intro b7 w3 hs
  refine E.sto (vs := r.cs) (ys := r.cs) hs ?_ (hv := rfl) (hsp := rfl)
  intro w4 hs
  refine go ?_
  refine C.held1 b7 hs ?_
  intro w5 hk hs
  refine goh ?_
  refine EH.one (St.guard rfl rfl (St.callf Tryz.func13 rfl ?_))
  refine vwLen_any hs.swap ?_
  refine kept1 hs (fun hk => ?_)
  rw [show ((x.es.length : Int) - (k : Int)) = (y.es.length : Int) by omega]
  refine goh ?_
  rw [show decide ((y.es.length : Int) = (y.es.length : Int)) = true from decide_eq_true rfl]
  refine goh ?_
  refine EH.one (St.guard rfl rfl (St.callf Tryz.func20 rfl ?_))
  refine vwMark_any hs.push2 ?_
  refine kept1 hs (fun hk => ?_)
  rw [← hrel.mark]
  refine goh ?_
  rw [show decide ((r.mark : Int) = (r.mark : Int)) = true from decide_eq_true rfl]
  refine goh ?_
  refine EH.one (St.guard rfl rfl (St.callf Tryz.func21 rfl ?_))
  refine vwFold_any hs.push2 ?_
  intro b6 w6 hs
  refine kept1 hs (fun hk => ?_)
  refine goh ?_
  refine EH.one (St.guard rfl rfl (St.callf Tryz.func11 rfl ?_))
  refine foldEncode_any hFl (by omega) hs ?_
  intro a8 c8 w8 g8 hg8 hs
  obtain ⟨g9, hg9, hp9, hs9⟩ := hs.publishOwn
  refine keptp1 hs9 (fun hk => ?_) (hg8.trans hg9)
  have hs := hs9
  clear hs9
  refine goh ?_
  refine EH.strc hp9 hk (fun _ h => h) Tryz.underlying29 Tryz.underlying5 Tryz.underlying9 ?_
  refine goh ?_
  refine EH.one (St.guard rfl rfl (St.callf Tryz.func22 rfl ?_))
  refine rfEncode_any (hr.mono (hg8.trans hg9)) (by rw [henc]; exact hFl) hs ?_
  intro a10 c10 w10 g10 hg10 hs
  obtain ⟨g11, hg11, hp11, hs11⟩ := hs.publishOwn
  refine keptp1 hs11 (fun hk => ?_) (hg10.trans hg11)
  have hs := hs11
  clear hs11
  rw [henc] at hp11 ⊢
  refine goh ?_
  refine EH.strc hp11 hk (fun _ h => h) Tryz.underlying29 Tryz.underlying5 Tryz.underlying9 ?_
  refine goh ?_
  rw [show decide (F.enc = F.enc) = true from decide_eq_true rfl]
  refine goh ?_
  refine EH.one (St.guard rfl rfl (St.callf Tryz.func24 rfl ?_))
  refine vwHave_any hs.drop ?_
  intro a12 c12 w12 g12 hg12 hp12 hs
  refine keptp1 hs (fun hk => ?_) hg12
  refine goh ?_
  have hvl := vtrim_len F.vec
  have hvo := hFo.vec
  have hg12' : Hl.le g2 g12 := (((hg8.trans hg9).trans hg10).trans hg11).trans hg12
  refine EH.one (St.guard rfl rfl (St.callf Tryz.func23 rfl ?_))
  refine sameV_any hs hp12 rfl (hr.hv.mono hg12') hr.lh (by omega) (by decide) (fun u => by rw [vtrim_get, hrel.hv]) ?_
  intro w13 hs
  refine kept1 hs (fun hk => ?_)
  refine goh ?_
  refine EH.one (St.guard rfl rfl (St.callf Tryz.func25 rfl ?_))
  refine vwKeys_any hcb hs ?_
  intro a14 c14 w14 g14 hg14 hp14 hs
  refine keptp1 hs (fun hk => ?_) hg14
  rw [← hlen.out]
  refine goh ?_
  rw [show decide ((r.L.length : Int) = (r.L.length : Int)) = true from decide_eq_true rfl]
  refine goh ?_
  refine EH.done ?_
  have hg14' : Hl.le g2 g14 := hg12'.trans hg14
  have hr14 := hr.mono hg14'
  have hy14 := (hy.mono hg2).mono hg14'
  have hx14 := (hx.mono hg2).mono hg14'
  clear hp9 hp11 hp12 hp14 hk
  refine gob ?_
  refine C.cut (fun _ : Unit => [(0, ptr vb), (1, .slice x.a x.es.length x.c), (2, .int .i64 k)])
    (fun _ w => ∃ g', Hl.le g14 g' ∧ Sat W w g' (vw vb b b' y :: fold b' F :: blk b7 r.cs 58 :: fold b f0 :: H)) ?_ ?_
  · refine C.block ?_
    refine C.lp (fun i : Nat => [(0, ptr vb), (1, .slice x.a x.es.length x.c), (2, .int .i64 k), (7, .pointer (some ⟨b7, 0, none⟩)), (8, .int .i64 i)])
      (fun gk i w => gk = r.L.length - i ∧ i ≤ r.L.length ∧ ∃ g', Hl.le g14 g' ∧ Sat W w g' (vw vb b b' y :: fold b' F :: blk b7 r.cs 58 :: fold b f0 :: H)) r.L.length 0 ⟨rfl, Nat.zero_le _, g14, Hl.le_refl _, hs⟩ ?_
    clear hs
    rintro gk i w15 ⟨rfl, hi, g15, hg15, hs⟩
    refine go ?_
    refine C.cond_dec (p := (i : Int) < r.L.length) rfl (fun h => ?_) (fun h => ?_)
    · have hil : i < r.L.length := by omega
      have hr15 := hr14.mono hg15
      have hcl := hr15.cells r.L[i] (List.getElem_mem hil)
      obtain ⟨at_, ct, etv, _, _⟩ := hcl.tv.len
      have htv := hcl.tv
      rw [etv] at htv
      have hce := hrel.cell hFo.keys (List.getElem_mem hil)
      refine go ?_
      refine E.ixs el_rc hs hr15.L i ?_
      intro b20 o20 hr20
      rw [rcC_at hil] at hr20
      have c0 : w15.cell? ⟨b20, o20, none⟩ = some (.string ⟨r.L[i].key.toArray⟩) := hr20 0 _ rfl
      refine go ?_
      refine E.callf Tryz.func26 rfl ?_
      refine vwCell_any (k := r.L[i].key) hs ?_
      intro cc a21 c21 w21 g21 hcc hg21 hp21 hs
      rw [hce] at hcc ⊢
      simp only [Option.getD_some] at hcc
      subst hcc
      rw [Option.isSome_some]
      simp only at hp21 ⊢
      clear hce hr20 c0
      refine go ?_
      refine E.al hs ?_
      intro b9 w22 hs
      refine E.sto (vs := [.int .u8 r.L[i].kd, .slice a21 r.L[i].text.length c21, .float .f64 (bitsF r.L[i].num)]) (ys := [.int .u8 r.L[i].kd, .slice a21 r.L[i].text.length c21, .float .f64 (bitsF r.L[i].num)]) hs ?_ (hv := rfl) (hsp := rfl)
      intro w23 hs
      refine go ?_
      obtain ⟨by_, oy, hya⟩ := pr_some hr15.L (by omega)
      have hL := hr15.L.mono hg21
      rw [hya] at hL
      have hj0 : (rcC r.L)[i * 4]? = some (.string ⟨r.L[i].key.toArray⟩) := by
        have := congrArg (fun l : List Value => l[0]?) (rcC_at hil)
        simp only [List.getElem?_take, List.getElem?_drop] at this
        simpa [Rc.cs] using this
      have hj1 : (rcC r.L)[i * 4 + 1]? = some (.int .u8 r.L[i].kd) := by
        have := congrArg (fun l : List Value => l[1]?) (rcC_at hil)
        simp only [List.getElem?_take, List.getElem?_drop] at this
        simpa [Rc.cs] using this
      have hj2 : (rcC r.L)[i * 4 + 2]? = some (.slice at_ r.L[i].text.length ct) := by
        have := congrArg (fun l : List Value => l[2]?) (rcC_at hil)
        simp only [List.getElem?_take, List.getElem?_drop] at this
        simpa [Rc.cs, etv] using this
      refine C.held2 b9 b7 hs ?_
      intro w24 hk hs
      have rd0 := Rd.pool (F := [(b9, [.int .u8 r.L[i].kd, .slice a21 r.L[i].text.length c21, .float .f64 (bitsF r.L[i].num)], 68), (b7, r.cs, 58)]) hL hj0
      have rd1 := Rd.pool (F := [(b9, [.int .u8 r.L[i].kd, .slice a21 r.L[i].text.length c21, .float .f64 (bitsF r.L[i].num)], 68), (b7, r.cs, 58)]) hL hj1
      have rd2 := Rd.pool (F := [(b9, [.int .u8 r.L[i].kd, .slice a21 r.L[i].text.length c21, .float .f64 (bitsF r.L[i].num)], 68), (b7, r.cs, 58)]) hL hj2
      refine goh ?_
      rw [show decide ((r.L[i].kd : Int) = (r.L[i].kd : Int)) = true from decide_eq_true rfl]
      refine goh ?_
      refine EH.strc hp21 hk (fun _ h => h) Tryz.underlying29 Tryz.underlying5 Tryz.underlying9 ?_
      refine goh ?_
      refine EH.strc (htv.mono hg21) hk (fun _ h => h) Tryz.underlying29 Tryz.underlying5 Tryz.underlying9 ?_
      refine goh ?_
      rw [show decide (r.L[i].text = r.L[i].text) = true from decide_eq_true rfl]
      refine goh ?_
      refine EH.one (St.guard rfl rfl (St.callf Tryz.func25 rfl ?_))
      refine vwKeys_any hcb hs.push2 ?_
      intro a25 c25 w25 g25 hg25 hp25 hs
      refine keptp2 hs (fun hk => ?_) hg25
      refine goh ?_
      rw [hkeys.out] at hp25
      refine EH.ix el_strs hp25 i (v := .string ⟨r.L[i].key.toArray⟩) (by simp [hil, str]) hk (fun _ h => h) ?_ (hj := by have := hlen.out; omega)
      intro b26 o26 rd26
      replace rd0 := Rd.pool (F := [(b9, [.int .u8 r.L[i].kd, .slice a21 r.L[i].text.length c21, .float .f64 (bitsF r.L[i].num)], 68), (b7, r.cs, 58)]) (hL.mono hg25) hj0
      refine goh ?_
      rw [show decide (r.L[i].key = r.L[i].key) = true from decide_eq_true rfl]
      refine goh ?_
      refine EH.done ?_
      refine go ?_
      exact A.rd (r.L.length - (i + 1)) (i + 1) ⟨rfl, by omega, g25, (hg15.trans hg21).trans hg25, hs.pull2.drop⟩
    · obtain rfl : i = r.L.length := by omega
      refine go ?_
      exact A.mt () ⟨g15, hg15, hs⟩
  clear hs
  rintro _ w25 ⟨g25, hg25, hs⟩
  have hg25' := hg14'.trans hg25
  have hx25 := hx14.mono hg25
  have hy25 := hy14.mono hg25
  replace hg25' := hg2.trans hg25'
  clear hr14 hx14 hy14 hg14' hg25
  refine gob ?_
  refine C.cut (fun _ : Unit => [(0, ptr vb), (1, .slice x.a x.es.length x.c), (2, .int .i64 k)])
    (fun _ w => ∃ g', Hl.le g25 g' ∧ Sat W w g' (vw vb b b' y :: fold b' F :: blk b7 r.cs 58 :: fold b f0 :: H)) ?_ ?_
  · refine C.block ?_
    refine C.lp (fun i : Nat => [(0, ptr vb), (1, .slice x.a x.es.length x.c), (2, .int .i64 k), (11, .int .i64 i)])
      (fun gk i w => gk = x.es.length - i ∧ k ≤ i ∧ i ≤ x.es.length ∧ ∃ g', Hl.le g25 g' ∧ Sat W w g' (vw vb b b' y :: fold b' F :: blk b7 r.cs 58 :: fold b f0 :: H)) (x.es.length - k) k ⟨rfl, Nat.le_refl _, hkl, g25, Hl.le_refl _, hs⟩ ?_
    clear hs
    rintro gk i w26 ⟨rfl, hki, hi, g26, hg26, hs⟩
    refine go ?_
    refine C.cond_dec (p := (i : Int) < x.es.length) rfl (fun h => ?_) (fun h => ?_)
    · have hil : i < x.es.length := by omega
      have hee := hx25.evs x.es[i] (List.getElem_mem hil)
      have hfi := (hT.good x.es[i] (List.getElem_mem hil)).fit
      have hry := hx25.row.mono hg26
      obtain ⟨bx, ox, hxa⟩ := pr_some hry (by omega)
      simp only [El.v, hxa] at hry
      refine go ?_
      refine E.callf Tryz.func27 rfl ?_
      refine vwAt_any (i := (i : Int) - (k : Int)) (hy25.mono hg26) (by omega) hs ?_ ?_
      · intro j hj hjl w27 hs
        have hje : y.es[j] = x.es[i] := by
          have h1 : ∀ (l : List Ev) (h : j < l.length), l = x.es.drop k → l[j] = x.es[i] := by
            intro l h e
            subst e
            rw [List.getElem_drop]
            congr 1
            omega
          exact h1 y.es hjl hye.out
        rw [hje]
        refine go ?_
        refine E.al hs ?_
        intro b12 w28 hs
        refine E.sto (vs := x.es[i].cs) (ys := x.es[i].cs) hs ?_ (hv := rfl) (hsp := spl_all (by rfl)) (h1 := Ev.cs_one hee.1)
        intro w29 hs
        refine go ?_
        rw [hxa]
        refine C.held1 b12 hs ?_
        intro w30 hk hs
        refine goh ?_
        refine EH.t0 hk ?_ (hy := Pf.loadpr ag_ev hry hil (evC_at hil) rfl rfl)
        refine goh ?_
        refine EH.one (St.guard rfl rfl (St.callf Tryz.func28 rfl ?_))
        refine same_any (e := x.es[i]) (f := x.es[i]) (hee.1.mono hg26) (hee.1.mono hg26) hfi hfi hs ?_
        intro w31 g31 hg31 hs
        refine kept1 hs (fun hk => ?_) hg31
        rw [decide_eq_true rfl]
        refine goh ?_
        refine EH.done ?_
        refine go ?_
        rw [← hxa]
        exact A.rd (x.es.length - (i + 1)) (i + 1) ⟨rfl, by omega, by omega, g31, hg26.trans hg31, hs.drop⟩
      · intro hno
        exfalso
        omega
    · obtain rfl : i = x.es.length := by omega
      refine go ?_
      exact A.mt () ⟨g26, hg26, hs⟩
  clear hs
  rintro _ w32 ⟨g32, hg32, hs⟩
  refine go ?_
  refine E.callf Tryz.func27 rfl ?_
  refine vwAt_any (i := -1) (hy25.mono hg32) (by omega) hs ?_ ?_
  · intro j hj
    omega
  intro _ w33 hs
  refine go ?_
  refine E.al hs ?_
  intro b14 w34 hs
  refine E.sto (vs := [.int .i64 0, .int .u64 0, .int .u64 0, .int .u8 0, .string ⟨#[]⟩, .slice none 0 0, .float .f64 0, .int .i64 0]) (ys := [.int .i64 0, .int .u64 0, .int .u64 0, .int .u8 0, .string ⟨#[]⟩, .slice none 0 0, .float .f64 0, .int .i64 0]) hs ?_ (hv := rfl) (hsp := rfl)
  intro w35 hs
  refine go ?_
  refine E.callf Tryz.func27 rfl ?_
  refine vwAt_any (i := (x.es.length : Int) - (k : Int)) (hy25.mono hg32) (by omega) hs.drop ?_ ?_
  · intro j hj hjl
    omega
  intro _ w36 hs
  refine go ?_
  refine E.al hs ?_
  intro b16 w37 hs
  refine E.sto (vs := [.int .i64 0, .int .u64 0, .int .u64 0, .int .u8 0, .string ⟨#[]⟩, .slice none 0 0, .float .f64 0, .int .i64 0]) (ys := [.int .i64 0, .int .u64 0, .int .u64 0, .int .u8 0, .string ⟨#[]⟩, .slice none 0 0, .float .f64 0, .int .i64 0]) hs ?_ (hv := rfl) (hsp := rfl)
  intro w38 hs
  refine go ?_
  refine A.r1 ?_
  exact HR.out _ g32 (hg25'.trans hg32) hs.drop.pull2.drop
end Go.Proofs.YtkolnecahlkndaaGreat

/-
  Layer 15 (view): ViewTells walked.
-/
namespace Go.Proofs.YtkolnecahlkndaaGreat
open Go.RowKit
set_option linter.unusedVariables false
set_option linter.unusedSimpArgs false

/-- Of the events k, .., i-1 those of one writer. -/
def part (T : List Ev) (k i q : Nat) : List Ev := ((T.take i).drop k).filter fun e => decide (e.wr + 1 = (q : Int))
theorem part_zero {T : List Ev} {k q : Nat} : part T k k q = [] := by
  have : (T.take k).drop k = [] := List.drop_eq_nil_of_le (by rw [List.length_take]; omega)
  simp [part, this]
theorem part_succ {T : List Ev} {k i q : Nat} (hi : i < T.length) (hk : k ≤ i) : part T k (i + 1) q = if T[i].wr + 1 = (q : Int) then part T k i q ++ [T[i]] else part T k i q := by
  have e1 : (T.take (i + 1)).drop k = (T.take i).drop k ++ [T[i]] := by
    rw [List.take_succ_eq_append_getElem hi, List.drop_append_of_le_length (by rw [List.length_take]; omega)]
  unfold part
  rw [e1, List.filter_append]
  split
  · rename_i h
    rw [List.filter_cons_of_pos (by simpa using h)]
    rfl
  · rename_i h
    rw [List.filter_cons_of_neg (by simpa using h)]
    simp
theorem part_len {T : List Ev} {k i q : Nat} : (part T k i q).length ≤ T.length := by
  unfold part
  refine Nat.le_trans (List.length_filter_le _ _) ?_
  rw [List.length_drop, List.length_take]
  omega
theorem part_mem {T : List Ev} {k i q : Nat} : ∀ e ∈ part T k i q, e ∈ T := fun e he => List.mem_of_mem_take (List.mem_of_mem_drop (List.mem_filter.1 he).1)
theorem part_up {T : List Ev} {k i q : Nat} (h : Up1 T) : Up1 (part T k i q) := h.sublist (List.filter_sublist.trans ((List.drop_sublist _ _).trans (List.take_sublist _ _)))
theorem five_perm : ∀ (l : List Ev), (∀ e ∈ l, 0 ≤ e.wr ∧ e.wr < 3) → l.Perm ((l.filter fun e => decide (e.wr + 1 = ((0 : Nat) : Int))) ++ ((l.filter fun e => decide (e.wr + 1 = ((1 : Nat) : Int))) ++ ((l.filter fun e => decide (e.wr + 1 = ((2 : Nat) : Int))) ++ ((l.filter fun e => decide (e.wr + 1 = ((3 : Nat) : Int))) ++ (l.filter fun e => decide (e.wr + 1 = ((4 : Nat) : Int)))))))
  | [], _ => by simp
  | e :: l, h => by
    have ih := five_perm l fun x hx => h x (List.mem_cons_of_mem _ hx)
    have h0 := h e (List.mem_cons_self ..)
    have hne : ∀ q : Nat, ¬ e.wr + 1 = (q : Int) → ((e :: l).filter fun e => decide (e.wr + 1 = (q : Int))) = l.filter fun e => decide (e.wr + 1 = (q : Int)) := fun q hq => List.filter_cons_of_neg (by simpa using hq)
    have heq : ∀ q : Nat, e.wr + 1 = (q : Int) → ((e :: l).filter fun e => decide (e.wr + 1 = (q : Int))) = e :: l.filter fun e => decide (e.wr + 1 = (q : Int)) := fun q hq => List.filter_cons_of_pos (by simpa using hq)
    have hc : e.wr = 0 ∨ e.wr = 1 ∨ e.wr = 2 := by omega
    rcases hc with hc | hc | hc
    · rw [hne 0 (by omega), heq 1 (by omega), hne 2 (by omega), hne 3 (by omega), hne 4 (by omega), List.cons_append]
      exact (ih.cons e).trans List.perm_middle.symm
    · rw [hne 0 (by omega), hne 1 (by omega), heq 2 (by omega), hne 3 (by omega), hne 4 (by omega), List.cons_append]
      refine (ih.cons e).trans ?_
      generalize (l.filter fun e => decide (e.wr + 1 = ((0 : Nat) : Int))) = p0
      generalize (l.filter fun e => decide (e.wr + 1 = ((1 : Nat) : Int))) = p1
      have := (List.perm_middle (a := e) (l₁ := p0 ++ p1) (l₂ := (l.filter fun e => decide (e.wr + 1 = ((2 : Nat) : Int))) ++ ((l.filter fun e => decide (e.wr + 1 = ((3 : Nat) : Int))) ++ (l.filter fun e => decide (e.wr + 1 = ((4 : Nat) : Int)))))).symm
      simpa only [List.append_assoc] using this
    · rw [hne 0 (by omega), hne 1 (by omega), hne 2 (by omega), heq 3 (by omega), hne 4 (by omega), List.cons_append]
      refine (ih.cons e).trans ?_
      generalize (l.filter fun e => decide (e.wr + 1 = ((0 : Nat) : Int))) = p0
      generalize (l.filter fun e => decide (e.wr + 1 = ((1 : Nat) : Int))) = p1
      generalize (l.filter fun e => decide (e.wr + 1 = ((2 : Nat) : Int))) = p2
      have := (List.perm_middle (a := e) (l₁ := p0 ++ (p1 ++ p2)) (l₂ := (l.filter fun e => decide (e.wr + 1 = ((3 : Nat) : Int))) ++ (l.filter fun e => decide (e.wr + 1 = ((4 : Nat) : Int))))).symm
      simpa only [List.append_assoc] using this
theorem Tale.take {T : List Ev} (h : Tale T) (k : Nat) : Tale (T.take k) :=
  ⟨fun e he => h.good e (List.mem_of_mem_take he), h.up.sublist (List.take_sublist _ _), by have := h.few; rw [List.length_take]; omega, (h.fits_at k).1⟩

set_option maxHeartbeats 6400000 in
set_option maxRecDepth 100000 in
theorem viewTells_any {R : Ending → World → Prop} {W w : World} {g : Hl} {H : List HP} {a : Option Addr} {n c cut : Nat} {zs : List Nat} (hp : Pr 1 g (.slice a n c) n (hs16 zs)) (hn : zs.length = n) (hz : ∀ z ∈ zs, z < 65536) (hcut : cut < 256) (hs : Sat W w g H)
    (hR : ∀ w' g', Hl.le g g' → Sat W w' g' H → R (.returned (.bool true)) w') :
    Calls Tryz.prog 3 #[.slice a n c, .int .u8 cut] w R := by
  have HR := Lib.hid hR
  clear hR
  have ag1 := ag_ev
  have ag2 := ag_spot
  refine C.calls (args := [.slice a n c, .int .u8 cut]) Tryz.func3 rfl rfl rfl ?_
  refine go ?_
  refine E.callf Tryz.func4 rfl ?_
  refine awake15_any hs ?_
  intro w2 g2 hg2 hs
  refine go ?_
  cases h60 : decide ((60 : Int) < n) with
  | true =>
    refine go ?_
    refine E.callf Tryz.func4 rfl ?_
    refine awake15_any hs ?_
    intro w3 g3 hg3 hs
    refine go ?_
    refine A.r1 ?_
    exact HR.out _ g3 (hg2.trans hg3) hs
  | false =>
    have hn60 := of_decide_eq_false h60
    refine go ?_
    refine E.callf Tryz.func6 rfl ?_
    refine feeds_any (hp.mono hg2) hn hz (by omega) hs ?_
    intro a4 c4 outs w4 g4 hg4 ho3 hof hok hp4 hs
    have h3 : Three g4 outs := ⟨ho3, hof⟩
    refine go ?_
    refine E.callf Tryz.func5 rfl ?_
    refine whole_any hp4 ho3 (by decide) hok (by have := h3.few; omega) hs ?_
    intro y w5 g5 hg5 hy hyp hyu hs
    have hT := h3.tale hyp hyu
    have hT9 := hT.few
    clear hyp hyu
    rw [show y.v = .slice y.a y.es.length y.c from rfl]
    refine go ?_
    have ewr : (cut : Int).tmod (y.es.length + 1) = ((cut % (y.es.length + 1) : Nat) : Int) := (Int.ofNat_tmod cut (y.es.length + 1)).symm
    have hkl : cut % (y.es.length + 1) ≤ y.es.length := by have := Nat.mod_lt cut (show 0 < y.es.length + 1 by omega); omega
    rw [ewr]
    clear ewr
    generalize cut % (y.es.length + 1) = k at hkl
    have hgl := (hg2.trans hg4).trans hg5
    clear h3 hof hok hp4 ho3
    refine E.mk (k2 := 5) el_lists hs ?_
    intro a7 w7 hs
    obtain ⟨bo, os0, rfl, ho0, _, _, ho1, hs⟩ := own_open (by decide) hs
    have hos : os0 = ([⟨none, 0, []⟩, ⟨none, 0, []⟩, ⟨none, 0, []⟩, ⟨none, 0, []⟩, ⟨none, 0, []⟩] : List El).map El.v := by rw [← List.take_of_length_le (l := os0) (Nat.le_of_eq ho0), ho1]; exact made1 (.slice none 0 0) 5
    subst hos
    have hs3 : Sat W w7 g5 (bsep (([⟨none, 0, []⟩, ⟨none, 0, []⟩, ⟨none, 0, []⟩, ⟨none, 0, []⟩, ⟨none, 0, []⟩] : List El).map fown) :: blk bo (([⟨none, 0, []⟩, ⟨none, 0, []⟩, ⟨none, 0, []⟩, ⟨none, 0, []⟩, ⟨none, 0, []⟩] : List El).map El.v) 24 :: H) := Sat.bclose (l := ([⟨none, 0, []⟩, ⟨none, 0, []⟩, ⟨none, 0, []⟩, ⟨none, 0, []⟩, ⟨none, 0, []⟩] : List El).map fown) hs.nilOwn.nilOwn.nilOwn.nilOwn.nilOwn
    clear hs ho1 ho0
    have hs := hs3
    clear hs3
    refine gob ?_
    refine C.cut (fun _ : Unit => [(5, .slice y.a y.es.length y.c), (6, .int .i64 k), (7, .slice (some ⟨bo, 0, none⟩) 5 5)])
      (fun _ w => ∃ (outs : List El), outs.length = 5 ∧ (∀ q (h : q < outs.length), outs[q].es = part y.es k y.es.length q) ∧ Sat W w g5 (bsep (outs.map fown) :: blk bo (outs.map El.v) 24 :: H)) ?_ ?_
    · refine C.block ?_
      refine C.lp (fun i : Nat => [(5, .slice y.a y.es.length y.c), (6, .int .i64 k), (7, .slice (some ⟨bo, 0, none⟩) 5 5), (8, .int .i64 i)])
        (fun gk i w => gk = y.es.length - i ∧ k ≤ i ∧ i ≤ y.es.length ∧ ∃ (outs : List El), outs.length = 5 ∧ (∀ q (h : q < outs.length), outs[q].es = part y.es k i q) ∧ Sat W w g5 (bsep (outs.map fown) :: blk bo (outs.map El.v) 24 :: H)) (y.es.length - k) k ⟨rfl, Nat.le_refl _, hkl, [⟨none, 0, []⟩, ⟨none, 0, []⟩, ⟨none, 0, []⟩, ⟨none, 0, []⟩, ⟨none, 0, []⟩], rfl, ?_, hs⟩ ?_
      · intro q h
        rw [part_zero]
        have : q = 0 ∨ q = 1 ∨ q = 2 ∨ q = 3 ∨ q = 4 := by simp at h; omega
        rcases this with rfl | rfl | rfl | rfl | rfl <;> rfl
      clear hs
      rintro gk i w8 ⟨rfl, hki, hi, outs, ho5, hF, hs⟩
      refine go ?_
      refine C.cond_dec (p := (i : Int) < y.es.length) rfl (fun h => ?_) (fun h => ?_)
      · have hil : i < y.es.length := by omega
        have hee := hy.evs y.es[i] (List.getElem_mem hil)
        have hgd := (hT.good y.es[i] (List.getElem_mem hil)).wr
        obtain ⟨v, hwe⟩ := Int.eq_ofNat_of_zero_le hgd.1
        have hv3 : v < 3 := by omega
        have hry := hy.row
        obtain ⟨by_, oy, hya⟩ := pr_some hry (by omega)
        simp only [El.v, hya] at hry
        have hwc : (evC y.es)[i * 8]? = some (.int .i64 (v : Nat)) := by
          have := congrArg (fun l : List Value => l[0]?) (evC_at hil)
          simp only [List.getElem?_take, List.getElem?_drop] at this
          rw [← hwe]
          simpa [Ev.cs] using this
        have hvo : v + 1 < outs.length := by omega
        have hov : (outs.map El.v)[v + 1]? = some (.slice outs[v + 1].a outs[v + 1].es.length outs[v + 1].c) := by rw [List.getElem?_map, List.getElem?_eq_getElem hvo]; rfl
        have hol : outs[v + 1].es.length ≤ 180 := by
          rw [hF _ hvo]
          have := part_len (T := y.es) (k := k) (i := i) (q := v + 1)
          omega
        have hvi : ((v : Int) + 1) < 5 := by omega
        refine go ?_
        rw [hya]
        refine C.held0 hs ?_
        intro w9 hk hs
        have rl : Rd (Keeps g5 []) by_ (oy + i * 8) (.int .i64 (v : Nat)) := Rd.pool hry hwc
        have hsplit : outs.map fown = (outs.take (v + 1)).map fown ++ fown outs[v + 1] :: (outs.drop (v + 1 + 1)).map fown := by
          rw [← List.map_cons, ← List.map_append, ← List.drop_eq_getElem_cons hvo, List.take_append_drop]
        have hspl : ∀ a17 c17, spl (outs.map El.v) (v + 1) [.slice a17 (outs[v + 1].es.length + 1) c17] = (outs.set (v + 1) ⟨a17, c17, outs[v + 1].es ++ [y.es[i]]⟩).map El.v := fun a17 c17 => by
          simp [spl, List.map_set, El.v]
        have bj : ∀ a17 c17, Nat.ble (v + 1 + [Value.slice a17 (outs[v + 1].es.length + 1) c17].length) (outs.map El.v).length = true := fun a17 c17 => by rw [Nat.ble_eq]; simp only [List.length_cons, List.length_nil, List.length_map]; omega
        have fin : ∀ a17 c17 w, Sat W w g5 (own 32 8 (.slice a17 (outs[v + 1].es.length + 1) c17) (outs[v + 1].es.length + 1) (evC outs[v + 1].es ++ y.es[i].cs) :: bsep ((outs.take (v + 1)).map fown ++ (outs.drop (v + 1 + 1)).map fown) :: blk bo ((outs.set (v + 1) ⟨a17, c17, outs[v + 1].es ++ [y.es[i]]⟩).map El.v) 24 :: H) →
            ∃ (outs : List El), outs.length = 5 ∧ (∀ q (h : q < outs.length), outs[q].es = part y.es k (i + 1) q) ∧ Sat W w g5 (bsep (outs.map fown) :: blk bo (outs.map El.v) 24 :: H) := by
          intro a17 c17 w hs
          refine ⟨outs.set (v + 1) ⟨a17, c17, outs[v + 1].es ++ [y.es[i]]⟩, by simpa using ho5, fun q h => ?_, ?_⟩
          · rw [part_succ hil hki]
            rcases Nat.decEq (v + 1) q with hne | rfl
            · rw [List.getElem_set_ne hne, if_neg (by omega)]
              exact hF q (by simpa using h)
            · rw [List.getElem_set_self, if_pos (by omega)]
              simp only [hF _ hvo]
          · have e1 : (outs.set (v + 1) ⟨a17, c17, outs[v + 1].es ++ [y.es[i]]⟩).map fown = (outs.take (v + 1)).map fown ++ fown ⟨a17, c17, outs[v + 1].es ++ [y.es[i]]⟩ :: (outs.drop (v + 1 + 1)).map fown := by
              rw [List.set_eq_take_append_cons_drop, if_pos hvo, List.map_append, List.map_cons]
            rw [e1]
            refine bsep_in ?_
            have e2 : fown ⟨a17, c17, outs[v + 1].es ++ [y.es[i]]⟩ = own 32 8 (.slice a17 (outs[v + 1].es.length + 1) c17) (outs[v + 1].es.length + 1) (evC outs[v + 1].es ++ y.es[i].cs) := by
              simp only [fown, El.v, List.length_append, List.length_cons, List.length_nil, evC_append]
              simp [evC]
            rw [e2]
            exact hs
        refine goh ?_
        refine EH.t1 hk ?_ (hy := Pf.loadpr ag_ev hry hil (evC_at hil) rfl rfl)
        refine goh ?_
        refine EH.lbe el_ev hs (cs := y.es[i].cs) rfl hov ?_ ?_
        · refine kept0 hs (fun hk => ?_)
          refine EH.bsle el_ev hs (cs := y.es[i].cs) rfl ?_
          intro b17 w17 hs
          refine kept0 hs (fun hk => ?_)
          refine EH.app el_ev (bsep_out (l1 := (outs.take (v + 1)).map fown) (l2 := (outs.drop (v + 1 + 1)).map fown) (p := fown outs[v + 1]) (by rw [← hsplit]; exact hs.swap)) (hs.rowOf (size := 8) 1 rfl (by decide)) ?_ (h1 := fun u hu => List.all_eq_true.1 (Ev.cs_one hee.1) u hu)
          intro a17 c17 w17 _ _ hs
          refine kept0 hs (fun hk => ?_)
          refine goh ?_
          refine EH.sto (vs := [.slice a17 (outs[v + 1].es.length + 1) c17]) (ys := (outs.set (v + 1) ⟨a17, c17, outs[v + 1].es ++ [y.es[i]]⟩).map El.v) hs ?_ (hv := rfl) (hf := .there (.there (.there .here))) (hu := .there (.there (.there .here))) (hsp := hspl a17 c17) (hj := bj a17 c17)
          intro w18 hs
          refine kept0 hs (fun hk => ?_)
          refine EH.done ?_
          refine go ?_
          rw [← hya]
          exact A.rd (y.es.length - (i + 1)) (i + 1) ⟨rfl, by omega, by omega, fin a17 c17 _ hs.pull2.drop⟩
        · intro b17 w17 hs
          refine kept0 hs (fun hk => ?_)
          refine EH.ld hs ?_ (hf := .there (.there .here)) (hj := hov)
          refine kept0 hs (fun hk => ?_)
          refine EH.app el_ev (bsep_out (l1 := (outs.take (v + 1)).map fown) (l2 := (outs.drop (v + 1 + 1)).map fown) (p := fown outs[v + 1]) (by rw [← hsplit]; exact hs.swap)) (hs.rowOf (size := 8) 1 rfl (by decide)) ?_ (h1 := fun u hu => List.all_eq_true.1 (Ev.cs_one hee.1) u hu)
          intro a17 c17 w17 _ _ hs
          refine kept0 hs (fun hk => ?_)
          refine goh ?_
          refine EH.sto (vs := [.slice a17 (outs[v + 1].es.length + 1) c17]) (ys := (outs.set (v + 1) ⟨a17, c17, outs[v + 1].es ++ [y.es[i]]⟩).map El.v) hs ?_ (hv := rfl) (hf := .there (.there (.there .here))) (hu := .there (.there (.there .here))) (hsp := hspl a17 c17) (hj := bj a17 c17)
          intro w18 hs
          refine kept0 hs (fun hk => ?_)
          refine EH.done ?_
          refine go ?_
          rw [← hya]
          exact A.rd (y.es.length - (i + 1)) (i + 1) ⟨rfl, by omega, by omega, fin a17 c17 _ hs.pull2.drop⟩
      · obtain rfl : i = y.es.length := by omega
        refine go ?_
        exact A.mt () ⟨outs, ho5, hF, hs⟩
    clear hs
    rintro _ w10 ⟨outs, ho5, hF, hs⟩
    match outs, ho5 with
    | [x0, x1, x2, x3, x4], _ =>
    have f0 := hF 0 (by simp)
    have f1 := hF 1 (by simp)
    have f2 := hF 2 (by simp)
    have f3 := hF 3 (by simp)
    have f4 := hF 4 (by simp)
    simp only [List.getElem_cons_zero, List.getElem_cons_succ] at f0 f1 f2 f3 f4
    have hs := Sat.bopen hs
    simp only [List.map_cons, List.map_nil, List.cons_append, List.nil_append] at hs
    obtain ⟨g11, hg11, hp0, hs⟩ := hs.publishOwn
    obtain ⟨g12, hg12, hp1, hs⟩ := hs.publishOwn
    obtain ⟨g13, hg13, hp2, hs⟩ := hs.publishOwn
    obtain ⟨g14, hg14, hp3, hs⟩ := hs.publishOwn
    obtain ⟨g15, hg15, hp4, hs⟩ := hs.publishOwn
    obtain ⟨g16, hg16, hpo, hs⟩ := (hs.blkOwn (size := 1) 5 rfl (by decide)).publishOwn
    have hg516 := ((((hg11.trans hg12).trans hg13).trans hg14).trans hg15).trans hg16
    have hy16 := hy.mono hg516
    have hlow : ∀ (x : El) (q : Nat), x.es = part y.es k y.es.length q → ∀ e ∈ x.es, e.ok g16 ∧ e.low := fun x q hx e he => hy16.evs e (part_mem e (by rw [← hx]; exact he))
    have hlk : ∀ x ∈ [x0, x1, x2, x3, x4], x.ok g16 ∧ Up1 x.es := by
      intro x hx
      simp only [List.mem_cons, List.not_mem_nil, or_false] at hx
      rcases hx with rfl | rfl | rfl | rfl | rfl
      · exact ⟨⟨((((hp0.mono hg12).mono hg13).mono hg14).mono hg15).mono hg16, hlow _ _ f0⟩, f0 ▸ part_up hT.up⟩
      · exact ⟨⟨(((hp1.mono hg13).mono hg14).mono hg15).mono hg16, hlow _ _ f1⟩, f1 ▸ part_up hT.up⟩
      · exact ⟨⟨((hp2.mono hg14).mono hg15).mono hg16, hlow _ _ f2⟩, f2 ▸ part_up hT.up⟩
      · exact ⟨⟨(hp3.mono hg15).mono hg16, hlow _ _ f3⟩, f3 ▸ part_up hT.up⟩
      · exact ⟨⟨hp4.mono hg16, hlow _ _ f4⟩, f4 ▸ part_up hT.up⟩
    have hperm : (y.es.drop k).Perm ([x0, x1, x2, x3, x4].flatMap El.es) := by
      have h1 := five_perm (y.es.drop k) fun e he => (hT.good e (List.mem_of_mem_drop he)).wr
      simp only [List.flatMap_cons, List.flatMap_nil, List.append_nil, f0, f1, f2, f3, f4, part, List.take_length]
      exact h1
    have hD := hT.drop k
    clear hp0 hp1 hp2 hp3 hp4 hlow f0 f1 f2 f3 f4 hF
    refine go ?_
    refine E.callf Tryz.func8 rfl ?_
    refine base_any (x := y) (k := k) hy16 hkl (by omega) (hT.fits_at k).1 hs ?_
    intro b17 w17 g17 hg17 hs
    refine go ?_
    refine E.callf Tryz.func7 rfl ?_
    refine by_any (ls := [x0, x1, x2, x3, x4]) (T := y.es.drop k) (hpo.mono hg17) rfl (by decide) (fun x hx => (hlk x hx).1.mono hg17) (fun x hx => (hlk x hx).2) hD.1 hperm (by omega) (hT.fits_at k).2 hs ?_
    intro vb b18 x w18 g18 hg18 hx hxe hs
    have hadd : ((foNew 3).adds (y.es.take k)).adds (y.es.drop k) = (foNew 3).adds y.es := by rw [← adds_append, List.take_append_drop]
    rw [hadd] at hs
    clear hadd hlk hperm hpo
    have hy18 := (hy16.mono hg17).mono hg18
    obtain ⟨hFs, hFc⟩ := (hT.take k).short
    have hFo : ((foNew 3).adds (y.es.take k)).ok := by
      obtain ⟨i, hi, _⟩ := fold_open hs.swap
      exact hi.ok
    have hFl := Fo.enc_len hFo hFs hFc
    have hFb : ((foNew 3).adds (y.es.take k)).cells.length ≤ 10000000 := by omega
    replace hxe := Lib.hid hxe
    refine go ?_
    refine C.held0 hs ?_
    intro w19 hk hs
    refine goh ?_
    refine EH.one (St.guard rfl rfl (St.callf Tryz.func9 rfl ?_))
    refine told_any (x := y) (y := x) (k := k) hy18 hx hT hkl hxe.out rfl (hs.perm (List.Perm.cons _ (.swap _ _ _))) ?_
    intro w20 g20 hg20 hs
    refine keptp0 hs (fun hk => ?_) hg20
    refine goh ?_
    refine EH.one (St.guard rfl rfl (St.callf Tryz.func10 rfl ?_))
    refine vwBase_any hs.pull2.swap ?_
    intro b21 w21 hs
    refine kept0 hs (fun hk => ?_)
    refine goh ?_
    refine EH.one (St.guard rfl rfl (St.callf Tryz.func11 rfl ?_))
    refine foldEncode_any hFl hFb hs ?_
    intro a22 c22 w22 g22 hg22 hs
    obtain ⟨g23, hg23, hp23, hs23⟩ := hs.publishOwn
    refine keptp0 hs23 (fun hk => ?_) (hg22.trans hg23)
    have hs := hs23
    clear hs23
    refine goh ?_
    refine EH.strc hp23 hk (fun _ h => h) Tryz.underlying29 Tryz.underlying5 Tryz.underlying9 ?_
    refine goh ?_
    refine EH.one (St.guard rfl rfl (St.callf Tryz.func8 rfl ?_))
    refine base_any (x := y) (k := k) (((hy18.mono hg20).mono hg22).mono hg23) hkl (by omega) (hT.fits_at k).1 hs ?_
    intro b24 w24 g24 hg24 hs
    refine keptp0 hs (fun hk => ?_) hg24
    refine goh ?_
    refine EH.one (St.guard rfl rfl (St.callf Tryz.func11 rfl ?_))
    refine foldEncode_any hFl hFb hs ?_
    intro a25 c25 w25 g25 hg25 hs
    obtain ⟨g26, hg26, hp26, hs26⟩ := hs.publishOwn
    refine keptp0 hs26 (fun hk => ?_) (hg25.trans hg26)
    have hs := hs26
    clear hs26
    refine goh ?_
    refine EH.strc hp26 hk (fun _ h => h) Tryz.underlying29 Tryz.underlying5 Tryz.underlying9 ?_
    refine goh ?_
    rw [decide_eq_true (rfl : ((foNew 3).adds (y.es.take k)).enc = ((foNew 3).adds (y.es.take k)).enc)]
    refine goh ?_
    refine EH.done ?_
    refine go ?_
    refine A.r1 ?_
    exact HR.out _ g26 (hgl.trans (hg516.trans ((hg17.trans hg18).trans (hg20.trans ((hg22.trans hg23).trans (hg24.trans (hg25.trans hg26))))))) hs.drop.drop.drop.drop.drop
end Go.Proofs.YtkolnecahlkndaaGreat
