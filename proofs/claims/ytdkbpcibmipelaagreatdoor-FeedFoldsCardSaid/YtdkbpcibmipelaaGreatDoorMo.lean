/-
  FeedFolds, plain and walked.
-/
import Derived.Test.YtdkbpcibmipelaaGreatDoorMn
namespace Go.Proofs.YtdkbpcibmipelaaGreatDoor
open Go.RowKit
set_option linter.unusedVariables false
set_option linter.unusedSimpArgs false

def qL (V k : Nat) : List Ep := (List.range k).map fun j => (evQ V (j + 1) (j + 1) (.slice none 0 0)).ep
theorem qL_succ (V k : Nat) : qL V (k + 1) = qL V k ++ [(evQ V (k + 1) (k + 1) (.slice none 0 0)).ep] := by simp [qL, List.range_succ]
theorem qL_last (V k : Nat) : (qL V k).getLast? = if k = 0 then none else some (evQ V k k (.slice none 0 0)).ep := by
  cases k with
  | zero => rfl
  | succ k => rw [qL_succ]; simp
structure QInv (f : Fe) (d : Dk) (V k : Nat) : Prop where
  good : FGood f d
  wr : f.wr = 3
  floor : f.floor = 0
  time : f.time = 0
  next : f.next = k + 1
  evs : evS f.segs = qL V k
  room : d.room = 65536
  tk : tk d.fs ≤ 200 * k
  len : f.l.length ≤ k
theorem QInv.step {f : Fe} {d : Dk} {V k : Nat} (h : QInv f d V k) (hk : k ≤ 100) {tv : Value} : (f.addR d (evQ V (k + 1) (k + 1) tv)).1 = 0 ∧ ∀ f', (f.addR d (evQ V (k + 1) (k + 1) tv)).2.1.grown f' (evQ V (k + 1) (k + 1) tv) → QInv f' (f.addR d (evQ V (k + 1) (k + 1) tv)).2.2 V (k + 1) ∧ f'.dirty = true := by
  have hlive : liveP f.floor f.segs = qL V k := by rw [h.floor, live_all h.good.inv, h.evs]
  have hlen := evQ_len (V := V) (sq := k + 1) (tm := k + 1) (tv := tv) (by omega) (by omega)
  have hw := wrapB_len (evQ V (k + 1) (k + 1) tv).enc (by omega)
  have htk := h.tk
  have hp : f.addP (evQ V (k + 1) (k + 1) tv) = 0 := by
    have hs : f.sealed = false := by
      rw [sealed_live, hlive, qL_last]
      split
      · rename_i p hp
        split at hp
        · cases hp
        · simp only [Option.some.injEq] at hp
          subst hp
          have hkd : (evQ V k k (.slice none 0 0)).ep.kd = 1 + V % 4 := rfl
          rw [hkd]
          exact decide_eq_false (by omega)
      · rfl
    have ht : f.tm < k + 1 := by
      rw [tm_live, hlive, qL_last]
      split
      · rename_i p hp
        split at hp
        · cases hp
        · simp only [Option.some.injEq] at hp
          subst hp
          simp only [Ev.ep, evQ]
          omega
      · rw [h.time]; omega
    simp only [Fe.addP, hs, Bool.false_eq_true, if_false]
    rw [if_neg, if_neg]
    · simp only [evQ]; omega
    · simp only [evQ, h.wr, h.next]
      simp
  obtain ⟨h1, h2, h3, h4⟩ := feed_add h.good hp (evQ_right (by omega) (by omega) (by omega) (by omega)) (by simp only [evQ]; omega) (by simp [evQ]) (by omega) (by rw [h.room]; omega)
  refine ⟨h1, fun f' hf' => ?_⟩
  obtain ⟨q1, q2, q3, q4, q5, q6, q7, q8, q9⟩ := h4 f' hf'
  have hl := h.len
  exact ⟨⟨q1, q2.trans h.wr, q3.trans h.floor, q4.trans h.time, by rw [q8]; rfl, by rw [q7, h.evs, qL_succ]; rfl, by rw [h2.room, h.room], by omega, by omega⟩, q6⟩
theorem QInv.hc {f : Fe} {d : Dk} {V k : Nat} (h : QInv f d V k) (hk : k ≤ 100) : f.count ≤ 100 := by
  rw [count_eq, h.evs]
  simp [qL]; omega
theorem QInv.small {f : Fe} {d : Dk} {V k : Nat} (h : QInv f d V k) (hk : k ≤ 100) : f.small :=
  small_of h.good (by rw [h.evs]; simp [qL]; omega) (by have := h.tk; omega)

set_option maxHeartbeats 6400000 in
set_option maxRecDepth 100000 in
theorem feedFolds_any {R : Ending → World → Prop} {W w : World} {g : Hl} {H : List HP} {n m fl tm : Nat} {sync : Bool} (hg : Gl g) (hn : n < 256) (hm : m < 256) (hfl : fl < 18446744073709551616) (htm : tm < 18446744073709551616) (hs : Sat W w g H)
    (hR : ∀ w' g', Hl.le g g' → Sat W w' g' H → R (.returned (.bool true)) w') :
    Calls Tryz.prog 6 #[.int .u8 n, .int .u8 m, .int .u64 fl, .int .u64 tm, .bool sync] w R := by
  have HR := Lib.hid hR
  clear hR
  refine C.calls (args := [.int .u8 n, .int .u8 m, .int .u64 fl, .int .u64 tm, .bool sync]) Tryz.func6 rfl rfl rfl ?_
  refine go ?_
  refine E.callf Tryz.func33 rfl ?_
  refine awake9_any hg hs ?_
  intro w1 g1 hg1 hs
  refine go ?_
  refine E.callf Tryz.func16 rfl ?_
  refine new_any (by omega) hs ?_
  intro db w2 hs
  refine go ?_
  refine E.callf Tryz.func34 rfl ?_
  refine fopen_new (wr := 3) (fl := 0) (tm := 0) (cap := 40) (hg.mono hg1) (by decide) (by decide) (by decide) (by decide) hs ?_
  intro b w3 g3 hg3 hs
  refine gob ?_
  rw [show (n : Int).tmod 8 = ((n % 8 : Nat) : Int) from (Int.ofNat_tmod n 8).symm]
  have hk8 : n % 8 < 8 := Nat.mod_lt _ (by decide)
  generalize n % 8 = k at hk8
  have hgg := hg1.trans hg3
  have q0 : QInv ⟨3, 40, 0, 0, [], false⟩ ⟨[], 65536, -1, 0, 0, false⟩ n 0 := ⟨FGood.new 3 40 65536 0 0 (by decide), rfl, rfl, rfl, rfl, rfl, rfl, by simp [tk], Nat.le_refl _⟩
  refine C.cut (fun _ : Unit => [(1, .int .u8 m), (2, .int .u64 fl), (3, .int .u64 tm), (4, .bool sync), (12, ptr b), (14, .int .i64 k)]) (fun _ w => ∃ f d g', Hl.le g g' ∧ QInv f d n k ∧ Sat W w g' (feed b db f :: disk db d :: H)) ?_ ?_
  · refine C.block ?_
    refine C.lp (fun j : Nat => [(0, .int .u8 n), (1, .int .u8 m), (2, .int .u64 fl), (3, .int .u64 tm), (4, .bool sync), (12, ptr b), (14, .int .i64 k), (15, .int .i64 j)])
      (fun gk j w => gk = k - j ∧ j ≤ k ∧ ∃ f d g', Hl.le g g' ∧ QInv f d n j ∧ Sat W w g' (feed b db f :: disk db d :: H)) k 0 ⟨rfl, Nat.zero_le _, _, _, g3, hgg, q0, hs⟩ ?_
    clear hs q0
    rintro gk j w5 ⟨rfl, hj, f, d, g5, hg5, hq, hs⟩
    refine go ?_
    refine C.cond_dec (p := (j : Int) < k) rfl (fun h => ?_) (fun h => ?_)
    rotate_left
    · obtain rfl : j = k := by omega
      refine go ?_
      exact A.mt () ⟨f, d, g5, hg5, hq, hs⟩
    refine go ?_
    refine E.callf Tryz.func36 rfl ?_
    refine event9_any (K := 0) (V := n) (sq := j + 1) (tm := j + 1) hn (by omega) (by omega) hs ?_
    intro tv w6 g6 hg6 heo hs
    obtain ⟨s1, s2⟩ := hq.step (by omega) (tv := tv)
    refine go ?_
    refine E.callf Tryz.func35 rfl ?_
    refine fadd_any (hg.mono (hg5.trans hg6)) heo (hq.small (by omega)) (Nat.le_trans (hq.hc (by omega)) (by decide)) hq.good.dirty (by have := hq.len; omega) hs ?_
    intro f' w7 g7 hg7 h1 _ hs
    obtain ⟨s3, s4⟩ := s2 f' (h1 s1)
    refine go ?_
    exact A.rd (k - (j + 1)) (j + 1) ⟨rfl, by omega, f', _, g7, hg5.trans (hg6.trans hg7), s3, hs⟩
  clear hs q0
  rintro _ w8 ⟨f, d, g8, hg8, hq, hs⟩
  refine go ?_
  have hg8' := hg.mono hg8
  have hroom := hq.room
  have htk := hq.tk
  obtain ⟨f1, d1, y1, y2, y3, y4, y5, y6, y7, y8, y9, y10, y11⟩ := feed_sync1 hq.good
  refine E.callf Tryz.func37 rfl ?_
  refine fsync_any hg8' hq.good.dirty hs ?_
  intro w9 hs
  rw [y1] at hs ⊢
  simp only at hs ⊢
  have hsm1 : f1.small := small_suffix (hq.small (by omega)) (by rw [y5]; exact List.suffix_refl _)
  have hc1 : f1.count ≤ 100 := by
    have h1 := hq.hc (by omega)
    have h2 := count_suffix (f := f) (f' := f1) (by rw [y5]; exact List.suffix_refl _)
    omega
  have hev1 : evS f1.segs = qL n k := by
    rw [← hq.evs]
    simp only [Fe.segs, y5]
  have hnx1 : f1.next = k + 1 := y11.trans hq.next
  have hfl1 : f1.floor = 0 := y7.trans hq.floor
  have htm1 : f1.time = 0 := y8.trans hq.time
  have hwr1 : f1.wr = 3 := y6.trans hq.wr
  have hln1 : f1.l.length ≤ k := by rw [y5]; exact hq.len
  have hr1 : d1.room = 65536 := y3.room.trans hroom
  rw [← y4] at htk
  clear y1 y3 y4 y5 y6 y7 y8 y9 y11 hroom hq
  have etm : (m : Int).tmod ((k : Int) + 1) = ((m % (k + 1) : Nat) : Int) := (Int.ofNat_tmod m (k + 1)).symm
  have hj : m % (k + 1) < k + 1 := Nat.mod_lt _ (by omega)
  obtain ⟨j, hje⟩ : ∃ j, j = m % (k + 1) := ⟨_, rfl⟩
  rw [← hje] at etm hj
  obtain ⟨f2, d2, z1, z2, z3, z4, z5, z6, z7, z8, z9, z10, z11, z12⟩ := feed_fold1 (fl := j) (tm := j) y2 (by omega) (by omega) y10
  have hsm2 : f2.small := small_suffix hsm1 z12
  have hc2 : f2.count ≤ 100 := Nat.le_trans (count_suffix z12) hc1
  have hln2 : f2.l.length ≤ k := Nat.le_trans z12.length_le hln1
  have hlive2 : ∀ p ∈ liveP j f2.segs, p.kd ≠ 6 ∧ p.tm < 100 := by
    intro p hp
    rw [z10] at hp
    have h1 := (List.mem_filter.1 hp).1
    rw [hev1] at h1
    obtain ⟨i, hi, rfl⟩ := List.mem_map.1 h1
    have := List.mem_range.1 hi
    simp only [Ev.ep, evQ]
    omega
  have htm2 : f2.time < 100 := by rw [z7, htm1]; omega
  have hnx2 : f2.next = k + 1 := z11.trans hnx1
  have hwr2 : f2.wr = 3 := z5.trans hwr1
  have hr2 : d2.room = 65536 := z3.room.trans hr1
  have htk2 : tk d2.fs ≤ 2000 := by omega
  replace z1 := Lib.hid z1
  replace etm := Lib.hid etm
  clear z3 z4 z5 z7 z8 z10 z11 z12 hev1 hfl1 htm1 hwr1 hr1 htk hnx1
  have ej2 : m % (k + 1) % 18446744073709551616 = j := by rw [← hje]; omega
  replace ej2 := Lib.hid ej2
  clear hje
  replace hnx2 := Lib.hid hnx2
  replace hwr2 := Lib.hid hwr2
  replace hr2 := Lib.hid hr2
  replace z6 := Lib.hid z6
  replace z9 := Lib.hid z9
  replace y10 := Lib.hid y10
  refine go ?_
  rw [etm.out, ej2.out]
  refine E.callf Tryz.func38 rfl ?_
  refine ffold_any (f := f1) (d := d1) (fl := j) (tm := j) hg8' hsm1 (by omega) (by omega) hs ?_
  intro w10 hs
  rw [z1.out] at hs ⊢
  simp only at hs ⊢
  have hF : fl % 10 < 10 := Nat.mod_lt _ (by decide)
  have bad : ∀ {f : Fe} {d : Dk} {F : Nat}, (F < f.floor ∨ f.next ≤ F ∨ f.dirty = true) → f.foldR d F tm = (1, f, d) := by
    intro f d F h
    unfold Fe.foldR
    rw [if_pos h]
  cases sync with
  | true =>
    refine go ?_
    rw [show (fl : Int).tmod 10 = ((fl % 10 : Nat) : Int) from (Int.ofNat_tmod fl 10).symm]
    generalize fl % 10 = F at hF
    refine E.callf Tryz.func38 rfl ?_
    refine ffold_any (f := f2) (d := d2) (fl := F) (tm := tm) hg8' hsm2 (by omega) htm hs ?_
    intro w11 hs
    cases hB1 : decide ((j : Int) ≤ F) with
    | false =>
      have hb : f2.foldR d2 F tm = (1, f2, d2) := bad (.inl (by have := of_decide_eq_false hB1; have := z6.out; omega))
      rw [hb] at hs ⊢
      simp only at hs ⊢
      refine go ?_
      rw [hB1]
      refine go ?_
      refine E.callf Tryz.func39 rfl ?_
      refine ffloor_any hs ?_
      intro w12 hs
      rw [z6.out]
      refine go ?_
      rw [decide_eq_true (show (j : Int) = j from rfl)]
      refine go ?_
      refine A.r1 ?_
      exact HR.out _ g8 hg8 hs.drop.drop
    | true =>
    cases hB2 : decide ((F : Int) ≤ k) with
    | false =>
      have hb : f2.foldR d2 F tm = (1, f2, d2) := bad (.inr (.inl (by have := of_decide_eq_false hB2; have := hnx2.out; omega)))
      rw [hb] at hs ⊢
      simp only at hs ⊢
      refine go ?_
      rw [hB1]
      refine go ?_
      rw [hB2]
      refine go ?_
      refine E.callf Tryz.func39 rfl ?_
      refine ffloor_any hs ?_
      intro w12 hs
      rw [z6.out]
      refine go ?_
      rw [decide_eq_true (show (j : Int) = j from rfl)]
      refine go ?_
      refine A.r1 ?_
      exact HR.out _ g8 hg8 hs.drop.drop
    | true =>
      obtain ⟨f3, d3, v1, v2, v3, v4, v5, v6, v7, v8, v9, v10, v11, v12⟩ := feed_fold1 (fl := F) (tm := tm) z2 (by have := of_decide_eq_true hB1; have := z6.out; omega) (by have := of_decide_eq_true hB2; have := hnx2.out; omega) z9.out
      have hnx3 : f3.next = k + 1 := v11.trans hnx2.out
      have hsm3 : f3.small := small_suffix hsm2 v12
      rw [v1] at hs ⊢
      simp only at hs ⊢
      clear v1 v3 v4 v5 v7 v8 v9 v10 v11 v12
      replace v6 := Lib.hid v6
      replace hnx3 := Lib.hid hnx3
      refine go ?_
      rw [hB1]
      refine go ?_
      rw [hB2]
      refine go ?_
      refine E.callf Tryz.func39 rfl ?_
      refine ffloor_any hs ?_
      intro w12 hs
      rw [v6.out]
      refine go ?_
      rw [decide_eq_true (show (F : Int) = F from rfl)]
      refine go ?_
      refine E.callf Tryz.func40 rfl ?_
      refine fnext_any hsm3 hs ?_
      intro w13 hs
      rw [hnx3.out]
      refine go ?_
      rw [decide_eq_true (show ((k + 1 : Nat) : Int) = ((k + 1 : Nat) : Int) from rfl)]
      refine go ?_
      refine A.r1 ?_
      exact HR.out _ g8 hg8 hs.drop.drop
  | false =>
    refine go ?_
    refine E.callf Tryz.func36 rfl ?_
    refine event9_any (K := 0) (V := 0) (sq := k + 1) (tm := 100) (by decide) (by omega) (by decide) hs ?_
    intro tv w11 g11 hg11 heo hs
    have hlen := evQ_len (V := 0) (sq := k + 1) (tm := 100) (tv := tv) (by omega) (by decide)
    have hw := wrapB_len (evQ 0 (k + 1) 100 tv).enc (by omega)
    have hp : f2.addP (evQ 0 (k + 1) 100 tv) = 0 := by
      have hse : f2.sealed = false := by
        rw [sealed_live, z6.out]
        split
        · rename_i p hp
          exact decide_eq_false (hlive2 p (List.mem_of_getLast? hp)).1
        · rfl
      have ht : f2.tm < 100 := by
        rw [tm_live, z6.out]
        split
        · rename_i p hp
          exact (hlive2 p (List.mem_of_getLast? hp)).2
        · exact htm2
      have h1 := hwr2.out
      have h2 := hnx2.out
      simp only [Fe.addP, hse, Bool.false_eq_true, if_false]
      rw [if_neg, if_neg]
      · simp only [evQ]; omega
      · simp only [evQ, h1, h2]
        simp
    obtain ⟨u1, u2, u3, u4⟩ := feed_add z2 hp (evQ_right (by omega) (by omega) (by decide) (by decide)) (by simp [evQ]) (by simp [evQ]) (by omega) (by have := hr2.out; omega)
    refine go ?_
    refine E.callf Tryz.func35 rfl ?_
    refine fadd_any (hg8'.mono hg11) heo hsm2 (by omega) z2.dirty (by omega) hs ?_
    intro f3 w12 g12 hg12 h1 _ hs
    obtain ⟨v1, v2, v3, v4, v5, v6, v7, v8, v9⟩ := u4 f3 (h1 u1)
    generalize (f2.addR d2 (evQ 0 (k + 1) 100 tv)).2.2 = d3 at hs v1 u2 u3
    have hev3 : (evS f3.segs).length ≤ 1000000000 := by
      rw [v7, List.length_append, List.length_singleton, ← count_eq]
      omega
    have hsm3 := small_of v1 hev3 (by omega)
    have hb : ∀ F, f3.foldR d3 F tm = (1, f3, d3) := fun F => bad (.inr (.inr v6))
    have hf3 : f3.floor = j := v3.trans z6.out
    replace hf3 := Lib.hid hf3
    clear v2 v3 v4 v5 v6 v7 v8 v9 u1 u2 u3 u4 h1
    refine go ?_
    rw [show (fl : Int).tmod 10 = ((fl % 10 : Nat) : Int) from (Int.ofNat_tmod fl 10).symm]
    generalize fl % 10 = F at hF
    refine E.callf Tryz.func38 rfl ?_
    refine ffold_any (f := f3) (d := d3) (fl := F) (tm := tm) ((hg8'.mono hg11).mono hg12) hsm3 (by omega) htm hs ?_
    intro w13 hs
    rw [hb F] at hs ⊢
    simp only at hs ⊢
    clear hb
    refine go ?_
    refine E.callf Tryz.func39 rfl ?_
    refine ffloor_any hs ?_
    intro w14 hs
    rw [hf3.out]
    refine go ?_
    rw [decide_eq_true (show (j : Int) = j from rfl)]
    refine go ?_
    refine A.r1 ?_
    exact HR.out _ g12 (hg8.trans (hg11.trans hg12)) hs.drop.drop
end Go.Proofs.YtdkbpcibmipelaaGreatDoor
