/-
  Layer 14 (store): the statements' example; StoreWrites, walked.
-/
import Derived.Test.YtfhmamkafancbaaGreatDoorM13
import Derived.Test.YtfhmamkafancbaaGreatDoorRows
import Derived.Test.YtfhmamkafancbaaGreatDoorM02
import Derived.OpenShut
import Derived.ChangeOld
import Derived.Test.YtfhmamkafancbaaGreatDoorM08
import Derived.RowKit
import Derived.WideShapes
import Derived.ChangeShapes
import Derived.ChangeSlices
import Derived.ChangeSame
import Derived.MakeChecks
import Derived.Laws.Cover2
import Derived.Stop.LaidErr
import Derived.Lib.LaidTab
import Derived.ChangeArms
import Derived.LaidMore
import Derived.Stop.Joined
import Derived.Test.YtfhmamkafancbaaGreatDoorM03
namespace Go.Proofs.YtfhmamkafancbaaGreatDoor
open Go.RowKit
set_option linter.unusedVariables false
set_option linter.unusedSimpArgs false
theorem Once.evs {node : Nat} {e e1 : Ev} {s : So} (hn : node < 64) (h : Once node e e1 s) : e1.wr = node ∧ e1.sq = 1 ∧ e1.tm = 1 ∧ e1.kd = e.kd := by
  obtain ⟨tv, h1⟩ := h.ex
  rw [so0_evW hn] at h1
  rw [h1]
  exact ⟨by simp [Ep.ev, Ev.ep], rfl, rfl, rfl⟩
def evA : Ev := ⟨0, 0, 0, 1, [107], [], 0, 0, .slice none 0 0⟩
theorem evA_ok (g : Hl) : evA.ok g := ⟨by decide, by decide, by decide, by decide, by decide, by decide, by decide, by decide, Pr.nil⟩
set_option maxHeartbeats 1600000 in
set_option maxRecDepth 100000 in
theorem awake14_any {R : Ending → World → Prop} {W w : World} {g : Hl} {H : List HP} (hg : Gl g) (hs : Sat W w g H) (hR : ∀ w' g', Hl.le g g' → Sat W w' g' H → R (.returned (.bool true)) w') : Calls Tryz.prog 10 #[] w R := by
  have HR := Lib.hid hR
  clear hR
  have ag1 := ag_ev
  refine C.calls (args := []) Tryz.func10 rfl rfl rfl ?_
  refine go ?_
  refine E.callf Tryz.func12 rfl ?_
  refine new_any (room := 10000) (by omega) hs ?_
  intro db w1 hs
  refine go ?_
  refine E.callf Tryz.func11 rfl ?_
  refine open14_new (node := 0) hg (by decide) (by decide) hs ?_
  intro sb d1 w2 g2 hg2 hN hs
  refine go ?_
  have hwp : (so0 0 80).writeP evA = 0 := by decide +kernel
  refine E.callf Tryz.func13 rfl ?_
  refine write_new (node := 0) (e := evA) (hg.mono hg2) (by decide) hN (by decide) (evA_ok g2) (by decide) hs ?_ ?_
  · intro h
    exact absurd hwp h
  intro _ e1 s' d' w3 g3 hg3 he1 hon hs
  obtain ⟨x1, x2, x3, x4⟩ := hon.evs (by decide)
  replace x1 := Lib.hid x1
  replace x2 := Lib.hid x2
  replace x3 := Lib.hid x3
  replace x4 := Lib.hid x4
  have hkd := he1.kd
  refine go ?_
  refine E.al hs ?_
  intro b2 w4 hs
  refine E.sto (vs := e1.cs) (ys := e1.cs) hs ?_ (hv := rfl) (hsp := spl_all (by rfl)) (h1 := Ev.cs_one he1)
  intro w5 hs
  refine go ?_
  rw [show decide ((e1.sq : Int) = 1) = true from decide_eq_true (by have := x2.out; omega)]
  refine go ?_
  rw [show decide ((e1.tm : Int) = 1) = true from decide_eq_true (by have := x3.out; omega)]
  refine go ?_
  rw [show decide (e1.wr = 0) = true from decide_eq_true (by have := x1.out; omega)]
  refine A.r1 ?_
  exact HR.out _ g3 (hg2.trans hg3) hs.drop.drop.drop
/-- The event that retires. -/
def evR : Ev := ⟨0, 0, 0, 6, [], [], 0, 0, .slice none 0 0⟩
theorem evR_ok (g : Hl) : evR.ok g := ⟨by decide, by decide, by decide, by decide, by decide, by decide, by decide, by decide, Pr.nil⟩
/-- What is asked of a store ahead of the second write. -/
structure Ahead (node : Nat) (retire : Bool) (s : So) : Prop where
  m : s.m = mf1 node
  fine : (s.feed node).fine
  three : 3 ≤ node → s.jo.getD node false = false ∧ s.clock = 0
  ret : node < 3 → retire = true → s.jo.getD node false = true ∧ s.re.getD node false = true
theorem evR_write {node : Nat} (h : node < 5) : (so0 node 80).writeP evR = if 3 ≤ node then 11 else 0 := by
  have : node = 0 ∨ node = 1 ∨ node = 2 ∨ node = 3 ∨ node = 4 := by omega
  rcases this with rfl | rfl | rfl | rfl | rfl <;> decide +kernel
theorem right_kd {e : Ev} (h : e.right = 0) : 1 ≤ e.kd := by
  unfold Ev.right at h
  split at h
  · cases h
  · omega
theorem ev_enc (q : Ep) (tv : Value) : (q.ev tv).enc = q.enc := rfl
theorem so0_writeP {n : Nat} (hn : n < 5) (e : Ev) : (so0 n 80).writeP e = if 3 ≤ n then 11 else if ((so0 n 80).evW e).right ≠ 0 then ((so0 n 80).evW e).right else if e.kd = 5 ∧ e.nd < 3 then 10 else 0 := by
  have hjo : ∀ k, k < 64 → ((so0 n 80).jo.getD k false = true ↔ k < 3) := by
    intro k hk
    have h : ∀ j : Fin 64, ((foNew 3).mem.getD j.val false = true ↔ j.val < 3) := by decide +kernel
    exact h ⟨k, hk⟩
  have hre : (so0 n 80).re.getD n false = false := by
    have h : ∀ j : Fin 64, (foNew 3).ret.getD j.val false = false := by decide +kernel
    exact h ⟨n, by omega⟩
  have hnd : ((so0 n 80).evW e).right = 0 → e.kd = 5 → 0 ≤ e.nd ∧ e.nd < 64 := fun h => (right_zero h).2.2
  unfold So.writeP
  have hmn : (so0 n 80).m.node = n := rfl
  rw [hmn, hre]
  generalize ((so0 n 80).evW e).right = r at hnd ⊢
  by_cases h3 : 3 ≤ n
  · have hx : (so0 n 80).jo.getD n false = false := by
      cases hx : (so0 n 80).jo.getD n false with
      | false => rfl
      | true => have := (hjo n (by omega)).1 hx; omega
    rw [hx]; simp [h3]
  · have hx := (hjo n (by omega)).2 (by omega)
    by_cases hz : r = 0
    · subst hz
      by_cases h5 : e.kd = 5
      · have hnd2 := hnd rfl h5
        have hj := hjo e.nd.toNat (by omega)
        by_cases h6 : e.nd < 3
        · have := hj.2 (by omega)
          rw [hx, this]; simp [h3, h5, h6]
        · have : (so0 n 80).jo.getD e.nd.toNat false = false := by
            cases hy : (so0 n 80).jo.getD e.nd.toNat false with
            | false => rfl
            | true => have := hj.1 hy; omega
          rw [hx, this]; simp [h3, h5, h6]
      · rw [hx]; simp [h3, h5]
    · rw [hx]; simp [h3, hz]
/-- What the error is. -/
structure ErrP (n : Nat) (retire : Bool) (e : Ev) (er : Int) : Prop where
  ne : er ≠ 0
  none : 3 ≤ n → er = 11
  ret : n < 3 → retire = true → er = 12
  bad : n < 3 → retire = false → ((so0 n 80).evW e).right ≠ 0 → er = ((so0 n 80).evW e).right
  old : n < 3 → retire = false → ((so0 n 80).evW e).right = 0 → er = 10 ∧ e.kd = 5 ∧ e.nd < 3
theorem err_new {n : Nat} {retire : Bool} {e : Ev} (hn : n < 5) (hret : retire = true → 3 ≤ n) (h : (so0 n 80).writeP e ≠ 0) : ErrP n retire e ((so0 n 80).writeP e) := by
  rw [so0_writeP hn] at h ⊢
  refine ⟨h, fun h3 => ?_, fun h3 hr => ?_, fun h3 hr hz => ?_, fun h3 hr hz => ?_⟩
  · simp [h3]
  · have := hret hr; omega
  · have : ¬ 3 ≤ n := by omega
    simp [this, hz]
  · have h4 : ¬ 3 ≤ n := by omega
    simp only [h4, if_false, hz, ne_eq, not_true_eq_false] at h ⊢
    by_cases h5 : e.kd = 5 ∧ e.nd < 3
    · simp [h5]
    · simp [h5] at h
theorem err_ret {n : Nat} {e : Ev} (hn : n < 3) : ErrP n true e 12 := ⟨by decide, fun h => by omega, fun _ _ => rfl, fun _ h => Bool.noConfusion h, fun _ h => Bool.noConfusion h⟩
theorem ok_new {n : Nat} {retire : Bool} {e : Ev} (hn : n < 5) (hret : retire = true → 3 ≤ n) (h : (so0 n 80).writeP e = 0) : n < 3 ∧ retire = false ∧ ((so0 n 80).evW e).right = 0 ∧ ¬ (e.kd = 5 ∧ e.nd < 3) := by
  rw [so0_writeP hn] at h
  have h3 : ¬ 3 ≤ n := fun h3 => by simp [h3] at h
  simp only [h3, if_false] at h
  have h4 : ((so0 n 80).evW e).right = 0 := Classical.byContradiction fun hz => by simp [hz] at h
  simp only [h4, ne_eq, not_true_eq_false, if_false] at h
  refine ⟨by omega, ?_, h4, fun h5 => by simp [h5] at h⟩
  cases retire with
  | false => rfl
  | true => exact absurd (hret rfl) h3
set_option maxHeartbeats 3200000 in
set_option maxRecDepth 100000 in
theorem writes_any {R : Ending → World → Prop} {W w : World} {g : Hl} {H : List HP} {N : Nat} {e : Ev} {retire : Bool} (hg : Gl g) (hN : N < 256) (htv : Pr 1 g e.tv e.text.length (bs e.text)) (he : e.key.length ≤ 100 → e.text.length ≤ 500 → e.ok g) (hs : Sat W w g H) (hR : ∀ w' g', Hl.le g g' → Sat W w' g' H → R (.returned (.bool true)) w') : Calls Tryz.prog 3 #[.int .u8 N, e.val, .bool retire] w R := by
  have HR := Lib.hid hR
  clear hR
  have ag1 := ag_ev
  obtain ⟨a, c, etv, hnc, _⟩ := htv.len
  refine C.calls (args := [.int .u8 N, e.val, .bool retire]) Tryz.func3 rfl rfl rfl ?_
  refine go ?_
  refine E.bx hs (xs := e.cs) ?_ (hx := rfl)
  intro b4 w1 hs
  refine go ?_
  refine E.callf Tryz.func10 rfl ?_
  refine awake14_any hg hs ?_
  intro w2 g2 hg2 hs
  refine go ?_
  replace etv := Lib.hid etv
  cases hk1 : decide (100 < (e.key.length : Int)) with
  | true =>
    refine go ?_
    refine E.callf Tryz.func10 rfl ?_
    refine awake14_any (hg.mono hg2) hs ?_
    intro w3 g3 hg3 hs
    refine go ?_
    refine A.r1 ?_
    exact HR.out _ g3 (hg2.trans hg3) hs.drop
  | false =>
  have hk1 := of_decide_eq_false hk1
  have hkl : e.key.length ≤ 100 := by omega
  clear hk1
  refine go ?_
  have htx : e.tv = .slice a e.text.length c := etv.out
  rw [htx]
  clear htx
  refine go ?_
  cases hk2 : decide (500 < (e.text.length : Int)) with
  | true =>
    refine go ?_
    refine E.callf Tryz.func10 rfl ?_
    refine awake14_any (hg.mono hg2) hs ?_
    intro w3 g3 hg3 hs
    refine go ?_
    refine A.r1 ?_
    exact HR.out _ g3 (hg2.trans hg3) hs.drop
  | false =>
  have hk2 := of_decide_eq_false hk2
  have htl : e.text.length ≤ 500 := by omega
  replace he := he hkl htl
  clear hk2
  refine go ?_
  have ew : IntKind.i64.wrap ((N : Int).tmod 5) = ((N % 5 : Nat) : Int) := by
    rw [show (N : Int).tmod 5 = ((N % 5 : Nat) : Int) from (Int.ofNat_tmod N 5).symm]
    exact wrap64_id (by omega) (by omega)
  rw [ew]
  clear ew
  generalize hn : N % 5 = n
  have hn5 : n < 5 := by omega
  replace hn := Lib.hid hn
  refine E.callf Tryz.func12 rfl ?_
  refine new_any (room := 65536) (by omega) hs ?_
  intro db w3 hs
  refine go ?_
  refine E.callf Tryz.func11 rfl ?_
  refine open14_new (node := n) (hg.mono hg2) (by omega) (by decide) hs ?_
  intro sb d1 w4 g4 hg4 hND hs
  have hg24 := hg2.trans hg4
  refine go ?_
  apply laterE (α := So × Dk × Hl) (f := fun _ => [(2, .bool retire), (4, .pointer (some ⟨b4, 0, none⟩)), (7, .int .i64 n), (8, ptr sb), (39, ptr sb)]) (M := fun q w => Hl.le g q.2.2 ∧ ((q.1 = so0 n 80 ∧ q.2.1 = d1 ∧ (retire = true → 3 ≤ n)) ∨ (retire = true ∧ n < 3 ∧ q.1.m = mf1 n ∧ q.1.jo.getD n false = true ∧ q.1.re.getD n false = true ∧ (q.1.feed n).fine)) ∧ Sat W w q.2.2 (store sb db q.1 :: disk db q.2.1 :: blk b4 e.cs 26 :: H))
  · intro keyC
    cases retire with
    | false =>
      refine go ?_
      exact E.forget wk_ (keyC (so0 n 80, d1, g4) _ ⟨hg24, .inl ⟨rfl, rfl, fun h => by cases h⟩, hs⟩)
    | true =>
      have hwr := evR_write hn5
      refine go ?_
      refine E.callf Tryz.func13 rfl ?_
      refine write_new (node := n) (e := evR) (hg.mono hg24) (by omega) hND (by decide) (evR_ok g4) (by decide) hs ?_ ?_
      · intro hne w5 g5 hg5 hs
        have hn3 : 3 ≤ n := by
          rw [hwr] at hne
          split at hne
          · assumption
          · exact absurd rfl hne
        refine go ?_
        exact E.forget wk_ (keyC (so0 n 80, d1, g5) _ ⟨hg24.trans hg5, .inl ⟨rfl, rfl, fun _ => hn3⟩, hs⟩)
      · intro hz e1 s5 d5 w5 g5 hg5 he5 hon hs
        have hn3 : n < 3 := by
          rw [hwr] at hz
          split at hz
          · cases hz
          · omega
        refine go ?_
        refine E.forget wk_ (keyC (s5, d5, g5) _ ⟨hg24.trans hg5, .inr ⟨rfl, hn3, hon.m, ?_, ?_, hon.fine⟩, hs⟩)
        · obtain ⟨x1, x2, x3, x4⟩ := hon.evs (by omega)
          rw [hon.note.1, if_neg (by rw [x4]; decide)]
          have : n = 0 ∨ n = 1 ∨ n = 2 := by omega
          rcases this with rfl | rfl | rfl <;> rfl
        · obtain ⟨x1, x2, x3, x4⟩ := hon.evs (by omega)
          rw [hon.note.2, if_pos (by rw [x4]; rfl), x1]
          have : n = 0 ∨ n = 1 ∨ n = 2 := by omega
          rcases this with rfl | rfl | rfl <;> rfl
  clear hs
  rintro ⟨s6, d6, g6⟩ w6 ⟨hg6, hcase, hs⟩
  simp only at hg6 hcase hs ⊢
  refine E.callf Tryz.func14 rfl ?_
  refine sclock_any hs ?_
  refine go ?_
  have heo := he.mono hg6
  obtain ⟨was, hwas⟩ : ∃ x, x = s6.clock := ⟨_, rfl⟩
  rw [← hwas]
  -- an error: the store is as it was
  apply laterE (α := Int × So × Dk × Hl) (f := fun q => [(2, .bool retire), (4, .pointer (some ⟨b4, 0, none⟩)), (7, .int .i64 n), (8, ptr sb), (9, .int .u64 was), (44, .tuple #[noEv, .int .i64 q.1])]) (M := fun q w => Hl.le g6 q.2.2.2 ∧ ErrP n retire e q.1 ∧ q.2.1.clock = was ∧ Sat W w q.2.2.2 (store sb db q.2.1 :: disk db q.2.2.1 :: blk b4 e.cs 26 :: H))
  · intro keyE
    apply laterE (α := Ev × So × Dk × Hl) (f := fun q => [(2, .bool retire), (4, .pointer (some ⟨b4, 0, none⟩)), (7, .int .i64 n), (8, ptr sb), (9, .int .u64 was), (44, .tuple #[q.1.val, .int .i64 0])]) (M := fun q w => Hl.le g6 q.2.2.2 ∧ (n < 3 ∧ retire = false ∧ ((so0 n 80).evW e).right = 0 ∧ ¬ (e.kd = 5 ∧ e.nd < 3)) ∧ q.1.ok q.2.2.2 ∧ Once n e q.1 q.2.1 ∧ Sat W w q.2.2.2 (store sb db q.2.1 :: disk db q.2.2.1 :: blk b4 e.cs 26 :: H))
    · intro keyO
      rcases hcase with ⟨rfl, rfl, hret⟩ | ⟨rfl, hn3, hm6, hj6, hr6, hf6⟩
      · refine E.callf Tryz.func13 rfl ?_
        refine write_new (node := n) (e := e) (hg.mono hg6) (by omega) hND (by decide) heo ⟨hkl, htl⟩ hs ?_ ?_
        · intro hne w7 g7 hg7 hs
          exact E.forget wk_ (keyE (_, so0 n 80, d6, g7) _ ⟨hg7, err_new hn5 hret hne, hwas.symm, hs⟩)
        · intro hz e1 s7 d7 w7 g7 hg7 he7 hon hs
          exact E.forget wk_ (keyO (e1, s7, d7, g7) _ ⟨hg7, ok_new hn5 hret hz, he7, hon, hs⟩)
      · have hm7 : s6.m.node = n := by rw [hm6]; rfl
        have hwP : s6.writeP e = 12 := by
          unfold So.writeP
          rw [hm7, hj6, hr6]
          rfl
        refine E.callf Tryz.func13 rfl ?_
        refine swrite_any (s := s6) (hg.mono hg6) heo (by rw [hm7]; exact hf6) hs ?_ ?_
        · intro _ w7 g7 hg7 hs
          rw [hwP]
          exact E.forget wk_ (keyE (12, s6, d6, g7) _ ⟨hg7, err_ret hn3, hwas.symm, hs⟩)
        · intro err e1 s' d' v w' g' hg' hex he1 hW hs
          cases hW with
          | add h _ => rw [hwP] at h; cases h
          | sync f1 h _ _ _ => rw [hwP] at h; cases h
          | ok f1 h _ _ _ => rw [hwP] at h; cases h
    · clear hs
      rintro ⟨e1, s7, d7, g7⟩ w7 ⟨hg7, ⟨hn3, rfl, hz, hnj⟩, he1, hon, hs⟩
      simp only at hg7 he1 hon hs ⊢
      clear keyE
      have hx := hon.evs (by omega)
      have hyo : ({ e with wr := (n : Int), sq := 1, tm := 1 } : Ev).ok g7 := ⟨by simp only; omega, by simp only; omega, by simp only; omega, (heo.mono hg7).kd, (heo.mono hg7).num, (heo.mono hg7).nd, (heo.mono hg7).key, (heo.mono hg7).text, (heo.mono hg7).tv⟩
      rw [so0_evW (by omega)] at hz
      refine go ?_
      refine E.al hs ?_
      intro b10 w8 hs
      refine E.sto (vs := e1.cs) (ys := e1.cs) hs ?_ (hv := rfl) (hsp := spl_all (by rfl)) (h1 := Ev.cs_one he1)
      intro w9 hs
      refine go ?_
      refine E.al hs ?_
      intro b13 w10 hs
      refine E.sto (vs := e.cs) (ys := e.cs) hs ?_ (hv := rfl) (hsp := spl_all (by rfl)) (h1 := Ev.cs_one he)
      intro w11 hs
      refine go ?_
      refine E.sto (vs := [.int .i64 n]) (ys := [.int .i64 n, .int .u64 e.sq, .int .u64 e.tm, .int .u8 e.kd, .string ⟨e.key.toArray⟩, e.tv, .float .f64 e.num, .int .i64 e.nd]) hs ?_ (hv := rfl) (hsp := rfl)
      intro w12 hs
      refine go ?_
      refine E.sto (vs := [.int .u64 1]) (ys := [.int .i64 n, .int .u64 1, .int .u64 e.tm, .int .u8 e.kd, .string ⟨e.key.toArray⟩, e.tv, .float .f64 e.num, .int .i64 e.nd]) hs ?_ (hv := rfl) (hsp := rfl)
      intro w13 hs
      refine go ?_
      refine E.sto (vs := [.int .u64 1]) (ys := [.int .i64 n, .int .u64 1, .int .u64 1, .int .u8 e.kd, .string ⟨e.key.toArray⟩, e.tv, .float .f64 e.num, .int .i64 e.nd]) hs ?_ (hv := rfl) (hsp := rfl)
      intro w14 hs
      refine go ?_
      rw [show decide ((3 : Int) ≤ n) = false from decide_eq_false (by omega)]
      refine go ?_
      refine E.callf Tryz.func15 rfl ?_
      refine rrightA_any (e := ({ e with wr := (n : Int), sq := 1, tm := 1 } : Ev)) hyo hs ?_
      intro w15 hs
      rw [hz]
      have hz2 := hz
      replace hz := Lib.hid hz
      refine go ?_
      have hkd1 := right_kd hz2
      obtain ⟨_, _, hnd2⟩ := right_zero hz2
      simp only at hkd1 hnd2
      have fit2 : ({ e with wr := (n : Int), sq := 1, tm := 1 } : Ev).fit := ⟨by simp only; omega, hkd1, fun h => (hnd2 h).1⟩
      have henc : decide (e1.enc = ({ e with wr := (n : Int), sq := 1, tm := 1 } : Ev).enc) = true := by
        obtain ⟨tv, htv⟩ := hon.ex
        rw [so0_evW (by omega)] at htv
        rw [htv, ev_enc, enc_ep]
        exact decide_eq_true rfl
      have fit1 : e1.fit := by
        obtain ⟨tv, htv⟩ := hon.ex
        refine ⟨by rw [hx.1]; omega, by rw [hx.2.2.2]; exact hkd1, fun _ => ?_⟩
        rw [htv]
        simp only [Ep.ev]
        omega
      have hc1 := hon.clock
      replace henc := Lib.hid henc
      replace hc1 := Lib.hid hc1
      replace hx := Lib.hid hx
      clear hz2
      by_cases h5 : e.kd = 5
      · rw [show decide ((e.kd : Int) = 5) = true from decide_eq_true (by omega)]
        refine go ?_
        rw [show decide (e.nd < 3) = false from decide_eq_false (fun h => hnj ⟨h5, h⟩)]
        refine go ?_
        refine E.callf Tryz.func16 rfl ?_
        refine same_any (e := e1) (f := ({ e with wr := (n : Int), sq := 1, tm := 1 } : Ev)) he1 hyo fit1 fit2 hs ?_
        intro w16 g16 hg16 hs
        rw [henc.out]
        refine go ?_
        refine E.callf Tryz.func14 rfl ?_
        refine sclock_any hs.pull2 ?_
        rw [hc1.out]
        refine go ?_
        refine A.r1 ?_
        exact HR.out _ g16 (hg6.trans (hg7.trans hg16)) hs.drop.drop.drop.drop.drop
      · rw [show decide ((e.kd : Int) = 5) = false from decide_eq_false (by omega)]
        refine go ?_
        refine E.callf Tryz.func16 rfl ?_
        refine same_any (e := e1) (f := ({ e with wr := (n : Int), sq := 1, tm := 1 } : Ev)) he1 hyo fit1 fit2 hs ?_
        intro w16 g16 hg16 hs
        rw [henc.out]
        refine go ?_
        refine E.callf Tryz.func14 rfl ?_
        refine sclock_any hs.pull2 ?_
        rw [hc1.out]
        refine go ?_
        refine A.r1 ?_
        exact HR.out _ g16 (hg6.trans (hg7.trans hg16)) hs.drop.drop.drop.drop.drop
  · clear hs
    rintro ⟨er, s7, d7, g7⟩ w7 ⟨hg7, hE, hck, hs⟩
    simp only at hg7 hE hck hs ⊢
    simp only [noEv]
    refine go ?_
    refine E.al hs ?_
    intro b10 w8 hs
    refine E.sto (vs := [.int .i64 0, .int .u64 0, .int .u64 0, .int .u8 0, .string ⟨#[]⟩, .slice none 0 0, .float .f64 0, .int .i64 0]) (ys := [.int .i64 0, .int .u64 0, .int .u64 0, .int .u8 0, .string ⟨#[]⟩, .slice none 0 0, .float .f64 0, .int .i64 0]) hs ?_ (hv := rfl) (hsp := rfl) (h1 := rfl)
    intro w9 hs
    refine go ?_
    refine E.al hs ?_
    intro b13 w10 hs
    refine E.sto (vs := e.cs) (ys := e.cs) hs ?_ (hv := rfl) (hsp := spl_all (by rfl)) (h1 := Ev.cs_one he)
    intro w11 hs
    refine go ?_
    refine E.sto (vs := [.int .i64 n]) (ys := [.int .i64 n, .int .u64 e.sq, .int .u64 e.tm, .int .u8 e.kd, .string ⟨e.key.toArray⟩, e.tv, .float .f64 e.num, .int .i64 e.nd]) hs ?_ (hv := rfl) (hsp := rfl)
    intro w12 hs
    refine go ?_
    refine E.sto (vs := [.int .u64 1]) (ys := [.int .i64 n, .int .u64 1, .int .u64 e.tm, .int .u8 e.kd, .string ⟨e.key.toArray⟩, e.tv, .float .f64 e.num, .int .i64 e.nd]) hs ?_ (hv := rfl) (hsp := rfl)
    intro w13 hs
    refine go ?_
    refine E.sto (vs := [.int .u64 1]) (ys := [.int .i64 n, .int .u64 1, .int .u64 1, .int .u8 e.kd, .string ⟨e.key.toArray⟩, e.tv, .float .f64 e.num, .int .i64 e.nd]) hs ?_ (hv := rfl) (hsp := rfl)
    intro w14 hs
    refine gob ?_
    have hyo : ({ e with wr := (n : Int), sq := 1, tm := 1 } : Ev).ok g7 := ⟨by simp only; omega, by simp only; omega, by simp only; omega, (heo.mono hg7).kd, (heo.mono hg7).num, (heo.mono hg7).nd, (heo.mono hg7).key, (heo.mono hg7).text, (heo.mono hg7).tv⟩
    have hne := hE.ne
    have hE1 := hE.none
    have hE2 := hE.ret
    have hE3 := hE.bad
    have hE4 := hE.old
    rw [so0_evW (by omega)] at hE3 hE4
    clear hE
    replace hck := Lib.hid hck
    refine C.cut (fun _ : Unit => [(8, ptr sb), (9, .int .u64 was), (10, .pointer (some ⟨b10, 0, none⟩)), (11, .int .i64 er), (12, .int .i64 er), (13, .pointer (some ⟨b13, 0, none⟩))]) (fun _ w => Sat W w g7 (blk b13 [.int .i64 n, .int .u64 1, .int .u64 1, .int .u8 e.kd, .string ⟨e.key.toArray⟩, e.tv, .float .f64 e.num, .int .i64 e.nd] 26 :: blk b10 [.int .i64 0, .int .u64 0, .int .u64 0, .int .u8 0, .string ⟨#[]⟩, .slice none 0 0, .float .f64 0, .int .i64 0] 26 :: store sb db s7 :: disk db d7 :: blk b4 e.cs 26 :: H)) ?_ ?_
    · refine C.block ?_
      refine go ?_
      by_cases h3 : 3 ≤ n
      · obtain rfl := hE1 h3
        rw [show decide ((3 : Int) ≤ n) = true from decide_eq_true (by omega)]
        refine go ?_
        exact A.mt () hs
      rw [show decide ((3 : Int) ≤ n) = false from decide_eq_false (by omega)]
      clear hE1
      cases hr : retire with
      | true =>
        obtain rfl := hE2 (by omega) hr
        refine go ?_
        exact A.mt () hs
      | false =>
      clear hE2
      replace hE3 := hE3 (by omega) hr
      replace hE4 := hE4 (by omega) hr
      clear hr
      refine go ?_
      refine E.callf Tryz.func15 rfl ?_
      refine rrightA_any (e := ({ e with wr := (n : Int), sq := 1, tm := 1 } : Ev)) hyo hs ?_
      intro w15 hs
      by_cases hz : ({ e with wr := (n : Int), sq := 1, tm := 1 } : Ev).right = 0
      · obtain ⟨rfl, h5, hn3⟩ := hE4 hz
        rw [hz]
        clear hE3 hE4
        replace hz := Lib.hid hz
        refine go ?_
        rw [show decide ((e.kd : Int) = 5) = true from decide_eq_true (by omega)]
        refine go ?_
        rw [show decide (e.nd < 3) = true from decide_eq_true hn3]
        refine go ?_
        exact A.mt () hs
      · have h3' := hE3 hz
        rw [← h3']
        clear hE4 hE3
        replace h3' := Lib.hid h3'
        have hd : (!decide (er = 0)) = true := by simp [hne]
        replace hd := Lib.hid hd
        refine go ?_
        rw [hd.out]
        refine go ?_
        refine E.callf Tryz.func15 rfl ?_
        refine rrightA_any (e := ({ e with wr := (n : Int), sq := 1, tm := 1 } : Ev)) hyo hs ?_
        intro w16 hs
        rw [← h3'.out]
        refine go ?_
        exact A.mt () hs
    clear hs
    rintro _ w17 hs
    have hd : decide (er = 0) = false := decide_eq_false hne
    have hd2 : (!decide (er = 0)) = true := by simp [hne]
    replace hd := Lib.hid hd
    replace hd2 := Lib.hid hd2
    refine go ?_
    rw [show decide (er = er) = true from decide_eq_true rfl]
    refine go ?_
    rw [hd.out]
    refine go ?_
    rw [hd2.out]
    refine go ?_
    refine E.callf Tryz.func14 rfl ?_
    refine sclock_any hs.pull2 ?_
    rw [hck.out]
    refine go ?_
    rw [show decide ((was : Int) = was) = true from decide_eq_true rfl]
    refine A.r1 ?_
    exact HR.out _ g7 (hg6.trans hg7) hs.drop.drop.drop.drop.drop
end Go.Proofs.YtfhmamkafancbaaGreatDoor

/-
  What came in: bytes, rows of bytes; and how much it is.
-/
namespace Go.Proofs.YtfhmamkafancbaaGreatDoor
open Go.RowKit Go.ChangeShapes Go.WideShapes
set_option linter.unusedVariables false
set_option linter.unusedSimpArgs false
theorem bulk_one {H : Type} (d : DataW H) : 1 ≤ Rows.uptoBulk d := by
  cases d with
  | lit l => cases l <;> simp [Rows.uptoBulk]
  | nil => simp [Rows.uptoBulk]
  | ptr d => simp [Rows.uptoBulk]
  | slice elems spare => simp [Rows.uptoBulk]
  | agg parts => simp [Rows.uptoBulk]
  | iface t d => simp [Rows.uptoBulk]
  | map entries => simp [Rows.uptoBulk]
  | held h => simp [Rows.uptoBulk]
theorem bulk_all {H : Type} : ∀ (l : List (DataW H)), Rows.uptoBulkAll l = (l.map Rows.uptoBulk).sum
  | [] => by simp [Rows.uptoBulkAll]
  | x :: r => by simp [Rows.uptoBulkAll, bulk_all r]
theorem bulk_slice {H : Type} (a b : List (DataW H)) : Rows.uptoBulk (.slice a b) = (a.map Rows.uptoBulk).sum + (b.map Rows.uptoBulk).sum + 1 := by
  simp only [Rows.uptoBulk, bulk_all]
  try omega
theorem sum_ge {H : Type} (l : List (DataW H)) : l.length ≤ (l.map Rows.uptoBulk).sum := by
  induction l with
  | nil => simp
  | cons x r ih => have := bulk_one x; simp only [List.map_cons, List.sum_cons, List.length_cons]; omega
section
variable {H : Type} {enc : TypeId × Value → H} {P : Program} {w : World} {base : Nat} {held : Bool}
/-- The world's own blocks as a pool. -/
abbrev hp (w : World) : Hl := fun b => w.heap[b]?
theorem in_bytes {t e : TypeId} {fuel : Nat} {cs : List Value} {x : DataW H × List MemPlace} (ht : P.underlying t = some (.slice e)) (he : P.underlying e = some (.int .u8)) (hc : P.cellsOf e = 1)
    (h : DataW.trod enc P w base (fun _ => true) held fuel t cs = some x) : ∃ a n c, ∃ l : List UInt8, cs = [.slice a n c] ∧ l.length = n ∧ Pr 1 (hp w) (.slice a n c) n (bs l) ∧ l.length + 1 ≤ Rows.uptoBulk x.1 := by
  rcases open_ints ht he hc h with ⟨rfl, rfl⟩ | ⟨a, len, cap, zs, rfl, _, hl, hm, hz, rfl, hcell, hw⟩
  · exact ⟨none, 0, 0, [], rfl, rfl, Pr.nil, by simp [Rows.uptoBulk]⟩
  · simp only [if_true] at hz
    obtain ⟨l, h1, h2⟩ := pr_bytes (w := w) (a := some a) (len := len) (cap := cap) (zs := zs) (.inr ⟨a, rfl, hl, hm, hz, hcell, hw⟩)
    refine ⟨some a, len, cap, l, rfl, h1, h2, ?_⟩
    rw [bulk_slice]
    have := sum_ge (H := H) (lits .u8 (zs.take len))
    have hlen : (lits (H := H) .u8 (zs.take len)).length = len := by simp [lits, hz]; omega
    omega
end
end Go.Proofs.YtfhmamkafancbaaGreatDoor

/-
  What the laid variables give to the Store's statements.
-/
namespace Go.Proofs.YtfhmamkafancbaaGreatDoor
open Go.RowKit Go.ChangeShapes Go.WideShapes
set_option linter.unusedVariables false
set_option maxRecDepth 100000 in
theorem gl_row {W : World} (h : laidMetH Tryz.prog Rows.storeWritesRow.laid W) : Gl (hp W) := by
  rw [MakeChecks.laidMetH_plain _ _ _ (by kernel_rfl)] at h
  have t1 := h.tail
  obtain ⟨ps, ⟨g1, tt1, cs1, f1, p1, q1, hg1, ht1, hv1, hd1, _⟩, _, _⟩ := t1
  have gN : Program.globalNamed Tryz.prog "math/bits.deBruijn64tab" = some 4 := by kernel_rfl
  have tN : (Tryz.prog.globals[4]?).map (·.type) = some 338 := by kernel_rfl
  obtain rfl := Option.some.inj (gN.symm.trans hg1)
  obtain rfl := Option.some.inj (tN.symm.trans ht1)
  obtain ⟨xs, m1, rfl, hx1, hlen, hn3, hel⟩ := DataW.trod_array Tryz.underlying338 hd1
  have h15 := hel 15 (by decide)
  have hc1 : Program.cellsOf Tryz.prog 5 = 1 := by kernel_rfl
  rw [hc1, List.getElem?_eq_getElem (by omega)] at h15
  obtain ⟨k, e1, e2, _⟩ := DataW.trod_int Tryz.underlying5 h15
  have hy : (xs[15]'(by omega)).1 = DataW.lit (.int .u8 4) := by
    have h1 := congrArg (fun d : DataW Unit => match d with | .agg l => l[15]? | _ => none) (congrArg Prod.fst hx1)
    simp only [List.getElem?_map, List.getElem?_eq_getElem (show 15 < xs.length by omega), Option.map_some] at h1
    exact (Option.some.inj (h1.symm.trans rfl))
  have hk : k = 4 := by
    rw [e2] at hy
    simpa using hy
  subst hk
  refine ⟨GlC.of ?_⟩
  rw [World.var?_cell hg1 hv1 15]
  have h2 := congrArg (fun l => l[0]?) e1
  simp only [List.getElem?_take, List.getElem?_drop] at h2
  simpa using h2
end Go.Proofs.YtfhmamkafancbaaGreatDoor

/-
  What came in: an event.
-/
namespace Go.Proofs.YtfhmamkafancbaaGreatDoor
open Go.RowKit Go.ChangeShapes Go.WideShapes
set_option linter.unusedVariables false
set_option linter.unusedSimpArgs false
theorem trod_float {H : Type} {enc : TypeId × Value → H} {P : Program} {w : World} {base : Nat} {spare : Nat → Bool} {held : Bool} {fuel : Nat} {t : TypeId} {cs : List Value} {x : DataW H × List MemPlace} {k : FloatKind} (ht : P.underlying t = some (.float k)) (h : DataW.trod enc P w base spare held fuel t cs = some x) : ∃ b, cs = [.float k b] ∧ (Lit.float k b).wf = true := by
  cases fuel with
  | zero => simp [DataW.trod] at h
  | succ n =>
    unfold DataW.trod at h
    rw [ht] at h
    split at h <;> simp_all
/-- An event that came in. -/
structure EvIn (e : Ev) (w : World) : Prop where
  wr : -9223372036854775808 ≤ e.wr ∧ e.wr ≤ 9223372036854775807
  sq : e.sq < 18446744073709551616
  tm : e.tm < 18446744073709551616
  kd : e.kd < 256
  num : e.num < 18446744073709551616
  nd : -9223372036854775808 ≤ e.nd ∧ e.nd ≤ 9223372036854775807
  key : e.key.length ≤ maxLen
  tv : ∃ a c, e.tv = .slice a e.text.length c
  text : Pr 1 (hp w) e.tv e.text.length (bs e.text)
theorem EvIn.ok {e : Ev} {w : World} (h : EvIn e w) (hk : e.key.length ≤ 100000000) (ht : e.text.length ≤ 100000000) : e.ok (hp w) := ⟨h.wr, h.sq, h.tm, h.kd, h.num, h.nd, hk, ht, h.text⟩
set_option maxRecDepth 100000 in
theorem in_event {H : Type} {enc : TypeId × Value → H} {w : World} {base : Nat} {held : Bool} {r : Reach} {b0 : Nat} {v : Value} {d : DataW H} {ps : List MemPlace} (hval : Value.okWide Tryz.prog w r b0 26 v) (h : DataW.Trod enc Tryz.prog w base (fun _ => true) held 26 v d ps) :
    ∃ e : Ev, v = e.val ∧ EvIn e w := by
  obtain ⟨fuel, hf⟩ := h
  obtain ⟨cs, rfl, hsz⟩ : ∃ cs, v = .agg cs ∧ cs.size = Program.cellsOf Tryz.prog 26 := by
    unfold Value.okWide at hval
    rw [Tryz.underlying26] at hval
    obtain ⟨cs, h1, h2, _⟩ := hval
    exact ⟨cs, h1, h2⟩
  obtain ⟨xs, n, _, _, hl, hlen, hfi⟩ := DataW.trod_struct Tryz.underlying26 hf
  have h8 : Program.cellsOf Tryz.prog 26 = 8 := by kernel_rfl
  have c3 : Program.cellsOf Tryz.prog 3 = 1 := by kernel_rfl
  have c22 : Program.cellsOf Tryz.prog 22 = 1 := by kernel_rfl
  have c5 : Program.cellsOf Tryz.prog 5 = 1 := by kernel_rfl
  have c9 : Program.cellsOf Tryz.prog 9 = 1 := by kernel_rfl
  have c33 : Program.cellsOf Tryz.prog 23 = 1 := by kernel_rfl
  have cf : Program.cellsOf Tryz.prog 24 = 1 := by kernel_rfl
  rw [h8] at hsz
  match cs, hsz with
  | ⟨[v0, v1, v2, v3, v4, v5, v6, v7]⟩, _ =>
    have hx : xs.length = 8 := hlen
    have g0 : DataW.trod enc Tryz.prog w base (fun _ => true) held n 3 (([v0, v1, v2, v3, v4, v5, v6, v7].drop 0).take (Program.cellsOf Tryz.prog 3)) = xs[0]? := hfi 0 _ rfl
    have g1 : DataW.trod enc Tryz.prog w base (fun _ => true) held n 22 (([v0, v1, v2, v3, v4, v5, v6, v7].drop 1).take (Program.cellsOf Tryz.prog 22)) = xs[1]? := hfi 1 _ rfl
    have g2 : DataW.trod enc Tryz.prog w base (fun _ => true) held n 22 (([v0, v1, v2, v3, v4, v5, v6, v7].drop 2).take (Program.cellsOf Tryz.prog 22)) = xs[2]? := hfi 2 _ rfl
    have g3 : DataW.trod enc Tryz.prog w base (fun _ => true) held n 5 (([v0, v1, v2, v3, v4, v5, v6, v7].drop 3).take (Program.cellsOf Tryz.prog 5)) = xs[3]? := hfi 3 _ rfl
    have g4 : DataW.trod enc Tryz.prog w base (fun _ => true) held n 9 (([v0, v1, v2, v3, v4, v5, v6, v7].drop 4).take (Program.cellsOf Tryz.prog 9)) = xs[4]? := hfi 4 _ rfl
    have g5 : DataW.trod enc Tryz.prog w base (fun _ => true) held n 23 (([v0, v1, v2, v3, v4, v5, v6, v7].drop 5).take (Program.cellsOf Tryz.prog 23)) = xs[5]? := hfi 5 _ rfl
    have g6 : DataW.trod enc Tryz.prog w base (fun _ => true) held n 24 (([v0, v1, v2, v3, v4, v5, v6, v7].drop 6).take (Program.cellsOf Tryz.prog 24)) = xs[6]? := hfi 6 _ rfl
    have g7 : DataW.trod enc Tryz.prog w base (fun _ => true) held n 3 (([v0, v1, v2, v3, v4, v5, v6, v7].drop 7).take (Program.cellsOf Tryz.prog 3)) = xs[7]? := hfi 7 _ rfl
    rw [c3] at g0 g7
    rw [c22] at g1 g2
    rw [c5] at g3
    rw [c9] at g4
    rw [c33] at g5
    rw [cf] at g6
    rw [List.getElem?_eq_getElem (by omega)] at g0 g1 g2 g3 g4 g5 g6 g7
    obtain ⟨x0, e0, _, w0⟩ := DataW.trod_int Tryz.underlying3 g0
    obtain ⟨x1, e1, _, w1⟩ := DataW.trod_int Tryz.underlying22 g1
    obtain ⟨x2, e2, _, w2⟩ := DataW.trod_int Tryz.underlying22 g2
    obtain ⟨x3, e3, _, w3⟩ := DataW.trod_int Tryz.underlying5 g3
    obtain ⟨x4, e4, _, w4⟩ := DataW.trod_string Tryz.underlying9 g4
    obtain ⟨a, len, c, l, e5, hll, hp5, _⟩ := in_bytes Tryz.underlying23 Tryz.underlying5 c5 g5
    obtain ⟨x6, e6, w6⟩ := trod_float Tryz.underlying24 g6
    obtain ⟨x7, e7, _, w7⟩ := DataW.trod_int Tryz.underlying3 g7
    simp [Value.cells] at e0 e1 e2 e3 e4 e5 e6 e7
    subst e0 e1 e2 e3 e4 e5 e6 e7
    simp [Lit.wf, IntKind.min, IntKind.max, IntKind.signed, IntKind.bits] at w0 w1 w2 w3 w6 w7
    refine ⟨⟨x0, x1.toNat, x2.toNat, x3.toNat, x4.data.toList, l, x6, x7, .slice a len c⟩, ?_, ?_⟩
    · have q1 : ((x1.toNat : Nat) : Int) = x1 := by omega
      have q2 : ((x2.toNat : Nat) : Int) = x2 := by omega
      have q3 : ((x3.toNat : Nat) : Int) = x3 := by omega
      simp only [Ev.val, Ev.cs, q1, q2, q3]
    · subst hll
      refine ⟨⟨by simp only; omega, by simp only; omega⟩, by simp only; omega, by simp only; omega, by simp only; omega, ?_, ⟨by simp only; omega, by simp only; omega⟩, ?_, ⟨a, c, rfl⟩, hp5⟩
      · simp only
        omega
      · have : x4.data.toList.length = x4.size := Array.length_toList
        show x4.data.toList.length ≤ maxLen
        rw [this]
        exact w4
end Go.Proofs.YtfhmamkafancbaaGreatDoor
