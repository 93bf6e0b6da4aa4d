/-
  Layer 6 (event): At, Compare, Right.
-/
import Derived.Test.YtkolnecahlkndaaVa
namespace Go.Proofs.Ytkolnecahlkndaa
open Go.RowKit
set_option linter.unusedVariables false
set_option linter.unusedSimpArgs false

/-- A place, as a value. -/
def spot (t : Nat) (wr : Int) : Value := .agg #[.int .u64 t, .int .i64 wr]

theorem ag_spot : AggOf Try.prog 25 2 := ⟨_, Try.underlying25, rfl, by kernel_rfl⟩
theorem ag_ev : AggOf Try.prog 43 8 := ⟨_, Try.underlying43, rfl, by kernel_rfl⟩

set_option maxHeartbeats 1600000 in
set_option maxRecDepth 100000 in
theorem compare_any {R : Ending → World → Prop} {W w : World} {g : Hl} {H : List HP} {t1 t2 : Nat} {w1 w2 : Int} (hs : Sat W w g H) (hR : ∀ w', Sat W w' g H → R (.returned (.int .i64 (cmpS t1 w1 t2 w2))) w') :
    Calls Try.prog 24 #[spot t1 w1, spot t2 w2] w R := by
  have HR := Lib.hid hR
  clear hR
  simp only [spot]
  refine C.calls (args := [.agg #[.int .u64 t1, .int .i64 w1], .agg #[.int .u64 t2, .int .i64 w2]]) Try.func24 rfl rfl rfl ?_
  refine go ?_
  refine E.bx hs ?_
  intro b1 w1 hs
  refine go ?_
  refine E.bx hs ?_
  intro b2 w2 hs
  refine go ?_
  refine C.held2 b1 b2 hs ?_
  intro w hk hs
  refine goh ?_
  refine EH.one (St.callf Try.func47 rfl ?_)
  refine cmpU_any ?_
  refine kept2 hs (fun hk => ?_)
  refine goh ?_
  refine EH.one (St.callf Try.func48 rfl ?_)
  refine cmpI_any ?_
  refine kept2 hs (fun hk => ?_)
  refine goh ?_
  refine EH.bsl hs ?_
  intro b3 w3 hs
  refine kept2 hs (fun hk => ?_)
  refine EH.one (St.callf Try.func46 rfl ?_)
  refine or_any hs ?_
  refine kept2 hs (fun hk => ?_)
  refine goh ?_
  refine EH.done ?_
  refine go ?_
  refine A.r1 ?_
  exact HR.out _ hs.drop.drop.drop

set_option maxHeartbeats 1600000 in
set_option maxRecDepth 100000 in
theorem at_any {R : Ending → World → Prop} {W w : World} {g : Hl} {H : List HP} {e : Ev} (hs : Sat W w g H) (hR : ∀ w', Sat W w' g H → R (.returned (spot e.tm e.wr)) w') :
    Calls Try.prog 39 #[e.val] w R := by
  have HR := Lib.hid hR
  clear hR
  simp only [Ev.val, Ev.cs]
  refine C.calls (args := [.agg #[.int .i64 e.wr, .int .u64 e.sq, .int .u64 e.tm, .int .u8 e.kd, .string ⟨e.key.toArray⟩, e.tv, .float .f64 e.num, .int .i64 e.nd]]) Try.func39 rfl rfl rfl ?_
  refine go ?_
  refine E.bx hs ?_
  intro b1 w1 hs
  refine go ?_
  refine E.al hs ?_
  intro b2 w2 hs
  refine go ?_
  refine E.sto hs ?_
  intro w3 hs
  refine go ?_
  refine A.c1 rfl rfl (run_lda hs ag_spot) ?_
  exact HR.out _ hs.drop.drop

set_option maxHeartbeats 1600000 in
set_option maxRecDepth 100000 in
theorem node_any {R : Ending → World → Prop} {w : World} {a : Int} (hR : R (.returned (.bool (decide (0 ≤ a ∧ a < 64)))) w) :
    Calls Try.prog 60 #[.int .i64 a] w R := by
  have HR := Lib.hid hR
  clear hR
  refine C.calls (args := [.int .i64 a]) Try.func60 rfl rfl rfl ?_
  refine go ?_
  cases h1 : decide (0 ≤ a) with
  | true =>
    refine go ?_
    refine A.r1 ?_
    have := of_decide_eq_true h1
    simpa [this] using HR.out
  | false =>
    refine go ?_
    refine A.r1 ?_
    have := of_decide_eq_false h1
    simpa [this] using HR.out

/-- What may not be told of an event: the error's number. -/
def Ev.right (e : Ev) : Int :=
  if ¬ (0 ≤ e.wr ∧ e.wr < 64) ∨ e.sq = 0 ∨ e.tm = 0 ∨ e.kd < 1 ∨ 6 < e.kd ∨ (e.kd = 5 ∧ ¬ (0 ≤ e.nd ∧ e.nd < 64)) then 1
  else if (1 ≤ e.kd ∧ e.kd ≤ 4 ∧ (e.key.length = 0 ∨ 64 < e.key.length)) ∨ (e.kd = 1 ∧ 1048576 < e.text.length) then 6
  else if 9223372036854775807 < e.sq ∨ 9223372036854775807 < e.tm then 8 else 0

set_option maxHeartbeats 1600000 in
set_option maxRecDepth 100000 in
theorem right_any {R : Ending → World → Prop} {W w : World} {g : Hl} {H : List HP} {e : Ev} (ho : e.ok g) (hs : Sat W w g H) (hR : ∀ w', Sat W w' g H → R (.returned (.int .i64 e.right)) w') :
    Calls Try.prog 38 #[e.val] w R := by
  have HR := Lib.hid hR
  clear hR
  obtain ⟨a, c, etv, _, _⟩ := ho.tv.len
  have hkd := ho.kd
  have e1 : e.right = e.right := rfl
  obtain ⟨wr, sq, tm, kd, key, text, num, nd, tv⟩ := e
  simp only [Ev.val, Ev.cs] at etv hkd ⊢
  subst etv
  refine C.calls (args := [.agg #[.int .i64 wr, .int .u64 sq, .int .u64 tm, .int .u8 kd, .string ⟨key.toArray⟩, .slice a text.length c, .float .f64 num, .int .i64 nd]]) Try.func38 rfl rfl rfl ?_
  refine go ?_
  refine E.bx hs ?_
  intro b1 w1 hs
  refine E.pv pvt ?_
  refine E.nil ?_
  refine A.next ?_
  refine C.seq (C.cut (fun _ : Unit => [(1, .pointer (some ⟨b1, 0, none⟩)), (2, .int .i64 0), (3, .bool (decide (1 ≤ kd ∧ kd ≤ 4)))]) (fun _ w => Sat W w g (blk b1 [.int .i64 wr, .int .u64 sq, .int .u64 tm, .int .u8 kd, .string ⟨key.toArray⟩, .slice a text.length c, .float .f64 num, .int .i64 nd] 43 :: H)) ?_ ?_)
  · refine go ?_
    cases h1 : decide ((1 : Int) ≤ kd) with
    | false =>
      refine go ?_
      refine A.mt () hs ?_
      have h1' := of_decide_eq_false h1
      rw [show decide (1 ≤ kd ∧ kd ≤ 4) = false from decide_eq_false (by omega)]
      exact wk_
    | true =>
      refine go ?_
      refine A.mt () hs ?_
      have h1' := of_decide_eq_true h1
      rw [show decide (1 ≤ kd ∧ kd ≤ 4) = decide ((kd : Int) ≤ 4) from decide_eq_decide.2 (by omega)]
      exact wk_
  clear hs
  rintro _ w2 hs
  refine go ?_
  refine E.callf Try.func60 rfl ?_
  refine node_any ?_
  have one : ¬ (0 ≤ wr ∧ wr < 64) ∨ sq = 0 ∨ tm = 0 ∨ kd < 1 ∨ 6 < kd ∨ (kd = 5 ∧ ¬ (0 ≤ nd ∧ nd < 64)) → ∀ w', Sat W w' g H → R (.returned (.int .i64 1)) w' := fun h w' hs => by
    have := HR.out w' hs
    simp only [Ev.right] at this
    rw [if_pos h] at this
    exact this
  cases h1 : decide (0 ≤ wr ∧ wr < 64) with
  | false =>
    refine go ?_
    refine A.r1 ?_
    exact one (.inl (of_decide_eq_false h1)) _ hs.drop
  | true =>
  refine go ?_
  cases h2 : decide ((sq : Int) = 0) with
  | true =>
    refine go ?_
    refine A.r1 ?_
    exact one (.inr (.inl (by have := of_decide_eq_true h2; omega))) _ hs.drop
  | false =>
  refine go ?_
  cases h3 : decide ((tm : Int) = 0) with
  | true =>
    refine go ?_
    refine A.r1 ?_
    exact one (.inr (.inr (.inl (by have := of_decide_eq_true h3; omega)))) _ hs.drop
  | false =>
  refine go ?_
  cases h4 : decide ((kd : Int) < 1) with
  | true =>
    refine go ?_
    refine A.r1 ?_
    exact one (.inr (.inr (.inr (.inl (by have := of_decide_eq_true h4; omega))))) _ hs.drop
  | false =>
  refine go ?_
  cases h5 : decide (6 < (kd : Int)) with
  | true =>
    refine go ?_
    refine A.r1 ?_
    exact one (.inr (.inr (.inr (.inr (.inl (by have := of_decide_eq_true h5; omega)))))) _ hs.drop
  | false =>
  refine go ?_
  have h1 := of_decide_eq_true h1
  have h2 := of_decide_eq_false h2
  have h3 := of_decide_eq_false h3
  have h4 := of_decide_eq_false h4
  have h5 := of_decide_eq_false h5
  clear one
  have six : ¬ (kd = 5 ∧ ¬ (0 ≤ nd ∧ nd < 64)) → (1 ≤ kd ∧ kd ≤ 4 ∧ (key.length = 0 ∨ 64 < key.length)) ∨ (kd = 1 ∧ 1048576 < text.length) → ∀ w', Sat W w' g H → R (.returned (.int .i64 6)) w' := fun h h6 w' hs => by
    have := HR.out w' hs
    simp only [Ev.right] at this
    rw [if_neg (by omega), if_pos h6] at this
    exact this
  have fin : ¬ (kd = 5 ∧ ¬ (0 ≤ nd ∧ nd < 64)) → ¬ ((1 ≤ kd ∧ kd ≤ 4 ∧ (key.length = 0 ∨ 64 < key.length)) ∨ (kd = 1 ∧ 1048576 < text.length)) → ∀ w', Sat W w' g H → R (.returned (.int .i64 (if 9223372036854775807 < sq ∨ 9223372036854775807 < tm then 8 else 0))) w' := fun h h6 w' hs => by
    have := HR.out w' hs
    simp only [Ev.right] at this
    rw [if_neg (by omega), if_neg h6] at this
    exact this
  have one : kd = 5 ∧ ¬ (0 ≤ nd ∧ nd < 64) → ∀ w', Sat W w' g H → R (.returned (.int .i64 1)) w' := fun h w' hs => by
    have := HR.out w' hs
    simp only [Ev.right] at this
    rw [if_pos (by omega)] at this
    exact this
  clear HR e1
  cases h6 : decide ((kd : Int) = 5) with
  | true =>
    have h6 := of_decide_eq_true h6
    rw [show decide (1 ≤ kd ∧ kd ≤ 4) = false from decide_eq_false (by omega)]
    refine go ?_
    refine E.callf Try.func60 rfl ?_
    refine node_any ?_
    cases h7 : decide (0 ≤ nd ∧ nd < 64) with
    | false =>
      refine go ?_
      refine A.r1 ?_
      exact one ⟨by omega, of_decide_eq_false h7⟩ _ hs.drop
    | true =>
    have h7 := of_decide_eq_true h7
    refine go ?_
    rw [show decide ((kd : Int) = 1) = false from decide_eq_false (by omega)]
    refine go ?_
    have fin := fin (by omega) (by omega)
    cases h8 : decide ((9223372036854775807 : Int) < sq) with
    | true =>
      refine go ?_
      refine A.r1 ?_
      have h8 := of_decide_eq_true h8
      rw [if_pos (by omega)] at fin
      exact fin _ hs.drop
    | false =>
    refine go ?_
    cases h9 : decide ((9223372036854775807 : Int) < tm) with
    | true =>
      refine go ?_
      refine A.r1 ?_
      have h9 := of_decide_eq_true h9
      rw [if_pos (by omega)] at fin
      exact fin _ hs.drop
    | false =>
    refine go ?_
    refine A.r1 ?_
    have h8 := of_decide_eq_false h8
    have h9 := of_decide_eq_false h9
    rw [if_neg (by omega)] at fin
    exact fin _ hs.drop
  | false =>
  have h6 := of_decide_eq_false h6
  refine go ?_
  cases hk : decide (1 ≤ kd ∧ kd ≤ 4) with
  | true =>
    have hk := of_decide_eq_true hk
    refine go ?_
    cases ha : decide ((key.length : Int) = 0) with
    | true =>
      have ha := of_decide_eq_true ha
      refine go ?_
      refine A.r1 ?_
      exact six (by omega) (by omega) _ hs.drop
    | false =>
    have ha := of_decide_eq_false ha
    refine go ?_
    cases hb : decide ((64 : Int) < key.length) with
    | true =>
      have hb := of_decide_eq_true hb
      refine go ?_
      refine A.r1 ?_
      exact six (by omega) (by omega) _ hs.drop
    | false =>
    have hb := of_decide_eq_false hb
    refine go ?_
    cases hc : decide ((kd : Int) = 1) with
    | true =>
      have hc := of_decide_eq_true hc
      refine go ?_
      cases hd : decide ((1048576 : Int) < text.length) with
      | true =>
        have hd := of_decide_eq_true hd
        refine go ?_
        refine A.r1 ?_
        exact six (by omega) (by omega) _ hs.drop
      | false =>
      have hd := of_decide_eq_false hd
      refine go ?_
      have fin := fin (by omega) (by omega)
      cases h8 : decide ((9223372036854775807 : Int) < sq) with
      | true =>
        refine go ?_
        refine A.r1 ?_
        have h8 := of_decide_eq_true h8
        rw [if_pos (by omega)] at fin
        exact fin _ hs.drop
      | false =>
      refine go ?_
      cases h9 : decide ((9223372036854775807 : Int) < tm) with
      | true =>
        refine go ?_
        refine A.r1 ?_
        have h9 := of_decide_eq_true h9
        rw [if_pos (by omega)] at fin
        exact fin _ hs.drop
      | false =>
      refine go ?_
      refine A.r1 ?_
      have h8 := of_decide_eq_false h8
      have h9 := of_decide_eq_false h9
      rw [if_neg (by omega)] at fin
      exact fin _ hs.drop
    | false =>
      have hc := of_decide_eq_false hc
      refine go ?_
      have fin := fin (by omega) (by omega)
      cases h8 : decide ((9223372036854775807 : Int) < sq) with
      | true =>
        refine go ?_
        refine A.r1 ?_
        have h8 := of_decide_eq_true h8
        rw [if_pos (by omega)] at fin
        exact fin _ hs.drop
      | false =>
      refine go ?_
      cases h9 : decide ((9223372036854775807 : Int) < tm) with
      | true =>
        refine go ?_
        refine A.r1 ?_
        have h9 := of_decide_eq_true h9
        rw [if_pos (by omega)] at fin
        exact fin _ hs.drop
      | false =>
      refine go ?_
      refine A.r1 ?_
      have h8 := of_decide_eq_false h8
      have h9 := of_decide_eq_false h9
      rw [if_neg (by omega)] at fin
      exact fin _ hs.drop
  | false =>
    have hk := of_decide_eq_false hk
    refine go ?_
    rw [show decide ((kd : Int) = 1) = false from decide_eq_false (by omega)]
    refine go ?_
    have fin := fin (by omega) (by omega)
    cases h8 : decide ((9223372036854775807 : Int) < sq) with
    | true =>
      refine go ?_
      refine A.r1 ?_
      have h8 := of_decide_eq_true h8
      rw [if_pos (by omega)] at fin
      exact fin _ hs.drop
    | false =>
    refine go ?_
    cases h9 : decide ((9223372036854775807 : Int) < tm) with
    | true =>
      refine go ?_
      refine A.r1 ?_
      have h9 := of_decide_eq_true h9
      rw [if_pos (by omega)] at fin
      exact fin _ hs.drop
    | false =>
    refine go ?_
    refine A.r1 ?_
    have h8 := of_decide_eq_false h8
    have h9 := of_decide_eq_false h9
    rw [if_neg (by omega)] at fin
    exact fin _ hs.drop
end Go.Proofs.Ytkolnecahlkndaa
