/-
  Layer 6 (event): what an event is; places, and how they stand; which events may be.
-/
import Derived.Test.YtkolnecahlkndaaProg
import Derived.Test.YtkolnecahlkndaaIv
import Derived.Test.YtkolnecahlkndaaKs
import Derived.Test.YtkolnecahlkndaaQx
namespace Go.Proofs.Ytkolnecahlkndaa
open Go.RowKit
set_option linter.unusedVariables false
set_option linter.unusedSimpArgs false

/-- An event; 'tv' is its text's slice. -/
structure Ev where
  wr : Int
  sq : Nat
  tm : Nat
  kd : Nat
  key : List UInt8
  text : List UInt8
  num : Nat
  nd : Int
  tv : Value
/-- Its cells. -/
def Ev.cs (e : Ev) : List Value := [.int .i64 e.wr, .int .u64 e.sq, .int .u64 e.tm, .int .u8 e.kd, .string ⟨e.key.toArray⟩, e.tv, .float .f64 e.num, .int .i64 e.nd]
def Ev.val (e : Ev) : Value := .agg e.cs.toArray
/-- Its parts are of their kinds, and its text lies in the pool. -/
structure Ev.ok (e : Ev) (g : Hl) : Prop where
  wr : -9223372036854775808 ≤ e.wr ∧ e.wr ≤ 9223372036854775807
  sq : e.sq < 18446744073709551616
  tm : e.tm < 18446744073709551616
  kd : e.kd < 256
  num : e.num < 18446744073709551616
  nd : -9223372036854775808 ≤ e.nd ∧ e.nd ≤ 9223372036854775807
  key : e.key.length ≤ 100000000
  text : e.text.length ≤ 100000000
  tv : Pr 1 g e.tv e.text.length (bs e.text)
theorem Ev.cs_one {e : Ev} {g : Hl} (h : e.ok g) : e.cs.all Value.oneCell' = true := by
  obtain ⟨a, c, he, _, _⟩ := h.tv.len
  simp only [Ev.cs, he, List.all_cons, List.all_nil]
  rfl
theorem Ev.ok.mono {e : Ev} {g g' : Hl} (h : e.ok g) (hg : Hl.le g g') : e.ok g' := ⟨h.wr, h.sq, h.tm, h.kd, h.num, h.nd, h.key, h.text, h.tv.mono hg⟩

theorem spl_go : ∀ (vs pre xs : List Value), xs.length = vs.length → spl (pre ++ xs) pre.length vs = pre ++ vs
  | [], pre, xs, h => by
    obtain rfl : xs = [] := List.eq_nil_of_length_eq_zero (by simpa using h)
    rfl
  | v :: r, pre, x :: xs, h => by
    simp only [spl]
    rw [List.set_append_right _ _ (Nat.le_refl _), Nat.sub_self, List.set_cons_zero]
    have := spl_go r (pre ++ [v]) xs (by simpa using h)
    simp only [List.append_assoc, List.cons_append, List.nil_append, List.length_append, List.length_cons, List.length_nil] at this
    exact this
theorem spl_all {xs vs : List Value} (h : xs.length = vs.length) : spl xs 0 vs = vs := spl_go vs [] xs h

/-- How two numbers stand to one another. -/
def cmpI (a b : Int) : Int := if a < b then -1 else if b < a then 1 else 0
/-- How two places stand. -/
def cmpS (t1 : Nat) (w1 : Int) (t2 : Nat) (w2 : Int) : Int := if cmpI t1 t2 ≠ 0 then cmpI t1 t2 else cmpI w1 w2
theorem cmpI_lt {a b : Int} : cmpI a b < 0 ↔ a < b := by unfold cmpI; repeat' split; all_goals omega
theorem cmpI_range (a b : Int) : -1 ≤ cmpI a b ∧ cmpI a b ≤ 1 := by unfold cmpI; repeat' split; all_goals omega
theorem cmpS_lt {t1 t2 : Nat} {w1 w2 : Int} : cmpS t1 w1 t2 w2 < 0 ↔ t1 < t2 ∨ t1 = t2 ∧ w1 < w2 := by unfold cmpS cmpI; repeat' split; all_goals omega
theorem cmpS_le {t1 t2 : Nat} {w1 w2 : Int} : cmpS t1 w1 t2 w2 ≤ 0 ↔ t1 < t2 ∨ t1 = t2 ∧ w1 ≤ w2 := by unfold cmpS cmpI; repeat' split; all_goals omega

set_option maxHeartbeats 1600000 in
set_option maxRecDepth 100000 in
theorem nanU_any {R : Ending → World → Prop} {w : World} {a : Int} (hR : R (.returned (.bool false)) w) : Calls Try.prog 63 #[.int .u64 a] w R := by
  have HR := Lib.hid hR
  clear hR
  refine C.calls (args := [.int .u64 a]) Try.func63 rfl rfl rfl ?_
  refine go ?_
  refine A.r1 ?_
  simpa using HR.out
set_option maxHeartbeats 1600000 in
set_option maxRecDepth 100000 in
theorem nanI_any {R : Ending → World → Prop} {w : World} {a : Int} (hR : R (.returned (.bool false)) w) : Calls Try.prog 64 #[.int .i64 a] w R := by
  have HR := Lib.hid hR
  clear hR
  refine C.calls (args := [.int .i64 a]) Try.func64 rfl rfl rfl ?_
  refine go ?_
  refine A.r1 ?_
  simpa using HR.out
set_option maxHeartbeats 1600000 in
set_option maxRecDepth 100000 in
theorem cmpU_any {R : Ending → World → Prop} {w : World} {a b : Int} (hR : R (.returned (.int .i64 (cmpI a b))) w) : Calls Try.prog 47 #[.int .u64 a, .int .u64 b] w R := by
  have HR := Lib.hid hR
  clear hR
  refine C.calls (args := [.int .u64 a, .int .u64 b]) Try.func47 rfl rfl rfl ?_
  refine go ?_
  refine E.callf Try.func63 rfl ?_
  refine nanU_any ?_
  refine go ?_
  refine E.callf Try.func63 rfl ?_
  refine nanU_any ?_
  refine go ?_
  refine C.cond_dec (p := a < b) rfl (fun h => ?_) (fun h => ?_)
  · refine go ?_
    refine A.r1 ?_
    simpa [cmpI, h] using HR.out
  · refine go ?_
    refine C.cond_dec (p := b < a) rfl (fun h2 => ?_) (fun h2 => ?_)
    · refine go ?_
      refine A.r1 ?_
      simpa [cmpI, h, h2] using HR.out
    · refine go ?_
      refine A.r1 ?_
      simpa [cmpI, h, h2] using HR.out
set_option maxHeartbeats 1600000 in
set_option maxRecDepth 100000 in
theorem cmpI_any {R : Ending → World → Prop} {w : World} {a b : Int} (hR : R (.returned (.int .i64 (cmpI a b))) w) : Calls Try.prog 48 #[.int .i64 a, .int .i64 b] w R := by
  have HR := Lib.hid hR
  clear hR
  refine C.calls (args := [.int .i64 a, .int .i64 b]) Try.func48 rfl rfl rfl ?_
  refine go ?_
  refine E.callf Try.func64 rfl ?_
  refine nanI_any ?_
  refine go ?_
  refine E.callf Try.func64 rfl ?_
  refine nanI_any ?_
  refine go ?_
  refine C.cond_dec (p := a < b) rfl (fun h => ?_) (fun h => ?_)
  · refine go ?_
    refine A.r1 ?_
    simpa [cmpI, h] using HR.out
  · refine go ?_
    refine C.cond_dec (p := b < a) rfl (fun h2 => ?_) (fun h2 => ?_)
    · refine go ?_
      refine A.r1 ?_
      simpa [cmpI, h, h2] using HR.out
    · refine go ?_
      refine A.r1 ?_
      simpa [cmpI, h, h2] using HR.out

theorem el_int : ElemOf Try.prog 53 3 (.int .i64 0) 1 8 := .of Try.underlying53 (by kernel_rfl) rfl (by decide)

set_option maxHeartbeats 1600000 in
set_option maxRecDepth 100000 in
/-- cmp.Or of two. -/
theorem or_any {R : Ending → World → Prop} {W w : World} {g : Hl} {H : List HP} {b : Nat} {x y : Int} (hs : Sat W w g (blk b [.int .i64 x, .int .i64 y] 3 :: H)) (hR : R (.returned (.int .i64 (if x ≠ 0 then x else y))) w) : Calls Try.prog 46 #[.slice (some ⟨b, 0, none⟩) 2 2] w R := by
  have HR := Lib.hid hR
  clear hR
  refine C.calls (args := [.slice (some ⟨b, 0, none⟩) 2 2]) Try.func46 rfl rfl rfl ?_
  refine gob ?_
  refine C.block ?_
  refine C.lp (fun i : Nat => [(0, .slice (some ⟨b, 0, none⟩) 2 2), (3, .int .i64 0), (6, .slice (some ⟨b, 0, none⟩) 2 2), (7, .int .i64 2), (8, .int .i64 i)]) (fun gk i w' => gk = 2 - i ∧ i ≤ 2 ∧ (0 < i → x = 0) ∧ (1 < i → y = 0) ∧ w' = w) 2 0 ⟨rfl, by omega, by omega, by omega, rfl⟩ ?_
  rintro gk i w' ⟨rfl, hi, h1, h2, rfl⟩
  obtain rfl | rfl | rfl : i = 0 ∨ i = 1 ∨ i = 2 := by omega
  · refine go ?_
    cases hx : decide (x = 0) with
    | true =>
      refine go ?_
      have : x = 0 := of_decide_eq_true hx
      exact A.rd 1 1 ⟨rfl, by omega, fun _ => this, by omega, rfl⟩
    | false =>
      refine go ?_
      refine A.r1 ?_
      have : x ≠ 0 := of_decide_eq_false hx
      simpa [this] using HR.out
  · have h1 := h1 (by omega)
    refine go ?_
    cases hx : decide (y = 0) with
    | true =>
      refine go ?_
      have : y = 0 := of_decide_eq_true hx
      exact A.rd 0 2 ⟨rfl, by omega, fun _ => h1, fun _ => this, rfl⟩
    | false =>
      refine go ?_
      refine A.r1 ?_
      simpa [h1] using HR.out
  · have h1 := h1 (by omega)
    have h2 := h2 (by omega)
    refine go ?_
    refine A.r1 ?_
    simpa [h1, h2] using HR.out
end Go.Proofs.Ytkolnecahlkndaa
