/-
  Walking by steps: of a frame only some slots are known (a list), the world is a variable, what is owned stands in 'Sat'. One lemma an operation.
-/
import Derived.Test.YtgciifalclgeeaaGreatDoorM00
import Derived.Deep.LoopGhost
import Derived.Defers
import Derived.MapKept
import Derived.Maps.RangeRun
import Derived.OrdersHeld
import Derived.Deep.MidRow
namespace Go.Proofs.YtgciifalclgeeaaGreatDoor
open Go.RowKit
set_option linter.unusedVariables false
set_option linter.unusedSimpArgs false
/-- The value of a slot, as far as it is known. -/
def lk : List (Nat × Value) → Nat → Option Value
  | [], _ => none
  | (k, v) :: r, t => match Nat.beq k t with
    | true => some v
    | false => lk r t
/-- How many slots a frame has, and what is deferred in it. -/
structure Fm where
  slots : Nat
  ds : List Deferred
/-- A frame of which these slots are known. -/
structure Kn (n : Fm) (ρ : List (Nat × Value)) (a : Act) : Prop where
  defers : a.defers = n.ds
  size : a.tmps.size = n.slots
  known : ∀ t v, lk ρ t = some v → t < n.slots → a.tmps[t]? = some v
/-- An operand's value, as far as it is known. -/
def evo (n : Fm) (ρ : List (Nat × Value)) : Operand → Option Value
  | .tmp t => match Nat.blt t n.slots with
    | true => lk ρ t
    | false => none
  | .const v => some v
  | .global g => some (.pointer (some ⟨g, 0, none⟩))
  | .func f => some (.func (.func f) #[] #[])
theorem Kn.eval {n : Fm} {ρ : List (Nat × Value)} {a : Act} (h : Kn n ρ a) {x : Operand} {v : Value} (hx : evo n ρ x = some v) : a.eval x = v := by
  cases x with
  | tmp t =>
    simp only [evo] at hx
    split at hx
    · rename_i ht
      have ht' : t < n.slots := by simpa [Nat.blt_eq] using ht
      have := h.known t v hx ht'
      simp [Act.eval, Array.getD_eq_getD_getElem?, this]
    · cases hx
  | const c => simp [evo] at hx; simp [Act.eval, hx]
  | global g => simp [evo] at hx; simp [Act.eval, hx]
  | func f => simp [evo] at hx; simp [Act.eval, hx]
/-- A slot's value behind an operation. -/
@[reducible] def pushv (d : Option Tmp) (v : Value) (ρ : List (Nat × Value)) : List (Nat × Value) :=
  match d with
  | some k => (k, v) :: ρ
  | none => ρ
theorem Kn.put {n : Fm} {ρ : List (Nat × Value)} {a : Act} (h : Kn n ρ a) (d : Option Tmp) (v : Value) : Kn n (pushv d v ρ) (a.put d v) := by
  cases d with
  | none => exact h
  | some k =>
    refine ⟨h.defers, by simp [Act.put, h.size], fun t u hl ht => ?_⟩
    simp only [lk] at hl
    simp only [Act.put]
    cases hb : Nat.beq k t with
    | true =>
      have : k = t := Nat.eq_of_beq_eq_true hb
      subst this
      rw [hb] at hl
      simp only [Option.some.injEq] at hl
      subst hl
      rw [Array.getElem?_setIfInBounds_self_of_lt (by rw [h.size]; exact ht)]
    | false =>
      rw [hb] at hl
      have hne : k ≠ t := fun e => by subst e; simp at hb
      rw [Array.getElem?_setIfInBounds_ne hne]
      exact h.known t u hl ht
/-- All that the second list knows the first one knows. -/
def Weak : List (Nat × Value) → List (Nat × Value) → Prop
  | _, [] => True
  | ρ, (t, v) :: r => lk ρ t = some v ∧ Weak ρ r
theorem Weak.lk {ρ ρ' : List (Nat × Value)} (h : Weak ρ ρ') {t : Nat} {v : Value} (hl : lk ρ' t = some v) : Go.Proofs.YtgciifalclgeeaaGreatDoor.lk ρ t = some v := by
  induction ρ' with
  | nil => cases hl
  | cons p r ih =>
    obtain ⟨k, u⟩ := p
    simp only [Go.Proofs.YtgciifalclgeeaaGreatDoor.lk] at hl
    cases hb : Nat.beq k t with
    | true =>
      have : k = t := Nat.eq_of_beq_eq_true hb
      subst this
      rw [hb] at hl
      simp only [Option.some.injEq] at hl
      subst hl
      exact h.1
    | false =>
      rw [hb] at hl
      exact ih h.2 hl
theorem Kn.weak {n : Fm} {ρ ρ' : List (Nat × Value)} {a : Act} (h : Kn n ρ a) (hw : Weak ρ ρ') : Kn n ρ' a := ⟨h.defers, h.size, fun t v hl ht => h.known t v (hw.lk hl) ht⟩
/-- Code, from a frame of which ρ is known. -/
def C (P : Program) (n : Fm) (c : Code) (ρ : List (Nat × Value)) (w : World) (Q : Exit → Act → World → Prop) : Prop := ∀ a, Kn n ρ a → c.wp P Q a w
/-- The operations that are left of a region. -/
def E (P : Program) (n : Fm) (ops : Array Oper) (l : List Oper) (ρ : List (Nat × Value)) (w : World) (Q : Exit → Act → World → Prop) : Prop := ∀ a, Kn n ρ a → wpList P ops Q l a w
/-- The code has been left so. -/
def A (n : Fm) (e : Exit) (ρ : List (Nat × Value)) (w : World) (Q : Exit → Act → World → Prop) : Prop := ∀ a, Kn n ρ a → Q e a w
/-- One operation: N of what is known behind it, and of the world there. -/
def St (P : Program) (n : Fm) (ops : Array Oper) (o : Oper) (ρ : List (Nat × Value)) (w : World) (N : List (Nat × Value) → World → Prop) (Q : Exit → Act → World → Prop) : Prop :=
  ∀ a, Kn n ρ a → ∀ K : Act → World → Prop, (∀ ρ' w' a', N ρ' w' → Kn n ρ' a' → K a' w') → if Region.wanted o (yielded ops a.tmps) = true then Oper.wp P o a w K Q else K (a.put o.dst undef) w
/-- An operation that yields the same in every world, and turns nothing. -/
def Pv (P : Program) (n : Fm) (ρ : List (Nat × Value)) (o : Op) (ty : TypeId) (v : Value) : Prop :=
  ∀ a, Kn n ρ a → ∀ (w : World) (d : Option Tmp) (ps : String) (af : Array Edge) (g : Option (Nat × Bool)), (execOp a.eval ⟨d, o, ty, ps, af, g⟩).run P w = .ok (.value v) w
/-- The same, under its guard. -/
def Pg (P : Program) (n : Fm) (ops : Array Oper) (ρ : List (Nat × Value)) (o : Oper) (v : Value) : Prop := ∀ a, Kn n ρ a → Yields P ops o v a
/-- A region whose order is drawn: some operations are done. -/
def EA (P : Program) (n : Fm) (ops : Array Oper) (fuel : Nat) (listed : Array Bool) (ρ : List (Nat × Value)) (w : World) (Q : Exit → Act → World → Prop) : Prop := ∀ a, Kn n ρ a → wpAny P .any ops Q fuel listed a w
/-- What is wanted of a call, to go on behind it. -/
def Ret (n : Fm) (d : Option Tmp) (ρ : List (Nat × Value)) (N : List (Nat × Value) → World → Prop) (Q : Exit → Act → World → Prop) : Ending → World → Prop
  | .returned v, w => N (pushv d v ρ) w
  | .panicked chain, w => A n (.panic chain) ρ w Q
  | .outgrown, _ => LetsOut Q
/-- A loop's round is over: the invariant again, with a smaller number. -/
def Round {α : Type} (n : Fm) (f : α → List (Nat × Value)) (I : Nat → α → World → Prop) (g : Nat) (a : Act) (w : World) : Prop := ∃ g' x, g' < g ∧ I g' x w ∧ Kn n (f x) a
section control
variable {P : Program} {n : Fm} {ρ ρ' : List (Nat × Value)} {w : World} {Q : Exit → Act → World → Prop} {c d : Code}
theorem C.region_seq {id : Nat} {l : List Oper} (h : E P n l.toArray l ρ w (Exit.then (fun a w => c.wp P Q a w) Q)) : C P n (.seq (.region id l.toArray false) c) ρ w Q := fun a ha => wp_seq (wp_region_lit (h a ha))
theorem C.region {id : Nat} {l : List Oper} (h : E P n l.toArray l ρ w Q) : C P n (.region id l.toArray false) ρ w Q := fun a ha => wp_region_lit (h a ha)
theorem C.seq (h : C P n c ρ w (Exit.then (fun a w => d.wp P Q a w) Q)) : C P n (.seq c d) ρ w Q := fun a ha => wp_seq (h a ha)
theorem C.cond_true {x : Operand} (hx : evo n ρ x = some (.bool true)) (h : C P n c ρ w Q) : C P n (.cond x c d) ρ w Q := fun a ha => wp_cond_true (ha.eval hx) (h a ha)
theorem C.cond_false {x : Operand} (hx : evo n ρ x = some (.bool false)) (h : C P n d ρ w Q) : C P n (.cond x c d) ρ w Q := fun a ha => wp_cond_false (ha.eval hx) (h a ha)
theorem C.cond {x : Operand} {b : Bool} (hx : evo n ρ x = some (.bool b)) (ht : b = true → C P n c ρ w Q) (hf : b = false → C P n d ρ w Q) : C P n (.cond x c d) ρ w Q :=
  fun a ha => wp_cond_split (ha.eval hx) (fun h => ht h a ha) (fun h => hf h a ha)
theorem C.cond_dec {x : Operand} {p : Prop} [Decidable p] (hx : evo n ρ x = some (.bool (decide p))) (ht : p → C P n c ρ w Q) (hf : ¬ p → C P n d ρ w Q) : C P n (.cond x c d) ρ w Q :=
  C.cond hx (fun h => ht (of_decide_eq_true h)) (fun h => hf (of_decide_eq_false h))
/-- What is wanted of code that is walked by itself: ρ' of its frame, and M. -/
def Cut {α : Type} (n : Fm) (f : α → List (Nat × Value)) (M : α → World → Prop) (a : Act) (w : World) : Prop := ∃ x, Kn n (f x) a ∧ M x w
/-- Walk c by itself, and go on once. -/
theorem C.cut {α : Type} (f : α → List (Nat × Value)) (M : α → World → Prop) (h : C P n c ρ w (Exit.then (Cut n f M) Q)) (h2 : ∀ x w, M x w → C P n d (f x) w Q) : C P n c ρ w (Exit.then (fun a w => d.wp P Q a w) Q) := fun a ha => by
  refine wp_mono (h a ha) ?_
  rintro e a' w' hq
  cases e with
  | normal =>
    obtain ⟨x, hk, hM⟩ := hq
    exact h2 x w' hM a' hk
  | _ => exact hq
theorem C.block {id : Nat} (h : C P n c ρ w (Exit.inBlock id Q)) : C P n (.block id c) ρ w Q := fun a ha => wp_block (h a ha)
theorem C.skip (h : A n .normal ρ w Q) : C P n .skip ρ w Q := fun a ha => wp_skip (h a ha)
theorem C.ret (h : A n .ret ρ w Q) : C P n .ret ρ w Q := fun a ha => wp_ret (h a ha)
theorem C.exit {id : Nat} (h : A n (.exit id) ρ w Q) : C P n (.exit id) ρ w Q := fun a ha => wp_exit (h a ha)
theorem A.next (h : C P n c ρ w Q) : A n .normal ρ w (Exit.then (fun a w => c.wp P Q a w) Q) := h
theorem A.ret_then {K : Act → World → Prop} (h : A n .ret ρ w Q) : A n .ret ρ w (Exit.then K Q) := h
theorem A.exit_then {K : Act → World → Prop} {id : Nat} (h : A n (.exit id) ρ w Q) : A n (.exit id) ρ w (Exit.then K Q) := h
theorem A.panic_then {K : Act → World → Prop} {ch : List PanicEntry} (h : A n (.panic ch) ρ w Q) : A n (.panic ch) ρ w (Exit.then K Q) := h
theorem A.block_end {id : Nat} (h : A n .normal ρ w Q) : A n .normal ρ w (Exit.inBlock id Q) := h
theorem A.block_ret {id : Nat} (h : A n .ret ρ w Q) : A n .ret ρ w (Exit.inBlock id Q) := h
theorem A.block_panic {id : Nat} {ch : List PanicEntry} (h : A n (.panic ch) ρ w Q) : A n (.panic ch) ρ w (Exit.inBlock id Q) := h
theorem A.block_exit {id : Nat} (h : A n .normal ρ w Q) : A n (.exit id) ρ w (Exit.inBlock id Q) := fun a ha => by
  simp only [Exit.inBlock, if_true]; exact h a ha
theorem A.block_other {id id' : Nat} (hne : Nat.beq id' id = false) (h : A n (.exit id') ρ w Q) : A n (.exit id') ρ w (Exit.inBlock id Q) := fun a ha => by
  have : id' ≠ id := fun e => by subst e; simp at hne
  simp only [Exit.inBlock, this, if_false]; exact h a ha
theorem C.loop {α : Type} (f : α → List (Nat × Value)) (I : Nat → α → World → Prop) (g : Nat) (x : α) (hw : Weak ρ (f x)) (h0 : I g x w)
    (round : ∀ g x w, I g x w → C P n c (f x) w (Exit.then (Round n f I g) Q)) : C P n (.loop c) ρ w Q := fun a ha => by
  refine wp_loop_ghost (fun g a w => ∃ x, I g x w ∧ Kn n (f x) a) g ⟨x, h0, ha.weak hw⟩ ?_
  rintro g a w ⟨x, hI, hk⟩
  refine wp_mono (round g x w hI a hk) ?_
  rintro e a' w' hq
  cases e with
  | normal =>
    obtain ⟨g', x', hlt, hI', hk'⟩ := hq
    exact ⟨g', hlt, x', hI', hk'⟩
  | _ => exact hq
theorem A.round {α : Type} {f : α → List (Nat × Value)} {I : Nat → α → World → Prop} {g : Nat} (g' : Nat) (x : α) (hg : g' < g) (hw : Weak ρ (f x)) (hI : I g' x w) : A n .normal ρ w (Exit.then (Round n f I g) Q) :=
  fun _ ha => ⟨g', x, hg, hI, ha.weak hw⟩
/-- The parameters' slots. -/
@[reducible] def par : Nat → List Value → List (Nat × Value)
  | _, [] => []
  | k, v :: r => (k, v) :: par (k + 1) r
theorem lk_par : ∀ (l : List Value) (k t : Nat) (v : Value), lk (par k l) t = some v → k ≤ t ∧ l[t - k]? = some v
  | [], _, _, _, h => by cases h
  | u :: r, k, t, v, h => by
    simp only [lk] at h
    cases hb : Nat.beq k t with
    | true =>
      have : k = t := Nat.eq_of_beq_eq_true hb
      subst this
      rw [hb] at h
      simp only [Option.some.injEq] at h
      subst h
      exact ⟨Nat.le_refl _, by simp⟩
    | false =>
      rw [hb] at h
      have hne : k ≠ t := fun e => by subst e; simp at hb
      obtain ⟨h1, h2⟩ := lk_par r (k + 1) t v h
      refine ⟨by omega, ?_⟩
      rw [show t - k = (t - (k + 1)) + 1 by omega]
      simpa using h2
/-- Into a function's body. -/
theorem C.calls {m : Nat} {f : FuncId} {fn : Func} {args : List Value} {R : Ending → World → Prop} (hf : P.funcs[f]? = some fn) (hb : fn.body = some c) (hn : fn.ntmps = m) (hle : Nat.ble args.length m = true)
    (h : C P ⟨m, []⟩ c (par 0 args) w (bodyPost P fn R)) : Calls P f args.toArray w R := by
  have hle' : args.length ≤ m := Nat.le_of_ble_eq_true hle
  refine calls_of_wp hf hb (h _ ⟨rfl, by simp [hn]; omega, fun t v hl ht => ?_⟩)
  obtain ⟨_, h2⟩ := lk_par args 0 t v hl
  have hlt : t < args.length := (List.getElem?_eq_some_iff.1 h2).1
  rw [Array.getElem?_append_left (by simpa using hlt)]
  simpa using h2
/-- Out of it: no result, one, two, three. -/
theorem A.ret0 {m : Nat} {fn : Func} {R : Ending → World → Prop} (hr : fn.results = #[]) (h : R (.returned (.tuple #[])) w) : A ⟨m, []⟩ .ret ρ w (bodyPost P fn R) := fun _ ha => ⟨ha.defers, _, results_none hr _ _ _, h⟩
theorem A.end0 {m : Nat} {fn : Func} {R : Ending → World → Prop} (hr : fn.results = #[]) (h : R (.returned (.tuple #[])) w) : A ⟨m, []⟩ .normal ρ w (bodyPost P fn R) := fun _ ha => ⟨ha.defers, _, results_none hr _ _ _, h⟩
theorem A.ret1 {m : Nat} {fn : Func} {R : Ending → World → Prop} {t : Tmp} {v : Value} (hr : fn.results = #[.tmp t]) (hv : evo ⟨m, []⟩ ρ (.tmp t) = some v) (h : R (.returned v) w) : A ⟨m, []⟩ .ret ρ w (bodyPost P fn R) := fun a ha => by
  have e : a.tmps.getD t undef = v := ha.eval hv
  exact ⟨ha.defers, _, results_tmp hr _ _ _, by rw [e]; exact h⟩
theorem A.ret2 {m : Nat} {fn : Func} {R : Ending → World → Prop} {t u : Tmp} {v x : Value} (hr : fn.results = #[.tmp t, .tmp u]) (hv : evo ⟨m, []⟩ ρ (.tmp t) = some v) (hx : evo ⟨m, []⟩ ρ (.tmp u) = some x) (h : R (.returned (.tuple #[v, x])) w) : A ⟨m, []⟩ .ret ρ w (bodyPost P fn R) := fun a ha => by
  have e : a.tmps.getD t undef = v := ha.eval hv
  have e2 : a.tmps.getD u undef = x := ha.eval hx
  exact ⟨ha.defers, _, results_tmp2 hr _ _ _, by rw [e, e2]; exact h⟩
theorem A.ret3 {m : Nat} {fn : Func} {R : Ending → World → Prop} {t u s : Tmp} {v x y : Value} (hr : fn.results = #[.tmp t, .tmp u, .tmp s]) (hv : evo ⟨m, []⟩ ρ (.tmp t) = some v) (hx : evo ⟨m, []⟩ ρ (.tmp u) = some x) (hy : evo ⟨m, []⟩ ρ (.tmp s) = some y) (h : R (.returned (.tuple #[v, x, y])) w) : A ⟨m, []⟩ .ret ρ w (bodyPost P fn R) := fun a ha => by
  have e : a.tmps.getD t undef = v := ha.eval hv
  have e2 : a.tmps.getD u undef = x := ha.eval hx
  have e3 : a.tmps.getD s undef = y := ha.eval hy
  exact ⟨ha.defers, _, results_tmp3 hr _ _ _, by rw [e, e2, e3]; exact h⟩
/-- A function that defers is left: the deferred calls are made, then the results are read. -/
def L (P : Program) (n : Fm) (fn : Func) (ρ : List (Nat × Value)) (R : Ending → World → Prop) (u : FrameMode) (w : World) : Prop := ∀ a, Kn n ρ a → Leaves P fn a.tmps R n.ds u w
theorem A.leave {fn : Func} {R : Ending → World → Prop} (h : L P n fn ρ R .returning w) : A n .ret ρ w (bodyPostD P fn R) := fun a ha => by
  have := h a ha
  rw [← ha.defers] at this
  exact this
theorem A.leave_end {fn : Func} {R : Ending → World → Prop} (h : L P n fn ρ R .returning w) : A n .normal ρ w (bodyPostD P fn R) := fun a ha => by
  have := h a ha
  rw [← ha.defers] at this
  exact this
theorem A.leave_panic {fn : Func} {R : Ending → World → Prop} {ch : List PanicEntry} (h : L P n fn ρ R (.panicking ch) w) : A n (.panic ch) ρ w (bodyPostD P fn R) := fun a ha => by
  have := h a ha
  rw [← ha.defers] at this
  exact this
theorem Kn.ds {m : Nat} {ds ds' : List Deferred} {a : Act} (h : Kn ⟨m, ds⟩ ρ a) : Kn ⟨m, ds'⟩ ρ { a with defers := ds' } := ⟨rfl, h.size, h.known⟩
/-- What is wanted of a deferred call. -/
def RetD (P : Program) (n : Fm) (fn : Func) (ρ : List (Nat × Value)) (R : Ending → World → Prop) : Ending → FrameMode → World → Prop
  | .returned _, u, w => L P n fn ρ R (settle u) w
  | .panicked chain, u, w => L P n fn ρ R (raised u chain) w
  | .outgrown, _, w => R .outgrown w
theorem L.call {m : Nat} {fn : Func} {R : Ending → World → Prop} {u : FrameMode} {fv : Fn} {cap dargs : Array Value} {ds : List Deferred} {f : FuncId} {args : Array Value} (hu : u ≠ .run) (hi : (invoke (.fn fv cap) dargs).run P w = .ok (.enter f args) w)
    (h : CallsD P f args u w (RetD P ⟨m, ds⟩ fn ρ R)) : L P ⟨m, ⟨.fn fv cap, dargs⟩ :: ds⟩ fn ρ R u w := fun a ha => by
  refine leaves_cons hu hi (h.mono fun e u' w' hq => ?_)
  cases e with
  | returned v => exact hq { a with defers := ds } ha.ds
  | panicked ch => exact hq { a with defers := ds } ha.ds
  | outgrown => exact hq
theorem L.done {m : Nat} {fn : Func} {R : Ending → World → Prop} (h : ∀ a, Kn ⟨m, []⟩ ρ a → ∃ v, (results fn a.tmps).run P w = .ok v w ∧ R (.returned v) w) : L P ⟨m, []⟩ fn ρ R .returning w := fun a ha => h a ha
end control
/-- Several operands' values. -/
def evs (n : Fm) (ρ : List (Nat × Value)) : List Operand → Option (List Value)
  | [] => some []
  | x :: r => match evo n ρ x with
    | some v => match evs n ρ r with
      | some vs => some (v :: vs)
      | none => none
    | none => none
theorem Kn.evals {n : Fm} {ρ : List (Nat × Value)} {a : Act} (h : Kn n ρ a) : ∀ {xs : List Operand} {vs : List Value}, evs n ρ xs = some vs → xs.map a.eval = vs
  | [], vs, e => by simp only [evs, Option.some.injEq] at e; subst e; rfl
  | x :: r, vs, e => by
    simp only [evs] at e
    split at e
    · rename_i v hv
      split at e
      · rename_i us hus
        simp only [Option.some.injEq] at e
        subst e
        rw [List.map_cons, h.eval hv, h.evals hus]
      · cases e
    · cases e
/-- Cells written from a place on. -/
def spl : List Value → Nat → List Value → List Value
  | xs, _, [] => xs
  | xs, j, v :: r => spl (xs.set j v) (j + 1) r
theorem Sat.sets {W : World} {g : Hl} {H : List HP} {b : Nat} {e : TypeId} : ∀ (vs : List Value) (w : World) (xs : List Value) (j : Nat), Sat W w g (blk b xs e :: H) → Sat W (w.setCells b j vs) g (blk b (spl xs j vs) e :: H)
  | [], _, _, _, hs => hs
  | v :: r, w, xs, j, hs => Sat.sets r (w.setCell ⟨b, j, none⟩ v) (xs.set j v) (j + 1) (hs.set j v)
/-- Several numbered operands' values. -/
def evp (n : Fm) (ρ : List (Nat × Value)) : List (Nat × Operand) → Option (List (Nat × Value))
  | [] => some []
  | (i, x) :: r => match evo n ρ x with
    | some v => match evp n ρ r with
      | some vs => some ((i, v) :: vs)
      | none => none
    | none => none
theorem Kn.evalp {n : Fm} {ρ : List (Nat × Value)} {a : Act} (h : Kn n ρ a) : ∀ {xs : List (Nat × Operand)} {vs : List (Nat × Value)}, evp n ρ xs = some vs → (xs.map fun p => (p.1, a.eval p.2)) = vs
  | [], vs, e => by simp only [evp, Option.some.injEq] at e; subst e; rfl
  | (i, x) :: r, vs, e => by
    simp only [evp] at e
    split at e
    · rename_i v hv
      split at e
      · rename_i us hus
        simp only [Option.some.injEq] at e
        subst e
        rw [List.map_cons, h.eval hv, h.evalp hus]
      · cases e
    · cases e
/-- An operand that may be missing. -/
def evm (n : Fm) (ρ : List (Nat × Value)) : Option Operand → Option (Option Value)
  | none => some none
  | some x => match evo n ρ x with
    | some v => some (some v)
    | none => none
theorem Kn.evalm {n : Fm} {ρ : List (Nat × Value)} {a : Act} (h : Kn n ρ a) {x : Option Operand} {v : Option Value} (e : evm n ρ x = some v) : x.map a.eval = v := by
  cases x with
  | none => simp only [evm, Option.some.injEq] at e; subst e; rfl
  | some x =>
    simp only [evm] at e
    split at e
    · rename_i u hu
      simp only [Option.some.injEq] at e
      subst e
      simp [h.eval hu]
    · cases e
section steps
variable {P : Program} {n : Fm} {ρ : List (Nat × Value)} {w w' : World} {Q : Exit → Act → World → Prop} {ops : Array Oper} {rest : List Oper} {d : Option Tmp} {ty : TypeId} {ps : String} {af : Array Edge} {v u : Value} {x y : Operand} {N : List (Nat × Value) → World → Prop} {o : Op} {fuel : Nat} {listed : Array Bool}
theorem E.nil (h : A n .normal ρ w Q) : E P n ops [] ρ w Q := h
/-- A call is deferred. -/
theorem E.defer {m : Nat} {ds : List Deferred} {D : Deferred} {c : Call} (hr : ∀ a, Kn ⟨m, ds⟩ ρ a → (resolve a.eval c ty).run P w = .ok D w) (h : E P ⟨m, D :: ds⟩ ops rest ρ w Q) : E P ⟨m, ds⟩ ops (⟨none, .defer c, ty, ps, af, none⟩ :: rest) ρ w Q := fun a ha => by
  refine wpList_plain rfl fun K hK => ?_
  unfold Oper.wp
  have e : (execOp a.eval ⟨none, .defer c, ty, ps, af, none⟩).run P w = .ok (.defer D) w := by simp [execOp, hr a ha]
  rw [e]
  exact hK _ _ (h _ ⟨by simp [Act.put, ha.defers], by simpa [Act.put] using ha.size, by simpa [Act.put] using ha.known⟩)
theorem E.cons {o : Oper} (h : St P n ops o ρ w (fun ρ' w' => E P n ops rest ρ' w' Q) Q) : E P n ops (o :: rest) ρ w Q := fun a ha => by
  have h1 := h a ha _ fun ρ' w' a' hN hk => hN a' hk
  unfold wpList
  split
  · rename_i hw
    rw [if_pos hw] at h1
    exact .inl h1
  · rename_i hw
    rw [if_neg hw] at h1
    exact h1
theorem wanted_none {yl : Nat → Option Bool} : Region.wanted ⟨d, o, ty, ps, af, none⟩ yl = true := rfl
/-- An operation under a guard: it is made, or passed by. -/
theorem yielded_of {j : Nat} {c : Bool} {t : Tmp} {a : Act} (ha : Kn n ρ a) (hj : (ops[j]?).bind (·.dst) = some t) (hv : evo n ρ (.tmp t) = some (.bool c)) : yielded ops a.tmps j = some c := by
  have h2 := ha.eval hv
  have h3 : a.tmps[t]?.getD undef = .bool c := by simpa [Act.eval] using h2
  simp only [yielded, hj, Option.bind_some]
  cases e : a.tmps[t]? with
  | none => rw [e] at h3; cases h3
  | some v => rw [e] at h3; simp only [Option.getD_some] at h3; subst h3; rfl
theorem yielded_un {j : Nat} {vs : Array Value} {t : Tmp} {a : Act} (ha : Kn n ρ a) (hj : (ops[j]?).bind (·.dst) = some t) (hv : evo n ρ (.tmp t) = some (.tuple vs)) : yielded ops a.tmps j = none := by
  have h2 := ha.eval hv
  have h3 : a.tmps[t]?.getD undef = .tuple vs := by simpa [Act.eval] using h2
  simp only [yielded, hj, Option.bind_some]
  cases e : a.tmps[t]? with
  | none => rfl
  | some v => rw [e] at h3; simp only [Option.getD_some] at h3; subst h3; rfl
theorem St.guard {j : Nat} {b : Bool} {t : Tmp} (hj : (ops[j]?).bind (·.dst) = some t) (hv : evo n ρ (.tmp t) = some (.bool b)) (h : St P n ops ⟨d, o, ty, ps, af, none⟩ ρ w N Q) : St P n ops ⟨d, o, ty, ps, af, some (j, b)⟩ ρ w N Q := fun a ha K hK => by
  have h1 := h a ha K hK
  rw [if_pos wanted_none] at h1
  rw [if_pos (by simp [Region.wanted, yielded_of ha hj hv])]
  exact h1
theorem St.passed {j : Nat} {b c : Bool} {t : Tmp} (hj : (ops[j]?).bind (·.dst) = some t) (hv : evo n ρ (.tmp t) = some (.bool c)) (hne : (!(c == b)) = true) (h : N (pushv d undef ρ) w) : St P n ops ⟨d, o, ty, ps, af, some (j, b)⟩ ρ w N Q := fun a ha K hK => by
  rw [if_neg (by simp [Region.wanted, yielded_of ha hj hv]; simpa using hne)]
  exact hK _ _ _ h (ha.put _ _)
theorem St.mk {o : Oper} (h : ∀ a, Kn n ρ a → ∀ K : Act → World → Prop, (∀ ρ' w' a', N ρ' w' → Kn n ρ' a' → K a' w') → if Region.wanted o (yielded ops a.tmps) = true then Oper.wp P o a w K Q else K (a.put o.dst undef) w) : St P n ops o ρ w N Q := h
theorem St.use {o : Oper} (h : St P n ops o ρ w N Q) {a : Act} (ha : Kn n ρ a) (K : Act → World → Prop) (hK : ∀ ρ' w' a', N ρ' w' → Kn n ρ' a' → K a' w') : if Region.wanted o (yielded ops a.tmps) = true then Oper.wp P o a w K Q else K (a.put o.dst undef) w := h a ha K hK
theorem Pv.mk (h : ∀ a, Kn n ρ a → ∀ (w : World) (d : Option Tmp) (ps : String) (af : Array Edge) (g : Option (Nat × Bool)), (execOp a.eval ⟨d, o, ty, ps, af, g⟩).run P w = .ok (.value v) w) : Pv P n ρ o ty v := h
theorem A.mk {e : Exit} (h : ∀ a, Kn n ρ a → Q e a w) : A n e ρ w Q := h
theorem A.use {e : Exit} (h : A n e ρ w Q) {a : Act} (ha : Kn n ρ a) : Q e a w := h a ha
theorem C.mk {c : Code} (h : ∀ a, Kn n ρ a → c.wp P Q a w) : C P n c ρ w Q := h
theorem C.use {c : Code} (h : C P n c ρ w Q) {a : Act} (ha : Kn n ρ a) : c.wp P Q a w := h a ha
theorem St.val (hr : ∀ a, Kn n ρ a → (execOp a.eval ⟨d, o, ty, ps, af, none⟩).run P w = .ok (.value v) w') (h : N (pushv d v ρ) w') : St P n ops ⟨d, o, ty, ps, af, none⟩ ρ w N Q := fun a ha K hK => by
  rw [if_pos wanted_none]
  unfold Oper.wp
  rw [hr a ha]
  exact hK _ _ _ h (ha.put _ _)
theorem St.unit (hr : ∀ a, Kn n ρ a → (execOp a.eval ⟨none, o, ty, ps, af, none⟩).run P w = .ok .skip w') (h : N ρ w') : St P n ops ⟨none, o, ty, ps, af, none⟩ ρ w N Q := fun a ha K hK => by
  rw [if_pos wanted_none]
  unfold Oper.wp
  rw [hr a ha]
  exact hK _ _ _ h (ha.put none undef)
theorem St.pv (h0 : Pv P n ρ o ty v) (h : N (pushv d v ρ) w) : St P n ops ⟨d, o, ty, ps, af, none⟩ ρ w N Q := St.val (fun a ha => h0 a ha w d ps af none) h
theorem E.pv (h0 : Pv P n ρ o ty v) (h : E P n ops rest (pushv d v ρ) w Q) : E P n ops (⟨d, o, ty, ps, af, none⟩ :: rest) ρ w Q := E.cons (St.pv h0 h)
theorem E.passed {j : Nat} {b c : Bool} {t : Tmp} (hj : (ops[j]?).bind (·.dst) = some t) (hv : evo n ρ (.tmp t) = some (.bool c)) (hne : (!(c == b)) = true) (h : E P n ops rest (pushv d undef ρ) w Q) : E P n ops (⟨d, o, ty, ps, af, some (j, b)⟩ :: rest) ρ w Q := E.cons (St.passed hj hv hne h)
theorem E.passedU {j : Nat} {b : Bool} {vs : Array Value} {t : Tmp} (hj : (ops[j]?).bind (·.dst) = some t) (hv : evo n ρ (.tmp t) = some (.tuple vs)) (h : E P n ops rest (pushv d undef ρ) w Q) : E P n ops (⟨d, o, ty, ps, af, some (j, b)⟩ :: rest) ρ w Q := E.cons fun a ha K hK => by
  rw [if_neg (by simp [Region.wanted, yielded_un ha hj hv])]
  exact hK _ _ _ h (ha.put _ _)
theorem E.guard {j : Nat} {b : Bool} {t : Tmp} (hj : (ops[j]?).bind (·.dst) = some t) (hv : evo n ρ (.tmp t) = some (.bool b)) (h : E P n ops (⟨d, o, ty, ps, af, none⟩ :: rest) ρ w Q) : E P n ops (⟨d, o, ty, ps, af, some (j, b)⟩ :: rest) ρ w Q := fun a ha => by
  have h1 := h a ha
  unfold wpList at h1 ⊢
  rw [if_pos wanted_none] at h1
  rw [if_pos (by simp [Region.wanted, yielded_of ha hj hv])]
  exact h1
theorem Pg.none (h : Pv P n ρ o ty v) : Pg P n ops ρ ⟨d, o, ty, ps, af, none⟩ v := fun a ha => .inl ⟨rfl, fun w => h a ha w _ _ _ _⟩
/-- A region whose order is drawn. -/
theorem C.any {W : World} {g : Hl} {H : List HP} {id : Nat} {l : List Oper} (hs : Sat W w g H) (hm : P.follows .mixedOrders = true) (h : ∀ w', Sat W w' g H → EA P n l.toArray l.length (Array.replicate l.length false) ρ w' Q) : C P n (.region id l.toArray true) ρ w Q := fun a ha =>
  wp_region_any hm (h _ hs.drew a ha)
def nth : List Oper → Nat → Option Oper
  | [], _ => none
  | o :: _, 0 => some o
  | _ :: r, i + 1 => nth r i
theorem nth_get : ∀ {l : List Oper} {i : Nat} {o : Oper}, nth l i = some o → l.toArray[i]? = some o
  | [], _, _, h => by cases h
  | _ :: _, 0, _, h => by simpa [nth] using h
  | _ :: r, i + 1, _, h => by simpa using nth_get (l := r) h
theorem EA.take (i : Nat) {l : List Oper} {oi : Oper} (hr : (Region.ready .any l.toArray listed).contains i = true) (hi : nth l i = some oi) (hsel : Region.noSelect l.toArray = true) (hf : Region.free .any l.toArray listed i = true)
    (hQ : ∀ v c a w, Q (.panic c) (a.put oi.dst v) w → Q (.panic c) a w) (hy : Pg P n l.toArray ρ oi v) (h : EA P n l.toArray fuel (listed.setIfInBounds i true) (pushv oi.dst v ρ) w Q) : EA P n l.toArray (fuel + 1) listed ρ w Q := fun a ha =>
  wpAny_take (nth_get hi) hsel hf hr (hQ v) (hy a ha) (h _ (ha.put _ _))
theorem EA.done (hr : Region.ready .any ops listed = []) (h : A n .normal ρ w Q) : EA P n ops fuel listed ρ w Q := fun a ha => wpAny_done hr (h a ha) _
theorem EA.ready {i : Nat} {oi : Oper} (hi : ops[i]? = some oi) (h : St P n ops oi ρ w (fun ρ' w' => EA P n ops fuel (listed.setIfInBounds i true) ρ' w' Q) Q) (a : Act) (ha : Kn n ρ a) {rs : List Nat} (hs : AllReady P .any ops Q fuel listed a w rs) : AllReady P .any ops Q fuel listed a w (i :: rs) :=
  AllReady.cons hi (fun K' hK' => h a ha K' fun ρ' w' a' hN hk => hK' a' w' (hN a' hk)) hs
theorem EA.one (i : Nat) {l : List Oper} {oi : Oper} (hr : Region.ready .any l.toArray listed = [i]) (hi : nth l i = some oi) (h : St P n l.toArray oi ρ w (fun ρ' w' => EA P n l.toArray fuel (listed.setIfInBounds i true) ρ' w' Q) Q) : EA P n l.toArray (fuel + 1) listed ρ w Q := fun a ha =>
  wpAny_ready hr (by simp) (EA.ready (nth_get hi) h a ha AllReady.nil)
/-! The operations that turn nothing. -/
theorem Pv.move (hx : evo n ρ x = some v) : Pv P n ρ (.move x) ty v := fun a ha w d ps af g => by simp [execOp, ha.eval hx]
theorem Pv.assign (hx : evo n ρ x = some v) : Pv P n ρ (.assign x) ty v := fun a ha w d ps af g => by simp [execOp, ha.eval hx]
theorem Pv.pick {c : Operand} {b : Bool} (hc : evo n ρ c = some (.bool b)) (hx : evo n ρ (if b then x else y) = some v) : Pv P n ρ (.pick c x y) ty v := fun a ha w d ps af g => by
  have := ha.eval hx; cases b <;> simp_all [execOp, ha.eval hc, asBool]
theorem Pv.nilCheck {p : Addr} (hx : evo n ρ x = some (.pointer (some p))) : Pv P n ρ (.nilCheck x) ty (.pointer (some p)) := fun a ha w d ps af g => by simp [execOp, ha.eval hx]
theorem Pv.fieldAddr {s : TypeId} {f : Nat} (hx : evo n ρ x = some u) (hr : ∀ w, (Instr.fieldAt s u f).run P w = .ok v w) : Pv P n ρ (.fieldAddr s x f) ty v := fun a ha w d ps af g => by simp [execOp, ha.eval hx, hr]
theorem Pv.field {s : TypeId} {f : Nat} (hx : evo n ρ x = some u) (hr : ∀ w, (Instr.field s u f).run P w = .ok v w) : Pv P n ρ (.field s x f) ty v := fun a ha w d ps af g => by simp [execOp, ha.eval hx, hr]
theorem Pv.indexAddr {s : TypeId} {z : Value} (hx : evo n ρ x = some u) (hy : evo n ρ y = some z) (hr : ∀ w, (Instr.indexAt s u z).run P w = .ok v w) : Pv P n ρ (.indexAddr s x y) ty v := fun a ha w d ps af g => by simp [execOp, ha.eval hx, ha.eval hy, hr]
theorem Pv.index {s : TypeId} {z : Value} (hx : evo n ρ x = some u) (hy : evo n ρ y = some z) (hr : ∀ w, (Instr.index s u z).run P w = .ok v w) : Pv P n ρ (.index s x y) ty v := fun a ha w d ps af g => by simp [execOp, ha.eval hx, ha.eval hy, hr]
def nthv : List Value → Nat → Option Value
  | [], _ => none
  | o :: _, 0 => some o
  | _ :: r, i + 1 => nthv r i
theorem nthv_get : ∀ {l : List Value} {i : Nat} {o : Value}, nthv l i = some o → l[i]? = some o
  | [], _, _, h => by cases h
  | _ :: _, 0, _, h => by simpa [nthv] using h
  | _ :: r, i + 1, _, h => by simpa using nthv_get (l := r) h
theorem Pv.extract {i : Nat} {vs : Array Value} (hx : evo n ρ x = some (.tuple vs)) (hi : nthv vs.toList i = some v) : Pv P n ρ (.extract x i) ty v := fun a ha w d ps af g => by
  have hi' : vs[i]? = some v := by simpa using nthv_get hi
  simp [execOp, ha.eval hx, Instr.extract, hi']
theorem Pv.convert {s t : TypeId} (hx : evo n ρ x = some u) (hr : ∀ w, (Go.convert s t u).run P w = .ok v w) : Pv P n ρ (.convert s t x) ty v := fun a ha w d ps af g => by simp [execOp, ha.eval hx, hr]
theorem Pv.conv {s t : TypeId} {k : IntKind} {m m' : Int} (hx : evo n ρ x = some u) (hr : ∀ w, (Go.convert s t u).run P w = .ok (.int k m') w) (he : m' = m) : Pv P n ρ (.convert s t x) ty (.int k m) := by
  subst he; exact Pv.convert hx hr
theorem Pv.unOp {p : UnOp} {s : TypeId} (hx : evo n ρ x = some u) (hr : ∀ w, (Op.unary p u).run P w = .ok v w) : Pv P n ρ (.unOp p s x) ty v := fun a ha w d ps af g => by simp [execOp, ha.eval hx, hr]
theorem Pv.binOp {p : BinOp} {s s' : TypeId} {z : Value} (hx : evo n ρ x = some u) (hy : evo n ρ y = some z) (hg : ∀ w, (eqGuard p s x y u z).run P w = .ok () w) (hr : ∀ w, (Go.binOp p s u z).run P w = .ok v w) : Pv P n ρ (.binOp p s x y s') ty v := fun a ha w d ps af g => by
  simp [execOp, ha.eval hx, ha.eval hy, hg, hr]
theorem Pv.slice {s : TypeId} {lo hi mx : Option Operand} {l h m : Option Value} (hx : evo n ρ x = some u) (hl : evm n ρ lo = some l) (hh : evm n ρ hi = some h) (hm : evm n ρ mx = some m) (hr : ∀ w, (Instr.sliceAt s u l h m).run P w = .ok v w) : Pv P n ρ (.slice s x lo hi mx) ty v := fun a ha w d ps af g => by
  simp [execOp, ha.eval hx, ha.evalm hl, ha.evalm hh, ha.evalm hm, hr]
theorem Pv.build {t : TypeId} {parts : Array (Nat × Operand)} {xs : List (Nat × Value)} (hx : evp n ρ parts.toList = some xs) (hr : ∀ w, (Instr.build t xs.toArray).run P w = .ok v w) : Pv P n ρ (.build t parts) ty v := fun a ha w d ps af g => by
  have e : (parts.map fun (i, x) => (i, a.eval x)) = xs.toArray := by
    rw [← ha.evalp hx]; apply Array.ext'; simp
  simp only [execOp, e]
  simp [hr]
theorem run_guard_int (p : BinOp) (s : TypeId) (k l : IntKind) (i j : Int) (w : World) : (eqGuard p s x y (.int k i) (.int l j)).run P w = .ok () w := by
  cases p <;> simp [eqGuard]
theorem Pv.cmp {p : BinOp} {s s' : TypeId} {k : IntKind} {i j : Int} {b : Bool} (hx : evo n ρ x = some (.int k i)) (hy : evo n ρ y = some (.int k j)) (hr : ∀ w, (Go.binOp p s (.int k i) (.int k j)).run P w = .ok (.bool b) w) : Pv P n ρ (.binOp p s x y s') ty (.bool b) :=
  Pv.binOp hx hy (run_guard_int _ _ _ _ _ _) hr
theorem Pv.lss {s s' : TypeId} {k : IntKind} {i j : Int} (hx : evo n ρ x = some (.int k i)) (hy : evo n ρ y = some (.int k j)) : Pv P n ρ (.binOp .lss s x y s') ty (.bool (decide (i < j))) := Pv.cmp hx hy fun w => by simp [Go.binOp, Op.intCmp]
theorem Pv.leq {s s' : TypeId} {k : IntKind} {i j : Int} (hx : evo n ρ x = some (.int k i)) (hy : evo n ρ y = some (.int k j)) : Pv P n ρ (.binOp .leq s x y s') ty (.bool (decide (i ≤ j))) := Pv.cmp hx hy fun w => by simp [Go.binOp, Op.intCmp]
theorem Pv.gtr {s s' : TypeId} {k : IntKind} {i j : Int} (hx : evo n ρ x = some (.int k i)) (hy : evo n ρ y = some (.int k j)) : Pv P n ρ (.binOp .gtr s x y s') ty (.bool (decide (j < i))) := Pv.cmp hx hy fun w => by simp [Go.binOp, Op.intCmp]
theorem Pv.geq {s s' : TypeId} {k : IntKind} {i j : Int} (hx : evo n ρ x = some (.int k i)) (hy : evo n ρ y = some (.int k j)) : Pv P n ρ (.binOp .geq s x y s') ty (.bool (decide (j ≤ i))) := Pv.cmp hx hy fun w => by simp [Go.binOp, Op.intCmp]
theorem Pv.eql {s s' : TypeId} {k : IntKind} {i j : Int} (hx : evo n ρ x = some (.int k i)) (hy : evo n ρ y = some (.int k j)) : Pv P n ρ (.binOp .eql s x y s') ty (.bool (decide (i = j))) := Pv.cmp hx hy fun w => by simp [Go.binOp, Op.intCmp, Bool.beq_eq_decide_eq]
theorem Pv.neq {s s' : TypeId} {k : IntKind} {i j : Int} (hx : evo n ρ x = some (.int k i)) (hy : evo n ρ y = some (.int k j)) : Pv P n ρ (.binOp .neq s x y s') ty (.bool (!decide (i = j))) := Pv.cmp hx hy fun w => by simp [Go.binOp, Op.intCmp, bne, Bool.beq_eq_decide_eq]
theorem run_eq_bool {s : TypeId} (hu : P.underlying s = some .bool) (i j : Bool) (w : World) : (Op.equal s (.bool i) (.bool j)).run P w = .ok (i == j) w := by
  simp only [Op.equal, show Op.maxDepth = 9999 + 1 from rfl]
  exact run_equalIn_bool w _ s i j hu
theorem Pv.beq {s s' : TypeId} {i j : Bool} (hx : evo n ρ x = some (.bool i)) (hy : evo n ρ y = some (.bool j)) (hu : P.underlying s = some .bool) : Pv P n ρ (.binOp .eql s x y s') ty (.bool (i == j)) := Pv.binOp hx hy (fun w => by simp [eqGuard]) fun w => by simp [Go.binOp, run_eq_bool hu]
theorem Pv.bne {s s' : TypeId} {i j : Bool} (hx : evo n ρ x = some (.bool i)) (hy : evo n ρ y = some (.bool j)) (hu : P.underlying s = some .bool) : Pv P n ρ (.binOp .neq s x y s') ty (.bool (i != j)) := Pv.binOp hx hy (fun w => by simp [eqGuard]) fun w => by simp [Go.binOp, run_eq_bool hu]; cases i <;> cases j <;> rfl
theorem Pv.arith {p : BinOp} {s s' : TypeId} {k : IntKind} {i j m : Int} (hx : evo n ρ x = some (.int k i)) (hy : evo n ρ y = some (.int k j)) (hr : ∀ w, (Go.binOp p s (.int k i) (.int k j)).run P w = .ok (.int k m) w) : Pv P n ρ (.binOp p s x y s') ty (.int k m) :=
  Pv.binOp hx hy (run_guard_int _ _ _ _ _ _) hr
theorem wrap64_id {i : Int} (h : -9223372036854775808 ≤ i) (h2 : i ≤ 9223372036854775807) : IntKind.i64.wrap i = i := by rw [IntKind.wrap_i64]; omega
theorem wrapu64_id {i : Int} (h : 0 ≤ i) (h2 : i ≤ 18446744073709551615) : IntKind.u64.wrap i = i := by simp [IntKind.wrap, IntKind.bits, IntKind.signed]; omega
theorem wrapu32_id {i : Int} (h : 0 ≤ i) (h2 : i ≤ 4294967295) : IntKind.u32.wrap i = i := by simp [IntKind.wrap, IntKind.bits, IntKind.signed]; omega
theorem wrapu16_id {i : Int} (h : 0 ≤ i) (h2 : i ≤ 65535) : IntKind.u16.wrap i = i := by simp [IntKind.wrap, IntKind.bits, IntKind.signed]; omega
theorem wrapu8_id {i : Int} (h : 0 ≤ i) (h2 : i ≤ 255) : IntKind.u8.wrap i = i := by simp [IntKind.wrap, IntKind.bits, IntKind.signed]; omega
theorem Pv.add {s s' : TypeId} {i j : Int} (hx : evo n ρ x = some (.int .i64 i)) (hy : evo n ρ y = some (.int .i64 j)) (h1 : -9223372036854775808 ≤ i + j) (h2 : i + j ≤ 9223372036854775807) : Pv P n ρ (.binOp .add s x y s') ty (.int .i64 (i + j)) := Pv.arith hx hy fun w => by simp [Go.binOp, Op.intArith, wrap64_id h1 h2]
theorem Pv.sub {s s' : TypeId} {i j : Int} (hx : evo n ρ x = some (.int .i64 i)) (hy : evo n ρ y = some (.int .i64 j)) (h1 : -9223372036854775808 ≤ i - j) (h2 : i - j ≤ 9223372036854775807) : Pv P n ρ (.binOp .sub s x y s') ty (.int .i64 (i - j)) := Pv.arith hx hy fun w => by simp [Go.binOp, Op.intArith, wrap64_id h1 h2]
theorem Pv.mul64 {s s' : TypeId} {i j : Int} (hx : evo n ρ x = some (.int .i64 i)) (hy : evo n ρ y = some (.int .i64 j)) (h1 : -9223372036854775808 ≤ i * j) (h2 : i * j ≤ 9223372036854775807) : Pv P n ρ (.binOp .mul s x y s') ty (.int .i64 (i * j)) := Pv.arith hx hy fun w => by simp [Go.binOp, Op.intArith, wrap64_id h1 h2]
theorem Pv.addw {s s' : TypeId} {k : IntKind} {i j : Int} (hx : evo n ρ x = some (.int k i)) (hy : evo n ρ y = some (.int k j)) : Pv P n ρ (.binOp .add s x y s') ty (.int k (k.wrap (i + j))) := Pv.arith hx hy fun w => by simp [Go.binOp, Op.intArith]
theorem Pv.subw {s s' : TypeId} {k : IntKind} {i j : Int} (hx : evo n ρ x = some (.int k i)) (hy : evo n ρ y = some (.int k j)) : Pv P n ρ (.binOp .sub s x y s') ty (.int k (k.wrap (i - j))) := Pv.arith hx hy fun w => by simp [Go.binOp, Op.intArith]
theorem Pv.mulw {s s' : TypeId} {k : IntKind} {i j : Int} (hx : evo n ρ x = some (.int k i)) (hy : evo n ρ y = some (.int k j)) : Pv P n ρ (.binOp .mul s x y s') ty (.int k (k.wrap (i * j))) := Pv.arith hx hy fun w => by simp [Go.binOp, Op.intArith]
theorem Pv.rem {s s' : TypeId} {k : IntKind} {i j : Int} (hx : evo n ρ x = some (.int k i)) (hy : evo n ρ y = some (.int k j)) (hj : j ≠ 0) : Pv P n ρ (.binOp .rem s x y s') ty (.int k (i.tmod j)) := Pv.arith hx hy fun w => by simp [Go.binOp, Op.intDiv, hj]
theorem Pv.quo {s s' : TypeId} {k : IntKind} {i j : Int} (hx : evo n ρ x = some (.int k i)) (hy : evo n ρ y = some (.int k j)) (hj : j ≠ 0) : Pv P n ρ (.binOp .quo s x y s') ty (.int k (k.wrap (i.tdiv j))) := Pv.arith hx hy fun w => by simp [Go.binOp, Op.intDiv, hj]
theorem Pv.not {s : TypeId} {b : Bool} (hx : evo n ρ x = some (.bool b)) : Pv P n ρ (.unOp .not s x) ty (.bool (!b)) := Pv.unOp hx fun w => by simp [Op.unary]
/-- What an operation yields, as far as it is known without the program's tables. -/
def evCmp : BinOp → Int → Int → Option Value
  | .lss, i, j => some (.bool (decide (i < j)))
  | .leq, i, j => some (.bool (decide (i ≤ j)))
  | .gtr, i, j => some (.bool (decide (j < i)))
  | .geq, i, j => some (.bool (decide (j ≤ i)))
  | .eql, i, j => some (.bool (decide (i = j)))
  | .neq, i, j => some (.bool (!decide (i = j)))
  | _, _, _ => none
def evOp (n : Fm) (ρ : List (Nat × Value)) : Op → Option Value
  | .move x => evo n ρ x
  | .assign x => evo n ρ x
  | .nilCheck x => match evo n ρ x with
    | some (.pointer (some p)) => some (.pointer (some p))
    | _ => none
  | .extract x i => match evo n ρ x with
    | some (.tuple vs) => nthv vs.toList i
    | _ => none
  | .pick c x y => match evo n ρ c with
    | some (.bool true) => evo n ρ x
    | some (.bool false) => evo n ρ y
    | _ => none
  | .unOp p _ x => match p with
    | .not => match evo n ρ x with
      | some (.bool b) => some (.bool (!b))
      | _ => none
    | _ => none
  | .binOp p _ x y _ => match evo n ρ x with
    | some (.int k i) => match evo n ρ y with
      | some (.int l j) => match decEq k l with
        | isTrue _ => evCmp p i j
        | isFalse _ => none
      | _ => none
    | _ => none
  | _ => none
theorem Pv.auto (h : evOp n ρ o = some v) : Pv P n ρ o ty v := by
  cases o with
  | move x => exact Pv.move h
  | assign x => exact Pv.assign h
  | nilCheck x =>
    simp only [evOp] at h
    split at h
    · cases h; exact Pv.nilCheck (by assumption)
    · cases h
  | extract x i =>
    simp only [evOp] at h
    split at h
    · exact Pv.extract (by assumption) h
    · cases h
  | pick c x y =>
    simp only [evOp] at h
    split at h
    · exact Pv.pick (by assumption) (by simpa using h)
    · exact Pv.pick (by assumption) (by simpa using h)
    · cases h
  | unOp p s x =>
    simp only [evOp] at h
    split at h
    · split at h
      · cases h; exact Pv.not (by assumption)
      · cases h
    · cases h
  | binOp p s x y s' =>
    simp only [evOp] at h
    split at h
    · split at h
      · split at h
        · rename_i e _
          subst e
          cases p <;> simp only [evCmp] at h <;> cases h
          · exact Pv.eql (by assumption) (by assumption)
          · exact Pv.neq (by assumption) (by assumption)
          · exact Pv.lss (by assumption) (by assumption)
          · exact Pv.leq (by assumption) (by assumption)
          · exact Pv.gtr (by assumption) (by assumption)
          · exact Pv.geq (by assumption) (by assumption)
        · cases h
      · cases h
    · cases h
  | _ => cases h
/-- Whether an operation is made. -/
def want (n : Fm) (l : List Oper) (ρ : List (Nat × Value)) : Option (Nat × Bool) → Option Bool
  | none => some true
  | some (j, b) => match nth l j with
    | some o => match o.dst with
      | some t => match evo n ρ (.tmp t) with
        | some (.bool c) => some (c == b)
        | some (.tuple _) => some false
        | _ => none
      | none => none
    | none => none
theorem want_get {l : List Oper} {gd : Option (Nat × Bool)} {b : Bool} (h : want n l ρ gd = some b) {a : Act} (ha : Kn n ρ a) : Region.wanted ⟨d, o, ty, ps, af, gd⟩ (yielded l.toArray a.tmps) = b := by
  cases gd with
  | none => simp only [want, Option.some.injEq] at h; subst h; rfl
  | some p =>
    obtain ⟨j, c⟩ := p
    simp only [want] at h
    split at h
    · rename_i o' ho
      split at h
      · rename_i t ht
        split at h
        · rename_i c' hc
          simp only [Option.some.injEq] at h
          subst h
          have hy := yielded_of (ops := l.toArray) ha (j := j) (t := t) (by rw [nth_get ho]; exact ht) hc
          simp [Region.wanted, hy]
        · rename_i vs hc
          simp only [Option.some.injEq] at h
          subst h
          have hy := yielded_un (ops := l.toArray) ha (j := j) (t := t) (by rw [nth_get ho]; exact ht) hc
          simp [Region.wanted, hy]
        · cases h
      · cases h
    · cases h
theorem Pg.any {l : List Oper} {gd : Option (Nat × Bool)} (hg : want n l ρ gd = some true) (h : Pv P n ρ o ty v) : Pg P n l.toArray ρ ⟨d, o, ty, ps, af, gd⟩ v := fun a ha => .inl ⟨want_get hg ha, fun w => h a ha w _ _ _ _⟩
theorem Kn.args {a : Act} (ha : Kn n ρ a) {xs : Array Operand} {vs : List Value} (hx : evs n ρ xs.toList = some vs) : xs.map a.eval = vs.toArray := by
  rw [← ha.evals hx]; apply Array.ext'; simp
theorem Pv.len {ts : Array TypeId} {xs : Array Operand} (hx : evs n ρ xs.toList = some [u]) (hr : ∀ w, (Builtin.len_ ts ty #[u]).run P w = .ok v w) : Pv P n ρ (.call ⟨.builtin .len, xs, ts⟩) ty v := fun a ha w d ps af g => by
  simp [execOp, resolve, ha.args hx, invoke, builtin, hr]
theorem Pv.cap {ts : Array TypeId} {xs : Array Operand} (hx : evs n ρ xs.toList = some [u]) (hr : ∀ w, (Builtin.cap_ ts ty #[u]).run P w = .ok v w) : Pv P n ρ (.call ⟨.builtin .cap, xs, ts⟩) ty v := fun a ha w d ps af g => by
  simp [execOp, resolve, ha.args hx, invoke, builtin, hr]
theorem Pv.min {ts : Array TypeId} {xs : Array Operand} {vs : List Value} (hx : evs n ρ xs.toList = some vs) (hr : ∀ w, (Builtin.min_ ts ty vs.toArray).run P w = .ok v w) : Pv P n ρ (.call ⟨.builtin .min, xs, ts⟩) ty v := fun a ha w d ps af g => by
  simp [execOp, resolve, ha.args hx, invoke, builtin, hr]
theorem Pv.max {ts : Array TypeId} {xs : Array Operand} {vs : List Value} (hx : evs n ρ xs.toList = some vs) (hr : ∀ w, (Builtin.max_ ts ty vs.toArray).run P w = .ok v w) : Pv P n ρ (.call ⟨.builtin .max, xs, ts⟩) ty v := fun a ha w d ps af g => by
  simp [execOp, resolve, ha.args hx, invoke, builtin, hr]
/-- A function's call is deferred. -/
theorem E.deferf {m : Nat} {ds : List Deferred} {f : FuncId} {xs : Array Operand} {ts : Array TypeId} {vs : List Value} (hx : evs ⟨m, ds⟩ ρ xs.toList = some vs) (h : E P ⟨m, ⟨.fn (.func f) #[], vs.toArray⟩ :: ds⟩ ops rest ρ w Q) : E P ⟨m, ds⟩ ops (⟨none, .defer ⟨.value (.func f), xs, ts⟩, ty, ps, af, none⟩ :: rest) ρ w Q :=
  E.defer (fun a ha => by simp [resolve, Deferred.ofValue, Act.eval, ha.args hx]) h
/-- A call of a function. -/
theorem St.call {f : FuncId} {xs : Array Operand} {ts : Array TypeId} {vs : List Value} {fn : Func} {c : Code} (hf : P.funcs[f]? = some fn) (hb : fn.body = some c) (hnm : (fn.name == "runtime.NumGoroutine") = false) (hx : evs n ρ xs.toList = some vs) (h : Calls P f vs.toArray w (Ret n d ρ N Q)) :
    St P n ops ⟨d, .call ⟨.value (.func f), xs, ts⟩, ty, ps, af, none⟩ ρ w N Q := fun a ha K hK => by
  rw [if_pos wanted_none]
  unfold Oper.wp
  have hnm' : ¬ fn.name = "runtime.NumGoroutine" := by simpa using hnm
  have hr : (execOp a.eval ⟨d, .call ⟨.value (.func f), xs, ts⟩, ty, ps, af, none⟩).run P w = .ok (.enter f vs.toArray) w := by
    simp only [execOp, resolve, Act.eval, ha.args hx]
    simp [Deferred.ofValue, invoke, callFunc, hf, hnm', hb]
  rw [hr]
  refine h.mono fun e w' hq => ?_
  cases e with
  | returned v => exact hK _ _ _ hq (ha.put _ _)
  | panicked ch => exact hq a ha
  | outgrown => exact hq
theorem E.call {f : FuncId} {xs : Array Operand} {ts : Array TypeId} {vs : List Value} {fn : Func} {c : Code} (hf : P.funcs[f]? = some fn) (hb : fn.body = some c) (hnm : (fn.name == "runtime.NumGoroutine") = false) (hx : evs n ρ xs.toList = some vs) (h : Calls P f vs.toArray w (Ret n d ρ (fun ρ' w' => E P n ops rest ρ' w' Q) Q)) :
    E P n ops (⟨d, .call ⟨.value (.func f), xs, ts⟩, ty, ps, af, none⟩ :: rest) ρ w Q := E.cons (St.call hf hb hnm hx h)
/-- A block among what is owned. -/
inductive Fd : List HP → Nat → List Value → TypeId → Prop
  | here {H : List HP} {b : Nat} {xs : List Value} {e : TypeId} : Fd (blk b xs e :: H) b xs e
  | there {H : List HP} {p : HP} {b : Nat} {xs : List Value} {e : TypeId} : Fd H b xs e → Fd (p :: H) b xs e
theorem Fd.blk {H : List HP} {b : Nat} {xs : List Value} {e : TypeId} (h : Fd H b xs e) {W w : World} {g : Hl} (hs : Sat W w g H) : Blk w b xs e := by
  induction h generalizing w with
  | here => exact hs.block
  | there _ ih => exact ih hs.drop
/-- What is owned, with another block in a block's place. -/
inductive Up (b : Nat) (xs ys : List Value) (e : TypeId) : List HP → List HP → Prop
  | here {H : List HP} : Up b xs ys e (Go.Proofs.YtgciifalclgeeaaGreatDoor.blk b xs e :: H) (Go.Proofs.YtgciifalclgeeaaGreatDoor.blk b ys e :: H)
  | there {H H' : List HP} {p : HP} : Up b xs ys e H H' → Up b xs ys e (p :: H) (p :: H')
theorem Up.sat {b : Nat} {xs ys : List Value} {e : TypeId} {H H' : List HP} (h : Up b xs ys e H H') : (∃ L R, H = L ++ Go.Proofs.YtgciifalclgeeaaGreatDoor.blk b xs e :: R ∧ H' = L ++ Go.Proofs.YtgciifalclgeeaaGreatDoor.blk b ys e :: R) := by
  induction h with
  | here => exact ⟨[], _, rfl, rfl⟩
  | there _ ih =>
    obtain ⟨L, R, rfl, rfl⟩ := ih
    exact ⟨_ :: L, R, rfl, rfl⟩
/-- What is owned, with other things in a thing's place. -/
inductive Re (p : HP) (qs : List HP) : List HP → List HP → Prop
  | here {H : List HP} : Re p qs (p :: H) (qs ++ H)
  | there {H H' : List HP} {q : HP} : Re p qs H H' → Re p qs (q :: H) (q :: H')
theorem Re.sat {p : HP} {qs H H' : List HP} (h : Re p qs H H') : ∃ L R, H = L ++ p :: R ∧ H' = L ++ (qs ++ R) := by
  induction h with
  | here => exact ⟨[], _, rfl, rfl⟩
  | there _ ih =>
    obtain ⟨L, R, rfl, rfl⟩ := ih
    exact ⟨_ :: L, R, rfl, rfl⟩
theorem St.load {W : World} {g : Hl} {H : List HP} {b j : Nat} {xs : List Value} {e t : TypeId} (hs : Sat W w g H) (hx : evo n ρ x = some (.pointer (some ⟨b, j, none⟩))) (hf : Fd H b xs e) (hj : xs[j]? = some v) (ha : (isAgg t).run P w = .ok false w) (h : N (pushv d v ρ) w) :
    St P n ops ⟨d, .load t x, ty, ps, af, none⟩ ρ w N Q :=
  St.val (fun a hk => by
    have hc : w.cell? ⟨b, j, none⟩ = some v := (blk_cell (hf.blk hs) j).trans hj
    simp [execOp, hk.eval hx, Instr.loadAt, Instr.sureAddr, loadVar, ha, hc]) h
theorem St.loadc {b j : Nat} {t : TypeId} (hx : evo n ρ x = some (.pointer (some ⟨b, j, none⟩))) (hc : w.cell? ⟨b, j, none⟩ = some v) (ha : (isAgg t).run P w = .ok false w) (h : N (pushv d v ρ) w) :
    St P n ops ⟨d, .load t x, ty, ps, af, none⟩ ρ w N Q :=
  St.val (fun a hk => by simp [execOp, hk.eval hx, Instr.loadAt, Instr.sureAddr, loadVar, ha, hc]) h
/-- A struct out of cells anywhere. -/
theorem St.loads {b j : Nat} {t : TypeId} (hx : evo n ρ x = some (.pointer (some ⟨b, j, none⟩))) (hc : (loadVar t ⟨b, j, none⟩).run P w = .ok v w) (h : N (pushv d v ρ) w) :
    St P n ops ⟨d, .load t x, ty, ps, af, none⟩ ρ w N Q :=
  St.val (fun a ha => by simp [execOp, ha.eval hx, Instr.loadAt, Instr.sureAddr, hc]) h
theorem St.store {W : World} {g : Hl} {H H' : List HP} {b j : Nat} {xs vs : List Value} {e t : TypeId} (hs : Sat W w g H) (hx : evo n ρ x = some (.pointer (some ⟨b, j, none⟩))) (hy : evo n ρ y = some v) (hv : v.cells.toList = vs) (hu : Up b xs (spl xs j vs) e H H') (hj : Nat.ble (j + vs.length) xs.length = true) (h1 : vs.all Value.oneCell' = true) (ht : (sizeOf t).run P w = .ok vs.length w)
    (h : ∀ w', Sat W w' g H' → N ρ w') : St P n ops ⟨none, .store t x y, ty, ps, af, none⟩ ρ w N Q := by
  obtain ⟨L, R, rfl, rfl⟩ := hu.sat
  have hb := hs.toFront.block
  have hs' := (Sat.sets vs w xs j hs.toFront).toBack
  have hj' : j + vs.length ≤ xs.length := Nat.le_of_ble_eq_true hj
  have hst := run_storeCells_cells (P := P) b j vs 0 w (fun k hk => by
    rw [blk_cell hb]
    simp only [Nat.add_zero]
    rw [List.getElem?_eq_getElem (by omega)]
    rfl) (fun k _ => blk_free hb _) (fun u hu => List.all_eq_true.1 h1 u hu)
  simp only [Nat.add_zero] at hst
  have hsz : v.cells.size = vs.length := by rw [← hv, Array.length_toList]
  refine St.unit (w' := w.setCells b j vs) (fun a ha => ?_) (h _ hs')
  simp [execOp, ha.eval hx, ha.eval hy, Instr.storeAt, Instr.sureAddr, storeVar, ht, hsz, hv, hst]
theorem St.newBlk {W : World} {g : Hl} {H : List HP} {xs : List Value} {e : TypeId} {mk : Nat → Value} (hs : Sat W w g H) (hr : ∀ a, Kn n ρ a → (execOp a.eval ⟨d, o, ty, ps, af, none⟩).run P w = .ok (.value (mk w.heap.size)) (w.alloc (.cells xs.toArray e)))
    (h : ∀ b w', Sat W w' g (blk b xs e :: H) → N (pushv d (mk b) ρ) w') : St P n ops ⟨d, o, ty, ps, af, none⟩ ρ w N Q :=
  St.val hr (h _ _ (hs.allocAt w.heap.size xs e rfl))
theorem St.alloc {W : World} {g : Hl} {H : List HP} {e : TypeId} {z : Value} {xs : List Value} (hs : Sat W w g H) (hz : (zeroValue e).run P w = .ok z w) (hx : z.cells.toList = xs) (h : ∀ b w', Sat W w' g (blk b xs e :: H) → N (pushv d (.pointer (some ⟨b, 0, none⟩)) ρ) w') :
    St P n ops ⟨d, .alloc e, ty, ps, af, none⟩ ρ w N Q :=
  St.newBlk (mk := fun b => .pointer (some ⟨b, 0, none⟩)) hs (fun a _ => by subst hx; simp [execOp, Instr.alloc, hz, newVar, newRow]) h
theorem St.box {W : World} {g : Hl} {H : List HP} {e : TypeId} {xs : List Value} (hs : Sat W w g H) (hv : evo n ρ x = some v) (hx : v.cells.toList = xs) (h : ∀ b w', Sat W w' g (blk b xs e :: H) → N (pushv d (.pointer (some ⟨b, 0, none⟩)) ρ) w') :
    St P n ops ⟨d, .box e x, ty, ps, af, none⟩ ρ w N Q :=
  St.newBlk (mk := fun b => .pointer (some ⟨b, 0, none⟩)) hs (fun a ha => by subst hx; simp [execOp, ha.eval hv, Instr.box, newVar, newRow]) h
theorem St.buildSlice {W : World} {g : Hl} {H : List HP} {t e : TypeId} {k : Nat} {parts : Array (Nat × Operand)} {xs : List (Nat × Value)} {cs : List Value} (hs : Sat W w g H) (hx : evp n ρ parts.toList = some xs) (hr : (Instr.buildSlice t k xs.toArray).run P w = .ok (.slice (some ⟨w.heap.size, 0, none⟩) k k) (w.alloc (.cells cs.toArray e)))
    (h : ∀ b w', Sat W w' g (blk b cs e :: H) → N (pushv d (.slice (some ⟨b, 0, none⟩) k k) ρ) w') : St P n ops ⟨d, .buildSlice t k parts, ty, ps, af, none⟩ ρ w N Q :=
  St.newBlk (mk := fun b => .slice (some ⟨b, 0, none⟩) k k) hs (fun a ha => by
    have e : (parts.map fun (i, x) => (i, a.eval x)) = xs.toArray := by
      rw [← ha.evalp hx]; apply Array.ext'; simp
    simp only [execOp, e]
    simp [hr]) h
/-- The mark of a constant string's bytes: the row becomes the pool's. -/
theorem St.markBytes {W : World} {g : Hl} {H : List HP} {t e : TypeId} {b m : Nat} {xs : List Value} (hs : Sat W w g (blk b xs e :: H)) (hx : evo n ρ x = some (.slice (some ⟨b, 0, none⟩) m m)) (ht : P.underlying t = some (.slice e)) (he : P.underlying e = some (.int .u8)) (hm : xs.length = m) (hm2 : m ≤ 9223372036854775807)
    (h : ∀ w' g', Hl.le g g' → Sat W w' g' H → Pr 1 g' (.slice (some ⟨b, 0, none⟩) m m) m xs → N (pushv d (.slice (some ⟨b, 0, none⟩) m m) ρ) w') : St P n ops ⟨d, .convert t t x, ty, ps, af, none⟩ ρ w N Q := by
  have hb := hs.block
  have hsh : w.shape? b = some (e, xs.length) := by
    simp only [Blk] at hb
    simp [World.shape?, hb]
  have hr : (Go.convert t t (.slice (some ⟨b, 0, none⟩) m m)).run P w = .ok (.slice (some ⟨b, 0, none⟩) m m) (w.freeze ⟨b, xs.length, none⟩ 1) := by
    simp [Go.convert, run_underlying ht, run_underlying he, markStringish, hsh]
  have hs' : Sat W (w.freeze ⟨b, xs.length, none⟩ 1) g (obj b (.cells xs.toArray e (xs.length, xs.length + 1)) :: H) := by
    refine hs.update (by simp [World.freeze]) (by simp [World.freeze]) (by simp [World.freeze]) ?_ fun k _ hk => by simp [World.freeze, Array.getElem?_modify, Ne.symm hk]
    simp only [Blk] at hb
    simp [World.freeze, Array.getElem?_modify, hb]
  obtain ⟨h1, e1, e2, e3, hs2⟩ := hs'.publish
  refine St.val (fun a ha => by simp [execOp, ha.eval hx, hr]) (h _ _ e2 hs2 ?_)
  have h2 : h1 = Hl.one b (.cells xs.toArray e (xs.length, xs.length + 1)) := e1
  have h3 : Hl.un g h1 b = some (.cells xs.toArray e (xs.length, xs.length + 1)) := e3 _ _ (by rw [h2]; simp [Hl.one])
  exact ⟨by simpa using hm, _, m, rfl, Nat.le_refl _, by unfold maxLen; omega, fun e => by simp at e, .inr ⟨b, 0, xs.toArray, e, _, rfl, h3, by simp [← hm]⟩⟩
end steps
section
variable {P : Program} {t e : TypeId} {z : Value} {size bytes : Nat} {kd kd' : IntKind}
theorem run_index_at (he : ElemOf P t e z size bytes) {b o n c j : Nat} {i : Int} (hi : i = (j : Int)) (hj : j < n) (w : World) : (Instr.indexAt t (.slice (some ⟨b, o, none⟩) n c) (.int kd i)).run P w = .ok (.pointer (some ⟨b, o + j * size, none⟩)) w := by
  subst hi
  obtain ⟨ht, ⟨i, hi, hz, hs, hb⟩, hzs, hsz⟩ := he
  simp [Instr.indexAt, run_underlying ht, asIntOf, sizeOf, typeInfo, hi, hs, go_sem, hj, Addr.add_lit]
end
attribute [irreducible] E C A St Pv Pg EA L
end Go.Proofs.YtgciifalclgeeaaGreatDoor

/-
  Maps that a call owns: a block that holds a list of keys and values.
-/
namespace Go.Proofs.YtgciifalclgeeaaGreatDoor
open Go.RowKit
set_option linter.unusedVariables false
set_option linter.unusedSimpArgs false
set_option linter.unusedSectionVars false
/-- A type of keys, and how they are laid. -/
structure Ky {κ : Type} [DecidableEq κ] (P : Program) (kt : TypeId) (enc : κ → Value) : Prop where
  kind : ∃ d, P.underlying kt = some d ∧ (∀ a, Go.MapKept.IsKey d (enc a)) ∧ ∀ a b, Instr.sameNow d (enc a) (enc b) = some (decide (a = b))
  bits : ∀ a, Instr.sameBits 10000 (enc a) (enc a) = true
section
variable {κ : Type} [DecidableEq κ]
def entOf (e : MapEntry) : Value × Value := (e.key, e.val)
/-- The entries of a map's block. -/
def Ents (enc : κ → Value) (l : List (κ × Value)) (es : Array MapEntry) (clock : Nat) : Prop :=
  es.toList.map entOf = l.map (fun p => (enc p.1, p.2)) ∧ (∀ x ∈ es.toList, x.born < clock) ∧ (es.toList.map (·.born)).Nodup
def mp (enc : κ → Value) (b : Nat) (l : List (κ × Value)) : HP :=
  ⟨fun _ h => ∃ es clock, h = Hl.one b (.map es clock) ∧ Ents enc l es clock, fun _ _ _ _ h => h⟩
variable {P : Program} {W w : World} {g : Hl} {H : List HP} {enc : κ → Value} {t kt et : TypeId} {b : Nat} {l : List (κ × Value)}
theorem mp_open (hs : Sat W w g (mp enc b l :: H)) : ∃ es clock, Ents enc l es clock ∧ Sat W w g (obj b (.map es clock) :: H) := by
  obtain ⟨⟨es, clock⟩, h⟩ := hs.opens (F := fun q : Array MapEntry × Nat => wit (fun _ => Ents enc l q.1 q.2) (fun _ _ _ h => h) (obj b (.map q.1 q.2))) (by
    rintro h ⟨es, clock, e, he⟩
    exact ⟨(es, clock), he, e⟩)
  exact ⟨es, clock, h.unwit.1, h.unwit.2⟩
end
end Go.Proofs.YtgciifalclgeeaaGreatDoor

/-
  The stepping engine: maps, ranges over them, function values.
-/
namespace Go.Proofs.YtgciifalclgeeaaGreatDoor
open Go.RowKit
set_option linter.unusedVariables false
set_option linter.unusedSimpArgs false
set_option linter.unusedSectionVars false
/-- A thing among what is owned. -/
inductive Has (p : HP) : List HP → Prop
  | here {H : List HP} : Has p (p :: H)
  | there {H : List HP} {q : HP} : Has p H → Has p (q :: H)
theorem Re.turn {p : HP} {qs H H' : List HP} (h : Re p qs H H') {W w w' : World} {g : Hl} (hs : Sat W w g H) (ht : ∀ H0, Sat W w g (p :: H0) → Sat W w' g (qs ++ H0)) : Sat W w' g H' := by
  obtain ⟨L, R, rfl, rfl⟩ := h.sat
  have h1 := ht _ hs.toFront
  refine h1.perm ?_
  calc qs ++ (L ++ R) = (qs ++ L) ++ R := by simp
    _ |>.Perm ((L ++ qs) ++ R) := (List.perm_append_comm).append_right _
    _ = L ++ (qs ++ R) := by simp
section
variable {κ : Type} [DecidableEq κ] {P : Program} {n : Fm} {ρ : List (Nat × Value)} {W w : World} {g : Hl} {H H' : List HP} {Q : Exit → Act → World → Prop} {ops : Array Oper} {d : Option Tmp} {ty : TypeId} {ps : String} {af : Array Edge} {x y : Operand} {N : List (Nat × Value) → World → Prop}
  {enc : κ → Value} {t kt et : TypeId} {b : Nat} {l : List (κ × Value)} {k : κ} {v u : Value}
theorem Pv.makeFunc {fn : Fn} {fs cs : Array Operand} {us vs : List Value} (hf : evs n ρ fs.toList = some us) (hc : evs n ρ cs.toList = some vs) : Pv P n ρ (.makeFunc fn fs cs) ty (.func fn us.toArray vs.toArray) := Pv.mk fun a ha w d ps af g => by
  simp [execOp, ha.args hf, ha.args hc, Instr.makeFunc]
/-- string(b) of bytes. -/
theorem St.string {src dst e : TypeId} {D : Nat → Prop} {u : Value} {m : Nat} {bl : List UInt8} (hx : evo n ρ x = some u) (h1 : P.underlying src = some (.slice e)) (h2 : P.underlying e = some (.int .u8)) (h3 : P.underlying dst = some .string) (hrow : Row 1 w D u m (bs bl)) (h : N (pushv d (.string ⟨bl.toArray⟩) ρ) w) :
    St P n ops ⟨d, .convert src dst x, ty, ps, af, none⟩ ρ w N Q :=
  St.val (fun a ha => by simp [execOp, ha.eval hx, run_string h1 h2 h3 hrow]) h
theorem Pv.sne {s s' : TypeId} {a b : List UInt8} (hx : evo n ρ x = some (.string ⟨a.toArray⟩)) (hy : evo n ρ y = some (.string ⟨b.toArray⟩)) : Pv P n ρ (.binOp .neq s x y s') ty (.bool (!decide (a = b))) :=
  Pv.binOp hx hy (fun w => by simp [eqGuard]) fun w => by
    simp [Go.binOp, Op.stringOp]
    exact Bool.beq_eq_decide_eq _ _
theorem Pv.seq {s s' : TypeId} {a b : List UInt8} (hx : evo n ρ x = some (.string ⟨a.toArray⟩)) (hy : evo n ρ y = some (.string ⟨b.toArray⟩)) : Pv P n ρ (.binOp .eql s x y s') ty (.bool (decide (a = b))) :=
  Pv.binOp hx hy (fun w => by simp [eqGuard]) fun w => by
    simp [Go.binOp, Op.stringOp]
    exact Bool.beq_eq_decide_eq _ _
end
end Go.Proofs.YtgciifalclgeeaaGreatDoor

/-
  The stepping engine: bits of numbers without a sign, as natural numbers.
-/
namespace Go.Proofs.YtgciifalclgeeaaGreatDoor
open Go.RowKit
set_option linter.unusedVariables false
set_option linter.unusedSimpArgs false
/-- A kind without a sign. -/
def Uk (k : IntKind) : Prop := k.signed = false
theorem uk_wrap {k : IntKind} (h : Uk k) {a : Nat} (ha : a < 2 ^ k.bits) : k.wrap (a : Int) = a := by
  have h' : k.signed = false := h
  have e : ((a : Int) % (2 ^ k.bits : Nat)) = a := by
    rw [← Int.natCast_emod, Nat.mod_eq_of_lt ha]
  have e2 : ((2 : Int) ^ k.bits) = ((2 ^ k.bits : Nat) : Int) := by simp
  simp only [IntKind.wrap, h', e2, e]
  simp
theorem u8_mod (a : Nat) : IntKind.u8.wrap (a : Int) = ((a % 256 : Nat) : Int) := by simp [IntKind.wrap, IntKind.bits, IntKind.signed]
theorem u32_mod (a : Nat) : IntKind.u32.wrap (a : Int) = ((a % 4294967296 : Nat) : Int) := by simp [IntKind.wrap, IntKind.bits, IntKind.signed]
theorem u64_mod (a : Nat) : IntKind.u64.wrap (a : Int) = ((a % 18446744073709551616 : Nat) : Int) := by simp [IntKind.wrap, IntKind.bits, IntKind.signed]
section
variable {P : Program} {n : Fm} {ρ : List (Nat × Value)} {ty s s' : TypeId} {x y : Operand} {k : IntKind} {a b : Nat}
theorem run_xor (h : Uk k) (ha : a < 2 ^ k.bits) (hb : b < 2 ^ k.bits) (w : World) : (Go.binOp .xor s (.int k a) (.int k b)).run P w = .ok (.int k ((a ^^^ b : Nat) : Int)) w := by
  have e : k.wrap ((a ^^^ b : Nat) : Int) = ((a ^^^ b : Nat) : Int) := uk_wrap h (Nat.xor_lt_two_pow ha hb)
  simp [Go.binOp, Op.intBits, BitVec.toNat_xor, Nat.mod_eq_of_lt ha, Nat.mod_eq_of_lt hb, e]
theorem run_and (h : Uk k) (ha : a < 2 ^ k.bits) (hb : b < 2 ^ k.bits) (w : World) : (Go.binOp .and s (.int k a) (.int k b)).run P w = .ok (.int k ((a &&& b : Nat) : Int)) w := by
  have e : k.wrap ((a &&& b : Nat) : Int) = ((a &&& b : Nat) : Int) := uk_wrap h (Nat.lt_of_le_of_lt Nat.and_le_left ha)
  simp [Go.binOp, Op.intBits, BitVec.toNat_and, Nat.mod_eq_of_lt ha, Nat.mod_eq_of_lt hb, e]
theorem run_or (h : Uk k) (ha : a < 2 ^ k.bits) (hb : b < 2 ^ k.bits) (w : World) : (Go.binOp .or s (.int k a) (.int k b)).run P w = .ok (.int k ((a ||| b : Nat) : Int)) w := by
  have e : k.wrap ((a ||| b : Nat) : Int) = ((a ||| b : Nat) : Int) := uk_wrap h (Nat.or_lt_two_pow ha hb)
  simp [Go.binOp, Op.intBits, BitVec.toNat_or, Nat.mod_eq_of_lt ha, Nat.mod_eq_of_lt hb, e]
theorem run_shr {l : IntKind} (hb : b ≤ k.bits) (w : World) : (Go.binOp .shr s (.int k a) (.int l b)).run P w = .ok (.int k ((a / 2 ^ b : Nat) : Int)) w := by
  have h0 : ¬ ((b : Int) < 0) := by omega
  have e : Int.fdiv (a : Int) (2 ^ b) = ((a / 2 ^ b : Nat) : Int) := by
    have e2 : (2 : Int) ^ b = ((2 ^ b : Nat) : Int) := by simp
    rw [e2, Int.fdiv_eq_ediv_of_nonneg _ (Int.natCast_nonneg _), Int.natCast_ediv]
  simp [Go.binOp, Op.shift, h0, Nat.min_eq_left hb, e]
theorem run_shl {l : IntKind} (h : Uk k) (hb : b ≤ k.bits) (hab : a * 2 ^ b < 2 ^ k.bits) (w : World) : (Go.binOp .shl s (.int k a) (.int l b)).run P w = .ok (.int k ((a * 2 ^ b : Nat) : Int)) w := by
  have h0 : ¬ ((b : Int) < 0) := by omega
  have e := uk_wrap h hab
  have e2 : (a : Int) * 2 ^ b = ((a * 2 ^ b : Nat) : Int) := by simp
  simp only [Go.binOp, Op.shift, h0, if_false, Int.toNat_natCast, Nat.min_eq_left hb]
  rw [e2, e]
  rfl
variable {i j : Int}
theorem Pv.notn (hx : evo n ρ x = some (.int k i)) (h : Uk k) (hi : i = (a : Int)) (ha : a < 2 ^ k.bits) : Pv P n ρ (.unOp .xor s x) ty (.int k (((2 ^ k.bits - 1) ^^^ a : Nat) : Int)) := by
  subst hi
  refine Pv.unOp hx fun w => ?_
  have h' : k.signed = false := h
  have h1 : (1 : Nat) ≤ 2 ^ k.bits := Nat.one_le_two_pow
  have hm : k.max = ((2 ^ k.bits - 1 : Nat) : Int) := by
    rw [Int.natCast_sub h1]
    simp [IntKind.max, h']
  have hr := run_xor (P := P) (s := s) (a := 2 ^ k.bits - 1) (b := a) h (by omega) ha w
  simp only [Op.unary, h', hm]
  simpa [Go.binOp] using hr
theorem Pv.xor (hx : evo n ρ x = some (.int k i)) (hy : evo n ρ y = some (.int k j)) (h : Uk k) (hi : i = (a : Int)) (hj : j = (b : Int)) (ha : a < 2 ^ k.bits) (hb : b < 2 ^ k.bits) : Pv P n ρ (.binOp .xor s x y s') ty (.int k ((a ^^^ b : Nat) : Int)) := by
  subst hi hj; exact Pv.binOp hx hy (run_guard_int _ _ _ _ _ _) (run_xor h ha hb)
theorem Pv.and (hx : evo n ρ x = some (.int k i)) (hy : evo n ρ y = some (.int k j)) (h : Uk k) (hi : i = (a : Int)) (hj : j = (b : Int)) (ha : a < 2 ^ k.bits) (hb : b < 2 ^ k.bits) : Pv P n ρ (.binOp .and s x y s') ty (.int k ((a &&& b : Nat) : Int)) := by
  subst hi hj; exact Pv.binOp hx hy (run_guard_int _ _ _ _ _ _) (run_and h ha hb)
theorem Pv.or (hx : evo n ρ x = some (.int k i)) (hy : evo n ρ y = some (.int k j)) (h : Uk k) (hi : i = (a : Int)) (hj : j = (b : Int)) (ha : a < 2 ^ k.bits) (hb : b < 2 ^ k.bits) : Pv P n ρ (.binOp .or s x y s') ty (.int k ((a ||| b : Nat) : Int)) := by
  subst hi hj; exact Pv.binOp hx hy (run_guard_int _ _ _ _ _ _) (run_or h ha hb)
theorem Pv.shr {l : IntKind} (hx : evo n ρ x = some (.int k i)) (hy : evo n ρ y = some (.int l j)) (hi : i = (a : Int)) (hj : j = (b : Int)) (hb : b ≤ k.bits) : Pv P n ρ (.binOp .shr s x y s') ty (.int k ((a / 2 ^ b : Nat) : Int)) := by
  subst hi hj; exact Pv.binOp hx hy (run_guard_int _ _ _ _ _ _) (run_shr hb)
theorem Pv.shl {l : IntKind} (hx : evo n ρ x = some (.int k i)) (hy : evo n ρ y = some (.int l j)) (h : Uk k) (hi : i = (a : Int)) (hj : j = (b : Int)) (hb : b ≤ k.bits) (hab : a * 2 ^ b < 2 ^ k.bits) : Pv P n ρ (.binOp .shl s x y s') ty (.int k ((a * 2 ^ b : Nat) : Int)) := by
  subst hi hj; exact Pv.binOp hx hy (run_guard_int _ _ _ _ _ _) (run_shl h hb hab)
theorem uk_wrap_mod {k : IntKind} (h : Uk k) (a : Nat) : k.wrap (a : Int) = ((a % 2 ^ k.bits : Nat) : Int) := by
  have h' : k.signed = false := h
  have e2 : ((2 : Int) ^ k.bits) = ((2 ^ k.bits : Nat) : Int) := by simp
  simp only [IntKind.wrap, h', e2]
  rw [← Int.natCast_emod]
  simp
theorem Pv.shlw {l : IntKind} (hx : evo n ρ x = some (.int k i)) (hy : evo n ρ y = some (.int l j)) (h : Uk k) (hi : i = (a : Int)) (hj : j = (b : Int)) (hb : b ≤ k.bits) : Pv P n ρ (.binOp .shl s x y s') ty (.int k ((a * 2 ^ b % 2 ^ k.bits : Nat) : Int)) := by
  subst hi hj
  refine Pv.binOp hx hy (run_guard_int _ _ _ _ _ _) fun w => ?_
  have h0 : ¬ ((b : Int) < 0) := by omega
  have e2 : (a : Int) * 2 ^ b = ((a * 2 ^ b : Nat) : Int) := by simp
  simp only [Go.binOp, Op.shift, h0, if_false, Int.toNat_natCast, Nat.min_eq_left hb]
  rw [e2, uk_wrap_mod h]
  rfl
theorem Pv.quon (hx : evo n ρ x = some (.int k i)) (hy : evo n ρ y = some (.int k j)) (h : Uk k) (hi : i = (a : Int)) (hj : j = (b : Int)) (ha : a < 2 ^ k.bits) (hb : 0 < b) : Pv P n ρ (.binOp .quo s x y s') ty (.int k ((a / b : Nat) : Int)) := by
  subst hi hj
  refine Pv.arith hx hy fun w => ?_
  have h0 : ¬ ((b : Int) = 0) := by omega
  have e1 : Int.tdiv (a : Int) (b : Int) = ((a / b : Nat) : Int) := Int.ofNat_tdiv a b |>.symm
  have e2 := uk_wrap h (Nat.lt_of_le_of_lt (Nat.div_le_self a b) ha)
  simp only [Go.binOp, Op.intDiv, h0, if_false, e1, e2, ne_eq, not_true_eq_false, Sem.run_pure]
theorem Pv.remn (hx : evo n ρ x = some (.int k i)) (hy : evo n ρ y = some (.int k j)) (hi : i = (a : Int)) (hj : j = (b : Int)) (hb : 0 < b) : Pv P n ρ (.binOp .rem s x y s') ty (.int k ((a % b : Nat) : Int)) := by
  subst hi hj
  refine Pv.arith hx hy fun w => ?_
  have h0 : ¬ ((b : Int) = 0) := by omega
  have e1 : Int.tmod (a : Int) (b : Int) = ((a % b : Nat) : Int) := Int.ofNat_tmod a b |>.symm
  simp only [Go.binOp, Op.intDiv, h0, if_false, e1, ne_eq, not_true_eq_false, Sem.run_pure]
theorem Pv.muln (hx : evo n ρ x = some (.int k i)) (hy : evo n ρ y = some (.int k j)) (h : Uk k) (hi : i = (a : Int)) (hj : j = (b : Int)) (hab : a * b < 2 ^ k.bits) : Pv P n ρ (.binOp .mul s x y s') ty (.int k ((a * b : Nat) : Int)) := by
  subst hi hj
  have e := uk_wrap h hab
  exact Pv.arith hx hy fun w => by simp only [Go.binOp, Op.intArith]; rw [← Int.natCast_mul, e]; simp
theorem Pv.addn (hx : evo n ρ x = some (.int k i)) (hy : evo n ρ y = some (.int k j)) (h : Uk k) (hi : i = (a : Int)) (hj : j = (b : Int)) (hab : a + b < 2 ^ k.bits) : Pv P n ρ (.binOp .add s x y s') ty (.int k ((a + b : Nat) : Int)) := by
  subst hi hj
  have e := uk_wrap h hab
  exact Pv.arith hx hy fun w => by simp only [Go.binOp, Op.intArith]; rw [← Int.natCast_add, e]; simp
end
end Go.Proofs.YtgciifalclgeeaaGreatDoor

/-
  The stepping engine, in short words: one word runs as far as nothing is to be chosen; and regions that draw their order, where some blocks are held.
-/
namespace Go.Proofs.YtgciifalclgeeaaGreatDoor
open Go.RowKit
set_option linter.unusedVariables false
set_option linter.unusedSimpArgs false
set_option linter.unusedSectionVars false
section
variable {P : Program} {n : Fm} {ρ ρ' : List (Nat × Value)} {W w w' : World} {g g' : Hl} {H H' : List HP} {Q : Exit → Act → World → Prop} {ops : Array Oper} {rest : List Oper} {d : Option Tmp} {ty : TypeId} {ps : String} {af : Array Edge} {v u : Value} {x y : Operand} {N : List (Nat × Value) → World → Prop} {o : Op} {b j k : Nat} {xs : List Value} {e t : TypeId}
/-- What is left of a goal. -/
structure Lf (G : Prop) : Prop where
  out : G
theorem nz_ {α : Type} {a b : α} (h : a = b := by first | (simp only [spl, Value.cells, List.set_cons_zero, List.set_cons_succ, List.drop_succ_cons, List.drop_zero, List.take_succ_cons, List.take_zero]; exact rfl) | exact rfl) : a = b := h
theorem fd_ (h : Fd H b xs e := by first | ((repeat (first | exact Fd.here | apply Fd.there)); done) | fail) : Fd H b xs e := h
theorem up_ {xs' : List Value} (h : Up b xs xs' e H H' := by first | ((repeat (first | exact Up.here | apply Up.there)); done) | fail) : Up b xs xs' e H H' := h
theorem wk_ (h : Weak ρ ρ' := by first | ((repeat (first | exact trivial | refine ⟨rfl, ?_⟩)); done) | fail) : Weak ρ ρ' := h
theorem sz_ {q : Nat} (h : (sizeOf t).run P w = .ok q w := by first | (go_simp; done) | (go_simp; exact rfl) | fail) : (sizeOf t).run P w = .ok q w := h
theorem Pv.makeInterface (hx : evo n ρ x = some u) (hr : ∀ w, (Instr.makeInterface t u).run P w = .ok v w) : Pv P n ρ (.makeInterface t x) ty v := Pv.mk fun a ha w d ps af g => by simp [execOp, ha.eval hx, hr]
theorem Pv.typeAssert {t2 : TypeId} {c : Bool} (hx : evo n ρ x = some u) (hr : ∀ w, (Instr.typeAssert u t t2 c).run P w = .ok v w) : Pv P n ρ (.typeAssert x t t2 c) ty v := Pv.mk fun a ha w d ps af g => by simp [execOp, ha.eval hx, hr]
theorem Pv.lenstr {xs : Array Operand} {l : List UInt8} (hx : evs n ρ xs.toList = some [.string ⟨l.toArray⟩]) (ht : P.underlying t = some .string) : Pv P n ρ (.call ⟨.builtin .len, xs, #[t]⟩) ty (.int .i64 l.length) := Pv.len hx fun w => by
  have : (ByteArray.mk l.toArray).size = l.length := by simp [ByteArray.size]
  simp [Builtin.len_, run_underlying ht, goInt, this]
theorem Pv.cat {s s' : TypeId} {l m : List UInt8} (hx : evo n ρ x = some (.string ⟨l.toArray⟩)) (hy : evo n ρ y = some (.string ⟨m.toArray⟩)) (hb : l.length + m.length ≤ 9223372036854775807) : Pv P n ρ (.binOp .add s x y s') ty (.string ⟨(l ++ m).toArray⟩) := Pv.binOp hx hy (fun w => by simp [eqGuard]) fun w => by
  have : (ByteArray.mk l.toArray) ++ (ByteArray.mk m.toArray) = ByteArray.mk (l ++ m).toArray := by
    apply ByteArray.ext
    simp
  have h1 : (ByteArray.mk l.toArray).size = l.length := by simp [ByteArray.size]
  have h2 : (ByteArray.mk m.toArray).size = m.length := by simp [ByteArray.size]
  simp [Go.binOp, Op.stringOp, this, h1, h2]
  omega
theorem Pv.minz {ts : Array TypeId} {xs : Array Operand} {k k' : IntKind} {i j : Int} (hx : evs n ρ xs.toList = some [.int k i, .int k' j]) : Pv P n ρ (.call ⟨.builtin .min, xs, ts⟩) ty (.int k (Min.min i j)) := Pv.min hx fun w => by
  have e : (if j < i then j else i) = Min.min i j := by omega
  simp [Builtin.min_, Builtin.min2, e]
theorem Pv.maxz {ts : Array TypeId} {xs : Array Operand} {k k' : IntKind} {i j : Int} (hx : evs n ρ xs.toList = some [.int k i, .int k' j]) : Pv P n ρ (.call ⟨.builtin .max, xs, ts⟩) ty (.int k (Max.max i j)) := Pv.max hx fun w => by
  have e : (if i < j then j else i) = Max.max i j := by omega
  simp [Builtin.max_, Builtin.max2, e]
/-- An operation that turns nothing, found. -/
theorem pvt (h : Pv P n ρ o ty v := by
    first
    | (apply Pv.auto; exact rfl)
    | ((first | apply Pv.add | apply Pv.sub | apply Pv.mul64 | apply Pv.remn | apply Pv.rem) <;> first | exact rfl | omega)
    | (apply Pv.quon <;> first | exact rfl | (simp only [IntKind.bits]; omega))
    | (apply Pv.quo <;> first | exact rfl | omega)
    | (apply Pv.conv; exact rfl; (intro w; go_simp <;> first | exact rfl | exact ⟨rfl, rfl⟩); (first | exact wrapu64_id (by omega) (by omega) | exact wrap64_id (by omega) (by omega) | exact wrapu8_id (by omega) (by omega) | exact wrapu32_id (by omega) (by omega) | exact wrapu16_id (by omega) (by omega) | exact u8_mod _ | exact u32_mod _ | exact u64_mod _ | exact rfl))
    | ((first | apply Pv.beq | apply Pv.bne); exact rfl; exact rfl; kernel_rfl)
    | ((first | apply Pv.xor | apply Pv.and | apply Pv.or | apply Pv.shr | apply Pv.shl) <;> first | exact rfl | (simp only [IntKind.bits, Nat.and_one_is_mod]; omega))
    | (apply Pv.shlw <;> first | exact rfl | (simp only [IntKind.bits]; omega))
    | ((first | apply Pv.addn | apply Pv.muln | apply Pv.notn) <;> first | exact rfl | (simp only [IntKind.bits, Nat.and_one_is_mod]; omega))
    | ((first | apply Pv.seq | apply Pv.sne) <;> exact rfl)
    | (apply Pv.cat; exact rfl; exact rfl; first | omega | (simp only [List.length_append, List.length_cons, List.length_nil]; omega))
    | (apply Pv.lenstr; exact rfl; kernel_rfl)
    | ((first | apply Pv.minz | apply Pv.maxz); exact rfl)
    | ((first | apply Pv.fieldAddr | apply Pv.len | apply Pv.indexAddr | apply Pv.build | apply Pv.field | apply Pv.makeFunc | apply Pv.makeInterface | apply Pv.typeAssert | apply Pv.convert | apply Pv.addw | apply Pv.subw | apply Pv.mulw | apply Pv.binOp) <;> first | exact rfl | (intro w; go_simp <;> first | exact rfl | exact ⟨rfl, rfl⟩))) : Pv P n ρ o ty v := h
theorem E.ld (hs : Sat W w g H) (h : E P n ops rest (pushv d v ρ) w Q) (hx : evo n ρ x = some (.pointer (some ⟨b, j, none⟩)) := by exact rfl) (hf : Fd H b xs e := by exact fd_) (hj : xs[j]? = some v := by exact rfl) (ha : (isAgg t).run P w = .ok false w := by first | (go_simp; done) | fail) :
    E P n ops (⟨d, .load t x, ty, ps, af, none⟩ :: rest) ρ w Q := E.cons (St.load hs hx hf hj ha h)
theorem E.ldc (h : E P n ops rest (pushv d v ρ) w Q) (hx : evo n ρ x = some (.pointer (some ⟨b, j, none⟩)) := by exact rfl) (hc : w.cell? ⟨b, j, none⟩ = some v := by assumption) (ha : (isAgg t).run P w = .ok false w := by first | (go_simp; done) | fail) :
    E P n ops (⟨d, .load t x, ty, ps, af, none⟩ :: rest) ρ w Q := E.cons (St.loadc hx hc ha h)
/-- A struct out of a part of a block. -/
theorem blk_range {vs : List Value} {w : World} (hb : Blk w b xs e) (hv : (xs.drop j).take vs.length = vs) : w.rangeAt b j vs := by
  intro q u hu
  rw [blk_cell hb]
  rw [← hv, List.getElem?_take] at hu
  split at hu
  · rw [List.getElem?_drop] at hu; exact hu
  · cases hu
theorem run_ldp {vs : List Value} {w : World} (st : AggOf P t k) (hb : Blk w b xs e) (hv : (xs.drop j).take k = vs) (hk : vs.length = k) : (loadVar t ⟨b, j, none⟩).run P w = .ok (.agg vs.toArray) w := by
  subst hk
  obtain ⟨d', h1, h2, h3⟩ := st
  exact run_loadVar_mid w b j t vs d' (blk_range hb hv) h1 (by cases d' <;> first | rfl | simp at h2) h3
theorem E.ldp {vs : List Value} (hs : Sat W w g H) (h : E P n ops rest (pushv d (.agg vs.toArray) ρ) w Q) (st : AggOf P t k := by assumption) (hx : evo n ρ x = some (.pointer (some ⟨b, j, none⟩)) := by exact rfl) (hf : Fd H b xs e := by exact fd_) (hv : (xs.drop j).take k = vs := by exact nz_) (hk : vs.length = k := by exact rfl) :
    E P n ops (⟨d, .load t x, ty, ps, af, none⟩ :: rest) ρ w Q := E.cons (St.loads hx (run_ldp st (hf.blk hs) hv hk) h)
/-- A call of a function, with its operands' values. -/
theorem E.callf {f : FuncId} {xs : Array Operand} {ts : Array TypeId} {vs : List Value} {fn : Func} {c : Code} (hf : P.funcs[f]? = some fn) (hx : evs n ρ xs.toList = some vs) (h : Calls P f vs.toArray w (Ret n d ρ (fun ρ' w' => E P n ops rest ρ' w' Q) Q)) (hb : fn.body = some c := by exact rfl) (hnm : (fn.name == "runtime.NumGoroutine") = false := by exact rfl) :
    E P n ops (⟨d, .call ⟨.value (.func f), xs, ts⟩, ty, ps, af, none⟩ :: rest) ρ w Q := E.call hf hb hnm hx h
theorem St.callf {f : FuncId} {xs : Array Operand} {ts : Array TypeId} {vs : List Value} {fn : Func} {c : Code} (hf : P.funcs[f]? = some fn) (hx : evs n ρ xs.toList = some vs) (h : Calls P f vs.toArray w (Ret n d ρ N Q)) (hb : fn.body = some c := by exact rfl) (hnm : (fn.name == "runtime.NumGoroutine") = false := by exact rfl) :
    St P n ops ⟨d, .call ⟨.value (.func f), xs, ts⟩, ty, ps, af, none⟩ ρ w N Q := St.call hf hb hnm hx h
/-- New blocks. -/
theorem E.al {z : Value} (hs : Sat W w g H) (h : ∀ b w', Sat W w' g (blk b xs e :: H) → E P n ops rest (pushv d (.pointer (some ⟨b, 0, none⟩)) ρ) w' Q) (hz : (zeroValue e).run P w = .ok z w := by go_simp; first | done | exact rfl | exact ⟨rfl, rfl⟩) (hx : z.cells.toList = xs := by exact nz_) :
    E P n ops (⟨d, .alloc e, ty, ps, af, none⟩ :: rest) ρ w Q := E.cons (St.alloc hs hz hx h)
theorem E.bx (hs : Sat W w g H) (h : ∀ b w', Sat W w' g (blk b xs e :: H) → E P n ops rest (pushv d (.pointer (some ⟨b, 0, none⟩)) ρ) w' Q) (hv : evo n ρ x = some v := by exact rfl) (hx : v.cells.toList = xs := by exact nz_) :
    E P n ops (⟨d, .box e x, ty, ps, af, none⟩ :: rest) ρ w Q := E.cons (St.box hs hv hx h)
theorem E.bsl {parts : Array (Nat × Operand)} {vs : List (Nat × Value)} {cs : List Value} (hs : Sat W w g H) (h : ∀ b w', Sat W w' g (blk b cs e :: H) → E P n ops rest (pushv d (.slice (some ⟨b, 0, none⟩) k k) ρ) w' Q) (hx : evp n ρ parts.toList = some vs := by exact rfl) (hr : (Instr.buildSlice t k vs.toArray).run P w = .ok (.slice (some ⟨w.heap.size, 0, none⟩) k k) (w.alloc (.cells cs.toArray e)) := by go_simp; first | done | exact rfl | exact ⟨rfl, rfl⟩) :
    E P n ops (⟨d, .buildSlice t k parts, ty, ps, af, none⟩ :: rest) ρ w Q := E.cons (St.buildSlice hs hx hr h)
/-- A store into a block that is owned. -/
theorem St.sto {vs ys : List Value} (hs : Sat W w g H) (h : ∀ w', Sat W w' g H' → N ρ w') (hx : evo n ρ x = some (.pointer (some ⟨b, j, none⟩)) := by exact rfl) (hy : evo n ρ y = some v := by exact rfl) (hv : v.cells.toList = vs := by exact nz_) (hf : Fd H b xs e := by exact fd_) (hsp : spl xs j vs = ys := by exact nz_) (hu : Up b xs ys e H H' := by exact up_) (hj : Nat.ble (j + vs.length) xs.length = true := by exact rfl) (h1 : vs.all Value.oneCell' = true := by exact rfl) (ht : (sizeOf t).run P w = .ok vs.length w := by exact sz_) :
    St P n ops ⟨none, .store t x y, ty, ps, af, none⟩ ρ w N Q := St.store hs hx hy hv (by subst hsp; exact hu) hj h1 ht h
theorem E.sto {vs ys : List Value} (hs : Sat W w g H) (h : ∀ w', Sat W w' g H' → E P n ops rest ρ w' Q) (hx : evo n ρ x = some (.pointer (some ⟨b, j, none⟩)) := by exact rfl) (hy : evo n ρ y = some v := by exact rfl) (hv : v.cells.toList = vs := by exact nz_) (hf : Fd H b xs e := by exact fd_) (hsp : spl xs j vs = ys := by exact nz_) (hu : Up b xs ys e H H' := by exact up_) (hj : Nat.ble (j + vs.length) xs.length = true := by exact rfl) (h1 : vs.all Value.oneCell' = true := by exact rfl) (ht : (sizeOf t).run P w = .ok vs.length w := by exact sz_) :
    E P n ops (⟨none, .store t x y, ty, ps, af, none⟩ :: rest) ρ w Q := E.cons (St.store hs hx hy hv (by subst hsp; exact hu) hj h1 ht h)
theorem St.bx (hs : Sat W w g H) (h : ∀ b w', Sat W w' g (blk b xs e :: H) → N (pushv d (.pointer (some ⟨b, 0, none⟩)) ρ) w') (hv : evo n ρ x = some v := by exact rfl) (hx : v.cells.toList = xs := by exact nz_) :
    St P n ops ⟨d, .box e x, ty, ps, af, none⟩ ρ w N Q := St.box hs hv hx h
theorem St.bsl {parts : Array (Nat × Operand)} {vs : List (Nat × Value)} {cs : List Value} (hs : Sat W w g H) (h : ∀ b w', Sat W w' g (blk b cs e :: H) → N (pushv d (.slice (some ⟨b, 0, none⟩) k k) ρ) w') (hx : evp n ρ parts.toList = some vs := by exact rfl) (hr : (Instr.buildSlice t k vs.toArray).run P w = .ok (.slice (some ⟨w.heap.size, 0, none⟩) k k) (w.alloc (.cells cs.toArray e)) := by go_simp; first | done | exact rfl | exact ⟨rfl, rfl⟩) :
    St P n ops ⟨d, .buildSlice t k parts, ty, ps, af, none⟩ ρ w N Q := St.buildSlice hs hx hr h
/-- A panic, and where it leads. -/
theorem E.panic {t : TypeId} (h : A n (.panic [{ v := .iface t v, recovered := false }]) ρ w Q) (hx : evo n ρ x = some (.iface t v) := by exact rfl) : E P n ops (⟨d, .panic x, ty, ps, af, none⟩ :: rest) ρ w Q := E.cons (St.mk fun a ha K hK => by
  rw [if_pos wanted_none]
  unfold Oper.wp
  have hr : (execOp a.eval ⟨d, .panic x, ty, ps, af, none⟩).run P w = .halt (.panic (.iface t v)) w := by
    simp [execOp, ha.eval hx, Instr.panic]
  rw [hr]
  exact A.use h ha)
theorem A.pan {m : Nat} {fn : Func} {R : Ending → World → Prop} {ch : List PanicEntry} (h : R (.panicked ch) w) : A ⟨m, []⟩ (.panic ch) ρ w (bodyPost P fn R) := A.mk fun a ha => ⟨ha.defers, h⟩
/-- The deferred calls are made, then the results are read. -/
theorem L.callf {m : Nat} {fn' : Func} {R : Ending → World → Prop} {m' : FrameMode} {ds : List Deferred} {f : FuncId} {vs : List Value} {fn : Func} {c : Code} (hf : P.funcs[f]? = some fn) (h : CallsD P f vs.toArray m' w (RetD P ⟨m, ds⟩ fn' ρ R)) (hu : m' ≠ .run := by simp) (hb : fn.body = some c := by exact rfl) (hnm : (fn.name == "runtime.NumGoroutine") = false := by exact rfl) : L P ⟨m, ⟨.fn (.func f) #[], vs.toArray⟩ :: ds⟩ fn' ρ R m' w :=
  L.call hu (by
    have hnm' : ¬ fn.name = "runtime.NumGoroutine" := by simpa using hnm
    simp [invoke, callFunc, hf, hnm', hb]) h
theorem run_lda (hs : Sat W w g H) (st : AggOf P t k) (hf : Fd H b xs e := by exact fd_) (hk : xs.length = k := by exact rfl) : (loadVar t ⟨b, 0, none⟩).run P w = .ok (.agg xs.toArray) w := by
  subst hk
  exact run_load_blk st (hf.blk hs)
theorem L.c2 {m : Nat} {fn : Func} {R : Ending → World → Prop} {p q : Tmp} {t1 t2 : TypeId} {pa pb : Addr} {v1 v2 : Value} (hr : fn.results = #[.cell p t1, .cell q t2]) (hp : evo ⟨m, []⟩ ρ (.tmp p) = some (.pointer (some pa))) (hq : evo ⟨m, []⟩ ρ (.tmp q) = some (.pointer (some pb))) (h1 : (loadVar t1 pa).run P w = .ok v1 w) (h2 : (loadVar t2 pb).run P w = .ok v2 w) (h : R (.returned (.tuple #[v1, v2])) w) : L P ⟨m, []⟩ fn ρ R .returning w :=
  L.done fun a ha => by
    refine ⟨_, ?_, h⟩
    have hp' : a.tmps[p]?.getD undef = .pointer (some pa) := by simpa [Act.eval] using ha.eval hp
    have hq' : a.tmps[q]?.getD undef = .pointer (some pb) := by simpa [Act.eval] using ha.eval hq
    simp [results, hr, hp', hq', asAddr, h1, h2]
theorem L.c1 {m : Nat} {fn : Func} {R : Ending → World → Prop} {p : Tmp} {t1 : TypeId} {pa : Addr} {v1 : Value} (hr : fn.results = #[.cell p t1]) (hp : evo ⟨m, []⟩ ρ (.tmp p) = some (.pointer (some pa))) (h1 : (loadVar t1 pa).run P w = .ok v1 w) (h : R (.returned v1) w) : L P ⟨m, []⟩ fn ρ R .returning w :=
  L.done fun a ha => by
    refine ⟨_, ?_, h⟩
    have hp' : a.tmps[p]?.getD undef = .pointer (some pa) := by simpa [Act.eval] using ha.eval hp
    simp [results, hr, hp', asAddr, h1]
/-- Results that lie in memory, without deferred calls. -/
theorem A.c2 {m : Nat} {fn : Func} {R : Ending → World → Prop} {p q : Tmp} {t1 t2 : TypeId} {pa pb : Addr} {v1 v2 : Value} (hr : fn.results = #[.cell p t1, .cell q t2]) (hp : evo ⟨m, []⟩ ρ (.tmp p) = some (.pointer (some pa))) (hq : evo ⟨m, []⟩ ρ (.tmp q) = some (.pointer (some pb))) (h1 : (loadVar t1 pa).run P w = .ok v1 w) (h2 : (loadVar t2 pb).run P w = .ok v2 w) (h : R (.returned (.tuple #[v1, v2])) w) : A ⟨m, []⟩ .ret ρ w (bodyPost P fn R) :=
  Go.Proofs.YtgciifalclgeeaaGreatDoor.A.mk fun a ha => by
    refine ⟨ha.defers, _, ?_, h⟩
    have hp' : a.tmps[p]?.getD undef = .pointer (some pa) := by simpa [Act.eval] using ha.eval hp
    have hq' : a.tmps[q]?.getD undef = .pointer (some pb) := by simpa [Act.eval] using ha.eval hq
    simp [results, hr, hp', hq', asAddr, h1, h2]
theorem A.c1 {m : Nat} {fn : Func} {R : Ending → World → Prop} {p : Tmp} {t1 : TypeId} {pa : Addr} {v1 : Value} (hr : fn.results = #[.cell p t1]) (hp : evo ⟨m, []⟩ ρ (.tmp p) = some (.pointer (some pa))) (h1 : (loadVar t1 pa).run P w = .ok v1 w) (h : R (.returned v1) w) : A ⟨m, []⟩ .ret ρ w (bodyPost P fn R) :=
  Go.Proofs.YtgciifalclgeeaaGreatDoor.A.mk fun a ha => by
    refine ⟨ha.defers, _, ?_, h⟩
    have hp' : a.tmps[p]?.getD undef = .pointer (some pa) := by simpa [Act.eval] using ha.eval hp
    simp [results, hr, hp', asAddr, h1]
theorem A.c1t1 {m : Nat} {fn : Func} {R : Ending → World → Prop} {p q : Tmp} {t1 : TypeId} {pa : Addr} {v1 v2 : Value} (hr : fn.results = #[.cell p t1, .tmp q]) (hp : evo ⟨m, []⟩ ρ (.tmp p) = some (.pointer (some pa))) (hq : evo ⟨m, []⟩ ρ (.tmp q) = some v2) (h1 : (loadVar t1 pa).run P w = .ok v1 w) (h : R (.returned (.tuple #[v1, v2])) w) : A ⟨m, []⟩ .ret ρ w (bodyPost P fn R) :=
  Go.Proofs.YtgciifalclgeeaaGreatDoor.A.mk fun a ha => by
    refine ⟨ha.defers, _, ?_, h⟩
    have hp' : a.tmps[p]?.getD undef = .pointer (some pa) := by simpa [Act.eval] using ha.eval hp
    have hq' : a.tmps[q]?.getD undef = v2 := by simpa [Act.eval] using ha.eval hq
    simp [results, hr, hp', hq', asAddr, h1]
/-- Out of a function. -/
theorem A.r0 {m : Nat} {fn : Func} {R : Ending → World → Prop} (h : R (.returned (.tuple #[])) w) (hr : fn.results = #[] := by exact rfl) : A ⟨m, []⟩ .ret ρ w (bodyPost P fn R) := A.ret0 hr h
theorem A.e0 {m : Nat} {fn : Func} {R : Ending → World → Prop} (h : R (.returned (.tuple #[])) w) (hr : fn.results = #[] := by exact rfl) : A ⟨m, []⟩ .normal ρ w (bodyPost P fn R) := A.end0 hr h
theorem A.r1 {m : Nat} {fn : Func} {R : Ending → World → Prop} {t : Tmp} {v : Value} (h : R (.returned v) w) (hr : fn.results = #[.tmp t] := by exact rfl) (hv : evo ⟨m, []⟩ ρ (.tmp t) = some v := by exact rfl) : A ⟨m, []⟩ .ret ρ w (bodyPost P fn R) := A.ret1 hr hv h
theorem A.r2 {m : Nat} {fn : Func} {R : Ending → World → Prop} {t u : Tmp} {v x : Value} (h : R (.returned (.tuple #[v, x])) w) (hr : fn.results = #[.tmp t, .tmp u] := by exact rfl) (hv : evo ⟨m, []⟩ ρ (.tmp t) = some v := by exact rfl) (hx : evo ⟨m, []⟩ ρ (.tmp u) = some x := by exact rfl) : A ⟨m, []⟩ .ret ρ w (bodyPost P fn R) := A.ret2 hr hv hx h
theorem A.r3 {m : Nat} {fn : Func} {R : Ending → World → Prop} {t u s : Tmp} {v x y : Value} (h : R (.returned (.tuple #[v, x, y])) w) (hr : fn.results = #[.tmp t, .tmp u, .tmp s] := by exact rfl) (hv : evo ⟨m, []⟩ ρ (.tmp t) = some v := by exact rfl) (hx : evo ⟨m, []⟩ ρ (.tmp u) = some x := by exact rfl) (hy : evo ⟨m, []⟩ ρ (.tmp s) = some y := by exact rfl) : A ⟨m, []⟩ .ret ρ w (bodyPost P fn R) := A.ret3 hr hv hx hy h
theorem A.rd {α : Type} {f : α → List (Nat × Value)} {I : Nat → α → World → Prop} {g : Nat} (g' : Nat) (x : α) (hI : I g' x w) (hg : g' < g := by first | omega | (simp only [List.length_append, List.length_cons, List.length_nil]; omega) | (simp; done) | (simp; omega)) (hw : Weak ρ (f x) := by exact wk_) : A n .normal ρ w (Exit.then (Round n f I g) Q) := A.round g' x hg hw hI
theorem C.lp {α : Type} {c : Code} (f : α → List (Nat × Value)) (I : Nat → α → World → Prop) (g : Nat) (x : α) (h0 : I g x w) (round : ∀ g x w, I g x w → C P n c (f x) w (Exit.then (Round n f I g) Q)) (hw : Weak ρ (f x) := by exact wk_) : C P n (.loop c) ρ w Q := C.loop f I g x hw h0 round
/-- As far as nothing is to be chosen. -/
theorem go {G G' : Prop} (k : G') (h : Lf G' → G := by
    intro kkk
    repeat (first
      | apply E.pv pvt
      | (first | apply C.region_seq | apply E.nil | apply A.next | apply A.ret_then | apply A.exit_then | apply A.block_end | apply A.block_ret | apply A.panic_then | apply A.block_panic | apply A.pan | apply A.leave | apply A.leave_panic | apply A.leave_end | (apply E.deferf; exact rfl) | apply A.block_exit | apply C.seq | apply C.region | apply C.skip | apply C.ret | apply C.exit)
      | (apply E.guard; exact rfl; exact rfl)
      | (apply E.passed; exact rfl; exact rfl; exact rfl)
      | (apply E.passedU; exact rfl; exact rfl)
      | ((first | apply A.block_other | apply C.cond_true); exact rfl)
      | (apply C.cond_false; exact rfl)
      | apply C.block
      | refine E.ld hs ?_
      | refine E.ldc ?_
      | refine E.ldp hs ?_)
    exact kkk.out) : G := h ⟨k⟩
/-- The same, but no block is entered. -/
theorem gob {G G' : Prop} (k : G') (h : Lf G' → G := by
    intro kkk
    repeat (first
      | apply E.pv pvt
      | (first | apply C.region_seq | apply E.nil | apply A.next | apply A.ret_then | apply A.exit_then | apply A.block_end | apply A.block_ret | apply A.panic_then | apply A.block_panic | apply A.pan | apply A.leave | apply A.leave_panic | apply A.leave_end | (apply E.deferf; exact rfl) | apply A.block_exit | apply C.seq | apply C.region | apply C.skip | apply C.ret | apply C.exit)
      | (apply E.guard; exact rfl; exact rfl)
      | (apply E.passed; exact rfl; exact rfl; exact rfl)
      | (apply E.passedU; exact rfl; exact rfl)
      | ((first | apply A.block_other | apply C.cond_true); exact rfl)
      | (apply C.cond_false; exact rfl)
      | refine E.ld hs ?_
      | refine E.ldc ?_
      | refine E.ldp hs ?_)
    exact kkk.out) : G := h ⟨k⟩
end
end Go.Proofs.YtgciifalclgeeaaGreatDoor
