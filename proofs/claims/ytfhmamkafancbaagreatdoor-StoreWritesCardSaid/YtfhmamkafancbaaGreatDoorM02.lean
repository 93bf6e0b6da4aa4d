/-
  The stepping engine, in short words: one word runs as far as nothing is to be chosen; and regions that draw their order, where some blocks are held.
-/
import Derived.Test.YtfhmamkafancbaaGreatDoorM01
import Derived.OrdersHeld
import Derived.Deep.MidRow
import Derived.Laws.OwnMore
import Derived.ArgAppend
import Derived.Maps.RangeRun
namespace Go.Proofs.YtfhmamkafancbaaGreatDoor
open Go.RowKit
set_option linter.unusedVariables false
set_option linter.unusedSimpArgs false
set_option linter.unusedSectionVars false
section
variable {P : Program} {n : Fm} {ρ ρ' : List (Nat × Value)} {W w w' : World} {g g' : Hl} {H H' : List HP} {Q : Exit → Act → World → Prop} {ops : Array Oper} {rest : List Oper} {d : Option Tmp} {ty : TypeId} {ps : String} {af : Array Edge} {v u : Value} {x y : Operand} {N : List (Nat × Value) → World → Prop} {o : Op} {b j k : Nat} {xs : List Value} {e t : TypeId}
/-- What is left of a goal. -/
structure Lf (G : Prop) : Prop where
  out : G
theorem nz_ {α : Type} {a b : α} (h : a = b := by first | (simp only [spl, Value.cells, List.set_cons_zero, List.set_cons_succ, List.drop_succ_cons, List.drop_zero, List.take_succ_cons, List.take_zero]; exact rfl) | exact rfl) : a = b := h
theorem fd_ (h : Fd H b xs e := by first | ((repeat (first | exact Fd.here | apply Fd.there)); done) | fail) : Fd H b xs e := h
theorem up_ {xs' : List Value} (h : Up b xs xs' e H H' := by first | ((repeat (first | exact Up.here | apply Up.there)); done) | fail) : Up b xs xs' e H H' := h
theorem wk_ (h : Weak ρ ρ' := by first | ((repeat (first | exact trivial | refine ⟨rfl, ?_⟩)); done) | fail) : Weak ρ ρ' := h
theorem sz_ {q : Nat} (h : (sizeOf t).run P w = .ok q w := by first | (go_simp; done) | (go_simp; exact rfl) | fail) : (sizeOf t).run P w = .ok q w := h
theorem Pv.makeInterface (hx : evo n ρ x = some u) (hr : ∀ w, (Instr.makeInterface t u).run P w = .ok v w) : Pv P n ρ (.makeInterface t x) ty v := Pv.mk fun a ha w d ps af g => by simp [execOp, ha.eval hx, hr]
theorem Pv.typeAssert {t2 : TypeId} {c : Bool} (hx : evo n ρ x = some u) (hr : ∀ w, (Instr.typeAssert u t t2 c).run P w = .ok v w) : Pv P n ρ (.typeAssert x t t2 c) ty v := Pv.mk fun a ha w d ps af g => by simp [execOp, ha.eval hx, hr]
theorem Pv.lenstr {xs : Array Operand} {l : List UInt8} (hx : evs n ρ xs.toList = some [.string ⟨l.toArray⟩]) (ht : P.underlying t = some .string) : Pv P n ρ (.call ⟨.builtin .len, xs, #[t]⟩) ty (.int .i64 l.length) := Pv.len hx fun w => by
  have : (ByteArray.mk l.toArray).size = l.length := by simp [ByteArray.size]
  simp [Builtin.len_, run_underlying ht, goInt, this]
theorem Pv.cat {s s' : TypeId} {l m : List UInt8} (hx : evo n ρ x = some (.string ⟨l.toArray⟩)) (hy : evo n ρ y = some (.string ⟨m.toArray⟩)) (hb : l.length + m.length ≤ 9223372036854775807) : Pv P n ρ (.binOp .add s x y s') ty (.string ⟨(l ++ m).toArray⟩) := Pv.binOp hx hy (fun w => by simp [eqGuard]) fun w => by
  have : (ByteArray.mk l.toArray) ++ (ByteArray.mk m.toArray) = ByteArray.mk (l ++ m).toArray := by
    apply ByteArray.ext
    simp
  have h1 : (ByteArray.mk l.toArray).size = l.length := by simp [ByteArray.size]
  have h2 : (ByteArray.mk m.toArray).size = m.length := by simp [ByteArray.size]
  simp [Go.binOp, Op.stringOp, this, h1, h2]
  omega
theorem Pv.minz {ts : Array TypeId} {xs : Array Operand} {k k' : IntKind} {i j : Int} (hx : evs n ρ xs.toList = some [.int k i, .int k' j]) : Pv P n ρ (.call ⟨.builtin .min, xs, ts⟩) ty (.int k (Min.min i j)) := Pv.min hx fun w => by
  have e : (if j < i then j else i) = Min.min i j := by omega
  simp [Builtin.min_, Builtin.min2, e]
theorem Pv.maxz {ts : Array TypeId} {xs : Array Operand} {k k' : IntKind} {i j : Int} (hx : evs n ρ xs.toList = some [.int k i, .int k' j]) : Pv P n ρ (.call ⟨.builtin .max, xs, ts⟩) ty (.int k (Max.max i j)) := Pv.max hx fun w => by
  have e : (if i < j then j else i) = Max.max i j := by omega
  simp [Builtin.max_, Builtin.max2, e]
/-- An operation that turns nothing, found. -/
theorem pvt (h : Pv P n ρ o ty v := by
    first
    | (apply Pv.auto; exact rfl)
    | ((first | apply Pv.add | apply Pv.sub | apply Pv.mul64 | apply Pv.remn | apply Pv.rem) <;> first | exact rfl | omega)
    | (apply Pv.quon <;> first | exact rfl | (simp only [IntKind.bits]; omega))
    | (apply Pv.quo <;> first | exact rfl | omega)
    | (apply Pv.conv; exact rfl; (intro w; go_simp <;> first | exact rfl | exact ⟨rfl, rfl⟩); (first | exact wrapu64_id (by omega) (by omega) | exact wrap64_id (by omega) (by omega) | exact wrapu8_id (by omega) (by omega) | exact wrapu32_id (by omega) (by omega) | exact wrapu16_id (by omega) (by omega) | exact u8_mod _ | exact u32_mod _ | exact u64_mod _ | exact rfl))
    | ((first | apply Pv.beq | apply Pv.bne); exact rfl; exact rfl; kernel_rfl)
    | ((first | apply Pv.xor | apply Pv.and | apply Pv.or | apply Pv.shr | apply Pv.shl) <;> first | exact rfl | (simp only [IntKind.bits, Nat.and_one_is_mod]; omega))
    | (apply Pv.shlw <;> first | exact rfl | (simp only [IntKind.bits]; omega))
    | ((first | apply Pv.addn | apply Pv.muln | apply Pv.notn) <;> first | exact rfl | (simp only [IntKind.bits, Nat.and_one_is_mod]; omega))
    | ((first | apply Pv.seq | apply Pv.sne) <;> exact rfl)
    | (apply Pv.cat; exact rfl; exact rfl; first | omega | (simp only [List.length_append, List.length_cons, List.length_nil]; omega))
    | (apply Pv.lenstr; exact rfl; kernel_rfl)
    | ((first | apply Pv.minz | apply Pv.maxz); exact rfl)
    | ((first | apply Pv.fieldAddr | apply Pv.len | apply Pv.indexAddr | apply Pv.build | apply Pv.field | apply Pv.makeFunc | apply Pv.makeInterface | apply Pv.typeAssert | apply Pv.convert | apply Pv.addw | apply Pv.subw | apply Pv.mulw | apply Pv.binOp) <;> first | exact rfl | (intro w; go_simp <;> first | exact rfl | exact ⟨rfl, rfl⟩))) : Pv P n ρ o ty v := h
theorem E.ld (hs : Sat W w g H) (h : E P n ops rest (pushv d v ρ) w Q) (hx : evo n ρ x = some (.pointer (some ⟨b, j, none⟩)) := by exact rfl) (hf : Fd H b xs e := by exact fd_) (hj : xs[j]? = some v := by exact rfl) (ha : (isAgg t).run P w = .ok false w := by first | (go_simp; done) | fail) :
    E P n ops (⟨d, .load t x, ty, ps, af, none⟩ :: rest) ρ w Q := E.cons (St.load hs hx hf hj ha h)
theorem E.lda (hs : Sat W w g H) (st : AggOf P t k) (h : E P n ops rest (pushv d (.agg xs.toArray) ρ) w Q) (hx : evo n ρ x = some (.pointer (some ⟨b, 0, none⟩)) := by exact rfl) (hf : Fd H b xs e := by exact fd_) (hk : xs.length = k := by exact rfl) :
    E P n ops (⟨d, .load t x, ty, ps, af, none⟩ :: rest) ρ w Q := E.cons (St.loada hs hx hf st hk h)
theorem E.ldc (h : E P n ops rest (pushv d v ρ) w Q) (hx : evo n ρ x = some (.pointer (some ⟨b, j, none⟩)) := by exact rfl) (hc : w.cell? ⟨b, j, none⟩ = some v := by assumption) (ha : (isAgg t).run P w = .ok false w := by first | (go_simp; done) | fail) :
    E P n ops (⟨d, .load t x, ty, ps, af, none⟩ :: rest) ρ w Q := E.cons (St.loadc hx hc ha h)
/-- A struct out of a part of a block. -/
theorem blk_range {vs : List Value} {w : World} (hb : Blk w b xs e) (hv : (xs.drop j).take vs.length = vs) : w.rangeAt b j vs := by
  intro q u hu
  rw [blk_cell hb]
  rw [← hv, List.getElem?_take] at hu
  split at hu
  · rw [List.getElem?_drop] at hu; exact hu
  · cases hu
theorem run_ldp {vs : List Value} {w : World} (st : AggOf P t k) (hb : Blk w b xs e) (hv : (xs.drop j).take k = vs) (hk : vs.length = k) : (loadVar t ⟨b, j, none⟩).run P w = .ok (.agg vs.toArray) w := by
  subst hk
  obtain ⟨d', h1, h2, h3⟩ := st
  exact run_loadVar_mid w b j t vs d' (blk_range hb hv) h1 (by cases d' <;> first | rfl | simp at h2) h3
theorem E.ldp {vs : List Value} (hs : Sat W w g H) (h : E P n ops rest (pushv d (.agg vs.toArray) ρ) w Q) (st : AggOf P t k := by assumption) (hx : evo n ρ x = some (.pointer (some ⟨b, j, none⟩)) := by exact rfl) (hf : Fd H b xs e := by exact fd_) (hv : (xs.drop j).take k = vs := by exact nz_) (hk : vs.length = k := by exact rfl) :
    E P n ops (⟨d, .load t x, ty, ps, af, none⟩ :: rest) ρ w Q := E.cons (St.loads hx (run_ldp st (hf.blk hs) hv hk) h)
/-- A call of a function, with its operands' values. -/
theorem E.callf {f : FuncId} {xs : Array Operand} {ts : Array TypeId} {vs : List Value} {fn : Func} {c : Code} (hf : P.funcs[f]? = some fn) (hx : evs n ρ xs.toList = some vs) (h : Calls P f vs.toArray w (Ret n d ρ (fun ρ' w' => E P n ops rest ρ' w' Q) Q)) (hb : fn.body = some c := by exact rfl) (hnm : (fn.name == "runtime.NumGoroutine") = false := by exact rfl) :
    E P n ops (⟨d, .call ⟨.value (.func f), xs, ts⟩, ty, ps, af, none⟩ :: rest) ρ w Q := E.call hf hb hnm hx h
theorem St.callf {f : FuncId} {xs : Array Operand} {ts : Array TypeId} {vs : List Value} {fn : Func} {c : Code} (hf : P.funcs[f]? = some fn) (hx : evs n ρ xs.toList = some vs) (h : Calls P f vs.toArray w (Ret n d ρ N Q)) (hb : fn.body = some c := by exact rfl) (hnm : (fn.name == "runtime.NumGoroutine") = false := by exact rfl) :
    St P n ops ⟨d, .call ⟨.value (.func f), xs, ts⟩, ty, ps, af, none⟩ ρ w N Q := St.call hf hb hnm hx h
/-- A call of a function's value. -/
theorem St.callw {f : FuncId} {xs : Array Operand} {ts : Array TypeId} {vs as' : List Value} {fs cs : Array Value} {fn : Func} {c : Code} (hf : P.funcs[f]? = some fn) (hv : evo n ρ x = some (.func (.func f) fs cs)) (hx : evs n ρ xs.toList = some vs) (ha : fs ++ vs.toArray ++ cs = as'.toArray) (h : Calls P f as'.toArray w (Ret n d ρ N Q)) (hb : fn.body = some c := by exact rfl) (hnm : (fn.name == "runtime.NumGoroutine") = false := by exact rfl) :
    St P n ops ⟨d, .call ⟨.value x, xs, ts⟩, ty, ps, af, none⟩ ρ w N Q := St.callv hv hf hb hnm hx (by rw [ha]; exact h)
theorem E.callv {f : FuncId} {xs : Array Operand} {ts : Array TypeId} {vs as' : List Value} {fs cs : Array Value} {fn : Func} {c : Code} (hf : P.funcs[f]? = some fn) (hv : evo n ρ x = some (.func (.func f) fs cs)) (hx : evs n ρ xs.toList = some vs) (ha : fs ++ vs.toArray ++ cs = as'.toArray) (h : Calls P f as'.toArray w (Ret n d ρ (fun ρ' w' => E P n ops rest ρ' w' Q) Q)) (hb : fn.body = some c := by exact rfl) (hnm : (fn.name == "runtime.NumGoroutine") = false := by exact rfl) :
    E P n ops (⟨d, .call ⟨.value x, xs, ts⟩, ty, ps, af, none⟩ :: rest) ρ w Q := E.cons (St.callw hf hv hx ha h hb hnm)
/-- New blocks. -/
theorem E.al {z : Value} (hs : Sat W w g H) (h : ∀ b w', Sat W w' g (blk b xs e :: H) → E P n ops rest (pushv d (.pointer (some ⟨b, 0, none⟩)) ρ) w' Q) (hz : (zeroValue e).run P w = .ok z w := by go_simp; first | done | exact rfl | exact ⟨rfl, rfl⟩) (hx : z.cells.toList = xs := by exact nz_) :
    E P n ops (⟨d, .alloc e, ty, ps, af, none⟩ :: rest) ρ w Q := E.cons (St.alloc hs hz hx h)
theorem E.bx (hs : Sat W w g H) (h : ∀ b w', Sat W w' g (blk b xs e :: H) → E P n ops rest (pushv d (.pointer (some ⟨b, 0, none⟩)) ρ) w' Q) (hv : evo n ρ x = some v := by exact rfl) (hx : v.cells.toList = xs := by exact nz_) :
    E P n ops (⟨d, .box e x, ty, ps, af, none⟩ :: rest) ρ w Q := E.cons (St.box hs hv hx h)
theorem E.bsl {parts : Array (Nat × Operand)} {vs : List (Nat × Value)} {cs : List Value} (hs : Sat W w g H) (h : ∀ b w', Sat W w' g (blk b cs e :: H) → E P n ops rest (pushv d (.slice (some ⟨b, 0, none⟩) k k) ρ) w' Q) (hx : evp n ρ parts.toList = some vs := by exact rfl) (hr : (Instr.buildSlice t k vs.toArray).run P w = .ok (.slice (some ⟨w.heap.size, 0, none⟩) k k) (w.alloc (.cells cs.toArray e)) := by go_simp; first | done | exact rfl | exact ⟨rfl, rfl⟩) :
    E P n ops (⟨d, .buildSlice t k parts, ty, ps, af, none⟩ :: rest) ρ w Q := E.cons (St.buildSlice hs hx hr h)
/-- A store into a block that is owned. -/
theorem St.sto {vs ys : List Value} (hs : Sat W w g H) (h : ∀ w', Sat W w' g H' → N ρ w') (hx : evo n ρ x = some (.pointer (some ⟨b, j, none⟩)) := by exact rfl) (hy : evo n ρ y = some v := by exact rfl) (hv : v.cells.toList = vs := by exact nz_) (hf : Fd H b xs e := by exact fd_) (hsp : spl xs j vs = ys := by exact nz_) (hu : Up b xs ys e H H' := by exact up_) (hj : Nat.ble (j + vs.length) xs.length = true := by exact rfl) (h1 : vs.all Value.oneCell' = true := by exact rfl) (ht : (sizeOf t).run P w = .ok vs.length w := by exact sz_) :
    St P n ops ⟨none, .store t x y, ty, ps, af, none⟩ ρ w N Q := St.store hs hx hy hv (by subst hsp; exact hu) hj h1 ht h
theorem E.sto {vs ys : List Value} (hs : Sat W w g H) (h : ∀ w', Sat W w' g H' → E P n ops rest ρ w' Q) (hx : evo n ρ x = some (.pointer (some ⟨b, j, none⟩)) := by exact rfl) (hy : evo n ρ y = some v := by exact rfl) (hv : v.cells.toList = vs := by exact nz_) (hf : Fd H b xs e := by exact fd_) (hsp : spl xs j vs = ys := by exact nz_) (hu : Up b xs ys e H H' := by exact up_) (hj : Nat.ble (j + vs.length) xs.length = true := by exact rfl) (h1 : vs.all Value.oneCell' = true := by exact rfl) (ht : (sizeOf t).run P w = .ok vs.length w := by exact sz_) :
    E P n ops (⟨none, .store t x y, ty, ps, af, none⟩ :: rest) ρ w Q := E.cons (St.store hs hx hy hv (by subst hsp; exact hu) hj h1 ht h)
theorem St.bx (hs : Sat W w g H) (h : ∀ b w', Sat W w' g (blk b xs e :: H) → N (pushv d (.pointer (some ⟨b, 0, none⟩)) ρ) w') (hv : evo n ρ x = some v := by exact rfl) (hx : v.cells.toList = xs := by exact nz_) :
    St P n ops ⟨d, .box e x, ty, ps, af, none⟩ ρ w N Q := St.box hs hv hx h
theorem St.bsl {parts : Array (Nat × Operand)} {vs : List (Nat × Value)} {cs : List Value} (hs : Sat W w g H) (h : ∀ b w', Sat W w' g (blk b cs e :: H) → N (pushv d (.slice (some ⟨b, 0, none⟩) k k) ρ) w') (hx : evp n ρ parts.toList = some vs := by exact rfl) (hr : (Instr.buildSlice t k vs.toArray).run P w = .ok (.slice (some ⟨w.heap.size, 0, none⟩) k k) (w.alloc (.cells cs.toArray e)) := by go_simp; first | done | exact rfl | exact ⟨rfl, rfl⟩) :
    St P n ops ⟨d, .buildSlice t k parts, ty, ps, af, none⟩ ρ w N Q := St.buildSlice hs hx hr h
/-- append onto an own row. -/
theorem E.app {s : Operand} {z : Value} {size bytes m c : Nat} {a : Option Addr} {news : List Value} (he : ElemOf P t e z size bytes) (hs : Sat W w g (own e size (.slice a k c) k xs :: H)) {D : Nat → Prop} (hrow : Row size w D u m news)
    (h : ∀ a' c' w', k + m ≤ c' → c' ≤ 9223372036854775807 → Sat W w' g (own e size (.slice a' (k + m) c') (k + m) (xs ++ news) :: H) → E P n ops rest (pushv d (.slice a' (k + m) c') ρ) w' Q) (h63 : k + m ≤ 9223372036854775807 := by omega) (hbytes : (k + m) * bytes ≤ 140737488355328 := by omega)
    (hx : evo n ρ s = some (.slice a k c) := by exact rfl) (hy : evo n ρ y = some u := by exact rfl) (h1 : ∀ x ∈ news, x.oneCell' = true := by first | exact bs_one _ | (intro u hu; simp only [List.mem_cons, List.not_mem_nil, or_false] at hu; rcases hu with rfl | rfl | rfl <;> exact rfl)) :
    E P n ops (⟨d, .call ⟨.builtin .append, #[s, y], #[t, t]⟩, ty, ps, af, none⟩ :: rest) ρ w Q := E.cons (St.append he hs hrow h1 h63 hbytes hx hy h)
/-- A panic, and where it leads. -/
theorem E.panic {t : TypeId} (h : A n (.panic [{ v := .iface t v, recovered := false }]) ρ w Q) (hx : evo n ρ x = some (.iface t v) := by exact rfl) : E P n ops (⟨d, .panic x, ty, ps, af, none⟩ :: rest) ρ w Q := E.cons (St.mk fun a ha K hK => by
  rw [if_pos wanted_none]
  unfold Oper.wp
  have hr : (execOp a.eval ⟨d, .panic x, ty, ps, af, none⟩).run P w = .halt (.panic (.iface t v)) w := by
    simp [execOp, ha.eval hx, Instr.panic]
  rw [hr]
  exact A.use h ha)
theorem A.pan {m : Nat} {fn : Func} {R : Ending → World → Prop} {ch : List PanicEntry} (h : R (.panicked ch) w) : A ⟨m, []⟩ (.panic ch) ρ w (bodyPost P fn R) := A.mk fun a ha => ⟨ha.defers, h⟩
/-- The deferred calls are made, then the results are read. -/
theorem L.callf {m : Nat} {fn' : Func} {R : Ending → World → Prop} {m' : FrameMode} {ds : List Deferred} {f : FuncId} {vs : List Value} {fn : Func} {c : Code} (hf : P.funcs[f]? = some fn) (h : CallsD P f vs.toArray m' w (RetD P ⟨m, ds⟩ fn' ρ R)) (hu : m' ≠ .run := by simp) (hb : fn.body = some c := by exact rfl) (hnm : (fn.name == "runtime.NumGoroutine") = false := by exact rfl) : L P ⟨m, ⟨.fn (.func f) #[], vs.toArray⟩ :: ds⟩ fn' ρ R m' w :=
  L.call hu (by
    have hnm' : ¬ fn.name = "runtime.NumGoroutine" := by simpa using hnm
    simp [invoke, callFunc, hf, hnm', hb]) h
theorem run_ld (hs : Sat W w g H) (hf : Fd H b xs e := by exact fd_) (hj : xs[j]? = some v := by exact rfl) (ha : (isAgg t).run P w = .ok false w := by first | (go_simp; done) | fail) : (loadVar t ⟨b, j, none⟩).run P w = .ok v w := by
  have hc : w.cell? ⟨b, j, none⟩ = some v := (blk_cell (hf.blk hs) j).trans hj
  simp [loadVar, ha, hc]
theorem run_lda (hs : Sat W w g H) (st : AggOf P t k) (hf : Fd H b xs e := by exact fd_) (hk : xs.length = k := by exact rfl) : (loadVar t ⟨b, 0, none⟩).run P w = .ok (.agg xs.toArray) w := by
  subst hk
  exact run_load_blk st (hf.blk hs)
theorem L.c2 {m : Nat} {fn : Func} {R : Ending → World → Prop} {p q : Tmp} {t1 t2 : TypeId} {pa pb : Addr} {v1 v2 : Value} (hr : fn.results = #[.cell p t1, .cell q t2]) (hp : evo ⟨m, []⟩ ρ (.tmp p) = some (.pointer (some pa))) (hq : evo ⟨m, []⟩ ρ (.tmp q) = some (.pointer (some pb))) (h1 : (loadVar t1 pa).run P w = .ok v1 w) (h2 : (loadVar t2 pb).run P w = .ok v2 w) (h : R (.returned (.tuple #[v1, v2])) w) : L P ⟨m, []⟩ fn ρ R .returning w :=
  L.done fun a ha => by
    refine ⟨_, ?_, h⟩
    have hp' : a.tmps[p]?.getD undef = .pointer (some pa) := by simpa [Act.eval] using ha.eval hp
    have hq' : a.tmps[q]?.getD undef = .pointer (some pb) := by simpa [Act.eval] using ha.eval hq
    simp [results, hr, hp', hq', asAddr, h1, h2]
theorem L.c1 {m : Nat} {fn : Func} {R : Ending → World → Prop} {p : Tmp} {t1 : TypeId} {pa : Addr} {v1 : Value} (hr : fn.results = #[.cell p t1]) (hp : evo ⟨m, []⟩ ρ (.tmp p) = some (.pointer (some pa))) (h1 : (loadVar t1 pa).run P w = .ok v1 w) (h : R (.returned v1) w) : L P ⟨m, []⟩ fn ρ R .returning w :=
  L.done fun a ha => by
    refine ⟨_, ?_, h⟩
    have hp' : a.tmps[p]?.getD undef = .pointer (some pa) := by simpa [Act.eval] using ha.eval hp
    simp [results, hr, hp', asAddr, h1]
/-- Results that lie in memory, without deferred calls. -/
theorem A.c2 {m : Nat} {fn : Func} {R : Ending → World → Prop} {p q : Tmp} {t1 t2 : TypeId} {pa pb : Addr} {v1 v2 : Value} (hr : fn.results = #[.cell p t1, .cell q t2]) (hp : evo ⟨m, []⟩ ρ (.tmp p) = some (.pointer (some pa))) (hq : evo ⟨m, []⟩ ρ (.tmp q) = some (.pointer (some pb))) (h1 : (loadVar t1 pa).run P w = .ok v1 w) (h2 : (loadVar t2 pb).run P w = .ok v2 w) (h : R (.returned (.tuple #[v1, v2])) w) : A ⟨m, []⟩ .ret ρ w (bodyPost P fn R) :=
  Go.Proofs.YtfhmamkafancbaaGreatDoor.A.mk fun a ha => by
    refine ⟨ha.defers, _, ?_, h⟩
    have hp' : a.tmps[p]?.getD undef = .pointer (some pa) := by simpa [Act.eval] using ha.eval hp
    have hq' : a.tmps[q]?.getD undef = .pointer (some pb) := by simpa [Act.eval] using ha.eval hq
    simp [results, hr, hp', hq', asAddr, h1, h2]
theorem A.c1 {m : Nat} {fn : Func} {R : Ending → World → Prop} {p : Tmp} {t1 : TypeId} {pa : Addr} {v1 : Value} (hr : fn.results = #[.cell p t1]) (hp : evo ⟨m, []⟩ ρ (.tmp p) = some (.pointer (some pa))) (h1 : (loadVar t1 pa).run P w = .ok v1 w) (h : R (.returned v1) w) : A ⟨m, []⟩ .ret ρ w (bodyPost P fn R) :=
  Go.Proofs.YtfhmamkafancbaaGreatDoor.A.mk fun a ha => by
    refine ⟨ha.defers, _, ?_, h⟩
    have hp' : a.tmps[p]?.getD undef = .pointer (some pa) := by simpa [Act.eval] using ha.eval hp
    simp [results, hr, hp', asAddr, h1]
theorem A.c1t1 {m : Nat} {fn : Func} {R : Ending → World → Prop} {p q : Tmp} {t1 : TypeId} {pa : Addr} {v1 v2 : Value} (hr : fn.results = #[.cell p t1, .tmp q]) (hp : evo ⟨m, []⟩ ρ (.tmp p) = some (.pointer (some pa))) (hq : evo ⟨m, []⟩ ρ (.tmp q) = some v2) (h1 : (loadVar t1 pa).run P w = .ok v1 w) (h : R (.returned (.tuple #[v1, v2])) w) : A ⟨m, []⟩ .ret ρ w (bodyPost P fn R) :=
  Go.Proofs.YtfhmamkafancbaaGreatDoor.A.mk fun a ha => by
    refine ⟨ha.defers, _, ?_, h⟩
    have hp' : a.tmps[p]?.getD undef = .pointer (some pa) := by simpa [Act.eval] using ha.eval hp
    have hq' : a.tmps[q]?.getD undef = v2 := by simpa [Act.eval] using ha.eval hq
    simp [results, hr, hp', hq', asAddr, h1]
/-- Out of a function. -/
theorem A.r0 {m : Nat} {fn : Func} {R : Ending → World → Prop} (h : R (.returned (.tuple #[])) w) (hr : fn.results = #[] := by exact rfl) : A ⟨m, []⟩ .ret ρ w (bodyPost P fn R) := A.ret0 hr h
theorem A.e0 {m : Nat} {fn : Func} {R : Ending → World → Prop} (h : R (.returned (.tuple #[])) w) (hr : fn.results = #[] := by exact rfl) : A ⟨m, []⟩ .normal ρ w (bodyPost P fn R) := A.end0 hr h
theorem A.r1 {m : Nat} {fn : Func} {R : Ending → World → Prop} {t : Tmp} {v : Value} (h : R (.returned v) w) (hr : fn.results = #[.tmp t] := by exact rfl) (hv : evo ⟨m, []⟩ ρ (.tmp t) = some v := by exact rfl) : A ⟨m, []⟩ .ret ρ w (bodyPost P fn R) := A.ret1 hr hv h
theorem A.r2 {m : Nat} {fn : Func} {R : Ending → World → Prop} {t u : Tmp} {v x : Value} (h : R (.returned (.tuple #[v, x])) w) (hr : fn.results = #[.tmp t, .tmp u] := by exact rfl) (hv : evo ⟨m, []⟩ ρ (.tmp t) = some v := by exact rfl) (hx : evo ⟨m, []⟩ ρ (.tmp u) = some x := by exact rfl) : A ⟨m, []⟩ .ret ρ w (bodyPost P fn R) := A.ret2 hr hv hx h
theorem A.r3 {m : Nat} {fn : Func} {R : Ending → World → Prop} {t u s : Tmp} {v x y : Value} (h : R (.returned (.tuple #[v, x, y])) w) (hr : fn.results = #[.tmp t, .tmp u, .tmp s] := by exact rfl) (hv : evo ⟨m, []⟩ ρ (.tmp t) = some v := by exact rfl) (hx : evo ⟨m, []⟩ ρ (.tmp u) = some x := by exact rfl) (hy : evo ⟨m, []⟩ ρ (.tmp s) = some y := by exact rfl) : A ⟨m, []⟩ .ret ρ w (bodyPost P fn R) := A.ret3 hr hv hx hy h
theorem A.mt {α : Type} {f : α → List (Nat × Value)} {M : α → World → Prop} (x : α) (hM : M x w) (hw : Weak ρ (f x) := by exact wk_) : A n .normal ρ w (Exit.then (Cut n f M) Q) := A.meet x hw hM
theorem A.rd {α : Type} {f : α → List (Nat × Value)} {I : Nat → α → World → Prop} {g : Nat} (g' : Nat) (x : α) (hI : I g' x w) (hg : g' < g := by first | omega | (simp only [List.length_append, List.length_cons, List.length_nil]; omega) | (simp; done) | (simp; omega)) (hw : Weak ρ (f x) := by exact wk_) : A n .normal ρ w (Exit.then (Round n f I g) Q) := A.round g' x hg hw hI
theorem C.lp {α : Type} {c : Code} (f : α → List (Nat × Value)) (I : Nat → α → World → Prop) (g : Nat) (x : α) (h0 : I g x w) (round : ∀ g x w, I g x w → C P n c (f x) w (Exit.then (Round n f I g) Q)) (hw : Weak ρ (f x) := by exact wk_) : C P n (.loop c) ρ w Q := C.loop f I g x hw h0 round
/-- As far as nothing is to be chosen. -/
theorem go {G G' : Prop} (k : G') (h : Lf G' → G := by
    intro kkk
    repeat (first
      | apply E.pv pvt
      | (first | apply C.region_seq | apply E.nil | apply A.next | apply A.ret_then | apply A.exit_then | apply A.block_end | apply A.block_ret | apply A.panic_then | apply A.block_panic | apply A.pan | apply A.leave | apply A.leave_panic | apply A.leave_end | (apply E.deferf; exact rfl) | apply A.block_exit | apply C.seq | apply C.region | apply C.skip | apply C.ret | apply C.exit)
      | (apply E.guard; exact rfl; exact rfl)
      | (apply E.passed; exact rfl; exact rfl; exact rfl)
      | (apply E.passedU; exact rfl; exact rfl)
      | ((first | apply A.block_other | apply C.cond_true); exact rfl)
      | (apply C.cond_false; exact rfl)
      | apply C.block
      | refine E.ld hs ?_
      | refine E.ldc ?_
      | refine E.ldp hs ?_)
    exact kkk.out) : G := h ⟨k⟩
/-- The same, but no block is entered. -/
theorem gob {G G' : Prop} (k : G') (h : Lf G' → G := by
    intro kkk
    repeat (first
      | apply E.pv pvt
      | (first | apply C.region_seq | apply E.nil | apply A.next | apply A.ret_then | apply A.exit_then | apply A.block_end | apply A.block_ret | apply A.panic_then | apply A.block_panic | apply A.pan | apply A.leave | apply A.leave_panic | apply A.leave_end | (apply E.deferf; exact rfl) | apply A.block_exit | apply C.seq | apply C.region | apply C.skip | apply C.ret | apply C.exit)
      | (apply E.guard; exact rfl; exact rfl)
      | (apply E.passed; exact rfl; exact rfl; exact rfl)
      | (apply E.passedU; exact rfl; exact rfl)
      | ((first | apply A.block_other | apply C.cond_true); exact rfl)
      | (apply C.cond_false; exact rfl)
      | refine E.ld hs ?_
      | refine E.ldc ?_
      | refine E.ldp hs ?_)
    exact kkk.out) : G := h ⟨k⟩
end
end Go.Proofs.YtfhmamkafancbaaGreatDoor

/-
  The stepping engine: regions that draw their order, where some blocks are held: what only reads them is taken first.
-/
namespace Go.Proofs.YtfhmamkafancbaaGreatDoor
open Go.RowKit
set_option linter.unusedVariables false
set_option linter.unusedSimpArgs false
set_option linter.unusedSectionVars false
/-- The pool, and some blocks, stand in a world. -/
def Keeps (g : Hl) (F : List (Nat × List Value × TypeId)) (w : World) : Prop := (∀ k o, g k = some o → w.heap[k]? = some o) ∧ ∀ x ∈ F, Blk w x.1 x.2.1 x.2.2
/-- Which operations are done, as bits. -/
def bt (m i : Nat) : Bool := Nat.beq (Nat.land (Nat.shiftRight m i) 1) 1
def bset (m i : Nat) : Nat := Nat.lor m (Nat.shiftLeft 1 i)
def bits (m k : Nat) : Array Bool := ((List.range k).map (bt m)).toArray
theorem bt_testBit (m i : Nat) : bt m i = m.testBit i := by
  have h1 : Nat.land (Nat.shiftRight m i) 1 = (m >>> i) &&& 1 := rfl
  unfold bt
  rw [h1, Nat.and_one_is_mod, Nat.testBit, Nat.and_comm, Nat.and_one_is_mod]
  rcases Nat.mod_two_eq_zero_or_one (m >>> i) with h | h <;> rw [h] <;> rfl
theorem bt_bset (m i j : Nat) : bt (bset m i) j = (bt m j || decide (i = j)) := by
  rw [bt_testBit, bt_testBit]
  show (m ||| 1 <<< i).testBit j = _
  rw [Nat.testBit_or, Nat.testBit_shiftLeft]
  by_cases h : i = j
  · subst h; simp
  · by_cases h2 : j ≥ i
    · have : j - i ≠ 0 := by omega
      have h1 : Nat.testBit 1 (j - i) = false := by
        rw [show (1 : Nat) = 2 ^ 0 from rfl, Nat.testBit_two_pow]; simp; omega
      simp [h, h2, h1]
    · simp [h, h2]
theorem bits_size (m k : Nat) : (bits m k).size = k := by simp [bits]
theorem bits_get (m k i : Nat) (h : i < k) : (bits m k)[i]? = some (bt m i) := by simp [bits, h]
theorem bits_set (m k i : Nat) : (bits m k).setIfInBounds i true = bits (bset m i) k := by
  apply Array.ext_getElem?
  intro j
  by_cases hj : j < k
  · rw [bits_get _ _ _ hj, Array.getElem?_setIfInBounds, bt_bset]
    by_cases h : i = j
    · subst h; simp [bits_size, hj]
    · simp [h, bits_get _ _ _ hj]
  · rw [Array.getElem?_eq_none (by simp [bits_size]; omega), Array.getElem?_eq_none (by simp [bits_size]; omega)]
theorem bits_zero (k : Nat) : bits 0 k = Array.replicate k false := by
  apply Array.ext_getElem?
  intro j
  by_cases hj : j < k
  · have : bt 0 j = false := by rw [bt_testBit]; simp
    simp [bits_get _ _ _ hj, hj, this]
  · rw [Array.getElem?_eq_none (by rw [bits_size]; omega), Array.getElem?_eq_none (by simp; omega)]
theorem bits_getD (m k i : Nat) (d : Bool) : (bits m k).getD i d = if i < k then bt m i else d := by
  rw [Array.getD_eq_getD_getElem?]
  by_cases h : i < k
  · rw [bits_get _ _ _ h, if_pos h]; rfl
  · rw [Array.getElem?_eq_none (by rw [bits_size]; omega), if_neg h]; rfl
/-- Which operations may come up. -/
def edB (m k : Nat) : List Edge → Bool
  | [] => true
  | e :: r => match Region.binds .any e with
    | true => match Nat.blt e.on k with
      | true => match bt m e.on with
        | true => edB m k r
        | false => false
      | false => false
    | false => edB m k r
def rdy (m k : Nat) : Nat → List Oper → List Nat
  | _, [] => []
  | i, o :: r => match bt m i with
    | true => rdy m k (i + 1) r
    | false => match edB m k o.after.toList with
      | true => i :: rdy m k (i + 1) r
      | false => rdy m k (i + 1) r
theorem edB_eq (m k : Nat) : ∀ (l : List Edge), edB m k l = l.all (fun e => !Region.binds .any e || (bits m k).getD e.on false)
  | [] => rfl
  | e :: r => by
    have ih := edB_eq m k r
    simp only [bits_getD] at ih
    simp only [edB, List.all_cons, bits_getD]
    cases Region.binds .any e with
    | false => simp only [Bool.not_false, Bool.true_or, Bool.true_and]; exact ih
    | true =>
      by_cases h : e.on < k
      · have hb : Nat.blt e.on k = true := by rw [Nat.blt_eq]; exact h
        simp only [hb, h, if_true, Bool.not_true, Bool.false_or]
        cases bt m e.on
        · simp
        · simp only [Bool.true_and]; exact ih
      · have hb : Nat.blt e.on k = false := by
          cases hc : Nat.blt e.on k with
          | false => rfl
          | true => rw [Nat.blt_eq] at hc; exact absurd hc h
        simp [hb, h]
theorem rdy_eq (m k : Nat) (ops : Array Oper) (hk : ops.size = k) : ∀ (l : List Oper) (i : Nat), (∀ j, l[j]? = ops[i + j]?) → rdy m k i l = ((List.range' i l.length).filter fun i =>
    !(bits m k).getD i true && ((ops[i]?).map (·.after.all fun e => !Region.binds .any e || (bits m k).getD e.on false)).getD false)
  | [], _, _ => rfl
  | o :: r, i, h => by
    have h0 := h 0
    simp only [List.getElem?_cons_zero, Nat.add_zero] at h0
    have hik : i < k := by
      have := (Array.getElem?_eq_some_iff.1 h0.symm).1
      omega
    have hr := rdy_eq m k ops hk r (i + 1) fun j => by
      have := h (j + 1)
      rw [List.getElem?_cons_succ] at this
      rw [this]; congr 1; omega
    rw [List.length_cons, List.range'_succ, List.filter_cons, ← h0]
    simp only [rdy, bits_getD, hik, if_true, Option.map_some, Option.getD_some]
    have he : (o.after.all fun e => !Region.binds .any e || if e.on < k then bt m e.on else false) = edB m k o.after.toList := by
      rw [edB_eq, ← Array.all_toList]
      simp only [bits_getD]
    rw [he]
    simp only [bits_getD] at hr
    cases bt m i <;> cases edB m k o.after.toList <;> simp only [Bool.not_false, Bool.not_true, Bool.true_and, Bool.false_and, Bool.and_true, Bool.and_false, if_true, Bool.false_eq_true, if_false, hr]
theorem rdy_ready (m : Nat) (l : List Oper) : Region.ready .any l.toArray (bits m l.length) = rdy m l.length 0 l := by
  rw [rdy_eq m l.length l.toArray (by simp) l 0 (fun j => by simp)]
  simp only [Region.ready, List.size_toArray, List.range_eq_range']
/-- A region whose order is drawn, while S holds. -/
def EH (P : Program) (n : Fm) (l : List Oper) (S : World → Prop) (fuel m : Nat) (ρ : List (Nat × Value)) (w : World) (Q : Exit → Act → World → Prop) : Prop := ∀ a, Kn n ρ a → wpAnyH P .any l.toArray Q S fuel (bits m l.length) a w
/-- What an operation yields while S holds. -/
def Pf (P : Program) (n : Fm) (S : World → Prop) (ρ : List (Nat × Value)) (o : Op) (ty : TypeId) (v : Value) : Prop :=
  ∀ a, Kn n ρ a → ∀ w, S w → ∀ (d : Option Tmp) (ps : String) (af : Array Edge) (g : Option (Nat × Bool)), (execOp a.eval ⟨d, o, ty, ps, af, g⟩).run P w = .ok (.value v) w
section
variable {P : Program} {n : Fm} {ρ : List (Nat × Value)} {W w w' : World} {g g' : Hl} {H H' : List HP} {Q : Exit → Act → World → Prop} {l : List Oper} {S : World → Prop} {fuel m : Nat} {d : Option Tmp} {ty : TypeId} {ps : String} {af : Array Edge} {gd : Option (Nat × Bool)} {v u : Value} {x y : Operand} {o : Op} {F : List (Nat × List Value × TypeId)} {i i1 i2 i3 i4 i5 i6 i7 : Nat} {rs : List Nat}
theorem Keeps.of (hs : Sat W w g' H) (hg : Hl.le g g') (hF : ∀ x ∈ F, Fd H x.1 x.2.1 x.2.2) : Keeps g F w := ⟨fun k o h => hs.pool (hg k o h), fun x hx => (hF x hx).blk hs⟩
theorem Keeps.of0 (hs : Sat W w g' H) (hg : Hl.le g g' := by first | exact Hl.le_refl _ | assumption | exact Hl.le.trans (by assumption) (by assumption)) : Keeps g [] w := ⟨fun k o h => hs.pool (hg k o h), fun x hx => by cases hx⟩
theorem Keeps.ofs {F : List (Nat × List Value × TypeId)} {b : Nat} {xs : List Value} {e : TypeId} (h : Keeps g F w) (hs : Sat W w g' H) (hf : Fd H b xs e := by exact fd_) : Keeps g ((b, xs, e) :: F) w :=
  ⟨h.1, fun x hx => by
    rcases List.mem_cons.1 hx with rfl | hx
    · exact hf.blk hs
    · exact h.2 x hx⟩
theorem Pf.pv (h : Pv P n ρ o ty v) : Pf P n S ρ o ty v := fun a ha w _ d ps af g => by
  unfold Pv at h; exact h a ha w d ps af g
theorem Pf.val (h : ∀ a, Kn n ρ a → ∀ w, S w → ∀ (d : Option Tmp) (ps : String) (af : Array Edge) (g : Option (Nat × Bool)), (execOp a.eval ⟨d, o, ty, ps, af, g⟩).run P w = .ok (.value v) w) : Pf P n S ρ o ty v := h
/-- A place that reads so while S holds. -/
def Rd (S : World → Prop) (b j : Nat) (v : Value) : Prop := ∀ w, S w → w.cell? ⟨b, j, none⟩ = some v
inductive InF (b : Nat) (xs : List Value) (e : TypeId) : List (Nat × List Value × TypeId) → Prop
  | here {F : List (Nat × List Value × TypeId)} : InF b xs e ((b, xs, e) :: F)
  | there {F : List (Nat × List Value × TypeId)} {q : Nat × List Value × TypeId} : InF b xs e F → InF b xs e (q :: F)
theorem InF.mem {b : Nat} {xs : List Value} {e : TypeId} (h : InF b xs e F) : (b, xs, e) ∈ F := by
  induction h with
  | here => exact List.mem_cons_self ..
  | there _ ih => exact List.mem_cons_of_mem _ ih
theorem Rd.blk {b j : Nat} {xs : List Value} {e : TypeId} (h : InF b xs e F) (hj : xs[j]? = some v) : Rd (Keeps g F) b j v := fun w hw => (blk_cell (hw.2 _ h.mem) j).trans hj
theorem Rd.pool {b o c k j : Nat} {xs : List Value} (hp : Pr k g (.slice (some ⟨b, o, none⟩) i c) i xs) (hj : xs[j]? = some v) : Rd (Keeps g F) b (o + j) v := fun w hw => by
  have hr : Row k w (fun _ => True) (.slice (some ⟨b, o, none⟩) i c) i xs := by
    obtain ⟨h1, a, c', e, hn, hc, ha, h⟩ := hp
    refine ⟨h1, a, c', e, hn, hc, ha, h.imp id ?_⟩
    rintro ⟨b', o', cur, e', fz, ea, hg, ht⟩
    exact ⟨b', o', cur, e', fz, ea, trivial, hw.1 _ _ hg, ht⟩
  exact (hr.cellAt rfl hj).2
theorem Keeps.row {k : Nat} {xs : List Value} (hw : Keeps g F w) (hp : Pr k g v i xs) : Row k w (fun _ => True) v i xs := by
  obtain ⟨h1, a, c', e, hn, hc, ha, h⟩ := hp
  refine ⟨h1, a, c', e, hn, hc, ha, h.imp id ?_⟩
  rintro ⟨b', o', cur, e', fz, ea, hg, ht⟩
  exact ⟨b', o', cur, e', fz, ea, trivial, hw.1 _ _ hg, ht⟩
theorem Pf.load {b j : Nat} {t : TypeId} (hx : evo n ρ x = some (.pointer (some ⟨b, j, none⟩))) (hc : Rd S b j v) (ha : ∀ w, (isAgg t).run P w = .ok false w) : Pf P n S ρ (.load t x) ty v := fun a hk w hS d ps af g => by
  simp [execOp, hk.eval hx, Instr.loadAt, Instr.sureAddr, loadVar, ha, hc w hS]
theorem Pf.loada {b k : Nat} {xs : List Value} {e t : TypeId} (hx : evo n ρ x = some (.pointer (some ⟨b, 0, none⟩))) (hf : InF b xs e F) (st : AggOf P t k) (hk : xs.length = k) : Pf P n (Keeps g F) ρ (.load t x) ty (.agg xs.toArray) := fun a ha w hS d ps af g' => by
  subst hk
  have := run_load_blk st (hS.2 _ hf.mem)
  simp [execOp, ha.eval hx, Instr.loadAt, Instr.sureAddr, this]
theorem Pf.loadp {b j k : Nat} {xs vs : List Value} {e t : TypeId} (hx : evo n ρ x = some (.pointer (some ⟨b, j, none⟩))) (hf : InF b xs e F) (st : AggOf P t k) (hv : (xs.drop j).take k = vs) (hk : vs.length = k) : Pf P n (Keeps g F) ρ (.load t x) ty (.agg vs.toArray) := fun a ha w hS d ps af g' => by
  have := run_ldp st (hS.2 _ hf.mem) hv hk
  simp [execOp, ha.eval hx, Instr.loadAt, Instr.sureAddr, this]
/-- string(b), of a row of the pool's. -/
theorem Pf.string {src dst e : TypeId} {k : Nat} {bl : List UInt8} (hx : evo n ρ x = some u) (hrow : Pr 1 g u k (bs bl)) (h1 : P.underlying src = some (.slice e)) (h2 : P.underlying e = some (.int .u8)) (h3 : P.underlying dst = some .string) :
    Pf P n (Keeps g F) ρ (.convert src dst x) ty (.string ⟨bl.toArray⟩) := fun a ha w hS d ps af g' => by
  simp [execOp, ha.eval hx, run_string h1 h2 h3 (hS.row hrow)]
theorem C.held {id : Nat} (S : World → Prop) (hs : Sat W w g H) (h : ∀ w', Sat W w' g H → EH P n l S l.length 0 ρ w' Q) (hm : P.follows .mixedOrders = true := by kernel_rfl) : C P n (.region id l.toArray true) ρ w Q := C.mk fun a ha =>
  wp_region_held (S := S) hm (by
    have := h _ hs.drew a ha
    rw [bits_zero] at this
    simpa using this)
theorem C.held0 {id : Nat} (hs : Sat W w g H) (h : ∀ w', Keeps g [] w' → Sat W w' g H → EH P n l (Keeps g []) l.length 0 ρ w' Q) (hm : P.follows .mixedOrders = true := by kernel_rfl) : C P n (.region id l.toArray true) ρ w Q :=
  C.held _ hs (fun w' hs' => h w' (Keeps.of0 hs') hs') hm
theorem C.held1 {id : Nat} (b1 : Nat) {x1 : List Value} {e1 : TypeId} (hs : Sat W w g H) (h : ∀ w', Keeps g [(b1, x1, e1)] w' → Sat W w' g H → EH P n l (Keeps g [(b1, x1, e1)]) l.length 0 ρ w' Q) (h1 : Fd H b1 x1 e1 := by exact fd_) (hm : P.follows .mixedOrders = true := by kernel_rfl) : C P n (.region id l.toArray true) ρ w Q :=
  C.held _ hs (fun w' hs' => h w' ((Keeps.of0 hs').ofs hs' h1) hs') hm
theorem C.held2 {id : Nat} (b1 b2 : Nat) {x1 x2 : List Value} {e1 e2 : TypeId} (hs : Sat W w g H) (h : ∀ w', Keeps g [(b1, x1, e1), (b2, x2, e2)] w' → Sat W w' g H → EH P n l (Keeps g [(b1, x1, e1), (b2, x2, e2)]) l.length 0 ρ w' Q) (h1 : Fd H b1 x1 e1 := by exact fd_) (h2 : Fd H b2 x2 e2 := by exact fd_) (hm : P.follows .mixedOrders = true := by kernel_rfl) : C P n (.region id l.toArray true) ρ w Q :=
  C.held _ hs (fun w' hs' => h w' (((Keeps.of0 hs').ofs hs' h2).ofs hs' h1) hs') hm
theorem Keeps.of1 {b1 : Nat} {x1 : List Value} {e1 : TypeId} (hs : Sat W w g' H) (hg : Hl.le g g' := by first | exact Hl.le_refl _ | assumption | exact Hl.le.trans (by assumption) (by assumption)) (h1 : Fd H b1 x1 e1 := by exact fd_) : Keeps g [(b1, x1, e1)] w := (Keeps.of0 hs hg).ofs hs h1
theorem Keeps.of2 {b1 b2 : Nat} {x1 x2 : List Value} {e1 e2 : TypeId} (hs : Sat W w g' H) (hg : Hl.le g g' := by first | exact Hl.le_refl _ | assumption | exact Hl.le.trans (by assumption) (by assumption)) (h1 : Fd H b1 x1 e1 := by exact fd_) (h2 : Fd H b2 x2 e2 := by exact fd_) : Keeps g [(b1, x1, e1), (b2, x2, e2)] w := ((Keeps.of0 hs hg).ofs hs h2).ofs hs h1
theorem kept1 {G : Prop} {b1 : Nat} {x1 : List Value} {e1 : TypeId} (hs : Sat W w g' H) (h : Keeps g [(b1, x1, e1)] w → G) (hg : Hl.le g g' := by first | exact Hl.le_refl _ | assumption | exact Hl.le.trans (by assumption) (by assumption)) (h1 : Fd H b1 x1 e1 := by exact fd_) : Keeps g [(b1, x1, e1)] w ∧ G := ⟨Keeps.of1 hs hg h1, h (Keeps.of1 hs hg h1)⟩
theorem kept2 {G : Prop} {b1 b2 : Nat} {x1 x2 : List Value} {e1 e2 : TypeId} (hs : Sat W w g' H) (h : Keeps g [(b1, x1, e1), (b2, x2, e2)] w → G) (hg : Hl.le g g' := by first | exact Hl.le_refl _ | assumption | exact Hl.le.trans (by assumption) (by assumption)) (h1 : Fd H b1 x1 e1 := by exact fd_) (h2 : Fd H b2 x2 e2 := by exact fd_) : Keeps g [(b1, x1, e1), (b2, x2, e2)] w ∧ G := ⟨Keeps.of2 hs hg h1 h2, h (Keeps.of2 hs hg h1 h2)⟩
theorem EH.done (h : A n .normal ρ w Q) (hr : rdy m l.length 0 l = [] := by exact rfl) : EH P n l S fuel m ρ w Q := fun a ha => wpAnyH_done (by rw [rdy_ready, hr]) (A.use h ha) _
/-- What may be taken first. -/
theorem EH.take {oi : Oper} (i : Nat) (hr : i ∈ rdy m l.length 0 l) (hi : nth l i = some oi) (hsel : Region.noSelect l.toArray = true) (hf : Region.free .any l.toArray (bits m l.length) i = true)
    (hQ : ∀ v c a w, Q (.panic c) (a.put oi.dst v) w → Q (.panic c) a w) (hS : S w) (hy : ∀ a, Kn n ρ a → YieldsIf P l.toArray S oi v a) (h : EH P n l S fuel (bset m i) (pushv oi.dst v ρ) w Q) : EH P n l S (fuel + 1) m ρ w Q := fun a ha =>
  wpAnyH_take (nth_get hi) hsel hf (by rw [rdy_ready]; simpa using hr) (hQ v) (hy a ha) hS (by rw [bits_set]; exact h _ (ha.put _ _))
theorem yif {oi : Oper} (hg : want n l ρ oi.guard = some true) (h : Pf P n S ρ oi.op oi.type v) (a : Act) (ha : Kn n ρ a) : YieldsIf P l.toArray S oi v a := by
  obtain ⟨d, o, ty, ps, af, gd⟩ := oi
  exact .inl ⟨want_get hg ha, fun w hS => h a ha w hS _ _ _ _⟩
theorem yoff {oi : Oper} (hg : want n l ρ oi.guard = some false) (a : Act) (ha : Kn n ρ a) : YieldsIf P l.toArray S oi undef a := by
  obtain ⟨d, o, ty, ps, af, gd⟩ := oi
  exact .inr ⟨want_get hg ha, rfl⟩
/-- The operation at hand in a drawn region: what is wanted behind it. -/
def AllSt (P : Program) (n : Fm) (l : List Oper) (S : World → Prop) (fuel m : Nat) (ρ : List (Nat × Value)) (w : World) (Q : Exit → Act → World → Prop) : List Nat → Prop
  | [] => True
  | i :: r => (∃ oi, nth l i = some oi ∧ St P n l.toArray oi ρ w (fun ρ' w' => S w' ∧ EH P n l S fuel (bset m i) ρ' w' Q) Q) ∧ AllSt P n l S fuel m ρ w Q r
theorem EH.all {rs : List Nat} (h : AllSt P n l S fuel m ρ w Q rs) (hr : rdy m l.length 0 l = rs) (hne : rs ≠ []) : EH P n l S (fuel + 1) m ρ w Q := fun a ha => by
  refine wpAnyH_all (rs := rs) (by rw [rdy_ready, hr]) hne ?_
  clear hr hne
  intro i hi
  induction rs with
  | nil => cases hi
  | cons j r ih =>
    obtain ⟨⟨oi, hoi, hst⟩, hrest⟩ := h
    rcases List.mem_cons.1 hi with rfl | hi
    · unfold wpOp
      rw [nth_get hoi]
      simp only
      have h1 := St.use hst ha (fun a' w' => S w' ∧ wpAnyH P .any l.toArray Q S fuel ((bits m l.length).setIfInBounds i true) a' w') (fun ρ' w' a' hN hk => ⟨hN.1, by rw [bits_set]; exact hN.2 a' hk⟩)
      split
      · rename_i hw
        rw [if_pos hw] at h1
        exact .inl h1
      · rename_i hw
        rw [if_neg hw] at h1
        exact h1
    · exact ih hrest hi
theorem EH.one {oi : Oper} (h : St P n l.toArray oi ρ w (fun ρ' w' => S w' ∧ EH P n l S fuel (bset m i) ρ' w' Q) Q) (hr : rdy m l.length 0 l = [i] := by exact rfl) (hi : nth l i = some oi := by exact rfl) : EH P n l S (fuel + 1) m ρ w Q :=
  EH.all (rs := [i]) ⟨⟨oi, hi, h⟩, trivial⟩ hr (by simp)
theorem EH.two {oi oj : Oper} (h : St P n l.toArray oi ρ w (fun ρ' w' => S w' ∧ EH P n l S fuel (bset m i1) ρ' w' Q) Q) (h2 : St P n l.toArray oj ρ w (fun ρ' w' => S w' ∧ EH P n l S fuel (bset m i2) ρ' w' Q) Q) (hr : rdy m l.length 0 l = [i1, i2] := by exact rfl) (hi : nth l i1 = some oi := by exact rfl) (hj : nth l i2 = some oj := by exact rfl) : EH P n l S (fuel + 1) m ρ w Q :=
  EH.all (rs := [i1, i2]) ⟨⟨oi, hi, h⟩, ⟨oj, hj, h2⟩, trivial⟩ hr (by simp)
/-- What an operation yields while S holds, found. -/
theorem pft (h : Pf P n S ρ o ty v := by
    first
    | (apply Pf.pv; exact pvt)
    | (apply Pf.load; exact rfl; (first | assumption | exact Rd.blk (by repeat (first | exact InF.here | apply InF.there)) rfl); (first | (intro w; go_simp; done) | fail))
    | (apply Pf.loadp; exact rfl; (repeat (first | exact InF.here | apply InF.there)); assumption; exact nz_; exact rfl)) : Pf P n S ρ o ty v := h
theorem EH.t0 {oi : Oper} (hS : S w) (h : EH P n l S fuel (bset m i) (pushv oi.dst v ρ) w Q) (hr : rdy m l.length 0 l = i :: rs := by exact rfl) (hi : nth l i = some oi := by exact rfl) (hg : want n l ρ oi.guard = some true := by exact rfl) (hy : Pf P n S ρ oi.op oi.type v := by exact pft) (hsel : Region.noSelect l.toArray = true := by kernel_rfl) (hf : Region.free .any l.toArray (bits m l.length) i = true := by decide +kernel)
    (hQ : ∀ v c a w, Q (.panic c) (a.put oi.dst v) w → Q (.panic c) a w := by exact fun _ _ _ _ h => h) : EH P n l S (fuel + 1) m ρ w Q :=
  EH.take i (by rw [hr]; simp) hi hsel hf hQ hS (yif hg hy) h
theorem EH.o0 {oi : Oper} (hS : S w) (h : EH P n l S fuel (bset m i) (pushv oi.dst undef ρ) w Q) (hr : rdy m l.length 0 l = i :: rs := by exact rfl) (hi : nth l i = some oi := by exact rfl) (hg : want n l ρ oi.guard = some false := by exact rfl) (hsel : Region.noSelect l.toArray = true := by kernel_rfl) (hf : Region.free .any l.toArray (bits m l.length) i = true := by decide +kernel)
    (hQ : ∀ v c a w, Q (.panic c) (a.put oi.dst v) w → Q (.panic c) a w := by exact fun _ _ _ _ h => h) : EH P n l S (fuel + 1) m ρ w Q :=
  EH.take i (by rw [hr]; simp) hi hsel hf hQ hS (yoff hg) h
theorem EH.t1 {oi : Oper} (hS : S w) (h : EH P n l S fuel (bset m i) (pushv oi.dst v ρ) w Q) (hr : rdy m l.length 0 l = i1 :: i :: rs := by exact rfl) (hi : nth l i = some oi := by exact rfl) (hg : want n l ρ oi.guard = some true := by exact rfl) (hy : Pf P n S ρ oi.op oi.type v := by exact pft) (hsel : Region.noSelect l.toArray = true := by kernel_rfl) (hf : Region.free .any l.toArray (bits m l.length) i = true := by decide +kernel)
    (hQ : ∀ v c a w, Q (.panic c) (a.put oi.dst v) w → Q (.panic c) a w := by exact fun _ _ _ _ h => h) : EH P n l S (fuel + 1) m ρ w Q :=
  EH.take i (by rw [hr]; simp) hi hsel hf hQ hS (yif hg hy) h
theorem EH.o1 {oi : Oper} (hS : S w) (h : EH P n l S fuel (bset m i) (pushv oi.dst undef ρ) w Q) (hr : rdy m l.length 0 l = i1 :: i :: rs := by exact rfl) (hi : nth l i = some oi := by exact rfl) (hg : want n l ρ oi.guard = some false := by exact rfl) (hsel : Region.noSelect l.toArray = true := by kernel_rfl) (hf : Region.free .any l.toArray (bits m l.length) i = true := by decide +kernel)
    (hQ : ∀ v c a w, Q (.panic c) (a.put oi.dst v) w → Q (.panic c) a w := by exact fun _ _ _ _ h => h) : EH P n l S (fuel + 1) m ρ w Q :=
  EH.take i (by rw [hr]; simp) hi hsel hf hQ hS (yoff hg) h
theorem EH.t2 {oi : Oper} (hS : S w) (h : EH P n l S fuel (bset m i) (pushv oi.dst v ρ) w Q) (hr : rdy m l.length 0 l = i1 :: i2 :: i :: rs := by exact rfl) (hi : nth l i = some oi := by exact rfl) (hg : want n l ρ oi.guard = some true := by exact rfl) (hy : Pf P n S ρ oi.op oi.type v := by exact pft) (hsel : Region.noSelect l.toArray = true := by kernel_rfl) (hf : Region.free .any l.toArray (bits m l.length) i = true := by decide +kernel)
    (hQ : ∀ v c a w, Q (.panic c) (a.put oi.dst v) w → Q (.panic c) a w := by exact fun _ _ _ _ h => h) : EH P n l S (fuel + 1) m ρ w Q :=
  EH.take i (by rw [hr]; simp) hi hsel hf hQ hS (yif hg hy) h
theorem EH.o2 {oi : Oper} (hS : S w) (h : EH P n l S fuel (bset m i) (pushv oi.dst undef ρ) w Q) (hr : rdy m l.length 0 l = i1 :: i2 :: i :: rs := by exact rfl) (hi : nth l i = some oi := by exact rfl) (hg : want n l ρ oi.guard = some false := by exact rfl) (hsel : Region.noSelect l.toArray = true := by kernel_rfl) (hf : Region.free .any l.toArray (bits m l.length) i = true := by decide +kernel)
    (hQ : ∀ v c a w, Q (.panic c) (a.put oi.dst v) w → Q (.panic c) a w := by exact fun _ _ _ _ h => h) : EH P n l S (fuel + 1) m ρ w Q :=
  EH.take i (by rw [hr]; simp) hi hsel hf hQ hS (yoff hg) h
theorem EH.t3 {oi : Oper} (hS : S w) (h : EH P n l S fuel (bset m i) (pushv oi.dst v ρ) w Q) (hr : rdy m l.length 0 l = i1 :: i2 :: i3 :: i :: rs := by exact rfl) (hi : nth l i = some oi := by exact rfl) (hg : want n l ρ oi.guard = some true := by exact rfl) (hy : Pf P n S ρ oi.op oi.type v := by exact pft) (hsel : Region.noSelect l.toArray = true := by kernel_rfl) (hf : Region.free .any l.toArray (bits m l.length) i = true := by decide +kernel)
    (hQ : ∀ v c a w, Q (.panic c) (a.put oi.dst v) w → Q (.panic c) a w := by exact fun _ _ _ _ h => h) : EH P n l S (fuel + 1) m ρ w Q :=
  EH.take i (by rw [hr]; simp) hi hsel hf hQ hS (yif hg hy) h
theorem EH.o3 {oi : Oper} (hS : S w) (h : EH P n l S fuel (bset m i) (pushv oi.dst undef ρ) w Q) (hr : rdy m l.length 0 l = i1 :: i2 :: i3 :: i :: rs := by exact rfl) (hi : nth l i = some oi := by exact rfl) (hg : want n l ρ oi.guard = some false := by exact rfl) (hsel : Region.noSelect l.toArray = true := by kernel_rfl) (hf : Region.free .any l.toArray (bits m l.length) i = true := by decide +kernel)
    (hQ : ∀ v c a w, Q (.panic c) (a.put oi.dst v) w → Q (.panic c) a w := by exact fun _ _ _ _ h => h) : EH P n l S (fuel + 1) m ρ w Q :=
  EH.take i (by rw [hr]; simp) hi hsel hf hQ hS (yoff hg) h
theorem EH.t4 {oi : Oper} (hS : S w) (h : EH P n l S fuel (bset m i) (pushv oi.dst v ρ) w Q) (hr : rdy m l.length 0 l = i1 :: i2 :: i3 :: i4 :: i :: rs := by exact rfl) (hi : nth l i = some oi := by exact rfl) (hg : want n l ρ oi.guard = some true := by exact rfl) (hy : Pf P n S ρ oi.op oi.type v := by exact pft) (hsel : Region.noSelect l.toArray = true := by kernel_rfl) (hf : Region.free .any l.toArray (bits m l.length) i = true := by decide +kernel)
    (hQ : ∀ v c a w, Q (.panic c) (a.put oi.dst v) w → Q (.panic c) a w := by exact fun _ _ _ _ h => h) : EH P n l S (fuel + 1) m ρ w Q :=
  EH.take i (by rw [hr]; simp) hi hsel hf hQ hS (yif hg hy) h
theorem EH.o4 {oi : Oper} (hS : S w) (h : EH P n l S fuel (bset m i) (pushv oi.dst undef ρ) w Q) (hr : rdy m l.length 0 l = i1 :: i2 :: i3 :: i4 :: i :: rs := by exact rfl) (hi : nth l i = some oi := by exact rfl) (hg : want n l ρ oi.guard = some false := by exact rfl) (hsel : Region.noSelect l.toArray = true := by kernel_rfl) (hf : Region.free .any l.toArray (bits m l.length) i = true := by decide +kernel)
    (hQ : ∀ v c a w, Q (.panic c) (a.put oi.dst v) w → Q (.panic c) a w := by exact fun _ _ _ _ h => h) : EH P n l S (fuel + 1) m ρ w Q :=
  EH.take i (by rw [hr]; simp) hi hsel hf hQ hS (yoff hg) h
theorem EH.t5 {oi : Oper} (hS : S w) (h : EH P n l S fuel (bset m i) (pushv oi.dst v ρ) w Q) (hr : rdy m l.length 0 l = i1 :: i2 :: i3 :: i4 :: i5 :: i :: rs := by exact rfl) (hi : nth l i = some oi := by exact rfl) (hg : want n l ρ oi.guard = some true := by exact rfl) (hy : Pf P n S ρ oi.op oi.type v := by exact pft) (hsel : Region.noSelect l.toArray = true := by kernel_rfl) (hf : Region.free .any l.toArray (bits m l.length) i = true := by decide +kernel)
    (hQ : ∀ v c a w, Q (.panic c) (a.put oi.dst v) w → Q (.panic c) a w := by exact fun _ _ _ _ h => h) : EH P n l S (fuel + 1) m ρ w Q :=
  EH.take i (by rw [hr]; simp) hi hsel hf hQ hS (yif hg hy) h
theorem EH.o5 {oi : Oper} (hS : S w) (h : EH P n l S fuel (bset m i) (pushv oi.dst undef ρ) w Q) (hr : rdy m l.length 0 l = i1 :: i2 :: i3 :: i4 :: i5 :: i :: rs := by exact rfl) (hi : nth l i = some oi := by exact rfl) (hg : want n l ρ oi.guard = some false := by exact rfl) (hsel : Region.noSelect l.toArray = true := by kernel_rfl) (hf : Region.free .any l.toArray (bits m l.length) i = true := by decide +kernel)
    (hQ : ∀ v c a w, Q (.panic c) (a.put oi.dst v) w → Q (.panic c) a w := by exact fun _ _ _ _ h => h) : EH P n l S (fuel + 1) m ρ w Q :=
  EH.take i (by rw [hr]; simp) hi hsel hf hQ hS (yoff hg) h
theorem EH.t6 {oi : Oper} (hS : S w) (h : EH P n l S fuel (bset m i) (pushv oi.dst v ρ) w Q) (hr : rdy m l.length 0 l = i1 :: i2 :: i3 :: i4 :: i5 :: i6 :: i :: rs := by exact rfl) (hi : nth l i = some oi := by exact rfl) (hg : want n l ρ oi.guard = some true := by exact rfl) (hy : Pf P n S ρ oi.op oi.type v := by exact pft) (hsel : Region.noSelect l.toArray = true := by kernel_rfl) (hf : Region.free .any l.toArray (bits m l.length) i = true := by decide +kernel)
    (hQ : ∀ v c a w, Q (.panic c) (a.put oi.dst v) w → Q (.panic c) a w := by exact fun _ _ _ _ h => h) : EH P n l S (fuel + 1) m ρ w Q :=
  EH.take i (by rw [hr]; simp) hi hsel hf hQ hS (yif hg hy) h
theorem EH.o6 {oi : Oper} (hS : S w) (h : EH P n l S fuel (bset m i) (pushv oi.dst undef ρ) w Q) (hr : rdy m l.length 0 l = i1 :: i2 :: i3 :: i4 :: i5 :: i6 :: i :: rs := by exact rfl) (hi : nth l i = some oi := by exact rfl) (hg : want n l ρ oi.guard = some false := by exact rfl) (hsel : Region.noSelect l.toArray = true := by kernel_rfl) (hf : Region.free .any l.toArray (bits m l.length) i = true := by decide +kernel)
    (hQ : ∀ v c a w, Q (.panic c) (a.put oi.dst v) w → Q (.panic c) a w := by exact fun _ _ _ _ h => h) : EH P n l S (fuel + 1) m ρ w Q :=
  EH.take i (by rw [hr]; simp) hi hsel hf hQ hS (yoff hg) h
theorem EH.t7 {oi : Oper} (hS : S w) (h : EH P n l S fuel (bset m i) (pushv oi.dst v ρ) w Q) (hr : rdy m l.length 0 l = i1 :: i2 :: i3 :: i4 :: i5 :: i6 :: i7 :: i :: rs := by exact rfl) (hi : nth l i = some oi := by exact rfl) (hg : want n l ρ oi.guard = some true := by exact rfl) (hy : Pf P n S ρ oi.op oi.type v := by exact pft) (hsel : Region.noSelect l.toArray = true := by kernel_rfl) (hf : Region.free .any l.toArray (bits m l.length) i = true := by decide +kernel)
    (hQ : ∀ v c a w, Q (.panic c) (a.put oi.dst v) w → Q (.panic c) a w := by exact fun _ _ _ _ h => h) : EH P n l S (fuel + 1) m ρ w Q :=
  EH.take i (by rw [hr]; simp) hi hsel hf hQ hS (yif hg hy) h
theorem EH.o7 {oi : Oper} (hS : S w) (h : EH P n l S fuel (bset m i) (pushv oi.dst undef ρ) w Q) (hr : rdy m l.length 0 l = i1 :: i2 :: i3 :: i4 :: i5 :: i6 :: i7 :: i :: rs := by exact rfl) (hi : nth l i = some oi := by exact rfl) (hg : want n l ρ oi.guard = some false := by exact rfl) (hsel : Region.noSelect l.toArray = true := by kernel_rfl) (hf : Region.free .any l.toArray (bits m l.length) i = true := by decide +kernel)
    (hQ : ∀ v c a w, Q (.panic c) (a.put oi.dst v) w → Q (.panic c) a w := by exact fun _ _ _ _ h => h) : EH P n l S (fuel + 1) m ρ w Q :=
  EH.take i (by rw [hr]; simp) hi hsel hf hQ hS (yoff hg) h
/-- All that only reads what is held, or turns nothing. -/
theorem goh {G G' : Prop} (k : G') (h : Lf G' → G := by
    intro kkk
    repeat (first | refine EH.t0 hk ?_ | refine EH.t1 hk ?_ | refine EH.t2 hk ?_ | refine EH.t3 hk ?_ | refine EH.t4 hk ?_ | refine EH.t5 hk ?_ | refine EH.t6 hk ?_ | refine EH.t7 hk ?_ | refine EH.o0 hk ?_ | refine EH.o1 hk ?_ | refine EH.o2 hk ?_ | refine EH.o3 hk ?_ | refine EH.o4 hk ?_ | refine EH.o5 hk ?_ | refine EH.o6 hk ?_ | refine EH.o7 hk ?_)
    exact kkk.out) : G := h ⟨k⟩
end
end Go.Proofs.YtfhmamkafancbaaGreatDoor

/-
  The stepping engine: parts of rows, and their elements, in short words. An address that nobody asks for is not told.
-/
namespace Go.Proofs.YtfhmamkafancbaaGreatDoor
open Go.RowKit
set_option linter.unusedVariables false
set_option linter.unusedSimpArgs false
set_option linter.unusedSectionVars false
theorem bs_drop (l : List UInt8) (k : Nat) : bs (l.drop k) = (bs l).drop k := by simp [bs, List.map_drop]
theorem bs_take (l : List UInt8) (k : Nat) : bs (l.take k) = (bs l).take k := by simp [bs, List.map_take]
/-- The cells of a row from one element on, so many elements. -/
theorem pr_part {g : Hl} {s : Nat} {a : Option Addr} {n c : Nat} {xs : List Value} (h : Pr s g (.slice a n c) n xs) {l k : Nat} (hk : l + k ≤ n) {c' : Nat} {a' : Option Addr} (hc' : k ≤ c') (hc2 : c' ≤ 9223372036854775807) (ha : (a' = a ∧ (l = 0 ∨ c = l)) ∨ a' = a.map (·.add (l * s))) (h0 : a = none → c' = 0) :
    Pr s g (.slice a' k c') k ((xs.drop (l * s)).take (k * s)) := by
  obtain ⟨h1, a0, c0, e, hn, hc, hN, h⟩ := h
  simp only [Value.slice.injEq] at e
  obtain ⟨rfl, _, rfl⟩ := e
  have hls : (l + k) * s ≤ n * s := Nat.mul_le_mul_right _ hk
  rw [Nat.add_mul] at hls
  refine ⟨by rw [List.length_take, List.length_drop, h1]; omega, a', c', rfl, hc', by unfold maxLen; omega, fun e => ?_, ?_⟩
  · have : a = none := by
      rcases ha with ⟨rfl, _⟩ | rfl
      · exact e
      · simpa using e
    have := h0 this
    omega
  · rcases h with rfl | ⟨b, o, cur, t, fz, rfl, hg, ht⟩
    · exact .inl (by omega)
    · by_cases hk0 : k = 0
      · exact .inl hk0
      · refine .inr ⟨b, o + l * s, cur, t, fz, ?_, hg, ?_⟩
        · rcases ha with ⟨rfl, e⟩ | rfl
          · have : l = 0 := by omega
            subst this; simp
          · simp [Addr.add_lit]
        · rw [← ht, List.drop_take, List.take_take, List.drop_drop, Nat.min_eq_left (by omega)]
section
variable {P : Program} {n : Fm} {ρ ρ' : List (Nat × Value)} {W w w' : World} {g g' : Hl} {H H' : List HP} {Q : Exit → Act → World → Prop} {ops : Array Oper} {rest : List Oper} {d : Option Tmp} {ty : TypeId} {ps : String} {af : Array Edge} {v u : Value} {x y : Operand} {N : List (Nat × Value) → World → Prop} {o : Op} {b j k s : Nat} {xs : List Value} {e t : TypeId} {z : Value} {bytes : Nat} {a : Option Addr} {len c : Nat} {lo hi mx : Option Operand} {vl vh vm : Option Value}
/-- A bound of a slice, given or not. -/
def Lo (v : Option Value) (l : Nat) : Prop := (v = none ∧ l = 0) ∨ ∃ kd i, v = some (.int kd i) ∧ i = (l : Int)
def Hi (v : Option Value) (len h : Nat) : Prop := (v = none ∧ h = len) ∨ ∃ kd i, v = some (.int kd i) ∧ i = (h : Int)
def Mx (v h : Option Value) (c m : Nat) : Prop := (v = none ∧ m = c) ∨ (h.isSome = true ∧ ∃ kd i, v = some (.int kd i) ∧ i = (m : Int))
theorem run_slice_any (he : ElemOf P t e z s bytes) {l h m : Nat} (hlo : Lo vl l) (hhi : Hi vh len h) (hmx : Mx vm vh c m) (hlen : len ≤ c) (hl : l ≤ h) (hh : h ≤ m) (hm : m ≤ c) (hh2 : vh = none → h ≤ m) (w : World) :
    (Instr.sliceAt t (.slice a len c) vl vh vm).run P w = .ok (.slice (if m = l then a else a.map (·.add (l * s))) (h - l) (m - l)) w := by
  obtain ⟨ht, ⟨i, hi, hz, hs, hb⟩, hzs, hsz⟩ := he
  rcases hlo with ⟨rfl, rfl⟩ | ⟨k1, i1, rfl, rfl⟩ <;> rcases hhi with ⟨rfl, rfl⟩ | ⟨k2, i2, rfl, rfl⟩ <;> rcases hmx with ⟨rfl, rfl⟩ | ⟨hs1, k3, i3, rfl, rfl⟩ <;>
    simp_all [Instr.sliceAt, Instr.slice, run_underlying ht, Instr.sliceBounds, Instr.sliceBound, asIntOf, sizeOf, typeInfo, go_sem]
/-- A part of a row of the pool's, told. -/
theorem run_slice_pr (he : ElemOf P t e z s bytes) (hp : Pr s g (.slice a len c) len xs) {l h : Nat} (hlo : Lo vl l) (hhi : Hi vh len h) (hl : l ≤ h) (hh : h ≤ len) :
    ∃ a' c', (∀ w, (Instr.sliceAt t (.slice a len c) vl vh none).run P w = .ok (.slice a' (h - l) c') w) ∧ Pr s g (.slice a' (h - l) c') (h - l) ((xs.drop (l * s)).take ((h - l) * s)) := by
  obtain ⟨_, _, e1, hn, hc⟩ := hp.len
  simp only [Value.slice.injEq] at e1
  obtain ⟨_, _, rfl⟩ := e1
  have hN : a = none → len = 0 ∧ c = 0 := by
    obtain ⟨_, a0, c0, e, _, _, hN, _⟩ := hp
    simp only [Value.slice.injEq] at e
    obtain ⟨rfl, _, rfl⟩ := e
    exact hN
  refine ⟨_, _, fun w => run_slice_any he hlo hhi (.inl ⟨rfl, rfl⟩) hn hl (by omega) (Nat.le_refl _) (by omega) w, ?_⟩
  refine pr_part hp (by omega) (by omega) (by omega) ?_ (fun e => by have := hN e; omega)
  by_cases h : c = l
  · rw [if_pos h]; exact .inl ⟨rfl, .inr h⟩
  · rw [if_neg h]; exact .inr rfl
theorem run_slice_b (he : ElemOf P t e z 1 bytes) {l : List UInt8} (hp : Pr 1 g (.slice a len c) len (bs l)) {i h : Nat} (hlo : Lo vl i) (hhi : Hi vh len h) (hl : i ≤ h) (hh : h ≤ len) :
    ∃ a' c', (∀ w, (Instr.sliceAt t (.slice a len c) vl vh none).run P w = .ok (.slice a' (h - i) c') w) ∧ Pr 1 g (.slice a' (h - i) c') (h - i) (bs ((l.drop i).take (h - i))) := by
  obtain ⟨a', c', h1, h2⟩ := run_slice_pr (P := P) he hp hlo hhi hl hh
  refine ⟨a', c', h1, ?_⟩
  rw [bs_take, bs_drop]
  simpa using h2
/-- s[l:h] of a row of bytes that is the pool's. -/
theorem E.slb (he : ElemOf P t e z 1 bytes) {l : List UInt8} (hp : Pr 1 g (.slice a len c) len (bs l)) (i h : Nat) (k : ∀ a' c', Pr 1 g (.slice a' (h - i) c') (h - i) (bs ((l.drop i).take (h - i))) → E P n ops rest (pushv d (.slice a' (h - i) c') ρ) w Q)
    (hx : evo n ρ x = some (.slice a len c) := by exact rfl) (h1 : evm n ρ lo = some vl := by exact rfl) (h2 : evm n ρ hi = some vh := by exact rfl) (hlo : Lo vl i := by first | exact .inl ⟨rfl, rfl⟩ | exact .inr ⟨_, _, rfl, by omega⟩) (hhi : Hi vh len h := by first | exact .inl ⟨rfl, rfl⟩ | exact .inr ⟨_, _, rfl, by omega⟩) (hl : i ≤ h := by omega) (hh : h ≤ len := by omega) :
    E P n ops (⟨d, .slice t x lo hi none, ty, ps, af, none⟩ :: rest) ρ w Q := by
  obtain ⟨a', c', h3, h4⟩ := run_slice_b (P := P) he hp hlo hhi hl hh
  exact E.pv (Pv.slice hx h1 h2 rfl h3) (k _ _ h4)
theorem E.slp (he : ElemOf P t e z s bytes) (hp : Pr s g (.slice a len c) len xs) (i h : Nat) (k : ∀ a' c', Pr s g (.slice a' (h - i) c') (h - i) ((xs.drop (i * s)).take ((h - i) * s)) → E P n ops rest (pushv d (.slice a' (h - i) c') ρ) w Q)
    (hx : evo n ρ x = some (.slice a len c) := by exact rfl) (h1 : evm n ρ lo = some vl := by exact rfl) (h2 : evm n ρ hi = some vh := by exact rfl) (hlo : Lo vl i := by first | exact .inl ⟨rfl, rfl⟩ | exact .inr ⟨_, _, rfl, by omega⟩) (hhi : Hi vh len h := by first | exact .inl ⟨rfl, rfl⟩ | exact .inr ⟨_, _, rfl, by omega⟩) (hl : i ≤ h := by omega) (hh : h ≤ len := by omega) :
    E P n ops (⟨d, .slice t x lo hi none, ty, ps, af, none⟩ :: rest) ρ w Q := by
  obtain ⟨a', c', h3, h4⟩ := run_slice_pr (P := P) he hp hlo hhi hl hh
  exact E.pv (Pv.slice hx h1 h2 rfl h3) (k _ _ h4)
/-- The place of an element. -/
theorem run_index_el (he : ElemOf P t e z s bytes) (hp : Pr s g (.slice a len c) len xs) {kd : IntKind} {i : Int} (hi : i = (j : Int)) (hj : j < len) : ∃ b o, (∀ w, (Instr.indexAt t (.slice a len c) (.int kd i)).run P w = .ok (.pointer (some ⟨b, o, none⟩)) w) ∧ ∀ w : World, (∀ k o, g k = some o → w.heap[k]? = some o) → w.rangeAt b o ((xs.drop (j * s)).take s) := by
  obtain ⟨h1, a0, c0, e1, hn, hc, hN, h⟩ := hp
  simp only [Value.slice.injEq] at e1
  obtain ⟨rfl, _, rfl⟩ := e1
  rcases h with rfl | ⟨b, o, cur, t', fz, rfl, hg, ht⟩
  · omega
  · refine ⟨b, o + j * s, fun w => run_index_at he hi hj w, fun w hw => ?_⟩
    intro q v hv
    have hb := hw _ _ hg
    rw [List.getElem?_take] at hv
    split at hv
    · rename_i hq
      rw [List.getElem?_drop, ← ht, List.getElem?_take] at hv
      split at hv
      · rw [List.getElem?_drop] at hv
        simp only [World.cell?, hb]
        rw [show o + j * s + q = o + (j * s + q) by omega]
        simpa using hv
      · cases hv
    · cases hv
/-- &s[j] of a row of the pool's, an element of one cell. -/
theorem E.ix (he : ElemOf P t e z 1 bytes) (hs : Sat W w g H) (hp : Pr 1 g (.slice a len c) len xs) (j : Nat) (hxj : xs[j]? = some v) (k : ∀ b o, w.cell? ⟨b, o, none⟩ = some v → E P n ops rest (pushv d (.pointer (some ⟨b, o, none⟩)) ρ) w Q) {kd : IntKind} {i : Int}
    (hx : evo n ρ x = some (.slice a len c) := by exact rfl) (hy : evo n ρ y = some (.int kd i) := by exact rfl) (hi : i = (j : Int) := by omega) (hj : j < len := by omega) :
    E P n ops (⟨d, .indexAddr t x y, ty, ps, af, none⟩ :: rest) ρ w Q := by
  obtain ⟨b, o, h1, h2⟩ := run_index_el (P := P) he hp hi hj
  refine E.pv (Pv.indexAddr hx hy h1) (k b o ?_)
  refine h2 w (fun k o h => hs.pool h) 0 v ?_
  rw [List.getElem?_take, if_pos (by omega), List.getElem?_drop]
  simpa using hxj
/-- &s[j] of a row that reads so now, an element of one cell. -/
theorem E.ixr {D : Nat → Prop} (he : ElemOf P t e z 1 bytes) (hp : Row 1 w D (.slice a len c) len xs) (j : Nat) (hxj : xs[j]? = some v) (k : ∀ b o, w.cell? ⟨b, o, none⟩ = some v → E P n ops rest (pushv d (.pointer (some ⟨b, o, none⟩)) ρ) w Q) {kd : IntKind} {i : Int}
    (hx : evo n ρ x = some (.slice a len c) := by exact rfl) (hy : evo n ρ y = some (.int kd i) := by exact rfl) (hi : i = (j : Int) := by omega) (hj : j < len := by omega) :
    E P n ops (⟨d, .indexAddr t x y, ty, ps, af, none⟩ :: rest) ρ w Q := by
  have ha : ∃ b o, a = some ⟨b, o, none⟩ := by
    obtain ⟨_, a', c', e, _, _, _, h0 | ⟨b, o, cur, t', fz, e2, _, _⟩⟩ := id hp
    · omega
    · simp only [Value.slice.injEq] at e
      exact ⟨b, o, e.1.trans e2⟩
  obtain ⟨b, o, rfl⟩ := ha
  have hc := (hp.cellAt rfl hxj).2
  exact E.pv (Pv.indexAddr hx hy (v := .pointer (some ⟨b, o + j, none⟩)) (fun w => by have := run_index_at he hi hj w (P := P) (b := b) (o := o) (n := len) (c := c) (kd := kd); simpa using this)) (k b (o + j) hc)
/-- An element of several cells. -/
theorem E.ixs (he : ElemOf P t e z s bytes) (hs : Sat W w g H) (hp : Pr s g (.slice a len c) len xs) (j : Nat) (k : ∀ b o, w.rangeAt b o ((xs.drop (j * s)).take s) → E P n ops rest (pushv d (.pointer (some ⟨b, o, none⟩)) ρ) w Q) {kd : IntKind} {i : Int}
    (hx : evo n ρ x = some (.slice a len c) := by exact rfl) (hy : evo n ρ y = some (.int kd i) := by exact rfl) (hi : i = (j : Int) := by omega) (hj : j < len := by omega) :
    E P n ops (⟨d, .indexAddr t x y, ty, ps, af, none⟩ :: rest) ρ w Q := by
  obtain ⟨b, o, h1, h2⟩ := run_index_el (P := P) he hp hi hj
  exact E.pv (Pv.indexAddr hx hy h1) (k b o (h2 w fun k o h => hs.pool h))
/-- string(b), in order. -/
theorem E.strc {bl : List UInt8} {e' dt : TypeId} {D : Nat → Prop} (hrow : Row 1 w D (.slice a len c) len (bs bl)) (h1 : P.underlying t = some (.slice e')) (h2 : P.underlying e' = some (.int .u8)) (h3 : P.underlying dt = some .string) (h : E P n ops rest (pushv d (.string ⟨bl.toArray⟩) ρ) w Q) (hx : evo n ρ x = some (.slice a len c) := by exact rfl) :
    E P n ops (⟨d, .convert t dt x, ty, ps, af, none⟩ :: rest) ρ w Q := E.cons (St.string hx h1 h2 h3 hrow h)
/-- make([]T, n). -/
theorem E.mk {kl kc : IntKind} {k2 : Nat} {i j : Int} (he : ElemOf P t e z s bytes) (hs : Sat W w g H) (h : ∀ a' w', Sat W w' g (own e s (.slice a' k2 k2) k2 (madeCells z.cells (k2 * s)).toList :: H) → E P n ops rest (pushv d (.slice a' k2 k2) ρ) w' Q) (hb : k2 * bytes ≤ 140737488355328 := by omega)
    (hx : evo n ρ x = some (.int kl i) := by exact rfl) (hy : evo n ρ y = some (.int kc j) := by exact rfl) (hi : i = (k2 : Int) := by omega) (hj : j = (k2 : Int) := by omega) (h63 : k2 ≤ 9223372036854775807 := by omega) :
    E P n ops (⟨d, .makeSlice t x y, ty, ps, af, none⟩ :: rest) ρ w Q := by
  subst hi hj
  obtain ⟨ht, ⟨inf, hin, hz, hsz, hby⟩, hzs, hpos⟩ := he
  obtain ⟨w', hr, ho, hg⟩ := run_make_full (P := P) w w.heap.size t e inf z s ht hin hz hsz kl kc k2 (by rw [hby, Nat.mul_comm]; omega) (by unfold maxLen; omega) (Nat.le_refl _)
  exact E.cons (St.val (fun a ha => by simp [execOp, ha.eval hx, ha.eval hy, hr]) (h _ _ (hs.newOwn ho ⟨hg.os, hg.tape, hg.output, hg.size, fun q hq => hg.block q hq (by simp)⟩)))
/-- A struct out of a range of cells. -/
theorem E.ldr {cs : List Value} {o : Nat} (hr : w.rangeAt b o cs) (st : AggOf P t k) (hk : cs.length = k) (h : E P n ops rest (pushv d (.agg cs.toArray) ρ) w Q) (hx : evo n ρ x = some (.pointer (some ⟨b, o, none⟩)) := by exact rfl) :
    E P n ops (⟨d, .load t x, ty, ps, af, none⟩ :: rest) ρ w Q := by
  obtain ⟨d', h1, h2, h3⟩ := st
  subst hk
  exact E.cons (St.loads hx (run_loadVar_mid w b o t cs d' hr h1 (by cases d' <;> first | rfl | simp at h2) h3) h)
end
section
variable {P : Program} {n : Fm} {ρ : List (Nat × Value)} {W w w' : World} {g g' : Hl} {H H' : List HP} {Q : Exit → Act → World → Prop} {l : List Oper} {S : World → Prop} {fuel m : Nat} {d : Option Tmp} {ty : TypeId} {ps : String} {af : Array Edge} {gd : Option (Nat × Bool)} {v u : Value} {x y : Operand} {o : Op} {F : List (Nat × List Value × TypeId)} {i b k s : Nat} {rs : List Nat} {t e : TypeId} {z : Value} {bytes : Nat} {a : Option Addr} {len c : Nat} {lo hi mx : Option Operand} {vl vh vm : Option Value}
/-- s[l:h] of a row of bytes, in a drawn region: the first operation that may come up. -/
theorem EH.slb (he : ElemOf P t e z 1 bytes) {bl : List UInt8} (hp : Pr 1 g (.slice a len c) len (bs bl)) (q h : Nat) (hS : S w) (kk : ∀ a' c', Pr 1 g (.slice a' (h - q) c') (h - q) (bs ((bl.drop q).take (h - q))) → EH P n l S fuel (bset m i) (pushv d (.slice a' (h - q) c') ρ) w Q)
    (hr : rdy m l.length 0 l = i :: rs := by exact rfl) (hnth : nth l i = some ⟨d, .slice t x lo hi none, ty, ps, af, gd⟩ := by exact rfl) (hg : want n l ρ gd = some true := by exact rfl)
    (hx : evo n ρ x = some (.slice a len c) := by exact rfl) (h1 : evm n ρ lo = some vl := by exact rfl) (h2 : evm n ρ hi = some vh := by exact rfl) (hlo : Lo vl q := by first | exact .inl ⟨rfl, rfl⟩ | exact .inr ⟨_, _, rfl, by omega⟩) (hhi : Hi vh len h := by first | exact .inl ⟨rfl, rfl⟩ | exact .inr ⟨_, _, rfl, by omega⟩) (hl : q ≤ h := by omega) (hh : h ≤ len := by omega)
    (hsel : Region.noSelect l.toArray = true := by kernel_rfl) (hf : Region.free .any l.toArray (bits m l.length) i = true := by decide +kernel)
    (hQ : ∀ v c a w, Q (.panic c) (a.put d v) w → Q (.panic c) a w := by exact fun _ _ _ _ h => h) : EH P n l S (fuel + 1) m ρ w Q := by
  obtain ⟨a', c', h3, h4⟩ := run_slice_b (P := P) he hp hlo hhi hl hh
  exact EH.take i (by rw [hr]; simp) hnth hsel hf hQ hS (yif (oi := ⟨d, .slice t x lo hi none, ty, ps, af, gd⟩) hg (Pf.pv (Pv.slice hx h1 h2 rfl h3))) (kk _ _ h4)
/-- &s[j] of a row of the pool's, in a drawn region: the first operation that may come up. -/
theorem EH.ix {xs : List Value} (he : ElemOf P t e z 1 bytes) (hp : Pr 1 g (.slice a len c) len xs) (q : Nat) (hxj : xs[q]? = some v) (hS : S w) (hSk : ∀ w, S w → Keeps g F w) (kk : ∀ b o, Rd S b o v → EH P n l S fuel (bset m i) (pushv d (.pointer (some ⟨b, o, none⟩)) ρ) w Q) {kd : IntKind} {iv : Int}
    (hr : rdy m l.length 0 l = i :: rs := by exact rfl) (hnth : nth l i = some ⟨d, .indexAddr t x y, ty, ps, af, gd⟩ := by exact rfl) (hg : want n l ρ gd = some true := by exact rfl)
    (hx : evo n ρ x = some (.slice a len c) := by exact rfl) (hy : evo n ρ y = some (.int kd iv) := by exact rfl) (hi : iv = (q : Int) := by omega) (hj : q < len := by omega)
    (hsel : Region.noSelect l.toArray = true := by kernel_rfl) (hf : Region.free .any l.toArray (bits m l.length) i = true := by decide +kernel)
    (hQ : ∀ v c a w, Q (.panic c) (a.put d v) w → Q (.panic c) a w := by exact fun _ _ _ _ h => h) : EH P n l S (fuel + 1) m ρ w Q := by
  obtain ⟨b, o, h1, h2⟩ := run_index_el (P := P) he hp hi hj
  refine EH.take i (by rw [hr]; simp) hnth hsel hf hQ hS (yif (oi := ⟨d, .indexAddr t x y, ty, ps, af, gd⟩) hg (Pf.pv (Pv.indexAddr hx hy h1))) (kk b o ?_)
  intro w' hw'
  refine h2 w' (hSk w' hw').1 0 v ?_
  rw [List.getElem?_take, if_pos (by omega), List.getElem?_drop]
  simpa using hxj
/-- string(b) of a row of the pool's, in a drawn region: the first operation that may come up. -/
theorem EH.strc {bl : List UInt8} (hp : Pr 1 g (.slice a len c) len (bs bl)) (hS : S w) (hSk : ∀ w, S w → Keeps g F w) (h1 : P.underlying t = some (.slice e)) (h2 : P.underlying e = some (.int .u8)) {dt : TypeId} (h3 : P.underlying dt = some .string) (kk : EH P n l S fuel (bset m i) (pushv d (.string ⟨bl.toArray⟩) ρ) w Q)
    (hr : rdy m l.length 0 l = i :: rs := by exact rfl) (hnth : nth l i = some ⟨d, .convert t dt x, ty, ps, af, gd⟩ := by exact rfl) (hg : want n l ρ gd = some true := by exact rfl)
    (hx : evo n ρ x = some (.slice a len c) := by exact rfl)
    (hsel : Region.noSelect l.toArray = true := by kernel_rfl) (hf : Region.free .any l.toArray (bits m l.length) i = true := by decide +kernel)
    (hQ : ∀ v c a w, Q (.panic c) (a.put d v) w → Q (.panic c) a w := by exact fun _ _ _ _ h => h) : EH P n l S (fuel + 1) m ρ w Q :=
  EH.take i (by rw [hr]; simp) hnth hsel hf hQ hS (yif (oi := ⟨d, .convert t dt x, ty, ps, af, gd⟩) hg (Pf.val fun a' ha w hw d ps af g' => by
    have := (Pf.string (P := P) (n := n) (F := F) (g := g) (ty := ty) hx hp h1 h2 h3) a' ha w (hSk w hw) d ps af g'
    exact this)) kk
end
end Go.Proofs.YtfhmamkafancbaaGreatDoor

/-
  What is owned: many things as one; rows whose array may be longer than they may grow; lists of keys and things.
-/
namespace Go.Proofs.YtfhmamkafancbaaGreatDoor
open Go.RowKit
set_option linter.unusedVariables false
set_option linter.unusedSimpArgs false
set_option linter.unusedSectionVars false
/-- Many things as one. -/
def bsep : List HP → HP
  | [] => nothing
  | P :: r => sep P (bsep r)
theorem Sat.bopen {W w : World} {g : Hl} : ∀ {l H : List HP}, Sat W w g (bsep l :: H) → Sat W w g (l ++ H)
  | [], _, hs => hs.drop
  | P :: r, H, hs => by
    have h1 := hs.split.swap
    have h2 := Sat.bopen (l := r) h1
    exact h2.toFront
theorem Sat.bclose {W w : World} {g : Hl} : ∀ {l H : List HP}, Sat W w g (l ++ H) → Sat W w g (bsep l :: H)
  | [], _, hs => hs.mknothing
  | P :: r, H, hs => by
    have h1 : Sat W w g (P :: (r ++ H)) := hs
    have h2 := Sat.bclose (l := r) (h1.toBack (H := r) (H' := H))
    exact h2.swap.join
theorem Sat.d1 {W w : World} {g : Hl} {A B : HP} {H : List HP} (hs : Sat W w g (A :: B :: H)) : Sat W w g (A :: H) := hs.swap.drop
/-- An own row whose array may be longer than its capacity. -/
def ownwP (E : TypeId) (size : Nat) (v : Value) (n : Nat) (xs : List Value) (h : Hl) : Prop :=
  xs.length = n * size ∧ ((v = .slice none 0 0 ∧ n = 0 ∧ h = Hl.emp) ∨
    ∃ (b cap : Nat) (cur : Array Value), v = .slice (some ⟨b, 0, none⟩) n cap ∧ n ≤ cap ∧ cap ≤ 9223372036854775807 ∧ cap * size ≤ cur.size ∧ cur.toList.take (n * size) = xs ∧ h = Hl.one b (.cells cur E (0, 0)))
def ownw (E : TypeId) (size : Nat) (v : Value) (n : Nat) (xs : List Value) : HP := ⟨fun _ h => ownwP E size v n xs h, fun _ _ _ _ h => h⟩
namespace Sat
variable {W w w' : World} {g g' : Hl} {H H' : List HP} {E : TypeId} {size : Nat} {v : Value} {n : Nat} {xs : List Value}
theorem slack (hs : Sat W w g (own E size v n xs :: H)) : Sat W w g (ownw E size v n xs :: H) := hs.conv fun h ⟨h1, h2⟩ => ⟨h1, by
  rcases h2 with h2 | ⟨b, cap, cur, e, hn, hm, hc, ht, he⟩
  · exact .inl h2
  · exact .inr ⟨b, cap, cur, e, hn, by unfold maxLen at hm; omega, by omega, ht, he⟩⟩
theorem wnil (hs : Sat W w g H) : Sat W w g (ownw E size (.slice none 0 0) 0 [] :: H) := hs.mknothing.conv fun h e => ⟨by simp, .inl ⟨rfl, rfl, e⟩⟩
theorem wlen (hs : Sat W w g (ownw E size v n xs :: H)) : xs.length = n * size ∧ ∃ a c, v = .slice a n c ∧ n ≤ c ∧ c ≤ 9223372036854775807 ∧ (a = none → n = 0 ∧ c = 0) := hs.fact fun h ⟨h1, h2⟩ => ⟨h1, by
  rcases h2 with ⟨e, h0, _⟩ | ⟨b, cap, cur, e, hn, hm, _⟩
  · subst h0; exact ⟨none, 0, e, Nat.le_refl _, Nat.zero_le _, fun _ => ⟨rfl, rfl⟩⟩
  · exact ⟨_, cap, e, hn, hm, fun e => by simp at e⟩⟩
/-- It reads as a row. -/
theorem wrow (hs : Sat W w g (ownw E size v n xs :: H)) : Row size w (fun _ => True) v n xs := by
  obtain ⟨h1, h2, h3, h, ⟨a, x, d, rfl, ⟨hl, hp⟩, s⟩, dg, ag⟩ := hs
  rcases hp with ⟨rfl, rfl, _⟩ | ⟨b, cap, cur, rfl, hn, hm, hcs, ht, rfl⟩
  · obtain rfl : xs = [] := List.eq_nil_of_length_eq_zero (by simpa using hl)
    exact Row.nil _ _
  · refine ⟨hl, _, cap, rfl, hn, by unfold maxLen; omega, fun e => by simp at e, .inr ⟨b, 0, cur, E, (0, 0), rfl, trivial, ag b (.cells cur E (0, 0)) ?_, by simpa using ht⟩⟩
    rcases dg b with e | e
    · simp [Hl.un, e, Hl.one]
    · simp [Hl.un, Hl.one] at e
theorem wempty {b : Nat} (hs : Sat W w g (blk b [] E :: H)) : Sat W w g (ownw E size (.slice (some ⟨b, 0, none⟩) 0 0) 0 [] :: H) := hs.conv fun h e => ⟨by simp, .inr ⟨b, 0, #[], rfl, Nat.le_refl _, by omega, by simp, by simp, e⟩⟩
/-- It becomes the pool's. -/
theorem wpublish (hs : Sat W w g (ownw E size v n xs :: H)) : ∃ g', Hl.le g g' ∧ Pr size g' v n xs ∧ Sat W w g' H := by
  obtain ⟨h, ⟨h1, h2⟩, hle, hle2, hs2⟩ := hs.publish
  refine ⟨_, hle, ⟨h1, ?_⟩, hs2⟩
  rcases h2 with ⟨rfl, rfl, _⟩ | ⟨b, cap, cur, rfl, hn, hm, hcs, ht, rfl⟩
  · exact ⟨none, 0, rfl, Nat.le_refl _, Nat.zero_le _, fun _ => ⟨rfl, rfl⟩, .inl rfl⟩
  · exact ⟨_, cap, rfl, hn, by unfold maxLen; omega, fun e => by simp at e, .inr ⟨b, 0, cur, E, (0, 0), rfl, hle2 b (.cells cur E (0, 0)) (by simp [Hl.one]), by simpa using ht⟩⟩
/-- Its first elements, that may not grow. -/
theorem wcut {c : Nat} {a : Option Addr} (hs : Sat W w g (ownw E size (.slice a n c) n xs :: H)) {k : Nat} (hk : k ≤ n) : Sat W w g (ownw E size (.slice a k k) k (xs.take (k * size)) :: H) := hs.conv fun h ⟨h1, h2⟩ => by
  have hks : k * size ≤ n * size := Nat.mul_le_mul_right _ hk
  refine ⟨by rw [List.length_take, h1]; omega, ?_⟩
  rcases h2 with ⟨e, rfl, he⟩ | ⟨b, cap, cur, e, hn, hm, hcs, ht, he⟩
  · obtain rfl : k = 0 := by omega
    simp only [Value.slice.injEq] at e
    exact .inl ⟨by rw [e.1], rfl, he⟩
  · simp only [Value.slice.injEq] at e
    obtain ⟨rfl, -, rfl⟩ := e
    have hkc : k * size ≤ c * size := Nat.mul_le_mul_right _ (by omega)
    exact .inr ⟨b, k, cur, rfl, Nat.le_refl _, by omega, by omega, by rw [← ht, List.take_take, Nat.min_eq_left hks], he⟩
end Sat
section
variable {P : Program} {W w w' : World} {g g' : Hl} {H H' : List HP} {t e ty : TypeId} {z : Value} {size bytes : Nat} {n : Fm} {ρ : List (Nat × Value)} {Q : Exit → Act → World → Prop} {ops : Array Oper} {rest : List Oper} {d : Option Tmp} {ps : String} {af : Array Edge} {x y : Operand} {N : List (Nat × Value) → World → Prop}
theorem run_appendw (he : ElemOf P t e z size bytes) {a : Option Addr} {k c m : Nat} {u : Value} {xs news : List Value} (hs : Sat W w g (ownw e size (.slice a k c) k xs :: H)) {D : Nat → Prop} (hrow : Row size w D u m news) (h1 : ∀ x ∈ news, x.oneCell' = true) (h63 : k + m ≤ 9223372036854775807) (hbytes : (k + m) * bytes ≤ 140737488355328) :
    ∃ a' c' w', (Builtin.append_ #[t, t] ty #[.slice a k c, u]).run P w = .ok (.slice a' (k + m) c') w' ∧ Sat W w' g (ownw e size (.slice a' (k + m) c') (k + m) (xs ++ news) :: H) := by
  obtain ⟨hl, _, _, e0, hkc, hcm, hnone⟩ := hs.wlen
  simp only [Value.slice.injEq] at e0
  obtain ⟨rfl, -, rfl⟩ := e0
  obtain ⟨ht, ⟨i, hi, hz, hsz, hb⟩, hzs, hpos⟩ := he
  by_cases hm : m = 0
  · subst hm
    have hn0 : news = [] := List.eq_nil_of_length_eq_zero (by simpa using hrow.1)
    subst hn0
    refine ⟨a, c, w, ?_, by simpa using hs⟩
    rcases hrow.news with ⟨rfl, _, _⟩ | ⟨a', c', rfl, _, _⟩
    · cases a <;> simp [Builtin.append_, run_underlying ht, sizeOf, typeInfo, hi, Builtin.lenOf, hkc, Builtin.firstCells, storeCells]
    · cases a <;> simp [Builtin.append_, run_underlying ht, sizeOf, typeInfo, hi, Builtin.lenOf, hkc, Builtin.firstCells, loadCells, loadCellsFrom, storeCells]
  rcases hrow.news with ⟨_, h0, _⟩ | ⟨a', c', rfl, hnl, hnc⟩
  · exact absurd h0 hm
  have fin : ∀ v' w', w'.ownsRow w.heap.size e size v' (k + m) (xs ++ news) → w.grownBy w' none → ∃ a2 c2, v' = .slice a2 (k + m) c2 ∧ Sat W w' g (ownw e size (.slice a2 (k + m) c2) (k + m) (xs ++ news) :: H) := by
    intro v' w' ho hg
    have hs2 := (hs.drop.newOwn ho ⟨hg.os, hg.tape, hg.output, hg.size, fun q hq => hg.block q hq (by simp)⟩)
    obtain ⟨a2, c2, rfl, _⟩ := hs2.ownLen
    exact ⟨a2, c2, rfl, hs2.slack⟩
  by_cases hroom : k + m ≤ c
  · -- in place
    cases ha : a with
    | none => have := hnone ha; omega
    | some ad =>
      subst ha
      have key : ∃ b cur, ad = ⟨b, 0, none⟩ ∧ c * size ≤ cur.size ∧ cur.toList.take (k * size) = xs ∧ Sat W w g (obj b (.cells cur e (0, 0)) :: H) := by
        obtain ⟨q1, q2, q3, h, ⟨x1, x2, d, ed, ⟨_, hp⟩, s⟩, dg, ag⟩ := hs
        rcases hp with ⟨e1, _⟩ | ⟨b, cap, cur, e1, _, _, hcs, htk, rfl⟩
        · cases e1
        · simp only [Value.slice.injEq, Option.some.injEq] at e1
          obtain ⟨rfl, -, rfl⟩ := e1
          exact ⟨b, cur, rfl, hcs, htk, q1, q2, q3, h, ⟨_, x2, d, ed, rfl, s⟩, dg, ag⟩
      obtain ⟨b, cur, rfl, hcs, htk, ho⟩ := key
      subst hsz
      have hks : (k + m) * i.size ≤ c * i.size := Nat.mul_le_mul_right _ hroom
      rw [Nat.add_mul] at hks
      have hfit : k * i.size + news.length ≤ cur.size := by rw [hnl]; omega
      have hrun := run_append_room (P := P) w t ty e i ht hi b k c cur ho.heap a' m c' news hnl hnc h1 hroom hfit
      refine ⟨_, _, _, hrun, ?_⟩
      refine (ho.update (w' := w.setRow b (cur.toList.take (k * i.size) ++ news ++ cur.toList.drop (k * i.size + news.length)).toArray) (o' := .cells (cur.toList.take (k * i.size) ++ news ++ cur.toList.drop (k * i.size + news.length)).toArray e (0, 0)) rfl rfl rfl ?_ ?_).conv fun h hh => ⟨?_, .inr ⟨b, c, _, rfl, hroom, hcm, ?_, ?_, hh⟩⟩
      · exact setRow_heap w b cur _ e _ ho.heap
      · intro q hq hne
        exact setRow_other w b q _ hne
      · rw [List.length_append, hl, hnl, Nat.add_mul]
      · simp only [List.size_toArray, List.length_append, List.length_take, List.length_drop, Array.length_toList]
        omega
      · have e3 : (cur.toList.take (k * i.size) ++ news).length = (k + m) * i.size := by rw [List.length_append, htk, hl, hnl, Nat.add_mul]
        simp only
        rw [List.take_append_of_le_length (by omega), List.take_of_length_le (by omega), htk]
  · -- a new one
    cases ha : a with
    | none =>
      subst ha
      obtain ⟨rfl, rfl⟩ := hnone rfl
      obtain rfl : xs = [] := List.eq_nil_of_length_eq_zero (by simpa using hl)
      obtain ⟨v', w', hrun, r1, r2, _⟩ := run_append_own (P := P) w w.heap.size t ty e i z size bytes ht hi hz hsz hb hzs hpos (.slice none 0 0) 0 [] (World.ownsRow_nil w _ e size) a' m c' news hnl hnc h1 (by unfold maxLen; omega) hbytes (Nat.le_refl _)
      obtain ⟨a2, c2, rfl, h2⟩ := fin v' w' r1 r2
      exact ⟨a2, c2, w', hrun, h2⟩
    | some ad =>
      subst ha
      have hc0 : ∀ j u, xs[j]? = some u → w.cell? (ad.add j) = some u := by
        rcases hs.wrow.news with ⟨e, _⟩ | ⟨a, c, e, _, hc⟩
        · cases e
        · simp only [Value.slice.injEq, Option.some.injEq] at e
          obtain ⟨rfl, _⟩ := e
          exact hc
      obtain ⟨v', w', hrun, r1, r2⟩ := run_append_arg_grows (P := P) w t ty e i z size bytes ht hi hz hsz hb hzs hpos ad k c xs hl hc0 a' m c' news hnl hnc (by omega) (by unfold maxLen; omega) hbytes
      obtain ⟨a2, c2, rfl, h2⟩ := fin v' w' r1 r2
      exact ⟨a2, c2, w', hrun, h2⟩
/-- append onto such a row. -/
theorem E.appw {s : Operand} {a : Option Addr} {k c m : Nat} {u : Value} {xs news : List Value} (he : ElemOf P t e z size bytes) (hs : Sat W w g (ownw e size (.slice a k c) k xs :: H)) {D : Nat → Prop} (hrow : Row size w D u m news)
    (h : ∀ a' c' w', Sat W w' g (ownw e size (.slice a' (k + m) c') (k + m) (xs ++ news) :: H) → E P n ops rest (pushv d (.slice a' (k + m) c') ρ) w' Q) (h63 : k + m ≤ 9223372036854775807 := by omega) (hbytes : (k + m) * bytes ≤ 140737488355328 := by omega)
    (hx : evo n ρ s = some (.slice a k c) := by exact rfl) (hy : evo n ρ y = some u := by exact rfl) (h1 : ∀ x ∈ news, x.oneCell' = true := by first | exact bs_one _ | (intro u hu; simp only [List.mem_cons, List.not_mem_nil, or_false] at hu; rcases hu with rfl | rfl | rfl <;> exact rfl)) :
    E P n ops (⟨d, .call ⟨.builtin .append, #[s, y], #[t, t]⟩, ty, ps, af, none⟩ :: rest) ρ w Q := by
  obtain ⟨a', c', w', hr, hs'⟩ := run_appendw (P := P) (ty := ty) he hs hrow h1 h63 hbytes
  refine E.cons (St.val (v := .slice a' (k + m) c') (w' := w') (fun ac ha => ?_) (h a' c' w' hs'))
  simp only [execOp, resolve, invoke, builtin, Sem.run_bind, Sem.run_pure, Result.andThen_ok, List.map_toArray, List.map_cons, List.map_nil, ha.eval hx, ha.eval hy, hr]
end
/-! Lists of keys and things. -/
section
variable {κ β : Type} [DecidableEq κ]
def aget (k : κ) : List (κ × β) → Option β
  | [] => none
  | (a, v) :: r => if k = a then some v else aget k r
def aput (k : κ) (v : β) : List (κ × β) → List (κ × β)
  | [] => [(k, v)]
  | (a, u) :: r => if k = a then (a, v) :: r else (a, u) :: aput k v r
def adrop (k : κ) : List (κ × β) → List (κ × β)
  | [] => []
  | (a, u) :: r => if k = a then r else (a, u) :: adrop k r
theorem alook_map (f : β → Value) (k : κ) : ∀ (l : List (κ × β)), alook k (l.map fun p => (p.1, f p.2)) = (aget k l).map f
  | [] => rfl
  | (a, v) :: r => by
    simp only [List.map_cons, alook, aget]
    split
    · rfl
    · exact alook_map f k r
theorem aset_map (f : β → Value) (k : κ) (v : β) : ∀ (l : List (κ × β)), aset k (f v) (l.map fun p => (p.1, f p.2)) = (aput k v l).map fun p => (p.1, f p.2)
  | [] => rfl
  | (a, u) :: r => by
    simp only [List.map_cons, aset, aput]
    split
    · rfl
    · simp only [List.map_cons, aset_map f k v r]
theorem adel_map (f : β → Value) (k : κ) : ∀ (l : List (κ × β)), adel k (l.map fun p => (p.1, f p.2)) = (adrop k l).map fun p => (p.1, f p.2)
  | [] => rfl
  | (a, u) :: r => by
    simp only [List.map_cons, adel, adrop]
    split
    · rfl
    · simp only [List.map_cons, adel_map f k r]
theorem al_split {k : κ} {v : β} : ∀ {l : List (κ × β)}, aget k l = some v → ∃ l1 l2, l = l1 ++ (k, v) :: l2 ∧ (∀ u, aput k u l = l1 ++ (k, u) :: l2) ∧ adrop k l = l1 ++ l2
  | [], h => by cases h
  | (a, u) :: r, h => by
    simp only [aget] at h
    by_cases e : k = a
    · subst e
      simp only [if_true, Option.some.injEq] at h
      subst h
      exact ⟨[], r, rfl, fun u => by simp [aput], by simp [adrop]⟩
    · rw [if_neg e] at h
      obtain ⟨l1, l2, rfl, h2, h3⟩ := al_split h
      exact ⟨(a, u) :: l1, l2, rfl, fun u => by simp [aput, e, h2], by simp [adrop, e, h3]⟩
theorem as_none {k : κ} {v : β} : ∀ {l : List (κ × β)}, aget k l = none → aput k v l = l ++ [(k, v)] ∧ adrop k l = l
  | [], _ => ⟨rfl, rfl⟩
  | (a, u) :: r, h => by
    simp only [aget] at h
    by_cases e : k = a
    · simp [e] at h
    · rw [if_neg e] at h
      obtain ⟨h1, h2⟩ := as_none (v := v) h
      simp [aput, adrop, e, h1, h2]
theorem al_map {γ : Type} (f : β → γ) (k : κ) : ∀ (l : List (κ × β)), aget k (l.map fun p => (p.1, f p.2)) = (aget k l).map f
  | [] => rfl
  | (a, v) :: r => by
    simp only [List.map_cons, aget]
    split
    · rfl
    · exact al_map f k r
theorem as_map {γ : Type} (f : β → γ) (k : κ) (v : β) : ∀ (l : List (κ × β)), aput k (f v) (l.map fun p => (p.1, f p.2)) = (aput k v l).map fun p => (p.1, f p.2)
  | [] => rfl
  | (a, u) :: r => by
    simp only [List.map_cons, aput]
    split
    · rfl
    · simp only [List.map_cons, as_map f k v r]
theorem ad_map {γ : Type} (f : β → γ) (k : κ) : ∀ (l : List (κ × β)), adrop k (l.map fun p => (p.1, f p.2)) = (adrop k l).map fun p => (p.1, f p.2)
  | [] => rfl
  | (a, u) :: r => by
    simp only [List.map_cons, adrop]
    split
    · rfl
    · simp only [List.map_cons, ad_map f k r]
end
end Go.Proofs.YtfhmamkafancbaaGreatDoor

/-
  A map that a call owns, while it is gone through.
-/
namespace Go.Proofs.YtfhmamkafancbaaGreatDoor
open Go.RowKit
set_option linter.unusedVariables false
set_option linter.unusedSimpArgs false
set_option linter.unusedSectionVars false
section
variable {κ : Type} [DecidableEq κ]
structure IS where
  es : Array MapEntry
  clock : Nat
  since : Nat
  seen : Array Nat
  c0 : Nat
/-- Block b is a map, block r goes through it: 'todo' is still to come; 'cur' came last. -/
def IterOk (enc : κ → Value) (l todo : List (κ × Value)) (cur : Option (κ × Value)) (s : IS) : Prop :=
  Ents enc l s.es s.clock ∧ (∀ x ∈ s.es.toList, x.born < s.since) ∧ s.since ≤ s.c0 ∧ s.since ≤ s.clock ∧ (leftOf s.es s.seen).toList.map entOf = todo.map (fun p => (enc p.1, p.2)) ∧
    ∀ p, cur = some p → ∃ e ∈ s.es.toList, entOf e = (enc p.1, p.2) ∧ ∃ sn : Array Nat, s.seen = sn.push e.born ∧ s.c0 = s.clock
def iter (enc : κ → Value) (b r : Nat) (l todo : List (κ × Value)) (cur : Option (κ × Value)) : HP :=
  exs fun s : IS => wit (fun _ => IterOk enc l todo cur s) (fun _ _ _ h => h) (sep (obj b (.map s.es s.clock)) (obj r (.mapIter (some b) s.since s.seen s.c0)))
variable {P : Program} {W w : World} {g : Hl} {H : List HP} {enc : κ → Value} {t kt et ty : TypeId} {b r : Nat} {l todo : List (κ × Value)} {cur : Option (κ × Value)}
theorem iter_open (hs : Sat W w g (iter enc b r l todo cur :: H)) : ∃ s : IS, IterOk enc l todo cur s ∧ Sat W w g (obj b (.map s.es s.clock) :: obj r (.mapIter (some b) s.since s.seen s.c0) :: H) := by
  obtain ⟨s, h⟩ := hs.unexs
  exact ⟨s, h.unwit.1, h.unwit.2.split⟩
theorem iter_close (s : IS) (h : IterOk enc l todo cur s) (hs : Sat W w g (obj b (.map s.es s.clock) :: obj r (.mapIter (some b) s.since s.seen s.c0) :: H)) : Sat W w g (iter enc b r l todo cur :: H) :=
  Sat.mkexs s (Sat.mkwit h hs.join)
theorem mp_iter (ht : P.underlying t = some (.map kt et)) (hs : Sat W w g (mp enc b l :: H)) : ∃ w', (Instr.range t (.map (some b))).run P w = .ok (.pointer (some ⟨w.heap.size, 0, none⟩)) w' ∧ Sat W w' g (iter enc b w.heap.size l l none :: H) := by
  obtain ⟨es, clock, he, ho⟩ := mp_open hs
  refine ⟨_, run_range_map w t kt et b es clock ht ho.heap, ?_⟩
  have h2 := (ho.alloc (.mapIter (some b) clock #[] clock)).swap
  refine iter_close ⟨es, clock, clock, #[], clock⟩ ⟨he, he.2.1, Nat.le_refl _, Nat.le_refl _, ?_, fun p hp => by cases hp⟩ h2
  have : (leftOf es #[]) = es := by simp [leftOf]
  simp only [this]
  exact he.1
/-- The map again. -/
theorem iter_end (hs : Sat W w g (iter enc b r l todo cur :: H)) : Sat W w g (mp enc b l :: H) := by
  obtain ⟨s, h, hs⟩ := iter_open hs
  exact (mp_close h.1 hs).swap.drop
theorem filter_mid (es : List MapEntry) (q : MapEntry → Bool) (e : MapEntry) (hn : (es.map (·.born)).Nodup) (he : e ∈ es.filter q) : ∃ l1 l2, es.filter q = l1 ++ e :: l2 ∧ es.filter (fun x => q x && !(x.born == e.born)) = l1 ++ l2 := by
  obtain ⟨l1, l2, h⟩ := List.append_of_mem he
  refine ⟨l1, l2, h, ?_⟩
  have h2 : es.filter (fun x => q x && !(x.born == e.born)) = (es.filter q).filter (fun x => !(x.born == e.born)) := by
    rw [List.filter_filter]
    congr 1
    funext x
    rw [Bool.and_comm]
  have hnd : ((es.filter q).map (·.born)).Nodup := hn.sublist (List.Sublist.map _ List.filter_sublist)
  rw [h2, h, List.filter_append, List.filter_cons]
  rw [h, List.map_append, List.map_cons] at hnd
  have hd := List.nodup_append.1 hnd
  have f1 : l1.filter (fun x => !(x.born == e.born)) = l1 := List.filter_eq_self.2 fun x hx => by
    have := hd.2.2 x.born (List.mem_map.2 ⟨x, hx, rfl⟩) e.born (by simp)
    simpa using this
  have f2 : l2.filter (fun x => !(x.born == e.born)) = l2 := List.filter_eq_self.2 fun x hx => by
    have h1 := (List.nodup_cons.1 hd.2.1).1
    have : x.born ≠ e.born := fun hq => h1 (List.mem_map.2 ⟨x, hx, hq⟩)
    simpa using this
  simp [f1, f2]
theorem map_eq_split {α β γ : Type} {f : α → γ} {h : β → γ} : ∀ {l1 l2 : List α} {e : α} {m : List β}, (l1 ++ e :: l2).map f = m.map h → ∃ m1 p m2, m = m1 ++ p :: m2 ∧ f e = h p ∧ (l1 ++ l2).map f = (m1 ++ m2).map h
  | [], l2, e, m, hm => by
    cases m with
    | nil => simp at hm
    | cons p m =>
      simp only [List.nil_append, List.map_cons, List.cons.injEq] at hm
      exact ⟨[], p, m, rfl, hm.1, by simpa using hm.2⟩
  | a :: l1, l2, e, m, hm => by
    cases m with
    | nil => simp at hm
    | cons q m =>
      simp only [List.cons_append, List.map_cons, List.cons.injEq] at hm
      obtain ⟨m1, p, m2, rfl, h2, h3⟩ := map_eq_split (l1 := l1) hm.2
      exact ⟨q :: m1, p, m2, rfl, h2, by rw [List.cons_append, List.cons_append, List.map_cons, List.map_cons, hm.1, h3]⟩
/-- The next one, whichever it is. -/
theorem run_iter_next (hs : Sat W w g (iter enc b r l todo cur :: H)) :
    (todo = [] ∧ (Instr.next (.pointer (some ⟨r, 0, none⟩)) false ty).run P w = .ok (.tuple #[.bool false]) w) ∨
    ∃ t1 p t2 w', todo = t1 ++ p :: t2 ∧ (Instr.next (.pointer (some ⟨r, 0, none⟩)) false ty).run P w = .ok (.tuple #[.bool true, enc p.1, p.2]) w' ∧ Sat W w' g (iter enc b r l (t1 ++ t2) (some p) :: H) := by
  obtain ⟨⟨es, clock, since, seen, c0⟩, ⟨he, hold, hsc, hsk, hleft, _⟩, ho⟩ := iter_open hs
  simp only at he hold hsc hsk hleft ho
  rcases run_next_at (P := P) w ty r b since c0 seen es clock ho.swap.heap ho.heap hold hsc with ⟨h0, hr⟩ | ⟨e, hel, w1, hw1, hr⟩
  · refine .inl ⟨?_, hr⟩
    have : (leftOf es seen).toList = [] := by simpa using h0
    rw [this] at hleft
    simpa using hleft.symm
  · right
    have ho1 : Sat W w1 g (obj b (.map es clock) :: obj r (.mapIter (some b) since seen c0) :: H) := by
      rcases hw1 with rfl | rfl
      · exact ho
      · exact ho.drew
    have hl : (leftOf es seen).toList = es.toList.filter (fun x => !seen.contains x.born) := by simp [leftOf]
    rw [hl] at hel
    obtain ⟨l1, l2, h1, h2⟩ := filter_mid es.toList _ e he.2.2 hel
    rw [hl, h1] at hleft
    obtain ⟨m1, p, m2, rfl, h3, h4⟩ := map_eq_split hleft
    have hp : e.key = enc p.1 ∧ e.val = p.2 := by simpa [entOf] using h3
    rw [hp.1, hp.2] at hr
    refine ⟨m1, p, m2, _, rfl, hr, ?_⟩
    have ho2 : Sat W (Go.ChangeMaps.setBlock w1 r (.mapIter (some b) since (seen.push e.born) clock)) g (obj r (.mapIter (some b) since (seen.push e.born) clock) :: obj b (.map es clock) :: H) := by
      refine ho1.swap.update rfl rfl rfl ?_ ?_
      · simp [Go.ChangeMaps.setBlock, ho1.swap.lt]
      · intro k hk hne
        simp [Go.ChangeMaps.setBlock, Array.getElem?_setIfInBounds_ne (Ne.symm hne)]
    refine iter_close ⟨es, clock, since, seen.push e.born, clock⟩ ⟨he, hold, hsk, hsk, ?_, ?_⟩ ho2.swap
    · have : (leftOf es (seen.push e.born)).toList = es.toList.filter (fun x => !seen.contains x.born && !(x.born == e.born)) := by
        simp only [leftOf, Array.toList_filter]
        congr 1
        funext x
        rw [contains_push]
        cases seen.contains x.born <;> simp
      simp only [this, h2]
      exact h4
    · rintro q hq
      cases hq
      exact ⟨e, (List.mem_filter.1 hel).1, h3, seen, rfl, rfl⟩
/-- The one that came last, read again. -/
theorem run_iter_entry {p : κ × Value} (hs : Sat W w g (iter enc b r l todo (some p) :: H)) : (Instr.entry (.pointer (some ⟨r, 0, none⟩))).run P w = .ok (.tuple #[enc p.1, p.2]) w := by
  obtain ⟨⟨es, clock, since, seen, c0⟩, ⟨he, hold, hsc, hsk, hleft, hcur⟩, ho⟩ := iter_open hs
  simp only at he hold hsc hleft ho hcur
  obtain ⟨e, hel, hent, sn, rfl, rfl⟩ := hcur p rfl
  have hp : e.key = enc p.1 ∧ e.val = p.2 := by simpa [entOf] using hent
  rw [← hp.1, ← hp.2]
  exact run_entry_at w r b since sn es c0 e ho.swap.heap ho.heap hel he.2.2
variable {n : Fm} {ρ : List (Nat × Value)} {Q : Exit → Act → World → Prop} {ops : Array Oper} {rest : List Oper} {d : Option Tmp} {ps : String} {af : Array Edge} {x : Operand}
theorem E.range (ht : P.underlying t = some (.map kt et)) (hs : Sat W w g (mp enc b l :: H)) (h : ∀ r w', Sat W w' g (iter enc b r l l none :: H) → E P n ops rest (pushv d (.pointer (some ⟨r, 0, none⟩)) ρ) w' Q) (hx : evo n ρ x = some (.map (some b)) := by exact rfl) :
    E P n ops (⟨d, .range t x, ty, ps, af, none⟩ :: rest) ρ w Q := by
  obtain ⟨w', hr, hs'⟩ := mp_iter ht hs
  exact E.cons (St.val (fun a ha => by simp [execOp, ha.eval hx, hr]) (h _ _ hs'))
theorem E.next (hs : Sat W w g (iter enc b r l todo cur :: H)) (h0 : todo = [] → E P n ops rest (pushv d (.tuple #[.bool false]) ρ) w Q)
    (h1 : ∀ t1 p t2 w', todo = t1 ++ p :: t2 → Sat W w' g (iter enc b r l (t1 ++ t2) (some p) :: H) → E P n ops rest (pushv d (.tuple #[.bool true, enc p.1, p.2]) ρ) w' Q) (hx : evo n ρ x = some (.pointer (some ⟨r, 0, none⟩)) := by exact rfl) :
    E P n ops (⟨d, .next x false, ty, ps, af, none⟩ :: rest) ρ w Q := by
  rcases run_iter_next (P := P) (ty := ty) hs with ⟨he, hr⟩ | ⟨t1, p, t2, w', he, hr, hs'⟩
  · exact E.cons (St.val (fun a ha => by simp [execOp, ha.eval hx, hr]) (h0 he))
  · exact E.cons (St.val (fun a ha => by simp [execOp, ha.eval hx, hr]) (h1 t1 p t2 w' he hs'))
theorem E.entry {p : κ × Value} (hs : Sat W w g (iter enc b r l todo (some p) :: H)) (h : E P n ops rest (pushv d (.tuple #[enc p.1, p.2]) ρ) w Q) (hx : evo n ρ x = some (.pointer (some ⟨r, 0, none⟩)) := by exact rfl) :
    E P n ops (⟨d, .entry x, ty, ps, af, none⟩ :: rest) ρ w Q :=
  E.cons (St.val (fun a ha => by simp [execOp, ha.eval hx, run_iter_entry hs]) h)
end
section
variable {P : Program} {W w : World} {g : Hl} {H : List HP} {t ty : TypeId} {r : Nat} {n : Fm} {ρ : List (Nat × Value)} {Q : Exit → Act → World → Prop} {ops : Array Oper} {rest : List Oper} {d : Option Tmp} {ps : String} {af : Array Edge} {x : Operand} {s : ByteArray} {i : Nat}
/-- A string's characters. -/
theorem E.ranges (hs : Sat W w g H) (h : ∀ r w', Sat W w' g (obj r (.stringIter s 0) :: H) → E P n ops rest (pushv d (.pointer (some ⟨r, 0, none⟩)) ρ) w' Q) (hx : evo n ρ x = some (.string s) := by exact rfl) (ht : P.underlying t = some .string := by kernel_rfl) :
    E P n ops (⟨d, .range t x, ty, ps, af, none⟩ :: rest) ρ w Q :=
  E.cons (St.val (w' := w.alloc (.stringIter s 0)) (fun a ha => by simp [execOp, ha.eval hx, Instr.range, run_underlying ht]) (h _ _ (hs.alloc _)))
theorem E.nexts (hs : Sat W w g (obj r (.stringIter s i) :: H)) (h0 : s.size ≤ i → E P n ops rest (pushv d (.tuple #[.bool false]) ρ) w Q)
    (h1 : ∀ w', i < s.size → Sat W w' g (obj r (.stringIter s (i + (Utf8.decode s i).2)) :: H) → E P n ops rest (pushv d (.tuple #[.bool true, .int .i64 i, .int .i32 (Utf8.decode s i).1]) ρ) w' Q) (hx : evo n ρ x = some (.pointer (some ⟨r, 0, none⟩)) := by exact rfl) :
    E P n ops (⟨d, .next x true, ty, ps, af, none⟩ :: rest) ρ w Q := by
  have hb := hs.heap
  by_cases h : i < s.size
  · refine E.cons (St.val (w' := Go.ChangeMaps.setBlock w r (.stringIter s (i + (Utf8.decode s i).2))) (fun a ha => ?_) (h1 _ h ?_))
    · have hso : (setObj r (.stringIter s (i + (Utf8.decode s i).2))).run P w = .ok () (Go.ChangeMaps.setBlock w r (.stringIter s (i + (Utf8.decode s i).2))) := by
        simp [setObj, Sem.run, hb, Go.ChangeMaps.setBlock]
      simp only [execOp, ha.eval hx, Instr.next, getObj, Sem.run_bind, Sem.run, hb, Result.andThen, h, if_true, hso]
      rfl
    · refine hs.update rfl rfl rfl ?_ ?_
      · simp [Go.ChangeMaps.setBlock, hs.lt]
      · intro k hk hne
        simp [Go.ChangeMaps.setBlock, Array.getElem?_setIfInBounds_ne (Ne.symm hne)]
  · refine E.cons (St.val (w' := w) (fun a ha => ?_) (h0 (by omega)))
    simp only [execOp, ha.eval hx, Instr.next, getObj, Sem.run_bind, Sem.run, hb, Result.andThen, h, if_false]
    rfl
end
end Go.Proofs.YtfhmamkafancbaaGreatDoor
