/-
  The stepping engine, in short words: one word runs as far as nothing is to be chosen; and regions that draw their order, where some blocks are held.
-/
import Derived.Test.YtkolnecahlkndaaEm
import Derived.Test.YtkolnecahlkndaaBi
import Derived.OrdersHeld
import Derived.Deep.MidRow
namespace Go.Proofs.Ytkolnecahlkndaa
open Go.RowKit
set_option linter.unusedVariables false
set_option linter.unusedSimpArgs false
set_option linter.unusedSectionVars false

section
variable {P : Program} {n : Fm} {ρ ρ' : List (Nat × Value)} {W w w' : World} {g g' : Hl} {H H' : List HP} {Q : Exit → Act → World → Prop} {ops : Array Oper} {rest : List Oper} {d : Option Tmp} {ty : TypeId} {ps : String} {af : Array Edge} {v u : Value} {x y : Operand} {N : List (Nat × Value) → World → Prop} {o : Op} {b j k : Nat} {xs : List Value} {e t : TypeId}

/-- What is left of a goal. -/
structure Lf (G : Prop) : Prop where
  out : G

theorem nz_ {α : Type} {a b : α} (h : a = b := by first | (simp only [spl, Value.cells, List.set_cons_zero, List.set_cons_succ, List.drop_succ_cons, List.drop_zero, List.take_succ_cons, List.take_zero]; exact rfl) | exact rfl) : a = b := h
theorem fd_ (h : Fd H b xs e := by first | ((repeat (first | exact Fd.here | apply Fd.there)); done) | fail) : Fd H b xs e := h
theorem up_ {xs' : List Value} (h : Up b xs xs' e H H' := by first | ((repeat (first | exact Up.here | apply Up.there)); done) | fail) : Up b xs xs' e H H' := h
theorem wk_ (h : Weak ρ ρ' := by first | ((repeat (first | exact trivial | refine ⟨rfl, ?_⟩)); done) | fail) : Weak ρ ρ' := h
theorem sz_ {q : Nat} (h : (sizeOf t).run P w = .ok q w := by first | (go_simp; done) | (go_simp; exact rfl) | fail) : (sizeOf t).run P w = .ok q w := h
theorem Pv.makeInterface (hx : evo n ρ x = some u) (hr : ∀ w, (Instr.makeInterface t u).run P w = .ok v w) : Pv P n ρ (.makeInterface t x) ty v := Pv.mk fun a ha w d ps af g => by simp [execOp, ha.eval hx, hr]
theorem Pv.typeAssert {t2 : TypeId} {c : Bool} (hx : evo n ρ x = some u) (hr : ∀ w, (Instr.typeAssert u t t2 c).run P w = .ok v w) : Pv P n ρ (.typeAssert x t t2 c) ty v := Pv.mk fun a ha w d ps af g => by simp [execOp, ha.eval hx, hr]
theorem Pv.lenstr {xs : Array Operand} {l : List UInt8} (hx : evs n ρ xs.toList = some [.string ⟨l.toArray⟩]) (ht : P.underlying t = some .string) : Pv P n ρ (.call ⟨.builtin .len, xs, #[t]⟩) ty (.int .i64 l.length) := Pv.len hx fun w => by
  have : (ByteArray.mk l.toArray).size = l.length := by simp [ByteArray.size]
  simp [Builtin.len_, run_underlying ht, goInt, this]
theorem Pv.cat {s s' : TypeId} {l m : List UInt8} (hx : evo n ρ x = some (.string ⟨l.toArray⟩)) (hy : evo n ρ y = some (.string ⟨m.toArray⟩)) (hb : l.length + m.length ≤ 9223372036854775807) : Pv P n ρ (.binOp .add s x y s') ty (.string ⟨(l ++ m).toArray⟩) := Pv.binOp hx hy (fun w => by simp [eqGuard]) fun w => by
  have : (ByteArray.mk l.toArray) ++ (ByteArray.mk m.toArray) = ByteArray.mk (l ++ m).toArray := by
    apply ByteArray.ext
    simp
  have h1 : (ByteArray.mk l.toArray).size = l.length := by simp [ByteArray.size]
  have h2 : (ByteArray.mk m.toArray).size = m.length := by simp [ByteArray.size]
  simp [Go.binOp, Op.stringOp, this, h1, h2]
  omega
theorem Pv.minz {ts : Array TypeId} {xs : Array Operand} {k k' : IntKind} {i j : Int} (hx : evs n ρ xs.toList = some [.int k i, .int k' j]) : Pv P n ρ (.call ⟨.builtin .min, xs, ts⟩) ty (.int k (Min.min i j)) := Pv.min hx fun w => by
  have e : (if j < i then j else i) = Min.min i j := by omega
  simp [Builtin.min_, Builtin.min2, e]
theorem Pv.maxz {ts : Array TypeId} {xs : Array Operand} {k k' : IntKind} {i j : Int} (hx : evs n ρ xs.toList = some [.int k i, .int k' j]) : Pv P n ρ (.call ⟨.builtin .max, xs, ts⟩) ty (.int k (Max.max i j)) := Pv.max hx fun w => by
  have e : (if i < j then j else i) = Max.max i j := by omega
  simp [Builtin.max_, Builtin.max2, e]
/-- An operation that turns nothing, found. -/
theorem pvt (h : Pv P n ρ o ty v := by
    first
    | (apply Pv.auto; exact rfl)
    | ((first | apply Pv.add | apply Pv.sub | apply Pv.mul64 | apply Pv.remn | apply Pv.rem) <;> first | exact rfl | omega)
    | (apply Pv.quon <;> first | exact rfl | (simp only [IntKind.bits]; omega))
    | (apply Pv.quo <;> first | exact rfl | omega)
    | (apply Pv.conv; exact rfl; (intro w; go_simp <;> first | exact rfl | exact ⟨rfl, rfl⟩); (first | exact wrapu64_id (by omega) (by omega) | exact wrap64_id (by omega) (by omega) | exact wrapu8_id (by omega) (by omega) | exact wrapu32_id (by omega) (by omega) | exact wrapu16_id (by omega) (by omega) | exact u8_mod _ | exact u32_mod _ | exact u64_mod _ | exact rfl))
    | ((first | apply Pv.beq | apply Pv.bne); exact rfl; exact rfl; kernel_rfl)
    | ((first | apply Pv.xor | apply Pv.and | apply Pv.or | apply Pv.shr | apply Pv.shl) <;> first | exact rfl | (simp only [IntKind.bits, Nat.and_one_is_mod]; omega))
    | (apply Pv.shlw <;> first | exact rfl | (simp only [IntKind.bits]; omega))
    | ((first | apply Pv.addn | apply Pv.muln | apply Pv.notn) <;> first | exact rfl | (simp only [IntKind.bits, Nat.and_one_is_mod]; omega))
    | ((first | apply Pv.seq | apply Pv.sne) <;> exact rfl)
    | (apply Pv.cat; exact rfl; exact rfl; first | omega | (simp only [List.length_append, List.length_cons, List.length_nil]; omega))
    | (apply Pv.lenstr; exact rfl; kernel_rfl)
    | ((first | apply Pv.minz | apply Pv.maxz); exact rfl)
    | ((first | apply Pv.fieldAddr | apply Pv.len | apply Pv.indexAddr | apply Pv.build | apply Pv.field | apply Pv.makeFunc | apply Pv.makeInterface | apply Pv.typeAssert | apply Pv.convert | apply Pv.addw | apply Pv.subw | apply Pv.mulw | apply Pv.binOp) <;> first | exact rfl | (intro w; go_simp <;> first | exact rfl | exact ⟨rfl, rfl⟩))) : Pv P n ρ o ty v := h

theorem E.ld (hs : Sat W w g H) (h : E P n ops rest (pushv d v ρ) w Q) (hx : evo n ρ x = some (.pointer (some ⟨b, j, none⟩)) := by exact rfl) (hf : Fd H b xs e := by exact fd_) (hj : xs[j]? = some v := by exact rfl) (ha : (isAgg t).run P w = .ok false w := by first | (go_simp; done) | fail) :
    E P n ops (⟨d, .load t x, ty, ps, af, none⟩ :: rest) ρ w Q := E.cons (St.load hs hx hf hj ha h)
theorem E.lda (hs : Sat W w g H) (st : AggOf P t k) (h : E P n ops rest (pushv d (.agg xs.toArray) ρ) w Q) (hx : evo n ρ x = some (.pointer (some ⟨b, 0, none⟩)) := by exact rfl) (hf : Fd H b xs e := by exact fd_) (hk : xs.length = k := by exact rfl) :
    E P n ops (⟨d, .load t x, ty, ps, af, none⟩ :: rest) ρ w Q := E.cons (St.loada hs hx hf st hk h)
theorem E.ldc (h : E P n ops rest (pushv d v ρ) w Q) (hx : evo n ρ x = some (.pointer (some ⟨b, j, none⟩)) := by exact rfl) (hc : w.cell? ⟨b, j, none⟩ = some v := by assumption) (ha : (isAgg t).run P w = .ok false w := by first | (go_simp; done) | fail) :
    E P n ops (⟨d, .load t x, ty, ps, af, none⟩ :: rest) ρ w Q := E.cons (St.loadc hx hc ha h)

/-- A struct out of a part of a block. -/
theorem blk_range {vs : List Value} {w : World} (hb : Blk w b xs e) (hv : (xs.drop j).take vs.length = vs) : w.rangeAt b j vs := by
  intro q u hu
  rw [blk_cell hb]
  rw [← hv, List.getElem?_take] at hu
  split at hu
  · rw [List.getElem?_drop] at hu; exact hu
  · cases hu
theorem run_ldp {vs : List Value} {w : World} (st : AggOf P t k) (hb : Blk w b xs e) (hv : (xs.drop j).take k = vs) (hk : vs.length = k) : (loadVar t ⟨b, j, none⟩).run P w = .ok (.agg vs.toArray) w := by
  subst hk
  obtain ⟨d', h1, h2, h3⟩ := st
  exact run_loadVar_mid w b j t vs d' (blk_range hb hv) h1 (by cases d' <;> first | rfl | simp at h2) h3
theorem E.ldp {vs : List Value} (hs : Sat W w g H) (h : E P n ops rest (pushv d (.agg vs.toArray) ρ) w Q) (st : AggOf P t k := by assumption) (hx : evo n ρ x = some (.pointer (some ⟨b, j, none⟩)) := by exact rfl) (hf : Fd H b xs e := by exact fd_) (hv : (xs.drop j).take k = vs := by exact nz_) (hk : vs.length = k := by exact rfl) :
    E P n ops (⟨d, .load t x, ty, ps, af, none⟩ :: rest) ρ w Q := E.cons (St.loads hx (run_ldp st (hf.blk hs) hv hk) h)
/-- A call of a function, with its operands' values. -/
theorem E.callf {f : FuncId} {xs : Array Operand} {ts : Array TypeId} {vs : List Value} {fn : Func} {c : Code} (hf : P.funcs[f]? = some fn) (hx : evs n ρ xs.toList = some vs) (h : Calls P f vs.toArray w (Ret n d ρ (fun ρ' w' => E P n ops rest ρ' w' Q) Q)) (hb : fn.body = some c := by exact rfl) (hnm : (fn.name == "runtime.NumGoroutine") = false := by exact rfl) :
    E P n ops (⟨d, .call ⟨.value (.func f), xs, ts⟩, ty, ps, af, none⟩ :: rest) ρ w Q := E.call hf hb hnm hx h
theorem St.callf {f : FuncId} {xs : Array Operand} {ts : Array TypeId} {vs : List Value} {fn : Func} {c : Code} (hf : P.funcs[f]? = some fn) (hx : evs n ρ xs.toList = some vs) (h : Calls P f vs.toArray w (Ret n d ρ N Q)) (hb : fn.body = some c := by exact rfl) (hnm : (fn.name == "runtime.NumGoroutine") = false := by exact rfl) :
    St P n ops ⟨d, .call ⟨.value (.func f), xs, ts⟩, ty, ps, af, none⟩ ρ w N Q := St.call hf hb hnm hx h
/-- A call of a function's value. -/
theorem St.callw {f : FuncId} {xs : Array Operand} {ts : Array TypeId} {vs as' : List Value} {fs cs : Array Value} {fn : Func} {c : Code} (hf : P.funcs[f]? = some fn) (hv : evo n ρ x = some (.func (.func f) fs cs)) (hx : evs n ρ xs.toList = some vs) (ha : fs ++ vs.toArray ++ cs = as'.toArray) (h : Calls P f as'.toArray w (Ret n d ρ N Q)) (hb : fn.body = some c := by exact rfl) (hnm : (fn.name == "runtime.NumGoroutine") = false := by exact rfl) :
    St P n ops ⟨d, .call ⟨.value x, xs, ts⟩, ty, ps, af, none⟩ ρ w N Q := St.callv hv hf hb hnm hx (by rw [ha]; exact h)
theorem E.callv {f : FuncId} {xs : Array Operand} {ts : Array TypeId} {vs as' : List Value} {fs cs : Array Value} {fn : Func} {c : Code} (hf : P.funcs[f]? = some fn) (hv : evo n ρ x = some (.func (.func f) fs cs)) (hx : evs n ρ xs.toList = some vs) (ha : fs ++ vs.toArray ++ cs = as'.toArray) (h : Calls P f as'.toArray w (Ret n d ρ (fun ρ' w' => E P n ops rest ρ' w' Q) Q)) (hb : fn.body = some c := by exact rfl) (hnm : (fn.name == "runtime.NumGoroutine") = false := by exact rfl) :
    E P n ops (⟨d, .call ⟨.value x, xs, ts⟩, ty, ps, af, none⟩ :: rest) ρ w Q := E.cons (St.callw hf hv hx ha h hb hnm)
/-- New blocks. -/
theorem E.al {z : Value} (hs : Sat W w g H) (h : ∀ b w', Sat W w' g (blk b xs e :: H) → E P n ops rest (pushv d (.pointer (some ⟨b, 0, none⟩)) ρ) w' Q) (hz : (zeroValue e).run P w = .ok z w := by go_simp; first | done | exact rfl | exact ⟨rfl, rfl⟩) (hx : z.cells.toList = xs := by exact nz_) :
    E P n ops (⟨d, .alloc e, ty, ps, af, none⟩ :: rest) ρ w Q := E.cons (St.alloc hs hz hx h)
theorem E.bx (hs : Sat W w g H) (h : ∀ b w', Sat W w' g (blk b xs e :: H) → E P n ops rest (pushv d (.pointer (some ⟨b, 0, none⟩)) ρ) w' Q) (hv : evo n ρ x = some v := by exact rfl) (hx : v.cells.toList = xs := by exact nz_) :
    E P n ops (⟨d, .box e x, ty, ps, af, none⟩ :: rest) ρ w Q := E.cons (St.box hs hv hx h)
theorem E.bsl {parts : Array (Nat × Operand)} {vs : List (Nat × Value)} {cs : List Value} (hs : Sat W w g H) (h : ∀ b w', Sat W w' g (blk b cs e :: H) → E P n ops rest (pushv d (.slice (some ⟨b, 0, none⟩) k k) ρ) w' Q) (hx : evp n ρ parts.toList = some vs := by exact rfl) (hr : (Instr.buildSlice t k vs.toArray).run P w = .ok (.slice (some ⟨w.heap.size, 0, none⟩) k k) (w.alloc (.cells cs.toArray e)) := by go_simp; first | done | exact rfl | exact ⟨rfl, rfl⟩) :
    E P n ops (⟨d, .buildSlice t k parts, ty, ps, af, none⟩ :: rest) ρ w Q := E.cons (St.buildSlice hs hx hr h)
/-- A store into a block that is owned. -/
theorem St.sto {vs ys : List Value} (hs : Sat W w g H) (h : ∀ w', Sat W w' g H' → N ρ w') (hx : evo n ρ x = some (.pointer (some ⟨b, j, none⟩)) := by exact rfl) (hy : evo n ρ y = some v := by exact rfl) (hv : v.cells.toList = vs := by exact nz_) (hf : Fd H b xs e := by exact fd_) (hsp : spl xs j vs = ys := by exact nz_) (hu : Up b xs ys e H H' := by exact up_) (hj : Nat.ble (j + vs.length) xs.length = true := by exact rfl) (h1 : vs.all Value.oneCell' = true := by exact rfl) (ht : (sizeOf t).run P w = .ok vs.length w := by exact sz_) :
    St P n ops ⟨none, .store t x y, ty, ps, af, none⟩ ρ w N Q := St.store hs hx hy hv (by subst hsp; exact hu) hj h1 ht h
theorem E.sto {vs ys : List Value} (hs : Sat W w g H) (h : ∀ w', Sat W w' g H' → E P n ops rest ρ w' Q) (hx : evo n ρ x = some (.pointer (some ⟨b, j, none⟩)) := by exact rfl) (hy : evo n ρ y = some v := by exact rfl) (hv : v.cells.toList = vs := by exact nz_) (hf : Fd H b xs e := by exact fd_) (hsp : spl xs j vs = ys := by exact nz_) (hu : Up b xs ys e H H' := by exact up_) (hj : Nat.ble (j + vs.length) xs.length = true := by exact rfl) (h1 : vs.all Value.oneCell' = true := by exact rfl) (ht : (sizeOf t).run P w = .ok vs.length w := by exact sz_) :
    E P n ops (⟨none, .store t x y, ty, ps, af, none⟩ :: rest) ρ w Q := E.cons (St.store hs hx hy hv (by subst hsp; exact hu) hj h1 ht h)
theorem St.bx (hs : Sat W w g H) (h : ∀ b w', Sat W w' g (blk b xs e :: H) → N (pushv d (.pointer (some ⟨b, 0, none⟩)) ρ) w') (hv : evo n ρ x = some v := by exact rfl) (hx : v.cells.toList = xs := by exact nz_) :
    St P n ops ⟨d, .box e x, ty, ps, af, none⟩ ρ w N Q := St.box hs hv hx h
theorem St.bsl {parts : Array (Nat × Operand)} {vs : List (Nat × Value)} {cs : List Value} (hs : Sat W w g H) (h : ∀ b w', Sat W w' g (blk b cs e :: H) → N (pushv d (.slice (some ⟨b, 0, none⟩) k k) ρ) w') (hx : evp n ρ parts.toList = some vs := by exact rfl) (hr : (Instr.buildSlice t k vs.toArray).run P w = .ok (.slice (some ⟨w.heap.size, 0, none⟩) k k) (w.alloc (.cells cs.toArray e)) := by go_simp; first | done | exact rfl | exact ⟨rfl, rfl⟩) :
    St P n ops ⟨d, .buildSlice t k parts, ty, ps, af, none⟩ ρ w N Q := St.buildSlice hs hx hr h
/-- append onto an own row. -/
theorem E.app {s : Operand} {z : Value} {size bytes m c : Nat} {a : Option Addr} {news : List Value} (he : ElemOf P t e z size bytes) (hs : Sat W w g (own e size (.slice a k c) k xs :: H)) {D : Nat → Prop} (hrow : Row size w D u m news)
    (h : ∀ a' c' w', k + m ≤ c' → c' ≤ 9223372036854775807 → Sat W w' g (own e size (.slice a' (k + m) c') (k + m) (xs ++ news) :: H) → E P n ops rest (pushv d (.slice a' (k + m) c') ρ) w' Q) (h63 : k + m ≤ 9223372036854775807 := by omega) (hbytes : (k + m) * bytes ≤ 140737488355328 := by omega)
    (hx : evo n ρ s = some (.slice a k c) := by exact rfl) (hy : evo n ρ y = some u := by exact rfl) (h1 : ∀ x ∈ news, x.oneCell' = true := by first | exact bs_one _ | (intro u hu; simp only [List.mem_cons, List.not_mem_nil, or_false] at hu; rcases hu with rfl | rfl | rfl <;> exact rfl)) :
    E P n ops (⟨d, .call ⟨.builtin .append, #[s, y], #[t, t]⟩, ty, ps, af, none⟩ :: rest) ρ w Q := E.cons (St.append he hs hrow h1 h63 hbytes hx hy h)
/-- A panic, and where it leads. -/
theorem E.panic {t : TypeId} (h : A n (.panic [{ v := .iface t v, recovered := false }]) ρ w Q) (hx : evo n ρ x = some (.iface t v) := by exact rfl) : E P n ops (⟨d, .panic x, ty, ps, af, none⟩ :: rest) ρ w Q := E.cons (St.mk fun a ha K hK => by
  rw [if_pos wanted_none]
  unfold Oper.wp
  have hr : (execOp a.eval ⟨d, .panic x, ty, ps, af, none⟩).run P w = .halt (.panic (.iface t v)) w := by
    simp [execOp, ha.eval hx, Instr.panic]
  rw [hr]
  exact A.use h ha)
theorem A.pan {m : Nat} {fn : Func} {R : Ending → World → Prop} {ch : List PanicEntry} (h : R (.panicked ch) w) : A ⟨m, []⟩ (.panic ch) ρ w (bodyPost P fn R) := A.mk fun a ha => ⟨ha.defers, h⟩

/-- The deferred calls are made, then the results are read. -/
theorem L.callf {m : Nat} {fn' : Func} {R : Ending → World → Prop} {m' : FrameMode} {ds : List Deferred} {f : FuncId} {vs : List Value} {fn : Func} {c : Code} (hf : P.funcs[f]? = some fn) (h : CallsD P f vs.toArray m' w (RetD P ⟨m, ds⟩ fn' ρ R)) (hu : m' ≠ .run := by simp) (hb : fn.body = some c := by exact rfl) (hnm : (fn.name == "runtime.NumGoroutine") = false := by exact rfl) : L P ⟨m, ⟨.fn (.func f) #[], vs.toArray⟩ :: ds⟩ fn' ρ R m' w :=
  L.call hu (by
    have hnm' : ¬ fn.name = "runtime.NumGoroutine" := by simpa using hnm
    simp [invoke, callFunc, hf, hnm', hb]) h
theorem run_ld (hs : Sat W w g H) (hf : Fd H b xs e := by exact fd_) (hj : xs[j]? = some v := by exact rfl) (ha : (isAgg t).run P w = .ok false w := by first | (go_simp; done) | fail) : (loadVar t ⟨b, j, none⟩).run P w = .ok v w := by
  have hc : w.cell? ⟨b, j, none⟩ = some v := (blk_cell (hf.blk hs) j).trans hj
  simp [loadVar, ha, hc]
theorem run_lda (hs : Sat W w g H) (st : AggOf P t k) (hf : Fd H b xs e := by exact fd_) (hk : xs.length = k := by exact rfl) : (loadVar t ⟨b, 0, none⟩).run P w = .ok (.agg xs.toArray) w := by
  subst hk
  exact run_load_blk st (hf.blk hs)
theorem L.c2 {m : Nat} {fn : Func} {R : Ending → World → Prop} {p q : Tmp} {t1 t2 : TypeId} {pa pb : Addr} {v1 v2 : Value} (hr : fn.results = #[.cell p t1, .cell q t2]) (hp : evo ⟨m, []⟩ ρ (.tmp p) = some (.pointer (some pa))) (hq : evo ⟨m, []⟩ ρ (.tmp q) = some (.pointer (some pb))) (h1 : (loadVar t1 pa).run P w = .ok v1 w) (h2 : (loadVar t2 pb).run P w = .ok v2 w) (h : R (.returned (.tuple #[v1, v2])) w) : L P ⟨m, []⟩ fn ρ R .returning w :=
  L.done fun a ha => by
    refine ⟨_, ?_, h⟩
    have hp' : a.tmps[p]?.getD undef = .pointer (some pa) := by simpa [Act.eval] using ha.eval hp
    have hq' : a.tmps[q]?.getD undef = .pointer (some pb) := by simpa [Act.eval] using ha.eval hq
    simp [results, hr, hp', hq', asAddr, h1, h2]
theorem L.c1 {m : Nat} {fn : Func} {R : Ending → World → Prop} {p : Tmp} {t1 : TypeId} {pa : Addr} {v1 : Value} (hr : fn.results = #[.cell p t1]) (hp : evo ⟨m, []⟩ ρ (.tmp p) = some (.pointer (some pa))) (h1 : (loadVar t1 pa).run P w = .ok v1 w) (h : R (.returned v1) w) : L P ⟨m, []⟩ fn ρ R .returning w :=
  L.done fun a ha => by
    refine ⟨_, ?_, h⟩
    have hp' : a.tmps[p]?.getD undef = .pointer (some pa) := by simpa [Act.eval] using ha.eval hp
    simp [results, hr, hp', asAddr, h1]
/-- Results that lie in memory, without deferred calls. -/
theorem A.c2 {m : Nat} {fn : Func} {R : Ending → World → Prop} {p q : Tmp} {t1 t2 : TypeId} {pa pb : Addr} {v1 v2 : Value} (hr : fn.results = #[.cell p t1, .cell q t2]) (hp : evo ⟨m, []⟩ ρ (.tmp p) = some (.pointer (some pa))) (hq : evo ⟨m, []⟩ ρ (.tmp q) = some (.pointer (some pb))) (h1 : (loadVar t1 pa).run P w = .ok v1 w) (h2 : (loadVar t2 pb).run P w = .ok v2 w) (h : R (.returned (.tuple #[v1, v2])) w) : A ⟨m, []⟩ .ret ρ w (bodyPost P fn R) :=
  Go.Proofs.Ytkolnecahlkndaa.A.mk fun a ha => by
    refine ⟨ha.defers, _, ?_, h⟩
    have hp' : a.tmps[p]?.getD undef = .pointer (some pa) := by simpa [Act.eval] using ha.eval hp
    have hq' : a.tmps[q]?.getD undef = .pointer (some pb) := by simpa [Act.eval] using ha.eval hq
    simp [results, hr, hp', hq', asAddr, h1, h2]
theorem A.c1 {m : Nat} {fn : Func} {R : Ending → World → Prop} {p : Tmp} {t1 : TypeId} {pa : Addr} {v1 : Value} (hr : fn.results = #[.cell p t1]) (hp : evo ⟨m, []⟩ ρ (.tmp p) = some (.pointer (some pa))) (h1 : (loadVar t1 pa).run P w = .ok v1 w) (h : R (.returned v1) w) : A ⟨m, []⟩ .ret ρ w (bodyPost P fn R) :=
  Go.Proofs.Ytkolnecahlkndaa.A.mk fun a ha => by
    refine ⟨ha.defers, _, ?_, h⟩
    have hp' : a.tmps[p]?.getD undef = .pointer (some pa) := by simpa [Act.eval] using ha.eval hp
    simp [results, hr, hp', asAddr, h1]
theorem A.c1t1 {m : Nat} {fn : Func} {R : Ending → World → Prop} {p q : Tmp} {t1 : TypeId} {pa : Addr} {v1 v2 : Value} (hr : fn.results = #[.cell p t1, .tmp q]) (hp : evo ⟨m, []⟩ ρ (.tmp p) = some (.pointer (some pa))) (hq : evo ⟨m, []⟩ ρ (.tmp q) = some v2) (h1 : (loadVar t1 pa).run P w = .ok v1 w) (h : R (.returned (.tuple #[v1, v2])) w) : A ⟨m, []⟩ .ret ρ w (bodyPost P fn R) :=
  Go.Proofs.Ytkolnecahlkndaa.A.mk fun a ha => by
    refine ⟨ha.defers, _, ?_, h⟩
    have hp' : a.tmps[p]?.getD undef = .pointer (some pa) := by simpa [Act.eval] using ha.eval hp
    have hq' : a.tmps[q]?.getD undef = v2 := by simpa [Act.eval] using ha.eval hq
    simp [results, hr, hp', hq', asAddr, h1]

/-- Out of a function. -/
theorem A.r0 {m : Nat} {fn : Func} {R : Ending → World → Prop} (h : R (.returned (.tuple #[])) w) (hr : fn.results = #[] := by exact rfl) : A ⟨m, []⟩ .ret ρ w (bodyPost P fn R) := A.ret0 hr h
theorem A.e0 {m : Nat} {fn : Func} {R : Ending → World → Prop} (h : R (.returned (.tuple #[])) w) (hr : fn.results = #[] := by exact rfl) : A ⟨m, []⟩ .normal ρ w (bodyPost P fn R) := A.end0 hr h
theorem A.r1 {m : Nat} {fn : Func} {R : Ending → World → Prop} {t : Tmp} {v : Value} (h : R (.returned v) w) (hr : fn.results = #[.tmp t] := by exact rfl) (hv : evo ⟨m, []⟩ ρ (.tmp t) = some v := by exact rfl) : A ⟨m, []⟩ .ret ρ w (bodyPost P fn R) := A.ret1 hr hv h
theorem A.r2 {m : Nat} {fn : Func} {R : Ending → World → Prop} {t u : Tmp} {v x : Value} (h : R (.returned (.tuple #[v, x])) w) (hr : fn.results = #[.tmp t, .tmp u] := by exact rfl) (hv : evo ⟨m, []⟩ ρ (.tmp t) = some v := by exact rfl) (hx : evo ⟨m, []⟩ ρ (.tmp u) = some x := by exact rfl) : A ⟨m, []⟩ .ret ρ w (bodyPost P fn R) := A.ret2 hr hv hx h
theorem A.r3 {m : Nat} {fn : Func} {R : Ending → World → Prop} {t u s : Tmp} {v x y : Value} (h : R (.returned (.tuple #[v, x, y])) w) (hr : fn.results = #[.tmp t, .tmp u, .tmp s] := by exact rfl) (hv : evo ⟨m, []⟩ ρ (.tmp t) = some v := by exact rfl) (hx : evo ⟨m, []⟩ ρ (.tmp u) = some x := by exact rfl) (hy : evo ⟨m, []⟩ ρ (.tmp s) = some y := by exact rfl) : A ⟨m, []⟩ .ret ρ w (bodyPost P fn R) := A.ret3 hr hv hx hy h
theorem A.mt {α : Type} {f : α → List (Nat × Value)} {M : α → World → Prop} (x : α) (hM : M x w) (hw : Weak ρ (f x) := by exact wk_) : A n .normal ρ w (Exit.then (Cut n f M) Q) := A.meet x hw hM
theorem A.rd {α : Type} {f : α → List (Nat × Value)} {I : Nat → α → World → Prop} {g : Nat} (g' : Nat) (x : α) (hI : I g' x w) (hg : g' < g := by first | omega | (simp only [List.length_append, List.length_cons, List.length_nil]; omega) | (simp; done) | (simp; omega)) (hw : Weak ρ (f x) := by exact wk_) : A n .normal ρ w (Exit.then (Round n f I g) Q) := A.round g' x hg hw hI
theorem C.lp {α : Type} {c : Code} (f : α → List (Nat × Value)) (I : Nat → α → World → Prop) (g : Nat) (x : α) (h0 : I g x w) (round : ∀ g x w, I g x w → C P n c (f x) w (Exit.then (Round n f I g) Q)) (hw : Weak ρ (f x) := by exact wk_) : C P n (.loop c) ρ w Q := C.loop f I g x hw h0 round

/-- As far as nothing is to be chosen. -/
theorem go {G G' : Prop} (k : G') (h : Lf G' → G := by
    intro kkk
    repeat (first
      | apply E.pv pvt
      | (first | apply C.region_seq | apply E.nil | apply A.next | apply A.ret_then | apply A.exit_then | apply A.block_end | apply A.block_ret | apply A.panic_then | apply A.block_panic | apply A.pan | apply A.leave | apply A.leave_panic | apply A.leave_end | (apply E.deferf; exact rfl) | apply A.block_exit | apply C.seq | apply C.region | apply C.skip | apply C.ret | apply C.exit)
      | (apply E.guard; exact rfl; exact rfl)
      | (apply E.passed; exact rfl; exact rfl; exact rfl)
      | (apply E.passedU; exact rfl; exact rfl)
      | ((first | apply A.block_other | apply C.cond_true); exact rfl)
      | (apply C.cond_false; exact rfl)
      | apply C.block
      | refine E.ld hs ?_
      | refine E.ldc ?_
      | refine E.ldp hs ?_)
    exact kkk.out) : G := h ⟨k⟩
/-- The same, but no block is entered. -/
theorem gob {G G' : Prop} (k : G') (h : Lf G' → G := by
    intro kkk
    repeat (first
      | apply E.pv pvt
      | (first | apply C.region_seq | apply E.nil | apply A.next | apply A.ret_then | apply A.exit_then | apply A.block_end | apply A.block_ret | apply A.panic_then | apply A.block_panic | apply A.pan | apply A.leave | apply A.leave_panic | apply A.leave_end | (apply E.deferf; exact rfl) | apply A.block_exit | apply C.seq | apply C.region | apply C.skip | apply C.ret | apply C.exit)
      | (apply E.guard; exact rfl; exact rfl)
      | (apply E.passed; exact rfl; exact rfl; exact rfl)
      | (apply E.passedU; exact rfl; exact rfl)
      | ((first | apply A.block_other | apply C.cond_true); exact rfl)
      | (apply C.cond_false; exact rfl)
      | refine E.ld hs ?_
      | refine E.ldc ?_
      | refine E.ldp hs ?_)
    exact kkk.out) : G := h ⟨k⟩
end
end Go.Proofs.Ytkolnecahlkndaa
