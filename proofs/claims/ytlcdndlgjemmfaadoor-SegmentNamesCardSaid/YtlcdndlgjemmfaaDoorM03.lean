/-
  The stepping engine: calls through an interface; functions without a body; a map's copy.
-/
import Derived.Test.YtlcdndlgjemmfaaDoorM02
import Derived.Laws.Externs
import Derived.Lib.ConvBytes
import Derived.Laws.Cover2
import Derived.Test.YtlcdndlgjemmfaaDoorProg
namespace Go.Proofs.YtlcdndlgjemmfaaDoor
open Go.RowKit
set_option linter.unusedVariables false
set_option linter.unusedSimpArgs false
set_option linter.unusedSectionVars false

section
variable {P : Program} {n : Fm} {ρ ρ' : List (Nat × Value)} {W w w' : World} {g g' : Hl} {H H' : List HP} {Q : Exit → Act → World → Prop} {ops : Array Oper} {rest : List Oper} {d : Option Tmp} {ty : TypeId} {ps : String} {af : Array Edge} {v u : Value} {x y : Operand} {N : List (Nat × Value) → World → Prop} {t e : TypeId}

/-- A call through an interface. -/
theorem St.inv {f : FuncId} {recv : Operand} {name : String} {xs : Array Operand} {ts : Array TypeId} {vs : List Value} {rv : Value} {fn : Func} {c : Code}
    (hf : P.funcs[f]? = some fn) (hm : (method (P.types.size + Made.depth) t u name).run P w = .ok (f, rv) w) (h : Calls P f (rv :: vs).toArray w (Ret n d ρ N Q))
    (hv : evo n ρ recv = some (.iface t u) := by exact rfl) (hx : evs n ρ xs.toList = some vs := by exact rfl) (hb : fn.body = some c := by exact rfl) (hnm : (fn.name == "runtime.NumGoroutine") = false := by exact rfl) :
    St P n ops ⟨d, .call ⟨.invoke recv name, xs, ts⟩, ty, ps, af, none⟩ ρ w N Q := St.mk fun a ha K hK => by
  rw [if_pos wanted_none]
  unfold Oper.wp
  have hnm' : ¬ fn.name = "runtime.NumGoroutine" := by simpa using hnm
  have hr : (execOp a.eval ⟨d, .call ⟨.invoke recv name, xs, ts⟩, ty, ps, af, none⟩).run P w = .ok (.enter f (rv :: vs).toArray) w := by
    simp only [execOp, resolve, ha.eval hv, ha.args hx]
    simp [invoke, callMethod, hm, callFunc, hf, hnm', hb, Result.andThen]
  rw [hr]
  refine h.mono fun e w' hq => ?_
  cases e with
  | returned v => exact hK _ _ _ hq (ha.put _ _)
  | panicked ch => exact A.use hq ha
  | outgrown => exact hq
theorem E.inv {f : FuncId} {recv : Operand} {name : String} {xs : Array Operand} {ts : Array TypeId} {vs : List Value} {rv : Value} {fn : Func} {c : Code}
    (hf : P.funcs[f]? = some fn) (hm : (method (P.types.size + Made.depth) t u name).run P w = .ok (f, rv) w) (h : Calls P f (rv :: vs).toArray w (Ret n d ρ (fun ρ' w' => E P n ops rest ρ' w' Q) Q))
    (hv : evo n ρ recv = some (.iface t u) := by exact rfl) (hx : evs n ρ xs.toList = some vs := by exact rfl) (hb : fn.body = some c := by exact rfl) (hnm : (fn.name == "runtime.NumGoroutine") = false := by exact rfl) :
    E P n ops (⟨d, .call ⟨.invoke recv name, xs, ts⟩, ty, ps, af, none⟩ :: rest) ρ w Q := E.cons (St.inv hf hm h hv hx hb hnm)

theorem run_typeInfo_some {i : TypeInfo} (h : P.info? t = some i) (w : World) : (typeInfo t).run P w = .ok i w := by simp [typeInfo, h]
/-- What an interface's row of methods says. -/
def MethOf (P : Program) (t : TypeId) (name : String) (f : FuncId) (byPtr : Bool) : Prop := ∃ i m, P.info? t = some i ∧ i.methods.find? (·.name == name) = some m ∧ m.path = #[] ∧ m.func = some (f, byPtr)
theorem MethOf.mk {name : String} {f : FuncId} {byPtr : Bool} (h : ((P.info? t).bind fun i => (i.methods.find? (·.name == name)).map fun m => (m.path.toList.isEmpty, m.func)) = some (true, some (f, byPtr))) : MethOf P t name f byPtr := by
  obtain ⟨i, hi, h⟩ := Option.bind_eq_some_iff.1 h
  obtain ⟨m, hm, h⟩ := Option.map_eq_some_iff.1 h
  simp only [Prod.mk.injEq] at h
  refine ⟨i, m, hi, hm, ?_, h.2⟩
  have := h.1
  simpa [List.isEmpty_iff] using this
/-- A method of the pointer itself. -/
theorem run_meth_ptr {name : String} {f : FuncId} {a : Option Addr} (h : MethOf P t name f true) (ht : P.underlying t = some (.pointer e)) (w : World) : (method (P.types.size + Made.depth) t (.pointer a) name).run P w = .ok (f, .pointer a) w := by
  obtain ⟨i, m, hi, hm, hp, hfn⟩ := h
  have e : P.types.size + Made.depth = (P.types.size + 99) + 1 := rfl
  rw [e]
  unfold method
  simp only [Sem.run_bind, run_typeInfo_some hi, Result.andThen_ok, hm, hp, follow, Sem.run_pure, hfn]
  unfold receiverAt
  simp only [Sem.run_bind, run_underlying ht, Result.andThen_ok, Place.get, Sem.run_pure]
theorem wrapNil {ts : Array TypeId} {t : TypeId} {a : Addr} {s m : ByteArray} : Builtin.ssaWrapNilChk_ ts t #[.pointer (some a), .string s, .string m] = pure (.pointer (some a)) := rfl
/-- A method of what it points to. -/
theorem run_meth_val {name : String} {f : FuncId} {a : Addr} (h : MethOf P t name f false) (ht : P.underlying t = some (.pointer e)) {w : World} (hl : (loadVar e a).run P w = .ok v w) : (method (P.types.size + Made.depth) t (.pointer (some a)) name).run P w = .ok (f, v) w := by
  obtain ⟨i, m, hi, hm, hp, hfn⟩ := h
  have e : P.types.size + Made.depth = (P.types.size + 99) + 1 := rfl
  rw [e]
  unfold method
  simp only [Sem.run_bind, run_typeInfo_some hi, Result.andThen_ok, hm, hp, follow, Sem.run_pure, hfn]
  unfold receiverAt
  simp only [Sem.run_bind, run_underlying ht, Result.andThen_ok, Place.get, Sem.run_pure, Array.isEmpty_empty, if_true, strVal, wrapNil, asAddr, hl]

/-- A function without a body, that the model knows. -/
theorem E.ext {f : FuncId} {xs : Array Operand} {ts : Array TypeId} {vs : List Value} {fn : Func} {ex : Array Value → Sem Value} (hf : P.funcs[f]? = some fn) (hr : (ex vs.toArray).run P w = .ok v w') (h : E P n ops rest (pushv d v ρ) w' Q) (hx : evs n ρ xs.toList = some vs := by exact rfl)
    (hnm : (fn.name == "runtime.NumGoroutine") = false := by exact rfl) (hb : fn.body.isNone = true := by exact rfl) (hn : Extern.findNext fn = none := by kernel_rfl) (he : Extern.find fn = some ex := by kernel_rfl) :
    E P n ops (⟨d, .call ⟨.value (.func f), xs, ts⟩, ty, ps, af, none⟩ :: rest) ρ w Q := E.cons (St.val (fun a ha => by
  simp only [execOp, resolve, Act.eval, ha.args hx]
  simp [Deferred.ofValue, invoke, run_callFunc_extern hf hnm hb hn he, hr, Result.andThen]) h)
end

section
variable {P : Program} {n : Fm} {ρ ρ' : List (Nat × Value)} {W w w' : World} {g g' : Hl} {H H' : List HP} {Q : Exit → Act → World → Prop} {l : List Oper} {S : World → Prop} {fuel m i : Nat} {d : Option Tmp} {ty : TypeId} {ps : String} {af : Array Edge} {v u : Value} {x y : Operand} {b j k : Nat} {xs : List Value} {e t : TypeId}
/-- In a drawn region: the one operation that may come up. -/
theorem EH.bsl {parts : Array (Nat × Operand)} {vs : List (Nat × Value)} {cs : List Value} (hs : Sat W w g H) (h : ∀ b w', Sat W w' g (blk b cs e :: H) → S w' ∧ EH P n l S fuel (bset m i) (pushv d (.slice (some ⟨b, 0, none⟩) k k) ρ) w' Q)
    (hr : rdy m l.length 0 l = [i] := by exact rfl) (hi : nth l i = some ⟨d, .buildSlice t k parts, ty, ps, af, none⟩ := by exact rfl) (hx : evp n ρ parts.toList = some vs := by exact rfl) (hrun : (Instr.buildSlice t k vs.toArray).run P w = .ok (.slice (some ⟨w.heap.size, 0, none⟩) k k) (w.alloc (.cells cs.toArray e)) := by go_simp; first | done | exact rfl | exact ⟨rfl, rfl⟩) :
    EH P n l S (fuel + 1) m ρ w Q := EH.one (St.buildSlice hs hx hrun h) hr hi
theorem EH.orb {oi : Oper} {i1 : Nat} {parts : Array (Nat × Operand)} {vs : List (Nat × Value)} {cs : List Value} (hs : Sat W w g H) (h1 : St P n l.toArray oi ρ w (fun ρ' w' => S w' ∧ EH P n l S fuel (bset m i1) ρ' w' Q) Q) (h : ∀ b w', Sat W w' g (blk b cs e :: H) → S w' ∧ EH P n l S fuel (bset m i) (pushv d (.slice (some ⟨b, 0, none⟩) k k) ρ) w' Q)
    (hr : rdy m l.length 0 l = [i1, i] := by exact rfl) (ho : nth l i1 = some oi := by exact rfl) (hi : nth l i = some ⟨d, .buildSlice t k parts, ty, ps, af, none⟩ := by exact rfl) (hx : evp n ρ parts.toList = some vs := by exact rfl) (hrun : (Instr.buildSlice t k vs.toArray).run P w = .ok (.slice (some ⟨w.heap.size, 0, none⟩) k k) (w.alloc (.cells cs.toArray e)) := by go_simp; first | done | exact rfl | exact ⟨rfl, rfl⟩) :
    EH P n l S (fuel + 1) m ρ w Q := EH.two h1 (St.buildSlice hs hx hrun h) hr ho hi
/-- Three blocks are held. -/
theorem C.held3 {id : Nat} (b1 b2 b3 : Nat) {x1 x2 x3 : List Value} {e1 e2 e3 : TypeId} (hs : Sat W w g H) (h : ∀ w', Keeps g [(b1, x1, e1), (b2, x2, e2), (b3, x3, e3)] w' → Sat W w' g H → EH P n l (Keeps g [(b1, x1, e1), (b2, x2, e2), (b3, x3, e3)]) l.length 0 ρ w' Q) (h1 : Fd H b1 x1 e1 := by exact fd_) (h2 : Fd H b2 x2 e2 := by exact fd_) (h3 : Fd H b3 x3 e3 := by exact fd_) (hm : P.follows .mixedOrders = true := by kernel_rfl) : C P n (.region id l.toArray true) ρ w Q :=
  C.held _ hs (fun w' hs' => h w' ((((Keeps.of0 hs').ofs hs' h3).ofs hs' h2).ofs hs' h1) hs') hm
theorem kept3 {G : Prop} {b1 b2 b3 : Nat} {x1 x2 x3 : List Value} {e1 e2 e3 : TypeId} (hs : Sat W w g' H) (h : Keeps g [(b1, x1, e1), (b2, x2, e2), (b3, x3, e3)] w → G) (hg : Hl.le g g' := by first | exact Hl.le_refl _ | assumption | exact Hl.le.trans (by assumption) (by assumption)) (h1 : Fd H b1 x1 e1 := by exact fd_) (h2 : Fd H b2 x2 e2 := by exact fd_) (h3 : Fd H b3 x3 e3 := by exact fd_) : Keeps g [(b1, x1, e1), (b2, x2, e2), (b3, x3, e3)] w ∧ G :=
  have hk := (((Keeps.of0 hs hg).ofs hs h3).ofs hs h2).ofs hs h1
  ⟨hk, h hk⟩
/-- Two loads, in either order. -/
theorem EH.ll {b1 b2 j1 j2 i1 : Nat} {xs1 xs2 : List Value} {e1 e2 t1 t2 ty2 : TypeId} {d2 : Option Tmp} {ps2 : String} {af2 : Array Edge} {v1 v2 : Value} (hs : Sat W w g H) (hj1 : xs1[j1]? = some v1) (hj2 : xs2[j2]? = some v2)
    (h1 : S w ∧ EH P n l S fuel (bset m i1) (pushv d v1 ρ) w Q) (h2 : S w ∧ EH P n l S fuel (bset m i) (pushv d2 v2 ρ) w Q)
    (hr : rdy m l.length 0 l = [i1, i] := by exact rfl) (ho : nth l i1 = some ⟨d, .load t1 x, ty, ps, af, none⟩ := by exact rfl) (hi : nth l i = some ⟨d2, .load t2 y, ty2, ps2, af2, none⟩ := by exact rfl)
    (hx : evo n ρ x = some (.pointer (some ⟨b1, j1, none⟩)) := by exact rfl) (hy : evo n ρ y = some (.pointer (some ⟨b2, j2, none⟩)) := by exact rfl) (hf1 : Fd H b1 xs1 e1 := by exact fd_) (hf2 : Fd H b2 xs2 e2 := by exact fd_)
    (ha1 : (isAgg t1).run P w = .ok false w := by first | (go_simp; done) | fail) (ha2 : (isAgg t2).run P w = .ok false w := by first | (go_simp; done) | fail) :
    EH P n l S (fuel + 1) m ρ w Q := EH.two (St.load hs hx hf1 hj1 ha1 h1) (St.load hs hy hf2 hj2 ha2 h2) hr ho hi
theorem EH.ora {oi : Oper} {i1 : Nat} {z : Value} (hs : Sat W w g H) (h1 : St P n l.toArray oi ρ w (fun ρ' w' => S w' ∧ EH P n l S fuel (bset m i1) ρ' w' Q) Q) (h : ∀ b w', Sat W w' g (blk b xs e :: H) → S w' ∧ EH P n l S fuel (bset m i) (pushv d (.pointer (some ⟨b, 0, none⟩)) ρ) w' Q)
    (hr : rdy m l.length 0 l = [i1, i] := by exact rfl) (ho : nth l i1 = some oi := by exact rfl) (hi : nth l i = some ⟨d, .alloc e, ty, ps, af, none⟩ := by exact rfl) (hz : (zeroValue e).run P w = .ok z w := by go_simp; first | done | exact rfl | exact ⟨rfl, rfl⟩) (hx : z.cells.toList = xs := by exact nz_) :
    EH P n l S (fuel + 1) m ρ w Q := EH.two h1 (St.alloc hs hz hx h) hr ho hi
theorem EH.ba {i1 : Nat} {z : Value} {e2 ty2 : TypeId} {d2 : Option Tmp} {ps2 : String} {af2 : Array Edge} {parts : Array (Nat × Operand)} {vs : List (Nat × Value)} {cs : List Value} (hs : Sat W w g H) (h1 : ∀ b w', Sat W w' g (blk b cs e :: H) → S w' ∧ EH P n l S fuel (bset m i1) (pushv d (.slice (some ⟨b, 0, none⟩) k k) ρ) w' Q) (h : ∀ b w', Sat W w' g (blk b xs e2 :: H) → S w' ∧ EH P n l S fuel (bset m i) (pushv d2 (.pointer (some ⟨b, 0, none⟩)) ρ) w' Q)
    (hr : rdy m l.length 0 l = [i1, i] := by exact rfl) (ho : nth l i1 = some ⟨d, .buildSlice t k parts, ty, ps, af, none⟩ := by exact rfl) (hi : nth l i = some ⟨d2, .alloc e2, ty2, ps2, af2, none⟩ := by exact rfl)
    (hp : evp n ρ parts.toList = some vs := by exact rfl) (hrun : (Instr.buildSlice t k vs.toArray).run P w = .ok (.slice (some ⟨w.heap.size, 0, none⟩) k k) (w.alloc (.cells cs.toArray e)) := by go_simp; first | done | exact rfl | exact ⟨rfl, rfl⟩) (hz : (zeroValue e2).run P w = .ok z w := by go_simp; first | done | exact rfl | exact ⟨rfl, rfl⟩) (hx : z.cells.toList = xs := by exact nz_) :
    EH P n l S (fuel + 1) m ρ w Q := EH.two (St.buildSlice hs hp hrun h1) (St.alloc hs hz hx h) hr ho hi
theorem EH.al {z : Value} (hs : Sat W w g H) (h : ∀ b w', Sat W w' g (blk b xs e :: H) → S w' ∧ EH P n l S fuel (bset m i) (pushv d (.pointer (some ⟨b, 0, none⟩)) ρ) w' Q)
    (hr : rdy m l.length 0 l = [i] := by exact rfl) (hi : nth l i = some ⟨d, .alloc e, ty, ps, af, none⟩ := by exact rfl) (hz : (zeroValue e).run P w = .ok z w := by go_simp; first | done | exact rfl | exact ⟨rfl, rfl⟩) (hx : z.cells.toList = xs := by exact nz_) :
    EH P n l S (fuel + 1) m ρ w Q := EH.one (St.alloc hs hz hx h) hr hi
theorem EH.bx (hs : Sat W w g H) (h : ∀ b w', Sat W w' g (blk b xs e :: H) → S w' ∧ EH P n l S fuel (bset m i) (pushv d (.pointer (some ⟨b, 0, none⟩)) ρ) w' Q)
    (hr : rdy m l.length 0 l = [i] := by exact rfl) (hi : nth l i = some ⟨d, .box e x, ty, ps, af, none⟩ := by exact rfl) (hv : evo n ρ x = some v := by exact rfl) (hx : v.cells.toList = xs := by exact nz_) :
    EH P n l S (fuel + 1) m ρ w Q := EH.one (St.box hs hv hx h) hr hi
theorem EH.sto {vs ys : List Value} (hs : Sat W w g H) (h : ∀ w', Sat W w' g H' → S w' ∧ EH P n l S fuel (bset m i) ρ w' Q)
    (hr : rdy m l.length 0 l = [i] := by exact rfl) (hi : nth l i = some ⟨none, .store t x y, ty, ps, af, none⟩ := by exact rfl) (hx : evo n ρ x = some (.pointer (some ⟨b, j, none⟩)) := by exact rfl) (hy : evo n ρ y = some v := by exact rfl) (hv : v.cells.toList = vs := by exact nz_) (hf : Fd H b xs e := by exact fd_) (hsp : spl xs j vs = ys := by exact nz_) (hu : Up b xs ys e H H' := by exact up_) (hj : Nat.ble (j + vs.length) xs.length = true := by exact rfl) (h1 : vs.all Value.oneCell' = true := by exact rfl) (ht : (sizeOf t).run P w = .ok vs.length w := by exact sz_) :
    EH P n l S (fuel + 1) m ρ w Q := EH.one (St.store hs hx hy hv (by subst hsp; exact hu) hj h1 ht h) hr hi
theorem EH.ld (hs : Sat W w g H) (h : S w ∧ EH P n l S fuel (bset m i) (pushv d v ρ) w Q)
    (hr : rdy m l.length 0 l = [i] := by exact rfl) (hi : nth l i = some ⟨d, .load t x, ty, ps, af, none⟩ := by exact rfl) (hx : evo n ρ x = some (.pointer (some ⟨b, j, none⟩)) := by exact rfl) (hf : Fd H b xs e := by exact fd_) (hj : xs[j]? = some v := by exact rfl) (ha : (isAgg t).run P w = .ok false w := by first | (go_simp; done) | fail) :
    EH P n l S (fuel + 1) m ρ w Q := EH.one (St.load hs hx hf hj ha h) hr hi
theorem EH.app {s : Operand} {z : Value} {size bytes q c : Nat} {a : Option Addr} {news : List Value} (he : ElemOf P t e z size bytes) (hs : Sat W w g (own e size (.slice a k c) k xs :: H)) {D : Nat → Prop} (hrow : Row size w D u q news)
    (h : ∀ a' c' w', k + q ≤ c' → c' ≤ 9223372036854775807 → Sat W w' g (own e size (.slice a' (k + q) c') (k + q) (xs ++ news) :: H) → S w' ∧ EH P n l S fuel (bset m i) (pushv d (.slice a' (k + q) c') ρ) w' Q)
    (hr : rdy m l.length 0 l = [i] := by exact rfl) (hi : nth l i = some ⟨d, .call ⟨.builtin .append, #[s, y], #[t, t]⟩, ty, ps, af, none⟩ := by exact rfl) (h63 : k + q ≤ 9223372036854775807 := by omega) (hbytes : (k + q) * bytes ≤ 140737488355328 := by omega)
    (hx : evo n ρ s = some (.slice a k c) := by exact rfl) (hy : evo n ρ y = some u := by exact rfl) (h1 : ∀ x ∈ news, x.oneCell' = true := by first | exact bs_one _ | (intro u hu; simp only [List.mem_cons, List.not_mem_nil, or_false] at hu; rcases hu with rfl | rfl | rfl <;> exact rfl)) :
    EH P n l S (fuel + 1) m ρ w Q := EH.one (St.append he hs hrow h1 h63 hbytes hx hy h) hr hi
end

section
variable {P : Program} {n : Fm} {ρ : List (Nat × Value)} {W w w' : World} {g g' : Hl} {H H' : List HP} {Q : Exit → Act → World → Prop} {ops : Array Oper} {rest : List Oper} {d : Option Tmp} {ty : TypeId} {ps : String} {af : Array Edge} {v u : Value} {x y : Operand} {e t : TypeId}
/-- []byte(s): the bytes are the pool's. -/
theorem E.bytes {l : List UInt8} {dt : TypeId} (h1 : P.underlying t = some .string) (h2 : P.underlying dt = some (.slice e)) (h3 : P.underlying e = some (.int .u8)) (hs : Sat W w g H) (hl : l.length ≤ 1000000000)
    (h : ∀ b c w' g', Hl.le g g' → Sat W w' g' H → Pr 1 g' (.slice (some ⟨b, 0, none⟩) l.length c) l.length (bs l) → E P n ops rest (pushv d (.slice (some ⟨b, 0, none⟩) l.length c) ρ) w' Q) (hx : evo n ρ x = some (.string ⟨l.toArray⟩) := by exact rfl) :
    E P n ops (⟨d, .convert t dt x, ty, ps, af, none⟩ :: rest) ρ w Q := by
  have hr := Go.Lib.run_convert_string_bytes w t dt e ⟨l.toArray⟩ h1 h2 h3
  have hsz : (⟨l.toArray⟩ : ByteArray).size = l.length := by simp [ByteArray.size]
  rw [hsz] at hr
  have hn : Sat W (Go.Lib.bytesWorld w e ⟨l.toArray⟩) g (obj w.heap.size (.cells (Go.Lib.bytesCells w e ⟨l.toArray⟩) e ((Go.Lib.bytesCells w e ⟨l.toArray⟩).size, (Go.Lib.bytesCells w e ⟨l.toArray⟩).size + 1)) :: H) := by
    refine hs.new (Nat.le_refl _) ?_ ?_ ?_ (fun k hk => Go.Lib.bytesWorld_at_old w e _ k hk) (Go.Lib.bytesWorld_at_new w e _)
    · simp [Go.Lib.bytesWorld, World.freeze, World.alloc, World.drew, -World.alloc_eq, -World.drew_eq]
    · simp [Go.Lib.bytesWorld, World.freeze, World.alloc, World.drew, -World.alloc_eq, -World.drew_eq]
    · simp [Go.Lib.bytesWorld, World.freeze, World.alloc, World.drew, -World.alloc_eq, -World.drew_eq]
  obtain ⟨h1, e1, e2, e3, hs2⟩ := hn.publish
  have e1' : h1 = Hl.one w.heap.size (.cells (Go.Lib.bytesCells w e ⟨l.toArray⟩) e ((Go.Lib.bytesCells w e ⟨l.toArray⟩).size, (Go.Lib.bytesCells w e ⟨l.toArray⟩).size + 1)) := e1
  have hcap : l.length ≤ grownCap w l.length 0 e ∧ grownCap w l.length 0 e ≤ 9223372036854775807 := by
    unfold grownCap
    simp only [Question.cut]
    have h0 : 0 < 2 ^ 63 - l.length := by omega
    generalize w.tape w.drawn (Question.appendCap l.length 0 e) = T
    have h1 := Nat.mod_lt T h0
    generalize T % (2 ^ 63 - l.length) = T' at h1 ⊢
    constructor <;> omega
  refine E.cons (St.val (v := .slice (some ⟨w.heap.size, 0, none⟩) l.length (grownCap w l.length 0 e)) (w' := Go.Lib.bytesWorld w e ⟨l.toArray⟩) (fun a ha => by simp [execOp, ha.eval hx, hr]) (h _ _ _ _ e2 hs2 ?_))
  refine ⟨by simp, some ⟨w.heap.size, 0, none⟩, grownCap w l.length 0 e, rfl, hcap.1, by unfold maxLen; omega, fun q => by simp at q, Or.inr ⟨w.heap.size, 0, _, _, _, rfl, e3 _ _ (show h1 w.heap.size = some _ from by rw [e1']; simp only [Hl.one, if_true]; rfl), ?_⟩⟩
  simp only [Go.Lib.bytesCells, List.drop_zero, Nat.mul_one, Array.toList_append, Array.toList_map, List.map_toArray]
  rw [List.take_append_of_le_length (by simp), List.take_of_length_le (by simp)]
  simp [bs]

/-! Floats. -/
/-- Is it no number? -/
def nanF (b : Nat) : Bool := Ieee.double.order b b != some .eq
theorem Pv.fne {b c : Nat} (hx : evo n ρ x = some (.float .f64 b)) (hy : evo n ρ y = some (.float .f64 c)) {s s' : TypeId} : Pv P n ρ (.binOp .neq s x y s') ty (.bool (Ieee.double.order b c != some .eq)) := Pv.binOp hx hy (fun w => by simp [eqGuard]) fun w => by
  rw [binOp_float_cmp_neq]
  rfl
theorem run_fadd {a b : Nat} (w : World) : (∃ r, Ieee.double.add a b = some r ∧ (Op.floatArith .add .f64 a b).run P w = .ok (.float .f64 r) w) ∨ (Ieee.double.add a b = none ∧ ∃ r, 9218868437227405312 < r % 9223372036854775808 ∧ r < 18446744073709551616 ∧ (Op.floatArith .add .f64 a b).run P w = .ok (.float .f64 r) w.drew) := by
  have e0 : FloatKind.f64.format.add a b = Ieee.double.add a b := rfl
  cases hh : Ieee.double.add a b with
  | some r => exact .inl ⟨r, rfl, by simp [Op.floatArith, e0, hh]⟩
  | none =>
    refine .inr ⟨rfl, (Question.nanBits .f64 a b).cut (w.tape w.drawn (.nanBits .f64 a b)), ?_, ?_, ?_⟩
    · simp only [Question.cut]
      generalize w.tape w.drawn (.nanBits .f64 a b) = T
      have h1 : T % 2 = 0 ∨ T % 2 = 1 := by omega
      have h2 : T / 2 % (2 ^ 52 - 1) < 2 ^ 52 - 1 := Nat.mod_lt _ (by decide)
      generalize T / 2 % (2 ^ 52 - 1) = q at h2 ⊢
      rcases h1 with h1 | h1 <;> rw [h1] <;> omega
    · simp only [Question.cut]
      generalize w.tape w.drawn (.nanBits .f64 a b) = T
      have h1 : T % 2 = 0 ∨ T % 2 = 1 := by omega
      have h2 : T / 2 % (2 ^ 52 - 1) < 2 ^ 52 - 1 := Nat.mod_lt _ (by decide)
      generalize T / 2 % (2 ^ 52 - 1) = q at h2 ⊢
      rcases h1 with h1 | h1 <;> rw [h1] <;> omega
    · simp [Op.floatArith, e0, hh, Question.forced]
/-- A sum of floats. -/
theorem E.fadd {s s' : TypeId} {a b : Nat} (hs : Sat W w g H) (h : ∀ r w', Sat W w' g H → (Ieee.double.add a b = some r ∨ Ieee.double.add a b = none ∧ 9218868437227405312 < r % 9223372036854775808 ∧ r < 18446744073709551616) → E P n ops rest (pushv d (.float .f64 r) ρ) w' Q)
    (hx : evo n ρ x = some (.float .f64 a) := by exact rfl) (hy : evo n ρ y = some (.float .f64 b) := by exact rfl) : E P n ops (⟨d, .binOp .add s x y s', ty, ps, af, none⟩ :: rest) ρ w Q := by
  rcases run_fadd (P := P) (a := a) (b := b) w with ⟨r, h1, h2⟩ | ⟨h1, r, h3, h4, h2⟩
  · refine E.cons (St.val (w' := w) (fun ac ha => ?_) (h r w hs (.inl h1)))
    simp [execOp, ha.eval hx, ha.eval hy, eqGuard, binOp, h2]
  · refine E.cons (St.val (w' := w.drew) (fun ac ha => ?_) (h r w.drew hs.drew (.inr ⟨h1, h3, h4⟩)))
    simp [execOp, ha.eval hx, ha.eval hy, eqGuard, binOp, h2]
theorem nan_rung {r : Nat} (h : 9218868437227405312 < r % 9223372036854775808) : nanF r = true := by
  have hr : ∃ s t, Ieee.double.read r = .nan s t := by
    have e1 : Ieee.double.signWeight = 9223372036854775808 := by decide
    have e2 : Ieee.double.binade = 4503599627370496 := by decide
    have e3 : Ieee.double.infRung = 9218868437227405312 := by decide
    refine ⟨r / 9223372036854775808 % 2 == 1, r % 9223372036854775808 - 9218868437227405312, ?_⟩
    unfold Ieee.Format.read
    simp only [e1, e2, e3]
    rw [if_neg (by omega), if_neg (by omega), if_neg (by omega)]
  obtain ⟨s, t, hr⟩ := hr
  simp only [nanF, Ieee.Format.order, hr, Ieee.Datum.order]
  rfl
end

section
variable {P : Program} {n : Fm} {ρ : List (Nat × Value)} {w : World} {Q : Exit → Act → World → Prop} {ops : Array Oper} {rest : List Oper} {d : Option Tmp} {ty : TypeId} {ps : String} {af : Array Edge} {x y : Operand} {e t : TypeId}
/-- &a[j] of an array in memory, an element of one cell. -/
theorem run_index_arr {b o j m : Nat} {kd : IntKind} {i : Int} (ht : P.underlying t = some (.array m e)) (hq : ∀ w, (sizeOf e).run P w = .ok 1 w) (hi : i = (j : Int)) (hj : j < m) (w : World) : (Instr.indexAt t (.pointer (some ⟨b, o, none⟩)) (.int kd i)).run P w = .ok (.pointer (some ⟨b, o + j, none⟩)) w := by
  subst hi
  simp [Instr.indexAt, run_underlying ht, asIntOf, hq, go_sem, hj, Addr.add_lit]
theorem E.ixa {b o m : Nat} {kd : IntKind} {i : Int} (j : Nat) (ht : P.underlying t = some (.array m e)) (h : E P n ops rest (pushv d (.pointer (some ⟨b, o + j, none⟩)) ρ) w Q) (hq : ∀ w, (sizeOf e).run P w = .ok 1 w := by intro w; exact sz_)
    (hx : evo n ρ x = some (.pointer (some ⟨b, o, none⟩)) := by exact rfl) (hy : evo n ρ y = some (.int kd i) := by exact rfl) (hi : i = (j : Int) := by omega) (hj : j < m := by omega) : E P n ops (⟨d, .indexAddr t x y, ty, ps, af, none⟩ :: rest) ρ w Q :=
  E.pv (Pv.indexAddr hx hy (run_index_arr ht hq hi hj)) h
end

/-- What is left is walked once, for all branches that come to it: 'apply later (f := ..) (M := ..)', the branches first. -/
theorem later {α : Type} {P : Program} {n : Fm} {c : Code} {Q : Exit → Act → World → Prop} {f : α → List (Nat × Value)} {M : α → World → Prop} {G : Prop} (main : (∀ x w, M x w → C P n c (f x) w Q) → G) (key : ∀ x w, M x w → C P n c (f x) w Q) : G := main key
end Go.Proofs.YtlcdndlgjemmfaaDoor

/-
  The stepping engine: a slice of one struct.
-/
namespace Go.Proofs.YtlcdndlgjemmfaaDoor
open Go.RowKit
set_option linter.unusedVariables false
set_option linter.unusedSimpArgs false
set_option linter.unusedSectionVars false

theorem foldl_fill : ∀ (vs : List Value) (k : Nat) (pre xs : List Value), pre.length = k → xs.length = vs.length →
    (vs.zipIdx k).foldl (fun (cs : Array Value) (p : Value × Nat) => cs.setIfInBounds (0 + p.2) p.1) (pre ++ xs).toArray = (pre ++ vs).toArray
  | [], k, pre, xs, _, h => by
    obtain rfl : xs = [] := List.eq_nil_of_length_eq_zero (by simpa using h)
    rfl
  | v :: r, k, pre, x :: xs, hk, h => by
    subst hk
    simp only [List.zipIdx_cons, List.foldl_cons, Nat.zero_add]
    have e : (pre ++ x :: xs).toArray.setIfInBounds pre.length v = ((pre ++ [v]) ++ xs).toArray := by
      apply Array.ext'
      simp
    rw [e]
    have := foldl_fill r (pre.length + 1) (pre ++ [v]) xs (by simp) (by simpa using h)
    simp only [Nat.zero_add] at this
    rw [this]
    simp

section
variable {P : Program} {n : Fm} {ρ : List (Nat × Value)} {W w w' : World} {g : Hl} {H : List HP} {Q : Exit → Act → World → Prop} {ops : Array Oper} {rest : List Oper} {d : Option Tmp} {ty : TypeId} {ps : String} {af : Array Edge} {t e : TypeId} {z : Value} {s bytes : Nat} {cs : List Value}
theorem run_bsl_agg (he : ElemOf P t e z s bytes) (hc : cs.length = s) (hs : s ≤ 16777216) (w : World) : (Instr.buildSlice t 1 #[(0, .agg cs.toArray)]).run P w = .ok (.slice (some ⟨w.heap.size, 0, none⟩) 1 1) (w.alloc (.cells cs.toArray e)) := by
  obtain ⟨ht, ⟨inf, hin, hz, hsz, hby⟩, hzs, hpos⟩ := he
  have h1 : ¬ (1 * s > 2 ^ 24) := by omega
  have h2 : ¬ (1 * s = 0) := by omega
  have hzv : (zeroValue e).run P w = .ok z w := by simp [zeroValue, typeInfo, hin, hz, Result.andThen]
  have hl : (((Array.range (1 * s)).map (z.cells[· % z.cells.size]!)).toList).length = cs.length := by simp [hc]
  have hf : Instr.fill (fun i => some (i * s, s)) ((Array.range (1 * s)).map (z.cells[· % z.cells.size]!)) [(0, Value.agg cs.toArray)] = some cs.toArray := by
    have h3 : ¬ ((Value.agg cs.toArray).cells.size ≠ s || decide (0 * s + (Value.agg cs.toArray).cells.size > ((Array.range (1 * s)).map (z.cells[· % z.cells.size]!)).size)) = true := by
      simp [Value.cells, hc]
    simp only [Instr.fill]
    rw [if_neg h3]
    have := foldl_fill cs 0 [] ((Array.range (1 * s)).map (z.cells[· % z.cells.size]!)).toList rfl hl
    simp only [List.nil_append, Array.toArray_toList] at this
    refine congrArg some (Eq.trans ?_ this)
    simp only [Value.cells, Nat.zero_mul]
    rw [← Array.foldl_toList]
    simp
  unfold Instr.buildSlice
  simp only [Sem.run_bind, run_underlying ht, Result.andThen_ok, sizeOf, run_typeInfo_some hin, Sem.run_pure, hsz, if_neg h1, if_neg h2, hzv, hf]
  simp [newRow]
theorem E.bsle (he : ElemOf P t e z s bytes) (hs : Sat W w g H) (hc : cs.length = s) (h : ∀ b w', Sat W w' g (blk b cs e :: H) → E P n ops rest (pushv d (.slice (some ⟨b, 0, none⟩) 1 1) ρ) w' Q) {x : Operand} (hx : evo n ρ x = some (.agg cs.toArray) := by exact rfl) (hsm : s ≤ 16777216 := by decide) :
    E P n ops (⟨d, .buildSlice t 1 #[(0, x)], ty, ps, af, none⟩ :: rest) ρ w Q :=
  E.cons (St.buildSlice hs (xs := [(0, .agg cs.toArray)]) (by simp only [evp, hx]) (run_bsl_agg he hc hsm w) h)
theorem EH.bsle {l : List Oper} {S : World → Prop} {fuel m i : Nat} (he : ElemOf P t e z s bytes) (hs : Sat W w g H) (hc : cs.length = s) (h : ∀ b w', Sat W w' g (blk b cs e :: H) → S w' ∧ EH P n l S fuel (bset m i) (pushv d (.slice (some ⟨b, 0, none⟩) 1 1) ρ) w' Q) {x : Operand} (hr : rdy m l.length 0 l = [i] := by exact rfl) (hi : nth l i = some ⟨d, .buildSlice t 1 #[(0, x)], ty, ps, af, none⟩ := by exact rfl) (hx : evo n ρ x = some (.agg cs.toArray) := by exact rfl) (hsm : s ≤ 16777216 := by decide) :
    EH P n l S (fuel + 1) m ρ w Q := EH.one (St.buildSlice hs (xs := [(0, .agg cs.toArray)]) (by simp only [evp, hx]) (run_bsl_agg he hc hsm w) h) hr hi
/-- One operation, or a slice of one struct; in either order. -/
theorem EH.obe {l : List Oper} {S : World → Prop} {fuel m i i1 : Nat} {oi : Oper} (he : ElemOf P t e z s bytes) (hs : Sat W w g H) (hc : cs.length = s) (h1 : St P n l.toArray oi ρ w (fun ρ' w' => S w' ∧ EH P n l S fuel (bset m i1) ρ' w' Q) Q) (h : ∀ b w', Sat W w' g (blk b cs e :: H) → S w' ∧ EH P n l S fuel (bset m i) (pushv d (.slice (some ⟨b, 0, none⟩) 1 1) ρ) w' Q) {x : Operand} (hr : rdy m l.length 0 l = [i1, i] := by exact rfl) (ho : nth l i1 = some oi := by exact rfl) (hi : nth l i = some ⟨d, .buildSlice t 1 #[(0, x)], ty, ps, af, none⟩ := by exact rfl) (hx : evo n ρ x = some (.agg cs.toArray) := by exact rfl) (hsm : s ≤ 16777216 := by decide) :
    EH P n l S (fuel + 1) m ρ w Q := EH.two h1 (St.buildSlice hs (xs := [(0, .agg cs.toArray)]) (by simp only [evp, hx]) (run_bsl_agg he hc hsm w) h) hr ho hi
/-- A load, or a slice of one struct; in either order. -/
theorem EH.lbe {l : List Oper} {S : World → Prop} {fuel m i i1 b j : Nat} {t1 ty1 e1 : TypeId} {d1 : Option Tmp} {ps1 : String} {af1 : Array Edge} {xs : List Value} {v : Value} {y : Operand} (he : ElemOf P t e z s bytes) (hs : Sat W w g H) (hc : cs.length = s) (hj : xs[j]? = some v) (h1 : S w ∧ EH P n l S fuel (bset m i1) (pushv d1 v ρ) w Q) (h : ∀ b w', Sat W w' g (blk b cs e :: H) → S w' ∧ EH P n l S fuel (bset m i) (pushv d (.slice (some ⟨b, 0, none⟩) 1 1) ρ) w' Q) {x : Operand}
    (hr : rdy m l.length 0 l = [i1, i] := by exact rfl) (ho : nth l i1 = some ⟨d1, .load t1 y, ty1, ps1, af1, none⟩ := by exact rfl) (hi : nth l i = some ⟨d, .buildSlice t 1 #[(0, x)], ty, ps, af, none⟩ := by exact rfl) (hx : evo n ρ x = some (.agg cs.toArray) := by exact rfl) (hy : evo n ρ y = some (.pointer (some ⟨b, j, none⟩)) := by exact rfl) (hf : Fd H b xs e1 := by exact fd_) (ha : (isAgg t1).run P w = .ok false w := by first | (go_simp; done) | fail) (hsm : s ≤ 16777216 := by decide) :
    EH P n l S (fuel + 1) m ρ w Q := EH.two (St.load hs hy hf hj ha h1) (St.buildSlice hs (xs := [(0, .agg cs.toArray)]) (by simp only [evp, hx]) (run_bsl_agg he hc hsm w) h) hr ho hi
end
/-- The same behind code. -/
theorem laterA {α : Type} {n : Fm} {e : Exit} {Q : Exit → Act → World → Prop} {f : α → List (Nat × Value)} {M : α → World → Prop} {G : Prop} (main : (∀ x w, M x w → A n e (f x) w Q) → G) (key : ∀ x w, M x w → A n e (f x) w Q) : G := main key
end Go.Proofs.YtlcdndlgjemmfaaDoor

/-
  s[l:h] of a row of structs in a drawn region; a rest within a region that is walked once.
-/
namespace Go.Proofs.YtlcdndlgjemmfaaDoor
open Go.RowKit
set_option linter.unusedVariables false
set_option linter.unusedSimpArgs false
section
variable {P : Program} {n : Fm} {ρ : List (Nat × Value)} {W w w' : World} {g g' : Hl} {H H' : List HP} {Q : Exit → Act → World → Prop} {l : List Oper} {S : World → Prop} {fuel m : Nat} {d : Option Tmp} {ty : TypeId} {ps : String} {af : Array Edge} {gd : Option (Nat × Bool)} {v u : Value} {x y : Operand} {o : Op} {F : List (Nat × List Value × TypeId)} {i b k s : Nat} {rs : List Nat} {t e : TypeId} {z : Value} {bytes : Nat} {a : Option Addr} {len c : Nat} {lo hi mx : Option Operand} {vl vh vm : Option Value}
/-- s[l:h] of a row of the pool's, in a drawn region: the first operation that may come up. -/
theorem EH.slq {xs : List Value} (he : ElemOf P t e z s bytes) (hp : Pr s g (.slice a len c) len xs) (q h : Nat) (hS : S w) (kk : ∀ a' c', Pr s g (.slice a' (h - q) c') (h - q) ((xs.drop (q * s)).take ((h - q) * s)) → EH P n l S fuel (bset m i) (pushv d (.slice a' (h - q) c') ρ) w Q)
    (hr : rdy m l.length 0 l = i :: rs := by exact rfl) (hnth : nth l i = some ⟨d, .slice t x lo hi none, ty, ps, af, gd⟩ := by exact rfl) (hg : want n l ρ gd = some true := by exact rfl)
    (hx : evo n ρ x = some (.slice a len c) := by exact rfl) (h1 : evm n ρ lo = some vl := by exact rfl) (h2 : evm n ρ hi = some vh := by exact rfl) (hlo : Lo vl q := by first | exact .inl ⟨rfl, rfl⟩ | exact .inr ⟨_, _, rfl, by omega⟩) (hhi : Hi vh len h := by first | exact .inl ⟨rfl, rfl⟩ | exact .inr ⟨_, _, rfl, by omega⟩) (hl : q ≤ h := by omega) (hh : h ≤ len := by omega)
    (hsel : Region.noSelect l.toArray = true := by kernel_rfl) (hf : Region.free .any l.toArray (bits m l.length) i = true := by decide +kernel)
    (hQ : ∀ v c a w, Q (.panic c) (a.put d v) w → Q (.panic c) a w := by exact fun _ _ _ _ h => h) : EH P n l S (fuel + 1) m ρ w Q := by
  obtain ⟨a', c', h3, h4⟩ := run_slice_pr (P := P) he hp hlo hhi hl hh
  exact EH.take i (by rw [hr]; simp) hnth hsel hf hQ hS (yif (oi := ⟨d, .slice t x lo hi none, ty, ps, af, gd⟩) hg (Pf.pv (Pv.slice hx h1 h2 rfl h3))) (kk _ _ h4)
/-- s[l:h] of a row of the pool's, in a drawn region: the second operation that may come up. -/
theorem EH.slq1 {xs : List Value} (he : ElemOf P t e z s bytes) (hp : Pr s g (.slice a len c) len xs) (q h : Nat) (hS : S w) (kk : ∀ a' c', Pr s g (.slice a' (h - q) c') (h - q) ((xs.drop (q * s)).take ((h - q) * s)) → EH P n l S fuel (bset m i) (pushv d (.slice a' (h - q) c') ρ) w Q)
    {i1 : Nat} (hr : rdy m l.length 0 l = i1 :: i :: rs := by exact rfl) (hnth : nth l i = some ⟨d, .slice t x lo hi none, ty, ps, af, gd⟩ := by exact rfl) (hg : want n l ρ gd = some true := by exact rfl)
    (hx : evo n ρ x = some (.slice a len c) := by exact rfl) (h1 : evm n ρ lo = some vl := by exact rfl) (h2 : evm n ρ hi = some vh := by exact rfl) (hlo : Lo vl q := by first | exact .inl ⟨rfl, rfl⟩ | exact .inr ⟨_, _, rfl, by omega⟩) (hhi : Hi vh len h := by first | exact .inl ⟨rfl, rfl⟩ | exact .inr ⟨_, _, rfl, by omega⟩) (hl : q ≤ h := by omega) (hh : h ≤ len := by omega)
    (hsel : Region.noSelect l.toArray = true := by kernel_rfl) (hf : Region.free .any l.toArray (bits m l.length) i = true := by decide +kernel)
    (hQ : ∀ v c a w, Q (.panic c) (a.put d v) w → Q (.panic c) a w := by exact fun _ _ _ _ h => h) : EH P n l S (fuel + 1) m ρ w Q := by
  obtain ⟨a', c', h3, h4⟩ := run_slice_pr (P := P) he hp hlo hhi hl hh
  exact EH.take i (by rw [hr]; simp) hnth hsel hf hQ hS (yif (oi := ⟨d, .slice t x lo hi none, ty, ps, af, gd⟩) hg (Pf.pv (Pv.slice hx h1 h2 rfl h3))) (kk _ _ h4)
end
section
variable {P : Program} {n : Fm} {ρ : List (Nat × Value)} {W w w' : World} {g g' : Hl} {H H' : List HP} {N : List (Nat × Value) → World → Prop} {Q : Exit → Act → World → Prop} {ops : Array Oper} {rest : List Oper} {d : Option Tmp} {ty : TypeId} {ps : String} {af : Array Edge} {v u : Value} {x y : Operand} {e t : TypeId}
/-- []byte(s): the bytes are the pool's. -/
theorem St.bytes {l : List UInt8} {dt : TypeId} (h1 : P.underlying t = some .string) (h2 : P.underlying dt = some (.slice e)) (h3 : P.underlying e = some (.int .u8)) (hs : Sat W w g H) (hl : l.length ≤ 1000000000)
    (h : ∀ b c w' g', Hl.le g g' → Sat W w' g' H → Pr 1 g' (.slice (some ⟨b, 0, none⟩) l.length c) l.length (bs l) → N (pushv d (.slice (some ⟨b, 0, none⟩) l.length c) ρ) w') (hx : evo n ρ x = some (.string ⟨l.toArray⟩) := by exact rfl) :
    St P n ops ⟨d, .convert t dt x, ty, ps, af, none⟩ ρ w N Q := by
  have hr := Go.Lib.run_convert_string_bytes w t dt e ⟨l.toArray⟩ h1 h2 h3
  have hsz : (⟨l.toArray⟩ : ByteArray).size = l.length := by simp [ByteArray.size]
  rw [hsz] at hr
  have hn : Sat W (Go.Lib.bytesWorld w e ⟨l.toArray⟩) g (obj w.heap.size (.cells (Go.Lib.bytesCells w e ⟨l.toArray⟩) e ((Go.Lib.bytesCells w e ⟨l.toArray⟩).size, (Go.Lib.bytesCells w e ⟨l.toArray⟩).size + 1)) :: H) := by
    refine hs.new (Nat.le_refl _) ?_ ?_ ?_ (fun k hk => Go.Lib.bytesWorld_at_old w e _ k hk) (Go.Lib.bytesWorld_at_new w e _)
    · simp [Go.Lib.bytesWorld, World.freeze, World.alloc, World.drew, -World.alloc_eq, -World.drew_eq]
    · simp [Go.Lib.bytesWorld, World.freeze, World.alloc, World.drew, -World.alloc_eq, -World.drew_eq]
    · simp [Go.Lib.bytesWorld, World.freeze, World.alloc, World.drew, -World.alloc_eq, -World.drew_eq]
  obtain ⟨h1, e1, e2, e3, hs2⟩ := hn.publish
  have e1' : h1 = Hl.one w.heap.size (.cells (Go.Lib.bytesCells w e ⟨l.toArray⟩) e ((Go.Lib.bytesCells w e ⟨l.toArray⟩).size, (Go.Lib.bytesCells w e ⟨l.toArray⟩).size + 1)) := e1
  have hcap : l.length ≤ grownCap w l.length 0 e ∧ grownCap w l.length 0 e ≤ 9223372036854775807 := by
    unfold grownCap
    simp only [Question.cut]
    have h0 : 0 < 2 ^ 63 - l.length := by omega
    generalize w.tape w.drawn (Question.appendCap l.length 0 e) = T
    have h1 := Nat.mod_lt T h0
    generalize T % (2 ^ 63 - l.length) = T' at h1 ⊢
    constructor <;> omega
  refine (St.val (v := .slice (some ⟨w.heap.size, 0, none⟩) l.length (grownCap w l.length 0 e)) (w' := Go.Lib.bytesWorld w e ⟨l.toArray⟩) (fun a ha => by simp [execOp, ha.eval hx, hr]) (h _ _ _ _ e2 hs2 ?_))
  refine ⟨by simp, some ⟨w.heap.size, 0, none⟩, grownCap w l.length 0 e, rfl, hcap.1, by unfold maxLen; omega, fun q => by simp at q, Or.inr ⟨w.heap.size, 0, _, _, _, rfl, e3 _ _ (show h1 w.heap.size = some _ from by rw [e1']; simp only [Hl.one, if_true]; rfl), ?_⟩⟩
  simp only [Go.Lib.bytesCells, List.drop_zero, Nat.mul_one, Array.toList_append, Array.toList_map, List.map_toArray]
  rw [List.take_append_of_le_length (by simp), List.take_of_length_le (by simp)]
  simp [bs]

/-- len(m). -/
theorem E.lenm {κ : Type} [DecidableEq κ] {enc : κ → Value} {b : Nat} {l : List (κ × Value)} {xs : Array Operand} {kt et : TypeId} (ht : P.underlying t = some (.map kt et)) (hs : Sat W w g H) (hf : Has (mp enc b l) H) (h : E P n ops rest (pushv d (.int .i64 l.length) ρ) w Q) (hx : evs n ρ xs.toList = some [.map (some b)] := by exact rfl) :
    E P n ops (⟨d, .call ⟨.builtin .len, xs, #[t]⟩, ty, ps, af, none⟩ :: rest) ρ w Q := by
  obtain ⟨H', hs'⟩ := hf.front hs
  obtain ⟨es, clock, he, ho⟩ := mp_open hs'
  have hb := ho.heap
  have hl : es.size = l.length := by
    have := congrArg List.length he.1
    simpa using this
  have hr : (Builtin.len_ #[t] ty #[.map (some b)]).run P w = .ok (.int .i64 l.length) w := by
    simp [Builtin.len_, run_underlying ht, run_getObj_map w b es clock hb, goInt, hl]
  exact E.cons (St.val (fun a ha => by simp [execOp, resolve, ha.args hx, invoke, builtin, hr]) h)
end
theorem E.forget {P : Program} {n : Fm} {ρ ρ' : List (Nat × Value)} {w : World} {Q : Exit → Act → World → Prop} {ops : Array Oper} {rest : List Oper} (hw : Weak ρ ρ') (h : E P n ops rest ρ' w Q) : E P n ops rest ρ w Q := by
  unfold E at *
  exact fun a ha => h a (ha.weak hw)
/-- The same as 'later' within a region. -/
theorem laterE {α : Type} {P : Program} {n : Fm} {ops : Array Oper} {rest : List Oper} {Q : Exit → Act → World → Prop} {f : α → List (Nat × Value)} {M : α → World → Prop} {G : Prop} (main : (∀ x w, M x w → E P n ops rest (f x) w Q) → G) (key : ∀ x w, M x w → E P n ops rest (f x) w Q) : G := main key
theorem EH.forget {P : Program} {n : Fm} {l : List Oper} {S : World → Prop} {fuel m : Nat} {ρ ρ' : List (Nat × Value)} {w : World} {Q : Exit → Act → World → Prop} (hw : Weak ρ ρ') (h : EH P n l S fuel m ρ' w Q) : EH P n l S fuel m ρ w Q := by
  unfold EH at *
  exact fun a ha => h a (ha.weak hw)
/-- The same as 'later' within a drawn region. -/
theorem laterH {α : Type} {P : Program} {n : Fm} {l : List Oper} {S : World → Prop} {fuel m : Nat} {Q : Exit → Act → World → Prop} {f : α → List (Nat × Value)} {M : α → World → Prop} {G : Prop} (main : (∀ x w, M x w → EH P n l S fuel m (f x) w Q) → G) (key : ∀ x w, M x w → EH P n l S fuel m (f x) w Q) : G := main key
end Go.Proofs.YtlcdndlgjemmfaaDoor

/-
  Floats: a difference.
-/
namespace Go.Proofs.YtlcdndlgjemmfaaDoor
open Go.RowKit
set_option linter.unusedVariables false
set_option linter.unusedSimpArgs false
section
variable {P : Program} {n : Fm} {ρ : List (Nat × Value)} {W w w' : World} {g g' : Hl} {H H' : List HP} {Q : Exit → Act → World → Prop} {ops : Array Oper} {rest : List Oper} {d : Option Tmp} {ty : TypeId} {ps : String} {af : Array Edge} {v u : Value} {x y : Operand} {e t : TypeId}
theorem run_fsub {a b : Nat} (w : World) : (∃ r, Ieee.double.sub a b = some r ∧ (Op.floatArith .sub .f64 a b).run P w = .ok (.float .f64 r) w) ∨ (Ieee.double.sub a b = none ∧ ∃ r, 9218868437227405312 < r % 9223372036854775808 ∧ r < 18446744073709551616 ∧ (Op.floatArith .sub .f64 a b).run P w = .ok (.float .f64 r) w.drew) := by
  have e0 : FloatKind.f64.format.sub a b = Ieee.double.sub a b := rfl
  cases hh : Ieee.double.sub a b with
  | some r => exact .inl ⟨r, rfl, by simp [Op.floatArith, e0, hh]⟩
  | none =>
    refine .inr ⟨rfl, (Question.nanBits .f64 a b).cut (w.tape w.drawn (.nanBits .f64 a b)), ?_, ?_, ?_⟩
    · simp only [Question.cut]
      generalize w.tape w.drawn (.nanBits .f64 a b) = T
      have h1 : T % 2 = 0 ∨ T % 2 = 1 := by omega
      have h2 : T / 2 % (2 ^ 52 - 1) < 2 ^ 52 - 1 := Nat.mod_lt _ (by decide)
      generalize T / 2 % (2 ^ 52 - 1) = q at h2 ⊢
      rcases h1 with h1 | h1 <;> rw [h1] <;> omega
    · simp only [Question.cut]
      generalize w.tape w.drawn (.nanBits .f64 a b) = T
      have h1 : T % 2 = 0 ∨ T % 2 = 1 := by omega
      have h2 : T / 2 % (2 ^ 52 - 1) < 2 ^ 52 - 1 := Nat.mod_lt _ (by decide)
      generalize T / 2 % (2 ^ 52 - 1) = q at h2 ⊢
      rcases h1 with h1 | h1 <;> rw [h1] <;> omega
    · simp [Op.floatArith, e0, hh, Question.forced]
/-- A difference of floats. -/
theorem E.fsub {s s' : TypeId} {a b : Nat} (hs : Sat W w g H) (h : ∀ r w', Sat W w' g H → (Ieee.double.sub a b = some r ∨ Ieee.double.sub a b = none ∧ 9218868437227405312 < r % 9223372036854775808 ∧ r < 18446744073709551616) → E P n ops rest (pushv d (.float .f64 r) ρ) w' Q)
    (hx : evo n ρ x = some (.float .f64 a) := by exact rfl) (hy : evo n ρ y = some (.float .f64 b) := by exact rfl) : E P n ops (⟨d, .binOp .sub s x y s', ty, ps, af, none⟩ :: rest) ρ w Q := by
  rcases run_fsub (P := P) (a := a) (b := b) w with ⟨r, h1, h2⟩ | ⟨h1, r, h3, h4, h2⟩
  · refine E.cons (St.val (w' := w) (fun ac ha => ?_) (h r w hs (.inl h1)))
    simp [execOp, ha.eval hx, ha.eval hy, eqGuard, binOp, h2]
  · refine E.cons (St.val (w' := w.drew) (fun ac ha => ?_) (h r w.drew hs.drew (.inr ⟨h1, h3, h4⟩)))
    simp [execOp, ha.eval hx, ha.eval hy, eqGuard, binOp, h2]
end
theorem sub_nan {b : Nat} (h : nanF b = true) : Ieee.double.sub b b = none := by
  unfold nanF Ieee.Format.order at h
  unfold Ieee.Format.sub
  cases hb : Ieee.double.read b with
  | nan s t => rfl
  | infinity s => rw [hb] at h; cases s <;> exact absurd h (by decide)
  | number s m e =>
    rw [hb] at h
    simp [Ieee.Datum.order] at h
end Go.Proofs.YtlcdndlgjemmfaaDoor

/-
  The stepping engine: makes and sums in drawn regions, a stronger hold.
-/
namespace Go.Proofs.YtlcdndlgjemmfaaDoor
open Go.RowKit
set_option linter.unusedVariables false
set_option linter.unusedSimpArgs false
section
variable {P : Program} {n : Fm} {ρ : List (Nat × Value)} {W w w' : World} {g g' : Hl} {H H' : List HP} {Q : Exit → Act → World → Prop} {ops : Array Oper} {rest : List Oper} {d : Option Tmp} {ty : TypeId} {ps : String} {af : Array Edge} {v u z : Value} {x y : Operand} {e t : TypeId} {s bytes : Nat} {N : List (Nat × Value) → World → Prop}
/-- An own row that isn't empty lies somewhere. -/
theorem Sat.ownAt {a : Option Addr} {k c : Nat} {xs : List Value} (hs : Sat W w g (own e s (.slice a k c) k xs :: H)) (hk : 0 < k) : ∃ b, a = some ⟨b, 0, none⟩ := by
  rcases hs.owns.2 with ⟨h, _⟩ | ⟨b, _, _, h, _⟩
  · simp only [Value.slice.injEq] at h; omega
  · simp only [Value.slice.injEq] at h
    exact ⟨b, h.1⟩
/-- A place in an own row of single cells. -/
theorem E.ixo {b m c : Nat} {kd : IntKind} {i : Int} (he : ElemOf P t e z 1 bytes) (j : Nat) (h : E P n ops rest (pushv d (.pointer (some ⟨b, j, none⟩)) ρ) w Q)
    (hx : evo n ρ x = some (.slice (some ⟨b, 0, none⟩) m c) := by exact rfl) (hy : evo n ρ y = some (.int kd i) := by exact rfl) (hi : i = (j : Int) := by first | rfl | omega) (hj : j < m := by omega) : E P n ops (⟨d, .indexAddr t x y, ty, ps, af, none⟩ :: rest) ρ w Q := by
  refine E.pv (Pv.indexAddr hx hy fun w => ?_) h
  have := run_index_at he (b := b) (o := 0) (c := c) (kd := kd) hi hj w
  simpa using this
theorem wpAnyH_mono {S S' : World → Prop} (hS : ∀ w, S' w → S w) {md : Region.Mode} : ∀ (fuel : Nat) (listed : Array Bool) (a : Act) (w : World), wpAnyH P md ops Q S' fuel listed a w → wpAnyH P md ops Q S fuel listed a w
  | 0, _, _, _, h => h
  | fuel + 1, _, _, _, h => ⟨h.1, fun i hi => wpOp_mono (fun a' w' h' => ⟨hS _ h'.1, wpAnyH_mono hS fuel _ a' w' h'.2⟩) (h.2 i hi)⟩
/-- From here on more is held. -/
theorem EH.more {l : List Oper} {S : World → Prop} {fuel m : Nat} (S' : World → Prop) (hS : ∀ w, S' w → S w) (h : EH P n l S' fuel m ρ w Q) : EH P n l S fuel m ρ w Q := by
  unfold EH at *
  exact fun a ha => wpAnyH_mono hS _ _ _ _ (h a ha)
theorem Keeps.le {F : List (Nat × List Value × TypeId)} (hg : Hl.le g g') (w : World) (h : Keeps g' F w) : Keeps g F w := ⟨fun k o hk => h.1 k o (hg k o hk), h.2⟩
/-- The pool has grown: all of it is held. -/
theorem EH.pool {l : List Oper} {F : List (Nat × List Value × TypeId)} {fuel m : Nat} (hg : Hl.le g g') (h : EH P n l (Keeps g' F) fuel m ρ w Q) : EH P n l (Keeps g F) fuel m ρ w Q := EH.more _ (Keeps.le hg) h
theorem St.mks {kl kc : IntKind} {k2 : Nat} {i j : Int} (he : ElemOf P t e z s bytes) (hs : Sat W w g H) (h : ∀ a' w', Sat W w' g (own e s (.slice a' k2 k2) k2 (madeCells z.cells (k2 * s)).toList :: H) → N (pushv d (.slice a' k2 k2) ρ) w') (hb : k2 * bytes ≤ 140737488355328 := by omega)
    (hx : evo n ρ x = some (.int kl i) := by exact rfl) (hy : evo n ρ y = some (.int kc j) := by exact rfl) (hi : i = (k2 : Int) := by omega) (hj : j = (k2 : Int) := by omega) (h63 : k2 ≤ 9223372036854775807 := by omega) :
    St P n ops ⟨d, .makeSlice t x y, ty, ps, af, none⟩ ρ w N Q := by
  subst hi hj
  obtain ⟨ht, ⟨inf, hin, hz, hsz, hby⟩, hzs, hpos⟩ := he
  obtain ⟨w', hr, ho, hg⟩ := run_make_full (P := P) w w.heap.size t e inf z s ht hin hz hsz kl kc k2 (by rw [hby, Nat.mul_comm]; omega) (by unfold maxLen; omega) (Nat.le_refl _)
  exact St.val (fun a ha => by simp [execOp, ha.eval hx, ha.eval hy, hr]) (h _ _ (hs.newOwn ho ⟨hg.os, hg.tape, hg.output, hg.size, fun q hq => hg.block q hq (by simp)⟩))
theorem St.al {xs : List Value} (hs : Sat W w g H) (h : ∀ b w', Sat W w' g (blk b xs e :: H) → N (pushv d (.pointer (some ⟨b, 0, none⟩)) ρ) w') (hz : (zeroValue e).run P w = .ok z w := by go_simp; first | done | exact rfl | exact ⟨rfl, rfl⟩) (hx : z.cells.toList = xs := by exact nz_) :
    St P n ops ⟨d, .alloc e, ty, ps, af, none⟩ ρ w N Q := St.alloc hs hz hx h
theorem St.ldp {b j k : Nat} {xs vs : List Value} (st : AggOf P t k) (hs : Sat W w g H) (h : N (pushv d (.agg vs.toArray) ρ) w) (hx : evo n ρ x = some (.pointer (some ⟨b, j, none⟩)) := by exact rfl) (hf : Fd H b xs e := by exact fd_) (hv : (xs.drop j).take k = vs := by exact nz_) (hk : vs.length = k := by exact rfl) :
    St P n ops ⟨d, .load t x, ty, ps, af, none⟩ ρ w N Q := St.loads hx (run_ldp st (hf.blk hs) hv hk) h
/-- A sum of floats. -/
theorem St.fadd {s s' : TypeId} {a b : Nat} (hs : Sat W w g H) (h : ∀ r w', Sat W w' g H → (Ieee.double.add a b = some r ∨ Ieee.double.add a b = none ∧ 9218868437227405312 < r % 9223372036854775808 ∧ r < 18446744073709551616) → N (pushv d (.float .f64 r) ρ) w')
    (hx : evo n ρ x = some (.float .f64 a) := by exact rfl) (hy : evo n ρ y = some (.float .f64 b) := by exact rfl) : St P n ops ⟨d, .binOp .add s x y s', ty, ps, af, none⟩ ρ w N Q := by
  rcases run_fadd (P := P) (a := a) (b := b) w with ⟨r, h1, h2⟩ | ⟨h1, r, h3, h4, h2⟩
  · refine St.val (w' := w) (fun ac ha => ?_) (h r w hs (.inl h1))
    simp [execOp, ha.eval hx, ha.eval hy, eqGuard, binOp, h2]
  · refine St.val (w' := w.drew) (fun ac ha => ?_) (h r w.drew hs.drew (.inr ⟨h1, h3, h4⟩))
    simp [execOp, ha.eval hx, ha.eval hy, eqGuard, binOp, h2]
end
section
variable {P : Program} {n : Fm} {ρ : List (Nat × Value)} {W w w' : World} {g g' : Hl} {H H' : List HP} {Q : Exit → Act → World → Prop} {l : List Oper} {S : World → Prop} {fuel m i : Nat} {rs : List Nat} {d : Option Tmp} {ty : TypeId} {ps : String} {af : Array Edge} {gd : Option (Nat × Bool)} {F : List (Nat × List Value × TypeId)} {v z : Value} {x y : Operand} {e t : TypeId} {a : Option Addr} {len c bytes : Nat}
theorem EH.ldp {b j k : Nat} {xs vs : List Value} (st : AggOf P t k) (hs : Sat W w g H) (h : S w ∧ EH P n l S fuel (bset m i) (pushv d (.agg vs.toArray) ρ) w Q) (hr : rdy m l.length 0 l = [i] := by exact rfl) (hi : nth l i = some ⟨d, .load t x, ty, ps, af, none⟩ := by exact rfl)
    (hx : evo n ρ x = some (.pointer (some ⟨b, j, none⟩)) := by exact rfl) (hf : Fd H b xs e := by exact fd_) (hv : (xs.drop j).take k = vs := by exact nz_) (hk : vs.length = k := by exact rfl) : EH P n l S (fuel + 1) m ρ w Q :=
  EH.one (St.loads hx (run_ldp st (hf.blk hs) hv hk) h) hr hi
theorem keptp0 (hs : Sat W w g' H) (h : Keeps g' [] w → EH P n l (Keeps g' []) fuel m ρ w Q) (hg : Hl.le g g' := by first | exact Hl.le_refl _ | assumption | exact Hl.le.trans (by assumption) (by assumption)) : Keeps g [] w ∧ EH P n l (Keeps g []) fuel m ρ w Q :=
  ⟨Keeps.of0 hs hg, EH.pool hg (h (Keeps.of0 hs (Hl.le_refl _)))⟩
theorem keptp1 {b1 : Nat} {x1 : List Value} {e1 : TypeId} (hs : Sat W w g' H) (h : Keeps g' [(b1, x1, e1)] w → EH P n l (Keeps g' [(b1, x1, e1)]) fuel m ρ w Q) (hg : Hl.le g g' := by first | exact Hl.le_refl _ | assumption | exact Hl.le.trans (by assumption) (by assumption)) (h1 : Fd H b1 x1 e1 := by exact fd_) : Keeps g [(b1, x1, e1)] w ∧ EH P n l (Keeps g [(b1, x1, e1)]) fuel m ρ w Q :=
  ⟨Keeps.of1 hs hg h1, EH.pool hg (h (Keeps.of1 hs (Hl.le_refl _) h1))⟩
theorem keptp2 {b1 b2 : Nat} {x1 x2 : List Value} {e1 e2 : TypeId} (hs : Sat W w g' H) (h : Keeps g' [(b1, x1, e1), (b2, x2, e2)] w → EH P n l (Keeps g' [(b1, x1, e1), (b2, x2, e2)]) fuel m ρ w Q) (hg : Hl.le g g' := by first | exact Hl.le_refl _ | assumption | exact Hl.le.trans (by assumption) (by assumption)) (h1 : Fd H b1 x1 e1 := by exact fd_) (h2 : Fd H b2 x2 e2 := by exact fd_) : Keeps g [(b1, x1, e1), (b2, x2, e2)] w ∧ EH P n l (Keeps g [(b1, x1, e1), (b2, x2, e2)]) fuel m ρ w Q :=
  ⟨Keeps.of2 hs hg h1 h2, EH.pool hg (h (Keeps.of2 hs (Hl.le_refl _) h1 h2))⟩
theorem EH.ix1 {i1 : Nat} {xs : List Value} (he : ElemOf P t e z 1 bytes) (hp : Pr 1 g (.slice a len c) len xs) (q : Nat) (hxj : xs[q]? = some v) (hS : S w) (hSk : ∀ w, S w → Keeps g F w) (kk : ∀ b o, Rd S b o v → EH P n l S fuel (bset m i) (pushv d (.pointer (some ⟨b, o, none⟩)) ρ) w Q) {kd : IntKind} {iv : Int}
    (hr : rdy m l.length 0 l = i1 :: i :: rs := by exact rfl) (hnth : nth l i = some ⟨d, .indexAddr t x y, ty, ps, af, gd⟩ := by exact rfl) (hg : want n l ρ gd = some true := by exact rfl)
    (hx : evo n ρ x = some (.slice a len c) := by exact rfl) (hy : evo n ρ y = some (.int kd iv) := by exact rfl) (hi : iv = (q : Int) := by omega) (hj : q < len := by omega)
    (hsel : Region.noSelect l.toArray = true := by kernel_rfl) (hf : Region.free .any l.toArray (bits m l.length) i = true := by decide +kernel)
    (hQ : ∀ v c a w, Q (.panic c) (a.put d v) w → Q (.panic c) a w := by exact fun _ _ _ _ h => h) : EH P n l S (fuel + 1) m ρ w Q := by
  obtain ⟨b, o, h1, h2⟩ := run_index_el (P := P) he hp hi hj
  refine EH.take i (by rw [hr]; simp) hnth hsel hf hQ hS (yif (oi := ⟨d, .indexAddr t x y, ty, ps, af, gd⟩) hg (Pf.pv (Pv.indexAddr hx hy h1))) (kk b o ?_)
  intro w' hw'
  refine h2 w' (hSk w' hw').1 0 v ?_
  rw [List.getElem?_take, if_pos (by omega), List.getElem?_drop]
  simpa using hxj
end
/-- Within a drawn region: a state that is walked once, from wherever it is come to. -/
theorem laterK {α : Type} {P : Program} {n : Fm} {l : List Oper} {S : World → Prop} {Q : Exit → Act → World → Prop} {fuel m fuel0 m0 : Nat} {f : α → List (Nat × Value)} {M : α → World → Prop} {ρ0 : List (Nat × Value)} {w0 : World}
    (key : ∀ x w, M x w → EH P n l S fuel m (f x) w Q) (main : (∀ x w, M x w → EH P n l S fuel m (f x) w Q) → EH P n l S fuel0 m0 ρ0 w0 Q) : EH P n l S fuel0 m0 ρ0 w0 Q := main key
theorem add_nan {a b : Nat} (h : nanF a = true) : Ieee.double.add a b = none := by
  unfold nanF Ieee.Format.order at h
  unfold Ieee.Format.add
  cases ha : Ieee.double.read a with
  | nan s t => rfl
  | infinity s => rw [ha] at h; cases s <;> exact absurd h (by decide)
  | number s m e =>
    rw [ha] at h
    simp [Ieee.Datum.order] at h
end Go.Proofs.YtlcdndlgjemmfaaDoor

/-
  The stepping engine: strings by place and in part; what package-level variables hold.
-/
namespace Go.Proofs.YtlcdndlgjemmfaaDoor
open Go.RowKit
set_option linter.unusedVariables false
set_option linter.unusedSimpArgs false
section
variable {P : Program} {n : Fm} {ρ : List (Nat × Value)} {W w w' : World} {g g' : Hl} {H H' : List HP} {Q : Exit → Act → World → Prop} {ops : Array Oper} {rest : List Oper} {d : Option Tmp} {ty : TypeId} {ps : String} {af : Array Edge} {v u z : Value} {x y : Operand} {e t : TypeId} {l : List UInt8} {kd kd' : IntKind} {i j : Int}
theorem ba_size (l : List UInt8) : (ByteArray.mk l.toArray).size = l.length := by simp [ByteArray.size]
theorem ba_get (l : List UInt8) (k : Nat) (h : k < l.length) (h' : k < (ByteArray.mk l.toArray).size) : (ByteArray.mk l.toArray)[k]'h' = l[k] := by
  show (ByteArray.mk l.toArray).data[k]'(by simpa [ByteArray.size] using h') = l[k]
  simp
theorem ba_extract (l : List UInt8) (a b : Nat) : (ByteArray.mk l.toArray).extract a b = ⟨((l.drop a).take (b - a)).toArray⟩ := by
  apply ByteArray.ext
  rw [ByteArray.data_extract]
  apply Array.ext'
  simp [List.take_drop]
/-- A string's byte. -/
theorem Pv.sidx (ht : P.underlying t = some .string) (q : Nat) (hq : q < l.length) (hx : evo n ρ x = some (.string ⟨l.toArray⟩) := by exact rfl) (hy : evo n ρ y = some (.int kd i) := by exact rfl) (hi : i = (q : Int) := by first | rfl | omega) : Pv P n ρ (.index t x y) ty (.int .u8 (l[q].toNat : Int)) := Pv.mk fun a ha w d ps af g => by
  subst hi
  have h1 := run_index_string (P := P) w t ⟨l.toArray⟩ kd (q : Int) ht
  rw [dif_pos ⟨by omega, by rw [ba_size]; omega⟩] at h1
  have h2 : (ByteArray.mk l.toArray)[(q : Int).toNat]'(by rw [ba_size]; simpa using hq) = l[q] := ba_get l q hq _
  rw [h2] at h1
  simp [execOp, ha.eval hx, ha.eval hy, h1]
theorem E.sidx (ht : P.underlying t = some .string) (q : Nat) (hq : q < l.length) (h : E P n ops rest (pushv d (.int .u8 (l[q].toNat : Int)) ρ) w Q) (hx : evo n ρ x = some (.string ⟨l.toArray⟩) := by exact rfl) (hy : evo n ρ y = some (.int kd i) := by exact rfl) (hi : i = (q : Int) := by first | rfl | omega) :
    E P n ops (⟨d, .index t x y, ty, ps, af, none⟩ :: rest) ρ w Q := E.pv (Pv.sidx ht q hq hx hy hi) h
theorem Pv.negw {s : TypeId} (hx : evo n ρ x = some (.int kd i) := by exact rfl) : Pv P n ρ (.unOp .neg s x) ty (.int kd (kd.wrap (-i))) := Pv.unOp hx fun w => by simp [Op.unary, Op.intArith]
/-- A part of a string: from a place on; up to a place; between two. -/
theorem Pv.sfrom {lo : Operand} (ht : P.underlying t = some .string) (q : Nat) (hq : q ≤ l.length) (hx : evo n ρ x = some (.string ⟨l.toArray⟩) := by exact rfl) (hy : evo n ρ lo = some (.int kd i) := by exact rfl) (hi : i = (q : Int) := by first | rfl | omega) : Pv P n ρ (.slice t x (some lo) none none) ty (.string ⟨(l.drop q).toArray⟩) :=
  Pv.mk fun a ha w d ps af g => by
    subst hi
    have h1 := run_slice_string_from_if (P := P) w t ⟨l.toArray⟩ kd (q : Int) ht
    rw [if_pos ⟨by omega, by rw [ba_size]; omega⟩, ba_extract, ba_size, List.take_of_length_le (by rw [List.length_drop]; simp)] at h1
    simp only [Int.toNat_natCast] at h1
    simp [execOp, ha.eval hx, ha.eval hy, Instr.sliceAt, run_underlying ht, h1]
theorem Pv.supto {hi' : Operand} (ht : P.underlying t = some .string) (q : Nat) (hq : q ≤ l.length) (hx : evo n ρ x = some (.string ⟨l.toArray⟩) := by exact rfl) (hy : evo n ρ hi' = some (.int kd i) := by exact rfl) (hi : i = (q : Int) := by first | rfl | omega) : Pv P n ρ (.slice t x none (some hi') none) ty (.string ⟨(l.take q).toArray⟩) :=
  Pv.mk fun a ha w d ps af g => by
    subst hi
    have h1 := run_slice_string_to_if (P := P) w t ⟨l.toArray⟩ kd (q : Int) ht
    rw [if_pos ⟨by omega, by rw [ba_size]; omega⟩, ba_extract] at h1
    simp only [Int.toNat_natCast, List.drop_zero, Nat.sub_zero] at h1
    simp [execOp, ha.eval hx, ha.eval hy, Instr.sliceAt, run_underlying ht, h1]
theorem Pv.ssub {lo hi' : Operand} (ht : P.underlying t = some .string) (q r : Nat) (hqr : q ≤ r) (hr : r ≤ l.length) (hx : evo n ρ x = some (.string ⟨l.toArray⟩) := by exact rfl) (hy : evo n ρ lo = some (.int kd i) := by exact rfl) (hz : evo n ρ hi' = some (.int kd' j) := by exact rfl) (hi : i = (q : Int) := by first | rfl | omega) (hj : j = (r : Int) := by first | rfl | omega) :
    Pv P n ρ (.slice t x (some lo) (some hi') none) ty (.string ⟨((l.drop q).take (r - q)).toArray⟩) :=
  Pv.mk fun a ha w d ps af g => by
    subst hi hj
    have h1 := run_slice_string (P := P) w t ⟨l.toArray⟩ kd kd' (q : Int) (r : Int) ht (by omega) (by omega) (by rw [ba_size]; omega)
    rw [ba_extract] at h1
    simp only [Int.toNat_natCast] at h1
    simp [execOp, ha.eval hx, ha.eval hy, ha.eval hz, Instr.sliceAt, run_underlying ht, h1]
/-- a[j:] of an array in memory, an element of one cell. -/
theorem run_slice_arr {b q m : Nat} (ht : P.underlying t = some (.array m e)) (hq : ∀ w, (sizeOf e).run P w = .ok 1 w) (hi : i = (q : Int)) (hj : q < m) (w : World) : (Instr.sliceAt t (.pointer (some ⟨b, 0, none⟩)) (some (.int kd i)) none none).run P w = .ok (.slice (some ⟨b, q, none⟩) (m - q) (m - q)) w := by
  subst hi
  have h1 : ((q : Int) ≤ (m : Int)) := by omega
  have h2 : ¬ m = q := by omega
  simp [Instr.sliceAt, run_underlying ht, asIntOf, hq, Instr.sureAddr, Instr.sliceBounds, Instr.sliceBound, h1, h2, Addr.add_lit]
  omega
theorem E.slarr {b q m : Nat} {lo : Operand} (ht : P.underlying t = some (.array m e)) (hj : q < m) (h : E P n ops rest (pushv d (.slice (some ⟨b, q, none⟩) (m - q) (m - q)) ρ) w Q) (hq : ∀ w, (sizeOf e).run P w = .ok 1 w := by intro w; exact sz_)
    (hx : evo n ρ x = some (.pointer (some ⟨b, 0, none⟩)) := by exact rfl) (hy : evm n ρ (some lo) = some (some (.int kd i)) := by exact rfl) (hi : i = (q : Int) := by first | rfl | omega) : E P n ops (⟨d, .slice t x (some lo) none none, ty, ps, af, none⟩ :: rest) ρ w Q :=
  E.pv (Pv.slice hx hy rfl rfl (run_slice_arr ht hq hi hj)) h
end
/-- A part of a block as a row of bytes. -/
theorem blk_rowb {W w : World} {g : Hl} {H : List HP} {b q m : Nat} {xs : List Value} {E : TypeId} {l : List UInt8} (hs : Sat W w g (blk b xs E :: H)) (hx : xs.drop q = bs l) (hm : l.length = m) (hm2 : m ≤ 9223372036854775807) : Row 1 w (fun _ => True) (.slice (some ⟨b, q, none⟩) m m) m (bs l) :=
  ⟨by rw [bs_length, hm, Nat.mul_one], _, m, rfl, Nat.le_refl _, hm2, fun e => by simp at e, .inr ⟨b, q, xs.toArray, E, (0, 0), rfl, trivial, hs.block, by
    simp only []
    rw [hx, Nat.mul_one, List.take_of_length_le (by rw [bs_length]; omega)]⟩⟩
theorem drop_set {α : Type} {xs : List α} {i : Nat} {v : α} (h : i < xs.length) : (xs.set i v).drop i = v :: xs.drop (i + 1) := by
  rw [List.drop_eq_getElem_cons (by simpa using h), List.getElem_set_self, List.drop_set, if_pos (by omega)]
/-- What a place of a package-level variable holds, in the pool. -/
def GlC (g : Hl) (b o : Nat) (v : Value) : Prop := ∃ cur e fz, g b = some (.cells cur e fz) ∧ cur[o]? = some v
theorem GlC.mono {g g' : Hl} {b o : Nat} {v : Value} (h : GlC g b o v) (hg : Hl.le g g') : GlC g' b o v := by
  obtain ⟨c, e, f, h1, h2⟩ := h
  exact ⟨c, e, f, hg _ _ h1, h2⟩
theorem GlC.at {W w : World} {g : Hl} {H : List HP} {b o : Nat} {v : Value} (h : GlC g b o v) (hs : Sat W w g H) : w.cell? ⟨b, o, none⟩ = some v := by
  obtain ⟨c, e, f, h1, h2⟩ := h
  have := hs.pool h1
  simp [World.cell?, this, h2]
theorem GlC.of {w : World} {b o : Nat} {v : Value} (h : w.cell? ⟨b, o, none⟩ = some v) : GlC (fun k => w.heap[k]?) b o v := by
  simp only [World.cell?] at h
  unfold GlC
  cases hb : w.heap[b]? with
  | none => rw [hb] at h; simp at h
  | some ob =>
    rw [hb] at h
    cases ob with
    | cells cur e fz => exact ⟨cur, e, fz, hb, by simpa using h⟩
    | _ => simp at h
end Go.Proofs.YtlcdndlgjemmfaaDoor

/-
  Rows of bytes.
-/
namespace Go.Proofs.YtlcdndlgjemmfaaDoor
open Go.RowKit
set_option linter.unusedVariables false
set_option linter.unusedSimpArgs false

theorem el_u8 : ElemOf Tryd.prog 49 5 (.int .u8 0) 1 1 := .of Tryd.underlying49 (by kernel_rfl) rfl (by decide)
theorem one_bs (l : List UInt8) : ∀ u ∈ bs l, u.oneCell' = true := bs_one l
end Go.Proofs.YtlcdndlgjemmfaaDoor

/-
  Numbers as words: to base sixteen; small ones to base ten.
-/
namespace Go.Proofs.YtlcdndlgjemmfaaDoor
open Go.RowKit
set_option linter.unusedVariables false
set_option linter.unusedSimpArgs false

/-- What the calls lean on: the table of math/bits. -/
structure Gl (g : Hl) : Prop where
  tz : GlC g 5 15 (.int .u8 4)
theorem Gl.mono {g g' : Hl} (h : Gl g) (hg : Hl.le g g') : Gl g' := ⟨h.tz.mono hg⟩

def digs : List UInt8 := [48, 49, 50, 51, 52, 53, 54, 55, 56, 57, 97, 98, 99, 100, 101, 102, 103, 104, 105, 106, 107, 108, 109, 110, 111, 112, 113, 114, 115, 116, 117, 118, 119, 120, 121, 122]
def hexD (d : Nat) : UInt8 := digs.getD d 0
/-- A number's digits to base sixteen. -/
def hexN (n : Nat) : List UInt8 := if n < 16 then [hexD n] else hexN (n / 16) ++ [hexD (n % 16)]
termination_by n
decreasing_by omega
theorem hexN_small {n : Nat} (h : n < 16) : hexN n = [hexD n] := by rw [hexN, if_pos h]
theorem hexN_step {n : Nat} (h : 16 ≤ n) : hexN n = hexN (n / 16) ++ [hexD (n % 16)] := by rw [hexN, if_neg (by omega)]
theorem hexN_len : ∀ (k n : Nat), 1 ≤ k → n < 16 ^ k → 1 ≤ (hexN n).length ∧ (hexN n).length ≤ k
  | 0, _, h, _ => by omega
  | k + 1, n, _, h => by
    by_cases h1 : n < 16
    · rw [hexN_small h1]; simp
    · rw [hexN_step (by omega), List.length_append]
      have hk : 1 ≤ k := by
        rcases Nat.eq_zero_or_pos k with rfl | hk
        · simp at h; omega
        · exact hk
      have := hexN_len k (n / 16) hk (by rw [Nat.pow_succ] at h; omega)
      simp only [List.length_cons, List.length_nil]
      omega

set_option maxHeartbeats 1600000 in
set_option maxRecDepth 100000 in
theorem pow2_any {R : Ending → World → Prop} {w : World} (hR : R (.returned (.bool true)) w) : Calls Tryd.prog 54 #[.int .i64 16] w R := by
  have HR := Lib.hid hR
  clear hR
  refine C.calls (args := [.int .i64 16]) Tryd.func54 rfl rfl rfl ?_
  refine go ?_
  refine A.r1 ?_
  exact HR.out
set_option maxHeartbeats 1600000 in
set_option maxRecDepth 100000 in
theorem tz64_any {R : Ending → World → Prop} {W w : World} {g : Hl} {H : List HP} (hg : Gl g) (hs : Sat W w g H) (hR : R (.returned (.int .i64 4)) w) : Calls Tryd.prog 65 #[.int .u64 16] w R := by
  have HR := Lib.hid hR
  clear hR
  have c1 := hg.tz.at hs
  refine C.calls (args := [.int .u64 16]) Tryd.func65 rfl rfl rfl ?_
  refine go ?_
  refine E.pv Pv.negw ?_
  rw [show IntKind.u64.wrap (-16) = 18446744073709551600 by rfl]
  refine go ?_
  refine A.r1 ?_
  exact HR.out
set_option maxHeartbeats 1600000 in
set_option maxRecDepth 100000 in
theorem tz_any {R : Ending → World → Prop} {W w : World} {g : Hl} {H : List HP} (hg : Gl g) (hs : Sat W w g H) (hR : R (.returned (.int .i64 4)) w) : Calls Tryd.prog 55 #[.int .u64 16] w R := by
  have HR := Lib.hid hR
  clear hR
  refine C.calls (args := [.int .u64 16]) Tryd.func55 rfl rfl rfl ?_
  refine go ?_
  refine E.callf Tryd.func65 rfl ?_
  refine tz64_any hg hs ?_
  refine go ?_
  refine A.r1 ?_
  exact HR.out

set_option maxHeartbeats 3200000 in
set_option maxRecDepth 100000 in
theorem formatBits_any {R : Ending → World → Prop} {W w : World} {g : Hl} {H : List HP} {m : Nat} (hg : Gl g) (hm : m < 18446744073709551616) (hs : Sat W w g H)
    (hR : ∀ w', Sat W w' g H → R (.returned (.tuple #[.slice none 0 0, .string ⟨(hexN m).toArray⟩])) w') : Calls Tryd.prog 35 #[.slice none 0 0, .int .u64 m, .int .i64 16, .bool false, .bool false] w R := by
  have HR := Lib.hid hR
  clear hR
  refine C.calls (args := [.slice none 0 0, .int .u64 m, .int .i64 16, .bool false, .bool false]) Tryd.func35 rfl rfl rfl ?_
  refine go ?_
  refine E.al hs (xs := List.replicate 65 (.int .u8 0)) ?_ (hx := rfl)
  intro b1 w1 hs
  refine go ?_
  refine E.callf Tryd.func54 rfl ?_
  refine pow2_any ?_
  refine go ?_
  refine E.callf Tryd.func55 rfl ?_
  refine tz_any hg hs ?_
  refine gob ?_
  refine C.cut (fun x : Nat × Nat => [(0, .slice none 0 0), (1, .int .u64 x.1), (4, .bool false), (3, .bool false), (10, .slice none 0 0), (12, .pointer (some ⟨b1, 0, none⟩)), (13, .int .i64 x.2)])
    (fun x w => x.1 < 16 ∧ 50 ≤ x.2 ∧ x.2 ≤ 65 ∧ ∃ (xs : List Value) (suf : List UInt8), xs.length = 65 ∧ xs.drop x.2 = bs suf ∧ hexN m = hexN x.1 ++ suf ∧ Sat W w g (blk b1 xs 81 :: H)) ?_ ?_
  · refine C.block ?_
    refine C.lp (fun x : Nat × Nat => [(0, .slice none 0 0), (1, .int .u64 x.1), (4, .bool false), (3, .bool false), (10, .slice none 0 0), (12, .pointer (some ⟨b1, 0, none⟩)), (13, .int .i64 (x.2 + 49 : Nat)), (14, .int .u64 4), (15, .int .u64 16), (16, .int .u64 15)])
      (fun gk x w => gk = x.2 ∧ 1 ≤ x.2 ∧ x.2 ≤ 16 ∧ x.1 < 16 ^ x.2 ∧ x.1 < 18446744073709551616 ∧ ∃ (xs : List Value) (suf : List UInt8), xs.length = 65 ∧ xs.drop (x.2 + 49) = bs suf ∧ hexN m = hexN x.1 ++ suf ∧ Sat W w g (blk b1 xs 81 :: H)) 16 (m, 16) ⟨rfl, by simp, by simp, hm, hm, _, [], rfl, rfl, by simp, hs⟩ ?_
    clear hs
    rintro k ⟨u, _⟩ w2 ⟨rfl, hk1, hk2, huk, hu, xs, suf, hxl, hxd, hhx, hs⟩
    simp only at hk1 hk2 huk hu hxd hhx hs ⊢
    refine go ?_
    refine C.cond_dec (p := (16 : Int) ≤ u) rfl (fun h => ?_) (fun h => ?_)
    · have hk3 : 2 ≤ k := by
        rcases Nat.lt_or_ge k 2 with h2 | h2
        · obtain rfl : k = 1 := by omega
          simp at huk
          omega
        · exact h2
      obtain ⟨k, rfl⟩ : ∃ q, k = q + 1 := ⟨k - 1, by omega⟩
      refine go ?_
      rw [show ((k + 1 + 49 : Nat) : Int) - 1 = ((k + 49 : Nat) : Int) by omega]
      have hdl : u % 16 < digs.length := by rw [show digs.length = 36 by rfl]; omega
      rw [show u &&& 15 = u % 16 from Nat.and_two_pow_sub_one_eq_mod u 4]
      refine E.sidx (l := digs) Tryd.underlying9 (u % 16) hdl ?_
      refine E.ixa (k + 49) Tryd.underlying81 ?_
      refine E.sto (vs := [.int .u8 (digs[u % 16].toNat : Int)]) (ys := xs.set (0 + (k + 49)) (.int .u8 (digs[u % 16].toNat : Int))) hs ?_ (hv := rfl) (hsp := rfl) (hj := by rw [hxl, Nat.ble_eq]; simp only [List.length_cons, List.length_nil]; omega)
      intro w4 hs
      refine go ?_
      refine A.rd k (u / 2 ^ 4, k) ⟨rfl, by simp only; omega, by simp only; omega, ?_, by simp only; omega, _, digs[u % 16] :: suf, ?_, ?_, ?_, hs⟩
      · rw [Nat.pow_succ] at huk
        simp only
        omega
      · simpa using hxl
      · simp only
        rw [Nat.zero_add, drop_set (by omega), show k + 49 + 1 = k + 1 + 49 by omega, hxd]
        rfl
      · simp only
        rw [hhx, hexN_step (by omega), List.append_assoc]
        congr 2
        show [hexD (u % 16)] ++ suf = _
        rw [hexD, List.getD_eq_getElem?_getD, List.getElem?_eq_getElem hdl]
        rfl
    · refine go ?_
      exact A.mt (u, k + 49) ⟨by simp only; omega, by simp only; omega, by simp only; omega, xs, suf, hxl, hxd, hhx, hs⟩
  clear hs
  rintro ⟨u, i⟩ w3 ⟨hu, hi1, hi2, xs, suf, hxl, hxd, hhx, hs⟩
  simp only at hu hi1 hi2 hxd hhx hs ⊢
  obtain ⟨i, rfl⟩ : ∃ q, i = q + 1 := ⟨i - 1, by omega⟩
  refine go ?_
  have hdl : u < digs.length := by rw [show digs.length = 36 by rfl]; omega
  refine E.sidx (l := digs) Tryd.underlying9 u hdl ?_
  refine E.ixa i Tryd.underlying81 ?_
  refine E.sto (vs := [.int .u8 (digs[u].toNat : Int)]) (ys := xs.set (0 + i) (.int .u8 (digs[u].toNat : Int))) hs ?_ (hv := rfl) (hsp := rfl) (hj := by rw [hxl, Nat.ble_eq]; simp only [List.length_cons, List.length_nil]; omega)
  intro w4 hs
  refine go ?_
  refine E.slarr (q := i) Tryd.underlying81 (by omega) ?_
  have hsl : suf.length = 64 - i := by
    have := congrArg List.length hxd
    simp only [List.length_drop, bs_length] at this
    omega
  have hrow := blk_rowb (l := digs[u] :: suf) (m := 65 - i) (q := i) hs (by rw [Nat.zero_add, drop_set (by omega), hxd]; rfl) (by simp only [List.length_cons]; omega) (by omega)
  refine E.strc hrow Tryd.underlying49 Tryd.underlying5 Tryd.underlying9 ?_
  refine go ?_
  refine A.r2 ?_
  have := HR.out _ hs.drop
  rw [hhx, hexN_small hu, hexD, List.getD_eq_getElem?_getD, List.getElem?_eq_getElem hdl] at this
  exact this
end Go.Proofs.YtlcdndlgjemmfaaDoor

/-
  Strings of bytes, as values and as a map's keys.
-/
namespace Go.Proofs.YtlcdndlgjemmfaaDoor
open Go.RowKit
set_option linter.unusedVariables false
set_option linter.unusedSimpArgs false

/-- A string of bytes, as a value. -/
def str (k : List UInt8) : Value := .string ⟨k.toArray⟩
theorem str_inj {a b : List UInt8} (h : str a = str b) : a = b := by
  simp only [str, Value.string.injEq, ByteArray.mk.injEq] at h
  simpa using congrArg Array.toList h
theorem ky_str : Ky Tryd.prog 9 str where
  kind := ⟨.string, Tryd.underlying9, fun a => trivial, fun a b => by simp [str, Instr.sameNow, str_beq]⟩
  bits := fun a => by
    have := str_beq a a
    simp [str, Instr.sameBits, this]
def ptr (b : Nat) : Value := .pointer (some ⟨b, 0, none⟩)
end Go.Proofs.YtlcdndlgjemmfaaDoor

/-
  Strings that begin so.
-/
namespace Go.Proofs.YtlcdndlgjemmfaaDoor
open Go.RowKit
set_option linter.unusedVariables false
set_option linter.unusedSimpArgs false

theorem extract_take (l : List UInt8) (h : Nat) : (⟨l.toArray⟩ : ByteArray).extract 0 h = ⟨(l.take h).toArray⟩ := by
  apply ByteArray.ext
  simp [ByteArray.data_extract]
section
variable {P : Program} {n : Fm} {ρ : List (Nat × Value)} {W w w' : World} {Q : Exit → Act → World → Prop} {ops : Array Oper} {rest : List Oper} {d : Option Tmp} {t ty : TypeId} {ps : String} {af : Array Edge} {x y : Operand}
/-- s[:h] of a string. -/
theorem E.sls {l : List UInt8} (h : Nat) (k : E P n ops rest (pushv d (.string ⟨(l.take h).toArray⟩) ρ) w Q) {kd : IntKind} {i : Int} (ht : P.underlying t = some .string) (hh : h ≤ l.length := by omega)
    (hx : evo n ρ x = some (.string ⟨l.toArray⟩) := by exact rfl) (hy : evm n ρ (some y) = some (some (.int kd i)) := by exact rfl) (hi : i = (h : Int) := by omega) :
    E P n ops (⟨d, .slice t x none (some y) none, ty, ps, af, none⟩ :: rest) ρ w Q := by
  subst hi
  refine E.pv (Pv.slice hx rfl hy rfl (fun w => ?_)) k
  have hsz : (h : Int) ≤ ((⟨l.toArray⟩ : ByteArray).size : Int) := by simp [ByteArray.size]; omega
  have := run_slice_string_h (P := P) w t ⟨l.toArray⟩ ht kd h (by omega) hsz
  rw [Int.toNat_natCast, extract_take] at this
  simp only [Instr.sliceAt]
  simp [run_underlying ht, this]
end

set_option maxHeartbeats 1600000 in
set_option maxRecDepth 100000 in
theorem hasPrefix_lite {R : Ending → World → Prop} {w : World} {s p : List UInt8} (hsl : s.length ≤ 1000000000) (hpl : p.length ≤ 1000000000)
    (hR : R (.returned (.bool (decide (p.length ≤ s.length ∧ s.take p.length = p)))) w) :
    Calls Tryd.prog 38 #[str s, str p] w R := by
  have HR := Lib.hid hR
  clear hR
  refine C.calls (args := [str s, str p]) Tryd.func38 rfl rfl rfl ?_
  have e0 : str s = .string ⟨s.toArray⟩ := rfl
  have e1 : str p = .string ⟨p.toArray⟩ := rfl
  rw [e0, e1]
  clear e0 e1
  refine go ?_
  cases hle : decide ((p.length : Int) ≤ s.length)
  · have hn : ¬ p.length ≤ s.length := by simpa using hle
    refine go ?_
    refine A.r1 ?_
    have := HR.out
    rw [decide_eq_false (fun h => hn h.1)] at this
    exact this
  · have hn : p.length ≤ s.length := by simpa using hle
    refine go ?_
    refine E.sls p.length ?_ Tryd.underlying9
    refine go ?_
    refine A.r1 ?_
    have := HR.out
    have e : decide (p.length ≤ s.length ∧ s.take p.length = p) = decide (s.take p.length = p) := by simp [hn]
    rw [e] at this
    exact this
set_option maxHeartbeats 1600000 in
set_option maxRecDepth 100000 in
theorem hasPrefix_any {R : Ending → World → Prop} {w : World} {s p : List UInt8} (hsl : s.length ≤ 1000000000) (hpl : p.length ≤ 1000000000)
    (hR : R (.returned (.bool (decide (p.length ≤ s.length ∧ s.take p.length = p)))) w) :
    Calls Tryd.prog 20 #[str s, str p] w R := by
  have HR := Lib.hid hR
  clear hR
  refine C.calls (args := [str s, str p]) Tryd.func20 rfl rfl rfl ?_
  refine go ?_
  refine E.callf Tryd.func38 rfl ?_
  refine hasPrefix_lite hsl hpl ?_
  refine go ?_
  refine A.r1 ?_
  exact HR.out

theorem hasPrefix_is {R : Ending → World → Prop} {w : World} {s p : List UInt8} (b : Bool) (hb : (decide (s.length ≤ 1000000000) && decide (p.length ≤ 1000000000) && (decide (p.length ≤ s.length ∧ s.take p.length = p) == b)) = true)
    (hR : R (.returned (.bool b)) w) : Calls Tryd.prog 20 #[str s, str p] w R := by
  simp only [Bool.and_eq_true, decide_eq_true_eq, beq_iff_eq] at hb
  refine hasPrefix_any hb.1.1 hb.1.2 ?_
  rw [hb.2]
  exact hR

set_option maxHeartbeats 1600000 in
set_option maxRecDepth 100000 in
theorem cutPrefix_lite {R : Ending → World → Prop} {w : World} {s p : List UInt8} (hsl : s.length ≤ 1000000000) (hpl : p.length ≤ 1000000000)
    (hR : R (.returned (.tuple #[str (if p.length ≤ s.length ∧ s.take p.length = p then s.drop p.length else s), .bool (decide (p.length ≤ s.length ∧ s.take p.length = p))])) w) :
    Calls Tryd.prog 25 #[str s, str p] w R := by
  have HR := Lib.hid hR
  clear hR
  have e0 : str s = .string ⟨s.toArray⟩ := rfl
  have e1 : str p = .string ⟨p.toArray⟩ := rfl
  rw [e0, e1]
  clear e0 e1
  refine C.calls (args := [.string ⟨s.toArray⟩, .string ⟨p.toArray⟩]) Tryd.func25 rfl rfl rfl ?_
  refine go ?_
  refine E.callf Tryd.func38 rfl ?_
  refine hasPrefix_lite hsl hpl ?_
  cases hd : decide (p.length ≤ s.length ∧ s.take p.length = p) with
  | true =>
    have hd' := of_decide_eq_true hd
    refine go ?_
    refine E.pv (Pv.sfrom Tryd.underlying9 p.length hd'.1) ?_
    refine go ?_
    refine A.r2 ?_
    have := HR.out
    rw [hd, if_pos hd'] at this
    exact this
  | false =>
    have hd' := of_decide_eq_false hd
    refine go ?_
    refine A.r2 ?_
    have := HR.out
    rw [hd, if_neg hd'] at this
    exact this
set_option maxHeartbeats 1600000 in
set_option maxRecDepth 100000 in
theorem cutPrefix_any {R : Ending → World → Prop} {w : World} {s p : List UInt8} (hsl : s.length ≤ 1000000000) (hpl : p.length ≤ 1000000000)
    (hR : R (.returned (.tuple #[str (if p.length ≤ s.length ∧ s.take p.length = p then s.drop p.length else s), .bool (decide (p.length ≤ s.length ∧ s.take p.length = p))])) w) :
    Calls Tryd.prog 11 #[str s, str p] w R := by
  have HR := Lib.hid hR
  clear hR
  refine C.calls (args := [str s, str p]) Tryd.func11 rfl rfl rfl ?_
  refine go ?_
  refine E.callf Tryd.func25 rfl ?_
  refine cutPrefix_lite hsl hpl ?_
  refine go ?_
  refine A.r2 ?_
  exact HR.out

theorem cutPrefix_has {R : Ending → World → Prop} {w : World} {p r : List UInt8} (hl : (p ++ r).length ≤ 1000000000) (hR : R (.returned (.tuple #[str r, .bool true])) w) : Calls Tryd.prog 11 #[str (p ++ r), str p] w R := by
  have h : p.length ≤ (p ++ r).length ∧ (p ++ r).take p.length = p := ⟨by rw [List.length_append]; omega, List.take_left⟩
  refine cutPrefix_any hl (by omega) ?_
  rw [if_pos h, decide_eq_true h, List.drop_left]
  exact hR

/-- The place of a byte: how many stand ahead of the first one; none: -1. -/
def ixB (c : UInt8) : List UInt8 → Int
  | [] => -1
  | x :: r => if x = c then 0 else if ixB c r < 0 then -1 else ixB c r + 1
theorem ixB_ge (c : UInt8) : ∀ (l : List UInt8), -1 ≤ ixB c l ∧ ixB c l < l.length
  | [] => by simp [ixB]
  | x :: r => by
    have := ixB_ge c r
    simp only [ixB, List.length_cons]
    split
    · omega
    · split <;> omega
theorem firstIdx_go (c : UInt8) : ∀ (l pre : List UInt8), ((List.range' pre.length l.length).find? fun i => (ByteArray.mk (pre ++ l).toArray)[i]! == c) = if ixB c l < 0 then none else some (pre.length + (ixB c l).toNat)
  | [], pre => by simp [ixB]
  | x :: r, pre => by
    have h1 : (ByteArray.mk (pre ++ x :: r).toArray)[pre.length]! = x := by
      have hlt : pre.length < (pre ++ x :: r).length := by simp
      rw [getElem!_pos _ _ (by rw [ba_size]; exact hlt), ba_get _ _ hlt]
      simp
    have ih := firstIdx_go c r (pre ++ [x])
    simp only [List.length_append, List.length_cons, List.length_nil, List.append_assoc, List.cons_append, List.nil_append] at ih
    rw [List.length_cons, List.range'_succ, List.find?_cons, h1]
    by_cases hx : x = c
    · have e : ixB c (x :: r) = 0 := by simp [ixB, hx]
      rw [e]
      simp [hx]
    · have hb := ixB_ge c r
      have hne : (x == c) = false := by simpa using hx
      simp only [Nat.zero_add] at ih
      rw [hne]
      simp only
      rw [ih]
      by_cases hn : ixB c r < 0
      · have e : ixB c (x :: r) = -1 := by simp [ixB, hx, hn]
        rw [e, if_pos hn]
        rfl
      · have e : ixB c (x :: r) = ixB c r + 1 := by simp [ixB, hx, hn]
        rw [e, if_neg hn, if_neg (by omega)]
        congr 1
        omega
theorem firstIdx_ix (l : List UInt8) (c : UInt8) : Go.firstIdx ⟨l.toArray⟩ c = ixB c l := by
  have h := firstIdx_go c l []
  simp only [List.length_nil, List.nil_append, Nat.zero_add] at h
  unfold Go.firstIdx
  rw [ba_size, List.range_eq_range', h]
  have hb := ixB_ge c l
  split
  · rename_i i hi
    split at hi
    · cases hi
    · simp only [Option.some.injEq] at hi
      omega
  · rename_i hi
    split at hi
    · omega
    · cases hi

set_option maxHeartbeats 1600000 in
set_option maxRecDepth 100000 in
theorem indexByte_any {R : Ending → World → Prop} {w : World} {s : List UInt8} {c : UInt8} (hR : R (.returned (.int .i64 (ixB c s))) w) :
    Calls Tryd.prog 58 #[str s, .int .u8 (c.toNat : Int)] w R := by
  have HR := Lib.hid hR
  clear hR
  have e0 : str s = .string ⟨s.toArray⟩ := rfl
  rw [e0]
  clear e0
  refine C.calls (args := [.string ⟨s.toArray⟩, .int .u8 (c.toNat : Int)]) Tryd.func58 rfl rfl rfl ?_
  refine go ?_
  have hr := Go.run_indexByte_string (P := Tryd.prog) ⟨s.toArray⟩ (c.toNat : Int) w
  have ec : ((c.toNat : Int).toNat.toUInt8) = c := by simp
  rw [ec, firstIdx_ix] at hr
  refine E.ext Tryd.func66 (ex := Extern.BytealgIndexByte.indexByte) hr ?_
  refine go ?_
  refine A.r1 ?_
  exact HR.out
set_option maxHeartbeats 1600000 in
set_option maxRecDepth 100000 in
theorem index1_any {R : Ending → World → Prop} {w : World} {s : List UInt8} {c : UInt8} (hs1 : s.length ≤ 1000000000) (hR : R (.returned (.int .i64 (ixB c s))) w) :
    Calls Tryd.prog 41 #[str s, str [c]] w R := by
  have HR := Lib.hid hR
  clear hR
  have e0 : str s = .string ⟨s.toArray⟩ := rfl
  have e1 : str [c] = .string ⟨[c].toArray⟩ := rfl
  rw [e0, e1]
  clear e0 e1
  refine C.calls (args := [.string ⟨s.toArray⟩, .string ⟨[c].toArray⟩]) Tryd.func41 rfl rfl rfl ?_
  refine go ?_
  cases he : decide ([c] = s) with
  | true =>
    have he := of_decide_eq_true he
    subst he
    refine go ?_
    refine A.r1 ?_
    have := HR.out
    simp only [ixB, if_true] at this
    exact this
  | false =>
    refine go ?_
    refine E.sidx (l := [c]) Tryd.underlying9 0 (by simp) ?_
    refine E.callf Tryd.func58 rfl ?_
    refine indexByte_any (s := s) (c := c) ?_
    refine go ?_
    refine A.r1 ?_
    exact HR.out

end Go.Proofs.YtlcdndlgjemmfaaDoor

/-
  Numbers as words: FormatUint to base sixteen, Itoa of small ones; zeros.
-/
namespace Go.Proofs.YtlcdndlgjemmfaaDoor
open Go.RowKit
set_option linter.unusedVariables false
set_option linter.unusedSimpArgs false

set_option maxHeartbeats 1600000 in
set_option maxRecDepth 100000 in
theorem formatUintI_any {R : Ending → World → Prop} {W w : World} {g : Hl} {H : List HP} {m : Nat} (hg : Gl g) (hm : m < 18446744073709551616) (hs : Sat W w g H)
    (hR : ∀ w', Sat W w' g H → R (.returned (str (hexN m))) w') : Calls Tryd.prog 18 #[.int .u64 m, .int .i64 16] w R := by
  have HR := Lib.hid hR
  clear hR
  refine C.calls (args := [.int .u64 m, .int .i64 16]) Tryd.func18 rfl rfl rfl ?_
  refine go ?_
  refine E.callf Tryd.func35 rfl ?_
  refine formatBits_any hg hm hs ?_
  intro w2 hs
  refine go ?_
  refine A.r1 ?_
  exact HR.out _ hs
set_option maxHeartbeats 1600000 in
set_option maxRecDepth 100000 in
theorem formatUint_any {R : Ending → World → Prop} {W w : World} {g : Hl} {H : List HP} {m : Nat} (hg : Gl g) (hm : m < 18446744073709551616) (hs : Sat W w g H)
    (hR : ∀ w', Sat W w' g H → R (.returned (str (hexN m))) w') : Calls Tryd.prog 9 #[.int .u64 m, .int .i64 16] w R := by
  have HR := Lib.hid hR
  clear hR
  refine C.calls (args := [.int .u64 m, .int .i64 16]) Tryd.func9 rfl rfl rfl ?_
  refine go ?_
  refine E.callf Tryd.func18 rfl ?_
  refine formatUintI_any hg hm hs ?_
  intro w2 hs
  refine go ?_
  refine A.r1 ?_
  exact HR.out _ hs

/-- A number's digits to base ten. -/
def decN (n : Nat) : List UInt8 := if n < 10 then [UInt8.ofNat (48 + n)] else decN (n / 10) ++ [UInt8.ofNat (48 + n % 10)]
termination_by n
decreasing_by omega
theorem decN_small {n : Nat} (h : n < 10) : decN n = [UInt8.ofNat (48 + n)] := by rw [decN, if_pos h]
theorem decN_two {n : Nat} (h1 : 10 ≤ n) (h2 : n < 100) : decN n = [UInt8.ofNat (48 + n / 10), UInt8.ofNat (48 + n % 10)] := by
  rw [decN, if_neg (by omega), decN_small (by omega)]
  rfl
theorem decN_len {n : Nat} (h : n < 100) : 1 ≤ (decN n).length ∧ (decN n).length ≤ 2 := by
  by_cases h1 : n < 10
  · rw [decN_small h1]; simp
  · rw [decN_two (by omega) h]; simp

set_option maxHeartbeats 1600000 in
set_option maxRecDepth 100000 in
theorem small_any {R : Ending → World → Prop} {w : World} {i : Nat} (hi : i < 100) (hR : R (.returned (str (decN i))) w) : Calls Tryd.prog 32 #[.int .i64 i] w R := by
  have HR := Lib.hid hR
  clear hR
  refine C.calls (args := [.int .i64 i]) Tryd.func32 rfl rfl rfl ?_
  refine go ?_
  refine C.cond_dec (p := (i : Int) < 10) rfl (fun h => ?_) (fun h => ?_)
  · have hi2 : i < 10 := by omega
    refine go ?_
    refine E.pv (Pv.ssub Tryd.underlying9 i (i + 1) (by omega) ?_) ?_
    · exact Nat.le_trans (show i + 1 ≤ 10 by omega) (by decide +kernel)
    refine go ?_
    refine A.r1 ?_
    refine (congrArg (fun s : List UInt8 => R (.returned (.string ⟨s.toArray⟩)) w) ?_).mpr HR.out
    rw [decN_small hi2]
    exact (fun (L : List UInt8) (hL : ∀ j : Fin 10, List.take (j.val + 1 - j.val) (List.drop j.val L) = [UInt8.ofNat (48 + j.val)]) => hL ⟨i, hi2⟩) _ (by decide +kernel)
  · have hi2 : 10 ≤ i := by omega
    refine go ?_
    refine E.pv (Pv.ssub Tryd.underlying9 (i * 2) (i * 2 + 2) (by omega) ?_) ?_
    · exact Nat.le_trans (show i * 2 + 2 ≤ 200 by omega) (by decide +kernel)
    refine go ?_
    refine A.r1 ?_
    refine (congrArg (fun s : List UInt8 => R (.returned (.string ⟨s.toArray⟩)) w) ?_).mpr HR.out
    rw [decN_two hi2 hi]
    exact (fun (L : List UInt8) (hL : ∀ j : Fin 100, 10 ≤ j.val → List.take (j.val * 2 + 2 - j.val * 2) (List.drop (j.val * 2) L) = [UInt8.ofNat (48 + j.val / 10), UInt8.ofNat (48 + j.val % 10)]) => hL ⟨i, hi⟩ hi2) _ (by decide +kernel)
set_option maxHeartbeats 1600000 in
set_option maxRecDepth 100000 in
theorem formatInt_any {R : Ending → World → Prop} {w : World} {i : Nat} (hi : i < 100) (hR : R (.returned (str (decN i))) w) : Calls Tryd.prog 49 #[.int .i64 i, .int .i64 10] w R := by
  have HR := Lib.hid hR
  clear hR
  refine C.calls (args := [.int .i64 i, .int .i64 10]) Tryd.func49 rfl rfl rfl ?_
  refine go ?_
  rw [show decide ((0 : Int) ≤ i) = true from decide_eq_true (by omega)]
  refine go ?_
  rw [show decide ((i : Int) < 100) = true from decide_eq_true (by omega)]
  refine go ?_
  refine E.callf Tryd.func32 rfl ?_
  refine small_any hi ?_
  refine go ?_
  refine A.r1 ?_
  exact HR.out
set_option maxHeartbeats 1600000 in
set_option maxRecDepth 100000 in
theorem itoaI_any {R : Ending → World → Prop} {w : World} {i : Nat} (hi : i < 100) (hR : R (.returned (str (decN i))) w) : Calls Tryd.prog 30 #[.int .i64 i] w R := by
  have HR := Lib.hid hR
  clear hR
  refine C.calls (args := [.int .i64 i]) Tryd.func30 rfl rfl rfl ?_
  refine go ?_
  refine E.callf Tryd.func49 rfl ?_
  refine formatInt_any hi ?_
  refine go ?_
  refine A.r1 ?_
  exact HR.out
set_option maxHeartbeats 1600000 in
set_option maxRecDepth 100000 in
theorem itoa_any {R : Ending → World → Prop} {w : World} {i : Nat} (hi : i < 100) (hR : R (.returned (str (decN i))) w) : Calls Tryd.prog 15 #[.int .i64 i] w R := by
  have HR := Lib.hid hR
  clear hR
  refine C.calls (args := [.int .i64 i]) Tryd.func15 rfl rfl rfl ?_
  refine go ?_
  refine E.callf Tryd.func30 rfl ?_
  refine itoaI_any hi ?_
  refine go ?_
  refine A.r1 ?_
  exact HR.out

set_option maxHeartbeats 1600000 in
set_option maxRecDepth 100000 in
theorem mul64_any {R : Ending → World → Prop} {w : World} {k : Nat} (hk : k < 65) (hR : R (.returned (.tuple #[.int .u64 0, .int .u64 k])) w) : Calls Tryd.prog 37 #[.int .u64 1, .int .u64 k] w R := by
  have HR := Lib.hid hR
  clear hR
  have ek : ((1 * k : Nat) : Int) = k := by omega
  refine C.calls (args := [.int .u64 1, .int .u64 k]) Tryd.func37 rfl rfl rfl ?_
  refine go ?_
  rw [ek]
  refine A.r2 ?_
  refine (congrArg (fun z : Int => R (.returned (.tuple #[.int .u64 z, .int .u64 (k : Int)])) w) ?_).mpr HR.out
  clear HR ek
  revert hk
  revert k
  decide +kernel
set_option maxHeartbeats 1600000 in
set_option maxRecDepth 100000 in
theorem mul_any {R : Ending → World → Prop} {w : World} {k : Nat} (hk : k < 65) (hR : R (.returned (.tuple #[.int .u64 0, .int .u64 k])) w) : Calls Tryd.prog 19 #[.int .u64 1, .int .u64 k] w R := by
  have HR := Lib.hid hR
  clear hR
  refine C.calls (args := [.int .u64 1, .int .u64 k]) Tryd.func19 rfl rfl rfl ?_
  refine go ?_
  refine E.callf Tryd.func37 rfl ?_
  refine mul64_any hk ?_
  refine go ?_
  refine A.r2 ?_
  exact HR.out
set_option maxHeartbeats 3200000 in
set_option maxRecDepth 100000 in
theorem repeat_any {R : Ending → World → Prop} {w : World} {k : Nat} (hk : k ≤ 64) (hR : R (.returned (str (List.replicate k 48))) w) : Calls Tryd.prog 10 #[str [48], .int .i64 k] w R := by
  have HR := Lib.hid hR
  clear hR
  have e0 : str [48] = .string ⟨[48].toArray⟩ := rfl
  rw [e0]
  clear e0
  refine C.calls (args := [.string ⟨[48].toArray⟩, .int .i64 k]) Tryd.func10 rfl rfl rfl ?_
  refine go ?_
  refine C.cond_dec (p := (k : Int) = 0) rfl (fun h => ?_) (fun h => ?_)
  · obtain rfl : k = 0 := by omega
    refine go ?_
    refine A.r1 ?_
    exact HR.out
  refine go ?_
  refine C.cond_dec (p := (k : Int) = 1) rfl (fun h => ?_) (fun h => ?_)
  · obtain rfl : k = 1 := by omega
    refine go ?_
    refine A.r1 ?_
    exact HR.out
  refine go ?_
  rw [show decide ((k : Int) < 0) = false from decide_eq_false (by omega)]
  refine go ?_
  refine E.callf Tryd.func19 rfl ?_
  refine mul_any (by omega) ?_
  refine go ?_
  rw [show decide (9223372036854775807 < (k : Int)) = false from decide_eq_false (by omega)]
  refine go ?_
  refine E.sidx (l := [48]) Tryd.underlying9 0 (by simp) ?_
  refine go ?_
  rw [show decide ((k : Int) ≤ 128) = true from decide_eq_true (by omega)]
  refine go ?_
  refine E.callf Tryd.func20 rfl ?_
  refine hasPrefix_is (p := [48]) false (by decide +kernel) ?_
  refine go ?_
  rw [show decide ((k : Int) ≤ 128) = true from decide_eq_true (by omega)]
  refine go ?_
  refine E.callf Tryd.func20 rfl ?_
  refine hasPrefix_is (p := [48]) false (by decide +kernel) ?_
  refine go ?_
  rw [show decide ((k : Int) ≤ 64) = true from decide_eq_true (by omega)]
  refine go ?_
  refine E.callf Tryd.func20 rfl ?_
  refine hasPrefix_is (p := [48]) true (by decide +kernel) ?_
  refine go ?_
  refine E.pv (Pv.supto Tryd.underlying9 k ?_) ?_
  · exact Nat.le_trans hk (by decide +kernel)
  refine go ?_
  refine A.r1 ?_
  refine (congrArg (fun s : List UInt8 => R (.returned (.string ⟨s.toArray⟩)) w) ?_).mpr HR.out
  exact (fun (L : List UInt8) (hL : ∀ j : Fin 65, List.take j.val L = List.replicate j.val 48) => hL ⟨k, by omega⟩) _ (by decide +kernel)
end Go.Proofs.YtlcdndlgjemmfaaDoor

/-
  Words as numbers: Atoi of a few digits, ParseUint to base sixteen; what stands ahead of a byte and behind it.
-/
namespace Go.Proofs.YtlcdndlgjemmfaaDoor
open Go.RowKit
set_option linter.unusedVariables false
set_option linter.unusedSimpArgs false

set_option maxHeartbeats 1600000 in
set_option maxRecDepth 100000 in
theorem cut_lite {R : Ending → World → Prop} {W w : World} {g : Hl} {H : List HP} {s : List UInt8} {c : UInt8} (hl : s.length ≤ 1000000000) (hs : Sat W w g H)
    (h1 : ∀ k : Nat, ixB c s = k → k < s.length → ∀ w', Sat W w' g H → R (.returned (.tuple #[str (s.take k), str (s.drop (k + 1)), .bool true])) w')
    (h2 : ixB c s < 0 → ∀ w', Sat W w' g H → R (.returned (.tuple #[str s, str [], .bool false])) w') :
    Calls Tryd.prog 26 #[str s, str [c]] w R := by
  have H1 := Lib.hid h1
  have H2 := Lib.hid h2
  clear h1 h2
  have hb := ixB_ge c s
  refine C.calls (args := [str s, str [c]]) Tryd.func26 rfl rfl rfl ?_
  refine go ?_
  refine E.callf Tryd.func41 rfl ?_
  refine index1_any hl ?_
  have e0 : str s = .string ⟨s.toArray⟩ := rfl
  have e1 : str [c] = .string ⟨[c].toArray⟩ := rfl
  rw [e0, e1]
  clear e0 e1
  refine go ?_
  refine C.cond_dec (p := (0 : Int) ≤ ixB c s) rfl (fun h => ?_) (fun h => ?_)
  · obtain ⟨k, hk⟩ := Int.eq_ofNat_of_zero_le h
    have hkl : k < s.length := by omega
    replace H1 := Lib.hid (H1.out k hk hkl)
    rw [hk]
    clear hk hb h
    refine go ?_
    refine C.held0 hs ?_
    intro w2 hk hs
    refine goh ?_
    refine EH.t0 hk ?_ (hy := Pf.pv (Pv.supto (l := s) Tryd.underlying9 k (by omega) rfl rfl rfl))
    refine goh ?_
    have ek : IntKind.i64.wrap ((k : Int) + ([c].length : Int)) = ((k + 1 : Nat) : Int) := by
      rw [show ([c].length : Int) = 1 from rfl]
      exact wrap64_id (by omega) (by omega)
    rw [ek]
    refine EH.t0 hk ?_ (hy := Pf.pv (Pv.sfrom (l := s) Tryd.underlying9 (k + 1) (by omega) rfl rfl rfl))
    refine goh ?_
    refine EH.done ?_
    refine go ?_
    refine A.r3 ?_
    exact H1.out _ hs
  · refine go ?_
    refine A.r3 ?_
    exact H2.out (by omega) _ hs

/-- The value of some digits. -/
def decV (l : List UInt8) : Nat := l.foldl (fun a c => a * 10 + (c.toNat - 48)) 0
def digB (c : UInt8) : Bool := decide (48 ≤ c.toNat) && decide (c.toNat ≤ 57)
theorem decV_lt : ∀ (l : List UInt8) (a : Nat), l.all digB = true → l.foldl (fun a c => a * 10 + (c.toNat - 48)) a < (a + 1) * 10 ^ l.length
  | [], a, _ => by simp
  | c :: l, a, h => by
    simp only [List.all_cons, Bool.and_eq_true, digB, decide_eq_true_eq] at h
    have := decV_lt l (a * 10 + (c.toNat - 48)) (by simpa [digB] using h.2)
    refine Nat.lt_of_lt_of_le this ?_
    rw [List.length_cons, Nat.pow_succ, Nat.mul_comm (10 ^ l.length) 10, ← Nat.mul_assoc]
    exact Nat.mul_le_mul_right _ (by omega)
theorem decV_decN {n : Nat} (h : n < 100) : decV (decN n) = n ∧ (decN n).all digB = true := by
  by_cases h1 : n < 10
  · rw [decN_small h1]
    exact (by decide +kernel : ∀ j : Fin 10, decV [UInt8.ofNat (48 + j.val)] = j.val ∧ [UInt8.ofNat (48 + j.val)].all digB = true) ⟨n, h1⟩
  · rw [decN_two (by omega) h]
    exact (by decide +kernel : ∀ j : Fin 100, decV [UInt8.ofNat (48 + j.val / 10), UInt8.ofNat (48 + j.val % 10)] = j.val ∧ [UInt8.ofNat (48 + j.val / 10), UInt8.ofNat (48 + j.val % 10)].all digB = true) ⟨n, h⟩

set_option maxHeartbeats 3200000 in
set_option maxRecDepth 100000 in
theorem atoiI_any {R : Ending → World → Prop} {W w : World} {g : Hl} {H : List HP} {l : List UInt8} (h1 : 1 ≤ l.length) (h2 : l.length ≤ 18) (hd : l.all digB = true) (hs : Sat W w g H)
    (hR : ∀ w' g', Hl.le g g' → Sat W w' g' H → R (.returned (.tuple #[.int .i64 (decV l), .nilIface])) w') : Calls Tryd.prog 27 #[str l] w R := by
  have HR := Lib.hid hR
  clear hR
  have e0 : str l = .string ⟨l.toArray⟩ := rfl
  rw [e0]
  clear e0
  have hdig : ∀ k (h : k < l.length), 48 ≤ l[k].toNat ∧ l[k].toNat ≤ 57 := fun k h => by
    have := List.all_eq_true.1 hd l[k] (List.getElem_mem h)
    simpa [digB] using this
  refine C.calls (args := [.string ⟨l.toArray⟩]) Tryd.func27 rfl rfl rfl ?_
  refine go ?_
  rw [show decide ((0 : Int) < l.length) = true from decide_eq_true (by omega)]
  refine go ?_
  rw [show decide ((l.length : Int) < 19) = true from decide_eq_true (by omega)]
  refine go ?_
  have h0 := hdig 0 (by omega)
  refine E.sidx (l := l) Tryd.underlying9 0 (by omega) ?_
  refine go ?_
  rw [show decide ((l[0].toNat : Int) = 45) = false from decide_eq_false (by omega)]
  refine go ?_
  refine E.sidx (l := l) Tryd.underlying9 0 (by omega) ?_
  refine go ?_
  rw [show decide ((l[0].toNat : Int) = 43) = false from decide_eq_false (by omega)]
  refine go ?_
  refine E.bytes (l := l) Tryd.underlying9 Tryd.underlying49 Tryd.underlying5 hs (by omega) ?_
  intro b c w1 g1 hg1 hs hp
  refine gob ?_
  refine C.cut (fun _ : Unit => [(0, .string ⟨l.toArray⟩), (5, .string ⟨l.toArray⟩), (6, .int .i64 (decV l))]) (fun _ w => Sat W w g1 H) ?_ ?_
  · refine C.block ?_
    refine C.lp (fun i : Nat => [(0, .string ⟨l.toArray⟩), (5, .string ⟨l.toArray⟩), (6, .int .i64 (decV (l.take i))), (47, .slice (some ⟨b, 0, none⟩) l.length c), (48, .int .i64 l.length), (49, .int .i64 i)])
      (fun gk i w => gk = l.length - i ∧ i ≤ l.length ∧ Sat W w g1 H) l.length 0 ⟨rfl, Nat.zero_le _, hs⟩ ?_
    clear hs
    rintro gk i w2 ⟨rfl, hi, hs⟩
    refine go ?_
    refine C.cond_dec (p := (i : Int) < l.length) rfl (fun h => ?_) (fun h => ?_)
    · have hil : i < l.length := by omega
      have hdi := hdig i hil
      have hc3 : w2.cell? ⟨b, i, none⟩ = some (.int .u8 (l[i].toNat : Int)) := by
        have := ((hp.row hs).cellAt rfl (bs_get hil)).2
        simpa using this
      refine go ?_
      have ew : IntKind.u8.wrap ((l[i].toNat : Int) - 48) = ((l[i].toNat - 48 : Nat) : Int) := by
        rw [show ((l[i].toNat : Int) - 48) = ((l[i].toNat - 48 : Nat) : Int) by omega]
        exact wrapu8_id (by omega) (by omega)
      rw [ew]
      rw [show decide ((9 : Int) < ((l[i].toNat - 48 : Nat) : Int)) = false from decide_eq_false (by omega)]
      have hdv : decV (l.take (i + 1)) = decV (l.take i) * 10 + (l[i].toNat - 48) := by
        unfold decV
        rw [List.take_succ_eq_append_getElem hil, List.foldl_append]
        rfl
      have hlt : decV (l.take (i + 1)) < 1000000000000000000 := by
        have h1 := decV_lt (l.take (i + 1)) 0 (List.all_eq_true.2 fun x hx => List.all_eq_true.1 hd x (List.mem_of_mem_take hx))
        have h2 : (l.take (i + 1)).length ≤ 18 := by rw [List.length_take]; omega
        have h3 : 10 ^ (l.take (i + 1)).length ≤ 10 ^ 18 := Nat.pow_le_pow_right (by decide) h2
        unfold decV
        omega
      refine go ?_
      rw [show ((decV (l.take i) : Int) * 10 + ((l[i].toNat - 48 : Nat) : Int)) = ((decV (l.take (i + 1)) : Nat) : Int) by omega]
      exact A.rd (l.length - (i + 1)) (i + 1) ⟨rfl, by omega, hs⟩
    · obtain rfl : i = l.length := by omega
      refine go ?_
      refine A.mt () hs (hw := ?_)
      rw [List.take_length]
      exact wk_
  clear hs
  rintro _ w4 hs
  refine go ?_
  refine E.sidx (l := l) Tryd.underlying9 0 (by omega) ?_
  refine go ?_
  rw [show decide ((l[0].toNat : Int) = 45) = false from decide_eq_false (by omega)]
  refine go ?_
  refine A.r2 ?_
  exact HR.out _ g1 hg1 hs

end Go.Proofs.YtlcdndlgjemmfaaDoor
