/-
  The stepping engine: calls through an interface; functions without a body; a map's copy.
-/
import Derived.Test.YthnnhhjecgkplaaGreatDoorM02
import Derived.Laws.Externs
import Derived.Lib.ConvBytes
import Derived.Laws.Cover2
import Derived.Test.YthnnhhjecgkplaaGreatDoorProg
namespace Go.Proofs.YthnnhhjecgkplaaGreatDoor
open Go.RowKit
set_option linter.unusedVariables false
set_option linter.unusedSimpArgs false
set_option linter.unusedSectionVars false

section
variable {P : Program} {n : Fm} {ρ ρ' : List (Nat × Value)} {W w w' : World} {g g' : Hl} {H H' : List HP} {Q : Exit → Act → World → Prop} {ops : Array Oper} {rest : List Oper} {d : Option Tmp} {ty : TypeId} {ps : String} {af : Array Edge} {v u : Value} {x y : Operand} {N : List (Nat × Value) → World → Prop} {t e : TypeId}

/-- A call through an interface. -/
theorem St.inv {f : FuncId} {recv : Operand} {name : String} {xs : Array Operand} {ts : Array TypeId} {vs : List Value} {rv : Value} {fn : Func} {c : Code}
    (hf : P.funcs[f]? = some fn) (hm : (method (P.types.size + Made.depth) t u name).run P w = .ok (f, rv) w) (h : Calls P f (rv :: vs).toArray w (Ret n d ρ N Q))
    (hv : evo n ρ recv = some (.iface t u) := by exact rfl) (hx : evs n ρ xs.toList = some vs := by exact rfl) (hb : fn.body = some c := by exact rfl) (hnm : (fn.name == "runtime.NumGoroutine") = false := by exact rfl) :
    St P n ops ⟨d, .call ⟨.invoke recv name, xs, ts⟩, ty, ps, af, none⟩ ρ w N Q := St.mk fun a ha K hK => by
  rw [if_pos wanted_none]
  unfold Oper.wp
  have hnm' : ¬ fn.name = "runtime.NumGoroutine" := by simpa using hnm
  have hr : (execOp a.eval ⟨d, .call ⟨.invoke recv name, xs, ts⟩, ty, ps, af, none⟩).run P w = .ok (.enter f (rv :: vs).toArray) w := by
    simp only [execOp, resolve, ha.eval hv, ha.args hx]
    simp [invoke, callMethod, hm, callFunc, hf, hnm', hb, Result.andThen]
  rw [hr]
  refine h.mono fun e w' hq => ?_
  cases e with
  | returned v => exact hK _ _ _ hq (ha.put _ _)
  | panicked ch => exact A.use hq ha
  | outgrown => exact hq
theorem E.inv {f : FuncId} {recv : Operand} {name : String} {xs : Array Operand} {ts : Array TypeId} {vs : List Value} {rv : Value} {fn : Func} {c : Code}
    (hf : P.funcs[f]? = some fn) (hm : (method (P.types.size + Made.depth) t u name).run P w = .ok (f, rv) w) (h : Calls P f (rv :: vs).toArray w (Ret n d ρ (fun ρ' w' => E P n ops rest ρ' w' Q) Q))
    (hv : evo n ρ recv = some (.iface t u) := by exact rfl) (hx : evs n ρ xs.toList = some vs := by exact rfl) (hb : fn.body = some c := by exact rfl) (hnm : (fn.name == "runtime.NumGoroutine") = false := by exact rfl) :
    E P n ops (⟨d, .call ⟨.invoke recv name, xs, ts⟩, ty, ps, af, none⟩ :: rest) ρ w Q := E.cons (St.inv hf hm h hv hx hb hnm)

theorem run_typeInfo_some {i : TypeInfo} (h : P.info? t = some i) (w : World) : (typeInfo t).run P w = .ok i w := by simp [typeInfo, h]
/-- What an interface's row of methods says. -/
def MethOf (P : Program) (t : TypeId) (name : String) (f : FuncId) (byPtr : Bool) : Prop := ∃ i m, P.info? t = some i ∧ i.methods.find? (·.name == name) = some m ∧ m.path = #[] ∧ m.func = some (f, byPtr)
theorem MethOf.mk {name : String} {f : FuncId} {byPtr : Bool} (h : ((P.info? t).bind fun i => (i.methods.find? (·.name == name)).map fun m => (m.path.toList.isEmpty, m.func)) = some (true, some (f, byPtr))) : MethOf P t name f byPtr := by
  obtain ⟨i, hi, h⟩ := Option.bind_eq_some_iff.1 h
  obtain ⟨m, hm, h⟩ := Option.map_eq_some_iff.1 h
  simp only [Prod.mk.injEq] at h
  refine ⟨i, m, hi, hm, ?_, h.2⟩
  have := h.1
  simpa [List.isEmpty_iff] using this
/-- A method of the pointer itself. -/
theorem run_meth_ptr {name : String} {f : FuncId} {a : Option Addr} (h : MethOf P t name f true) (ht : P.underlying t = some (.pointer e)) (w : World) : (method (P.types.size + Made.depth) t (.pointer a) name).run P w = .ok (f, .pointer a) w := by
  obtain ⟨i, m, hi, hm, hp, hfn⟩ := h
  have e : P.types.size + Made.depth = (P.types.size + 99) + 1 := rfl
  rw [e]
  unfold method
  simp only [Sem.run_bind, run_typeInfo_some hi, Result.andThen_ok, hm, hp, follow, Sem.run_pure, hfn]
  unfold receiverAt
  simp only [Sem.run_bind, run_underlying ht, Result.andThen_ok, Place.get, Sem.run_pure]
theorem wrapNil {ts : Array TypeId} {t : TypeId} {a : Addr} {s m : ByteArray} : Builtin.ssaWrapNilChk_ ts t #[.pointer (some a), .string s, .string m] = pure (.pointer (some a)) := rfl
/-- A method of what it points to. -/
theorem run_meth_val {name : String} {f : FuncId} {a : Addr} (h : MethOf P t name f false) (ht : P.underlying t = some (.pointer e)) {w : World} (hl : (loadVar e a).run P w = .ok v w) : (method (P.types.size + Made.depth) t (.pointer (some a)) name).run P w = .ok (f, v) w := by
  obtain ⟨i, m, hi, hm, hp, hfn⟩ := h
  have e : P.types.size + Made.depth = (P.types.size + 99) + 1 := rfl
  rw [e]
  unfold method
  simp only [Sem.run_bind, run_typeInfo_some hi, Result.andThen_ok, hm, hp, follow, Sem.run_pure, hfn]
  unfold receiverAt
  simp only [Sem.run_bind, run_underlying ht, Result.andThen_ok, Place.get, Sem.run_pure, Array.isEmpty_empty, if_true, strVal, wrapNil, asAddr, hl]

/-- A function without a body, that the model knows. -/
theorem E.ext {f : FuncId} {xs : Array Operand} {ts : Array TypeId} {vs : List Value} {fn : Func} {ex : Array Value → Sem Value} (hf : P.funcs[f]? = some fn) (hr : (ex vs.toArray).run P w = .ok v w') (h : E P n ops rest (pushv d v ρ) w' Q) (hx : evs n ρ xs.toList = some vs := by exact rfl)
    (hnm : (fn.name == "runtime.NumGoroutine") = false := by exact rfl) (hb : fn.body.isNone = true := by exact rfl) (hn : Extern.findNext fn = none := by kernel_rfl) (he : Extern.find fn = some ex := by kernel_rfl) :
    E P n ops (⟨d, .call ⟨.value (.func f), xs, ts⟩, ty, ps, af, none⟩ :: rest) ρ w Q := E.cons (St.val (fun a ha => by
  simp only [execOp, resolve, Act.eval, ha.args hx]
  simp [Deferred.ofValue, invoke, run_callFunc_extern hf hnm hb hn he, hr, Result.andThen]) h)
end

section
variable {P : Program} {n : Fm} {ρ ρ' : List (Nat × Value)} {W w w' : World} {g g' : Hl} {H H' : List HP} {Q : Exit → Act → World → Prop} {l : List Oper} {S : World → Prop} {fuel m i : Nat} {d : Option Tmp} {ty : TypeId} {ps : String} {af : Array Edge} {v u : Value} {x y : Operand} {b j k : Nat} {xs : List Value} {e t : TypeId}
/-- In a drawn region: the one operation that may come up. -/
theorem EH.bsl {parts : Array (Nat × Operand)} {vs : List (Nat × Value)} {cs : List Value} (hs : Sat W w g H) (h : ∀ b w', Sat W w' g (blk b cs e :: H) → S w' ∧ EH P n l S fuel (bset m i) (pushv d (.slice (some ⟨b, 0, none⟩) k k) ρ) w' Q)
    (hr : rdy m l.length 0 l = [i] := by exact rfl) (hi : nth l i = some ⟨d, .buildSlice t k parts, ty, ps, af, none⟩ := by exact rfl) (hx : evp n ρ parts.toList = some vs := by exact rfl) (hrun : (Instr.buildSlice t k vs.toArray).run P w = .ok (.slice (some ⟨w.heap.size, 0, none⟩) k k) (w.alloc (.cells cs.toArray e)) := by go_simp; first | done | exact rfl | exact ⟨rfl, rfl⟩) :
    EH P n l S (fuel + 1) m ρ w Q := EH.one (St.buildSlice hs hx hrun h) hr hi
theorem EH.orb {oi : Oper} {i1 : Nat} {parts : Array (Nat × Operand)} {vs : List (Nat × Value)} {cs : List Value} (hs : Sat W w g H) (h1 : St P n l.toArray oi ρ w (fun ρ' w' => S w' ∧ EH P n l S fuel (bset m i1) ρ' w' Q) Q) (h : ∀ b w', Sat W w' g (blk b cs e :: H) → S w' ∧ EH P n l S fuel (bset m i) (pushv d (.slice (some ⟨b, 0, none⟩) k k) ρ) w' Q)
    (hr : rdy m l.length 0 l = [i1, i] := by exact rfl) (ho : nth l i1 = some oi := by exact rfl) (hi : nth l i = some ⟨d, .buildSlice t k parts, ty, ps, af, none⟩ := by exact rfl) (hx : evp n ρ parts.toList = some vs := by exact rfl) (hrun : (Instr.buildSlice t k vs.toArray).run P w = .ok (.slice (some ⟨w.heap.size, 0, none⟩) k k) (w.alloc (.cells cs.toArray e)) := by go_simp; first | done | exact rfl | exact ⟨rfl, rfl⟩) :
    EH P n l S (fuel + 1) m ρ w Q := EH.two h1 (St.buildSlice hs hx hrun h) hr ho hi
/-- Three blocks are held. -/
theorem C.held3 {id : Nat} (b1 b2 b3 : Nat) {x1 x2 x3 : List Value} {e1 e2 e3 : TypeId} (hs : Sat W w g H) (h : ∀ w', Keeps g [(b1, x1, e1), (b2, x2, e2), (b3, x3, e3)] w' → Sat W w' g H → EH P n l (Keeps g [(b1, x1, e1), (b2, x2, e2), (b3, x3, e3)]) l.length 0 ρ w' Q) (h1 : Fd H b1 x1 e1 := by exact fd_) (h2 : Fd H b2 x2 e2 := by exact fd_) (h3 : Fd H b3 x3 e3 := by exact fd_) (hm : P.follows .mixedOrders = true := by kernel_rfl) : C P n (.region id l.toArray true) ρ w Q :=
  C.held _ hs (fun w' hs' => h w' ((((Keeps.of0 hs').ofs hs' h3).ofs hs' h2).ofs hs' h1) hs') hm
theorem kept3 {G : Prop} {b1 b2 b3 : Nat} {x1 x2 x3 : List Value} {e1 e2 e3 : TypeId} (hs : Sat W w g' H) (h : Keeps g [(b1, x1, e1), (b2, x2, e2), (b3, x3, e3)] w → G) (hg : Hl.le g g' := by first | exact Hl.le_refl _ | assumption | exact Hl.le.trans (by assumption) (by assumption)) (h1 : Fd H b1 x1 e1 := by exact fd_) (h2 : Fd H b2 x2 e2 := by exact fd_) (h3 : Fd H b3 x3 e3 := by exact fd_) : Keeps g [(b1, x1, e1), (b2, x2, e2), (b3, x3, e3)] w ∧ G :=
  have hk := (((Keeps.of0 hs hg).ofs hs h3).ofs hs h2).ofs hs h1
  ⟨hk, h hk⟩
/-- Two loads, in either order. -/
theorem EH.ll {b1 b2 j1 j2 i1 : Nat} {xs1 xs2 : List Value} {e1 e2 t1 t2 ty2 : TypeId} {d2 : Option Tmp} {ps2 : String} {af2 : Array Edge} {v1 v2 : Value} (hs : Sat W w g H) (hj1 : xs1[j1]? = some v1) (hj2 : xs2[j2]? = some v2)
    (h1 : S w ∧ EH P n l S fuel (bset m i1) (pushv d v1 ρ) w Q) (h2 : S w ∧ EH P n l S fuel (bset m i) (pushv d2 v2 ρ) w Q)
    (hr : rdy m l.length 0 l = [i1, i] := by exact rfl) (ho : nth l i1 = some ⟨d, .load t1 x, ty, ps, af, none⟩ := by exact rfl) (hi : nth l i = some ⟨d2, .load t2 y, ty2, ps2, af2, none⟩ := by exact rfl)
    (hx : evo n ρ x = some (.pointer (some ⟨b1, j1, none⟩)) := by exact rfl) (hy : evo n ρ y = some (.pointer (some ⟨b2, j2, none⟩)) := by exact rfl) (hf1 : Fd H b1 xs1 e1 := by exact fd_) (hf2 : Fd H b2 xs2 e2 := by exact fd_)
    (ha1 : (isAgg t1).run P w = .ok false w := by first | (go_simp; done) | fail) (ha2 : (isAgg t2).run P w = .ok false w := by first | (go_simp; done) | fail) :
    EH P n l S (fuel + 1) m ρ w Q := EH.two (St.load hs hx hf1 hj1 ha1 h1) (St.load hs hy hf2 hj2 ha2 h2) hr ho hi
theorem EH.ora {oi : Oper} {i1 : Nat} {z : Value} (hs : Sat W w g H) (h1 : St P n l.toArray oi ρ w (fun ρ' w' => S w' ∧ EH P n l S fuel (bset m i1) ρ' w' Q) Q) (h : ∀ b w', Sat W w' g (blk b xs e :: H) → S w' ∧ EH P n l S fuel (bset m i) (pushv d (.pointer (some ⟨b, 0, none⟩)) ρ) w' Q)
    (hr : rdy m l.length 0 l = [i1, i] := by exact rfl) (ho : nth l i1 = some oi := by exact rfl) (hi : nth l i = some ⟨d, .alloc e, ty, ps, af, none⟩ := by exact rfl) (hz : (zeroValue e).run P w = .ok z w := by go_simp; first | done | exact rfl | exact ⟨rfl, rfl⟩) (hx : z.cells.toList = xs := by exact nz_) :
    EH P n l S (fuel + 1) m ρ w Q := EH.two h1 (St.alloc hs hz hx h) hr ho hi
theorem EH.ba {i1 : Nat} {z : Value} {e2 ty2 : TypeId} {d2 : Option Tmp} {ps2 : String} {af2 : Array Edge} {parts : Array (Nat × Operand)} {vs : List (Nat × Value)} {cs : List Value} (hs : Sat W w g H) (h1 : ∀ b w', Sat W w' g (blk b cs e :: H) → S w' ∧ EH P n l S fuel (bset m i1) (pushv d (.slice (some ⟨b, 0, none⟩) k k) ρ) w' Q) (h : ∀ b w', Sat W w' g (blk b xs e2 :: H) → S w' ∧ EH P n l S fuel (bset m i) (pushv d2 (.pointer (some ⟨b, 0, none⟩)) ρ) w' Q)
    (hr : rdy m l.length 0 l = [i1, i] := by exact rfl) (ho : nth l i1 = some ⟨d, .buildSlice t k parts, ty, ps, af, none⟩ := by exact rfl) (hi : nth l i = some ⟨d2, .alloc e2, ty2, ps2, af2, none⟩ := by exact rfl)
    (hp : evp n ρ parts.toList = some vs := by exact rfl) (hrun : (Instr.buildSlice t k vs.toArray).run P w = .ok (.slice (some ⟨w.heap.size, 0, none⟩) k k) (w.alloc (.cells cs.toArray e)) := by go_simp; first | done | exact rfl | exact ⟨rfl, rfl⟩) (hz : (zeroValue e2).run P w = .ok z w := by go_simp; first | done | exact rfl | exact ⟨rfl, rfl⟩) (hx : z.cells.toList = xs := by exact nz_) :
    EH P n l S (fuel + 1) m ρ w Q := EH.two (St.buildSlice hs hp hrun h1) (St.alloc hs hz hx h) hr ho hi
theorem EH.al {z : Value} (hs : Sat W w g H) (h : ∀ b w', Sat W w' g (blk b xs e :: H) → S w' ∧ EH P n l S fuel (bset m i) (pushv d (.pointer (some ⟨b, 0, none⟩)) ρ) w' Q)
    (hr : rdy m l.length 0 l = [i] := by exact rfl) (hi : nth l i = some ⟨d, .alloc e, ty, ps, af, none⟩ := by exact rfl) (hz : (zeroValue e).run P w = .ok z w := by go_simp; first | done | exact rfl | exact ⟨rfl, rfl⟩) (hx : z.cells.toList = xs := by exact nz_) :
    EH P n l S (fuel + 1) m ρ w Q := EH.one (St.alloc hs hz hx h) hr hi
theorem EH.bx (hs : Sat W w g H) (h : ∀ b w', Sat W w' g (blk b xs e :: H) → S w' ∧ EH P n l S fuel (bset m i) (pushv d (.pointer (some ⟨b, 0, none⟩)) ρ) w' Q)
    (hr : rdy m l.length 0 l = [i] := by exact rfl) (hi : nth l i = some ⟨d, .box e x, ty, ps, af, none⟩ := by exact rfl) (hv : evo n ρ x = some v := by exact rfl) (hx : v.cells.toList = xs := by exact nz_) :
    EH P n l S (fuel + 1) m ρ w Q := EH.one (St.box hs hv hx h) hr hi
theorem EH.sto {vs ys : List Value} (hs : Sat W w g H) (h : ∀ w', Sat W w' g H' → S w' ∧ EH P n l S fuel (bset m i) ρ w' Q)
    (hr : rdy m l.length 0 l = [i] := by exact rfl) (hi : nth l i = some ⟨none, .store t x y, ty, ps, af, none⟩ := by exact rfl) (hx : evo n ρ x = some (.pointer (some ⟨b, j, none⟩)) := by exact rfl) (hy : evo n ρ y = some v := by exact rfl) (hv : v.cells.toList = vs := by exact nz_) (hf : Fd H b xs e := by exact fd_) (hsp : spl xs j vs = ys := by exact nz_) (hu : Up b xs ys e H H' := by exact up_) (hj : Nat.ble (j + vs.length) xs.length = true := by exact rfl) (h1 : vs.all Value.oneCell' = true := by exact rfl) (ht : (sizeOf t).run P w = .ok vs.length w := by exact sz_) :
    EH P n l S (fuel + 1) m ρ w Q := EH.one (St.store hs hx hy hv (by subst hsp; exact hu) hj h1 ht h) hr hi
theorem EH.ld (hs : Sat W w g H) (h : S w ∧ EH P n l S fuel (bset m i) (pushv d v ρ) w Q)
    (hr : rdy m l.length 0 l = [i] := by exact rfl) (hi : nth l i = some ⟨d, .load t x, ty, ps, af, none⟩ := by exact rfl) (hx : evo n ρ x = some (.pointer (some ⟨b, j, none⟩)) := by exact rfl) (hf : Fd H b xs e := by exact fd_) (hj : xs[j]? = some v := by exact rfl) (ha : (isAgg t).run P w = .ok false w := by first | (go_simp; done) | fail) :
    EH P n l S (fuel + 1) m ρ w Q := EH.one (St.load hs hx hf hj ha h) hr hi
theorem EH.app {s : Operand} {z : Value} {size bytes q c : Nat} {a : Option Addr} {news : List Value} (he : ElemOf P t e z size bytes) (hs : Sat W w g (own e size (.slice a k c) k xs :: H)) {D : Nat → Prop} (hrow : Row size w D u q news)
    (h : ∀ a' c' w', k + q ≤ c' → c' ≤ 9223372036854775807 → Sat W w' g (own e size (.slice a' (k + q) c') (k + q) (xs ++ news) :: H) → S w' ∧ EH P n l S fuel (bset m i) (pushv d (.slice a' (k + q) c') ρ) w' Q)
    (hr : rdy m l.length 0 l = [i] := by exact rfl) (hi : nth l i = some ⟨d, .call ⟨.builtin .append, #[s, y], #[t, t]⟩, ty, ps, af, none⟩ := by exact rfl) (h63 : k + q ≤ 9223372036854775807 := by omega) (hbytes : (k + q) * bytes ≤ 140737488355328 := by omega)
    (hx : evo n ρ s = some (.slice a k c) := by exact rfl) (hy : evo n ρ y = some u := by exact rfl) (h1 : ∀ x ∈ news, x.oneCell' = true := by first | exact bs_one _ | (intro u hu; simp only [List.mem_cons, List.not_mem_nil, or_false] at hu; rcases hu with rfl | rfl | rfl <;> exact rfl)) :
    EH P n l S (fuel + 1) m ρ w Q := EH.one (St.append he hs hrow h1 h63 hbytes hx hy h) hr hi
end

section
variable {P : Program} {n : Fm} {ρ : List (Nat × Value)} {W w w' : World} {g g' : Hl} {H H' : List HP} {Q : Exit → Act → World → Prop} {ops : Array Oper} {rest : List Oper} {d : Option Tmp} {ty : TypeId} {ps : String} {af : Array Edge} {v u : Value} {x y : Operand} {e t : TypeId}
/-- []byte(s): the bytes are the pool's. -/
theorem E.bytes {l : List UInt8} {dt : TypeId} (h1 : P.underlying t = some .string) (h2 : P.underlying dt = some (.slice e)) (h3 : P.underlying e = some (.int .u8)) (hs : Sat W w g H) (hl : l.length ≤ 1000000000)
    (h : ∀ b c w' g', Hl.le g g' → Sat W w' g' H → Pr 1 g' (.slice (some ⟨b, 0, none⟩) l.length c) l.length (bs l) → E P n ops rest (pushv d (.slice (some ⟨b, 0, none⟩) l.length c) ρ) w' Q) (hx : evo n ρ x = some (.string ⟨l.toArray⟩) := by exact rfl) :
    E P n ops (⟨d, .convert t dt x, ty, ps, af, none⟩ :: rest) ρ w Q := by
  have hr := Go.Lib.run_convert_string_bytes w t dt e ⟨l.toArray⟩ h1 h2 h3
  have hsz : (⟨l.toArray⟩ : ByteArray).size = l.length := by simp [ByteArray.size]
  rw [hsz] at hr
  have hn : Sat W (Go.Lib.bytesWorld w e ⟨l.toArray⟩) g (obj w.heap.size (.cells (Go.Lib.bytesCells w e ⟨l.toArray⟩) e ((Go.Lib.bytesCells w e ⟨l.toArray⟩).size, (Go.Lib.bytesCells w e ⟨l.toArray⟩).size + 1)) :: H) := by
    refine hs.new (Nat.le_refl _) ?_ ?_ ?_ (fun k hk => Go.Lib.bytesWorld_at_old w e _ k hk) (Go.Lib.bytesWorld_at_new w e _)
    · simp [Go.Lib.bytesWorld, World.freeze, World.alloc, World.drew, -World.alloc_eq, -World.drew_eq]
    · simp [Go.Lib.bytesWorld, World.freeze, World.alloc, World.drew, -World.alloc_eq, -World.drew_eq]
    · simp [Go.Lib.bytesWorld, World.freeze, World.alloc, World.drew, -World.alloc_eq, -World.drew_eq]
  obtain ⟨h1, e1, e2, e3, hs2⟩ := hn.publish
  have e1' : h1 = Hl.one w.heap.size (.cells (Go.Lib.bytesCells w e ⟨l.toArray⟩) e ((Go.Lib.bytesCells w e ⟨l.toArray⟩).size, (Go.Lib.bytesCells w e ⟨l.toArray⟩).size + 1)) := e1
  have hcap : l.length ≤ grownCap w l.length 0 e ∧ grownCap w l.length 0 e ≤ 9223372036854775807 := by
    unfold grownCap
    simp only [Question.cut]
    have h0 : 0 < 2 ^ 63 - l.length := by omega
    generalize w.tape w.drawn (Question.appendCap l.length 0 e) = T
    have h1 := Nat.mod_lt T h0
    generalize T % (2 ^ 63 - l.length) = T' at h1 ⊢
    constructor <;> omega
  refine E.cons (St.val (v := .slice (some ⟨w.heap.size, 0, none⟩) l.length (grownCap w l.length 0 e)) (w' := Go.Lib.bytesWorld w e ⟨l.toArray⟩) (fun a ha => by simp [execOp, ha.eval hx, hr]) (h _ _ _ _ e2 hs2 ?_))
  refine ⟨by simp, some ⟨w.heap.size, 0, none⟩, grownCap w l.length 0 e, rfl, hcap.1, by unfold maxLen; omega, fun q => by simp at q, Or.inr ⟨w.heap.size, 0, _, _, _, rfl, e3 _ _ (show h1 w.heap.size = some _ from by rw [e1']; simp only [Hl.one, if_true]; rfl), ?_⟩⟩
  simp only [Go.Lib.bytesCells, List.drop_zero, Nat.mul_one, Array.toList_append, Array.toList_map, List.map_toArray]
  rw [List.take_append_of_le_length (by simp), List.take_of_length_le (by simp)]
  simp [bs]

/-! Floats. -/
/-- Is it no number? -/
def nanF (b : Nat) : Bool := Ieee.double.order b b != some .eq
theorem Pv.fne {b c : Nat} (hx : evo n ρ x = some (.float .f64 b)) (hy : evo n ρ y = some (.float .f64 c)) {s s' : TypeId} : Pv P n ρ (.binOp .neq s x y s') ty (.bool (Ieee.double.order b c != some .eq)) := Pv.binOp hx hy (fun w => by simp [eqGuard]) fun w => by
  rw [binOp_float_cmp_neq]
  rfl
theorem run_fadd {a b : Nat} (w : World) : (∃ r, Ieee.double.add a b = some r ∧ (Op.floatArith .add .f64 a b).run P w = .ok (.float .f64 r) w) ∨ (Ieee.double.add a b = none ∧ ∃ r, 9218868437227405312 < r % 9223372036854775808 ∧ r < 18446744073709551616 ∧ (Op.floatArith .add .f64 a b).run P w = .ok (.float .f64 r) w.drew) := by
  have e0 : FloatKind.f64.format.add a b = Ieee.double.add a b := rfl
  cases hh : Ieee.double.add a b with
  | some r => exact .inl ⟨r, rfl, by simp [Op.floatArith, e0, hh]⟩
  | none =>
    refine .inr ⟨rfl, (Question.nanBits .f64 a b).cut (w.tape w.drawn (.nanBits .f64 a b)), ?_, ?_, ?_⟩
    · simp only [Question.cut]
      generalize w.tape w.drawn (.nanBits .f64 a b) = T
      have h1 : T % 2 = 0 ∨ T % 2 = 1 := by omega
      have h2 : T / 2 % (2 ^ 52 - 1) < 2 ^ 52 - 1 := Nat.mod_lt _ (by decide)
      generalize T / 2 % (2 ^ 52 - 1) = q at h2 ⊢
      rcases h1 with h1 | h1 <;> rw [h1] <;> omega
    · simp only [Question.cut]
      generalize w.tape w.drawn (.nanBits .f64 a b) = T
      have h1 : T % 2 = 0 ∨ T % 2 = 1 := by omega
      have h2 : T / 2 % (2 ^ 52 - 1) < 2 ^ 52 - 1 := Nat.mod_lt _ (by decide)
      generalize T / 2 % (2 ^ 52 - 1) = q at h2 ⊢
      rcases h1 with h1 | h1 <;> rw [h1] <;> omega
    · simp [Op.floatArith, e0, hh, Question.forced]
/-- A sum of floats. -/
theorem E.fadd {s s' : TypeId} {a b : Nat} (hs : Sat W w g H) (h : ∀ r w', Sat W w' g H → (Ieee.double.add a b = some r ∨ Ieee.double.add a b = none ∧ 9218868437227405312 < r % 9223372036854775808 ∧ r < 18446744073709551616) → E P n ops rest (pushv d (.float .f64 r) ρ) w' Q)
    (hx : evo n ρ x = some (.float .f64 a) := by exact rfl) (hy : evo n ρ y = some (.float .f64 b) := by exact rfl) : E P n ops (⟨d, .binOp .add s x y s', ty, ps, af, none⟩ :: rest) ρ w Q := by
  rcases run_fadd (P := P) (a := a) (b := b) w with ⟨r, h1, h2⟩ | ⟨h1, r, h3, h4, h2⟩
  · refine E.cons (St.val (w' := w) (fun ac ha => ?_) (h r w hs (.inl h1)))
    simp [execOp, ha.eval hx, ha.eval hy, eqGuard, binOp, h2]
  · refine E.cons (St.val (w' := w.drew) (fun ac ha => ?_) (h r w.drew hs.drew (.inr ⟨h1, h3, h4⟩)))
    simp [execOp, ha.eval hx, ha.eval hy, eqGuard, binOp, h2]
theorem nan_rung {r : Nat} (h : 9218868437227405312 < r % 9223372036854775808) : nanF r = true := by
  have hr : ∃ s t, Ieee.double.read r = .nan s t := by
    have e1 : Ieee.double.signWeight = 9223372036854775808 := by decide
    have e2 : Ieee.double.binade = 4503599627370496 := by decide
    have e3 : Ieee.double.infRung = 9218868437227405312 := by decide
    refine ⟨r / 9223372036854775808 % 2 == 1, r % 9223372036854775808 - 9218868437227405312, ?_⟩
    unfold Ieee.Format.read
    simp only [e1, e2, e3]
    rw [if_neg (by omega), if_neg (by omega), if_neg (by omega)]
  obtain ⟨s, t, hr⟩ := hr
  simp only [nanF, Ieee.Format.order, hr, Ieee.Datum.order]
  rfl
end

section
variable {P : Program} {n : Fm} {ρ : List (Nat × Value)} {w : World} {Q : Exit → Act → World → Prop} {ops : Array Oper} {rest : List Oper} {d : Option Tmp} {ty : TypeId} {ps : String} {af : Array Edge} {x y : Operand} {e t : TypeId}
/-- &a[j] of an array in memory, an element of one cell. -/
theorem run_index_arr {b o j m : Nat} {kd : IntKind} {i : Int} (ht : P.underlying t = some (.array m e)) (hq : ∀ w, (sizeOf e).run P w = .ok 1 w) (hi : i = (j : Int)) (hj : j < m) (w : World) : (Instr.indexAt t (.pointer (some ⟨b, o, none⟩)) (.int kd i)).run P w = .ok (.pointer (some ⟨b, o + j, none⟩)) w := by
  subst hi
  simp [Instr.indexAt, run_underlying ht, asIntOf, hq, go_sem, hj, Addr.add_lit]
theorem E.ixa {b o m : Nat} {kd : IntKind} {i : Int} (j : Nat) (ht : P.underlying t = some (.array m e)) (h : E P n ops rest (pushv d (.pointer (some ⟨b, o + j, none⟩)) ρ) w Q) (hq : ∀ w, (sizeOf e).run P w = .ok 1 w := by intro w; exact sz_)
    (hx : evo n ρ x = some (.pointer (some ⟨b, o, none⟩)) := by exact rfl) (hy : evo n ρ y = some (.int kd i) := by exact rfl) (hi : i = (j : Int) := by omega) (hj : j < m := by omega) : E P n ops (⟨d, .indexAddr t x y, ty, ps, af, none⟩ :: rest) ρ w Q :=
  E.pv (Pv.indexAddr hx hy (run_index_arr ht hq hi hj)) h
end

/-- What is left is walked once, for all branches that come to it: 'apply later (f := ..) (M := ..)', the branches first. -/
theorem later {α : Type} {P : Program} {n : Fm} {c : Code} {Q : Exit → Act → World → Prop} {f : α → List (Nat × Value)} {M : α → World → Prop} {G : Prop} (main : (∀ x w, M x w → C P n c (f x) w Q) → G) (key : ∀ x w, M x w → C P n c (f x) w Q) : G := main key
end Go.Proofs.YthnnhhjecgkplaaGreatDoor

/-
  The stepping engine: a slice of one struct.
-/
namespace Go.Proofs.YthnnhhjecgkplaaGreatDoor
open Go.RowKit
set_option linter.unusedVariables false
set_option linter.unusedSimpArgs false
set_option linter.unusedSectionVars false

theorem foldl_fill : ∀ (vs : List Value) (k : Nat) (pre xs : List Value), pre.length = k → xs.length = vs.length →
    (vs.zipIdx k).foldl (fun (cs : Array Value) (p : Value × Nat) => cs.setIfInBounds (0 + p.2) p.1) (pre ++ xs).toArray = (pre ++ vs).toArray
  | [], k, pre, xs, _, h => by
    obtain rfl : xs = [] := List.eq_nil_of_length_eq_zero (by simpa using h)
    rfl
  | v :: r, k, pre, x :: xs, hk, h => by
    subst hk
    simp only [List.zipIdx_cons, List.foldl_cons, Nat.zero_add]
    have e : (pre ++ x :: xs).toArray.setIfInBounds pre.length v = ((pre ++ [v]) ++ xs).toArray := by
      apply Array.ext'
      simp
    rw [e]
    have := foldl_fill r (pre.length + 1) (pre ++ [v]) xs (by simp) (by simpa using h)
    simp only [Nat.zero_add] at this
    rw [this]
    simp

section
variable {P : Program} {n : Fm} {ρ : List (Nat × Value)} {W w w' : World} {g : Hl} {H : List HP} {Q : Exit → Act → World → Prop} {ops : Array Oper} {rest : List Oper} {d : Option Tmp} {ty : TypeId} {ps : String} {af : Array Edge} {t e : TypeId} {z : Value} {s bytes : Nat} {cs : List Value}
theorem run_bsl_agg (he : ElemOf P t e z s bytes) (hc : cs.length = s) (hs : s ≤ 16777216) (w : World) : (Instr.buildSlice t 1 #[(0, .agg cs.toArray)]).run P w = .ok (.slice (some ⟨w.heap.size, 0, none⟩) 1 1) (w.alloc (.cells cs.toArray e)) := by
  obtain ⟨ht, ⟨inf, hin, hz, hsz, hby⟩, hzs, hpos⟩ := he
  have h1 : ¬ (1 * s > 2 ^ 24) := by omega
  have h2 : ¬ (1 * s = 0) := by omega
  have hzv : (zeroValue e).run P w = .ok z w := by simp [zeroValue, typeInfo, hin, hz, Result.andThen]
  have hl : (((Array.range (1 * s)).map (z.cells[· % z.cells.size]!)).toList).length = cs.length := by simp [hc]
  have hf : Instr.fill (fun i => some (i * s, s)) ((Array.range (1 * s)).map (z.cells[· % z.cells.size]!)) [(0, Value.agg cs.toArray)] = some cs.toArray := by
    have h3 : ¬ ((Value.agg cs.toArray).cells.size ≠ s || decide (0 * s + (Value.agg cs.toArray).cells.size > ((Array.range (1 * s)).map (z.cells[· % z.cells.size]!)).size)) = true := by
      simp [Value.cells, hc]
    simp only [Instr.fill]
    rw [if_neg h3]
    have := foldl_fill cs 0 [] ((Array.range (1 * s)).map (z.cells[· % z.cells.size]!)).toList rfl hl
    simp only [List.nil_append, Array.toArray_toList] at this
    refine congrArg some (Eq.trans ?_ this)
    simp only [Value.cells, Nat.zero_mul]
    rw [← Array.foldl_toList]
    simp
  unfold Instr.buildSlice
  simp only [Sem.run_bind, run_underlying ht, Result.andThen_ok, sizeOf, run_typeInfo_some hin, Sem.run_pure, hsz, if_neg h1, if_neg h2, hzv, hf]
  simp [newRow]
theorem E.bsle (he : ElemOf P t e z s bytes) (hs : Sat W w g H) (hc : cs.length = s) (h : ∀ b w', Sat W w' g (blk b cs e :: H) → E P n ops rest (pushv d (.slice (some ⟨b, 0, none⟩) 1 1) ρ) w' Q) {x : Operand} (hx : evo n ρ x = some (.agg cs.toArray) := by exact rfl) (hsm : s ≤ 16777216 := by decide) :
    E P n ops (⟨d, .buildSlice t 1 #[(0, x)], ty, ps, af, none⟩ :: rest) ρ w Q :=
  E.cons (St.buildSlice hs (xs := [(0, .agg cs.toArray)]) (by simp only [evp, hx]) (run_bsl_agg he hc hsm w) h)
theorem EH.bsle {l : List Oper} {S : World → Prop} {fuel m i : Nat} (he : ElemOf P t e z s bytes) (hs : Sat W w g H) (hc : cs.length = s) (h : ∀ b w', Sat W w' g (blk b cs e :: H) → S w' ∧ EH P n l S fuel (bset m i) (pushv d (.slice (some ⟨b, 0, none⟩) 1 1) ρ) w' Q) {x : Operand} (hr : rdy m l.length 0 l = [i] := by exact rfl) (hi : nth l i = some ⟨d, .buildSlice t 1 #[(0, x)], ty, ps, af, none⟩ := by exact rfl) (hx : evo n ρ x = some (.agg cs.toArray) := by exact rfl) (hsm : s ≤ 16777216 := by decide) :
    EH P n l S (fuel + 1) m ρ w Q := EH.one (St.buildSlice hs (xs := [(0, .agg cs.toArray)]) (by simp only [evp, hx]) (run_bsl_agg he hc hsm w) h) hr hi
/-- One operation, or a slice of one struct; in either order. -/
theorem EH.obe {l : List Oper} {S : World → Prop} {fuel m i i1 : Nat} {oi : Oper} (he : ElemOf P t e z s bytes) (hs : Sat W w g H) (hc : cs.length = s) (h1 : St P n l.toArray oi ρ w (fun ρ' w' => S w' ∧ EH P n l S fuel (bset m i1) ρ' w' Q) Q) (h : ∀ b w', Sat W w' g (blk b cs e :: H) → S w' ∧ EH P n l S fuel (bset m i) (pushv d (.slice (some ⟨b, 0, none⟩) 1 1) ρ) w' Q) {x : Operand} (hr : rdy m l.length 0 l = [i1, i] := by exact rfl) (ho : nth l i1 = some oi := by exact rfl) (hi : nth l i = some ⟨d, .buildSlice t 1 #[(0, x)], ty, ps, af, none⟩ := by exact rfl) (hx : evo n ρ x = some (.agg cs.toArray) := by exact rfl) (hsm : s ≤ 16777216 := by decide) :
    EH P n l S (fuel + 1) m ρ w Q := EH.two h1 (St.buildSlice hs (xs := [(0, .agg cs.toArray)]) (by simp only [evp, hx]) (run_bsl_agg he hc hsm w) h) hr ho hi
/-- A load, or a slice of one struct; in either order. -/
theorem EH.lbe {l : List Oper} {S : World → Prop} {fuel m i i1 b j : Nat} {t1 ty1 e1 : TypeId} {d1 : Option Tmp} {ps1 : String} {af1 : Array Edge} {xs : List Value} {v : Value} {y : Operand} (he : ElemOf P t e z s bytes) (hs : Sat W w g H) (hc : cs.length = s) (hj : xs[j]? = some v) (h1 : S w ∧ EH P n l S fuel (bset m i1) (pushv d1 v ρ) w Q) (h : ∀ b w', Sat W w' g (blk b cs e :: H) → S w' ∧ EH P n l S fuel (bset m i) (pushv d (.slice (some ⟨b, 0, none⟩) 1 1) ρ) w' Q) {x : Operand}
    (hr : rdy m l.length 0 l = [i1, i] := by exact rfl) (ho : nth l i1 = some ⟨d1, .load t1 y, ty1, ps1, af1, none⟩ := by exact rfl) (hi : nth l i = some ⟨d, .buildSlice t 1 #[(0, x)], ty, ps, af, none⟩ := by exact rfl) (hx : evo n ρ x = some (.agg cs.toArray) := by exact rfl) (hy : evo n ρ y = some (.pointer (some ⟨b, j, none⟩)) := by exact rfl) (hf : Fd H b xs e1 := by exact fd_) (ha : (isAgg t1).run P w = .ok false w := by first | (go_simp; done) | fail) (hsm : s ≤ 16777216 := by decide) :
    EH P n l S (fuel + 1) m ρ w Q := EH.two (St.load hs hy hf hj ha h1) (St.buildSlice hs (xs := [(0, .agg cs.toArray)]) (by simp only [evp, hx]) (run_bsl_agg he hc hsm w) h) hr ho hi
end
/-- The same behind code. -/
theorem laterA {α : Type} {n : Fm} {e : Exit} {Q : Exit → Act → World → Prop} {f : α → List (Nat × Value)} {M : α → World → Prop} {G : Prop} (main : (∀ x w, M x w → A n e (f x) w Q) → G) (key : ∀ x w, M x w → A n e (f x) w Q) : G := main key
end Go.Proofs.YthnnhhjecgkplaaGreatDoor

/-
  s[l:h] of a row of structs in a drawn region; a rest within a region that is walked once.
-/
namespace Go.Proofs.YthnnhhjecgkplaaGreatDoor
open Go.RowKit
set_option linter.unusedVariables false
set_option linter.unusedSimpArgs false
section
variable {P : Program} {n : Fm} {ρ : List (Nat × Value)} {W w w' : World} {g g' : Hl} {H H' : List HP} {Q : Exit → Act → World → Prop} {l : List Oper} {S : World → Prop} {fuel m : Nat} {d : Option Tmp} {ty : TypeId} {ps : String} {af : Array Edge} {gd : Option (Nat × Bool)} {v u : Value} {x y : Operand} {o : Op} {F : List (Nat × List Value × TypeId)} {i b k s : Nat} {rs : List Nat} {t e : TypeId} {z : Value} {bytes : Nat} {a : Option Addr} {len c : Nat} {lo hi mx : Option Operand} {vl vh vm : Option Value}
/-- s[l:h] of a row of the pool's, in a drawn region: the first operation that may come up. -/
theorem EH.slq {xs : List Value} (he : ElemOf P t e z s bytes) (hp : Pr s g (.slice a len c) len xs) (q h : Nat) (hS : S w) (kk : ∀ a' c', Pr s g (.slice a' (h - q) c') (h - q) ((xs.drop (q * s)).take ((h - q) * s)) → EH P n l S fuel (bset m i) (pushv d (.slice a' (h - q) c') ρ) w Q)
    (hr : rdy m l.length 0 l = i :: rs := by exact rfl) (hnth : nth l i = some ⟨d, .slice t x lo hi none, ty, ps, af, gd⟩ := by exact rfl) (hg : want n l ρ gd = some true := by exact rfl)
    (hx : evo n ρ x = some (.slice a len c) := by exact rfl) (h1 : evm n ρ lo = some vl := by exact rfl) (h2 : evm n ρ hi = some vh := by exact rfl) (hlo : Lo vl q := by first | exact .inl ⟨rfl, rfl⟩ | exact .inr ⟨_, _, rfl, by omega⟩) (hhi : Hi vh len h := by first | exact .inl ⟨rfl, rfl⟩ | exact .inr ⟨_, _, rfl, by omega⟩) (hl : q ≤ h := by omega) (hh : h ≤ len := by omega)
    (hsel : Region.noSelect l.toArray = true := by kernel_rfl) (hf : Region.free .any l.toArray (bits m l.length) i = true := by decide +kernel)
    (hQ : ∀ v c a w, Q (.panic c) (a.put d v) w → Q (.panic c) a w := by exact fun _ _ _ _ h => h) : EH P n l S (fuel + 1) m ρ w Q := by
  obtain ⟨a', c', h3, h4⟩ := run_slice_pr (P := P) he hp hlo hhi hl hh
  exact EH.take i (by rw [hr]; simp) hnth hsel hf hQ hS (yif (oi := ⟨d, .slice t x lo hi none, ty, ps, af, gd⟩) hg (Pf.pv (Pv.slice hx h1 h2 rfl h3))) (kk _ _ h4)
/-- s[l:h] of a row of the pool's, in a drawn region: the second operation that may come up. -/
theorem EH.slq1 {xs : List Value} (he : ElemOf P t e z s bytes) (hp : Pr s g (.slice a len c) len xs) (q h : Nat) (hS : S w) (kk : ∀ a' c', Pr s g (.slice a' (h - q) c') (h - q) ((xs.drop (q * s)).take ((h - q) * s)) → EH P n l S fuel (bset m i) (pushv d (.slice a' (h - q) c') ρ) w Q)
    {i1 : Nat} (hr : rdy m l.length 0 l = i1 :: i :: rs := by exact rfl) (hnth : nth l i = some ⟨d, .slice t x lo hi none, ty, ps, af, gd⟩ := by exact rfl) (hg : want n l ρ gd = some true := by exact rfl)
    (hx : evo n ρ x = some (.slice a len c) := by exact rfl) (h1 : evm n ρ lo = some vl := by exact rfl) (h2 : evm n ρ hi = some vh := by exact rfl) (hlo : Lo vl q := by first | exact .inl ⟨rfl, rfl⟩ | exact .inr ⟨_, _, rfl, by omega⟩) (hhi : Hi vh len h := by first | exact .inl ⟨rfl, rfl⟩ | exact .inr ⟨_, _, rfl, by omega⟩) (hl : q ≤ h := by omega) (hh : h ≤ len := by omega)
    (hsel : Region.noSelect l.toArray = true := by kernel_rfl) (hf : Region.free .any l.toArray (bits m l.length) i = true := by decide +kernel)
    (hQ : ∀ v c a w, Q (.panic c) (a.put d v) w → Q (.panic c) a w := by exact fun _ _ _ _ h => h) : EH P n l S (fuel + 1) m ρ w Q := by
  obtain ⟨a', c', h3, h4⟩ := run_slice_pr (P := P) he hp hlo hhi hl hh
  exact EH.take i (by rw [hr]; simp) hnth hsel hf hQ hS (yif (oi := ⟨d, .slice t x lo hi none, ty, ps, af, gd⟩) hg (Pf.pv (Pv.slice hx h1 h2 rfl h3))) (kk _ _ h4)
end
section
variable {P : Program} {n : Fm} {ρ : List (Nat × Value)} {W w w' : World} {g g' : Hl} {H H' : List HP} {N : List (Nat × Value) → World → Prop} {Q : Exit → Act → World → Prop} {ops : Array Oper} {rest : List Oper} {d : Option Tmp} {ty : TypeId} {ps : String} {af : Array Edge} {v u : Value} {x y : Operand} {e t : TypeId}
/-- []byte(s): the bytes are the pool's. -/
theorem St.bytes {l : List UInt8} {dt : TypeId} (h1 : P.underlying t = some .string) (h2 : P.underlying dt = some (.slice e)) (h3 : P.underlying e = some (.int .u8)) (hs : Sat W w g H) (hl : l.length ≤ 1000000000)
    (h : ∀ b c w' g', Hl.le g g' → Sat W w' g' H → Pr 1 g' (.slice (some ⟨b, 0, none⟩) l.length c) l.length (bs l) → N (pushv d (.slice (some ⟨b, 0, none⟩) l.length c) ρ) w') (hx : evo n ρ x = some (.string ⟨l.toArray⟩) := by exact rfl) :
    St P n ops ⟨d, .convert t dt x, ty, ps, af, none⟩ ρ w N Q := by
  have hr := Go.Lib.run_convert_string_bytes w t dt e ⟨l.toArray⟩ h1 h2 h3
  have hsz : (⟨l.toArray⟩ : ByteArray).size = l.length := by simp [ByteArray.size]
  rw [hsz] at hr
  have hn : Sat W (Go.Lib.bytesWorld w e ⟨l.toArray⟩) g (obj w.heap.size (.cells (Go.Lib.bytesCells w e ⟨l.toArray⟩) e ((Go.Lib.bytesCells w e ⟨l.toArray⟩).size, (Go.Lib.bytesCells w e ⟨l.toArray⟩).size + 1)) :: H) := by
    refine hs.new (Nat.le_refl _) ?_ ?_ ?_ (fun k hk => Go.Lib.bytesWorld_at_old w e _ k hk) (Go.Lib.bytesWorld_at_new w e _)
    · simp [Go.Lib.bytesWorld, World.freeze, World.alloc, World.drew, -World.alloc_eq, -World.drew_eq]
    · simp [Go.Lib.bytesWorld, World.freeze, World.alloc, World.drew, -World.alloc_eq, -World.drew_eq]
    · simp [Go.Lib.bytesWorld, World.freeze, World.alloc, World.drew, -World.alloc_eq, -World.drew_eq]
  obtain ⟨h1, e1, e2, e3, hs2⟩ := hn.publish
  have e1' : h1 = Hl.one w.heap.size (.cells (Go.Lib.bytesCells w e ⟨l.toArray⟩) e ((Go.Lib.bytesCells w e ⟨l.toArray⟩).size, (Go.Lib.bytesCells w e ⟨l.toArray⟩).size + 1)) := e1
  have hcap : l.length ≤ grownCap w l.length 0 e ∧ grownCap w l.length 0 e ≤ 9223372036854775807 := by
    unfold grownCap
    simp only [Question.cut]
    have h0 : 0 < 2 ^ 63 - l.length := by omega
    generalize w.tape w.drawn (Question.appendCap l.length 0 e) = T
    have h1 := Nat.mod_lt T h0
    generalize T % (2 ^ 63 - l.length) = T' at h1 ⊢
    constructor <;> omega
  refine (St.val (v := .slice (some ⟨w.heap.size, 0, none⟩) l.length (grownCap w l.length 0 e)) (w' := Go.Lib.bytesWorld w e ⟨l.toArray⟩) (fun a ha => by simp [execOp, ha.eval hx, hr]) (h _ _ _ _ e2 hs2 ?_))
  refine ⟨by simp, some ⟨w.heap.size, 0, none⟩, grownCap w l.length 0 e, rfl, hcap.1, by unfold maxLen; omega, fun q => by simp at q, Or.inr ⟨w.heap.size, 0, _, _, _, rfl, e3 _ _ (show h1 w.heap.size = some _ from by rw [e1']; simp only [Hl.one, if_true]; rfl), ?_⟩⟩
  simp only [Go.Lib.bytesCells, List.drop_zero, Nat.mul_one, Array.toList_append, Array.toList_map, List.map_toArray]
  rw [List.take_append_of_le_length (by simp), List.take_of_length_le (by simp)]
  simp [bs]

/-- len(m). -/
theorem E.lenm {κ : Type} [DecidableEq κ] {enc : κ → Value} {b : Nat} {l : List (κ × Value)} {xs : Array Operand} {kt et : TypeId} (ht : P.underlying t = some (.map kt et)) (hs : Sat W w g H) (hf : Has (mp enc b l) H) (h : E P n ops rest (pushv d (.int .i64 l.length) ρ) w Q) (hx : evs n ρ xs.toList = some [.map (some b)] := by exact rfl) :
    E P n ops (⟨d, .call ⟨.builtin .len, xs, #[t]⟩, ty, ps, af, none⟩ :: rest) ρ w Q := by
  obtain ⟨H', hs'⟩ := hf.front hs
  obtain ⟨es, clock, he, ho⟩ := mp_open hs'
  have hb := ho.heap
  have hl : es.size = l.length := by
    have := congrArg List.length he.1
    simpa using this
  have hr : (Builtin.len_ #[t] ty #[.map (some b)]).run P w = .ok (.int .i64 l.length) w := by
    simp [Builtin.len_, run_underlying ht, run_getObj_map w b es clock hb, goInt, hl]
  exact E.cons (St.val (fun a ha => by simp [execOp, resolve, ha.args hx, invoke, builtin, hr]) h)
end
theorem E.forget {P : Program} {n : Fm} {ρ ρ' : List (Nat × Value)} {w : World} {Q : Exit → Act → World → Prop} {ops : Array Oper} {rest : List Oper} (hw : Weak ρ ρ') (h : E P n ops rest ρ' w Q) : E P n ops rest ρ w Q := by
  unfold E at *
  exact fun a ha => h a (ha.weak hw)
/-- The same as 'later' within a region. -/
theorem laterE {α : Type} {P : Program} {n : Fm} {ops : Array Oper} {rest : List Oper} {Q : Exit → Act → World → Prop} {f : α → List (Nat × Value)} {M : α → World → Prop} {G : Prop} (main : (∀ x w, M x w → E P n ops rest (f x) w Q) → G) (key : ∀ x w, M x w → E P n ops rest (f x) w Q) : G := main key
theorem EH.forget {P : Program} {n : Fm} {l : List Oper} {S : World → Prop} {fuel m : Nat} {ρ ρ' : List (Nat × Value)} {w : World} {Q : Exit → Act → World → Prop} (hw : Weak ρ ρ') (h : EH P n l S fuel m ρ' w Q) : EH P n l S fuel m ρ w Q := by
  unfold EH at *
  exact fun a ha => h a (ha.weak hw)
/-- The same as 'later' within a drawn region. -/
theorem laterH {α : Type} {P : Program} {n : Fm} {l : List Oper} {S : World → Prop} {fuel m : Nat} {Q : Exit → Act → World → Prop} {f : α → List (Nat × Value)} {M : α → World → Prop} {G : Prop} (main : (∀ x w, M x w → EH P n l S fuel m (f x) w Q) → G) (key : ∀ x w, M x w → EH P n l S fuel m (f x) w Q) : G := main key
end Go.Proofs.YthnnhhjecgkplaaGreatDoor

/-
  Floats: a difference.
-/
namespace Go.Proofs.YthnnhhjecgkplaaGreatDoor
open Go.RowKit
set_option linter.unusedVariables false
set_option linter.unusedSimpArgs false
section
variable {P : Program} {n : Fm} {ρ : List (Nat × Value)} {W w w' : World} {g g' : Hl} {H H' : List HP} {Q : Exit → Act → World → Prop} {ops : Array Oper} {rest : List Oper} {d : Option Tmp} {ty : TypeId} {ps : String} {af : Array Edge} {v u : Value} {x y : Operand} {e t : TypeId}
theorem run_fsub {a b : Nat} (w : World) : (∃ r, Ieee.double.sub a b = some r ∧ (Op.floatArith .sub .f64 a b).run P w = .ok (.float .f64 r) w) ∨ (Ieee.double.sub a b = none ∧ ∃ r, 9218868437227405312 < r % 9223372036854775808 ∧ r < 18446744073709551616 ∧ (Op.floatArith .sub .f64 a b).run P w = .ok (.float .f64 r) w.drew) := by
  have e0 : FloatKind.f64.format.sub a b = Ieee.double.sub a b := rfl
  cases hh : Ieee.double.sub a b with
  | some r => exact .inl ⟨r, rfl, by simp [Op.floatArith, e0, hh]⟩
  | none =>
    refine .inr ⟨rfl, (Question.nanBits .f64 a b).cut (w.tape w.drawn (.nanBits .f64 a b)), ?_, ?_, ?_⟩
    · simp only [Question.cut]
      generalize w.tape w.drawn (.nanBits .f64 a b) = T
      have h1 : T % 2 = 0 ∨ T % 2 = 1 := by omega
      have h2 : T / 2 % (2 ^ 52 - 1) < 2 ^ 52 - 1 := Nat.mod_lt _ (by decide)
      generalize T / 2 % (2 ^ 52 - 1) = q at h2 ⊢
      rcases h1 with h1 | h1 <;> rw [h1] <;> omega
    · simp only [Question.cut]
      generalize w.tape w.drawn (.nanBits .f64 a b) = T
      have h1 : T % 2 = 0 ∨ T % 2 = 1 := by omega
      have h2 : T / 2 % (2 ^ 52 - 1) < 2 ^ 52 - 1 := Nat.mod_lt _ (by decide)
      generalize T / 2 % (2 ^ 52 - 1) = q at h2 ⊢
      rcases h1 with h1 | h1 <;> rw [h1] <;> omega
    · simp [Op.floatArith, e0, hh, Question.forced]
/-- A difference of floats. -/
theorem E.fsub {s s' : TypeId} {a b : Nat} (hs : Sat W w g H) (h : ∀ r w', Sat W w' g H → (Ieee.double.sub a b = some r ∨ Ieee.double.sub a b = none ∧ 9218868437227405312 < r % 9223372036854775808 ∧ r < 18446744073709551616) → E P n ops rest (pushv d (.float .f64 r) ρ) w' Q)
    (hx : evo n ρ x = some (.float .f64 a) := by exact rfl) (hy : evo n ρ y = some (.float .f64 b) := by exact rfl) : E P n ops (⟨d, .binOp .sub s x y s', ty, ps, af, none⟩ :: rest) ρ w Q := by
  rcases run_fsub (P := P) (a := a) (b := b) w with ⟨r, h1, h2⟩ | ⟨h1, r, h3, h4, h2⟩
  · refine E.cons (St.val (w' := w) (fun ac ha => ?_) (h r w hs (.inl h1)))
    simp [execOp, ha.eval hx, ha.eval hy, eqGuard, binOp, h2]
  · refine E.cons (St.val (w' := w.drew) (fun ac ha => ?_) (h r w.drew hs.drew (.inr ⟨h1, h3, h4⟩)))
    simp [execOp, ha.eval hx, ha.eval hy, eqGuard, binOp, h2]
end
theorem sub_nan {b : Nat} (h : nanF b = true) : Ieee.double.sub b b = none := by
  unfold nanF Ieee.Format.order at h
  unfold Ieee.Format.sub
  cases hb : Ieee.double.read b with
  | nan s t => rfl
  | infinity s => rw [hb] at h; cases s <;> exact absurd h (by decide)
  | number s m e =>
    rw [hb] at h
    simp [Ieee.Datum.order] at h
end Go.Proofs.YthnnhhjecgkplaaGreatDoor

/-
  Floats, plain: a sum in either order; how two stand to one another, by their ranks.
-/
namespace Go.Proofs.YthnnhhjecgkplaaGreatDoor
open Ieee
set_option linter.unusedVariables false
set_option linter.unusedSimpArgs false

theorem sum_comm (a b : Datum) : a.sum b = b.sum a := by
  cases a with
  | nan s t => cases b <;> simp [Datum.sum]
  | infinity s =>
    cases b with
    | nan => simp [Datum.sum]
    | infinity t =>
      simp only [Datum.sum]
      by_cases h : s = t
      · subst h; rfl
      · rw [if_neg h, if_neg (fun e => h e.symm)]
    | number => simp [Datum.sum]
  | number s m i =>
    cases b with
    | nan => simp [Datum.sum]
    | infinity t => simp [Datum.sum]
    | number t n j =>
      simp only [Datum.sum]
      rw [Int.min_comm i j, Int.add_comm (signed s m _), Bool.and_comm s t]
theorem add_comm' (x y : Nat) : double.add x y = double.add y x := by
  simp only [Format.add, sum_comm]

/-- What a rung stands for, in units of the least place. -/
def mgF (r : Nat) : Nat := if r < 4503599627370496 then r else (4503599627370496 + r % 4503599627370496) * 2 ^ (r / 4503599627370496 - 1)
theorem mgF_lt {r r' : Nat} (h : r < r') : mgF r < mgF r' := by
  unfold mgF
  by_cases h1 : r < 4503599627370496
  · rw [if_pos h1]
    by_cases h2 : r' < 4503599627370496
    · rw [if_pos h2]; exact h
    · rw [if_neg h2]
      have hp : 1 ≤ 2 ^ (r' / 4503599627370496 - 1) := Nat.one_le_two_pow
      have := Nat.mul_le_mul (show 4503599627370496 ≤ 4503599627370496 + r' % 4503599627370496 by omega) hp
      omega
  · rw [if_neg h1, if_neg (by omega)]
    have hq : r / 4503599627370496 ≤ r' / 4503599627370496 := Nat.div_le_div_right (Nat.le_of_lt h)
    rcases Nat.eq_or_lt_of_le hq with he | hl
    · rw [he]
      refine Nat.mul_lt_mul_of_pos_right ?_ (Nat.two_pow_pos _)
      omega
    · have h3 : (4503599627370496 + r % 4503599627370496) * 2 ^ (r / 4503599627370496 - 1) < (2 * 4503599627370496) * 2 ^ (r / 4503599627370496 - 1) := Nat.mul_lt_mul_of_pos_right (by omega) (Nat.two_pow_pos _)
      have h4 : (2 * 4503599627370496) * 2 ^ (r / 4503599627370496 - 1) = 4503599627370496 * 2 ^ (r / 4503599627370496 - 1 + 1) := by
        rw [Nat.pow_succ, Nat.mul_comm 2, Nat.mul_assoc, Nat.mul_comm 2]
      have h5 : 2 ^ (r / 4503599627370496 - 1 + 1) ≤ 2 ^ (r' / 4503599627370496 - 1) := Nat.pow_le_pow_right (by decide) (by omega)
      have h6 := Nat.mul_le_mul (show 4503599627370496 ≤ 4503599627370496 + r' % 4503599627370496 by omega) h5
      omega
theorem mgF_iff {r r' : Nat} : mgF r < mgF r' ↔ r < r' := by
  constructor
  · intro h
    rcases Nat.lt_trichotomy r r' with h1 | h1 | h1
    · exact h1
    · subst h1; omega
    · have := mgF_lt h1; omega
  · exact mgF_lt
/-- What a word stands for. -/
theorem read_num {x : Nat} (hx : x % 9223372036854775808 < 9218868437227405312) : ∃ m k, double.read x = .number (x / 9223372036854775808 % 2 == 1) m (double.leastPlace + (k : Nat)) ∧ m * 2 ^ k = mgF (x % 9223372036854775808) := by
  have e1 : double.signWeight = 9223372036854775808 := by decide
  have e2 : double.binade = 4503599627370496 := by decide
  have e3 : double.infRung = 9218868437227405312 := by decide
  unfold Format.read
  simp only [e1, e2, e3]
  by_cases h : x % 9223372036854775808 < 4503599627370496
  · rw [if_pos h]
    exact ⟨x % 9223372036854775808, 0, by simp, by rw [mgF, if_pos h]; simp⟩
  · rw [if_neg h, if_pos hx]
    exact ⟨_, _, rfl, by rw [mgF, if_neg h]⟩
theorem read_inf {x : Nat} (hx : x % 9223372036854775808 = 9218868437227405312) : double.read x = .infinity (x / 9223372036854775808 % 2 == 1) := by
  have e1 : double.signWeight = 9223372036854775808 := by decide
  have e2 : double.binade = 4503599627370496 := by decide
  have e3 : double.infRung = 9218868437227405312 := by decide
  unfold Format.read
  simp only [e1, e2, e3, hx]
  rfl
/-- How two stand to one another: by their ranks. -/
def rankF (x : Nat) : Int := if x / 9223372036854775808 % 2 == 1 then -1 - (x % 9223372036854775808 : Nat) else (x % 9223372036854775808 : Nat)
theorem mgF_zero {r : Nat} : mgF r = 0 ↔ r = 0 := by
  constructor
  · intro h
    rcases Nat.eq_zero_or_pos r with h1 | h1
    · exact h1
    · have := mgF_lt h1
      omega
  · rintro rfl; rfl
theorem cmp_lt (a b : Int) : (compare a b = .lt) ↔ a < b := by
  simp only [compare, compareOfLessAndEq]
  split
  · simp [*]
  · split <;> simp [*]
theorem signed_lt {s t : Bool} {m n k l : Nat} : (signed s m (k - min k l) < signed t n (l - min k l)) ↔ ((if s then -((m * 2 ^ k : Nat) : Int) else (m * 2 ^ k : Nat)) < (if t then -((n * 2 ^ l : Nat) : Int) else (n * 2 ^ l : Nat))) := by
  have h1 : m * 2 ^ k = (m <<< (k - min k l)) * 2 ^ (min k l) := by
    rw [Nat.shiftLeft_eq, Nat.mul_assoc, ← Nat.pow_add]; congr 2; omega
  have h2 : n * 2 ^ l = (n <<< (l - min k l)) * 2 ^ (min k l) := by
    rw [Nat.shiftLeft_eq, Nat.mul_assoc, ← Nat.pow_add]; congr 2; omega
  rw [h1, h2]
  unfold signed
  generalize m <<< (k - min k l) = a
  generalize n <<< (l - min k l) = b
  have hp : 0 < 2 ^ (min k l) := Nat.two_pow_pos _
  generalize 2 ^ (min k l) = c at hp
  have key : ∀ a b : Nat, a * c < b * c ↔ a < b := fun a b => ⟨fun h => Nat.lt_of_mul_lt_mul_right h, fun h => Nat.mul_lt_mul_of_pos_right h hp⟩
  have kz : ∀ a : Nat, a * c = 0 ↔ a = 0 := fun a => by rw [Nat.mul_eq_zero]; omega
  have k1 := key a b
  have k2 := key b a
  have k3 := kz a
  have k4 := kz b
  generalize a * c = A at k1 k2 k3
  generalize b * c = B at k1 k2 k4
  cases s <;> cases t <;> simp <;> omega
/-- How two stand to one another: by their ranks. -/
theorem order_lt {x y : Nat} (hx : x % 9223372036854775808 ≤ 9218868437227405312) (hy : y % 9223372036854775808 ≤ 9218868437227405312) (h0 : ¬ (x % 9223372036854775808 = 0 ∧ y % 9223372036854775808 = 0)) : double.order x y = some .lt ↔ rankF x < rankF y := by
  unfold Format.order rankF
  generalize hs : (x / 9223372036854775808 % 2 == 1) = s
  generalize ht : (y / 9223372036854775808 % 2 == 1) = t
  rcases Nat.lt_or_eq_of_le hx with h1 | h1
  · obtain ⟨m, k, e1, e2⟩ := read_num h1
    rcases Nat.lt_or_eq_of_le hy with h2 | h2
    · obtain ⟨n, l, e3, e4⟩ := read_num h2
      rw [e1, e3, hs, ht]
      simp only [Datum.order, Option.some.injEq]
      rw [cmp_lt]
      have a1 : (double.leastPlace + (k : Int) - min (double.leastPlace + (k : Int)) (double.leastPlace + (l : Int))).toNat = k - min k l := by omega
      have a2 : (double.leastPlace + (l : Int) - min (double.leastPlace + (k : Int)) (double.leastPlace + (l : Int))).toNat = l - min k l := by omega
      rw [a1, a2, signed_lt, e2, e4]
      have k1 := mgF_iff (r := x % 9223372036854775808) (r' := y % 9223372036854775808)
      have k2 := mgF_iff (r := y % 9223372036854775808) (r' := x % 9223372036854775808)
      have k3 := mgF_zero (r := x % 9223372036854775808)
      have k4 := mgF_zero (r := y % 9223372036854775808)
      cases s <;> cases t <;> simp <;> omega
    · rw [e1, read_inf h2, hs, ht]
      cases s <;> cases t <;> simp [Datum.order] <;> omega
  · rw [read_inf h1, hs]
    rcases Nat.lt_or_eq_of_le hy with h2 | h2
    · obtain ⟨n, l, e3, e4⟩ := read_num h2
      rw [e3, ht]
      cases s <;> cases t <;> simp [Datum.order] <;> omega
    · rw [read_inf h2, ht]
      cases s <;> cases t <;> simp [Datum.order, h1, h2] <;> first | decide | omega
/-- A quantity's bits. -/
def bitsF (b : Nat) : Nat := if nanF b = true then 9221120237041090561 else b
theorem rung_le {x : Nat} (h : nanF x = false) : x % 9223372036854775808 ≤ 9218868437227405312 := by
  rcases Nat.lt_or_ge 9218868437227405312 (x % 9223372036854775808) with h1 | h1
  · exfalso
    have e1 : double.signWeight = 9223372036854775808 := by decide
    have e2 : double.binade = 4503599627370496 := by decide
    have e3 : double.infRung = 9218868437227405312 := by decide
    have hr : ∃ s t, double.read x = .nan s t := by
      unfold Format.read
      simp only [e1, e2, e3]
      rw [if_neg (by omega), if_neg (by omega), if_neg (by omega)]
      exact ⟨_, _, rfl⟩
    obtain ⟨s, t, hr⟩ := hr
    unfold nanF Format.order at h
    rw [hr] at h
    simp [Datum.order] at h
  · exact h1
/-- Does one stand ahead of another one? -/
def lessF (x y : Nat) : Bool := !nanF x && (nanF y || decide (rankF x < rankF y))
theorem order_zero {x : Nat} (h : nanF x = false) : (double.order x 0 == some .eq) = decide (x % 9223372036854775808 = 0) := by
  have hx := rung_le h
  have r0 : double.read 0 = .number false 0 (double.leastPlace + ((0 : Nat) : Int)) := by decide
  rcases Nat.lt_or_eq_of_le hx with h1 | h1
  · obtain ⟨m, k, e1, e2⟩ := read_num h1
    have k3 := mgF_zero (r := x % 9223372036854775808)
    unfold Format.order
    rw [e1, r0]
    generalize (x / 9223372036854775808 % 2 == 1) = s
    simp only [Datum.order]
    have a1 : (double.leastPlace + (k : Int) - min (double.leastPlace + (k : Int)) (double.leastPlace + ((0 : Nat) : Int))).toNat = k := by omega
    have a2 : (double.leastPlace + ((0 : Nat) : Int) - min (double.leastPlace + (k : Int)) (double.leastPlace + ((0 : Nat) : Int))).toNat = 0 := by omega
    rw [a1, a2]
    have e3 : signed s m k = if s then -((m * 2 ^ k : Nat) : Int) else ((m * 2 ^ k : Nat) : Int) := by
      unfold signed; rw [Nat.shiftLeft_eq]
    have e4 : signed false 0 0 = 0 := by decide
    rw [e3, e4, e2]
    by_cases hz : x % 9223372036854775808 = 0
    · rw [decide_eq_true hz, k3.2 hz]
      cases s <;> decide
    · rw [decide_eq_false hz]
      have hm : mgF (x % 9223372036854775808) ≠ 0 := fun e => hz (k3.1 e)
      generalize mgF (x % 9223372036854775808) = M at hm
      cases s with
      | true =>
        simp only [if_true]
        have : compare (-(M : Int)) 0 = .lt := (cmp_lt _ _).2 (by omega)
        rw [this]; rfl
      | false =>
        simp only [Bool.false_eq_true, if_false]
        have hne : compare (M : Int) 0 ≠ .eq := by
          simp only [compare, compareOfLessAndEq]
          rw [if_neg (by omega), if_neg (by omega)]
          decide
        cases hc : compare (M : Int) 0 with
        | eq => exact absurd hc hne
        | lt => rfl
        | gt => rfl
  · rw [decide_eq_false (by omega)]
    unfold Format.order
    rw [read_inf h1, r0]
    cases (x / 9223372036854775808 % 2 == 1) <;> rfl
theorem rank_inj {x y : Nat} (hx : x < 18446744073709551616) (hy : y < 18446744073709551616) (h : rankF x = rankF y) : x = y := by
  unfold rankF at h
  simp only [beq_iff_eq] at h
  split at h <;> split at h <;> omega
theorem bits_same {x y : Nat} (hx : x < 18446744073709551616) (hy : y < 18446744073709551616) : decide (bitsF x = bitsF y) = (!lessF x y && !lessF y x) := by
  unfold lessF bitsF
  cases hnx : nanF x <;> cases hny : nanF y
  · simp only [Bool.false_eq_true, if_false, Bool.not_false, Bool.true_and, Bool.false_or]
    by_cases he : x = y
    · subst he; simp
    · have : rankF x ≠ rankF y := fun e => he (rank_inj hx hy e)
      rw [decide_eq_false he]
      by_cases h1 : rankF x < rankF y
      · simp [h1]
      · have : rankF y < rankF x := by omega
        simp [this]
  · simp only [Bool.false_eq_true, if_false, if_true]
    have : x ≠ 9221120237041090561 := by
      rintro rfl
      have : nanF 9221120237041090561 = true := by decide +kernel
      rw [this] at hnx; cases hnx
    simp [this]
  · simp only [Bool.false_eq_true, if_false, if_true]
    have : (9221120237041090561 : Nat) ≠ y := by
      rintro rfl
      have : nanF 9221120237041090561 = true := by decide +kernel
      rw [this] at hny; cases hny
    simp [this]
  · simp
theorem less_trans {x y z : Nat} : (!lessF x y || !lessF y z || lessF x z) = true := by
  unfold lessF
  cases nanF x <;> cases nanF y <;> cases nanF z <;> simp
  omega
end Go.Proofs.YthnnhhjecgkplaaGreatDoor

/-
  Layer 1 (quantity) and its reference: bits, sums, and how two stand to one another. (Its first part is that of Vc, for a seat that has no events.)
-/
namespace Go.Proofs.YthnnhhjecgkplaaGreatDoor
open Go.RowKit
set_option linter.unusedVariables false
set_option linter.unusedSimpArgs false

/-- A quantity and some more, as it is kept. -/
def sumF (a b : Nat) : Nat := match Ieee.double.add a b with
  | some r => bitsF r
  | none => 9221120237041090561
theorem bitsF_lt {b : Nat} (h : b < 18446744073709551616) : bitsF b < 18446744073709551616 := by unfold bitsF; split <;> omega

set_option maxHeartbeats 1600000 in
set_option maxRecDepth 100000 in
theorem isNaN_any {R : Ending → World → Prop} {w : World} {b : Nat} (hR : R (.returned (.bool (nanF b))) w) : Calls Tryz.prog 21 #[.float .f64 b] w R := by
  have HR := Lib.hid hR
  clear hR
  refine C.calls (args := [.float .f64 b]) Tryz.func21 rfl rfl rfl ?_
  refine go ?_
  refine A.r1 ?_
  exact HR.out

set_option maxHeartbeats 1600000 in
set_option maxRecDepth 100000 in
theorem bits_any {R : Ending → World → Prop} {w : World} {b : Nat} (hR : R (.returned (.int .u64 (bitsF b))) w) : Calls Tryz.prog 12 #[.float .f64 b] w R := by
  have HR := Lib.hid hR
  clear hR
  refine C.calls (args := [.float .f64 b]) Tryz.func12 rfl rfl rfl ?_
  refine go ?_
  refine E.callf Tryz.func21 rfl ?_
  refine isNaN_any ?_
  refine go ?_
  cases hn : nanF b with
  | true =>
    refine go ?_
    refine A.r1 ?_
    simpa [bitsF, hn] using HR.out
  | false =>
    refine go ?_
    refine E.ext (v := .int .u64 b) (w' := w) Tryz.func19 (ex := Extern.MathFloatBits.float64bits) rfl ?_
    refine go ?_
    refine A.r1 ?_
    simpa [bitsF, hn] using HR.out

set_option maxHeartbeats 1600000 in
set_option maxRecDepth 100000 in
theorem plain_any {R : Ending → World → Prop} {w : World} {b : Nat} (hR : R (.returned (.float .f64 (bitsF b))) w) : Calls Tryz.prog 10 #[.float .f64 b] w R := by
  have HR := Lib.hid hR
  clear hR
  refine C.calls (args := [.float .f64 b]) Tryz.func10 rfl rfl rfl ?_
  refine go ?_
  refine E.callf Tryz.func12 rfl ?_
  refine bits_any ?_
  refine E.ext (v := .float .f64 (bitsF b)) (w' := w) Tryz.func20 (ex := Extern.MathFloatBits.float64frombits) rfl ?_
  refine go ?_
  refine A.r1 ?_
  exact HR.out

set_option maxHeartbeats 1600000 in
set_option maxRecDepth 100000 in
theorem qsum_any {R : Ending → World → Prop} {W w : World} {g : Hl} {H : List HP} {a b : Nat} (hs : Sat W w g H) (hR : ∀ w', Sat W w' g H → R (.returned (.float .f64 (sumF a b))) w') : Calls Tryz.prog 6 #[.float .f64 a, .float .f64 b] w R := by
  have HR := Lib.hid hR
  clear hR
  refine C.calls (args := [.float .f64 a, .float .f64 b]) Tryz.func6 rfl rfl rfl ?_
  refine go ?_
  refine E.fadd hs ?_
  intro r w1 hs hr
  refine E.callf Tryz.func10 rfl ?_
  refine plain_any ?_
  refine go ?_
  refine A.r1 ?_
  have := HR.out _ hs
  rcases hr with hr | ⟨hr, h2, h3⟩
  · simpa [sumF, hr] using this
  · simpa [sumF, hr, bitsF, nan_rung h2] using this

set_option maxHeartbeats 1600000 in
set_option maxRecDepth 100000 in
theorem qof_any {R : Ending → World → Prop} {w : World} {n : Nat} (hn : n < 18446744073709551616) (hR : R (.returned (.tuple #[.float .f64 n, .bool (decide (bitsF n = n))])) w) : Calls Tryz.prog 13 #[.int .u64 n] w R := by
  have HR := Lib.hid hR
  clear hR
  refine C.calls (args := [.int .u64 n]) Tryz.func13 rfl rfl rfl ?_
  refine go ?_
  refine E.ext (v := .float .f64 n) (w' := w) Tryz.func20 (ex := Extern.MathFloatBits.float64frombits) rfl ?_
  refine go ?_
  refine E.callf Tryz.func12 rfl ?_
  refine bits_any ?_
  refine go ?_
  rw [show decide ((bitsF n : Int) = (n : Int)) = decide (bitsF n = n) from decide_eq_decide.2 (by omega)]
  refine A.r2 ?_
  exact HR.out



set_option maxHeartbeats 1600000 in
set_option maxRecDepth 100000 in
theorem qsame_any {R : Ending → World → Prop} {w : World} {a b : Nat} (hR : R (.returned (.bool (decide (bitsF a = bitsF b)))) w) : Calls Tryz.prog 9 #[.float .f64 a, .float .f64 b] w R := by
  have HR := Lib.hid hR
  clear hR
  refine C.calls (args := [.float .f64 a, .float .f64 b]) Tryz.func9 rfl rfl rfl ?_
  refine go ?_
  refine E.callf Tryz.func12 rfl ?_
  refine bits_any ?_
  refine go ?_
  refine E.callf Tryz.func12 rfl ?_
  refine bits_any ?_
  refine go ?_
  rw [show decide ((bitsF a : Int) = (bitsF b : Int)) = decide (bitsF a = bitsF b) from decide_eq_decide.2 (by omega)]
  refine A.r1 ?_
  exact HR.out
set_option maxHeartbeats 1600000 in
set_option maxRecDepth 100000 in
theorem void_any {R : Ending → World → Prop} {w : World} {a : Nat} (hR : R (.returned (.bool (nanF a))) w) : Calls Tryz.prog 18 #[.float .f64 a] w R := by
  have HR := Lib.hid hR
  clear hR
  refine C.calls (args := [.float .f64 a]) Tryz.func18 rfl rfl rfl ?_
  refine go ?_
  refine A.r1 ?_
  exact HR.out
set_option maxHeartbeats 1600000 in
set_option maxRecDepth 100000 in
theorem rbits_any {R : Ending → World → Prop} {w : World} {b : Nat} (hR : R (.returned (.int .u64 (bitsF b))) w) : Calls Tryz.prog 8 #[.float .f64 b] w R := by
  have HR := Lib.hid hR
  clear hR
  refine C.calls (args := [.float .f64 b]) Tryz.func8 rfl rfl rfl ?_
  refine go ?_
  refine E.callf Tryz.func18 rfl ?_
  refine void_any ?_
  refine go ?_
  cases hn : nanF b with
  | true =>
    refine go ?_
    refine A.r1 ?_
    simpa [bitsF, hn] using HR.out
  | false =>
    refine go ?_
    refine E.ext (v := .int .u64 b) (w' := w) Tryz.func19 (ex := Extern.MathFloatBits.float64bits) rfl ?_
    refine go ?_
    refine A.r1 ?_
    simpa [bitsF, hn] using HR.out
set_option maxHeartbeats 1600000 in
set_option maxRecDepth 100000 in
theorem rank_any {R : Ending → World → Prop} {w : World} {b : Nat} (hb : b < 18446744073709551616) (hR : R (.returned (.int .i64 (rankF b))) w) : Calls Tryz.prog 22 #[.float .f64 b] w R := by
  have HR := Lib.hid hR
  clear hR
  refine C.calls (args := [.float .f64 b]) Tryz.func22 rfl rfl rfl ?_
  refine go ?_
  refine E.ext (v := .int .u64 b) (w' := w) Tryz.func19 (ex := Extern.MathFloatBits.float64bits) rfl ?_
  refine go ?_
  rcases Nat.lt_or_ge b 9223372036854775808 with h | h
  · rw [wrap64_id (by omega) (by omega)]
    rw [decide_eq_false (show ¬ (b : Int) < 0 by omega)]
    refine go ?_
    refine A.r1 ?_
    have hr : rankF b = b := by
      unfold rankF
      rw [if_neg (by simp; omega)]
      omega
    rw [hr] at HR
    exact HR.out
  · obtain ⟨c, hc⟩ : ∃ c : Int, c = (b : Int) - 18446744073709551616 := ⟨_, rfl⟩
    have ew : IntKind.i64.wrap (b : Int) = c := by
      rw [IntKind.wrap_i64]; omega
    rw [ew, decide_eq_true (show c < 0 by omega)]
    clear ew
    refine go ?_
    refine A.r1 ?_
    have hr : rankF b = -9223372036854775808 - c - 1 := by
      unfold rankF
      rw [if_pos (by simp; omega)]
      omega
    rw [hr] at HR
    exact HR.out
set_option maxHeartbeats 1600000 in
set_option maxRecDepth 100000 in
theorem qless_any {R : Ending → World → Prop} {w : World} {x y : Nat} (hx : x < 18446744073709551616) (hy : y < 18446744073709551616) (hR : R (.returned (.bool (lessF x y))) w) : Calls Tryz.prog 14 #[.float .f64 x, .float .f64 y] w R := by
  have HR := Lib.hid hR
  clear hR
  refine C.calls (args := [.float .f64 x, .float .f64 y]) Tryz.func14 rfl rfl rfl ?_
  refine go ?_
  refine E.callf Tryz.func21 rfl ?_
  refine isNaN_any ?_
  refine go ?_
  cases hnx : nanF x with
  | true =>
    refine go ?_
    refine E.callf Tryz.func21 rfl ?_
    refine isNaN_any ?_
    rw [hnx]
    refine go ?_
    refine A.r1 ?_
    have e : lessF x y = false := by simp [lessF, hnx]
    rw [e] at HR
    exact HR.out
  | false =>
    refine go ?_
    refine E.callf Tryz.func21 rfl ?_
    refine isNaN_any ?_
    refine go ?_
    cases hny : nanF y with
    | true =>
      refine go ?_
      refine E.callf Tryz.func21 rfl ?_
      refine isNaN_any ?_
      rw [hnx]
      refine go ?_
      refine E.callf Tryz.func21 rfl ?_
      refine isNaN_any ?_
      rw [hny]
      refine go ?_
      refine A.r1 ?_
      have e : lessF x y = true := by simp [lessF, hnx, hny]
      rw [e] at HR
      exact HR.out
    | false =>
      refine go ?_
      refine E.callf Tryz.func22 rfl ?_
      refine rank_any hx ?_
      refine go ?_
      refine E.callf Tryz.func22 rfl ?_
      refine rank_any hy ?_
      refine go ?_
      refine A.r1 ?_
      have e : lessF x y = decide (rankF x < rankF y) := by simp [lessF, hnx, hny]
      rw [e] at HR
      exact HR.out
theorem lessF_zeros {x y : Nat} (hnx : nanF x = false) (hny : nanF y = false) (hx : x % 9223372036854775808 = 0) (hy : y % 9223372036854775808 = 0) (hx2 : x < 18446744073709551616) (hy2 : y < 18446744073709551616) : lessF x y = (decide (9223372036854775808 ≤ x) && !decide (9223372036854775808 ≤ y)) := by
  have hx3 : x = 0 ∨ x = 9223372036854775808 := by omega
  have hy3 : y = 0 ∨ y = 9223372036854775808 := by omega
  simp only [lessF, hnx, hny, Bool.not_false, Bool.true_and, Bool.false_or]
  rcases hx3 with rfl | rfl <;> rcases hy3 with rfl | rfl <;> decide
theorem lessF_order {x y : Nat} (hnx : nanF x = false) (hny : nanF y = false) (h0 : ¬ (x % 9223372036854775808 = 0 ∧ y % 9223372036854775808 = 0)) : (Ieee.double.order x y == some .lt) = lessF x y := by
  have h := order_lt (rung_le hnx) (rung_le hny) h0
  simp only [lessF, hnx, hny, Bool.not_false, Bool.true_and, Bool.false_or]
  by_cases hr : rankF x < rankF y
  · rw [decide_eq_true hr, h.2 hr]; rfl
  · rw [decide_eq_false hr]
    cases ho : Ieee.double.order x y with
    | none => rfl
    | some o =>
      cases o with
      | lt => exact absurd (h.1 ho) hr
      | eq => rfl
      | gt => rfl
set_option maxHeartbeats 1600000 in
set_option maxRecDepth 100000 in
theorem signbit_any {R : Ending → World → Prop} {w : World} {b : Nat} (hb : b < 18446744073709551616) (hR : R (.returned (.bool (decide (9223372036854775808 ≤ b)))) w) : Calls Tryz.prog 23 #[.float .f64 b] w R := by
  have HR := Lib.hid hR
  clear hR
  refine C.calls (args := [.float .f64 b]) Tryz.func23 rfl rfl rfl ?_
  refine go ?_
  refine E.ext (v := .int .u64 b) (w' := w) Tryz.func19 (ex := Extern.MathFloatBits.float64bits) rfl ?_
  refine go ?_
  have ed : decide (IntKind.i64.wrap (b : Int) < 0) = decide (9223372036854775808 ≤ b) := by
    refine decide_eq_decide.2 ?_
    rw [IntKind.wrap_i64]; omega
  rw [ed]
  refine A.r1 ?_
  exact HR.out
set_option maxHeartbeats 1600000 in
set_option maxRecDepth 100000 in
theorem rless_any {R : Ending → World → Prop} {w : World} {x y : Nat} (hx : x < 18446744073709551616) (hy : y < 18446744073709551616) (hR : R (.returned (.bool (lessF x y))) w) : Calls Tryz.prog 15 #[.float .f64 x, .float .f64 y] w R := by
  have HR := Lib.hid hR
  clear hR
  refine C.calls (args := [.float .f64 x, .float .f64 y]) Tryz.func15 rfl rfl rfl ?_
  refine go ?_
  refine E.callf Tryz.func18 rfl ?_
  refine void_any ?_
  refine go ?_
  cases hnx : nanF x with
  | true =>
    refine go ?_
    refine A.r1 ?_
    have e : lessF x y = false := by simp [lessF, hnx]
    rw [e] at HR
    exact HR.out
  | false =>
  refine go ?_
  refine E.callf Tryz.func18 rfl ?_
  refine void_any ?_
  refine go ?_
  cases hny : nanF y with
  | true =>
    refine go ?_
    refine A.r1 ?_
    have e : lessF x y = true := by simp [lessF, hnx, hny]
    rw [e] at HR
    exact HR.out
  | false =>
  refine go ?_
  have ef : ∀ a b, FloatKind.f64.format.order a b = Ieee.double.order a b := fun _ _ => rfl
  rw [ef, order_zero hnx]
  cases hx0 : decide (x % 9223372036854775808 = 0) with
  | true =>
    have hx0' := of_decide_eq_true hx0
    clear hx0
    refine go ?_
    rw [order_zero hny]
    cases hy0 : decide (y % 9223372036854775808 = 0) with
    | true =>
      have hy0' := of_decide_eq_true hy0
      clear hy0
      refine go ?_
      refine E.callf Tryz.func23 rfl ?_
      refine signbit_any hx ?_
      rw [lessF_zeros hnx hny hx0' hy0' hx hy] at HR
      cases hsx : decide (9223372036854775808 ≤ x) with
      | true =>
        refine go ?_
        refine E.callf Tryz.func23 rfl ?_
        refine signbit_any hy ?_
        refine go ?_
        refine A.r1 ?_
        rw [hsx] at HR
        exact HR.out
      | false =>
        refine go ?_
        refine A.r1 ?_
        rw [hsx] at HR
        exact HR.out
    | false =>
      have hy0' := of_decide_eq_false hy0
      clear hy0
      refine go ?_
      rw [lessF_order hnx hny (fun h => hy0' h.2)]
      refine A.r1 ?_
      exact HR.out
  | false =>
    have hx0' := of_decide_eq_false hx0
    clear hx0
    refine go ?_
    rw [lessF_order hnx hny (fun h => hx0' h.1)]
    refine A.r1 ?_
    exact HR.out
end Go.Proofs.YthnnhhjecgkplaaGreatDoor

/-
  QuantityBits, QuantityOrders, QuantitySums, walked; awake's answer is handed in.
-/
namespace Go.Proofs.YthnnhhjecgkplaaGreatDoor
open Go.RowKit
set_option linter.unusedVariables false
set_option linter.unusedSimpArgs false

section
variable {P : Program} {n : Fm} {ρ : List (Nat × Value)} {ty : TypeId} {x y : Operand}
/-- A product of floats that is a number. -/
theorem Pv.fmulc {a b r : Nat} (hm : Ieee.double.mul a b = some r) (hx : evo n ρ x = some (.float .f64 a)) (hy : evo n ρ y = some (.float .f64 b)) {s s' : TypeId} : Pv P n ρ (.binOp .mul s x y s') ty (.float .f64 r) := Pv.binOp hx hy (fun w => by simp [eqGuard]) fun w => by
  have e0 : FloatKind.f64.format.mul a b = Ieee.double.mul a b := rfl
  simp [Go.binOp, Op.floatArith, e0, hm]
end
structure AwakeOk (g : Hl) : Prop where
  run : ∀ {R : Ending → World → Prop} {W w : World} {g1 : Hl} {H : List HP}, Hl.le g g1 → Sat W w g1 H → (∀ w' g', Hl.le g1 g' → Sat W w' g' H → R (.returned (.bool true)) w') → Calls Tryz.prog 7 #[] w R
theorem bitsF_twice (b : Nat) : bitsF (bitsF b) = bitsF b := by
  unfold bitsF
  split
  · decide +kernel
  · rfl
theorem bitsF_sum (x y : Nat) : bitsF (sumF x y) = sumF x y := by
  unfold sumF
  split
  · exact bitsF_twice _
  · decide +kernel
theorem bitsF_add {x y r : Nat} (h : Ieee.double.add x y = some r ∨ Ieee.double.add x y = none ∧ 9218868437227405312 < r % 9223372036854775808 ∧ r < 18446744073709551616) : bitsF r = sumF x y := by
  rcases h with h | ⟨h, h2, h3⟩
  · simp [sumF, h]
  · simp [sumF, h, bitsF, nan_rung h2]
theorem sumF_comm (x y : Nat) : sumF x y = sumF y x := by
  unfold sumF
  rw [add_comm']

set_option maxHeartbeats 3200000 in
set_option maxRecDepth 100000 in
theorem qBits_law {R : Ending → World → Prop} {W w : World} {g : Hl} {H : List HP} {x n : Nat} (hA : AwakeOk g) (hx : x < 18446744073709551616) (hn : n < 18446744073709551616) (hs : Sat W w g H)
    (hR : ∀ w' g', Hl.le g g' → Sat W w' g' H → R (.returned (.bool true)) w') : Calls Tryz.prog 4 #[.float .f64 x, .int .u64 n] w R := by
  have HR := Lib.hid hR
  clear hR
  have hbl := bitsF_lt hx
  have hb2 := bitsF_twice x
  refine C.calls (args := [.float .f64 x, .int .u64 n]) Tryz.func4 rfl rfl rfl ?_
  refine go ?_
  refine E.callf Tryz.func12 rfl ?_
  refine bits_any ?_
  refine go ?_
  refine E.callf Tryz.func13 rfl ?_
  refine qof_any hbl ?_
  rw [hb2, decide_eq_true rfl]
  refine go ?_
  refine E.callf Tryz.func13 rfl ?_
  refine qof_any hn ?_
  replace hb2 := Lib.hid hb2
  generalize hq : decide (bitsF n = n) = q
  have hq2 : decide ((bitsF n : Int) = (n : Int)) = q := by rw [← hq]; exact decide_eq_decide.2 (by omega)
  replace hq2 := Lib.hid hq2
  clear hq
  refine go ?_
  refine E.callf Tryz.func7 rfl ?_
  refine hA.run (Hl.le_refl _) hs ?_
  intro w1 g1 hg1 hs
  refine go ?_
  refine E.callf Tryz.func8 rfl ?_
  refine rbits_any ?_
  refine go ?_
  rw [show decide ((bitsF x : Int) = (bitsF x : Int)) = true from decide_eq_true rfl]
  refine go ?_
  refine E.callf Tryz.func9 rfl ?_
  refine qsame_any ?_
  rw [hb2.out, decide_eq_true rfl]
  refine go ?_
  refine E.callf Tryz.func10 rfl ?_
  refine plain_any ?_
  refine go ?_
  refine E.callf Tryz.func9 rfl ?_
  refine qsame_any ?_
  rw [hb2.out, decide_eq_true rfl]
  refine go ?_
  refine E.callf Tryz.func8 rfl ?_
  refine rbits_any ?_
  refine go ?_
  rw [hq2.out]
  rw [beq_self_eq_true]
  refine go ?_
  refine E.callf Tryz.func10 rfl ?_
  refine plain_any ?_
  refine go ?_
  refine E.callf Tryz.func8 rfl ?_
  refine rbits_any ?_
  rw [hb2.out]
  refine go ?_
  rw [show decide ((bitsF x : Int) = (bitsF x : Int)) = true from decide_eq_true rfl]
  refine A.r1 ?_
  exact HR.out _ g1 hg1 hs

set_option maxHeartbeats 3200000 in
set_option maxRecDepth 100000 in
theorem qOrders_law {R : Ending → World → Prop} {W w : World} {g : Hl} {H : List HP} {x y z : Nat} (hA : AwakeOk g) (hx : x < 18446744073709551616) (hy : y < 18446744073709551616) (hz : z < 18446744073709551616) (hs : Sat W w g H)
    (hR : ∀ w' g', Hl.le g g' → Sat W w' g' H → R (.returned (.bool true)) w') : Calls Tryz.prog 5 #[.float .f64 x, .float .f64 y, .float .f64 z] w R := by
  have HR := Lib.hid hR
  clear hR
  refine C.calls (args := [.float .f64 x, .float .f64 y, .float .f64 z]) Tryz.func5 rfl rfl rfl ?_
  refine go ?_
  refine E.callf Tryz.func8 rfl ?_
  refine rbits_any ?_
  refine go ?_
  refine E.callf Tryz.func8 rfl ?_
  refine rbits_any ?_
  refine go ?_
  rw [show decide ((bitsF x : Int) = (bitsF y : Int)) = decide (bitsF x = bitsF y) from decide_eq_decide.2 (by omega), bits_same hx hy]
  refine E.callf Tryz.func14 rfl ?_
  refine qless_any hx hy ?_
  refine go ?_
  refine E.callf Tryz.func7 rfl ?_
  refine hA.run (Hl.le_refl _) hs ?_
  intro w1 g1 hg1 hs
  refine go ?_
  refine E.callf Tryz.func15 rfl ?_
  refine rless_any hx hy ?_
  refine go ?_
  rw [beq_self_eq_true]
  refine go ?_
  refine E.callf Tryz.func9 rfl ?_
  refine qsame_any ?_
  rw [bits_same hx hy]
  refine go ?_
  rw [beq_self_eq_true]
  have htr := less_trans (x := x) (y := y) (z := z)
  cases hl : lessF x y with
  | false =>
    clear hl htr
    cases hk : lessF y x with
    | false =>
      replace hk := Lib.hid hk
      refine go ?_
      refine E.callf Tryz.func14 rfl ?_
      refine qless_any hy hx ?_
      rw [hk.out]
      refine go ?_
      refine A.r1 ?_
      exact HR.out _ g1 hg1 hs
    | true =>
      replace hk := Lib.hid hk
      refine go ?_
      refine E.callf Tryz.func14 rfl ?_
      refine qless_any hy hx ?_
      rw [hk.out]
      refine go ?_
      refine A.r1 ?_
      exact HR.out _ g1 hg1 hs
  | true =>
    rw [hl] at htr
    clear hl
    generalize lessF y x = k
    cases ha : lessF y z with
    | false =>
      replace ha := Lib.hid ha
      clear htr
      refine go ?_
      refine E.callf Tryz.func14 rfl ?_
      refine qless_any hy hz ?_
      rw [ha.out]
      refine go ?_
      refine A.r1 ?_
      exact HR.out _ g1 hg1 hs
    | true =>
      rw [ha] at htr
      replace ha := Lib.hid ha
      have hb : lessF x z = true := by simpa using htr
      replace hb := Lib.hid hb
      clear htr
      refine go ?_
      refine E.callf Tryz.func14 rfl ?_
      refine qless_any hy hz ?_
      rw [ha.out]
      refine go ?_
      refine E.callf Tryz.func14 rfl ?_
      refine qless_any hx hz ?_
      rw [hb.out]
      refine go ?_
      refine A.r1 ?_
      exact HR.out _ g1 hg1 hs

/-- Is it a number, and no infinity? -/
def finF (x : Nat) : Bool := match Ieee.double.sub x x with
  | some r => Ieee.double.order r 0 == some .eq
  | none => false
theorem finF_eq {x r : Nat} (h : Ieee.double.sub x x = some r ∨ Ieee.double.sub x x = none ∧ 9218868437227405312 < r % 9223372036854775808 ∧ r < 18446744073709551616) : (Ieee.double.order r 0 == some .eq) = finF x := by
  rcases h with h | ⟨h, h2, _⟩
  · simp [finF, h]
  · have hn := nan_rung h2
    unfold nanF Ieee.Format.order at hn
    unfold finF Ieee.Format.order
    rw [h]
    cases hr : Ieee.double.read r with
    | nan s t => rfl
    | infinity s => rw [hr] at hn; cases s <;> exact absurd hn (by decide)
    | number s m e =>
      rw [hr] at hn
      simp [Ieee.Datum.order] at hn
set_option maxHeartbeats 1600000 in
set_option maxRecDepth 100000 in
theorem qfinite_any {R : Ending → World → Prop} {W w : World} {g : Hl} {H : List HP} {x : Nat} (hs : Sat W w g H) (hR : ∀ w', Sat W w' g H → R (.returned (.bool (finF x))) w') : Calls Tryz.prog 11 #[.float .f64 x] w R := by
  have HR := Lib.hid hR
  clear hR
  refine C.calls (args := [.float .f64 x]) Tryz.func11 rfl rfl rfl ?_
  refine go ?_
  refine E.fsub hs ?_
  intro r w1 hs hr
  have hf := Lib.hid (finF_eq hr)
  clear hr
  refine go ?_
  rw [show (FloatKind.f64.format.order r 0 == some Ordering.eq) = finF x from hf.out]
  refine A.r1 ?_
  exact HR.out _ hs

set_option maxHeartbeats 3200000 in
set_option maxRecDepth 100000 in
theorem qSums_law {R : Ending → World → Prop} {W w : World} {g : Hl} {H : List HP} {x y : Nat} (hA : AwakeOk g) (hx : x < 18446744073709551616) (hy : y < 18446744073709551616) (hs : Sat W w g H)
    (hR : ∀ w' g', Hl.le g g' → Sat W w' g' H → R (.returned (.bool true)) w') : Calls Tryz.prog 3 #[.float .f64 x, .float .f64 y] w R := by
  have HR := Lib.hid hR
  clear hR
  refine C.calls (args := [.float .f64 x, .float .f64 y]) Tryz.func3 rfl rfl rfl ?_
  refine go ?_
  refine E.callf Tryz.func6 rfl ?_
  refine qsum_any hs ?_
  intro w1 hs
  refine go ?_
  refine E.callf Tryz.func7 rfl ?_
  refine hA.run (Hl.le_refl _) hs ?_
  intro w2 g2 hg2 hs
  refine go ?_
  refine E.callf Tryz.func8 rfl ?_
  refine rbits_any ?_
  refine go ?_
  refine E.fadd hs ?_
  intro r w3 hs hr
  refine go ?_
  refine E.callf Tryz.func8 rfl ?_
  refine rbits_any ?_
  rw [bitsF_add hr, bitsF_sum]
  clear hr
  refine go ?_
  rw [show decide ((sumF x y : Int) = (sumF x y : Int)) = true from decide_eq_true rfl]
  refine go ?_
  refine E.callf Tryz.func6 rfl ?_
  refine qsum_any hs ?_
  intro w4 hs
  refine go ?_
  refine E.callf Tryz.func9 rfl ?_
  refine qsame_any ?_
  rw [sumF_comm y x, decide_eq_true rfl]
  refine go ?_
  refine E.pv (v := .float .f64 9223372036854775808) (Pv.unOp rfl fun w => rfl) ?_
  refine go ?_
  refine E.pv (v := .float .f64 9223372036854775808) (Pv.fmulc (by decide +kernel) rfl rfl) ?_
  refine go ?_
  refine E.callf Tryz.func6 rfl ?_
  refine qsum_any hs ?_
  intro w5 hs
  refine go ?_
  refine E.pv (v := .float .f64 9223372036854775808) (Pv.unOp rfl fun w => rfl) ?_
  refine go ?_
  refine E.pv (v := .float .f64 9223372036854775808) (Pv.fmulc (by decide +kernel) rfl rfl) ?_
  refine go ?_
  refine E.fadd hs ?_
  intro r2 w6 hs hr2
  refine go ?_
  refine E.callf Tryz.func10 rfl ?_
  refine plain_any ?_
  rw [bitsF_add hr2]
  clear hr2
  refine go ?_
  refine E.callf Tryz.func9 rfl ?_
  refine qsame_any ?_
  rw [decide_eq_true rfl]
  refine go ?_
  refine E.callf Tryz.func11 rfl ?_
  refine qfinite_any hs ?_
  intro w7 hs
  refine go ?_
  refine E.fsub hs ?_
  intro r3 w8 hs hr3
  have hf := Lib.hid (finF_eq hr3)
  clear hr3
  refine go ?_
  rw [show (FloatKind.f64.format.order r3 0 == some Ordering.eq) = finF x from hf.out, beq_self_eq_true]
  refine A.r1 ?_
  exact HR.out _ g2 hg2 hs
end Go.Proofs.YthnnhhjecgkplaaGreatDoor

/-
  The stepping engine: makes and sums in drawn regions, a stronger hold.
-/
namespace Go.Proofs.YthnnhhjecgkplaaGreatDoor
open Go.RowKit
set_option linter.unusedVariables false
set_option linter.unusedSimpArgs false
section
variable {P : Program} {n : Fm} {ρ : List (Nat × Value)} {W w w' : World} {g g' : Hl} {H H' : List HP} {Q : Exit → Act → World → Prop} {ops : Array Oper} {rest : List Oper} {d : Option Tmp} {ty : TypeId} {ps : String} {af : Array Edge} {v u z : Value} {x y : Operand} {e t : TypeId} {s bytes : Nat} {N : List (Nat × Value) → World → Prop}
/-- An own row that isn't empty lies somewhere. -/
theorem Sat.ownAt {a : Option Addr} {k c : Nat} {xs : List Value} (hs : Sat W w g (own e s (.slice a k c) k xs :: H)) (hk : 0 < k) : ∃ b, a = some ⟨b, 0, none⟩ := by
  rcases hs.owns.2 with ⟨h, _⟩ | ⟨b, _, _, h, _⟩
  · simp only [Value.slice.injEq] at h; omega
  · simp only [Value.slice.injEq] at h
    exact ⟨b, h.1⟩
/-- A place in an own row of single cells. -/
theorem E.ixo {b m c : Nat} {kd : IntKind} {i : Int} (he : ElemOf P t e z 1 bytes) (j : Nat) (h : E P n ops rest (pushv d (.pointer (some ⟨b, j, none⟩)) ρ) w Q)
    (hx : evo n ρ x = some (.slice (some ⟨b, 0, none⟩) m c) := by exact rfl) (hy : evo n ρ y = some (.int kd i) := by exact rfl) (hi : i = (j : Int) := by first | rfl | omega) (hj : j < m := by omega) : E P n ops (⟨d, .indexAddr t x y, ty, ps, af, none⟩ :: rest) ρ w Q := by
  refine E.pv (Pv.indexAddr hx hy fun w => ?_) h
  have := run_index_at he (b := b) (o := 0) (c := c) (kd := kd) hi hj w
  simpa using this
theorem wpAnyH_mono {S S' : World → Prop} (hS : ∀ w, S' w → S w) {md : Region.Mode} : ∀ (fuel : Nat) (listed : Array Bool) (a : Act) (w : World), wpAnyH P md ops Q S' fuel listed a w → wpAnyH P md ops Q S fuel listed a w
  | 0, _, _, _, h => h
  | fuel + 1, _, _, _, h => ⟨h.1, fun i hi => wpOp_mono (fun a' w' h' => ⟨hS _ h'.1, wpAnyH_mono hS fuel _ a' w' h'.2⟩) (h.2 i hi)⟩
/-- From here on more is held. -/
theorem EH.more {l : List Oper} {S : World → Prop} {fuel m : Nat} (S' : World → Prop) (hS : ∀ w, S' w → S w) (h : EH P n l S' fuel m ρ w Q) : EH P n l S fuel m ρ w Q := by
  unfold EH at *
  exact fun a ha => wpAnyH_mono hS _ _ _ _ (h a ha)
theorem Keeps.le {F : List (Nat × List Value × TypeId)} (hg : Hl.le g g') (w : World) (h : Keeps g' F w) : Keeps g F w := ⟨fun k o hk => h.1 k o (hg k o hk), h.2⟩
/-- The pool has grown: all of it is held. -/
theorem EH.pool {l : List Oper} {F : List (Nat × List Value × TypeId)} {fuel m : Nat} (hg : Hl.le g g') (h : EH P n l (Keeps g' F) fuel m ρ w Q) : EH P n l (Keeps g F) fuel m ρ w Q := EH.more _ (Keeps.le hg) h
theorem St.mks {kl kc : IntKind} {k2 : Nat} {i j : Int} (he : ElemOf P t e z s bytes) (hs : Sat W w g H) (h : ∀ a' w', Sat W w' g (own e s (.slice a' k2 k2) k2 (madeCells z.cells (k2 * s)).toList :: H) → N (pushv d (.slice a' k2 k2) ρ) w') (hb : k2 * bytes ≤ 140737488355328 := by omega)
    (hx : evo n ρ x = some (.int kl i) := by exact rfl) (hy : evo n ρ y = some (.int kc j) := by exact rfl) (hi : i = (k2 : Int) := by omega) (hj : j = (k2 : Int) := by omega) (h63 : k2 ≤ 9223372036854775807 := by omega) :
    St P n ops ⟨d, .makeSlice t x y, ty, ps, af, none⟩ ρ w N Q := by
  subst hi hj
  obtain ⟨ht, ⟨inf, hin, hz, hsz, hby⟩, hzs, hpos⟩ := he
  obtain ⟨w', hr, ho, hg⟩ := run_make_full (P := P) w w.heap.size t e inf z s ht hin hz hsz kl kc k2 (by rw [hby, Nat.mul_comm]; omega) (by unfold maxLen; omega) (Nat.le_refl _)
  exact St.val (fun a ha => by simp [execOp, ha.eval hx, ha.eval hy, hr]) (h _ _ (hs.newOwn ho ⟨hg.os, hg.tape, hg.output, hg.size, fun q hq => hg.block q hq (by simp)⟩))
theorem St.al {xs : List Value} (hs : Sat W w g H) (h : ∀ b w', Sat W w' g (blk b xs e :: H) → N (pushv d (.pointer (some ⟨b, 0, none⟩)) ρ) w') (hz : (zeroValue e).run P w = .ok z w := by go_simp; first | done | exact rfl | exact ⟨rfl, rfl⟩) (hx : z.cells.toList = xs := by exact nz_) :
    St P n ops ⟨d, .alloc e, ty, ps, af, none⟩ ρ w N Q := St.alloc hs hz hx h
theorem St.ldp {b j k : Nat} {xs vs : List Value} (st : AggOf P t k) (hs : Sat W w g H) (h : N (pushv d (.agg vs.toArray) ρ) w) (hx : evo n ρ x = some (.pointer (some ⟨b, j, none⟩)) := by exact rfl) (hf : Fd H b xs e := by exact fd_) (hv : (xs.drop j).take k = vs := by exact nz_) (hk : vs.length = k := by exact rfl) :
    St P n ops ⟨d, .load t x, ty, ps, af, none⟩ ρ w N Q := St.loads hx (run_ldp st (hf.blk hs) hv hk) h
/-- A sum of floats. -/
theorem St.fadd {s s' : TypeId} {a b : Nat} (hs : Sat W w g H) (h : ∀ r w', Sat W w' g H → (Ieee.double.add a b = some r ∨ Ieee.double.add a b = none ∧ 9218868437227405312 < r % 9223372036854775808 ∧ r < 18446744073709551616) → N (pushv d (.float .f64 r) ρ) w')
    (hx : evo n ρ x = some (.float .f64 a) := by exact rfl) (hy : evo n ρ y = some (.float .f64 b) := by exact rfl) : St P n ops ⟨d, .binOp .add s x y s', ty, ps, af, none⟩ ρ w N Q := by
  rcases run_fadd (P := P) (a := a) (b := b) w with ⟨r, h1, h2⟩ | ⟨h1, r, h3, h4, h2⟩
  · refine St.val (w' := w) (fun ac ha => ?_) (h r w hs (.inl h1))
    simp [execOp, ha.eval hx, ha.eval hy, eqGuard, binOp, h2]
  · refine St.val (w' := w.drew) (fun ac ha => ?_) (h r w.drew hs.drew (.inr ⟨h1, h3, h4⟩))
    simp [execOp, ha.eval hx, ha.eval hy, eqGuard, binOp, h2]
end
section
variable {P : Program} {n : Fm} {ρ : List (Nat × Value)} {W w w' : World} {g g' : Hl} {H H' : List HP} {Q : Exit → Act → World → Prop} {l : List Oper} {S : World → Prop} {fuel m i : Nat} {rs : List Nat} {d : Option Tmp} {ty : TypeId} {ps : String} {af : Array Edge} {gd : Option (Nat × Bool)} {F : List (Nat × List Value × TypeId)} {v z : Value} {x y : Operand} {e t : TypeId} {a : Option Addr} {len c bytes : Nat}
theorem EH.ldp {b j k : Nat} {xs vs : List Value} (st : AggOf P t k) (hs : Sat W w g H) (h : S w ∧ EH P n l S fuel (bset m i) (pushv d (.agg vs.toArray) ρ) w Q) (hr : rdy m l.length 0 l = [i] := by exact rfl) (hi : nth l i = some ⟨d, .load t x, ty, ps, af, none⟩ := by exact rfl)
    (hx : evo n ρ x = some (.pointer (some ⟨b, j, none⟩)) := by exact rfl) (hf : Fd H b xs e := by exact fd_) (hv : (xs.drop j).take k = vs := by exact nz_) (hk : vs.length = k := by exact rfl) : EH P n l S (fuel + 1) m ρ w Q :=
  EH.one (St.loads hx (run_ldp st (hf.blk hs) hv hk) h) hr hi
theorem keptp0 (hs : Sat W w g' H) (h : Keeps g' [] w → EH P n l (Keeps g' []) fuel m ρ w Q) (hg : Hl.le g g' := by first | exact Hl.le_refl _ | assumption | exact Hl.le.trans (by assumption) (by assumption)) : Keeps g [] w ∧ EH P n l (Keeps g []) fuel m ρ w Q :=
  ⟨Keeps.of0 hs hg, EH.pool hg (h (Keeps.of0 hs (Hl.le_refl _)))⟩
theorem keptp1 {b1 : Nat} {x1 : List Value} {e1 : TypeId} (hs : Sat W w g' H) (h : Keeps g' [(b1, x1, e1)] w → EH P n l (Keeps g' [(b1, x1, e1)]) fuel m ρ w Q) (hg : Hl.le g g' := by first | exact Hl.le_refl _ | assumption | exact Hl.le.trans (by assumption) (by assumption)) (h1 : Fd H b1 x1 e1 := by exact fd_) : Keeps g [(b1, x1, e1)] w ∧ EH P n l (Keeps g [(b1, x1, e1)]) fuel m ρ w Q :=
  ⟨Keeps.of1 hs hg h1, EH.pool hg (h (Keeps.of1 hs (Hl.le_refl _) h1))⟩
theorem keptp2 {b1 b2 : Nat} {x1 x2 : List Value} {e1 e2 : TypeId} (hs : Sat W w g' H) (h : Keeps g' [(b1, x1, e1), (b2, x2, e2)] w → EH P n l (Keeps g' [(b1, x1, e1), (b2, x2, e2)]) fuel m ρ w Q) (hg : Hl.le g g' := by first | exact Hl.le_refl _ | assumption | exact Hl.le.trans (by assumption) (by assumption)) (h1 : Fd H b1 x1 e1 := by exact fd_) (h2 : Fd H b2 x2 e2 := by exact fd_) : Keeps g [(b1, x1, e1), (b2, x2, e2)] w ∧ EH P n l (Keeps g [(b1, x1, e1), (b2, x2, e2)]) fuel m ρ w Q :=
  ⟨Keeps.of2 hs hg h1 h2, EH.pool hg (h (Keeps.of2 hs (Hl.le_refl _) h1 h2))⟩
theorem EH.ix1 {i1 : Nat} {xs : List Value} (he : ElemOf P t e z 1 bytes) (hp : Pr 1 g (.slice a len c) len xs) (q : Nat) (hxj : xs[q]? = some v) (hS : S w) (hSk : ∀ w, S w → Keeps g F w) (kk : ∀ b o, Rd S b o v → EH P n l S fuel (bset m i) (pushv d (.pointer (some ⟨b, o, none⟩)) ρ) w Q) {kd : IntKind} {iv : Int}
    (hr : rdy m l.length 0 l = i1 :: i :: rs := by exact rfl) (hnth : nth l i = some ⟨d, .indexAddr t x y, ty, ps, af, gd⟩ := by exact rfl) (hg : want n l ρ gd = some true := by exact rfl)
    (hx : evo n ρ x = some (.slice a len c) := by exact rfl) (hy : evo n ρ y = some (.int kd iv) := by exact rfl) (hi : iv = (q : Int) := by omega) (hj : q < len := by omega)
    (hsel : Region.noSelect l.toArray = true := by kernel_rfl) (hf : Region.free .any l.toArray (bits m l.length) i = true := by decide +kernel)
    (hQ : ∀ v c a w, Q (.panic c) (a.put d v) w → Q (.panic c) a w := by exact fun _ _ _ _ h => h) : EH P n l S (fuel + 1) m ρ w Q := by
  obtain ⟨b, o, h1, h2⟩ := run_index_el (P := P) he hp hi hj
  refine EH.take i (by rw [hr]; simp) hnth hsel hf hQ hS (yif (oi := ⟨d, .indexAddr t x y, ty, ps, af, gd⟩) hg (Pf.pv (Pv.indexAddr hx hy h1))) (kk b o ?_)
  intro w' hw'
  refine h2 w' (hSk w' hw').1 0 v ?_
  rw [List.getElem?_take, if_pos (by omega), List.getElem?_drop]
  simpa using hxj
end
/-- Within a drawn region: a state that is walked once, from wherever it is come to. -/
theorem laterK {α : Type} {P : Program} {n : Fm} {l : List Oper} {S : World → Prop} {Q : Exit → Act → World → Prop} {fuel m fuel0 m0 : Nat} {f : α → List (Nat × Value)} {M : α → World → Prop} {ρ0 : List (Nat × Value)} {w0 : World}
    (key : ∀ x w, M x w → EH P n l S fuel m (f x) w Q) (main : (∀ x w, M x w → EH P n l S fuel m (f x) w Q) → EH P n l S fuel0 m0 ρ0 w0 Q) : EH P n l S fuel0 m0 ρ0 w0 Q := main key
theorem add_nan {a b : Nat} (h : nanF a = true) : Ieee.double.add a b = none := by
  unfold nanF Ieee.Format.order at h
  unfold Ieee.Format.add
  cases ha : Ieee.double.read a with
  | nan s t => rfl
  | infinity s => rw [ha] at h; cases s <;> exact absurd h (by decide)
  | number s m e =>
    rw [ha] at h
    simp [Ieee.Datum.order] at h
end Go.Proofs.YthnnhhjecgkplaaGreatDoor

/-
  The stepping engine: strings by place and in part; what package-level variables hold.
-/
namespace Go.Proofs.YthnnhhjecgkplaaGreatDoor
open Go.RowKit
set_option linter.unusedVariables false
set_option linter.unusedSimpArgs false
section
variable {P : Program} {n : Fm} {ρ : List (Nat × Value)} {W w w' : World} {g g' : Hl} {H H' : List HP} {Q : Exit → Act → World → Prop} {ops : Array Oper} {rest : List Oper} {d : Option Tmp} {ty : TypeId} {ps : String} {af : Array Edge} {v u z : Value} {x y : Operand} {e t : TypeId} {l : List UInt8} {kd kd' : IntKind} {i j : Int}
theorem ba_size (l : List UInt8) : (ByteArray.mk l.toArray).size = l.length := by simp [ByteArray.size]
theorem ba_get (l : List UInt8) (k : Nat) (h : k < l.length) (h' : k < (ByteArray.mk l.toArray).size) : (ByteArray.mk l.toArray)[k]'h' = l[k] := by
  show (ByteArray.mk l.toArray).data[k]'(by simpa [ByteArray.size] using h') = l[k]
  simp
theorem ba_extract (l : List UInt8) (a b : Nat) : (ByteArray.mk l.toArray).extract a b = ⟨((l.drop a).take (b - a)).toArray⟩ := by
  apply ByteArray.ext
  rw [ByteArray.data_extract]
  apply Array.ext'
  simp [List.take_drop]
/-- A string's byte. -/
theorem Pv.sidx (ht : P.underlying t = some .string) (q : Nat) (hq : q < l.length) (hx : evo n ρ x = some (.string ⟨l.toArray⟩) := by exact rfl) (hy : evo n ρ y = some (.int kd i) := by exact rfl) (hi : i = (q : Int) := by first | rfl | omega) : Pv P n ρ (.index t x y) ty (.int .u8 (l[q].toNat : Int)) := Pv.mk fun a ha w d ps af g => by
  subst hi
  have h1 := run_index_string (P := P) w t ⟨l.toArray⟩ kd (q : Int) ht
  rw [dif_pos ⟨by omega, by rw [ba_size]; omega⟩] at h1
  have h2 : (ByteArray.mk l.toArray)[(q : Int).toNat]'(by rw [ba_size]; simpa using hq) = l[q] := ba_get l q hq _
  rw [h2] at h1
  simp [execOp, ha.eval hx, ha.eval hy, h1]
theorem E.sidx (ht : P.underlying t = some .string) (q : Nat) (hq : q < l.length) (h : E P n ops rest (pushv d (.int .u8 (l[q].toNat : Int)) ρ) w Q) (hx : evo n ρ x = some (.string ⟨l.toArray⟩) := by exact rfl) (hy : evo n ρ y = some (.int kd i) := by exact rfl) (hi : i = (q : Int) := by first | rfl | omega) :
    E P n ops (⟨d, .index t x y, ty, ps, af, none⟩ :: rest) ρ w Q := E.pv (Pv.sidx ht q hq hx hy hi) h
theorem Pv.negw {s : TypeId} (hx : evo n ρ x = some (.int kd i) := by exact rfl) : Pv P n ρ (.unOp .neg s x) ty (.int kd (kd.wrap (-i))) := Pv.unOp hx fun w => by simp [Op.unary, Op.intArith]
/-- A part of a string: from a place on; up to a place; between two. -/
theorem Pv.sfrom {lo : Operand} (ht : P.underlying t = some .string) (q : Nat) (hq : q ≤ l.length) (hx : evo n ρ x = some (.string ⟨l.toArray⟩) := by exact rfl) (hy : evo n ρ lo = some (.int kd i) := by exact rfl) (hi : i = (q : Int) := by first | rfl | omega) : Pv P n ρ (.slice t x (some lo) none none) ty (.string ⟨(l.drop q).toArray⟩) :=
  Pv.mk fun a ha w d ps af g => by
    subst hi
    have h1 := run_slice_string_from_if (P := P) w t ⟨l.toArray⟩ kd (q : Int) ht
    rw [if_pos ⟨by omega, by rw [ba_size]; omega⟩, ba_extract, ba_size, List.take_of_length_le (by rw [List.length_drop]; simp)] at h1
    simp only [Int.toNat_natCast] at h1
    simp [execOp, ha.eval hx, ha.eval hy, Instr.sliceAt, run_underlying ht, h1]
theorem Pv.supto {hi' : Operand} (ht : P.underlying t = some .string) (q : Nat) (hq : q ≤ l.length) (hx : evo n ρ x = some (.string ⟨l.toArray⟩) := by exact rfl) (hy : evo n ρ hi' = some (.int kd i) := by exact rfl) (hi : i = (q : Int) := by first | rfl | omega) : Pv P n ρ (.slice t x none (some hi') none) ty (.string ⟨(l.take q).toArray⟩) :=
  Pv.mk fun a ha w d ps af g => by
    subst hi
    have h1 := run_slice_string_to_if (P := P) w t ⟨l.toArray⟩ kd (q : Int) ht
    rw [if_pos ⟨by omega, by rw [ba_size]; omega⟩, ba_extract] at h1
    simp only [Int.toNat_natCast, List.drop_zero, Nat.sub_zero] at h1
    simp [execOp, ha.eval hx, ha.eval hy, Instr.sliceAt, run_underlying ht, h1]
theorem Pv.ssub {lo hi' : Operand} (ht : P.underlying t = some .string) (q r : Nat) (hqr : q ≤ r) (hr : r ≤ l.length) (hx : evo n ρ x = some (.string ⟨l.toArray⟩) := by exact rfl) (hy : evo n ρ lo = some (.int kd i) := by exact rfl) (hz : evo n ρ hi' = some (.int kd' j) := by exact rfl) (hi : i = (q : Int) := by first | rfl | omega) (hj : j = (r : Int) := by first | rfl | omega) :
    Pv P n ρ (.slice t x (some lo) (some hi') none) ty (.string ⟨((l.drop q).take (r - q)).toArray⟩) :=
  Pv.mk fun a ha w d ps af g => by
    subst hi hj
    have h1 := run_slice_string (P := P) w t ⟨l.toArray⟩ kd kd' (q : Int) (r : Int) ht (by omega) (by omega) (by rw [ba_size]; omega)
    rw [ba_extract] at h1
    simp only [Int.toNat_natCast] at h1
    simp [execOp, ha.eval hx, ha.eval hy, ha.eval hz, Instr.sliceAt, run_underlying ht, h1]
/-- a[j:] of an array in memory, an element of one cell. -/
theorem run_slice_arr {b q m : Nat} (ht : P.underlying t = some (.array m e)) (hq : ∀ w, (sizeOf e).run P w = .ok 1 w) (hi : i = (q : Int)) (hj : q < m) (w : World) : (Instr.sliceAt t (.pointer (some ⟨b, 0, none⟩)) (some (.int kd i)) none none).run P w = .ok (.slice (some ⟨b, q, none⟩) (m - q) (m - q)) w := by
  subst hi
  have h1 : ((q : Int) ≤ (m : Int)) := by omega
  have h2 : ¬ m = q := by omega
  simp [Instr.sliceAt, run_underlying ht, asIntOf, hq, Instr.sureAddr, Instr.sliceBounds, Instr.sliceBound, h1, h2, Addr.add_lit]
  omega
theorem E.slarr {b q m : Nat} {lo : Operand} (ht : P.underlying t = some (.array m e)) (hj : q < m) (h : E P n ops rest (pushv d (.slice (some ⟨b, q, none⟩) (m - q) (m - q)) ρ) w Q) (hq : ∀ w, (sizeOf e).run P w = .ok 1 w := by intro w; exact sz_)
    (hx : evo n ρ x = some (.pointer (some ⟨b, 0, none⟩)) := by exact rfl) (hy : evm n ρ (some lo) = some (some (.int kd i)) := by exact rfl) (hi : i = (q : Int) := by first | rfl | omega) : E P n ops (⟨d, .slice t x (some lo) none none, ty, ps, af, none⟩ :: rest) ρ w Q :=
  E.pv (Pv.slice hx hy rfl rfl (run_slice_arr ht hq hi hj)) h
end
/-- A part of a block as a row of bytes. -/
theorem blk_rowb {W w : World} {g : Hl} {H : List HP} {b q m : Nat} {xs : List Value} {E : TypeId} {l : List UInt8} (hs : Sat W w g (blk b xs E :: H)) (hx : xs.drop q = bs l) (hm : l.length = m) (hm2 : m ≤ 9223372036854775807) : Row 1 w (fun _ => True) (.slice (some ⟨b, q, none⟩) m m) m (bs l) :=
  ⟨by rw [bs_length, hm, Nat.mul_one], _, m, rfl, Nat.le_refl _, hm2, fun e => by simp at e, .inr ⟨b, q, xs.toArray, E, (0, 0), rfl, trivial, hs.block, by
    simp only []
    rw [hx, Nat.mul_one, List.take_of_length_le (by rw [bs_length]; omega)]⟩⟩
theorem drop_set {α : Type} {xs : List α} {i : Nat} {v : α} (h : i < xs.length) : (xs.set i v).drop i = v :: xs.drop (i + 1) := by
  rw [List.drop_eq_getElem_cons (by simpa using h), List.getElem_set_self, List.drop_set, if_pos (by omega)]
/-- What a place of a package-level variable holds, in the pool. -/
def GlC (g : Hl) (b o : Nat) (v : Value) : Prop := ∃ cur e fz, g b = some (.cells cur e fz) ∧ cur[o]? = some v
theorem GlC.mono {g g' : Hl} {b o : Nat} {v : Value} (h : GlC g b o v) (hg : Hl.le g g') : GlC g' b o v := by
  obtain ⟨c, e, f, h1, h2⟩ := h
  exact ⟨c, e, f, hg _ _ h1, h2⟩
theorem GlC.at {W w : World} {g : Hl} {H : List HP} {b o : Nat} {v : Value} (h : GlC g b o v) (hs : Sat W w g H) : w.cell? ⟨b, o, none⟩ = some v := by
  obtain ⟨c, e, f, h1, h2⟩ := h
  have := hs.pool h1
  simp [World.cell?, this, h2]
theorem GlC.of {w : World} {b o : Nat} {v : Value} (h : w.cell? ⟨b, o, none⟩ = some v) : GlC (fun k => w.heap[k]?) b o v := by
  simp only [World.cell?] at h
  unfold GlC
  cases hb : w.heap[b]? with
  | none => rw [hb] at h; simp at h
  | some ob =>
    rw [hb] at h
    cases ob with
    | cells cur e fz => exact ⟨cur, e, fz, hb, by simpa using h⟩
    | _ => simp at h
end Go.Proofs.YthnnhhjecgkplaaGreatDoor
