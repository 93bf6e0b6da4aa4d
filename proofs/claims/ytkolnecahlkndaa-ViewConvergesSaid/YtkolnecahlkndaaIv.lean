/-
  The stepping engine: calls through an interface; functions without a body; a map's copy.
-/
import Derived.Test.YtkolnecahlkndaaRg
import Derived.Laws.Externs
import Derived.Lib.ConvBytes
import Derived.Laws.Cover2
namespace Go.Proofs.Ytkolnecahlkndaa
open Go.RowKit
set_option linter.unusedVariables false
set_option linter.unusedSimpArgs false
set_option linter.unusedSectionVars false

section
variable {P : Program} {n : Fm} {ρ ρ' : List (Nat × Value)} {W w w' : World} {g g' : Hl} {H H' : List HP} {Q : Exit → Act → World → Prop} {ops : Array Oper} {rest : List Oper} {d : Option Tmp} {ty : TypeId} {ps : String} {af : Array Edge} {v u : Value} {x y : Operand} {N : List (Nat × Value) → World → Prop} {t e : TypeId}

/-- A call through an interface. -/
theorem St.inv {f : FuncId} {recv : Operand} {name : String} {xs : Array Operand} {ts : Array TypeId} {vs : List Value} {rv : Value} {fn : Func} {c : Code}
    (hf : P.funcs[f]? = some fn) (hm : (method (P.types.size + Made.depth) t u name).run P w = .ok (f, rv) w) (h : Calls P f (rv :: vs).toArray w (Ret n d ρ N Q))
    (hv : evo n ρ recv = some (.iface t u) := by exact rfl) (hx : evs n ρ xs.toList = some vs := by exact rfl) (hb : fn.body = some c := by exact rfl) (hnm : (fn.name == "runtime.NumGoroutine") = false := by exact rfl) :
    St P n ops ⟨d, .call ⟨.invoke recv name, xs, ts⟩, ty, ps, af, none⟩ ρ w N Q := St.mk fun a ha K hK => by
  rw [if_pos wanted_none]
  unfold Oper.wp
  have hnm' : ¬ fn.name = "runtime.NumGoroutine" := by simpa using hnm
  have hr : (execOp a.eval ⟨d, .call ⟨.invoke recv name, xs, ts⟩, ty, ps, af, none⟩).run P w = .ok (.enter f (rv :: vs).toArray) w := by
    simp only [execOp, resolve, ha.eval hv, ha.args hx]
    simp [invoke, callMethod, hm, callFunc, hf, hnm', hb, Result.andThen]
  rw [hr]
  refine h.mono fun e w' hq => ?_
  cases e with
  | returned v => exact hK _ _ _ hq (ha.put _ _)
  | panicked ch => exact A.use hq ha
  | outgrown => exact hq
theorem E.inv {f : FuncId} {recv : Operand} {name : String} {xs : Array Operand} {ts : Array TypeId} {vs : List Value} {rv : Value} {fn : Func} {c : Code}
    (hf : P.funcs[f]? = some fn) (hm : (method (P.types.size + Made.depth) t u name).run P w = .ok (f, rv) w) (h : Calls P f (rv :: vs).toArray w (Ret n d ρ (fun ρ' w' => E P n ops rest ρ' w' Q) Q))
    (hv : evo n ρ recv = some (.iface t u) := by exact rfl) (hx : evs n ρ xs.toList = some vs := by exact rfl) (hb : fn.body = some c := by exact rfl) (hnm : (fn.name == "runtime.NumGoroutine") = false := by exact rfl) :
    E P n ops (⟨d, .call ⟨.invoke recv name, xs, ts⟩, ty, ps, af, none⟩ :: rest) ρ w Q := E.cons (St.inv hf hm h hv hx hb hnm)

theorem run_typeInfo_some {i : TypeInfo} (h : P.info? t = some i) (w : World) : (typeInfo t).run P w = .ok i w := by simp [typeInfo, h]
/-- What an interface's row of methods says. -/
def MethOf (P : Program) (t : TypeId) (name : String) (f : FuncId) (byPtr : Bool) : Prop := ∃ i m, P.info? t = some i ∧ i.methods.find? (·.name == name) = some m ∧ m.path = #[] ∧ m.func = some (f, byPtr)
theorem MethOf.mk {name : String} {f : FuncId} {byPtr : Bool} (h : ((P.info? t).bind fun i => (i.methods.find? (·.name == name)).map fun m => (m.path.toList.isEmpty, m.func)) = some (true, some (f, byPtr))) : MethOf P t name f byPtr := by
  obtain ⟨i, hi, h⟩ := Option.bind_eq_some_iff.1 h
  obtain ⟨m, hm, h⟩ := Option.map_eq_some_iff.1 h
  simp only [Prod.mk.injEq] at h
  refine ⟨i, m, hi, hm, ?_, h.2⟩
  have := h.1
  simpa [List.isEmpty_iff] using this
/-- A method of the pointer itself. -/
theorem run_meth_ptr {name : String} {f : FuncId} {a : Option Addr} (h : MethOf P t name f true) (ht : P.underlying t = some (.pointer e)) (w : World) : (method (P.types.size + Made.depth) t (.pointer a) name).run P w = .ok (f, .pointer a) w := by
  obtain ⟨i, m, hi, hm, hp, hfn⟩ := h
  have e : P.types.size + Made.depth = (P.types.size + 99) + 1 := rfl
  rw [e]
  unfold method
  simp only [Sem.run_bind, run_typeInfo_some hi, Result.andThen_ok, hm, hp, follow, Sem.run_pure, hfn]
  unfold receiverAt
  simp only [Sem.run_bind, run_underlying ht, Result.andThen_ok, Place.get, Sem.run_pure]
theorem wrapNil {ts : Array TypeId} {t : TypeId} {a : Addr} {s m : ByteArray} : Builtin.ssaWrapNilChk_ ts t #[.pointer (some a), .string s, .string m] = pure (.pointer (some a)) := rfl
/-- A method of what it points to. -/
theorem run_meth_val {name : String} {f : FuncId} {a : Addr} (h : MethOf P t name f false) (ht : P.underlying t = some (.pointer e)) {w : World} (hl : (loadVar e a).run P w = .ok v w) : (method (P.types.size + Made.depth) t (.pointer (some a)) name).run P w = .ok (f, v) w := by
  obtain ⟨i, m, hi, hm, hp, hfn⟩ := h
  have e : P.types.size + Made.depth = (P.types.size + 99) + 1 := rfl
  rw [e]
  unfold method
  simp only [Sem.run_bind, run_typeInfo_some hi, Result.andThen_ok, hm, hp, follow, Sem.run_pure, hfn]
  unfold receiverAt
  simp only [Sem.run_bind, run_underlying ht, Result.andThen_ok, Place.get, Sem.run_pure, Array.isEmpty_empty, if_true, strVal, wrapNil, asAddr, hl]

/-- A function without a body, that the model knows. -/
theorem E.ext {f : FuncId} {xs : Array Operand} {ts : Array TypeId} {vs : List Value} {fn : Func} {ex : Array Value → Sem Value} (hf : P.funcs[f]? = some fn) (hr : (ex vs.toArray).run P w = .ok v w') (h : E P n ops rest (pushv d v ρ) w' Q) (hx : evs n ρ xs.toList = some vs := by exact rfl)
    (hnm : (fn.name == "runtime.NumGoroutine") = false := by exact rfl) (hb : fn.body.isNone = true := by exact rfl) (hn : Extern.findNext fn = none := by kernel_rfl) (he : Extern.find fn = some ex := by kernel_rfl) :
    E P n ops (⟨d, .call ⟨.value (.func f), xs, ts⟩, ty, ps, af, none⟩ :: rest) ρ w Q := E.cons (St.val (fun a ha => by
  simp only [execOp, resolve, Act.eval, ha.args hx]
  simp [Deferred.ofValue, invoke, run_callFunc_extern hf hnm hb hn he, hr, Result.andThen]) h)
end

section
variable {P : Program} {n : Fm} {ρ ρ' : List (Nat × Value)} {W w w' : World} {g g' : Hl} {H H' : List HP} {Q : Exit → Act → World → Prop} {l : List Oper} {S : World → Prop} {fuel m i : Nat} {d : Option Tmp} {ty : TypeId} {ps : String} {af : Array Edge} {v u : Value} {x y : Operand} {b j k : Nat} {xs : List Value} {e t : TypeId}
/-- In a drawn region: the one operation that may come up. -/
theorem EH.bsl {parts : Array (Nat × Operand)} {vs : List (Nat × Value)} {cs : List Value} (hs : Sat W w g H) (h : ∀ b w', Sat W w' g (blk b cs e :: H) → S w' ∧ EH P n l S fuel (bset m i) (pushv d (.slice (some ⟨b, 0, none⟩) k k) ρ) w' Q)
    (hr : rdy m l.length 0 l = [i] := by exact rfl) (hi : nth l i = some ⟨d, .buildSlice t k parts, ty, ps, af, none⟩ := by exact rfl) (hx : evp n ρ parts.toList = some vs := by exact rfl) (hrun : (Instr.buildSlice t k vs.toArray).run P w = .ok (.slice (some ⟨w.heap.size, 0, none⟩) k k) (w.alloc (.cells cs.toArray e)) := by go_simp; first | done | exact rfl | exact ⟨rfl, rfl⟩) :
    EH P n l S (fuel + 1) m ρ w Q := EH.one (St.buildSlice hs hx hrun h) hr hi
theorem EH.orb {oi : Oper} {i1 : Nat} {parts : Array (Nat × Operand)} {vs : List (Nat × Value)} {cs : List Value} (hs : Sat W w g H) (h1 : St P n l.toArray oi ρ w (fun ρ' w' => S w' ∧ EH P n l S fuel (bset m i1) ρ' w' Q) Q) (h : ∀ b w', Sat W w' g (blk b cs e :: H) → S w' ∧ EH P n l S fuel (bset m i) (pushv d (.slice (some ⟨b, 0, none⟩) k k) ρ) w' Q)
    (hr : rdy m l.length 0 l = [i1, i] := by exact rfl) (ho : nth l i1 = some oi := by exact rfl) (hi : nth l i = some ⟨d, .buildSlice t k parts, ty, ps, af, none⟩ := by exact rfl) (hx : evp n ρ parts.toList = some vs := by exact rfl) (hrun : (Instr.buildSlice t k vs.toArray).run P w = .ok (.slice (some ⟨w.heap.size, 0, none⟩) k k) (w.alloc (.cells cs.toArray e)) := by go_simp; first | done | exact rfl | exact ⟨rfl, rfl⟩) :
    EH P n l S (fuel + 1) m ρ w Q := EH.two h1 (St.buildSlice hs hx hrun h) hr ho hi
/-- Three blocks are held. -/
theorem C.held3 {id : Nat} (b1 b2 b3 : Nat) {x1 x2 x3 : List Value} {e1 e2 e3 : TypeId} (hs : Sat W w g H) (h : ∀ w', Keeps g [(b1, x1, e1), (b2, x2, e2), (b3, x3, e3)] w' → Sat W w' g H → EH P n l (Keeps g [(b1, x1, e1), (b2, x2, e2), (b3, x3, e3)]) l.length 0 ρ w' Q) (h1 : Fd H b1 x1 e1 := by exact fd_) (h2 : Fd H b2 x2 e2 := by exact fd_) (h3 : Fd H b3 x3 e3 := by exact fd_) (hm : P.follows .mixedOrders = true := by kernel_rfl) : C P n (.region id l.toArray true) ρ w Q :=
  C.held _ hs (fun w' hs' => h w' ((((Keeps.of0 hs').ofs hs' h3).ofs hs' h2).ofs hs' h1) hs') hm
theorem kept3 {G : Prop} {b1 b2 b3 : Nat} {x1 x2 x3 : List Value} {e1 e2 e3 : TypeId} (hs : Sat W w g' H) (h : Keeps g [(b1, x1, e1), (b2, x2, e2), (b3, x3, e3)] w → G) (hg : Hl.le g g' := by first | exact Hl.le_refl _ | assumption | exact Hl.le.trans (by assumption) (by assumption)) (h1 : Fd H b1 x1 e1 := by exact fd_) (h2 : Fd H b2 x2 e2 := by exact fd_) (h3 : Fd H b3 x3 e3 := by exact fd_) : Keeps g [(b1, x1, e1), (b2, x2, e2), (b3, x3, e3)] w ∧ G :=
  have hk := (((Keeps.of0 hs hg).ofs hs h3).ofs hs h2).ofs hs h1
  ⟨hk, h hk⟩
/-- Two loads, in either order. -/
theorem EH.ll {b1 b2 j1 j2 i1 : Nat} {xs1 xs2 : List Value} {e1 e2 t1 t2 ty2 : TypeId} {d2 : Option Tmp} {ps2 : String} {af2 : Array Edge} {v1 v2 : Value} (hs : Sat W w g H) (hj1 : xs1[j1]? = some v1) (hj2 : xs2[j2]? = some v2)
    (h1 : S w ∧ EH P n l S fuel (bset m i1) (pushv d v1 ρ) w Q) (h2 : S w ∧ EH P n l S fuel (bset m i) (pushv d2 v2 ρ) w Q)
    (hr : rdy m l.length 0 l = [i1, i] := by exact rfl) (ho : nth l i1 = some ⟨d, .load t1 x, ty, ps, af, none⟩ := by exact rfl) (hi : nth l i = some ⟨d2, .load t2 y, ty2, ps2, af2, none⟩ := by exact rfl)
    (hx : evo n ρ x = some (.pointer (some ⟨b1, j1, none⟩)) := by exact rfl) (hy : evo n ρ y = some (.pointer (some ⟨b2, j2, none⟩)) := by exact rfl) (hf1 : Fd H b1 xs1 e1 := by exact fd_) (hf2 : Fd H b2 xs2 e2 := by exact fd_)
    (ha1 : (isAgg t1).run P w = .ok false w := by first | (go_simp; done) | fail) (ha2 : (isAgg t2).run P w = .ok false w := by first | (go_simp; done) | fail) :
    EH P n l S (fuel + 1) m ρ w Q := EH.two (St.load hs hx hf1 hj1 ha1 h1) (St.load hs hy hf2 hj2 ha2 h2) hr ho hi
theorem EH.ora {oi : Oper} {i1 : Nat} {z : Value} (hs : Sat W w g H) (h1 : St P n l.toArray oi ρ w (fun ρ' w' => S w' ∧ EH P n l S fuel (bset m i1) ρ' w' Q) Q) (h : ∀ b w', Sat W w' g (blk b xs e :: H) → S w' ∧ EH P n l S fuel (bset m i) (pushv d (.pointer (some ⟨b, 0, none⟩)) ρ) w' Q)
    (hr : rdy m l.length 0 l = [i1, i] := by exact rfl) (ho : nth l i1 = some oi := by exact rfl) (hi : nth l i = some ⟨d, .alloc e, ty, ps, af, none⟩ := by exact rfl) (hz : (zeroValue e).run P w = .ok z w := by go_simp; first | done | exact rfl | exact ⟨rfl, rfl⟩) (hx : z.cells.toList = xs := by exact nz_) :
    EH P n l S (fuel + 1) m ρ w Q := EH.two h1 (St.alloc hs hz hx h) hr ho hi
theorem EH.ba {i1 : Nat} {z : Value} {e2 ty2 : TypeId} {d2 : Option Tmp} {ps2 : String} {af2 : Array Edge} {parts : Array (Nat × Operand)} {vs : List (Nat × Value)} {cs : List Value} (hs : Sat W w g H) (h1 : ∀ b w', Sat W w' g (blk b cs e :: H) → S w' ∧ EH P n l S fuel (bset m i1) (pushv d (.slice (some ⟨b, 0, none⟩) k k) ρ) w' Q) (h : ∀ b w', Sat W w' g (blk b xs e2 :: H) → S w' ∧ EH P n l S fuel (bset m i) (pushv d2 (.pointer (some ⟨b, 0, none⟩)) ρ) w' Q)
    (hr : rdy m l.length 0 l = [i1, i] := by exact rfl) (ho : nth l i1 = some ⟨d, .buildSlice t k parts, ty, ps, af, none⟩ := by exact rfl) (hi : nth l i = some ⟨d2, .alloc e2, ty2, ps2, af2, none⟩ := by exact rfl)
    (hp : evp n ρ parts.toList = some vs := by exact rfl) (hrun : (Instr.buildSlice t k vs.toArray).run P w = .ok (.slice (some ⟨w.heap.size, 0, none⟩) k k) (w.alloc (.cells cs.toArray e)) := by go_simp; first | done | exact rfl | exact ⟨rfl, rfl⟩) (hz : (zeroValue e2).run P w = .ok z w := by go_simp; first | done | exact rfl | exact ⟨rfl, rfl⟩) (hx : z.cells.toList = xs := by exact nz_) :
    EH P n l S (fuel + 1) m ρ w Q := EH.two (St.buildSlice hs hp hrun h1) (St.alloc hs hz hx h) hr ho hi
theorem EH.al {z : Value} (hs : Sat W w g H) (h : ∀ b w', Sat W w' g (blk b xs e :: H) → S w' ∧ EH P n l S fuel (bset m i) (pushv d (.pointer (some ⟨b, 0, none⟩)) ρ) w' Q)
    (hr : rdy m l.length 0 l = [i] := by exact rfl) (hi : nth l i = some ⟨d, .alloc e, ty, ps, af, none⟩ := by exact rfl) (hz : (zeroValue e).run P w = .ok z w := by go_simp; first | done | exact rfl | exact ⟨rfl, rfl⟩) (hx : z.cells.toList = xs := by exact nz_) :
    EH P n l S (fuel + 1) m ρ w Q := EH.one (St.alloc hs hz hx h) hr hi
theorem EH.bx (hs : Sat W w g H) (h : ∀ b w', Sat W w' g (blk b xs e :: H) → S w' ∧ EH P n l S fuel (bset m i) (pushv d (.pointer (some ⟨b, 0, none⟩)) ρ) w' Q)
    (hr : rdy m l.length 0 l = [i] := by exact rfl) (hi : nth l i = some ⟨d, .box e x, ty, ps, af, none⟩ := by exact rfl) (hv : evo n ρ x = some v := by exact rfl) (hx : v.cells.toList = xs := by exact nz_) :
    EH P n l S (fuel + 1) m ρ w Q := EH.one (St.box hs hv hx h) hr hi
theorem EH.sto {vs ys : List Value} (hs : Sat W w g H) (h : ∀ w', Sat W w' g H' → S w' ∧ EH P n l S fuel (bset m i) ρ w' Q)
    (hr : rdy m l.length 0 l = [i] := by exact rfl) (hi : nth l i = some ⟨none, .store t x y, ty, ps, af, none⟩ := by exact rfl) (hx : evo n ρ x = some (.pointer (some ⟨b, j, none⟩)) := by exact rfl) (hy : evo n ρ y = some v := by exact rfl) (hv : v.cells.toList = vs := by exact nz_) (hf : Fd H b xs e := by exact fd_) (hsp : spl xs j vs = ys := by exact nz_) (hu : Up b xs ys e H H' := by exact up_) (hj : Nat.ble (j + vs.length) xs.length = true := by exact rfl) (h1 : vs.all Value.oneCell' = true := by exact rfl) (ht : (sizeOf t).run P w = .ok vs.length w := by exact sz_) :
    EH P n l S (fuel + 1) m ρ w Q := EH.one (St.store hs hx hy hv (by subst hsp; exact hu) hj h1 ht h) hr hi
theorem EH.ld (hs : Sat W w g H) (h : S w ∧ EH P n l S fuel (bset m i) (pushv d v ρ) w Q)
    (hr : rdy m l.length 0 l = [i] := by exact rfl) (hi : nth l i = some ⟨d, .load t x, ty, ps, af, none⟩ := by exact rfl) (hx : evo n ρ x = some (.pointer (some ⟨b, j, none⟩)) := by exact rfl) (hf : Fd H b xs e := by exact fd_) (hj : xs[j]? = some v := by exact rfl) (ha : (isAgg t).run P w = .ok false w := by first | (go_simp; done) | fail) :
    EH P n l S (fuel + 1) m ρ w Q := EH.one (St.load hs hx hf hj ha h) hr hi
theorem EH.app {s : Operand} {z : Value} {size bytes q c : Nat} {a : Option Addr} {news : List Value} (he : ElemOf P t e z size bytes) (hs : Sat W w g (own e size (.slice a k c) k xs :: H)) {D : Nat → Prop} (hrow : Row size w D u q news)
    (h : ∀ a' c' w', k + q ≤ c' → c' ≤ 9223372036854775807 → Sat W w' g (own e size (.slice a' (k + q) c') (k + q) (xs ++ news) :: H) → S w' ∧ EH P n l S fuel (bset m i) (pushv d (.slice a' (k + q) c') ρ) w' Q)
    (hr : rdy m l.length 0 l = [i] := by exact rfl) (hi : nth l i = some ⟨d, .call ⟨.builtin .append, #[s, y], #[t, t]⟩, ty, ps, af, none⟩ := by exact rfl) (h63 : k + q ≤ 9223372036854775807 := by omega) (hbytes : (k + q) * bytes ≤ 140737488355328 := by omega)
    (hx : evo n ρ s = some (.slice a k c) := by exact rfl) (hy : evo n ρ y = some u := by exact rfl) (h1 : ∀ x ∈ news, x.oneCell' = true := by first | exact bs_one _ | (intro u hu; simp only [List.mem_cons, List.not_mem_nil, or_false] at hu; rcases hu with rfl | rfl | rfl <;> exact rfl)) :
    EH P n l S (fuel + 1) m ρ w Q := EH.one (St.append he hs hrow h1 h63 hbytes hx hy h) hr hi
end

section
variable {P : Program} {n : Fm} {ρ : List (Nat × Value)} {W w w' : World} {g g' : Hl} {H H' : List HP} {Q : Exit → Act → World → Prop} {ops : Array Oper} {rest : List Oper} {d : Option Tmp} {ty : TypeId} {ps : String} {af : Array Edge} {v u : Value} {x y : Operand} {e t : TypeId}
/-- []byte(s): the bytes are the pool's. -/
theorem E.bytes {l : List UInt8} {dt : TypeId} (h1 : P.underlying t = some .string) (h2 : P.underlying dt = some (.slice e)) (h3 : P.underlying e = some (.int .u8)) (hs : Sat W w g H) (hl : l.length ≤ 1000000000)
    (h : ∀ b c w' g', Hl.le g g' → Sat W w' g' H → Pr 1 g' (.slice (some ⟨b, 0, none⟩) l.length c) l.length (bs l) → E P n ops rest (pushv d (.slice (some ⟨b, 0, none⟩) l.length c) ρ) w' Q) (hx : evo n ρ x = some (.string ⟨l.toArray⟩) := by exact rfl) :
    E P n ops (⟨d, .convert t dt x, ty, ps, af, none⟩ :: rest) ρ w Q := by
  have hr := Go.Lib.run_convert_string_bytes w t dt e ⟨l.toArray⟩ h1 h2 h3
  have hsz : (⟨l.toArray⟩ : ByteArray).size = l.length := by simp [ByteArray.size]
  rw [hsz] at hr
  have hn : Sat W (Go.Lib.bytesWorld w e ⟨l.toArray⟩) g (obj w.heap.size (.cells (Go.Lib.bytesCells w e ⟨l.toArray⟩) e ((Go.Lib.bytesCells w e ⟨l.toArray⟩).size, (Go.Lib.bytesCells w e ⟨l.toArray⟩).size + 1)) :: H) := by
    refine hs.new (Nat.le_refl _) ?_ ?_ ?_ (fun k hk => Go.Lib.bytesWorld_at_old w e _ k hk) (Go.Lib.bytesWorld_at_new w e _)
    · simp [Go.Lib.bytesWorld, World.freeze, World.alloc, World.drew, -World.alloc_eq, -World.drew_eq]
    · simp [Go.Lib.bytesWorld, World.freeze, World.alloc, World.drew, -World.alloc_eq, -World.drew_eq]
    · simp [Go.Lib.bytesWorld, World.freeze, World.alloc, World.drew, -World.alloc_eq, -World.drew_eq]
  obtain ⟨h1, e1, e2, e3, hs2⟩ := hn.publish
  have e1' : h1 = Hl.one w.heap.size (.cells (Go.Lib.bytesCells w e ⟨l.toArray⟩) e ((Go.Lib.bytesCells w e ⟨l.toArray⟩).size, (Go.Lib.bytesCells w e ⟨l.toArray⟩).size + 1)) := e1
  have hcap : l.length ≤ grownCap w l.length 0 e ∧ grownCap w l.length 0 e ≤ 9223372036854775807 := by
    unfold grownCap
    simp only [Question.cut]
    have h0 : 0 < 2 ^ 63 - l.length := by omega
    generalize w.tape w.drawn (Question.appendCap l.length 0 e) = T
    have h1 := Nat.mod_lt T h0
    generalize T % (2 ^ 63 - l.length) = T' at h1 ⊢
    constructor <;> omega
  refine E.cons (St.val (v := .slice (some ⟨w.heap.size, 0, none⟩) l.length (grownCap w l.length 0 e)) (w' := Go.Lib.bytesWorld w e ⟨l.toArray⟩) (fun a ha => by simp [execOp, ha.eval hx, hr]) (h _ _ _ _ e2 hs2 ?_))
  refine ⟨by simp, some ⟨w.heap.size, 0, none⟩, grownCap w l.length 0 e, rfl, hcap.1, by unfold maxLen; omega, fun q => by simp at q, Or.inr ⟨w.heap.size, 0, _, _, _, rfl, e3 _ _ (show h1 w.heap.size = some _ from by rw [e1']; simp only [Hl.one, if_true]; rfl), ?_⟩⟩
  simp only [Go.Lib.bytesCells, List.drop_zero, Nat.mul_one, Array.toList_append, Array.toList_map, List.map_toArray]
  rw [List.take_append_of_le_length (by simp), List.take_of_length_le (by simp)]
  simp [bs]

/-! Floats. -/
/-- Is it no number? -/
def nanF (b : Nat) : Bool := Ieee.double.order b b != some .eq
theorem Pv.fne {b c : Nat} (hx : evo n ρ x = some (.float .f64 b)) (hy : evo n ρ y = some (.float .f64 c)) {s s' : TypeId} : Pv P n ρ (.binOp .neq s x y s') ty (.bool (Ieee.double.order b c != some .eq)) := Pv.binOp hx hy (fun w => by simp [eqGuard]) fun w => by
  rw [binOp_float_cmp_neq]
  rfl
theorem run_fadd {a b : Nat} (w : World) : (∃ r, Ieee.double.add a b = some r ∧ (Op.floatArith .add .f64 a b).run P w = .ok (.float .f64 r) w) ∨ (Ieee.double.add a b = none ∧ ∃ r, 9218868437227405312 < r % 9223372036854775808 ∧ r < 18446744073709551616 ∧ (Op.floatArith .add .f64 a b).run P w = .ok (.float .f64 r) w.drew) := by
  have e0 : FloatKind.f64.format.add a b = Ieee.double.add a b := rfl
  cases hh : Ieee.double.add a b with
  | some r => exact .inl ⟨r, rfl, by simp [Op.floatArith, e0, hh]⟩
  | none =>
    refine .inr ⟨rfl, (Question.nanBits .f64 a b).cut (w.tape w.drawn (.nanBits .f64 a b)), ?_, ?_, ?_⟩
    · simp only [Question.cut]
      generalize w.tape w.drawn (.nanBits .f64 a b) = T
      have h1 : T % 2 = 0 ∨ T % 2 = 1 := by omega
      have h2 : T / 2 % (2 ^ 52 - 1) < 2 ^ 52 - 1 := Nat.mod_lt _ (by decide)
      generalize T / 2 % (2 ^ 52 - 1) = q at h2 ⊢
      rcases h1 with h1 | h1 <;> rw [h1] <;> omega
    · simp only [Question.cut]
      generalize w.tape w.drawn (.nanBits .f64 a b) = T
      have h1 : T % 2 = 0 ∨ T % 2 = 1 := by omega
      have h2 : T / 2 % (2 ^ 52 - 1) < 2 ^ 52 - 1 := Nat.mod_lt _ (by decide)
      generalize T / 2 % (2 ^ 52 - 1) = q at h2 ⊢
      rcases h1 with h1 | h1 <;> rw [h1] <;> omega
    · simp [Op.floatArith, e0, hh, Question.forced]
/-- A sum of floats. -/
theorem E.fadd {s s' : TypeId} {a b : Nat} (hs : Sat W w g H) (h : ∀ r w', Sat W w' g H → (Ieee.double.add a b = some r ∨ Ieee.double.add a b = none ∧ 9218868437227405312 < r % 9223372036854775808 ∧ r < 18446744073709551616) → E P n ops rest (pushv d (.float .f64 r) ρ) w' Q)
    (hx : evo n ρ x = some (.float .f64 a) := by exact rfl) (hy : evo n ρ y = some (.float .f64 b) := by exact rfl) : E P n ops (⟨d, .binOp .add s x y s', ty, ps, af, none⟩ :: rest) ρ w Q := by
  rcases run_fadd (P := P) (a := a) (b := b) w with ⟨r, h1, h2⟩ | ⟨h1, r, h3, h4, h2⟩
  · refine E.cons (St.val (w' := w) (fun ac ha => ?_) (h r w hs (.inl h1)))
    simp [execOp, ha.eval hx, ha.eval hy, eqGuard, binOp, h2]
  · refine E.cons (St.val (w' := w.drew) (fun ac ha => ?_) (h r w.drew hs.drew (.inr ⟨h1, h3, h4⟩)))
    simp [execOp, ha.eval hx, ha.eval hy, eqGuard, binOp, h2]
theorem nan_rung {r : Nat} (h : 9218868437227405312 < r % 9223372036854775808) : nanF r = true := by
  have hr : ∃ s t, Ieee.double.read r = .nan s t := by
    have e1 : Ieee.double.signWeight = 9223372036854775808 := by decide
    have e2 : Ieee.double.binade = 4503599627370496 := by decide
    have e3 : Ieee.double.infRung = 9218868437227405312 := by decide
    refine ⟨r / 9223372036854775808 % 2 == 1, r % 9223372036854775808 - 9218868437227405312, ?_⟩
    unfold Ieee.Format.read
    simp only [e1, e2, e3]
    rw [if_neg (by omega), if_neg (by omega), if_neg (by omega)]
  obtain ⟨s, t, hr⟩ := hr
  simp only [nanF, Ieee.Format.order, hr, Ieee.Datum.order]
  rfl
end

section
variable {P : Program} {n : Fm} {ρ : List (Nat × Value)} {w : World} {Q : Exit → Act → World → Prop} {ops : Array Oper} {rest : List Oper} {d : Option Tmp} {ty : TypeId} {ps : String} {af : Array Edge} {x y : Operand} {e t : TypeId}
/-- &a[j] of an array in memory, an element of one cell. -/
theorem run_index_arr {b o j m : Nat} {kd : IntKind} {i : Int} (ht : P.underlying t = some (.array m e)) (hq : ∀ w, (sizeOf e).run P w = .ok 1 w) (hi : i = (j : Int)) (hj : j < m) (w : World) : (Instr.indexAt t (.pointer (some ⟨b, o, none⟩)) (.int kd i)).run P w = .ok (.pointer (some ⟨b, o + j, none⟩)) w := by
  subst hi
  simp [Instr.indexAt, run_underlying ht, asIntOf, hq, go_sem, hj, Addr.add_lit]
theorem E.ixa {b o m : Nat} {kd : IntKind} {i : Int} (j : Nat) (ht : P.underlying t = some (.array m e)) (h : E P n ops rest (pushv d (.pointer (some ⟨b, o + j, none⟩)) ρ) w Q) (hq : ∀ w, (sizeOf e).run P w = .ok 1 w := by intro w; exact sz_)
    (hx : evo n ρ x = some (.pointer (some ⟨b, o, none⟩)) := by exact rfl) (hy : evo n ρ y = some (.int kd i) := by exact rfl) (hi : i = (j : Int) := by omega) (hj : j < m := by omega) : E P n ops (⟨d, .indexAddr t x y, ty, ps, af, none⟩ :: rest) ρ w Q :=
  E.pv (Pv.indexAddr hx hy (run_index_arr ht hq hi hj)) h
end

/-- What is left is walked once, for all branches that come to it: 'apply later (f := ..) (M := ..)', the branches first. -/
theorem later {α : Type} {P : Program} {n : Fm} {c : Code} {Q : Exit → Act → World → Prop} {f : α → List (Nat × Value)} {M : α → World → Prop} {G : Prop} (main : (∀ x w, M x w → C P n c (f x) w Q) → G) (key : ∀ x w, M x w → C P n c (f x) w Q) : G := main key
end Go.Proofs.Ytkolnecahlkndaa
