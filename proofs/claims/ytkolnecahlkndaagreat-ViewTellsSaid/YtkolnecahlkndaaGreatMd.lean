/-
  The stepping engine: calls through an interface; functions without a body; a map's copy.
-/
import Derived.Test.YtkolnecahlkndaaGreatMc
import Derived.Laws.Externs
import Derived.Lib.ConvBytes
import Derived.Laws.Cover2
import Derived.Test.YtkolnecahlkndaaGreatProg
import Derived.WalkKit
namespace Go.Proofs.YtkolnecahlkndaaGreat
open Go.RowKit
set_option linter.unusedVariables false
set_option linter.unusedSimpArgs false
set_option linter.unusedSectionVars false

section
variable {P : Program} {n : Fm} {ρ ρ' : List (Nat × Value)} {W w w' : World} {g g' : Hl} {H H' : List HP} {Q : Exit → Act → World → Prop} {ops : Array Oper} {rest : List Oper} {d : Option Tmp} {ty : TypeId} {ps : String} {af : Array Edge} {v u : Value} {x y : Operand} {N : List (Nat × Value) → World → Prop} {t e : TypeId}

/-- A call through an interface. -/
theorem St.inv {f : FuncId} {recv : Operand} {name : String} {xs : Array Operand} {ts : Array TypeId} {vs : List Value} {rv : Value} {fn : Func} {c : Code}
    (hf : P.funcs[f]? = some fn) (hm : (method (P.types.size + Made.depth) t u name).run P w = .ok (f, rv) w) (h : Calls P f (rv :: vs).toArray w (Ret n d ρ N Q))
    (hv : evo n ρ recv = some (.iface t u) := by exact rfl) (hx : evs n ρ xs.toList = some vs := by exact rfl) (hb : fn.body = some c := by exact rfl) (hnm : (fn.name == "runtime.NumGoroutine") = false := by exact rfl) :
    St P n ops ⟨d, .call ⟨.invoke recv name, xs, ts⟩, ty, ps, af, none⟩ ρ w N Q := St.mk fun a ha K hK => by
  rw [if_pos wanted_none]
  unfold Oper.wp
  have hnm' : ¬ fn.name = "runtime.NumGoroutine" := by simpa using hnm
  have hr : (execOp a.eval ⟨d, .call ⟨.invoke recv name, xs, ts⟩, ty, ps, af, none⟩).run P w = .ok (.enter f (rv :: vs).toArray) w := by
    simp only [execOp, resolve, ha.eval hv, ha.args hx]
    simp [invoke, callMethod, hm, callFunc, hf, hnm', hb, Result.andThen]
  rw [hr]
  refine h.mono fun e w' hq => ?_
  cases e with
  | returned v => exact hK _ _ _ hq (ha.put _ _)
  | panicked ch => exact A.use hq ha
  | outgrown => exact hq
theorem E.inv {f : FuncId} {recv : Operand} {name : String} {xs : Array Operand} {ts : Array TypeId} {vs : List Value} {rv : Value} {fn : Func} {c : Code}
    (hf : P.funcs[f]? = some fn) (hm : (method (P.types.size + Made.depth) t u name).run P w = .ok (f, rv) w) (h : Calls P f (rv :: vs).toArray w (Ret n d ρ (fun ρ' w' => E P n ops rest ρ' w' Q) Q))
    (hv : evo n ρ recv = some (.iface t u) := by exact rfl) (hx : evs n ρ xs.toList = some vs := by exact rfl) (hb : fn.body = some c := by exact rfl) (hnm : (fn.name == "runtime.NumGoroutine") = false := by exact rfl) :
    E P n ops (⟨d, .call ⟨.invoke recv name, xs, ts⟩, ty, ps, af, none⟩ :: rest) ρ w Q := E.cons (St.inv hf hm h hv hx hb hnm)

theorem run_typeInfo_some {i : TypeInfo} (h : P.info? t = some i) (w : World) : (typeInfo t).run P w = .ok i w := by simp [typeInfo, h]
/-- What an interface's row of methods says. -/
def MethOf (P : Program) (t : TypeId) (name : String) (f : FuncId) (byPtr : Bool) : Prop := ∃ i m, P.info? t = some i ∧ i.methods.find? (·.name == name) = some m ∧ m.path = #[] ∧ m.func = some (f, byPtr)
theorem MethOf.mk {name : String} {f : FuncId} {byPtr : Bool} (h : ((P.info? t).bind fun i => (i.methods.find? (·.name == name)).map fun m => (m.path.toList.isEmpty, m.func)) = some (true, some (f, byPtr))) : MethOf P t name f byPtr := by
  obtain ⟨i, hi, h⟩ := Option.bind_eq_some_iff.1 h
  obtain ⟨m, hm, h⟩ := Option.map_eq_some_iff.1 h
  simp only [Prod.mk.injEq] at h
  refine ⟨i, m, hi, hm, ?_, h.2⟩
  have := h.1
  simpa [List.isEmpty_iff] using this
/-- A method of the pointer itself. -/
theorem run_meth_ptr {name : String} {f : FuncId} {a : Option Addr} (h : MethOf P t name f true) (ht : P.underlying t = some (.pointer e)) (w : World) : (method (P.types.size + Made.depth) t (.pointer a) name).run P w = .ok (f, .pointer a) w := by
  obtain ⟨i, m, hi, hm, hp, hfn⟩ := h
  have e : P.types.size + Made.depth = (P.types.size + 99) + 1 := rfl
  rw [e]
  unfold method
  simp only [Sem.run_bind, run_typeInfo_some hi, Result.andThen_ok, hm, hp, follow, Sem.run_pure, hfn]
  unfold receiverAt
  simp only [Sem.run_bind, run_underlying ht, Result.andThen_ok, Place.get, Sem.run_pure]
theorem wrapNil {ts : Array TypeId} {t : TypeId} {a : Addr} {s m : ByteArray} : Builtin.ssaWrapNilChk_ ts t #[.pointer (some a), .string s, .string m] = pure (.pointer (some a)) := rfl
/-- A method of what it points to. -/
theorem run_meth_val {name : String} {f : FuncId} {a : Addr} (h : MethOf P t name f false) (ht : P.underlying t = some (.pointer e)) {w : World} (hl : (loadVar e a).run P w = .ok v w) : (method (P.types.size + Made.depth) t (.pointer (some a)) name).run P w = .ok (f, v) w := by
  obtain ⟨i, m, hi, hm, hp, hfn⟩ := h
  have e : P.types.size + Made.depth = (P.types.size + 99) + 1 := rfl
  rw [e]
  unfold method
  simp only [Sem.run_bind, run_typeInfo_some hi, Result.andThen_ok, hm, hp, follow, Sem.run_pure, hfn]
  unfold receiverAt
  simp only [Sem.run_bind, run_underlying ht, Result.andThen_ok, Place.get, Sem.run_pure, Array.isEmpty_empty, if_true, strVal, wrapNil, asAddr, hl]

/-- A function without a body, that the model knows. -/
theorem E.ext {f : FuncId} {xs : Array Operand} {ts : Array TypeId} {vs : List Value} {fn : Func} {ex : Array Value → Sem Value} (hf : P.funcs[f]? = some fn) (hr : (ex vs.toArray).run P w = .ok v w') (h : E P n ops rest (pushv d v ρ) w' Q) (hx : evs n ρ xs.toList = some vs := by exact rfl)
    (hnm : (fn.name == "runtime.NumGoroutine") = false := by exact rfl) (hb : fn.body.isNone = true := by exact rfl) (hn : Extern.findNext fn = none := by kernel_rfl) (he : Extern.find fn = some ex := by kernel_rfl) :
    E P n ops (⟨d, .call ⟨.value (.func f), xs, ts⟩, ty, ps, af, none⟩ :: rest) ρ w Q := E.cons (St.val (fun a ha => by
  simp only [execOp, resolve, Act.eval, ha.args hx]
  simp [Deferred.ofValue, invoke, run_callFunc_extern hf hnm hb hn he, hr, Result.andThen]) h)
end

section
variable {P : Program} {n : Fm} {ρ ρ' : List (Nat × Value)} {W w w' : World} {g g' : Hl} {H H' : List HP} {Q : Exit → Act → World → Prop} {l : List Oper} {S : World → Prop} {fuel m i : Nat} {d : Option Tmp} {ty : TypeId} {ps : String} {af : Array Edge} {v u : Value} {x y : Operand} {b j k : Nat} {xs : List Value} {e t : TypeId}
/-- In a drawn region: the one operation that may come up. -/
theorem EH.bsl {parts : Array (Nat × Operand)} {vs : List (Nat × Value)} {cs : List Value} (hs : Sat W w g H) (h : ∀ b w', Sat W w' g (blk b cs e :: H) → S w' ∧ EH P n l S fuel (bset m i) (pushv d (.slice (some ⟨b, 0, none⟩) k k) ρ) w' Q)
    (hr : rdy m l.length 0 l = [i] := by exact rfl) (hi : nth l i = some ⟨d, .buildSlice t k parts, ty, ps, af, none⟩ := by exact rfl) (hx : evp n ρ parts.toList = some vs := by exact rfl) (hrun : (Instr.buildSlice t k vs.toArray).run P w = .ok (.slice (some ⟨w.heap.size, 0, none⟩) k k) (w.alloc (.cells cs.toArray e)) := by go_simp; first | done | exact rfl | exact ⟨rfl, rfl⟩) :
    EH P n l S (fuel + 1) m ρ w Q := EH.one (St.buildSlice hs hx hrun h) hr hi
theorem EH.orb {oi : Oper} {i1 : Nat} {parts : Array (Nat × Operand)} {vs : List (Nat × Value)} {cs : List Value} (hs : Sat W w g H) (h1 : St P n l.toArray oi ρ w (fun ρ' w' => S w' ∧ EH P n l S fuel (bset m i1) ρ' w' Q) Q) (h : ∀ b w', Sat W w' g (blk b cs e :: H) → S w' ∧ EH P n l S fuel (bset m i) (pushv d (.slice (some ⟨b, 0, none⟩) k k) ρ) w' Q)
    (hr : rdy m l.length 0 l = [i1, i] := by exact rfl) (ho : nth l i1 = some oi := by exact rfl) (hi : nth l i = some ⟨d, .buildSlice t k parts, ty, ps, af, none⟩ := by exact rfl) (hx : evp n ρ parts.toList = some vs := by exact rfl) (hrun : (Instr.buildSlice t k vs.toArray).run P w = .ok (.slice (some ⟨w.heap.size, 0, none⟩) k k) (w.alloc (.cells cs.toArray e)) := by go_simp; first | done | exact rfl | exact ⟨rfl, rfl⟩) :
    EH P n l S (fuel + 1) m ρ w Q := EH.two h1 (St.buildSlice hs hx hrun h) hr ho hi
/-- Three blocks are held. -/
theorem C.held3 {id : Nat} (b1 b2 b3 : Nat) {x1 x2 x3 : List Value} {e1 e2 e3 : TypeId} (hs : Sat W w g H) (h : ∀ w', Keeps g [(b1, x1, e1), (b2, x2, e2), (b3, x3, e3)] w' → Sat W w' g H → EH P n l (Keeps g [(b1, x1, e1), (b2, x2, e2), (b3, x3, e3)]) l.length 0 ρ w' Q) (h1 : Fd H b1 x1 e1 := by exact fd_) (h2 : Fd H b2 x2 e2 := by exact fd_) (h3 : Fd H b3 x3 e3 := by exact fd_) (hm : P.follows .mixedOrders = true := by kernel_rfl) : C P n (.region id l.toArray true) ρ w Q :=
  C.held _ hs (fun w' hs' => h w' ((((Keeps.of0 hs').ofs hs' h3).ofs hs' h2).ofs hs' h1) hs') hm
theorem kept3 {G : Prop} {b1 b2 b3 : Nat} {x1 x2 x3 : List Value} {e1 e2 e3 : TypeId} (hs : Sat W w g' H) (h : Keeps g [(b1, x1, e1), (b2, x2, e2), (b3, x3, e3)] w → G) (hg : Hl.le g g' := by first | exact Hl.le_refl _ | assumption | exact Hl.le.trans (by assumption) (by assumption)) (h1 : Fd H b1 x1 e1 := by exact fd_) (h2 : Fd H b2 x2 e2 := by exact fd_) (h3 : Fd H b3 x3 e3 := by exact fd_) : Keeps g [(b1, x1, e1), (b2, x2, e2), (b3, x3, e3)] w ∧ G :=
  have hk := (((Keeps.of0 hs hg).ofs hs h3).ofs hs h2).ofs hs h1
  ⟨hk, h hk⟩
/-- Two loads, in either order. -/
theorem EH.ll {b1 b2 j1 j2 i1 : Nat} {xs1 xs2 : List Value} {e1 e2 t1 t2 ty2 : TypeId} {d2 : Option Tmp} {ps2 : String} {af2 : Array Edge} {v1 v2 : Value} (hs : Sat W w g H) (hj1 : xs1[j1]? = some v1) (hj2 : xs2[j2]? = some v2)
    (h1 : S w ∧ EH P n l S fuel (bset m i1) (pushv d v1 ρ) w Q) (h2 : S w ∧ EH P n l S fuel (bset m i) (pushv d2 v2 ρ) w Q)
    (hr : rdy m l.length 0 l = [i1, i] := by exact rfl) (ho : nth l i1 = some ⟨d, .load t1 x, ty, ps, af, none⟩ := by exact rfl) (hi : nth l i = some ⟨d2, .load t2 y, ty2, ps2, af2, none⟩ := by exact rfl)
    (hx : evo n ρ x = some (.pointer (some ⟨b1, j1, none⟩)) := by exact rfl) (hy : evo n ρ y = some (.pointer (some ⟨b2, j2, none⟩)) := by exact rfl) (hf1 : Fd H b1 xs1 e1 := by exact fd_) (hf2 : Fd H b2 xs2 e2 := by exact fd_)
    (ha1 : (isAgg t1).run P w = .ok false w := by first | (go_simp; done) | fail) (ha2 : (isAgg t2).run P w = .ok false w := by first | (go_simp; done) | fail) :
    EH P n l S (fuel + 1) m ρ w Q := EH.two (St.load hs hx hf1 hj1 ha1 h1) (St.load hs hy hf2 hj2 ha2 h2) hr ho hi
theorem EH.ora {oi : Oper} {i1 : Nat} {z : Value} (hs : Sat W w g H) (h1 : St P n l.toArray oi ρ w (fun ρ' w' => S w' ∧ EH P n l S fuel (bset m i1) ρ' w' Q) Q) (h : ∀ b w', Sat W w' g (blk b xs e :: H) → S w' ∧ EH P n l S fuel (bset m i) (pushv d (.pointer (some ⟨b, 0, none⟩)) ρ) w' Q)
    (hr : rdy m l.length 0 l = [i1, i] := by exact rfl) (ho : nth l i1 = some oi := by exact rfl) (hi : nth l i = some ⟨d, .alloc e, ty, ps, af, none⟩ := by exact rfl) (hz : (zeroValue e).run P w = .ok z w := by go_simp; first | done | exact rfl | exact ⟨rfl, rfl⟩) (hx : z.cells.toList = xs := by exact nz_) :
    EH P n l S (fuel + 1) m ρ w Q := EH.two h1 (St.alloc hs hz hx h) hr ho hi
theorem EH.ba {i1 : Nat} {z : Value} {e2 ty2 : TypeId} {d2 : Option Tmp} {ps2 : String} {af2 : Array Edge} {parts : Array (Nat × Operand)} {vs : List (Nat × Value)} {cs : List Value} (hs : Sat W w g H) (h1 : ∀ b w', Sat W w' g (blk b cs e :: H) → S w' ∧ EH P n l S fuel (bset m i1) (pushv d (.slice (some ⟨b, 0, none⟩) k k) ρ) w' Q) (h : ∀ b w', Sat W w' g (blk b xs e2 :: H) → S w' ∧ EH P n l S fuel (bset m i) (pushv d2 (.pointer (some ⟨b, 0, none⟩)) ρ) w' Q)
    (hr : rdy m l.length 0 l = [i1, i] := by exact rfl) (ho : nth l i1 = some ⟨d, .buildSlice t k parts, ty, ps, af, none⟩ := by exact rfl) (hi : nth l i = some ⟨d2, .alloc e2, ty2, ps2, af2, none⟩ := by exact rfl)
    (hp : evp n ρ parts.toList = some vs := by exact rfl) (hrun : (Instr.buildSlice t k vs.toArray).run P w = .ok (.slice (some ⟨w.heap.size, 0, none⟩) k k) (w.alloc (.cells cs.toArray e)) := by go_simp; first | done | exact rfl | exact ⟨rfl, rfl⟩) (hz : (zeroValue e2).run P w = .ok z w := by go_simp; first | done | exact rfl | exact ⟨rfl, rfl⟩) (hx : z.cells.toList = xs := by exact nz_) :
    EH P n l S (fuel + 1) m ρ w Q := EH.two (St.buildSlice hs hp hrun h1) (St.alloc hs hz hx h) hr ho hi
theorem EH.al {z : Value} (hs : Sat W w g H) (h : ∀ b w', Sat W w' g (blk b xs e :: H) → S w' ∧ EH P n l S fuel (bset m i) (pushv d (.pointer (some ⟨b, 0, none⟩)) ρ) w' Q)
    (hr : rdy m l.length 0 l = [i] := by exact rfl) (hi : nth l i = some ⟨d, .alloc e, ty, ps, af, none⟩ := by exact rfl) (hz : (zeroValue e).run P w = .ok z w := by go_simp; first | done | exact rfl | exact ⟨rfl, rfl⟩) (hx : z.cells.toList = xs := by exact nz_) :
    EH P n l S (fuel + 1) m ρ w Q := EH.one (St.alloc hs hz hx h) hr hi
theorem EH.bx (hs : Sat W w g H) (h : ∀ b w', Sat W w' g (blk b xs e :: H) → S w' ∧ EH P n l S fuel (bset m i) (pushv d (.pointer (some ⟨b, 0, none⟩)) ρ) w' Q)
    (hr : rdy m l.length 0 l = [i] := by exact rfl) (hi : nth l i = some ⟨d, .box e x, ty, ps, af, none⟩ := by exact rfl) (hv : evo n ρ x = some v := by exact rfl) (hx : v.cells.toList = xs := by exact nz_) :
    EH P n l S (fuel + 1) m ρ w Q := EH.one (St.box hs hv hx h) hr hi
theorem EH.sto {vs ys : List Value} (hs : Sat W w g H) (h : ∀ w', Sat W w' g H' → S w' ∧ EH P n l S fuel (bset m i) ρ w' Q)
    (hr : rdy m l.length 0 l = [i] := by exact rfl) (hi : nth l i = some ⟨none, .store t x y, ty, ps, af, none⟩ := by exact rfl) (hx : evo n ρ x = some (.pointer (some ⟨b, j, none⟩)) := by exact rfl) (hy : evo n ρ y = some v := by exact rfl) (hv : v.cells.toList = vs := by exact nz_) (hf : Fd H b xs e := by exact fd_) (hsp : spl xs j vs = ys := by exact nz_) (hu : Up b xs ys e H H' := by exact up_) (hj : Nat.ble (j + vs.length) xs.length = true := by exact rfl) (h1 : vs.all Value.oneCell' = true := by exact rfl) (ht : (sizeOf t).run P w = .ok vs.length w := by exact sz_) :
    EH P n l S (fuel + 1) m ρ w Q := EH.one (St.store hs hx hy hv (by subst hsp; exact hu) hj h1 ht h) hr hi
theorem EH.ld (hs : Sat W w g H) (h : S w ∧ EH P n l S fuel (bset m i) (pushv d v ρ) w Q)
    (hr : rdy m l.length 0 l = [i] := by exact rfl) (hi : nth l i = some ⟨d, .load t x, ty, ps, af, none⟩ := by exact rfl) (hx : evo n ρ x = some (.pointer (some ⟨b, j, none⟩)) := by exact rfl) (hf : Fd H b xs e := by exact fd_) (hj : xs[j]? = some v := by exact rfl) (ha : (isAgg t).run P w = .ok false w := by first | (go_simp; done) | fail) :
    EH P n l S (fuel + 1) m ρ w Q := EH.one (St.load hs hx hf hj ha h) hr hi
theorem EH.app {s : Operand} {z : Value} {size bytes q c : Nat} {a : Option Addr} {news : List Value} (he : ElemOf P t e z size bytes) (hs : Sat W w g (own e size (.slice a k c) k xs :: H)) {D : Nat → Prop} (hrow : Row size w D u q news)
    (h : ∀ a' c' w', k + q ≤ c' → c' ≤ 9223372036854775807 → Sat W w' g (own e size (.slice a' (k + q) c') (k + q) (xs ++ news) :: H) → S w' ∧ EH P n l S fuel (bset m i) (pushv d (.slice a' (k + q) c') ρ) w' Q)
    (hr : rdy m l.length 0 l = [i] := by exact rfl) (hi : nth l i = some ⟨d, .call ⟨.builtin .append, #[s, y], #[t, t]⟩, ty, ps, af, none⟩ := by exact rfl) (h63 : k + q ≤ 9223372036854775807 := by omega) (hbytes : (k + q) * bytes ≤ 140737488355328 := by omega)
    (hx : evo n ρ s = some (.slice a k c) := by exact rfl) (hy : evo n ρ y = some u := by exact rfl) (h1 : ∀ x ∈ news, x.oneCell' = true := by first | exact bs_one _ | (intro u hu; simp only [List.mem_cons, List.not_mem_nil, or_false] at hu; rcases hu with rfl | rfl | rfl <;> exact rfl)) :
    EH P n l S (fuel + 1) m ρ w Q := EH.one (St.append he hs hrow h1 h63 hbytes hx hy h) hr hi
end

section
variable {P : Program} {n : Fm} {ρ : List (Nat × Value)} {W w w' : World} {g g' : Hl} {H H' : List HP} {Q : Exit → Act → World → Prop} {ops : Array Oper} {rest : List Oper} {d : Option Tmp} {ty : TypeId} {ps : String} {af : Array Edge} {v u : Value} {x y : Operand} {e t : TypeId}
/-- []byte(s): the bytes are the pool's. -/
theorem E.bytes {l : List UInt8} {dt : TypeId} (h1 : P.underlying t = some .string) (h2 : P.underlying dt = some (.slice e)) (h3 : P.underlying e = some (.int .u8)) (hs : Sat W w g H) (hl : l.length ≤ 1000000000)
    (h : ∀ b c w' g', Hl.le g g' → Sat W w' g' H → Pr 1 g' (.slice (some ⟨b, 0, none⟩) l.length c) l.length (bs l) → E P n ops rest (pushv d (.slice (some ⟨b, 0, none⟩) l.length c) ρ) w' Q) (hx : evo n ρ x = some (.string ⟨l.toArray⟩) := by exact rfl) :
    E P n ops (⟨d, .convert t dt x, ty, ps, af, none⟩ :: rest) ρ w Q := by
  have hr := Go.Lib.run_convert_string_bytes w t dt e ⟨l.toArray⟩ h1 h2 h3
  have hsz : (⟨l.toArray⟩ : ByteArray).size = l.length := by simp [ByteArray.size]
  rw [hsz] at hr
  have hn : Sat W (Go.Lib.bytesWorld w e ⟨l.toArray⟩) g (obj w.heap.size (.cells (Go.Lib.bytesCells w e ⟨l.toArray⟩) e ((Go.Lib.bytesCells w e ⟨l.toArray⟩).size, (Go.Lib.bytesCells w e ⟨l.toArray⟩).size + 1)) :: H) := by
    refine hs.new (Nat.le_refl _) ?_ ?_ ?_ (fun k hk => Go.Lib.bytesWorld_at_old w e _ k hk) (Go.Lib.bytesWorld_at_new w e _)
    · simp [Go.Lib.bytesWorld, World.freeze, World.alloc, World.drew, -World.alloc_eq, -World.drew_eq]
    · simp [Go.Lib.bytesWorld, World.freeze, World.alloc, World.drew, -World.alloc_eq, -World.drew_eq]
    · simp [Go.Lib.bytesWorld, World.freeze, World.alloc, World.drew, -World.alloc_eq, -World.drew_eq]
  obtain ⟨h1, e1, e2, e3, hs2⟩ := hn.publish
  have e1' : h1 = Hl.one w.heap.size (.cells (Go.Lib.bytesCells w e ⟨l.toArray⟩) e ((Go.Lib.bytesCells w e ⟨l.toArray⟩).size, (Go.Lib.bytesCells w e ⟨l.toArray⟩).size + 1)) := e1
  have hcap : l.length ≤ grownCap w l.length 0 e ∧ grownCap w l.length 0 e ≤ 9223372036854775807 := by
    unfold grownCap
    simp only [Question.cut]
    have h0 : 0 < 2 ^ 63 - l.length := by omega
    generalize w.tape w.drawn (Question.appendCap l.length 0 e) = T
    have h1 := Nat.mod_lt T h0
    generalize T % (2 ^ 63 - l.length) = T' at h1 ⊢
    constructor <;> omega
  refine E.cons (St.val (v := .slice (some ⟨w.heap.size, 0, none⟩) l.length (grownCap w l.length 0 e)) (w' := Go.Lib.bytesWorld w e ⟨l.toArray⟩) (fun a ha => by simp [execOp, ha.eval hx, hr]) (h _ _ _ _ e2 hs2 ?_))
  refine ⟨by simp, some ⟨w.heap.size, 0, none⟩, grownCap w l.length 0 e, rfl, hcap.1, by unfold maxLen; omega, fun q => by simp at q, Or.inr ⟨w.heap.size, 0, _, _, _, rfl, e3 _ _ (show h1 w.heap.size = some _ from by rw [e1']; simp only [Hl.one, if_true]; rfl), ?_⟩⟩
  simp only [Go.Lib.bytesCells, List.drop_zero, Nat.mul_one, Array.toList_append, Array.toList_map, List.map_toArray]
  rw [List.take_append_of_le_length (by simp), List.take_of_length_le (by simp)]
  simp [bs]

/-! Floats. -/
/-- Is it no number? -/
def nanF (b : Nat) : Bool := Ieee.double.order b b != some .eq
theorem Pv.fne {b c : Nat} (hx : evo n ρ x = some (.float .f64 b)) (hy : evo n ρ y = some (.float .f64 c)) {s s' : TypeId} : Pv P n ρ (.binOp .neq s x y s') ty (.bool (Ieee.double.order b c != some .eq)) := Pv.binOp hx hy (fun w => by simp [eqGuard]) fun w => by
  rw [binOp_float_cmp_neq]
  rfl
theorem run_fadd {a b : Nat} (w : World) : (∃ r, Ieee.double.add a b = some r ∧ (Op.floatArith .add .f64 a b).run P w = .ok (.float .f64 r) w) ∨ (Ieee.double.add a b = none ∧ ∃ r, 9218868437227405312 < r % 9223372036854775808 ∧ r < 18446744073709551616 ∧ (Op.floatArith .add .f64 a b).run P w = .ok (.float .f64 r) w.drew) := by
  have e0 : FloatKind.f64.format.add a b = Ieee.double.add a b := rfl
  cases hh : Ieee.double.add a b with
  | some r => exact .inl ⟨r, rfl, by simp [Op.floatArith, e0, hh]⟩
  | none =>
    refine .inr ⟨rfl, (Question.nanBits .f64 a b).cut (w.tape w.drawn (.nanBits .f64 a b)), ?_, ?_, ?_⟩
    · simp only [Question.cut]
      generalize w.tape w.drawn (.nanBits .f64 a b) = T
      have h1 : T % 2 = 0 ∨ T % 2 = 1 := by omega
      have h2 : T / 2 % (2 ^ 52 - 1) < 2 ^ 52 - 1 := Nat.mod_lt _ (by decide)
      generalize T / 2 % (2 ^ 52 - 1) = q at h2 ⊢
      rcases h1 with h1 | h1 <;> rw [h1] <;> omega
    · simp only [Question.cut]
      generalize w.tape w.drawn (.nanBits .f64 a b) = T
      have h1 : T % 2 = 0 ∨ T % 2 = 1 := by omega
      have h2 : T / 2 % (2 ^ 52 - 1) < 2 ^ 52 - 1 := Nat.mod_lt _ (by decide)
      generalize T / 2 % (2 ^ 52 - 1) = q at h2 ⊢
      rcases h1 with h1 | h1 <;> rw [h1] <;> omega
    · simp [Op.floatArith, e0, hh, Question.forced]
/-- A sum of floats. -/
theorem E.fadd {s s' : TypeId} {a b : Nat} (hs : Sat W w g H) (h : ∀ r w', Sat W w' g H → (Ieee.double.add a b = some r ∨ Ieee.double.add a b = none ∧ 9218868437227405312 < r % 9223372036854775808 ∧ r < 18446744073709551616) → E P n ops rest (pushv d (.float .f64 r) ρ) w' Q)
    (hx : evo n ρ x = some (.float .f64 a) := by exact rfl) (hy : evo n ρ y = some (.float .f64 b) := by exact rfl) : E P n ops (⟨d, .binOp .add s x y s', ty, ps, af, none⟩ :: rest) ρ w Q := by
  rcases run_fadd (P := P) (a := a) (b := b) w with ⟨r, h1, h2⟩ | ⟨h1, r, h3, h4, h2⟩
  · refine E.cons (St.val (w' := w) (fun ac ha => ?_) (h r w hs (.inl h1)))
    simp [execOp, ha.eval hx, ha.eval hy, eqGuard, binOp, h2]
  · refine E.cons (St.val (w' := w.drew) (fun ac ha => ?_) (h r w.drew hs.drew (.inr ⟨h1, h3, h4⟩)))
    simp [execOp, ha.eval hx, ha.eval hy, eqGuard, binOp, h2]
theorem nan_rung {r : Nat} (h : 9218868437227405312 < r % 9223372036854775808) : nanF r = true := by
  have hr : ∃ s t, Ieee.double.read r = .nan s t := by
    have e1 : Ieee.double.signWeight = 9223372036854775808 := by decide
    have e2 : Ieee.double.binade = 4503599627370496 := by decide
    have e3 : Ieee.double.infRung = 9218868437227405312 := by decide
    refine ⟨r / 9223372036854775808 % 2 == 1, r % 9223372036854775808 - 9218868437227405312, ?_⟩
    unfold Ieee.Format.read
    simp only [e1, e2, e3]
    rw [if_neg (by omega), if_neg (by omega), if_neg (by omega)]
  obtain ⟨s, t, hr⟩ := hr
  simp only [nanF, Ieee.Format.order, hr, Ieee.Datum.order]
  rfl
end

section
variable {P : Program} {n : Fm} {ρ : List (Nat × Value)} {w : World} {Q : Exit → Act → World → Prop} {ops : Array Oper} {rest : List Oper} {d : Option Tmp} {ty : TypeId} {ps : String} {af : Array Edge} {x y : Operand} {e t : TypeId}
/-- &a[j] of an array in memory, an element of one cell. -/
theorem run_index_arr {b o j m : Nat} {kd : IntKind} {i : Int} (ht : P.underlying t = some (.array m e)) (hq : ∀ w, (sizeOf e).run P w = .ok 1 w) (hi : i = (j : Int)) (hj : j < m) (w : World) : (Instr.indexAt t (.pointer (some ⟨b, o, none⟩)) (.int kd i)).run P w = .ok (.pointer (some ⟨b, o + j, none⟩)) w := by
  subst hi
  simp [Instr.indexAt, run_underlying ht, asIntOf, hq, go_sem, hj, Addr.add_lit]
theorem E.ixa {b o m : Nat} {kd : IntKind} {i : Int} (j : Nat) (ht : P.underlying t = some (.array m e)) (h : E P n ops rest (pushv d (.pointer (some ⟨b, o + j, none⟩)) ρ) w Q) (hq : ∀ w, (sizeOf e).run P w = .ok 1 w := by intro w; exact sz_)
    (hx : evo n ρ x = some (.pointer (some ⟨b, o, none⟩)) := by exact rfl) (hy : evo n ρ y = some (.int kd i) := by exact rfl) (hi : i = (j : Int) := by omega) (hj : j < m := by omega) : E P n ops (⟨d, .indexAddr t x y, ty, ps, af, none⟩ :: rest) ρ w Q :=
  E.pv (Pv.indexAddr hx hy (run_index_arr ht hq hi hj)) h
end

/-- What is left is walked once, for all branches that come to it: 'apply later (f := ..) (M := ..)', the branches first. -/
theorem later {α : Type} {P : Program} {n : Fm} {c : Code} {Q : Exit → Act → World → Prop} {f : α → List (Nat × Value)} {M : α → World → Prop} {G : Prop} (main : (∀ x w, M x w → C P n c (f x) w Q) → G) (key : ∀ x w, M x w → C P n c (f x) w Q) : G := main key
end Go.Proofs.YtkolnecahlkndaaGreat

/-
  Strings of bytes, as values and as a map's keys.
-/
namespace Go.Proofs.YtkolnecahlkndaaGreat
open Go.RowKit
set_option linter.unusedVariables false
set_option linter.unusedSimpArgs false

/-- A string of bytes, as a value. -/
def str (k : List UInt8) : Value := .string ⟨k.toArray⟩
theorem str_inj {a b : List UInt8} (h : str a = str b) : a = b := by
  simp only [str, Value.string.injEq, ByteArray.mk.injEq] at h
  simpa using congrArg Array.toList h
theorem ky_str : Ky Tryz.prog 9 str where
  kind := ⟨.string, Tryz.underlying9, fun a => trivial, fun a b => by simp [str, Instr.sameNow, str_beq]⟩
  bits := fun a => by
    have := str_beq a a
    simp [str, Instr.sameBits, this]
def ptr (b : Nat) : Value := .pointer (some ⟨b, 0, none⟩)
end Go.Proofs.YtkolnecahlkndaaGreat

/-
  Layer 2 (digits): a number behind some bytes.
-/
namespace Go.Proofs.YtkolnecahlkndaaGreat
open Go.RowKit
set_option linter.unusedVariables false
set_option linter.unusedSimpArgs false

theorem el_u8 : ElemOf Tryz.prog 29 5 (.int .u8 0) 1 1 := .of Tryz.underlying29 (by kernel_rfl) rfl (by decide)

/-- A number in groups of seven bits. -/
def layN (n : Nat) : List UInt8 :=
  if n < 128 then [UInt8.ofNat n] else UInt8.ofNat ((n % 256) ||| 128) :: layN (n / 2 ^ 7)
termination_by n
decreasing_by omega

theorem layN_small {n : Nat} (h : n < 128) : layN n = [UInt8.ofNat n] := by rw [layN, if_pos h]
theorem layN_big {n : Nat} (h : ¬ n < 128) : layN n = UInt8.ofNat ((n % 256) ||| 128) :: layN (n / 2 ^ 7) := by rw [layN, if_neg h]
theorem layN_len : ∀ (k n : Nat), n < 128 ^ (k + 1) → (layN n).length ≤ k + 1
  | 0, n, h => by rw [layN_small (by simpa using h)]; simp
  | k + 1, n, h => by
    by_cases h1 : n < 128
    · rw [layN_small h1]; simp
    · rw [layN_big h1, List.length_cons]
      have := layN_len k (n / 2 ^ 7) (by
        rw [Nat.div_lt_iff_lt_mul (by decide)]
        rw [Nat.pow_succ] at h
        exact h)
      omega
theorem layN_ten {n : Nat} (h : n < 18446744073709551616) : (layN n).length ≤ 10 := layN_len 9 n (by omega)

structure LS where
  n : Nat
  k : Nat
  a : Option Addr
  c : Nat
  xs : List Value

set_option maxHeartbeats 1600000 in
set_option maxRecDepth 100000 in
theorem lay_any {R : Ending → World → Prop} {W w : World} {g : Hl} {H : List HP} {v : Value} {k n : Nat} {xs : List Value} (hs : Sat W w g (own 5 1 v k xs :: H)) (hn : n < 18446744073709551616) (hk : k ≤ 1000000000)
    (hR : ∀ a' c' w', Sat W w' g (own 5 1 (.slice a' (k + (layN n).length) c') (k + (layN n).length) (xs ++ bs (layN n)) :: H) → R (.returned (.slice a' (k + (layN n).length) c')) w') :
    Calls Tryz.prog 30 #[v, .int .u64 n] w R := by
  have HR := Lib.hid hR
  clear hR
  obtain ⟨a, c, rfl, hkc, hcm, _⟩ := hs.ownLen
  have hlen := layN_ten hn
  refine C.calls (args := [.slice a k c, .int .u64 n]) Tryz.func30 rfl rfl rfl ?_
  refine go ?_
  refine C.loop (fun x : LS => [(0, .slice x.a x.k x.c), (1, .int .u64 x.n)]) (fun gk x w => gk = x.n ∧ x.n < 18446744073709551616 ∧ x.k + (layN x.n).length = k + (layN n).length ∧ x.xs ++ bs (layN x.n) = xs ++ bs (layN n) ∧ Sat W w g (own 5 1 (.slice x.a x.k x.c) x.k x.xs :: H)) n ⟨n, k, a, c, xs⟩ wk_ ⟨rfl, hn, rfl, rfl, hs⟩ ?_
  clear hs
  rintro n1 ⟨n1, k1, a1, c1, xs1⟩ w1 ⟨rfl, hn1, hk1, hx1, hs⟩
  simp only at hn1 hk1 hx1 hs ⊢
  refine go ?_
  refine C.cond_dec (p := (128 : Int) ≤ n1) rfl (fun hlt => ?_) (fun hlt => ?_)
  · refine go ?_
    refine E.bsl hs ?_
    intro b2 w2 hs
    apply E.cons
    apply St.append el_u8 hs.swap (hs.rowOf (size := 1) 1 rfl (by decide)) (by intro u hu; simp only [List.mem_singleton] at hu; subst hu; rfl) (by omega) (by omega)
    · exact rfl
    · exact rfl
    intro a2 c2 w3 _ _ hs
    refine go ?_
    have hb := layN_big (n := n1) (by omega)
    have ho : (n1 % 256) ||| 128 < 256 := Nat.or_lt_two_pow (n := 8) (by omega) (by omega)
    refine A.round (n1 / 2 ^ 7) ⟨n1 / 2 ^ 7, k1 + 1, a2, c2, xs1 ++ [.int .u8 ((n1 % 256) ||| 128 : Nat)]⟩ (by omega) wk_ ⟨rfl, by simp only; omega, ?_, ?_, hs.swap.drop⟩
    · simp only
      rw [← hk1, hb, List.length_cons]; omega
    · simp only
      rw [← hx1, hb]
      simp [bs, Nat.mod_eq_of_lt ho]
  · refine go ?_
    refine E.bsl hs ?_
    intro b2 w2 hs
    apply E.cons
    apply St.append el_u8 hs.swap (hs.rowOf (size := 1) 1 rfl (by decide)) (by intro u hu; simp only [List.mem_singleton] at hu; subst hu; rfl) (by omega) (by omega)
    · exact rfl
    · exact rfl
    intro a2 c2 w3 _ _ hs
    refine go ?_
    have hb := layN_small (n := n1) (by omega)
    rw [hb] at hk1 hx1
    refine A.r1 ?_
    have e1 : k1 + 1 = k + (layN n).length := by simpa using hk1
    have e2 : xs1 ++ [.int .u8 (n1 : Int)] = xs ++ bs (layN n) := by
      rw [← hx1]
      have : n1 % 256 = n1 := by omega
      simp [bs, this]
    have hs := hs.swap.drop
    rw [e1, e2] at hs
    rw [e1]
    exact HR.out _ _ _ hs

end Go.Proofs.YtkolnecahlkndaaGreat

/-
  Layer 2 (digits): a text behind some bytes.
-/
namespace Go.Proofs.YtkolnecahlkndaaGreat
open Go.RowKit
set_option linter.unusedVariables false
set_option linter.unusedSimpArgs false

theorem one_bs (l : List UInt8) : ∀ u ∈ bs l, u.oneCell' = true := bs_one l

/-- A text: how many bytes, and they. -/
def textB (t : List UInt8) : List UInt8 := layN t.length ++ t
theorem textB_len (t : List UInt8) (h : t.length < 18446744073709551616) : (textB t).length ≤ t.length + 10 := by
  have := layN_ten h
  unfold textB
  rw [List.length_append]
  omega

set_option maxHeartbeats 1600000 in
set_option maxRecDepth 100000 in
theorem layText_any {R : Ending → World → Prop} {W w : World} {g : Hl} {H : List HP} {v u : Value} {k m : Nat} {xs : List Value} {t : List UInt8} (hs : Sat W w g (own 5 1 v k xs :: H)) (hp : Pr 1 g u m (bs t)) (ht : t.length = m) (hm : m ≤ 1000000000) (hk : k ≤ 1000000000)
    (hR : ∀ a' c' w', Sat W w' g (own 5 1 (.slice a' (k + (textB t).length) c') (k + (textB t).length) (xs ++ bs (textB t)) :: H) → R (.returned (.slice a' (k + (textB t).length) c')) w') :
    Calls Tryz.prog 34 #[v, u] w R := by
  have HR := Lib.hid hR
  clear hR
  obtain ⟨a, c, rfl, hkc, hcm, _⟩ := hs.ownLen
  obtain ⟨a1, c1, rfl, _, _⟩ := hp.len
  have hl := layN_ten (n := m) (by omega)
  refine C.calls (args := [.slice a k c, .slice a1 m c1]) Tryz.func34 rfl rfl rfl ?_
  refine go ?_
  refine E.callf Tryz.func30 rfl ?_
  refine lay_any hs (by omega) hk ?_
  intro a2 c2 w2 hs
  refine go ?_
  apply E.cons
  apply St.append el_u8 hs (hp.row hs) (one_bs t) (by omega) (by omega)
  · exact rfl
  · exact rfl
  intro a3 c3 w3 _ _ hs
  refine go ?_
  refine A.r1 ?_
  have e1 : k + (layN m).length + m = k + (textB t).length := by simp [textB, ht]; omega
  have e2 : xs ++ bs (layN m) ++ bs t = xs ++ bs (textB t) := by simp [textB, ht, bs_append]
  rw [e1, e2] at hs
  rw [e1]
  exact HR.out _ _ _ hs

end Go.Proofs.YtkolnecahlkndaaGreat

/-
  Layer 6 (event): what an event is; places, and how they stand; which events may be.
-/
namespace Go.Proofs.YtkolnecahlkndaaGreat
open Go.RowKit
set_option linter.unusedVariables false
set_option linter.unusedSimpArgs false

/-- An event; 'tv' is its text's slice. -/
structure Ev where
  wr : Int
  sq : Nat
  tm : Nat
  kd : Nat
  key : List UInt8
  text : List UInt8
  num : Nat
  nd : Int
  tv : Value
/-- Its cells. -/
def Ev.cs (e : Ev) : List Value := [.int .i64 e.wr, .int .u64 e.sq, .int .u64 e.tm, .int .u8 e.kd, .string ⟨e.key.toArray⟩, e.tv, .float .f64 e.num, .int .i64 e.nd]
def Ev.val (e : Ev) : Value := .agg e.cs.toArray
/-- Its parts are of their kinds, and its text lies in the pool. -/
structure Ev.ok (e : Ev) (g : Hl) : Prop where
  wr : -9223372036854775808 ≤ e.wr ∧ e.wr ≤ 9223372036854775807
  sq : e.sq < 18446744073709551616
  tm : e.tm < 18446744073709551616
  kd : e.kd < 256
  num : e.num < 18446744073709551616
  nd : -9223372036854775808 ≤ e.nd ∧ e.nd ≤ 9223372036854775807
  key : e.key.length ≤ 100000000
  text : e.text.length ≤ 100000000
  tv : Pr 1 g e.tv e.text.length (bs e.text)
theorem Ev.cs_one {e : Ev} {g : Hl} (h : e.ok g) : e.cs.all Value.oneCell' = true := by
  obtain ⟨a, c, he, _, _⟩ := h.tv.len
  simp only [Ev.cs, he, List.all_cons, List.all_nil]
  rfl
theorem Ev.ok.mono {e : Ev} {g g' : Hl} (h : e.ok g) (hg : Hl.le g g') : e.ok g' := ⟨h.wr, h.sq, h.tm, h.kd, h.num, h.nd, h.key, h.text, h.tv.mono hg⟩

theorem spl_go : ∀ (vs pre xs : List Value), xs.length = vs.length → spl (pre ++ xs) pre.length vs = pre ++ vs
  | [], pre, xs, h => by
    obtain rfl : xs = [] := List.eq_nil_of_length_eq_zero (by simpa using h)
    rfl
  | v :: r, pre, x :: xs, h => by
    simp only [spl]
    rw [List.set_append_right _ _ (Nat.le_refl _), Nat.sub_self, List.set_cons_zero]
    have := spl_go r (pre ++ [v]) xs (by simpa using h)
    simp only [List.append_assoc, List.cons_append, List.nil_append, List.length_append, List.length_cons, List.length_nil] at this
    exact this
theorem spl_all {xs vs : List Value} (h : xs.length = vs.length) : spl xs 0 vs = vs := spl_go vs [] xs h

/-- How two numbers stand to one another. -/
def cmpI (a b : Int) : Int := if a < b then -1 else if b < a then 1 else 0
/-- How two places stand. -/
def cmpS (t1 : Nat) (w1 : Int) (t2 : Nat) (w2 : Int) : Int := if cmpI t1 t2 ≠ 0 then cmpI t1 t2 else cmpI w1 w2
theorem cmpI_lt {a b : Int} : cmpI a b < 0 ↔ a < b := by unfold cmpI; repeat' split; all_goals omega
theorem cmpI_range (a b : Int) : -1 ≤ cmpI a b ∧ cmpI a b ≤ 1 := by unfold cmpI; repeat' split; all_goals omega
theorem cmpS_lt {t1 t2 : Nat} {w1 w2 : Int} : cmpS t1 w1 t2 w2 < 0 ↔ t1 < t2 ∨ t1 = t2 ∧ w1 < w2 := by unfold cmpS cmpI; repeat' split; all_goals omega
theorem cmpS_le {t1 t2 : Nat} {w1 w2 : Int} : cmpS t1 w1 t2 w2 ≤ 0 ↔ t1 < t2 ∨ t1 = t2 ∧ w1 ≤ w2 := by unfold cmpS cmpI; repeat' split; all_goals omega

set_option maxHeartbeats 1600000 in
set_option maxRecDepth 100000 in
theorem nanU_any {R : Ending → World → Prop} {w : World} {a : Int} (hR : R (.returned (.bool false)) w) : Calls Tryz.prog 94 #[.int .u64 a] w R := by
  have HR := Lib.hid hR
  clear hR
  refine C.calls (args := [.int .u64 a]) Tryz.func94 rfl rfl rfl ?_
  refine go ?_
  refine A.r1 ?_
  simpa using HR.out
set_option maxHeartbeats 1600000 in
set_option maxRecDepth 100000 in
theorem nanI_any {R : Ending → World → Prop} {w : World} {a : Int} (hR : R (.returned (.bool false)) w) : Calls Tryz.prog 95 #[.int .i64 a] w R := by
  have HR := Lib.hid hR
  clear hR
  refine C.calls (args := [.int .i64 a]) Tryz.func95 rfl rfl rfl ?_
  refine go ?_
  refine A.r1 ?_
  simpa using HR.out
set_option maxHeartbeats 1600000 in
set_option maxRecDepth 100000 in
theorem cmpU_any {R : Ending → World → Prop} {w : World} {a b : Int} (hR : R (.returned (.int .i64 (cmpI a b))) w) : Calls Tryz.prog 75 #[.int .u64 a, .int .u64 b] w R := by
  have HR := Lib.hid hR
  clear hR
  refine C.calls (args := [.int .u64 a, .int .u64 b]) Tryz.func75 rfl rfl rfl ?_
  refine go ?_
  refine E.callf Tryz.func94 rfl ?_
  refine nanU_any ?_
  refine go ?_
  refine E.callf Tryz.func94 rfl ?_
  refine nanU_any ?_
  refine go ?_
  refine C.cond_dec (p := a < b) rfl (fun h => ?_) (fun h => ?_)
  · refine go ?_
    refine A.r1 ?_
    simpa [cmpI, h] using HR.out
  · refine go ?_
    refine C.cond_dec (p := b < a) rfl (fun h2 => ?_) (fun h2 => ?_)
    · refine go ?_
      refine A.r1 ?_
      simpa [cmpI, h, h2] using HR.out
    · refine go ?_
      refine A.r1 ?_
      simpa [cmpI, h, h2] using HR.out
set_option maxHeartbeats 1600000 in
set_option maxRecDepth 100000 in
theorem cmpI_any {R : Ending → World → Prop} {w : World} {a b : Int} (hR : R (.returned (.int .i64 (cmpI a b))) w) : Calls Tryz.prog 76 #[.int .i64 a, .int .i64 b] w R := by
  have HR := Lib.hid hR
  clear hR
  refine C.calls (args := [.int .i64 a, .int .i64 b]) Tryz.func76 rfl rfl rfl ?_
  refine go ?_
  refine E.callf Tryz.func95 rfl ?_
  refine nanI_any ?_
  refine go ?_
  refine E.callf Tryz.func95 rfl ?_
  refine nanI_any ?_
  refine go ?_
  refine C.cond_dec (p := a < b) rfl (fun h => ?_) (fun h => ?_)
  · refine go ?_
    refine A.r1 ?_
    simpa [cmpI, h] using HR.out
  · refine go ?_
    refine C.cond_dec (p := b < a) rfl (fun h2 => ?_) (fun h2 => ?_)
    · refine go ?_
      refine A.r1 ?_
      simpa [cmpI, h, h2] using HR.out
    · refine go ?_
      refine A.r1 ?_
      simpa [cmpI, h, h2] using HR.out

theorem el_int : ElemOf Tryz.prog 45 3 (.int .i64 0) 1 8 := .of Tryz.underlying45 (by kernel_rfl) rfl (by decide)

set_option maxHeartbeats 1600000 in
set_option maxRecDepth 100000 in
/-- cmp.Or of two. -/
theorem or_any {R : Ending → World → Prop} {W w : World} {g : Hl} {H : List HP} {b : Nat} {x y : Int} (hs : Sat W w g (blk b [.int .i64 x, .int .i64 y] 3 :: H)) (hR : R (.returned (.int .i64 (if x ≠ 0 then x else y))) w) : Calls Tryz.prog 74 #[.slice (some ⟨b, 0, none⟩) 2 2] w R := by
  have HR := Lib.hid hR
  clear hR
  refine C.calls (args := [.slice (some ⟨b, 0, none⟩) 2 2]) Tryz.func74 rfl rfl rfl ?_
  refine gob ?_
  refine C.block ?_
  refine C.lp (fun i : Nat => [(0, .slice (some ⟨b, 0, none⟩) 2 2), (3, .int .i64 0), (6, .slice (some ⟨b, 0, none⟩) 2 2), (7, .int .i64 2), (8, .int .i64 i)]) (fun gk i w' => gk = 2 - i ∧ i ≤ 2 ∧ (0 < i → x = 0) ∧ (1 < i → y = 0) ∧ w' = w) 2 0 ⟨rfl, by omega, by omega, by omega, rfl⟩ ?_
  rintro gk i w' ⟨rfl, hi, h1, h2, rfl⟩
  obtain rfl | rfl | rfl : i = 0 ∨ i = 1 ∨ i = 2 := by omega
  · refine go ?_
    cases hx : decide (x = 0) with
    | true =>
      refine go ?_
      have : x = 0 := of_decide_eq_true hx
      exact A.rd 1 1 ⟨rfl, by omega, fun _ => this, by omega, rfl⟩
    | false =>
      refine go ?_
      refine A.r1 ?_
      have : x ≠ 0 := of_decide_eq_false hx
      simpa [this] using HR.out
  · have h1 := h1 (by omega)
    refine go ?_
    cases hx : decide (y = 0) with
    | true =>
      refine go ?_
      have : y = 0 := of_decide_eq_true hx
      exact A.rd 0 2 ⟨rfl, by omega, fun _ => h1, fun _ => this, rfl⟩
    | false =>
      refine go ?_
      refine A.r1 ?_
      simpa [h1] using HR.out
  · have h1 := h1 (by omega)
    have h2 := h2 (by omega)
    refine go ?_
    refine A.r1 ?_
    simpa [h1, h2] using HR.out
end Go.Proofs.YtkolnecahlkndaaGreat

/-
  Layer 6 (event): At, Compare, Right.
-/
namespace Go.Proofs.YtkolnecahlkndaaGreat
open Go.RowKit
set_option linter.unusedVariables false
set_option linter.unusedSimpArgs false

/-- A place, as a value. -/
def spot (t : Nat) (wr : Int) : Value := .agg #[.int .u64 t, .int .i64 wr]

theorem ag_spot : AggOf Tryz.prog 56 2 := ⟨_, Tryz.underlying56, rfl, by kernel_rfl⟩
theorem ag_ev : AggOf Tryz.prog 32 8 := ⟨_, Tryz.underlying32, rfl, by kernel_rfl⟩

set_option maxHeartbeats 1600000 in
set_option maxRecDepth 100000 in
theorem compare_any {R : Ending → World → Prop} {W w : World} {g : Hl} {H : List HP} {t1 t2 : Nat} {w1 w2 : Int} (hs : Sat W w g H) (hR : ∀ w', Sat W w' g H → R (.returned (.int .i64 (cmpS t1 w1 t2 w2))) w') :
    Calls Tryz.prog 42 #[spot t1 w1, spot t2 w2] w R := by
  have HR := Lib.hid hR
  clear hR
  simp only [spot]
  refine C.calls (args := [.agg #[.int .u64 t1, .int .i64 w1], .agg #[.int .u64 t2, .int .i64 w2]]) Tryz.func42 rfl rfl rfl ?_
  refine go ?_
  refine E.bx hs ?_
  intro b1 w1 hs
  refine go ?_
  refine E.bx hs ?_
  intro b2 w2 hs
  refine go ?_
  refine C.held2 b1 b2 hs ?_
  intro w hk hs
  refine goh ?_
  refine EH.one (St.callf Tryz.func75 rfl ?_)
  refine cmpU_any ?_
  refine kept2 hs (fun hk => ?_)
  refine goh ?_
  refine EH.one (St.callf Tryz.func76 rfl ?_)
  refine cmpI_any ?_
  refine kept2 hs (fun hk => ?_)
  refine goh ?_
  refine EH.bsl hs ?_
  intro b3 w3 hs
  refine kept2 hs (fun hk => ?_)
  refine EH.one (St.callf Tryz.func74 rfl ?_)
  refine or_any hs ?_
  refine kept2 hs (fun hk => ?_)
  refine goh ?_
  refine EH.done ?_
  refine go ?_
  refine A.r1 ?_
  exact HR.out _ hs.drop.drop.drop

set_option maxHeartbeats 1600000 in
set_option maxRecDepth 100000 in
theorem at_any {R : Ending → World → Prop} {W w : World} {g : Hl} {H : List HP} {e : Ev} (hs : Sat W w g H) (hR : ∀ w', Sat W w' g H → R (.returned (spot e.tm e.wr)) w') :
    Calls Tryz.prog 43 #[e.val] w R := by
  have HR := Lib.hid hR
  clear hR
  simp only [Ev.val, Ev.cs]
  refine C.calls (args := [.agg #[.int .i64 e.wr, .int .u64 e.sq, .int .u64 e.tm, .int .u8 e.kd, .string ⟨e.key.toArray⟩, e.tv, .float .f64 e.num, .int .i64 e.nd]]) Tryz.func43 rfl rfl rfl ?_
  refine go ?_
  refine E.bx hs ?_
  intro b1 w1 hs
  refine go ?_
  refine E.al hs ?_
  intro b2 w2 hs
  refine go ?_
  refine E.sto hs ?_
  intro w3 hs
  refine go ?_
  refine A.c1 rfl rfl (run_lda hs ag_spot) ?_
  exact HR.out _ hs.drop.drop

set_option maxHeartbeats 1600000 in
set_option maxRecDepth 100000 in
theorem node_any {R : Ending → World → Prop} {w : World} {a : Int} (hR : R (.returned (.bool (decide (0 ≤ a ∧ a < 64)))) w) :
    Calls Tryz.prog 73 #[.int .i64 a] w R := by
  have HR := Lib.hid hR
  clear hR
  refine C.calls (args := [.int .i64 a]) Tryz.func73 rfl rfl rfl ?_
  refine go ?_
  cases h1 : decide (0 ≤ a) with
  | true =>
    refine go ?_
    refine A.r1 ?_
    have := of_decide_eq_true h1
    simpa [this] using HR.out
  | false =>
    refine go ?_
    refine A.r1 ?_
    have := of_decide_eq_false h1
    simpa [this] using HR.out

/-- What may not be told of an event: the error's number. -/
def Ev.right (e : Ev) : Int :=
  if ¬ (0 ≤ e.wr ∧ e.wr < 64) ∨ e.sq = 0 ∨ e.tm = 0 ∨ e.kd < 1 ∨ 6 < e.kd ∨ (e.kd = 5 ∧ ¬ (0 ≤ e.nd ∧ e.nd < 64)) then 1
  else if (1 ≤ e.kd ∧ e.kd ≤ 4 ∧ (e.key.length = 0 ∨ 64 < e.key.length)) ∨ (e.kd = 1 ∧ 1048576 < e.text.length) then 6
  else if 9223372036854775807 < e.sq ∨ 9223372036854775807 < e.tm then 8 else 0

set_option maxHeartbeats 1600000 in
set_option maxRecDepth 100000 in
theorem right_any {R : Ending → World → Prop} {W w : World} {g : Hl} {H : List HP} {e : Ev} (ho : e.ok g) (hs : Sat W w g H) (hR : ∀ w', Sat W w' g H → R (.returned (.int .i64 e.right)) w') :
    Calls Tryz.prog 41 #[e.val] w R := by
  have HR := Lib.hid hR
  clear hR
  obtain ⟨a, c, etv, _, _⟩ := ho.tv.len
  have hkd := ho.kd
  have e1 : e.right = e.right := rfl
  obtain ⟨wr, sq, tm, kd, key, text, num, nd, tv⟩ := e
  simp only [Ev.val, Ev.cs] at etv hkd ⊢
  subst etv
  refine C.calls (args := [.agg #[.int .i64 wr, .int .u64 sq, .int .u64 tm, .int .u8 kd, .string ⟨key.toArray⟩, .slice a text.length c, .float .f64 num, .int .i64 nd]]) Tryz.func41 rfl rfl rfl ?_
  refine go ?_
  refine E.bx hs ?_
  intro b1 w1 hs
  refine E.pv pvt ?_
  refine E.nil ?_
  refine A.next ?_
  refine C.seq (C.cut (fun _ : Unit => [(1, .pointer (some ⟨b1, 0, none⟩)), (2, .int .i64 0), (3, .bool (decide (1 ≤ kd ∧ kd ≤ 4)))]) (fun _ w => Sat W w g (blk b1 [.int .i64 wr, .int .u64 sq, .int .u64 tm, .int .u8 kd, .string ⟨key.toArray⟩, .slice a text.length c, .float .f64 num, .int .i64 nd] 32 :: H)) ?_ ?_)
  · refine go ?_
    cases h1 : decide ((1 : Int) ≤ kd) with
    | false =>
      refine go ?_
      refine A.mt () hs ?_
      have h1' := of_decide_eq_false h1
      rw [show decide (1 ≤ kd ∧ kd ≤ 4) = false from decide_eq_false (by omega)]
      exact wk_
    | true =>
      refine go ?_
      refine A.mt () hs ?_
      have h1' := of_decide_eq_true h1
      rw [show decide (1 ≤ kd ∧ kd ≤ 4) = decide ((kd : Int) ≤ 4) from decide_eq_decide.2 (by omega)]
      exact wk_
  clear hs
  rintro _ w2 hs
  refine go ?_
  refine E.callf Tryz.func73 rfl ?_
  refine node_any ?_
  have one : ¬ (0 ≤ wr ∧ wr < 64) ∨ sq = 0 ∨ tm = 0 ∨ kd < 1 ∨ 6 < kd ∨ (kd = 5 ∧ ¬ (0 ≤ nd ∧ nd < 64)) → ∀ w', Sat W w' g H → R (.returned (.int .i64 1)) w' := fun h w' hs => by
    have := HR.out w' hs
    simp only [Ev.right] at this
    rw [if_pos h] at this
    exact this
  cases h1 : decide (0 ≤ wr ∧ wr < 64) with
  | false =>
    refine go ?_
    refine A.r1 ?_
    exact one (.inl (of_decide_eq_false h1)) _ hs.drop
  | true =>
  refine go ?_
  cases h2 : decide ((sq : Int) = 0) with
  | true =>
    refine go ?_
    refine A.r1 ?_
    exact one (.inr (.inl (by have := of_decide_eq_true h2; omega))) _ hs.drop
  | false =>
  refine go ?_
  cases h3 : decide ((tm : Int) = 0) with
  | true =>
    refine go ?_
    refine A.r1 ?_
    exact one (.inr (.inr (.inl (by have := of_decide_eq_true h3; omega)))) _ hs.drop
  | false =>
  refine go ?_
  cases h4 : decide ((kd : Int) < 1) with
  | true =>
    refine go ?_
    refine A.r1 ?_
    exact one (.inr (.inr (.inr (.inl (by have := of_decide_eq_true h4; omega))))) _ hs.drop
  | false =>
  refine go ?_
  cases h5 : decide (6 < (kd : Int)) with
  | true =>
    refine go ?_
    refine A.r1 ?_
    exact one (.inr (.inr (.inr (.inr (.inl (by have := of_decide_eq_true h5; omega)))))) _ hs.drop
  | false =>
  refine go ?_
  have h1 := of_decide_eq_true h1
  have h2 := of_decide_eq_false h2
  have h3 := of_decide_eq_false h3
  have h4 := of_decide_eq_false h4
  have h5 := of_decide_eq_false h5
  clear one
  have six : ¬ (kd = 5 ∧ ¬ (0 ≤ nd ∧ nd < 64)) → (1 ≤ kd ∧ kd ≤ 4 ∧ (key.length = 0 ∨ 64 < key.length)) ∨ (kd = 1 ∧ 1048576 < text.length) → ∀ w', Sat W w' g H → R (.returned (.int .i64 6)) w' := fun h h6 w' hs => by
    have := HR.out w' hs
    simp only [Ev.right] at this
    rw [if_neg (by omega), if_pos h6] at this
    exact this
  have fin : ¬ (kd = 5 ∧ ¬ (0 ≤ nd ∧ nd < 64)) → ¬ ((1 ≤ kd ∧ kd ≤ 4 ∧ (key.length = 0 ∨ 64 < key.length)) ∨ (kd = 1 ∧ 1048576 < text.length)) → ∀ w', Sat W w' g H → R (.returned (.int .i64 (if 9223372036854775807 < sq ∨ 9223372036854775807 < tm then 8 else 0))) w' := fun h h6 w' hs => by
    have := HR.out w' hs
    simp only [Ev.right] at this
    rw [if_neg (by omega), if_neg h6] at this
    exact this
  have one : kd = 5 ∧ ¬ (0 ≤ nd ∧ nd < 64) → ∀ w', Sat W w' g H → R (.returned (.int .i64 1)) w' := fun h w' hs => by
    have := HR.out w' hs
    simp only [Ev.right] at this
    rw [if_pos (by omega)] at this
    exact this
  clear HR e1
  cases h6 : decide ((kd : Int) = 5) with
  | true =>
    have h6 := of_decide_eq_true h6
    rw [show decide (1 ≤ kd ∧ kd ≤ 4) = false from decide_eq_false (by omega)]
    refine go ?_
    refine E.callf Tryz.func73 rfl ?_
    refine node_any ?_
    cases h7 : decide (0 ≤ nd ∧ nd < 64) with
    | false =>
      refine go ?_
      refine A.r1 ?_
      exact one ⟨by omega, of_decide_eq_false h7⟩ _ hs.drop
    | true =>
    have h7 := of_decide_eq_true h7
    refine go ?_
    rw [show decide ((kd : Int) = 1) = false from decide_eq_false (by omega)]
    refine go ?_
    have fin := fin (by omega) (by omega)
    cases h8 : decide ((9223372036854775807 : Int) < sq) with
    | true =>
      refine go ?_
      refine A.r1 ?_
      have h8 := of_decide_eq_true h8
      rw [if_pos (by omega)] at fin
      exact fin _ hs.drop
    | false =>
    refine go ?_
    cases h9 : decide ((9223372036854775807 : Int) < tm) with
    | true =>
      refine go ?_
      refine A.r1 ?_
      have h9 := of_decide_eq_true h9
      rw [if_pos (by omega)] at fin
      exact fin _ hs.drop
    | false =>
    refine go ?_
    refine A.r1 ?_
    have h8 := of_decide_eq_false h8
    have h9 := of_decide_eq_false h9
    rw [if_neg (by omega)] at fin
    exact fin _ hs.drop
  | false =>
  have h6 := of_decide_eq_false h6
  refine go ?_
  cases hk : decide (1 ≤ kd ∧ kd ≤ 4) with
  | true =>
    have hk := of_decide_eq_true hk
    refine go ?_
    cases ha : decide ((key.length : Int) = 0) with
    | true =>
      have ha := of_decide_eq_true ha
      refine go ?_
      refine A.r1 ?_
      exact six (by omega) (by omega) _ hs.drop
    | false =>
    have ha := of_decide_eq_false ha
    refine go ?_
    cases hb : decide ((64 : Int) < key.length) with
    | true =>
      have hb := of_decide_eq_true hb
      refine go ?_
      refine A.r1 ?_
      exact six (by omega) (by omega) _ hs.drop
    | false =>
    have hb := of_decide_eq_false hb
    refine go ?_
    cases hc : decide ((kd : Int) = 1) with
    | true =>
      have hc := of_decide_eq_true hc
      refine go ?_
      cases hd : decide ((1048576 : Int) < text.length) with
      | true =>
        have hd := of_decide_eq_true hd
        refine go ?_
        refine A.r1 ?_
        exact six (by omega) (by omega) _ hs.drop
      | false =>
      have hd := of_decide_eq_false hd
      refine go ?_
      have fin := fin (by omega) (by omega)
      cases h8 : decide ((9223372036854775807 : Int) < sq) with
      | true =>
        refine go ?_
        refine A.r1 ?_
        have h8 := of_decide_eq_true h8
        rw [if_pos (by omega)] at fin
        exact fin _ hs.drop
      | false =>
      refine go ?_
      cases h9 : decide ((9223372036854775807 : Int) < tm) with
      | true =>
        refine go ?_
        refine A.r1 ?_
        have h9 := of_decide_eq_true h9
        rw [if_pos (by omega)] at fin
        exact fin _ hs.drop
      | false =>
      refine go ?_
      refine A.r1 ?_
      have h8 := of_decide_eq_false h8
      have h9 := of_decide_eq_false h9
      rw [if_neg (by omega)] at fin
      exact fin _ hs.drop
    | false =>
      have hc := of_decide_eq_false hc
      refine go ?_
      have fin := fin (by omega) (by omega)
      cases h8 : decide ((9223372036854775807 : Int) < sq) with
      | true =>
        refine go ?_
        refine A.r1 ?_
        have h8 := of_decide_eq_true h8
        rw [if_pos (by omega)] at fin
        exact fin _ hs.drop
      | false =>
      refine go ?_
      cases h9 : decide ((9223372036854775807 : Int) < tm) with
      | true =>
        refine go ?_
        refine A.r1 ?_
        have h9 := of_decide_eq_true h9
        rw [if_pos (by omega)] at fin
        exact fin _ hs.drop
      | false =>
      refine go ?_
      refine A.r1 ?_
      have h8 := of_decide_eq_false h8
      have h9 := of_decide_eq_false h9
      rw [if_neg (by omega)] at fin
      exact fin _ hs.drop
  | false =>
    have hk := of_decide_eq_false hk
    refine go ?_
    rw [show decide ((kd : Int) = 1) = false from decide_eq_false (by omega)]
    refine go ?_
    have fin := fin (by omega) (by omega)
    cases h8 : decide ((9223372036854775807 : Int) < sq) with
    | true =>
      refine go ?_
      refine A.r1 ?_
      have h8 := of_decide_eq_true h8
      rw [if_pos (by omega)] at fin
      exact fin _ hs.drop
    | false =>
    refine go ?_
    cases h9 : decide ((9223372036854775807 : Int) < tm) with
    | true =>
      refine go ?_
      refine A.r1 ?_
      have h9 := of_decide_eq_true h9
      rw [if_pos (by omega)] at fin
      exact fin _ hs.drop
    | false =>
    refine go ?_
    refine A.r1 ?_
    have h8 := of_decide_eq_false h8
    have h9 := of_decide_eq_false h9
    rw [if_neg (by omega)] at fin
    exact fin _ hs.drop
end Go.Proofs.YtkolnecahlkndaaGreat

/-
  A heap, in plain words: keys by place.
-/
namespace Go.Proofs.YtkolnecahlkndaaGreat
set_option linter.unusedVariables false

/-- Places i and j changed. -/
def sw {α : Type} (l : List α) (i j : Nat) : List α := match l[i]?, l[j]? with
  | some a, some b => (l.set i b).set j a
  | _, _ => l
theorem sw_len {α : Type} (l : List α) (i j : Nat) : (sw l i j).length = l.length := by unfold sw; split <;> simp
theorem sw_eq {α : Type} {l : List α} {i j : Nat} (hi : i < l.length) (hj : j < l.length) : sw l i j = (l.set i l[j]).set j l[i] := by
  unfold sw; simp [hi, hj]
theorem sw_get {α : Type} {l : List α} {i j : Nat} (hi : i < l.length) (hj : j < l.length) (k : Nat) : (sw l i j)[k]? = if k = j then l[i]? else if k = i then l[j]? else l[k]? := by
  rw [sw_eq hi hj, List.getElem?_set, List.getElem?_set]
  simp only [List.length_set]
  by_cases h1 : j = k
  · subst h1
    simp [hj, hi]
  · rw [if_neg h1, if_neg (Ne.symm h1)]
    by_cases h2 : i = k
    · subst h2
      simp [hi, hj]
    · rw [if_neg h2, if_neg (Ne.symm h2)]
theorem sw_perm {α : Type} {l : List α} {i j : Nat} (hi : i < l.length) (hj : j < l.length) : (sw l i j).Perm l := by
  rw [sw_eq hi hj]
  exact List.set_set_perm hi hj
section
variable {α : Type} (k : α → Nat)
/-- The key at a place. -/
def kat (l : List α) (q : Nat) : Nat := (l[q]?.map k).getD 0
theorem kat_sw {l : List α} {i j : Nat} (hi : i < l.length) (hj : j < l.length) (q : Nat) : kat k (sw l i j) q = if q = j then kat k l i else if q = i then kat k l j else kat k l q := by
  unfold kat
  rw [sw_get hi hj]
  split
  · rfl
  split <;> rfl
/-- From place s on each stands behind its parent, but those below i. -/
def HInv (f : Nat → Nat) (s n i : Nat) : Prop :=
  (∀ c, 0 < c → c < n → s ≤ (c - 1) / 2 → (c - 1) / 2 ≠ i → f ((c - 1) / 2) ≤ f c) ∧ (0 < i → s ≤ (i - 1) / 2 → ∀ c, 0 < c → c < n → (c - 1) / 2 = i → f ((i - 1) / 2) ≤ f c)
def Heap (f : Nat → Nat) (s n : Nat) : Prop := ∀ c, 0 < c → c < n → s ≤ (c - 1) / 2 → f ((c - 1) / 2) ≤ f c
theorem heap_step {f f' : Nat → Nat} {s n i j : Nat} (h : HInv f s n i) (hs : s ≤ i) (hj : j = 2 * i + 1 ∨ j = 2 * i + 2) (hjn : j < n) (hlt : f j < f i) (hmin : ∀ c, c < n → c = 2 * i + 1 ∨ c = 2 * i + 2 → f j ≤ f c)
    (hf : ∀ q, f' q = if q = j then f i else if q = i then f j else f q) : HInv f' s n j := by
  obtain ⟨h1, h2⟩ := h
  constructor
  · intro c hc hcn hsc hne
    have hp : (c - 1) / 2 < c := by omega
    by_cases e1 : c = j
    · subst e1
      have e : (c - 1) / 2 = i := by omega
      rw [e, hf, hf, if_neg (by omega), if_pos rfl, if_pos rfl]
      omega
    by_cases e2 : c = i
    · subst e2
      rw [hf ((c - 1) / 2), hf c, if_neg hne, if_neg (by omega), if_neg (by omega), if_pos rfl]
      exact h2 hc hsc j (by omega) hjn (by omega)
    rw [hf c, if_neg e1, if_neg e2, hf]
    rw [if_neg hne]
    by_cases e3 : (c - 1) / 2 = i
    · rw [if_pos e3]
      exact hmin c hcn (by omega)
    · rw [if_neg e3]
      exact h1 c hc hcn hsc e3
  · intro hj0 hsj c hc hcn hcj
    have e : (j - 1) / 2 = i := by omega
    rw [e, hf, hf, if_neg (by omega), if_pos rfl, if_neg (by omega), if_neg (by omega)]
    have := h1 c hc hcn (by omega) (by omega)
    rw [hcj] at this
    exact this
theorem heap_done {f : Nat → Nat} {s n i : Nat} (h : HInv f s n i) (hmin : ∀ c, c < n → c = 2 * i + 1 ∨ c = 2 * i + 2 → f i ≤ f c) : Heap f s n := by
  intro c hc hcn hsc
  by_cases e : (c - 1) / 2 = i
  · rw [e]; exact hmin c hcn (by omega)
  · exact h.1 c hc hcn hsc e
theorem heap_start {f : Nat → Nat} {n i : Nat} (h : Heap f (i + 1) n) : HInv f i n i := by
  refine ⟨fun c hc hcn hsc hne => h c hc hcn (by omega), fun h0 hs => by omega⟩
theorem heap_min {f : Nat → Nat} {n : Nat} (h : Heap f 0 n) : ∀ c, c < n → f 0 ≤ f c := by
  intro c
  induction c using Nat.strongRecOn with
  | ind c ih =>
    intro hc
    rcases Nat.eq_zero_or_pos c with rfl | h0
    · exact Nat.le_refl _
    · exact Nat.le_trans (ih ((c - 1) / 2) (by omega) (by omega)) (h c h0 hc (Nat.zero_le _))
/-- The root changed. -/
theorem heap_root {f f' : Nat → Nat} {n : Nat} (h : Heap f 0 n) (hf : ∀ q, 0 < q → q < n → f' q = f q) : HInv f' 0 n 0 := by
  refine ⟨fun c hc hcn _ hne => ?_, fun h0 => by omega⟩
  rw [hf c hc hcn, hf ((c - 1) / 2) (by omega) (by omega)]
  exact h c hc hcn (Nat.zero_le _)
end
end Go.Proofs.YtkolnecahlkndaaGreat

/-
  Layer 12 (order): lists of events, by their first ones: what lies in memory; Len, Less, Swap, Pop.
-/
namespace Go.Proofs.YtkolnecahlkndaaGreat
open Go.RowKit
set_option linter.unusedVariables false
set_option linter.unusedSimpArgs false

/-- The cells of events. -/
def evC (l : List Ev) : List Value := l.flatMap Ev.cs
@[simp] theorem evC_length (l : List Ev) : (evC l).length = l.length * 8 := by
  induction l with
  | nil => rfl
  | cons x r ih => simp only [evC, List.flatMap_cons, List.length_append, List.length_cons] at ih ⊢; rw [ih]; simp [Ev.cs]; omega
theorem evC_drop : ∀ (l : List Ev) (j : Nat), (evC l).drop (j * 8) = evC (l.drop j)
  | l, 0 => by simp
  | [], j + 1 => by simp [evC]
  | x :: r, j + 1 => by
    have : (j + 1) * 8 = 8 + j * 8 := by omega
    rw [this, ← List.drop_drop]
    have h8 : (evC (x :: r)).drop 8 = evC r := by simp [evC, Ev.cs]
    rw [h8, evC_drop r j]
    rfl
theorem evC_take : ∀ (l : List Ev) (j : Nat), (evC l).take (j * 8) = evC (l.take j)
  | l, 0 => by simp [evC]
  | [], j + 1 => by simp [evC]
  | x :: r, j + 1 => by
    have : (j + 1) * 8 = 8 + j * 8 := by omega
    have e1 : evC (x :: r) = x.cs ++ evC r := rfl
    have e2 : x.cs.length = 8 := rfl
    rw [this, e1, List.take_append, e2, List.take_of_length_le (by rw [e2]; omega), show 8 + j * 8 - 8 = j * 8 by omega, evC_take r j]
    rfl
theorem evC_at {l : List Ev} {j : Nat} (h : j < l.length) : ((evC l).drop (j * 8)).take 8 = l[j].cs := by
  rw [evC_drop, List.drop_eq_getElem_cons h]
  exact (evC_take (l[j] :: l.drop (j + 1)) 1).trans (by simp only [List.take_succ_cons, List.take_zero, evC, List.flatMap_cons, List.flatMap_nil, List.append_nil])
theorem evC_append (a b : List Ev) : evC (a ++ b) = evC a ++ evC b := by simp [evC]
theorem el_ev : ElemOf Tryz.prog 24 32 (.agg #[.int .i64 0, .int .u64 0, .int .u64 0, .int .u8 0, .string ⟨#[]⟩, .slice none 0 0, .float .f64 0, .int .i64 0]) 8 88 := .of Tryz.underlying24 (by kernel_rfl) rfl (by decide)

/-- Events that may be in order: their writers are small. -/
def Ev.low (e : Ev) : Prop := 0 ≤ e.wr ∧ e.wr < 64
def Ev.ky (e : Ev) : Nat := e.tm * 64 + e.wr.toNat
theorem ky_lt {a b : Ev} (ha : a.low) (hb : b.low) : cmpS a.tm a.wr b.tm b.wr < 0 ↔ a.ky < b.ky := by
  rw [cmpS_lt]; unfold Ev.ky Ev.low at *; omega

/-- A list that isn't empty, and where it lies. -/
structure Hd where
  b : Nat
  o : Nat
  c : Nat
  es : List Ev
def Hd.v (x : Hd) : Value := .slice (some ⟨x.b, x.o, none⟩) x.es.length x.c
def Hd.hd (x : Hd) : Ev := x.es.headD ⟨0, 0, 0, 0, [], [], 0, 0, .slice none 0 0⟩
structure Hd.ok (x : Hd) (g : Hl) : Prop where
  row : Pr 8 g x.v x.es.length (evC x.es)
  ne : x.es ≠ []
  evs : ∀ e ∈ x.es, e.ok g ∧ e.low
theorem Hd.ok.mono {x : Hd} {g g' : Hl} (h : x.ok g) (hg : Hl.le g g') : x.ok g' := ⟨h.row.mono hg, h.ne, fun e he => ⟨(h.evs e he).1.mono hg, (h.evs e he).2⟩⟩
theorem hd_zero {x : Hd} (h : 0 < x.es.length) : x.es[0] = x.hd := by
  unfold Hd.hd
  rw [List.headD_eq_head?_getD, List.head?_eq_getElem?, List.getElem?_eq_getElem h]
  rfl
def Hd.ky (x : Hd) : Nat := x.hd.ky
theorem Hd.hd_mem {x : Hd} (h : x.es ≠ []) : x.hd ∈ x.es := by
  unfold Hd.hd
  cases hx : x.es with
  | nil => exact absurd hx h
  | cons a r => simp
theorem el_hds : ElemOf Tryz.prog 127 24 (.slice none 0 0) 1 24 := .of Tryz.underlying127 (by kernel_rfl) rfl (by decide)

/-- The lists' own row. -/
def hrow (v : Value) (n : Nat) (L : List Hd) : HP := own 24 1 v n (L.map Hd.v)

/-- An own row, with all its places. -/
theorem own_open {W w : World} {g : Hl} {H : List HP} {E : TypeId} {n c : Nat} {a : Option Addr} {xs : List Value} (hn : 0 < n) (hs : Sat W w g (own E 1 (.slice a n c) n xs :: H)) :
    ∃ b ys, a = some ⟨b, 0, none⟩ ∧ ys.length = c ∧ n ≤ c ∧ c ≤ 9223372036854775807 ∧ ys.take n = xs ∧ Sat W w g (blk b ys E :: H) := by
  obtain ⟨h1, h2, h3, h, ⟨x1, x2, d, ed, ⟨hl, hp⟩, s⟩, dg, ag⟩ := hs
  rcases hp with ⟨e1, e2⟩ | ⟨b, cap, cur, e1, hnc, hcm, hcs, ht, he⟩
  · simp only [Value.slice.injEq] at e1; omega
  · simp only [Value.slice.injEq] at e1
    obtain ⟨rfl, -, rfl⟩ := e1
    refine ⟨b, cur.toList, rfl, by simpa using hcs, hnc, by unfold maxLen at hcm; omega, by simpa using ht, h1, h2, h3, h, ⟨x1, x2, d, ed, ?_, s⟩, dg, ag⟩
    rw [he]
    rfl
theorem own_close {W w : World} {g : Hl} {H : List HP} {E : TypeId} {n c b : Nat} {ys xs : List Value} (hyc : ys.length = c) (hn : n ≤ c) (hc : c ≤ 9223372036854775807) (ht : ys.take n = xs) (hs : Sat W w g (blk b ys E :: H)) : Sat W w g (own E 1 (.slice (some ⟨b, 0, none⟩) n c) n xs :: H) := hs.conv fun h e => by
  refine ⟨?_, .inr ⟨b, c, ys.toArray, rfl, hn, by unfold maxLen; omega, by simpa using hyc, by simpa using ht, e⟩⟩
  rw [← ht, List.length_take]; omega

/-- A struct out of a pool's row, while some is held. -/
theorem Pf.loadpr {P : Program} {n : Fm} {ρ : List (Nat × Value)} {g : Hl} {F : List (Nat × List Value × TypeId)} {t ty : TypeId} {x : Operand} {s m c b o j : Nat} {xs vs : List Value} (st : AggOf P t s) (hp : Pr s g (.slice (some ⟨b, o, none⟩) m c) m xs) (hj : j < m) (hv : (xs.drop (j * s)).take s = vs) (hl : vs.length = s)
    (hx : evo n ρ x = some (.pointer (some ⟨b, o + j * s, none⟩))) : Pf P n (Keeps g F) ρ (.load t x) ty (.agg vs.toArray) := fun a ha w hS d ps af g' => by
  have hr : w.rangeAt b (o + j * s) vs := by
    obtain ⟨h1, a0, c0, e1, hn, hc, hN, h⟩ := hp
    simp only [Value.slice.injEq] at e1
    obtain ⟨rfl, _, rfl⟩ := e1
    rcases h with rfl | ⟨b', o', cur, t', fz, e2, hg, ht⟩
    · omega
    · simp only [Option.some.injEq, Addr.mk.injEq] at e2
      obtain ⟨rfl, rfl, _⟩ := e2
      intro q v hq
      have hb := hS.1 _ _ hg
      rw [← hv, List.getElem?_take] at hq
      split at hq
      · rw [List.getElem?_drop, ← ht, List.getElem?_take] at hq
        split at hq
        · rw [List.getElem?_drop] at hq
          simp only [World.cell?, hb]
          rw [show o + j * s + q = o + (j * s + q) by omega]
          simpa using hq
        · cases hq
      · cases hq
  obtain ⟨d', h1, h2, h3⟩ := st
  subst hl
  have := run_loadVar_mid w b (o + j * vs.length) t vs d' hr h1 (by cases d' <;> first | rfl | simp at h2) h3 (P := P)
  simp [execOp, ha.eval hx, Instr.loadAt, Instr.sureAddr, this]

set_option maxHeartbeats 1600000 in
set_option maxRecDepth 100000 in
theorem hlen_any {R : Ending → World → Prop} {w : World} {a : Option Addr} {n c : Nat} (hR : R (.returned (.int .i64 n)) w) : Calls Tryz.prog 135 #[.slice a n c] w R := by
  have HR := Lib.hid hR
  clear hR
  refine C.calls (args := [.slice a n c]) Tryz.func135 rfl rfl rfl ?_
  refine go ?_
  refine A.r1 ?_
  exact HR.out

set_option maxHeartbeats 1600000 in
set_option maxRecDepth 100000 in
theorem hless_any {R : Ending → World → Prop} {W w : World} {g : Hl} {H : List HP} {v : Value} {n i j : Nat} {L : List Hd} (hok : ∀ x ∈ L, x.ok g) (hn : L.length = n) (hi : i < n) (hj : j < n) (hs : Sat W w g (hrow v n L :: H))
    (hR : ∀ w', Sat W w' g (hrow v n L :: H) → R (.returned (.bool (decide (kat Hd.ky L i < kat Hd.ky L j)))) w') : Calls Tryz.prog 136 #[v, .int .i64 i, .int .i64 j] w R := by
  have HR := Lib.hid hR
  clear hR
  obtain ⟨a, c, rfl, hnc, hcm, _⟩ := Sat.ownLen hs
  obtain ⟨b, ys, rfl, hyc, _, _, hyt, hs⟩ := own_open (by omega) hs
  have hiL : i < L.length := by omega
  have hjL : j < L.length := by omega
  have oi := hok L[i] (List.getElem_mem hiL)
  have oj := hok L[j] (List.getElem_mem hjL)
  have li : 0 < L[i].es.length := by have := oi.ne; cases h : L[i].es <;> simp_all
  have lj : 0 < L[j].es.length := by have := oj.ne; cases h : L[j].es <;> simp_all
  have yi : ys[i]? = some (.slice (some ⟨L[i].b, L[i].o, none⟩) L[i].es.length L[i].c) := by
    have : (ys.take n)[i]? = (L.map Hd.v)[i]? := by rw [hyt]
    rw [List.getElem?_take, if_pos hi, List.getElem?_map, List.getElem?_eq_getElem hiL] at this
    exact this
  have yj : ys[j]? = some (.slice (some ⟨L[j].b, L[j].o, none⟩) L[j].es.length L[j].c) := by
    have : (ys.take n)[j]? = (L.map Hd.v)[j]? := by rw [hyt]
    rw [List.getElem?_take, if_pos hj, List.getElem?_map, List.getElem?_eq_getElem hjL] at this
    exact this
  have hi' : (i : Int) < n := by omega
  have hj' : (j : Int) < n := by omega
  have li' : (0 : Int) < (L[i].es.length : Nat) := by omega
  have lj' : (0 : Int) < (L[j].es.length : Nat) := by omega
  refine C.calls (args := [.slice (some ⟨b, 0, none⟩) n c, .int .i64 i, .int .i64 j]) Tryz.func136 rfl rfl rfl ?_
  refine go ?_
  refine C.held1 b hs ?_
  intro w1 hk hs
  have ri : Rd (Keeps g [(b, ys, 24)]) b i (.slice (some ⟨L[i].b, L[i].o, none⟩) L[i].es.length L[i].c) := Rd.blk .here yi
  have rj : Rd (Keeps g [(b, ys, 24)]) b j (.slice (some ⟨L[j].b, L[j].o, none⟩) L[j].es.length L[j].c) := Rd.blk .here yj
  refine goh ?_
  have vi : ((evC L[i].es).drop (0 * 8)).take 8 = L[i].hd.cs := by rw [evC_at li, hd_zero li]
  have vj : ((evC L[j].es).drop (0 * 8)).take 8 = L[j].hd.cs := by rw [evC_at lj, hd_zero lj]
  refine EH.t0 hk ?_ (hy := Pf.loadpr ag_ev oi.row li vi rfl rfl)
  refine EH.t1 hk ?_ (hy := Pf.loadpr ag_ev oj.row lj vj rfl rfl)
  refine EH.one (St.callf Tryz.func43 rfl ?_)
  refine at_any (e := L[i].hd) hs ?_
  intro w2 hs
  refine kept1 hs (fun hk => ?_)
  refine EH.one (St.callf Tryz.func43 rfl ?_)
  refine at_any (e := L[j].hd) hs ?_
  intro w3 hs
  refine kept1 hs (fun hk => ?_)
  refine EH.one (St.callf Tryz.func42 rfl ?_)
  refine compare_any (t1 := L[i].hd.tm) (w1 := L[i].hd.wr) (t2 := L[j].hd.tm) (w2 := L[j].hd.wr) hs ?_
  intro w4 hs
  refine kept1 hs (fun hk => ?_)
  refine goh ?_
  refine EH.done ?_
  refine go ?_
  refine A.r1 ?_
  have := HR.out w4 (own_close hyc hnc hcm hyt hs)
  have e : decide (kat Hd.ky L i < kat Hd.ky L j) = decide (cmpS L[i].hd.tm L[i].hd.wr L[j].hd.tm L[j].hd.wr < 0) := by
    rw [decide_eq_decide, ky_lt (oi.evs _ (Hd.hd_mem oi.ne)).2 (oj.evs _ (Hd.hd_mem oj.ne)).2]
    simp [kat, hiL, hjL, Hd.ky]
  rw [e] at this
  exact this

set_option maxHeartbeats 1600000 in
set_option maxRecDepth 100000 in
theorem hswap_any {R : Ending → World → Prop} {W w : World} {g : Hl} {H : List HP} {v : Value} {n i j : Nat} {L : List Hd} (hn : L.length = n) (hi : i < n) (hj : j < n) (hs : Sat W w g (hrow v n L :: H))
    (hR : ∀ w', Sat W w' g (hrow v n (sw L i j) :: H) → R (.returned (.tuple #[])) w') : Calls Tryz.prog 137 #[v, .int .i64 i, .int .i64 j] w R := by
  have HR := Lib.hid hR
  clear hR
  obtain ⟨a, c, rfl, hnc, hcm, _⟩ := Sat.ownLen hs
  obtain ⟨b, ys, rfl, hyc, _, _, hyt, hs⟩ := own_open (by omega) hs
  have hiL : i < L.length := by omega
  have hjL : j < L.length := by omega
  have yi : ys[i]? = some L[i].v := by
    have : (ys.take n)[i]? = (L.map Hd.v)[i]? := by rw [hyt]
    rw [List.getElem?_take, if_pos hi, List.getElem?_map, List.getElem?_eq_getElem hiL] at this
    exact this
  have yj : ys[j]? = some L[j].v := by
    have : (ys.take n)[j]? = (L.map Hd.v)[j]? := by rw [hyt]
    rw [List.getElem?_take, if_pos hj, List.getElem?_map, List.getElem?_eq_getElem hjL] at this
    exact this
  have hi' : (i : Int) < n := by omega
  have hj' : (j : Int) < n := by omega
  have fin : ∀ w', Sat W w' g (blk b ((ys.set i L[j].v).set j L[i].v) 24 :: H) → R (.returned (.tuple #[])) w' := fun w' hs' => by
    refine HR.out w' (own_close (by simpa using hyc) hnc hcm ?_ hs')
    rw [sw_eq hiL hjL, List.take_set, List.take_set, hyt, List.map_set, List.map_set]
  clear HR
  have HR := Lib.hid fin
  clear fin
  refine C.calls (args := [.slice (some ⟨b, 0, none⟩) n c, .int .i64 i, .int .i64 j]) Tryz.func137 rfl rfl rfl ?_
  refine go ?_
  refine C.held0 hs ?_
  intro w1 hk hs
  refine goh ?_
  have bi : Nat.ble (i + [L[j].v].length) ys.length = true := Nat.ble_eq ▸ (by simp only [List.length_cons, List.length_nil]; omega)
  have bj : Nat.ble (j + [L[i].v].length) (ys.set i L[j].v).length = true := Nat.ble_eq ▸ (by simp only [List.length_cons, List.length_nil, List.length_set]; omega)
  refine EH.ll hs yj yi ?_ ?_
  · refine kept0 hs (fun hk => ?_)
    refine goh ?_
    refine EH.ld hs ?_ (hj := yi)
    refine kept0 hs (fun hk => ?_)
    refine goh ?_
    refine EH.sto (vs := [L[j].v]) (ys := ys.set i L[j].v) hs ?_ (hv := rfl) (hsp := rfl) (hj := bi)
    intro w2 hs
    refine kept0 hs (fun hk => ?_)
    refine goh ?_
    refine EH.sto (vs := [L[i].v]) (ys := (ys.set i L[j].v).set j L[i].v) hs ?_ (hv := rfl) (hsp := rfl) (hj := bj)
    intro w3 hs
    refine kept0 hs (fun hk => ?_)
    refine goh ?_
    refine EH.done ?_
    refine go ?_
    refine A.e0 ?_
    exact HR.out _ hs
  · refine kept0 hs (fun hk => ?_)
    refine goh ?_
    refine EH.ld hs ?_ (hj := yj)
    refine kept0 hs (fun hk => ?_)
    refine goh ?_
    refine EH.sto (vs := [L[j].v]) (ys := ys.set i L[j].v) hs ?_ (hv := rfl) (hsp := rfl) (hj := bi)
    intro w2 hs
    refine kept0 hs (fun hk => ?_)
    refine goh ?_
    refine EH.sto (vs := [L[i].v]) (ys := (ys.set i L[j].v).set j L[i].v) hs ?_ (hv := rfl) (hsp := rfl) (hj := bj)
    intro w3 hs
    refine kept0 hs (fun hk => ?_)
    refine goh ?_
    refine EH.done ?_
    refine go ?_
    refine A.e0 ?_
    exact HR.out _ hs
end Go.Proofs.YtkolnecahlkndaaGreat

/-
  Layer 12 (order): the library's heap over lists of events: down, Fix, Init, Pop.
-/
namespace Go.Proofs.YtkolnecahlkndaaGreat
open Go.RowKit
set_option linter.unusedVariables false
set_option linter.unusedSimpArgs false

theorem m_len : MethOf Tryz.prog 131 "Len" 135 false := .mk (by kernel_rfl)
theorem m_less : MethOf Tryz.prog 131 "Less" 136 false := .mk (by kernel_rfl)
theorem m_swap : MethOf Tryz.prog 131 "Swap" 137 false := .mk (by kernel_rfl)
theorem m_pop : MethOf Tryz.prog 131 "Pop" 138 true := .mk (by kernel_rfl)

/-- A cursor, and its lists. -/
def cur (cb : Nat) (L : List Hd) : HP := exs fun q : Option Addr × Nat => wit (fun g => ∀ x ∈ L, x.ok g) (fun _ _ hg h x hx => (h x hx).mono hg) (sep (blk cb [.slice q.1 L.length q.2] 129) (hrow (.slice q.1 L.length q.2) L.length L))
theorem cur_open {W w : World} {g : Hl} {H : List HP} {cb : Nat} {L : List Hd} (hs : Sat W w g (cur cb L :: H)) : ∃ a c, (∀ x ∈ L, x.ok g) ∧ Sat W w g (blk cb [.slice a L.length c] 129 :: hrow (.slice a L.length c) L.length L :: H) := by
  obtain ⟨⟨a, c⟩, h⟩ := hs.unexs
  exact ⟨a, c, h.unwit.1, h.unwit.2.split⟩
theorem cur_close {W w : World} {g : Hl} {H : List HP} {cb n : Nat} {L : List Hd} {a : Option Addr} {c : Nat} (hn : L.length = n) (hok : ∀ x ∈ L, x.ok g) (hs : Sat W w g (blk cb [.slice a n c] 129 :: hrow (.slice a n c) n L :: H)) : Sat W w g (cur cb L :: H) := by
  subst hn
  exact Sat.mkexs (a, c) (Sat.mkwit hok hs.join)
def ci (cb : Nat) : Value := .iface 131 (.pointer (some ⟨cb, 0, none⟩))

section
variable {n : Fm} {ρ : List (Nat × Value)} {W w : World} {g : Hl} {H : List HP} {Q : Exit → Act → World → Prop} {ops : Array Oper} {rest : List Oper} {d : Option Tmp} {ty : TypeId} {ps : String} {af : Array Edge} {cb i j : Nat} {L : List Hd} {recv x y : Operand} {ts : Array TypeId}
theorem E.hless (hs : Sat W w g (cur cb L :: H)) (hi : i < L.length) (hj : j < L.length) (h : ∀ w', Sat W w' g (cur cb L :: H) → E Tryz.prog n ops rest (pushv d (.bool (decide (kat Hd.ky L i < kat Hd.ky L j))) ρ) w' Q)
    {xi xj : Int} (hv : evo n ρ recv = some (ci cb) := by exact rfl) (hx : evs n ρ [x, y] = some [.int .i64 xi, .int .i64 xj] := by exact rfl) (ei : xi = (i : Int) := by omega) (ej : xj = (j : Int) := by omega) : E Tryz.prog n ops (⟨d, .call ⟨.invoke recv "Less", #[x, y], ts⟩, ty, ps, af, none⟩ :: rest) ρ w Q := by
  subst ei ej
  obtain ⟨a, c, hok, hs1⟩ := cur_open hs
  refine E.inv Tryz.func136 (run_meth_val m_less Tryz.underlying131 (run_ld hs1)) (hless_any hok rfl hi hj hs1.swap ?_) hv hx
  intro w' hs2
  exact h _ (cur_close rfl hok hs2.swap)
theorem E.hswap (hs : Sat W w g (cur cb L :: H)) (hi : i < L.length) (hj : j < L.length) (h : ∀ w', Sat W w' g (cur cb (sw L i j) :: H) → E Tryz.prog n ops rest (pushv d (.tuple #[]) ρ) w' Q)
    {xi xj : Int} (hv : evo n ρ recv = some (ci cb) := by exact rfl) (hx : evs n ρ [x, y] = some [.int .i64 xi, .int .i64 xj] := by exact rfl) (ei : xi = (i : Int) := by omega) (ej : xj = (j : Int) := by omega) : E Tryz.prog n ops (⟨d, .call ⟨.invoke recv "Swap", #[x, y], ts⟩, ty, ps, af, none⟩ :: rest) ρ w Q := by
  subst ei ej
  obtain ⟨a, c, hok, hs1⟩ := cur_open hs
  refine E.inv Tryz.func137 (run_meth_val m_swap Tryz.underlying131 (run_ld hs1)) (hswap_any rfl hi hj hs1.swap ?_) hv hx
  intro w' hs2
  refine h _ (cur_close (sw_len L i j) ?_ hs2.swap)
  intro x hx
  exact hok x ((sw_perm hi hj).mem_iff.1 hx)
theorem E.hlen (hs : Sat W w g (cur cb L :: H)) (h : E Tryz.prog n ops rest (pushv d (.int .i64 L.length) ρ) w Q)
    (hv : evo n ρ recv = some (ci cb) := by exact rfl) : E Tryz.prog n ops (⟨d, .call ⟨.invoke recv "Len", #[], ts⟩, ty, ps, af, none⟩ :: rest) ρ w Q := by
  obtain ⟨a, c, hok, hs1⟩ := cur_open hs
  exact E.inv Tryz.func135 (run_meth_val m_len Tryz.underlying131 (run_ld hs1)) (hlen_any h) hv rfl
end

set_option maxHeartbeats 1600000 in
set_option maxRecDepth 100000 in
theorem down_any {R : Ending → World → Prop} {W w : World} {g : Hl} {H : List HP} {cb i0 n : Nat} {L : List Hd} (hn : n ≤ L.length) (hl : L.length ≤ 1000000000) (hi0 : i0 ≤ L.length) (hinv : HInv (kat Hd.ky L) i0 n i0) (hs : Sat W w g (cur cb L :: H))
    (hR : ∀ w' L' bb, L'.Perm L → Heap (kat Hd.ky L') i0 n → (∀ q, n ≤ q → L'[q]? = L[q]?) → Sat W w' g (cur cb L' :: H) → R (.returned (.bool bb)) w') : Calls Tryz.prog 99 #[ci cb, .int .i64 i0, .int .i64 n] w R := by
  have HR := Lib.hid hR
  clear hR
  refine C.calls (args := [ci cb, .int .i64 i0, .int .i64 n]) Tryz.func99 rfl rfl rfl ?_
  refine gob ?_
  refine C.cut (fun i : Nat => [(1, .int .i64 i0), (7, .int .i64 i)]) (fun i w => ∃ L' : List Hd, L'.Perm L ∧ Heap (kat Hd.ky L') i0 n ∧ (∀ q, n ≤ q → L'[q]? = L[q]?) ∧ Sat W w g (cur cb L' :: H)) ?_ ?_
  · refine C.block ?_
    refine C.lp (fun x : Nat × List Hd => [(0, ci cb), (1, .int .i64 i0), (2, .int .i64 n), (7, .int .i64 x.1)])
      (fun gk x w => gk = n - x.1 ∧ i0 ≤ x.1 ∧ x.1 ≤ L.length ∧ x.2.Perm L ∧ HInv (kat Hd.ky x.2) i0 n x.1 ∧ (∀ q, n ≤ q → x.2[q]? = L[q]?) ∧ Sat W w g (cur cb x.2 :: H)) (n - i0) (i0, L) ⟨rfl, Nat.le_refl _, hi0, List.Perm.refl _, hinv, fun _ _ => rfl, hs⟩ ?_
    clear hs
    rintro gk ⟨i, L1⟩ w1 ⟨hgk, hi, hiL, hp, hv, hq, hs⟩
    simp only at hgk hi hiL hp hv hq hs ⊢
    have hl1 : L1.length = L.length := hp.length_eq
    have ce : ∀ i, ((i : Nat) : Int) = (i : Int) := fun _ => rfl
    refine go ?_
    cases h1 : decide ((n : Int) ≤ 2 * (i : Int) + 1) with
    | true =>
      have h1 := of_decide_eq_true h1
      refine go ?_
      refine A.mt i ⟨L1, hp, heap_done hv (fun c hc h => by omega), hq, hs⟩
    | false =>
    have h1 := of_decide_eq_false h1
    refine go ?_
    rw [show decide (2 * (i : Int) + 1 < 0) = false from decide_eq_false (by omega)]
    refine go ?_
    cases h2 : decide (2 * (i : Int) + 1 + 1 < n) with
    | false =>
      have h2 := of_decide_eq_false h2
      have hmin : ∀ c, c < n → c = 2 * i + 1 ∨ c = 2 * i + 2 → kat Hd.ky L1 (2 * i + 1) ≤ kat Hd.ky L1 c := fun c hc h => by
        obtain rfl : c = 2 * i + 1 := by omega
        exact Nat.le_refl _
      refine go ?_
      refine E.hless (i := 2 * i + 1) (j := i) hs (by omega) (by omega) ?_
      intro w3 hs
      refine go ?_
      cases h4 : decide (kat Hd.ky L1 (2 * i + 1) < kat Hd.ky L1 i) with
      | false =>
        have h4 := of_decide_eq_false h4
        refine go ?_
        refine A.mt i ⟨L1, hp, heap_done hv (fun c hc h => ?_), hq, hs⟩
        have := hmin c hc h
        omega
      | true =>
      have h4 := of_decide_eq_true h4
      refine go ?_
      refine E.hswap (i := i) (j := 2 * i + 1) hs (by omega) (by omega) ?_
      intro w4 hs
      refine go ?_
      refine A.rd (n - (2 * i + 1)) (2 * i + 1, sw L1 i (2 * i + 1)) ⟨rfl, by simp only; omega, by simp only; omega, (sw_perm (by omega) (by omega)).trans hp, ?_, ?_, hs⟩ (hg := by omega)
      · exact heap_step hv hi (by omega) (by omega) h4 hmin (kat_sw Hd.ky (by omega) (by omega))
      · intro q hqn
        simp only
        rw [sw_get (by omega) (by omega), if_neg (by omega), if_neg (by omega)]
        exact hq q hqn
    | true =>
    have h2 := of_decide_eq_true h2
    refine go ?_
    refine E.hless (i := 2 * i + 2) (j := 2 * i + 1) hs (by omega) (by omega) ?_
    intro w2 hs
    refine go ?_
    cases h3 : decide (kat Hd.ky L1 (2 * i + 2) < kat Hd.ky L1 (2 * i + 1)) with
    | true =>
      have h3 := of_decide_eq_true h3
      have hmin : ∀ c, c < n → c = 2 * i + 1 ∨ c = 2 * i + 2 → kat Hd.ky L1 (2 * i + 2) ≤ kat Hd.ky L1 c := fun c hc h => by
        rcases h with rfl | rfl
        · omega
        · exact Nat.le_refl _
      refine go ?_
      refine E.hless (i := 2 * i + 2) (j := i) hs (by omega) (by omega) ?_
      intro w3 hs
      refine go ?_
      cases h4 : decide (kat Hd.ky L1 (2 * i + 2) < kat Hd.ky L1 i) with
      | false =>
        have h4 := of_decide_eq_false h4
        refine go ?_
        refine A.mt i ⟨L1, hp, heap_done hv (fun c hc h => ?_), hq, hs⟩
        have := hmin c hc h
        omega
      | true =>
      have h4 := of_decide_eq_true h4
      refine go ?_
      refine E.hswap (i := i) (j := 2 * i + 2) hs (by omega) (by omega) ?_
      intro w4 hs
      refine go ?_
      refine A.rd (n - (2 * i + 2)) (2 * i + 2, sw L1 i (2 * i + 2)) ⟨rfl, by simp only; omega, by simp only; omega, (sw_perm (by omega) (by omega)).trans hp, ?_, ?_, hs⟩ (hg := by omega)
      · exact heap_step hv hi (by omega) (by omega) h4 hmin (kat_sw Hd.ky (by omega) (by omega))
      · intro q hqn
        simp only
        rw [sw_get (by omega) (by omega), if_neg (by omega), if_neg (by omega)]
        exact hq q hqn
    | false =>
      have h3 := of_decide_eq_false h3
      have hmin : ∀ c, c < n → c = 2 * i + 1 ∨ c = 2 * i + 2 → kat Hd.ky L1 (2 * i + 1) ≤ kat Hd.ky L1 c := fun c hc h => by
        rcases h with rfl | rfl
        · exact Nat.le_refl _
        · omega
      refine go ?_
      refine E.hless (i := 2 * i + 1) (j := i) hs (by omega) (by omega) ?_
      intro w3 hs
      refine go ?_
      cases h4 : decide (kat Hd.ky L1 (2 * i + 1) < kat Hd.ky L1 i) with
      | false =>
        have h4 := of_decide_eq_false h4
        refine go ?_
        refine A.mt i ⟨L1, hp, heap_done hv (fun c hc h => ?_), hq, hs⟩
        have := hmin c hc h
        omega
      | true =>
      have h4 := of_decide_eq_true h4
      refine go ?_
      refine E.hswap (i := i) (j := 2 * i + 1) hs (by omega) (by omega) ?_
      intro w4 hs
      refine go ?_
      refine A.rd (n - (2 * i + 1)) (2 * i + 1, sw L1 i (2 * i + 1)) ⟨rfl, by simp only; omega, by simp only; omega, (sw_perm (by omega) (by omega)).trans hp, ?_, ?_, hs⟩ (hg := by omega)
      · exact heap_step hv hi (by omega) (by omega) h4 hmin (kat_sw Hd.ky (by omega) (by omega))
      · intro q hqn
        simp only
        rw [sw_get (by omega) (by omega), if_neg (by omega), if_neg (by omega)]
        exact hq q hqn
  · clear hs
    rintro i w5 ⟨L', hp, hh, hq, hs⟩
    refine go ?_
    refine A.r1 ?_
    exact HR.out _ L' _ hp hh hq hs
end Go.Proofs.YtkolnecahlkndaaGreat

/-
  Layer 12 (order): the library's heap over lists of events: Init, Fix, Pop.
-/
namespace Go.Proofs.YtkolnecahlkndaaGreat
open Go.RowKit
set_option linter.unusedVariables false
set_option linter.unusedSimpArgs false

set_option maxHeartbeats 1600000 in
set_option maxRecDepth 100000 in
/-- up, from the root: nothing. -/
theorem up_any {R : Ending → World → Prop} {w : World} {cb : Nat} (hR : R (.returned (.tuple #[])) w) : Calls Tryz.prog 100 #[ci cb, .int .i64 0] w R := by
  have HR := Lib.hid hR
  clear hR
  refine C.calls (args := [ci cb, .int .i64 0]) Tryz.func100 rfl rfl rfl ?_
  refine gob ?_
  refine C.block ?_
  refine C.lp (fun _ : Unit => [(0, ci cb), (1, .int .i64 0)]) (fun gk _ w' => w' = w) 0 () rfl ?_
  rintro gk _ w' rfl
  refine go ?_
  refine A.e0 ?_
  exact HR.out

set_option maxHeartbeats 1600000 in
set_option maxRecDepth 100000 in
theorem fix_any {R : Ending → World → Prop} {W w : World} {g : Hl} {H : List HP} {cb : Nat} {L : List Hd} (hl : L.length ≤ 1000000000) (hinv : HInv (kat Hd.ky L) 0 L.length 0) (hs : Sat W w g (cur cb L :: H))
    (hR : ∀ w' L', L'.Perm L → Heap (kat Hd.ky L') 0 L'.length → Sat W w' g (cur cb L' :: H) → R (.returned (.tuple #[])) w') : Calls Tryz.prog 92 #[ci cb, .int .i64 0] w R := by
  have HR := Lib.hid hR
  clear hR
  refine C.calls (args := [ci cb, .int .i64 0]) Tryz.func92 rfl rfl rfl ?_
  refine go ?_
  refine E.hlen hs ?_
  refine E.callf Tryz.func99 rfl ?_
  refine down_any (i0 := 0) (Nat.le_refl _) hl (Nat.zero_le _) hinv hs ?_
  intro w2 L' bb hp hh hq hs
  rw [← hp.length_eq] at hh
  refine go ?_
  cases bb with
  | true =>
    refine go ?_
    refine A.e0 ?_
    exact HR.out _ L' hp hh hs
  | false =>
    refine go ?_
    refine E.callf Tryz.func100 rfl ?_
    refine up_any ?_
    refine go ?_
    refine A.e0 ?_
    exact HR.out _ L' hp hh hs

set_option maxHeartbeats 1600000 in
set_option maxRecDepth 100000 in
theorem init_any {R : Ending → World → Prop} {W w : World} {g : Hl} {H : List HP} {cb : Nat} {L : List Hd} (hl : L.length ≤ 1000000000) (hs : Sat W w g (cur cb L :: H))
    (hR : ∀ w' L', L'.Perm L → Heap (kat Hd.ky L') 0 L'.length → Sat W w' g (cur cb L' :: H) → R (.returned (.tuple #[])) w') : Calls Tryz.prog 91 #[ci cb] w R := by
  have HR := Lib.hid hR
  clear hR
  refine C.calls (args := [ci cb]) Tryz.func91 rfl rfl rfl ?_
  refine go ?_
  refine E.hlen hs ?_
  have ew : IntKind.i64.wrap (IntKind.i64.wrap ((L.length : Int).tdiv 2) - 1) = ((L.length / 2 : Nat) : Int) - 1 := by
    have e1 : (L.length : Int).tdiv 2 = ((L.length / 2 : Nat) : Int) := (Int.ofNat_tdiv L.length 2).symm
    have e2 : IntKind.i64.wrap ((L.length / 2 : Nat) : Int) = ((L.length / 2 : Nat) : Int) := wrap64_id (by omega) (by omega)
    rw [e1, e2, wrap64_id (by omega) (by omega)]
  refine gob ?_
  rw [ew]
  refine C.block ?_
  refine C.lp (fun x : Nat × List Hd => [(0, ci cb), (2, .int .i64 L.length), (3, .int .i64 ((x.1 : Int) - 1))]) (fun gk x w' => gk = x.1 ∧ x.1 ≤ L.length / 2 ∧ x.2.Perm L ∧ Heap (kat Hd.ky x.2) x.1 L.length ∧ Sat W w' g (cur cb x.2 :: H)) (L.length / 2) (L.length / 2, L)
    ⟨rfl, Nat.le_refl _, List.Perm.refl _, fun c h1 h2 h3 => by simp only at h3; omega, hs⟩ ?_
  clear hs
  rintro gk ⟨i, L1⟩ w1 ⟨hgk, hi, hp, hh, hs⟩
  simp only at hgk hi hp hh hs ⊢
  have hl1 := hp.length_eq
  refine go ?_
  refine C.cond_dec (p := (0 : Int) ≤ (i : Int) - 1) rfl (fun h => ?_) (fun h => ?_)
  · obtain ⟨j, rfl⟩ : ∃ j, i = j + 1 := ⟨i - 1, by omega⟩
    have ej : ((j + 1 : Nat) : Int) - 1 = j := by omega
    rw [ej]
    refine go ?_
    rw [← hl1] at hh
    refine E.callf Tryz.func99 rfl ?_
    refine down_any (i0 := j) (n := L.length) (by omega) (by omega) (by omega) (heap_start (by rw [← hl1]; exact hh)) hs ?_
    intro w2 L2 bb hp2 hh2 hq2 hs
    refine go ?_
    exact A.rd j (j, L2) ⟨rfl, by simp only; omega, hp2.trans hp, hh2, hs⟩
  · have hi0 : i = 0 := by omega
    subst hi0
    refine go ?_
    refine A.e0 ?_
    exact HR.out _ L1 hp (by rw [hl1]; exact hh) hs

set_option maxHeartbeats 1600000 in
set_option maxRecDepth 100000 in
theorem hpop_any {R : Ending → World → Prop} {W w : World} {g : Hl} {H : List HP} {cb : Nat} {L : List Hd} (h0 : 0 < L.length) (hl : L.length ≤ 1000000000) (hs : Sat W w g (cur cb L :: H))
    (hR : ∀ w' v, Sat W w' g (cur cb (L.take (L.length - 1)) :: H) → R (.returned v) w') : Calls Tryz.prog 138 #[.pointer (some ⟨cb, 0, none⟩)] w R := by
  have HR := Lib.hid hR
  clear hR
  obtain ⟨a, c, hok, hs⟩ := cur_open hs
  obtain ⟨_, _, eq, hnc, hcm, _⟩ := Sat.ownLen hs.swap
  simp only [Value.slice.injEq] at eq
  obtain ⟨rfl, -, rfl⟩ := eq
  obtain ⟨hb, ys, rfl, hyc, _, _, hyt, hs⟩ := own_open h0 hs.swap
  have hlt : L.length - 1 < L.length := by omega
  have hy : ys[L.length - 1]? = some (.slice (some ⟨L[L.length - 1].b, L[L.length - 1].o, none⟩) L[L.length - 1].es.length L[L.length - 1].c) := by
    have : (ys.take L.length)[L.length - 1]? = (L.map Hd.v)[L.length - 1]? := by rw [hyt]
    rw [List.getElem?_take, if_pos hlt, List.getElem?_map, List.getElem?_eq_getElem hlt] at this
    exact this
  have e1 : (L.length : Int) - 1 = ((L.length - 1 : Nat) : Int) := by omega
  have hlt' : ((L.length - 1 : Nat) : Int) < L.length := by omega
  have hok2 : ∀ x ∈ L.take (L.length - 1), x.ok g := fun x hx => hok x (List.mem_of_mem_take hx)
  have hfin : (ys.take (L.length - 1)) = (L.take (L.length - 1)).map Hd.v := by
    rw [List.map_take, ← hyt, List.take_take, Nat.min_eq_left (by omega)]
  have hl3 : (L.take (L.length - 1)).length = L.length - 1 := by rw [List.length_take]; omega
  generalize hm : L.length - 1 = m at *
  refine C.calls (args := [.pointer (some ⟨cb, 0, none⟩)]) Tryz.func138 rfl rfl rfl ?_
  refine go ?_
  rw [e1]
  refine go ?_
  refine E.ld hs ?_ (hj := hy)
  refine go ?_
  rw [e1]
  refine go ?_
  refine E.pv (Pv.slice rfl rfl rfl rfl (fun w => run_slice_h_at el_hds (by omega) w)) ?_
  refine go ?_
  refine E.sto hs ?_
  intro w2 hs
  refine go ?_
  refine A.r1 ?_
  exact HR.out _ _ (cur_close hl3 hok2 (Sat.swap (own_close hyc (by omega) hcm hfin hs)))

set_option maxHeartbeats 1600000 in
set_option maxRecDepth 100000 in
/-- The list at the root is taken out. -/
theorem heapPop_any {R : Ending → World → Prop} {W w : World} {g : Hl} {H : List HP} {cb : Nat} {x : Hd} {L : List Hd} (hl : (x :: L).length ≤ 1000000000) (hh : Heap (kat Hd.ky (x :: L)) 0 (x :: L).length) (hs : Sat W w g (cur cb (x :: L) :: H))
    (hR : ∀ w' v L', L'.Perm L → Heap (kat Hd.ky L') 0 L'.length → Sat W w' g (cur cb L' :: H) → R (.returned v) w') : Calls Tryz.prog 93 #[ci cb] w R := by
  have HR := Lib.hid hR
  clear hR
  refine C.calls (args := [ci cb]) Tryz.func93 rfl rfl rfl ?_
  refine go ?_
  refine E.hlen hs ?_
  have e1 : ((x :: L).length : Int) - 1 = (L.length : Int) := by simp
  have h0 : 0 < (x :: L).length := by simp
  have hn : L.length < (x :: L).length := by simp
  refine go ?_
  rw [e1]
  refine go ?_
  refine E.hswap (i := 0) (j := L.length) hs h0 hn ?_
  intro w2 hs
  refine go ?_
  have hi : HInv (kat Hd.ky (sw (x :: L) 0 L.length)) 0 L.length 0 := by
    refine heap_root (f := kat Hd.ky (x :: L)) (fun c h1 h2 h3 => hh c h1 (by omega) h3) fun q h1 h2 => ?_
    rw [kat_sw Hd.ky h0 hn, if_neg (by omega), if_neg (by omega)]
  have hsl := sw_len (x :: L) 0 L.length
  refine E.callf Tryz.func99 rfl ?_
  refine down_any (i0 := 0) (n := L.length) (by rw [hsl]; omega) (by rw [hsl]; exact hl) (Nat.zero_le _) hi hs ?_
  intro w3 L2 bb hp hh2 hq hs
  have hl2 : L2.length = (x :: L).length := by rw [hp.length_eq, hsl]
  refine go ?_
  refine E.inv Tryz.func138 (run_meth_ptr m_pop Tryz.underlying131 _) ?_
  refine hpop_any (by rw [hl2]; exact h0) (by rw [hl2]; exact hl) hs ?_
  intro w4 v hs
  refine go ?_
  refine A.r1 ?_
  have hl3 : L2.length - 1 = L.length := by rw [hl2]; simp
  rw [hl3] at hs
  have hlast : L2[L.length]? = some x := by rw [hq L.length (Nat.le_refl _), sw_get h0 hn, if_pos rfl]; rfl
  have hlt2 : L.length < L2.length := by rw [hl2]; exact hn
  have hsplit : L2.take L.length ++ [x] = L2 := by
    have h1 := List.take_succ_eq_append_getElem (l := L2) (i := L.length) hlt2
    have h2 : L2[L.length] = x := by
      have := List.getElem?_eq_getElem hlt2
      rw [hlast] at this
      simpa using this.symm
    rw [h2] at h1
    rw [← h1, List.take_of_length_le (by rw [hl2]; simp)]
  have hperm : (L2.take L.length).Perm L := by
    have h1 : (L2.take L.length ++ [x]).Perm (x :: L) := by
      rw [hsplit]
      exact hp.trans (sw_perm h0 hn)
    exact (List.perm_cons x).1 ((List.perm_append_comm (l₁ := [x]) (l₂ := L2.take L.length)).trans h1)
  refine HR.out _ _ _ hperm ?_ hs
  rw [hperm.length_eq]
  intro c h1 h2 h3
  have hk : ∀ q, q < L.length → kat Hd.ky (L2.take L.length) q = kat Hd.ky L2 q := fun q hq => by unfold kat; rw [List.getElem?_take, if_pos hq]
  rw [hk _ h2, hk _ (by omega)]
  exact hh2 c h1 h2 h3
end Go.Proofs.YtkolnecahlkndaaGreat
