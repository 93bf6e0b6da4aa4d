/-
  The stepping engine: calls through an interface; functions without a body; a map's copy.
-/
import Derived.Test.YtfhmamkafancbaaGreatDoorM02
import Derived.Laws.Externs
import Derived.Lib.ConvBytes
import Derived.Laws.Cover2
import Derived.Test.YtfhmamkafancbaaGreatDoorProg
namespace Go.Proofs.YtfhmamkafancbaaGreatDoor
open Go.RowKit
set_option linter.unusedVariables false
set_option linter.unusedSimpArgs false
set_option linter.unusedSectionVars false
section
variable {P : Program} {n : Fm} {ρ ρ' : List (Nat × Value)} {W w w' : World} {g g' : Hl} {H H' : List HP} {Q : Exit → Act → World → Prop} {ops : Array Oper} {rest : List Oper} {d : Option Tmp} {ty : TypeId} {ps : String} {af : Array Edge} {v u : Value} {x y : Operand} {N : List (Nat × Value) → World → Prop} {t e : TypeId}
/-- A call through an interface. -/
theorem St.inv {f : FuncId} {recv : Operand} {name : String} {xs : Array Operand} {ts : Array TypeId} {vs : List Value} {rv : Value} {fn : Func} {c : Code}
    (hf : P.funcs[f]? = some fn) (hm : (method (P.types.size + Made.depth) t u name).run P w = .ok (f, rv) w) (h : Calls P f (rv :: vs).toArray w (Ret n d ρ N Q))
    (hv : evo n ρ recv = some (.iface t u) := by exact rfl) (hx : evs n ρ xs.toList = some vs := by exact rfl) (hb : fn.body = some c := by exact rfl) (hnm : (fn.name == "runtime.NumGoroutine") = false := by exact rfl) :
    St P n ops ⟨d, .call ⟨.invoke recv name, xs, ts⟩, ty, ps, af, none⟩ ρ w N Q := St.mk fun a ha K hK => by
  rw [if_pos wanted_none]
  unfold Oper.wp
  have hnm' : ¬ fn.name = "runtime.NumGoroutine" := by simpa using hnm
  have hr : (execOp a.eval ⟨d, .call ⟨.invoke recv name, xs, ts⟩, ty, ps, af, none⟩).run P w = .ok (.enter f (rv :: vs).toArray) w := by
    simp only [execOp, resolve, ha.eval hv, ha.args hx]
    simp [invoke, callMethod, hm, callFunc, hf, hnm', hb, Result.andThen]
  rw [hr]
  refine h.mono fun e w' hq => ?_
  cases e with
  | returned v => exact hK _ _ _ hq (ha.put _ _)
  | panicked ch => exact A.use hq ha
  | outgrown => exact hq
theorem E.inv {f : FuncId} {recv : Operand} {name : String} {xs : Array Operand} {ts : Array TypeId} {vs : List Value} {rv : Value} {fn : Func} {c : Code}
    (hf : P.funcs[f]? = some fn) (hm : (method (P.types.size + Made.depth) t u name).run P w = .ok (f, rv) w) (h : Calls P f (rv :: vs).toArray w (Ret n d ρ (fun ρ' w' => E P n ops rest ρ' w' Q) Q))
    (hv : evo n ρ recv = some (.iface t u) := by exact rfl) (hx : evs n ρ xs.toList = some vs := by exact rfl) (hb : fn.body = some c := by exact rfl) (hnm : (fn.name == "runtime.NumGoroutine") = false := by exact rfl) :
    E P n ops (⟨d, .call ⟨.invoke recv name, xs, ts⟩, ty, ps, af, none⟩ :: rest) ρ w Q := E.cons (St.inv hf hm h hv hx hb hnm)
theorem run_typeInfo_some {i : TypeInfo} (h : P.info? t = some i) (w : World) : (typeInfo t).run P w = .ok i w := by simp [typeInfo, h]
/-- What an interface's row of methods says. -/
def MethOf (P : Program) (t : TypeId) (name : String) (f : FuncId) (byPtr : Bool) : Prop := ∃ i m, P.info? t = some i ∧ i.methods.find? (·.name == name) = some m ∧ m.path = #[] ∧ m.func = some (f, byPtr)
theorem MethOf.mk {name : String} {f : FuncId} {byPtr : Bool} (h : ((P.info? t).bind fun i => (i.methods.find? (·.name == name)).map fun m => (m.path.toList.isEmpty, m.func)) = some (true, some (f, byPtr))) : MethOf P t name f byPtr := by
  obtain ⟨i, hi, h⟩ := Option.bind_eq_some_iff.1 h
  obtain ⟨m, hm, h⟩ := Option.map_eq_some_iff.1 h
  simp only [Prod.mk.injEq] at h
  refine ⟨i, m, hi, hm, ?_, h.2⟩
  have := h.1
  simpa [List.isEmpty_iff] using this
theorem wrapNil {ts : Array TypeId} {t : TypeId} {a : Addr} {s m : ByteArray} : Builtin.ssaWrapNilChk_ ts t #[.pointer (some a), .string s, .string m] = pure (.pointer (some a)) := rfl
/-- A method of what it points to. -/
theorem run_meth_val {name : String} {f : FuncId} {a : Addr} (h : MethOf P t name f false) (ht : P.underlying t = some (.pointer e)) {w : World} (hl : (loadVar e a).run P w = .ok v w) : (method (P.types.size + Made.depth) t (.pointer (some a)) name).run P w = .ok (f, v) w := by
  obtain ⟨i, m, hi, hm, hp, hfn⟩ := h
  have e : P.types.size + Made.depth = (P.types.size + 99) + 1 := rfl
  rw [e]
  unfold method
  simp only [Sem.run_bind, run_typeInfo_some hi, Result.andThen_ok, hm, hp, follow, Sem.run_pure, hfn]
  unfold receiverAt
  simp only [Sem.run_bind, run_underlying ht, Result.andThen_ok, Place.get, Sem.run_pure, Array.isEmpty_empty, if_true, strVal, wrapNil, asAddr, hl]
/-- A function without a body, that the model knows. -/
theorem E.ext {f : FuncId} {xs : Array Operand} {ts : Array TypeId} {vs : List Value} {fn : Func} {ex : Array Value → Sem Value} (hf : P.funcs[f]? = some fn) (hr : (ex vs.toArray).run P w = .ok v w') (h : E P n ops rest (pushv d v ρ) w' Q) (hx : evs n ρ xs.toList = some vs := by exact rfl)
    (hnm : (fn.name == "runtime.NumGoroutine") = false := by exact rfl) (hb : fn.body.isNone = true := by exact rfl) (hn : Extern.findNext fn = none := by kernel_rfl) (he : Extern.find fn = some ex := by kernel_rfl) :
    E P n ops (⟨d, .call ⟨.value (.func f), xs, ts⟩, ty, ps, af, none⟩ :: rest) ρ w Q := E.cons (St.val (fun a ha => by
  simp only [execOp, resolve, Act.eval, ha.args hx]
  simp [Deferred.ofValue, invoke, run_callFunc_extern hf hnm hb hn he, hr, Result.andThen]) h)
end
section
variable {P : Program} {n : Fm} {ρ ρ' : List (Nat × Value)} {W w w' : World} {g g' : Hl} {H H' : List HP} {Q : Exit → Act → World → Prop} {l : List Oper} {S : World → Prop} {fuel m i : Nat} {d : Option Tmp} {ty : TypeId} {ps : String} {af : Array Edge} {v u : Value} {x y : Operand} {b j k : Nat} {xs : List Value} {e t : TypeId}
/-- In a drawn region: the one operation that may come up. -/
theorem EH.bsl {parts : Array (Nat × Operand)} {vs : List (Nat × Value)} {cs : List Value} (hs : Sat W w g H) (h : ∀ b w', Sat W w' g (blk b cs e :: H) → S w' ∧ EH P n l S fuel (bset m i) (pushv d (.slice (some ⟨b, 0, none⟩) k k) ρ) w' Q)
    (hr : rdy m l.length 0 l = [i] := by exact rfl) (hi : nth l i = some ⟨d, .buildSlice t k parts, ty, ps, af, none⟩ := by exact rfl) (hx : evp n ρ parts.toList = some vs := by exact rfl) (hrun : (Instr.buildSlice t k vs.toArray).run P w = .ok (.slice (some ⟨w.heap.size, 0, none⟩) k k) (w.alloc (.cells cs.toArray e)) := by go_simp; first | done | exact rfl | exact ⟨rfl, rfl⟩) :
    EH P n l S (fuel + 1) m ρ w Q := EH.one (St.buildSlice hs hx hrun h) hr hi
theorem EH.orb {oi : Oper} {i1 : Nat} {parts : Array (Nat × Operand)} {vs : List (Nat × Value)} {cs : List Value} (hs : Sat W w g H) (h1 : St P n l.toArray oi ρ w (fun ρ' w' => S w' ∧ EH P n l S fuel (bset m i1) ρ' w' Q) Q) (h : ∀ b w', Sat W w' g (blk b cs e :: H) → S w' ∧ EH P n l S fuel (bset m i) (pushv d (.slice (some ⟨b, 0, none⟩) k k) ρ) w' Q)
    (hr : rdy m l.length 0 l = [i1, i] := by exact rfl) (ho : nth l i1 = some oi := by exact rfl) (hi : nth l i = some ⟨d, .buildSlice t k parts, ty, ps, af, none⟩ := by exact rfl) (hx : evp n ρ parts.toList = some vs := by exact rfl) (hrun : (Instr.buildSlice t k vs.toArray).run P w = .ok (.slice (some ⟨w.heap.size, 0, none⟩) k k) (w.alloc (.cells cs.toArray e)) := by go_simp; first | done | exact rfl | exact ⟨rfl, rfl⟩) :
    EH P n l S (fuel + 1) m ρ w Q := EH.two h1 (St.buildSlice hs hx hrun h) hr ho hi
/-- Three blocks are held. -/
theorem C.held3 {id : Nat} (b1 b2 b3 : Nat) {x1 x2 x3 : List Value} {e1 e2 e3 : TypeId} (hs : Sat W w g H) (h : ∀ w', Keeps g [(b1, x1, e1), (b2, x2, e2), (b3, x3, e3)] w' → Sat W w' g H → EH P n l (Keeps g [(b1, x1, e1), (b2, x2, e2), (b3, x3, e3)]) l.length 0 ρ w' Q) (h1 : Fd H b1 x1 e1 := by exact fd_) (h2 : Fd H b2 x2 e2 := by exact fd_) (h3 : Fd H b3 x3 e3 := by exact fd_) (hm : P.follows .mixedOrders = true := by kernel_rfl) : C P n (.region id l.toArray true) ρ w Q :=
  C.held _ hs (fun w' hs' => h w' ((((Keeps.of0 hs').ofs hs' h3).ofs hs' h2).ofs hs' h1) hs') hm
theorem kept3 {G : Prop} {b1 b2 b3 : Nat} {x1 x2 x3 : List Value} {e1 e2 e3 : TypeId} (hs : Sat W w g' H) (h : Keeps g [(b1, x1, e1), (b2, x2, e2), (b3, x3, e3)] w → G) (hg : Hl.le g g' := by first | exact Hl.le_refl _ | assumption | exact Hl.le.trans (by assumption) (by assumption)) (h1 : Fd H b1 x1 e1 := by exact fd_) (h2 : Fd H b2 x2 e2 := by exact fd_) (h3 : Fd H b3 x3 e3 := by exact fd_) : Keeps g [(b1, x1, e1), (b2, x2, e2), (b3, x3, e3)] w ∧ G :=
  have hk := (((Keeps.of0 hs hg).ofs hs h3).ofs hs h2).ofs hs h1
  ⟨hk, h hk⟩
theorem EH.ora {oi : Oper} {i1 : Nat} {z : Value} (hs : Sat W w g H) (h1 : St P n l.toArray oi ρ w (fun ρ' w' => S w' ∧ EH P n l S fuel (bset m i1) ρ' w' Q) Q) (h : ∀ b w', Sat W w' g (blk b xs e :: H) → S w' ∧ EH P n l S fuel (bset m i) (pushv d (.pointer (some ⟨b, 0, none⟩)) ρ) w' Q)
    (hr : rdy m l.length 0 l = [i1, i] := by exact rfl) (ho : nth l i1 = some oi := by exact rfl) (hi : nth l i = some ⟨d, .alloc e, ty, ps, af, none⟩ := by exact rfl) (hz : (zeroValue e).run P w = .ok z w := by go_simp; first | done | exact rfl | exact ⟨rfl, rfl⟩) (hx : z.cells.toList = xs := by exact nz_) :
    EH P n l S (fuel + 1) m ρ w Q := EH.two h1 (St.alloc hs hz hx h) hr ho hi
theorem EH.al {z : Value} (hs : Sat W w g H) (h : ∀ b w', Sat W w' g (blk b xs e :: H) → S w' ∧ EH P n l S fuel (bset m i) (pushv d (.pointer (some ⟨b, 0, none⟩)) ρ) w' Q)
    (hr : rdy m l.length 0 l = [i] := by exact rfl) (hi : nth l i = some ⟨d, .alloc e, ty, ps, af, none⟩ := by exact rfl) (hz : (zeroValue e).run P w = .ok z w := by go_simp; first | done | exact rfl | exact ⟨rfl, rfl⟩) (hx : z.cells.toList = xs := by exact nz_) :
    EH P n l S (fuel + 1) m ρ w Q := EH.one (St.alloc hs hz hx h) hr hi
theorem EH.bx (hs : Sat W w g H) (h : ∀ b w', Sat W w' g (blk b xs e :: H) → S w' ∧ EH P n l S fuel (bset m i) (pushv d (.pointer (some ⟨b, 0, none⟩)) ρ) w' Q)
    (hr : rdy m l.length 0 l = [i] := by exact rfl) (hi : nth l i = some ⟨d, .box e x, ty, ps, af, none⟩ := by exact rfl) (hv : evo n ρ x = some v := by exact rfl) (hx : v.cells.toList = xs := by exact nz_) :
    EH P n l S (fuel + 1) m ρ w Q := EH.one (St.box hs hv hx h) hr hi
theorem EH.sto {vs ys : List Value} (hs : Sat W w g H) (h : ∀ w', Sat W w' g H' → S w' ∧ EH P n l S fuel (bset m i) ρ w' Q)
    (hr : rdy m l.length 0 l = [i] := by exact rfl) (hi : nth l i = some ⟨none, .store t x y, ty, ps, af, none⟩ := by exact rfl) (hx : evo n ρ x = some (.pointer (some ⟨b, j, none⟩)) := by exact rfl) (hy : evo n ρ y = some v := by exact rfl) (hv : v.cells.toList = vs := by exact nz_) (hf : Fd H b xs e := by exact fd_) (hsp : spl xs j vs = ys := by exact nz_) (hu : Up b xs ys e H H' := by exact up_) (hj : Nat.ble (j + vs.length) xs.length = true := by exact rfl) (h1 : vs.all Value.oneCell' = true := by exact rfl) (ht : (sizeOf t).run P w = .ok vs.length w := by exact sz_) :
    EH P n l S (fuel + 1) m ρ w Q := EH.one (St.store hs hx hy hv (by subst hsp; exact hu) hj h1 ht h) hr hi
theorem EH.ld (hs : Sat W w g H) (h : S w ∧ EH P n l S fuel (bset m i) (pushv d v ρ) w Q)
    (hr : rdy m l.length 0 l = [i] := by exact rfl) (hi : nth l i = some ⟨d, .load t x, ty, ps, af, none⟩ := by exact rfl) (hx : evo n ρ x = some (.pointer (some ⟨b, j, none⟩)) := by exact rfl) (hf : Fd H b xs e := by exact fd_) (hj : xs[j]? = some v := by exact rfl) (ha : (isAgg t).run P w = .ok false w := by first | (go_simp; done) | fail) :
    EH P n l S (fuel + 1) m ρ w Q := EH.one (St.load hs hx hf hj ha h) hr hi
theorem EH.app {s : Operand} {z : Value} {size bytes q c : Nat} {a : Option Addr} {news : List Value} (he : ElemOf P t e z size bytes) (hs : Sat W w g (own e size (.slice a k c) k xs :: H)) {D : Nat → Prop} (hrow : Row size w D u q news)
    (h : ∀ a' c' w', k + q ≤ c' → c' ≤ 9223372036854775807 → Sat W w' g (own e size (.slice a' (k + q) c') (k + q) (xs ++ news) :: H) → S w' ∧ EH P n l S fuel (bset m i) (pushv d (.slice a' (k + q) c') ρ) w' Q)
    (hr : rdy m l.length 0 l = [i] := by exact rfl) (hi : nth l i = some ⟨d, .call ⟨.builtin .append, #[s, y], #[t, t]⟩, ty, ps, af, none⟩ := by exact rfl) (h63 : k + q ≤ 9223372036854775807 := by omega) (hbytes : (k + q) * bytes ≤ 140737488355328 := by omega)
    (hx : evo n ρ s = some (.slice a k c) := by exact rfl) (hy : evo n ρ y = some u := by exact rfl) (h1 : ∀ x ∈ news, x.oneCell' = true := by first | exact bs_one _ | (intro u hu; simp only [List.mem_cons, List.not_mem_nil, or_false] at hu; rcases hu with rfl | rfl | rfl <;> exact rfl)) :
    EH P n l S (fuel + 1) m ρ w Q := EH.one (St.append he hs hrow h1 h63 hbytes hx hy h) hr hi
end
section
variable {P : Program} {n : Fm} {ρ : List (Nat × Value)} {W w w' : World} {g g' : Hl} {H H' : List HP} {Q : Exit → Act → World → Prop} {ops : Array Oper} {rest : List Oper} {d : Option Tmp} {ty : TypeId} {ps : String} {af : Array Edge} {v u : Value} {x y : Operand} {e t : TypeId}
/-- []byte(s): the bytes are the pool's. -/
theorem E.bytes {l : List UInt8} {dt : TypeId} (h1 : P.underlying t = some .string) (h2 : P.underlying dt = some (.slice e)) (h3 : P.underlying e = some (.int .u8)) (hs : Sat W w g H) (hl : l.length ≤ 1000000000)
    (h : ∀ b c w' g', Hl.le g g' → Sat W w' g' H → Pr 1 g' (.slice (some ⟨b, 0, none⟩) l.length c) l.length (bs l) → E P n ops rest (pushv d (.slice (some ⟨b, 0, none⟩) l.length c) ρ) w' Q) (hx : evo n ρ x = some (.string ⟨l.toArray⟩) := by exact rfl) :
    E P n ops (⟨d, .convert t dt x, ty, ps, af, none⟩ :: rest) ρ w Q := by
  have hr := Go.Lib.run_convert_string_bytes w t dt e ⟨l.toArray⟩ h1 h2 h3
  have hsz : (⟨l.toArray⟩ : ByteArray).size = l.length := by simp [ByteArray.size]
  rw [hsz] at hr
  have hn : Sat W (Go.Lib.bytesWorld w e ⟨l.toArray⟩) g (obj w.heap.size (.cells (Go.Lib.bytesCells w e ⟨l.toArray⟩) e ((Go.Lib.bytesCells w e ⟨l.toArray⟩).size, (Go.Lib.bytesCells w e ⟨l.toArray⟩).size + 1)) :: H) := by
    refine hs.new (Nat.le_refl _) ?_ ?_ ?_ (fun k hk => Go.Lib.bytesWorld_at_old w e _ k hk) (Go.Lib.bytesWorld_at_new w e _)
    · simp [Go.Lib.bytesWorld, World.freeze, World.alloc, World.drew, -World.alloc_eq, -World.drew_eq]
    · simp [Go.Lib.bytesWorld, World.freeze, World.alloc, World.drew, -World.alloc_eq, -World.drew_eq]
    · simp [Go.Lib.bytesWorld, World.freeze, World.alloc, World.drew, -World.alloc_eq, -World.drew_eq]
  obtain ⟨h1, e1, e2, e3, hs2⟩ := hn.publish
  have e1' : h1 = Hl.one w.heap.size (.cells (Go.Lib.bytesCells w e ⟨l.toArray⟩) e ((Go.Lib.bytesCells w e ⟨l.toArray⟩).size, (Go.Lib.bytesCells w e ⟨l.toArray⟩).size + 1)) := e1
  have hcap : l.length ≤ grownCap w l.length 0 e ∧ grownCap w l.length 0 e ≤ 9223372036854775807 := by
    unfold grownCap
    simp only [Question.cut]
    have h0 : 0 < 2 ^ 63 - l.length := by omega
    generalize w.tape w.drawn (Question.appendCap l.length 0 e) = T
    have h1 := Nat.mod_lt T h0
    generalize T % (2 ^ 63 - l.length) = T' at h1 ⊢
    constructor <;> omega
  refine E.cons (St.val (v := .slice (some ⟨w.heap.size, 0, none⟩) l.length (grownCap w l.length 0 e)) (w' := Go.Lib.bytesWorld w e ⟨l.toArray⟩) (fun a ha => by simp [execOp, ha.eval hx, hr]) (h _ _ _ _ e2 hs2 ?_))
  refine ⟨by simp, some ⟨w.heap.size, 0, none⟩, grownCap w l.length 0 e, rfl, hcap.1, by unfold maxLen; omega, fun q => by simp at q, Or.inr ⟨w.heap.size, 0, _, _, _, rfl, e3 _ _ (show h1 w.heap.size = some _ from by rw [e1']; simp only [Hl.one, if_true]; rfl), ?_⟩⟩
  simp only [Go.Lib.bytesCells, List.drop_zero, Nat.mul_one, Array.toList_append, Array.toList_map, List.map_toArray]
  rw [List.take_append_of_le_length (by simp), List.take_of_length_le (by simp)]
  simp [bs]
/-! Floats. -/
/-- Is it no number? -/
def nanF (b : Nat) : Bool := Ieee.double.order b b != some .eq
end
section
variable {P : Program} {n : Fm} {ρ : List (Nat × Value)} {w : World} {Q : Exit → Act → World → Prop} {ops : Array Oper} {rest : List Oper} {d : Option Tmp} {ty : TypeId} {ps : String} {af : Array Edge} {x y : Operand} {e t : TypeId}
/-- &a[j] of an array in memory, an element of one cell. -/
theorem run_index_arr {b o j m : Nat} {kd : IntKind} {i : Int} (ht : P.underlying t = some (.array m e)) (hq : ∀ w, (sizeOf e).run P w = .ok 1 w) (hi : i = (j : Int)) (hj : j < m) (w : World) : (Instr.indexAt t (.pointer (some ⟨b, o, none⟩)) (.int kd i)).run P w = .ok (.pointer (some ⟨b, o + j, none⟩)) w := by
  subst hi
  simp [Instr.indexAt, run_underlying ht, asIntOf, hq, go_sem, hj, Addr.add_lit]
theorem E.ixa {b o m : Nat} {kd : IntKind} {i : Int} (j : Nat) (ht : P.underlying t = some (.array m e)) (h : E P n ops rest (pushv d (.pointer (some ⟨b, o + j, none⟩)) ρ) w Q) (hq : ∀ w, (sizeOf e).run P w = .ok 1 w := by intro w; exact sz_)
    (hx : evo n ρ x = some (.pointer (some ⟨b, o, none⟩)) := by exact rfl) (hy : evo n ρ y = some (.int kd i) := by exact rfl) (hi : i = (j : Int) := by omega) (hj : j < m := by omega) : E P n ops (⟨d, .indexAddr t x y, ty, ps, af, none⟩ :: rest) ρ w Q :=
  E.pv (Pv.indexAddr hx hy (run_index_arr ht hq hi hj)) h
end
/-- What is left is walked once, for all branches that come to it: 'apply later (f := ..) (M := ..)', the branches first. -/
theorem later {α : Type} {P : Program} {n : Fm} {c : Code} {Q : Exit → Act → World → Prop} {f : α → List (Nat × Value)} {M : α → World → Prop} {G : Prop} (main : (∀ x w, M x w → C P n c (f x) w Q) → G) (key : ∀ x w, M x w → C P n c (f x) w Q) : G := main key
end Go.Proofs.YtfhmamkafancbaaGreatDoor

/-
  Strings of bytes, as values and as a map's keys.
-/
namespace Go.Proofs.YtfhmamkafancbaaGreatDoor
open Go.RowKit
set_option linter.unusedVariables false
set_option linter.unusedSimpArgs false
/-- A string of bytes, as a value. -/
def str (k : List UInt8) : Value := .string ⟨k.toArray⟩
theorem ky_str : Ky Tryz.prog 9 str where
  kind := ⟨.string, Tryz.underlying9, fun a => trivial, fun a b => by simp [str, Instr.sameNow, str_beq]⟩
  bits := fun a => by
    have := str_beq a a
    simp [str, Instr.sameBits, this]
def ptr (b : Nat) : Value := .pointer (some ⟨b, 0, none⟩)
end Go.Proofs.YtfhmamkafancbaaGreatDoor

/-
  Rows of bytes.
-/
namespace Go.Proofs.YtfhmamkafancbaaGreatDoor
open Go.RowKit
set_option linter.unusedVariables false
set_option linter.unusedSimpArgs false
theorem el_u8 : ElemOf Tryz.prog 23 5 (.int .u8 0) 1 1 := .of Tryz.underlying23 (by kernel_rfl) rfl (by decide)
theorem one_bs (l : List UInt8) : ∀ u ∈ bs l, u.oneCell' = true := bs_one l
end Go.Proofs.YtfhmamkafancbaaGreatDoor

/-
  Layer 2 (digits): a number behind some bytes.
-/
namespace Go.Proofs.YtfhmamkafancbaaGreatDoor
open Go.RowKit
set_option linter.unusedVariables false
set_option linter.unusedSimpArgs false
/-- A number in groups of seven bits. -/
def layN (n : Nat) : List UInt8 :=
  if n < 128 then [UInt8.ofNat n] else UInt8.ofNat ((n % 256) ||| 128) :: layN (n / 2 ^ 7)
termination_by n
decreasing_by omega
theorem layN_small {n : Nat} (h : n < 128) : layN n = [UInt8.ofNat n] := by rw [layN, if_pos h]
theorem layN_big {n : Nat} (h : ¬ n < 128) : layN n = UInt8.ofNat ((n % 256) ||| 128) :: layN (n / 2 ^ 7) := by rw [layN, if_neg h]
theorem layN_len : ∀ (k n : Nat), n < 128 ^ (k + 1) → (layN n).length ≤ k + 1
  | 0, n, h => by rw [layN_small (by simpa using h)]; simp
  | k + 1, n, h => by
    by_cases h1 : n < 128
    · rw [layN_small h1]; simp
    · rw [layN_big h1, List.length_cons]
      have := layN_len k (n / 2 ^ 7) (by
        rw [Nat.div_lt_iff_lt_mul (by decide)]
        rw [Nat.pow_succ] at h
        exact h)
      omega
theorem layN_ten {n : Nat} (h : n < 18446744073709551616) : (layN n).length ≤ 10 := layN_len 9 n (by omega)
structure LS where
  n : Nat
  k : Nat
  a : Option Addr
  c : Nat
  xs : List Value
set_option maxHeartbeats 1600000 in
set_option maxRecDepth 100000 in
theorem lay_any {R : Ending → World → Prop} {W w : World} {g : Hl} {H : List HP} {v : Value} {k n : Nat} {xs : List Value} (hs : Sat W w g (own 5 1 v k xs :: H)) (hn : n < 18446744073709551616) (hk : k ≤ 1000000000)
    (hR : ∀ a' c' w', Sat W w' g (own 5 1 (.slice a' (k + (layN n).length) c') (k + (layN n).length) (xs ++ bs (layN n)) :: H) → R (.returned (.slice a' (k + (layN n).length) c')) w') :
    Calls Tryz.prog 126 #[v, .int .u64 n] w R := by
  have HR := Lib.hid hR
  clear hR
  obtain ⟨a, c, rfl, hkc, hcm, _⟩ := hs.ownLen
  have hlen := layN_ten hn
  refine C.calls (args := [.slice a k c, .int .u64 n]) Tryz.func126 rfl rfl rfl ?_
  refine go ?_
  refine C.loop (fun x : LS => [(0, .slice x.a x.k x.c), (1, .int .u64 x.n)]) (fun gk x w => gk = x.n ∧ x.n < 18446744073709551616 ∧ x.k + (layN x.n).length = k + (layN n).length ∧ x.xs ++ bs (layN x.n) = xs ++ bs (layN n) ∧ Sat W w g (own 5 1 (.slice x.a x.k x.c) x.k x.xs :: H)) n ⟨n, k, a, c, xs⟩ wk_ ⟨rfl, hn, rfl, rfl, hs⟩ ?_
  clear hs
  rintro n1 ⟨n1, k1, a1, c1, xs1⟩ w1 ⟨rfl, hn1, hk1, hx1, hs⟩
  simp only at hn1 hk1 hx1 hs ⊢
  refine go ?_
  refine C.cond_dec (p := (128 : Int) ≤ n1) rfl (fun hlt => ?_) (fun hlt => ?_)
  · refine go ?_
    refine E.bsl hs ?_
    intro b2 w2 hs
    apply E.cons
    apply St.append el_u8 hs.swap (hs.rowOf (size := 1) 1 rfl (by decide)) (by intro u hu; simp only [List.mem_singleton] at hu; subst hu; rfl) (by omega) (by omega)
    · exact rfl
    · exact rfl
    intro a2 c2 w3 _ _ hs
    refine go ?_
    have hb := layN_big (n := n1) (by omega)
    have ho : (n1 % 256) ||| 128 < 256 := Nat.or_lt_two_pow (n := 8) (by omega) (by omega)
    refine A.round (n1 / 2 ^ 7) ⟨n1 / 2 ^ 7, k1 + 1, a2, c2, xs1 ++ [.int .u8 ((n1 % 256) ||| 128 : Nat)]⟩ (by omega) wk_ ⟨rfl, by simp only; omega, ?_, ?_, hs.swap.drop⟩
    · simp only
      rw [← hk1, hb, List.length_cons]; omega
    · simp only
      rw [← hx1, hb]
      simp [bs, Nat.mod_eq_of_lt ho]
  · refine go ?_
    refine E.bsl hs ?_
    intro b2 w2 hs
    apply E.cons
    apply St.append el_u8 hs.swap (hs.rowOf (size := 1) 1 rfl (by decide)) (by intro u hu; simp only [List.mem_singleton] at hu; subst hu; rfl) (by omega) (by omega)
    · exact rfl
    · exact rfl
    intro a2 c2 w3 _ _ hs
    refine go ?_
    have hb := layN_small (n := n1) (by omega)
    rw [hb] at hk1 hx1
    refine A.r1 ?_
    have e1 : k1 + 1 = k + (layN n).length := by simpa using hk1
    have e2 : xs1 ++ [.int .u8 (n1 : Int)] = xs ++ bs (layN n) := by
      rw [← hx1]
      have : n1 % 256 = n1 := by omega
      simp [bs, this]
    have hs := hs.swap.drop
    rw [e1, e2] at hs
    rw [e1]
    exact HR.out _ _ _ hs
end Go.Proofs.YtfhmamkafancbaaGreatDoor

/-
  Layer 2 (digits): a text behind some bytes.
-/
namespace Go.Proofs.YtfhmamkafancbaaGreatDoor
open Go.RowKit
set_option linter.unusedVariables false
set_option linter.unusedSimpArgs false
/-- A text: how many bytes, and they. -/
def textB (t : List UInt8) : List UInt8 := layN t.length ++ t
theorem textB_len (t : List UInt8) (h : t.length < 18446744073709551616) : (textB t).length ≤ t.length + 10 := by
  have := layN_ten h
  unfold textB
  rw [List.length_append]
  omega
set_option maxHeartbeats 1600000 in
set_option maxRecDepth 100000 in
theorem layText_any {R : Ending → World → Prop} {W w : World} {g : Hl} {H : List HP} {v u : Value} {k m : Nat} {xs : List Value} {t : List UInt8} (hs : Sat W w g (own 5 1 v k xs :: H)) (hp : Pr 1 g u m (bs t)) (ht : t.length = m) (hm : m ≤ 1000000000) (hk : k ≤ 1000000000)
    (hR : ∀ a' c' w', Sat W w' g (own 5 1 (.slice a' (k + (textB t).length) c') (k + (textB t).length) (xs ++ bs (textB t)) :: H) → R (.returned (.slice a' (k + (textB t).length) c')) w') :
    Calls Tryz.prog 130 #[v, u] w R := by
  have HR := Lib.hid hR
  clear hR
  obtain ⟨a, c, rfl, hkc, hcm, _⟩ := hs.ownLen
  obtain ⟨a1, c1, rfl, _, _⟩ := hp.len
  have hl := layN_ten (n := m) (by omega)
  refine C.calls (args := [.slice a k c, .slice a1 m c1]) Tryz.func130 rfl rfl rfl ?_
  refine go ?_
  refine E.callf Tryz.func126 rfl ?_
  refine lay_any hs (by omega) hk ?_
  intro a2 c2 w2 hs
  refine go ?_
  apply E.cons
  apply St.append el_u8 hs (hp.row hs) (one_bs t) (by omega) (by omega)
  · exact rfl
  · exact rfl
  intro a3 c3 w3 _ _ hs
  refine go ?_
  refine A.r1 ?_
  have e1 : k + (layN m).length + m = k + (textB t).length := by simp [textB, ht]; omega
  have e2 : xs ++ bs (layN m) ++ bs t = xs ++ bs (textB t) := by simp [textB, ht, bs_append]
  rw [e1, e2] at hs
  rw [e1]
  exact HR.out _ _ _ hs
end Go.Proofs.YtfhmamkafancbaaGreatDoor

/-
  What an event is.
-/
namespace Go.Proofs.YtfhmamkafancbaaGreatDoor
open Go.RowKit
set_option linter.unusedVariables false
set_option linter.unusedSimpArgs false
/-- An event; 'tv' is its text's slice. -/
structure Ev where
  wr : Int
  sq : Nat
  tm : Nat
  kd : Nat
  key : List UInt8
  text : List UInt8
  num : Nat
  nd : Int
  tv : Value
/-- Its cells. -/
def Ev.cs (e : Ev) : List Value := [.int .i64 e.wr, .int .u64 e.sq, .int .u64 e.tm, .int .u8 e.kd, .string ⟨e.key.toArray⟩, e.tv, .float .f64 e.num, .int .i64 e.nd]
def Ev.val (e : Ev) : Value := .agg e.cs.toArray
/-- Its parts are of their kinds, and its text lies in the pool. -/
structure Ev.ok (e : Ev) (g : Hl) : Prop where
  wr : -9223372036854775808 ≤ e.wr ∧ e.wr ≤ 9223372036854775807
  sq : e.sq < 18446744073709551616
  tm : e.tm < 18446744073709551616
  kd : e.kd < 256
  num : e.num < 18446744073709551616
  nd : -9223372036854775808 ≤ e.nd ∧ e.nd ≤ 9223372036854775807
  key : e.key.length ≤ 100000000
  text : e.text.length ≤ 100000000
  tv : Pr 1 g e.tv e.text.length (bs e.text)
theorem Ev.cs_one {e : Ev} {g : Hl} (h : e.ok g) : e.cs.all Value.oneCell' = true := by
  obtain ⟨a, c, he, _, _⟩ := h.tv.len
  simp only [Ev.cs, he, List.all_cons, List.all_nil]
  rfl
theorem Ev.ok.mono {e : Ev} {g g' : Hl} (h : e.ok g) (hg : Hl.le g g') : e.ok g' := ⟨h.wr, h.sq, h.tm, h.kd, h.num, h.nd, h.key, h.text, h.tv.mono hg⟩
theorem spl_go : ∀ (vs pre xs : List Value), xs.length = vs.length → spl (pre ++ xs) pre.length vs = pre ++ vs
  | [], pre, xs, h => by
    obtain rfl : xs = [] := List.eq_nil_of_length_eq_zero (by simpa using h)
    rfl
  | v :: r, pre, x :: xs, h => by
    simp only [spl]
    rw [List.set_append_right _ _ (Nat.le_refl _), Nat.sub_self, List.set_cons_zero]
    have := spl_go r (pre ++ [v]) xs (by simpa using h)
    simp only [List.append_assoc, List.cons_append, List.nil_append, List.length_append, List.length_cons, List.length_nil] at this
    exact this
theorem spl_all {xs vs : List Value} (h : xs.length = vs.length) : spl xs 0 vs = vs := spl_go vs [] xs h
theorem ag_ev : AggOf Tryz.prog 26 8 := ⟨_, Tryz.underlying26, rfl, by kernel_rfl⟩
end Go.Proofs.YtfhmamkafancbaaGreatDoor

/-
  Layer 6 (event): what an event is; places, and how they stand; which events may be.
-/
namespace Go.Proofs.YtfhmamkafancbaaGreatDoor
open Go.RowKit
set_option linter.unusedVariables false
set_option linter.unusedSimpArgs false
end Go.Proofs.YtfhmamkafancbaaGreatDoor

/-
  Layer 7 (vector): Get, Trim, With.
-/
namespace Go.Proofs.YtfhmamkafancbaaGreatDoor
open Go.RowKit
set_option linter.unusedVariables false
set_option linter.unusedSimpArgs false
/-- The cells of numbers. -/
def us (v : List Nat) : List Value := v.map fun (n : Nat) => .int .u64 (n : Int)
@[simp] theorem us_length (v : List Nat) : (us v).length = v.length := by simp [us]
theorem us_one (l : List Nat) : ∀ u ∈ us l, u.oneCell' = true := by
  intro u hu
  obtain ⟨x, _, rfl⟩ := List.mem_map.1 hu
  rfl
theorem us_get {l : List Nat} {j : Nat} (h : j < l.length) : (us l)[j]? = some (.int .u64 (l[j] : Int)) := by simp [us, h]
theorem us_take (l : List Nat) (k : Nat) : us (l.take k) = (us l).take k := by simp [us, List.map_take]
theorem el_vec : ElemOf Tryz.prog 47 22 (.int .u64 0) 1 8 := .of Tryz.underlying47 (by kernel_rfl) rfl (by decide)
def vget (v : List Nat) (w : Int) : Nat := if 0 ≤ w then v.getD w.toNat 0 else 0
/-- How many without noughts behind. -/
def vlen : List Nat → Nat
  | [] => 0
  | x :: r => if vlen r = 0 ∧ x = 0 then 0 else vlen r + 1
def vtrim (v : List Nat) : List Nat := v.take (vlen v)
theorem vlen_le : ∀ (v : List Nat), vlen v ≤ v.length
  | [] => Nat.le_refl _
  | x :: r => by have := vlen_le r; simp only [vlen, List.length_cons]; split <;> omega
theorem vlen_zero : ∀ (v : List Nat), (∀ k, (h : k < v.length) → v[k] = 0) → vlen v = 0
  | [], _ => rfl
  | x :: r, h => by
    have h0 := h 0 (by simp)
    have := vlen_zero r fun k hk => by have := h (k + 1) (by simpa using hk); simpa using this
    simp only [vlen]
    rw [if_pos ⟨this, by simpa using h0⟩]
theorem vlen_eq : ∀ (v : List Nat) (n : Nat), n ≤ v.length → (∀ k, (h : k < v.length) → n ≤ k → v[k] = 0) → (n = 0 ∨ ∃ h : n - 1 < v.length, v[n - 1] ≠ 0) → vlen v = n
  | [], n, h, _, _ => by simp only [List.length_nil] at h; simp only [vlen]; omega
  | x :: r, 0, _, h, _ => vlen_zero _ fun k hk => h k hk (Nat.zero_le _)
  | x :: r, n + 1, h1, h2, h3 => by
    simp only [List.length_cons] at h1
    rcases h3 with h3 | ⟨h3, h4⟩
    · omega
    rcases Nat.eq_zero_or_pos n with rfl | hn
    · have h0 := vlen_zero r fun k hk => by have := h2 (k + 1) (by simpa using hk) (by omega); simpa using this
      simp only [vlen, h0]
      have : x ≠ 0 := by simpa using h4
      rw [if_neg (by omega)]
    · have ih := vlen_eq r n (by omega) (fun k hk hnk => by have := h2 (k + 1) (by simpa using hk) (by omega); simpa using this) (.inr ⟨by simp only [List.length_cons] at h3; omega, by
        obtain ⟨m, rfl⟩ : ∃ m, n = m + 1 := ⟨n - 1, by omega⟩
        simpa using h4⟩)
      simp only [vlen, ih]
      rw [if_neg (by omega)]
theorem vtrim_len (v : List Nat) : (vtrim v).length ≤ v.length := by unfold vtrim; rw [List.length_take]; omega
set_option maxHeartbeats 1600000 in
set_option maxRecDepth 100000 in
theorem vget_any {R : Ending → World → Prop} {W w : World} {g : Hl} {H : List HP} {a : Option Addr} {n c : Nat} {v : List Nat} {i : Int} (hs : Sat W w g H) (hp : Pr 1 g (.slice a n c) n (us v)) (hn : v.length = n) (hn2 : n ≤ 1000000000) (hR : R (.returned (.int .u64 (vget v i))) w) :
    Calls Tryz.prog 77 #[.slice a n c, .int .i64 i] w R := by
  have HR := Lib.hid hR
  clear hR
  refine C.calls (args := [.slice a n c, .int .i64 i]) Tryz.func77 rfl rfl rfl ?_
  refine go ?_
  cases h1 : decide (i < 0) with
  | true =>
    refine go ?_
    refine A.r1 ?_
    have h1 := of_decide_eq_true h1
    have := HR.out
    simp only [vget] at this
    rw [if_neg (by omega)] at this
    exact this
  | false =>
  have h1 := of_decide_eq_false h1
  refine go ?_
  cases h2 : decide ((n : Int) ≤ i) with
  | true =>
    refine go ?_
    refine A.r1 ?_
    have h2 := of_decide_eq_true h2
    have := HR.out
    simp only [vget] at this
    rw [if_pos (by omega), List.getD_eq_getElem?_getD, List.getElem?_eq_none (by omega)] at this
    exact this
  | false =>
  have h2 := of_decide_eq_false h2
  refine go ?_
  refine E.ix el_vec hs hp i.toNat (us_get (by omega)) ?_
  intro b o hc
  refine go ?_
  refine A.r1 ?_
  have := HR.out
  simp only [vget] at this
  rw [if_pos (by omega), List.getD_eq_getElem?_getD, List.getElem?_eq_getElem (by omega)] at this
  exact this
set_option maxHeartbeats 1600000 in
set_option maxRecDepth 100000 in
theorem vclone_any {R : Ending → World → Prop} {W w : World} {g : Hl} {H : List HP} {a : Option Addr} {n c : Nat} {v : List Nat} (hs : Sat W w g H) (hp : Pr 1 g (.slice a n c) n (us v)) (hn : n ≤ 1000000000)
    (hR : ∀ a' c' w', Sat W w' g (own 22 1 (.slice a' n c') n (us v) :: H) → R (.returned (.slice a' n c')) w') :
    Calls Tryz.prog 119 #[.slice a n c] w R := by
  have HR := Lib.hid hR
  clear hR
  cases a with
  | none =>
    obtain ⟨hx, a0, c0, e, _, _, h0, _⟩ := id hp
    simp only [Value.slice.injEq] at e
    obtain ⟨rfl, _, rfl⟩ := e
    obtain ⟨rfl, rfl⟩ := h0 rfl
    obtain rfl : v = [] := by simpa using hx
    refine C.calls (args := [.slice none 0 0]) Tryz.func119 rfl rfl rfl ?_
    refine go ?_
    refine A.r1 ?_
    exact HR.out _ _ _ hs.nilOwn
  | some ad =>
    refine C.calls (args := [.slice (some ad) n c]) Tryz.func119 rfl rfl rfl ?_
    refine go ?_
    refine E.bsl hs ?_
    intro b1 w1 hs
    have hs := hs.blkOwn (size := 1) 0 rfl (by decide)
    refine go ?_
    refine E.app el_vec hs (hp.row hs) ?_ (h1 := us_one _)
    intro a2 c2 w2 _ _ hs
    simp only [Nat.zero_add, List.nil_append] at hs ⊢
    refine go ?_
    refine A.r1 ?_
    exact HR.out _ _ _ hs
set_option maxHeartbeats 1600000 in
set_option maxRecDepth 100000 in
theorem vtrim_any {R : Ending → World → Prop} {W w : World} {g : Hl} {H : List HP} {a : Option Addr} {n c : Nat} {v : List Nat} (hs : Sat W w g H) (hp : Pr 1 g (.slice a n c) n (us v)) (hv : v.length = n) (hn : n ≤ 1000000000)
    (hR : ∀ a' c' w' g', Hl.le g g' → Pr 1 g' (.slice a' (vtrim v).length c') (vtrim v).length (us (vtrim v)) → Sat W w' g' H → R (.returned (.slice a' (vtrim v).length c')) w') :
    Calls Tryz.prog 60 #[.slice a n c] w R := by
  have HR := Lib.hid hR
  clear hR
  refine C.calls (args := [.slice a n c]) Tryz.func60 rfl rfl rfl ?_
  refine gob ?_
  refine C.cutQ (fun _ : Unit => [(0, .slice a n c), (3, .int .i64 (vlen v))]) (fun _ w => Sat W w g H) ?_ ?_
  · refine C.block ?_
    refine C.lp (fun m : Nat => [(0, .slice a n c), (3, .int .i64 m)]) (fun gk m w => gk = m ∧ m ≤ n ∧ (∀ k, (h : k < v.length) → m ≤ k → v[k] = 0) ∧ Sat W w g H) n n ⟨rfl, Nat.le_refl _, fun k h h2 => by omega, hs⟩ ?_
    clear hs
    rintro gk m w1 ⟨rfl, hm, hz, hs⟩
    refine go ?_
    cases h1 : decide ((0 : Int) < gk) with
    | false =>
      have h1 := of_decide_eq_false h1
      refine go ?_
      refine A.mt () hs ?_
      have : vlen v = gk := vlen_eq v gk (by omega) hz (.inl (by omega))
      rw [this]
      exact wk_
    | true =>
    have h1 := of_decide_eq_true h1
    refine go ?_
    have hlt : gk - 1 < v.length := by omega
    refine E.ix el_vec hs hp (gk - 1) (us_get hlt) ?_
    intro b o hc
    refine go ?_
    cases h2 : decide ((v[gk - 1] : Int) = 0) with
    | false =>
      have h2 := of_decide_eq_false h2
      refine go ?_
      refine A.mt () hs ?_
      have : vlen v = gk := vlen_eq v gk (by omega) hz (.inr ⟨hlt, by omega⟩)
      rw [this]
      exact wk_
    | true =>
      have h2 := of_decide_eq_true h2
      refine go ?_
      have e1 : ((gk : Int) - 1) = ((gk - 1 : Nat) : Int) := by omega
      rw [e1]
      refine A.rd (gk - 1) (gk - 1) ⟨rfl, by omega, fun k hk hmk => ?_, hs⟩
      rcases Nat.lt_or_ge k gk with h | h
      · obtain rfl : k = gk - 1 := by omega
        omega
      · exact hz k hk h
  clear hs
  rintro _ w1 hs
  have hvl := vlen_le v
  refine go ?_
  refine E.slp el_vec hp 0 (vlen v) ?_
  intro a2 c2 hp2
  simp only [Nat.zero_mul, List.drop_zero, Nat.sub_zero, Nat.mul_one] at hp2 ⊢
  rw [← us_take] at hp2
  have hl : (vtrim v).length = vlen v := by unfold vtrim; rw [List.length_take]; omega
  refine E.callf Tryz.func119 rfl ?_
  refine vclone_any hs hp2 (by omega) ?_
  intro a3 c3 w3 hs
  obtain ⟨g3, hg3, hp3, hs⟩ := hs.publishOwn
  refine go ?_
  refine A.r1 ?_
  have hp4 : Pr 1 g3 (.slice a3 (vtrim v).length c3) (vtrim v).length (us (vtrim v)) := by rw [hl]; exact hp3
  rw [← hl]
  exact HR.out _ _ _ _ hg3 hp4 hs
end Go.Proofs.YtfhmamkafancbaaGreatDoor

/-
  Layer 7 (vector): as bytes.
-/
namespace Go.Proofs.YtfhmamkafancbaaGreatDoor
open Go.RowKit
set_option linter.unusedVariables false
set_option linter.unusedSimpArgs false
/-- A vector as bytes: how many, and they. -/
def vecB (v : List Nat) : List UInt8 := layN (vtrim v).length ++ (vtrim v).flatMap layN
theorem flat_ten : ∀ (l : List Nat), (∀ x ∈ l, x < 18446744073709551616) → (l.flatMap layN).length ≤ 10 * l.length
  | [], _ => by simp
  | x :: r, h => by
    have h1 := flat_ten r fun y hy => h y (List.mem_cons_of_mem _ hy)
    have h2 := layN_ten (h x (List.mem_cons_self ..))
    simp only [List.flatMap_cons, List.length_append, List.length_cons]
    omega
theorem vecB_len (v : List Nat) (h : v.length ≤ 64) (hlt : ∀ x ∈ v, x < 18446744073709551616) : (vecB v).length ≤ 700 := by
  have htl := vtrim_len v
  have h1 := flat_ten (vtrim v) fun x hx => hlt x (List.mem_of_mem_take hx)
  have h2 := layN_ten (n := (vtrim v).length) (by omega)
  simp only [vecB, List.length_append]
  omega
set_option maxHeartbeats 1600000 in
set_option maxRecDepth 100000 in
theorem vlay_any {R : Ending → World → Prop} {W w : World} {g : Hl} {H : List HP} {a : Option Addr} {n c k : Nat} {v : List Nat} {u : Value} {xs : List Value} (hs : Sat W w g (own 5 1 u k xs :: H)) (hp : Pr 1 g (.slice a n c) n (us v)) (hv : v.length = n) (hn : n ≤ 64) (hlt : ∀ x ∈ v, x < 18446744073709551616) (hk : k ≤ 100000000)
    (hR : ∀ a' c' w' g', Hl.le g g' → Sat W w' g' (own 5 1 (.slice a' (k + (vecB v).length) c') (k + (vecB v).length) (xs ++ bs (vecB v)) :: H) → R (.returned (.slice a' (k + (vecB v).length) c')) w') :
    Calls Tryz.prog 125 #[.slice a n c, u] w R := by
  simp only [vecB] at hR
  have HR := Lib.hid hR
  clear hR
  obtain ⟨a1, c1, rfl, hkc, hcm, _⟩ := hs.ownLen
  refine C.calls (args := [.slice a n c, .slice a1 k c1]) Tryz.func125 rfl rfl rfl ?_
  refine go ?_
  refine E.callf Tryz.func60 rfl ?_
  refine vtrim_any hs hp hv (by omega) ?_
  intro a2 c2 w2 g2 hg2 hp2 hs
  have htl := vtrim_len v
  have htlt : ∀ x ∈ vtrim v, x < 18446744073709551616 := fun x hx => hlt x (List.mem_of_mem_take hx)
  generalize vtrim v = t at hp2 hs HR htl htlt
  have hl1 := layN_ten (n := t.length) (by omega)
  refine go ?_
  refine E.callf Tryz.func126 rfl ?_
  refine lay_any hs (by omega) (by omega) ?_
  intro a3 c3 w3 hs
  refine gob ?_
  refine C.cut (fun x : Option Addr × Nat => [(1, .slice x.1 (k + (layN t.length ++ t.flatMap layN).length) x.2)])
    (fun x w => Sat W w g2 (own 5 1 (.slice x.1 (k + (layN t.length ++ t.flatMap layN).length) x.2) (k + (layN t.length ++ t.flatMap layN).length) (xs ++ bs (layN t.length ++ t.flatMap layN)) :: H)) ?_ ?_
  · refine C.block ?_
    refine C.lp (fun x : Nat × Option Addr × Nat => [(1, .slice x.2.1 (k + (layN t.length ++ (t.take x.1).flatMap layN).length) x.2.2), (14, .slice a2 t.length c2), (15, .int .i64 t.length), (16, .int .i64 x.1)])
      (fun gk x w => gk = t.length - x.1 ∧ x.1 ≤ t.length ∧ Sat W w g2 (own 5 1 (.slice x.2.1 (k + (layN t.length ++ (t.take x.1).flatMap layN).length) x.2.2) (k + (layN t.length ++ (t.take x.1).flatMap layN).length) (xs ++ bs (layN t.length ++ (t.take x.1).flatMap layN)) :: H)) t.length (0, a3, c3) ⟨rfl, Nat.zero_le _, ?_⟩ ?_ (hw := ?_)
    · simpa using hs
    · clear hs
      rintro gk ⟨i, a4, c4⟩ w4 ⟨hgk, hi, hs⟩
      simp only at hgk hi hs ⊢
      have hft := flat_ten (t.take i) fun x hx => htlt x (List.mem_of_mem_take hx)
      have hBl : (layN t.length ++ (t.take i).flatMap layN).length ≤ 700 := by
        rw [List.length_append]
        rw [List.length_take] at hft
        omega
      have hsucc : ∀ h : i < t.length, layN t.length ++ (t.take (i + 1)).flatMap layN = (layN t.length ++ (t.take i).flatMap layN) ++ layN t[i] := fun h => by
        rw [List.take_succ_eq_append_getElem h, List.flatMap_append, List.append_assoc]
        simp
      generalize hB : layN t.length ++ (t.take i).flatMap layN = B at hs hBl hsucc ⊢
      replace hB := Lib.hid hB
      refine go ?_
      refine C.cond_dec (p := (i : Int) < t.length) rfl (fun h => ?_) (fun h => ?_)
      · have hil : i < t.length := by omega
        have hsucc := Lib.hid (hsucc hil)
        refine go ?_
        refine E.ix el_vec hs hp2 i (us_get hil) ?_
        intro b5 o5 hc5
        refine go ?_
        refine E.callf Tryz.func126 rfl ?_
        refine lay_any hs (htlt _ (List.getElem_mem hil)) (by omega) ?_
        intro a6 c6 w6 hs
        refine go ?_
        have e1 : k + (B ++ layN t[i]).length = k + B.length + (layN t[i]).length := by rw [List.length_append]; omega
        refine A.rd (t.length - (i + 1)) (i + 1, a6, c6) ⟨rfl, by omega, ?_⟩ (hw := ?_)
        · simp only [hsucc.out, e1, bs_append]
          rw [← List.append_assoc]
          exact hs
        · simp only [hsucc.out, e1]
          exact wk_
      · obtain rfl : i = t.length := by omega
        have hB := hB.out
        rw [List.take_length] at hB
        subst hB
        refine go ?_
        exact A.mt (a4, c4) hs
    · simp only [List.take_zero, List.flatMap_nil, List.append_nil]
      exact wk_
  clear hs
  rintro ⟨a7, c7⟩ w7 hs
  simp only at hs ⊢
  refine go ?_
  refine A.r1 ?_
  exact HR.out a7 c7 w7 g2 hg2 hs
end Go.Proofs.YtfhmamkafancbaaGreatDoor

/-
  Layer 2 (digits): the number ahead.
-/
namespace Go.Proofs.YtfhmamkafancbaaGreatDoor
open Go.RowKit
set_option linter.unusedVariables false
set_option linter.unusedSimpArgs false
def takeGo : Nat → Nat → List UInt8 → Nat × Nat × Int
  | _, _, [] => (0, 0, 5)
  | i, n, b :: r => if (i = 9 ∧ 1 < b.toNat) ∨ (0 < i ∧ b.toNat = 0) then (0, 0, 4) else
    if b.toNat < 128 then (n ||| ((b.toNat &&& 127) * 2 ^ (7 * i)), i + 1, 0) else takeGo (i + 1) (n ||| ((b.toNat &&& 127) * 2 ^ (7 * i))) r
theorem pr_drop {g : Hl} {b o n c : Nat} {xs : List Value} (h : Pr 1 g (.slice (some ⟨b, o, none⟩) n c) n xs) {k o' : Nat} (hk : k ≤ n) (ho : c = k ∨ o' = o + k) : Pr 1 g (.slice (some ⟨b, o', none⟩) (n - k) (c - k)) (n - k) (xs.drop k) := by
  obtain ⟨h1, a, c', e, hn, hc, _, h⟩ := h
  simp only [Value.slice.injEq] at e
  obtain ⟨rfl, _, rfl⟩ := e
  refine ⟨by simp [h1], _, c - k, rfl, by omega, by omega, fun e => by simp at e, ?_⟩
  rcases h with rfl | ⟨b', o1, cur, e, fz, ea, hg, ht⟩
  · exact .inl (by omega)
  · by_cases h0 : n - k = 0
    · exact .inl h0
    · have : o' = o + k := by omega
      subst this
      simp only [Option.some.injEq, Addr.mk.injEq] at ea
      obtain ⟨rfl, rfl, _⟩ := ea
      refine .inr ⟨b, o + k, cur, e, fz, rfl, hg, ?_⟩
      rw [← ht, List.drop_take, List.drop_drop]
      simp
theorem pr_take {g : Hl} {a : Option Addr} {n c : Nat} {xs : List Value} (h : Pr 1 g (.slice a n c) n xs) {k : Nat} (hk : k ≤ n) : Pr 1 g (.slice a k c) k (xs.take k) := by
  obtain ⟨h1, a', c', e, hn, hc, ha, h⟩ := h
  simp only [Value.slice.injEq] at e
  obtain ⟨rfl, _, rfl⟩ := e
  refine ⟨by simp [h1]; omega, _, c, rfl, by omega, hc, fun e => ⟨by have := (ha e).1; omega, (ha e).2⟩, ?_⟩
  rcases h with rfl | ⟨b', o1, cur, e, fz, ea, hg, ht⟩
  · exact .inl (by omega)
  · refine .inr ⟨b', o1, cur, e, fz, ea, hg, ?_⟩
    rw [← ht, List.take_take]
    congr 1
    omega
theorem pr_addr {g : Hl} {a : Option Addr} {n c : Nat} {xs : List Value} (h : Pr 1 g (.slice a n c) n xs) (hn : 0 < n) : ∃ b o, a = some ⟨b, o, none⟩ := by
  obtain ⟨_, a', c', e, _, _, _, h0 | ⟨b, o, cur, t, fz, e2, _, _⟩⟩ := h
  · omega
  · simp only [Value.slice.injEq] at e
    exact ⟨b, o, e.1.trans e2⟩
set_option maxHeartbeats 1600000 in
set_option maxRecDepth 100000 in
theorem take_any {R : Ending → World → Prop} {W w : World} {g : Hl} {H : List HP} {a : Option Addr} {n c : Nat} {l : List UInt8} (hs : Sat W w g H) (hp : Pr 1 g (.slice a n c) n (bs l)) (hl : l.length = n)
    (hOK : ∀ v k b' o' c' w', takeGo 0 0 l = (v, k, 0) → 0 < k → k ≤ n → v < 18446744073709551616 → Sat W w' g H → Pr 1 g (.slice (some ⟨b', o', none⟩) (n - k) c') (n - k) (bs (l.drop k)) → R (.returned (.tuple #[.int .u64 v, .slice (some ⟨b', o', none⟩) (n - k) c', .int .i64 0])) w')
    (hErr : ∀ e w', takeGo 0 0 l = (0, 0, e) → (e = 4 ∨ e = 5) → Sat W w' g H → R (.returned (.tuple #[.int .u64 0, .slice a n c, .int .i64 e])) w') :
    Calls Tryz.prog 221 #[.slice a n c] w R := by
  have HOK := Lib.hid hOK
  have HErr := Lib.hid hErr
  clear hOK hErr
  obtain ⟨_, _, e, hnc, hcm⟩ := hp.len
  simp only [Value.slice.injEq] at e
  obtain ⟨rfl, -, rfl⟩ := e
  refine C.calls (args := [.slice a n c]) Tryz.func221 rfl rfl rfl ?_
  refine go ?_
  refine C.loop (fun x : Nat × Nat => [(0, .slice a n c), (5, .int .u64 x.2), (8, .slice a n c), (9, .int .i64 n), (10, .int .i64 x.1)]) (fun gk x w => Sat W w g H ∧ gk = n - x.1 ∧ x.1 ≤ n ∧ x.1 ≤ 9 ∧ x.2 < 18446744073709551616 ∧ takeGo x.1 x.2 (l.drop x.1) = takeGo 0 0 l) n (0, 0) wk_ ⟨hs, rfl, by omega, by simp only; omega, by simp only; omega, rfl⟩ ?_
  clear hs
  rintro gk ⟨i, s⟩ w1 ⟨hs, rfl, hi, hi9, hs1, ht⟩
  simp only at hi hi9 hs1 ht ⊢
  refine go ?_
  refine C.cond_dec (p := (i : Int) < n) rfl (fun hlt => ?_) (fun hlt => ?_)
  rotate_left
  · refine go ?_
    have e : l.drop i = [] := List.drop_eq_nil_of_le (by omega)
    rw [e] at ht
    refine A.r3 ?_
    exact HErr.out 5 _ ht.symm (.inr rfl) hs
  · have hin : i < l.length := by omega
    obtain ⟨b, o, rfl⟩ := pr_addr hp (by omega)
    have hc := ((hp.row hs).cellAt rfl (bs_get hin)).2
    have hb := l[i].toNat_lt
    rw [List.drop_eq_getElem_cons hin, takeGo] at ht
    refine gob ?_
    refine C.block ?_
    refine gob ?_
    refine C.cutQ (fun _ : Unit => [(0, .slice (some ⟨b, o, none⟩) n c), (5, .int .u64 s), (6, .int .i64 i), (7, .int .u8 l[i].toNat), (8, .slice (some ⟨b, o, none⟩) n c), (9, .int .i64 n), (10, .int .i64 i)]) (fun _ w => w = w1 ∧ ¬ ((i = 9 ∧ 1 < l[i].toNat) ∨ (0 < i ∧ l[i].toNat = 0))) ?_ ?_
    · refine C.block ?_
      refine C.seq ?_
      refine C.cutQ (fun bad : Bool => [(0, .slice (some ⟨b, o, none⟩) n c), (5, .int .u64 s), (6, .int .i64 i), (7, .int .u8 l[i].toNat), (8, .slice (some ⟨b, o, none⟩) n c), (9, .int .i64 n), (10, .int .i64 i), (15, .bool bad)]) (fun bad w => w = w1 ∧ (bad = true ↔ ((i = 9 ∧ 1 < l[i].toNat) ∨ (0 < i ∧ l[i].toNat = 0)))) ?_ ?_
      · by_cases h9 : i = 9
        · subst h9
          refine go ?_
          refine C.cond_dec (p := (1 : Int) < l[9].toNat) rfl (fun h1 => ?_) (fun h1 => ?_)
          · refine go ?_
            exact A.meet _ wk_ ⟨rfl, by simp; omega⟩
          · refine go ?_
            exact A.meet _ wk_ ⟨rfl, by simp; omega⟩
        · have e9 : decide ((i : Int) = 9) = false := by simp; omega
          refine go ?_
          rw [e9]
          refine go ?_
          by_cases h0 : i = 0
          · subst h0
            refine go ?_
            exact A.meet _ wk_ ⟨rfl, by simp⟩
          · have e0 : decide ((0 : Int) < (i : Int)) = true := by simp; omega
            rw [e0]
            refine go ?_
            exact A.meet _ wk_ ⟨rfl, by simp; omega⟩
      · rintro bad w1 ⟨rfl, hiff⟩
        refine go ?_
        refine C.cond (b := bad) rfl (fun hbad => ?_) (fun hbad => ?_)
        · refine go ?_
          rw [if_pos (hiff.1 hbad)] at ht
          refine A.r3 ?_
          exact HErr.out 4 _ ht.symm (.inl rfl) hs
        · refine go ?_
          exact A.meet () wk_ ⟨rfl, fun h => by rw [hiff.2 h] at hbad; cases hbad⟩
    rintro _ w1 ⟨rfl, hbad⟩
    rw [if_neg hbad] at ht
    have h127 : l[i].toNat &&& 127 ≤ 127 := Nat.and_le_right
    have hab : (l[i].toNat &&& 127) * 2 ^ (7 * i) < 18446744073709551616 := by
      by_cases h9 : i = 9
      · have h1 : l[i].toNat ≤ 1 := by omega
        have h2 : l[i].toNat &&& 127 ≤ 1 := Nat.le_trans Nat.and_le_left h1
        have hp2 : 2 ^ (7 * i) = 9223372036854775808 := by rw [h9]
        rw [hp2]
        omega
      · have : 2 ^ (7 * i) ≤ 2 ^ 56 := Nat.pow_le_pow_right (by decide) (by omega)
        have := Nat.mul_le_mul h127 this
        omega
    refine go ?_
    have hs2 : s ||| (l[i].toNat &&& 127) * 2 ^ (7 * i) < 18446744073709551616 := Nat.or_lt_two_pow (n := 64) hs1 hab
    refine C.cond_dec (p := (l[i].toNat : Int) < 128) rfl (fun h8 => ?_) (fun h8 => ?_)
    · rw [if_pos (by omega)] at ht
      obtain ⟨o2, ho, ho2⟩ := run_slice_l_at (o0 := o) (b := b) (c := c) el_u8 (show i + 1 ≤ n by omega)
      refine go ?_
      apply C.any hs
      · kernel_rfl
      intro w2 hs
      repeat (first
        | (apply EA.take 0; decide +kernel; exact rfl; kernel_rfl; decide +kernel; exact fun _ _ _ _ h => h; (first | (apply Pg.off; exact rfl) | (apply Pg.any; exact rfl; (first | (apply Pv.auto; exact rfl) | ((first | apply Pv.add | apply Pv.sub | apply Pv.mul64 | apply Pv.rem | apply Pv.quo) <;> first | exact rfl | omega) | (apply Pv.conv; exact rfl; (intro w; go_simp <;> first | exact rfl | exact ⟨rfl, rfl⟩); (first | exact wrapu64_id (by omega) (by omega) | exact wrap64_id (by omega) (by omega) | exact wrapu8_id (by omega) (by omega) | exact wrapu32_id (by omega) (by omega) | exact wrapu16_id (by omega) (by omega) | exact u8_mod _ | exact u32_mod _ | exact u64_mod _ | exact rfl)) | ((first | apply Pv.beq | apply Pv.bne); exact rfl; exact rfl; kernel_rfl) | ((first | apply Pv.xor | apply Pv.and | apply Pv.or | apply Pv.shr | apply Pv.shl) <;> first | exact rfl | (simp only [IntKind.bits, Nat.and_one_is_mod]; omega)) | ((first | apply Pv.muln | apply Pv.notn) <;> first | exact rfl | (simp only [IntKind.bits, Nat.and_one_is_mod]; omega)) | ((first | apply Pv.fieldAddr | apply Pv.len | apply Pv.indexAddr | apply Pv.build | apply Pv.field | apply Pv.convert | apply Pv.addw | apply Pv.subw | apply Pv.mulw | apply Pv.binOp) <;> first | exact rfl | (intro w; go_simp <;> first | exact rfl | exact ⟨rfl, rfl⟩))))))
        | (apply EA.take 1; decide +kernel; exact rfl; kernel_rfl; decide +kernel; exact fun _ _ _ _ h => h; (first | (apply Pg.off; exact rfl) | (apply Pg.any; exact rfl; (first | (apply Pv.auto; exact rfl) | ((first | apply Pv.add | apply Pv.sub | apply Pv.mul64 | apply Pv.rem | apply Pv.quo) <;> first | exact rfl | omega) | (apply Pv.conv; exact rfl; (intro w; go_simp <;> first | exact rfl | exact ⟨rfl, rfl⟩); (first | exact wrapu64_id (by omega) (by omega) | exact wrap64_id (by omega) (by omega) | exact wrapu8_id (by omega) (by omega) | exact wrapu32_id (by omega) (by omega) | exact wrapu16_id (by omega) (by omega) | exact u8_mod _ | exact u32_mod _ | exact u64_mod _ | exact rfl)) | ((first | apply Pv.beq | apply Pv.bne); exact rfl; exact rfl; kernel_rfl) | ((first | apply Pv.xor | apply Pv.and | apply Pv.or | apply Pv.shr | apply Pv.shl) <;> first | exact rfl | (simp only [IntKind.bits, Nat.and_one_is_mod]; omega)) | ((first | apply Pv.muln | apply Pv.notn) <;> first | exact rfl | (simp only [IntKind.bits, Nat.and_one_is_mod]; omega)) | ((first | apply Pv.fieldAddr | apply Pv.len | apply Pv.indexAddr | apply Pv.build | apply Pv.field | apply Pv.convert | apply Pv.addw | apply Pv.subw | apply Pv.mulw | apply Pv.binOp) <;> first | exact rfl | (intro w; go_simp <;> first | exact rfl | exact ⟨rfl, rfl⟩))))))
        | (apply EA.take 2; decide +kernel; exact rfl; kernel_rfl; decide +kernel; exact fun _ _ _ _ h => h; (first | (apply Pg.off; exact rfl) | (apply Pg.any; exact rfl; (first | (apply Pv.auto; exact rfl) | ((first | apply Pv.add | apply Pv.sub | apply Pv.mul64 | apply Pv.rem | apply Pv.quo) <;> first | exact rfl | omega) | (apply Pv.conv; exact rfl; (intro w; go_simp <;> first | exact rfl | exact ⟨rfl, rfl⟩); (first | exact wrapu64_id (by omega) (by omega) | exact wrap64_id (by omega) (by omega) | exact wrapu8_id (by omega) (by omega) | exact wrapu32_id (by omega) (by omega) | exact wrapu16_id (by omega) (by omega) | exact u8_mod _ | exact u32_mod _ | exact u64_mod _ | exact rfl)) | ((first | apply Pv.beq | apply Pv.bne); exact rfl; exact rfl; kernel_rfl) | ((first | apply Pv.xor | apply Pv.and | apply Pv.or | apply Pv.shr | apply Pv.shl) <;> first | exact rfl | (simp only [IntKind.bits, Nat.and_one_is_mod]; omega)) | ((first | apply Pv.muln | apply Pv.notn) <;> first | exact rfl | (simp only [IntKind.bits, Nat.and_one_is_mod]; omega)) | ((first | apply Pv.fieldAddr | apply Pv.len | apply Pv.indexAddr | apply Pv.build | apply Pv.field | apply Pv.convert | apply Pv.addw | apply Pv.subw | apply Pv.mulw | apply Pv.binOp) <;> first | exact rfl | (intro w; go_simp <;> first | exact rfl | exact ⟨rfl, rfl⟩))))))
        | (apply EA.take 3; decide +kernel; exact rfl; kernel_rfl; decide +kernel; exact fun _ _ _ _ h => h; (first | (apply Pg.off; exact rfl) | (apply Pg.any; exact rfl; (first | (apply Pv.auto; exact rfl) | ((first | apply Pv.add | apply Pv.sub | apply Pv.mul64 | apply Pv.rem | apply Pv.quo) <;> first | exact rfl | omega) | (apply Pv.conv; exact rfl; (intro w; go_simp <;> first | exact rfl | exact ⟨rfl, rfl⟩); (first | exact wrapu64_id (by omega) (by omega) | exact wrap64_id (by omega) (by omega) | exact wrapu8_id (by omega) (by omega) | exact wrapu32_id (by omega) (by omega) | exact wrapu16_id (by omega) (by omega) | exact u8_mod _ | exact u32_mod _ | exact u64_mod _ | exact rfl)) | ((first | apply Pv.beq | apply Pv.bne); exact rfl; exact rfl; kernel_rfl) | ((first | apply Pv.xor | apply Pv.and | apply Pv.or | apply Pv.shr | apply Pv.shl) <;> first | exact rfl | (simp only [IntKind.bits, Nat.and_one_is_mod]; omega)) | ((first | apply Pv.muln | apply Pv.notn) <;> first | exact rfl | (simp only [IntKind.bits, Nat.and_one_is_mod]; omega)) | ((first | apply Pv.fieldAddr | apply Pv.len | apply Pv.indexAddr | apply Pv.build | apply Pv.field | apply Pv.convert | apply Pv.addw | apply Pv.subw | apply Pv.mulw | apply Pv.binOp) <;> first | exact rfl | (intro w; go_simp <;> first | exact rfl | exact ⟨rfl, rfl⟩))))))
        | (apply EA.take 4; decide +kernel; exact rfl; kernel_rfl; decide +kernel; exact fun _ _ _ _ h => h; (first | (apply Pg.off; exact rfl) | (apply Pg.any; exact rfl; (first | (apply Pv.auto; exact rfl) | ((first | apply Pv.add | apply Pv.sub | apply Pv.mul64 | apply Pv.rem | apply Pv.quo) <;> first | exact rfl | omega) | (apply Pv.conv; exact rfl; (intro w; go_simp <;> first | exact rfl | exact ⟨rfl, rfl⟩); (first | exact wrapu64_id (by omega) (by omega) | exact wrap64_id (by omega) (by omega) | exact wrapu8_id (by omega) (by omega) | exact wrapu32_id (by omega) (by omega) | exact wrapu16_id (by omega) (by omega) | exact u8_mod _ | exact u32_mod _ | exact u64_mod _ | exact rfl)) | ((first | apply Pv.beq | apply Pv.bne); exact rfl; exact rfl; kernel_rfl) | ((first | apply Pv.xor | apply Pv.and | apply Pv.or | apply Pv.shr | apply Pv.shl) <;> first | exact rfl | (simp only [IntKind.bits, Nat.and_one_is_mod]; omega)) | ((first | apply Pv.muln | apply Pv.notn) <;> first | exact rfl | (simp only [IntKind.bits, Nat.and_one_is_mod]; omega)) | ((first | apply Pv.fieldAddr | apply Pv.len | apply Pv.indexAddr | apply Pv.build | apply Pv.field | apply Pv.convert | apply Pv.addw | apply Pv.subw | apply Pv.mulw | apply Pv.binOp) <;> first | exact rfl | (intro w; go_simp <;> first | exact rfl | exact ⟨rfl, rfl⟩))))))
        | (apply EA.take 5; decide +kernel; exact rfl; kernel_rfl; decide +kernel; exact fun _ _ _ _ h => h; (first | (apply Pg.off; exact rfl) | (apply Pg.any; exact rfl; (first | (apply Pv.auto; exact rfl) | ((first | apply Pv.add | apply Pv.sub | apply Pv.mul64 | apply Pv.rem | apply Pv.quo) <;> first | exact rfl | omega) | (apply Pv.conv; exact rfl; (intro w; go_simp <;> first | exact rfl | exact ⟨rfl, rfl⟩); (first | exact wrapu64_id (by omega) (by omega) | exact wrap64_id (by omega) (by omega) | exact wrapu8_id (by omega) (by omega) | exact wrapu32_id (by omega) (by omega) | exact wrapu16_id (by omega) (by omega) | exact u8_mod _ | exact u32_mod _ | exact u64_mod _ | exact rfl)) | ((first | apply Pv.beq | apply Pv.bne); exact rfl; exact rfl; kernel_rfl) | ((first | apply Pv.xor | apply Pv.and | apply Pv.or | apply Pv.shr | apply Pv.shl) <;> first | exact rfl | (simp only [IntKind.bits, Nat.and_one_is_mod]; omega)) | ((first | apply Pv.muln | apply Pv.notn) <;> first | exact rfl | (simp only [IntKind.bits, Nat.and_one_is_mod]; omega)) | ((first | apply Pv.fieldAddr | apply Pv.len | apply Pv.indexAddr | apply Pv.build | apply Pv.field | apply Pv.convert | apply Pv.addw | apply Pv.subw | apply Pv.mulw | apply Pv.binOp) <;> first | exact rfl | (intro w; go_simp <;> first | exact rfl | exact ⟨rfl, rfl⟩))))))
        | (apply EA.take 6; decide +kernel; exact rfl; kernel_rfl; decide +kernel; exact fun _ _ _ _ h => h; (first | (apply Pg.off; exact rfl) | (apply Pg.any; exact rfl; (first | (apply Pv.auto; exact rfl) | ((first | apply Pv.add | apply Pv.sub | apply Pv.mul64 | apply Pv.rem | apply Pv.quo) <;> first | exact rfl | omega) | (apply Pv.conv; exact rfl; (intro w; go_simp <;> first | exact rfl | exact ⟨rfl, rfl⟩); (first | exact wrapu64_id (by omega) (by omega) | exact wrap64_id (by omega) (by omega) | exact wrapu8_id (by omega) (by omega) | exact wrapu32_id (by omega) (by omega) | exact wrapu16_id (by omega) (by omega) | exact u8_mod _ | exact u32_mod _ | exact u64_mod _ | exact rfl)) | ((first | apply Pv.beq | apply Pv.bne); exact rfl; exact rfl; kernel_rfl) | ((first | apply Pv.xor | apply Pv.and | apply Pv.or | apply Pv.shr | apply Pv.shl) <;> first | exact rfl | (simp only [IntKind.bits, Nat.and_one_is_mod]; omega)) | ((first | apply Pv.muln | apply Pv.notn) <;> first | exact rfl | (simp only [IntKind.bits, Nat.and_one_is_mod]; omega)) | ((first | apply Pv.fieldAddr | apply Pv.len | apply Pv.indexAddr | apply Pv.build | apply Pv.field | apply Pv.convert | apply Pv.addw | apply Pv.subw | apply Pv.mulw | apply Pv.binOp) <;> first | exact rfl | (intro w; go_simp <;> first | exact rfl | exact ⟨rfl, rfl⟩))))))
        | (apply EA.take 7; decide +kernel; exact rfl; kernel_rfl; decide +kernel; exact fun _ _ _ _ h => h; (first | (apply Pg.off; exact rfl) | (apply Pg.any; exact rfl; (first | (apply Pv.auto; exact rfl) | ((first | apply Pv.add | apply Pv.sub | apply Pv.mul64 | apply Pv.rem | apply Pv.quo) <;> first | exact rfl | omega) | (apply Pv.conv; exact rfl; (intro w; go_simp <;> first | exact rfl | exact ⟨rfl, rfl⟩); (first | exact wrapu64_id (by omega) (by omega) | exact wrap64_id (by omega) (by omega) | exact wrapu8_id (by omega) (by omega) | exact wrapu32_id (by omega) (by omega) | exact wrapu16_id (by omega) (by omega) | exact u8_mod _ | exact u32_mod _ | exact u64_mod _ | exact rfl)) | ((first | apply Pv.beq | apply Pv.bne); exact rfl; exact rfl; kernel_rfl) | ((first | apply Pv.xor | apply Pv.and | apply Pv.or | apply Pv.shr | apply Pv.shl) <;> first | exact rfl | (simp only [IntKind.bits, Nat.and_one_is_mod]; omega)) | ((first | apply Pv.muln | apply Pv.notn) <;> first | exact rfl | (simp only [IntKind.bits, Nat.and_one_is_mod]; omega)) | ((first | apply Pv.fieldAddr | apply Pv.len | apply Pv.indexAddr | apply Pv.build | apply Pv.field | apply Pv.convert | apply Pv.addw | apply Pv.subw | apply Pv.mulw | apply Pv.binOp) <;> first | exact rfl | (intro w; go_simp <;> first | exact rfl | exact ⟨rfl, rfl⟩))))))
        | (apply EA.take 8; decide +kernel; exact rfl; kernel_rfl; decide +kernel; exact fun _ _ _ _ h => h; (first | (apply Pg.off; exact rfl) | (apply Pg.any; exact rfl; (first | (apply Pv.auto; exact rfl) | ((first | apply Pv.add | apply Pv.sub | apply Pv.mul64 | apply Pv.rem | apply Pv.quo) <;> first | exact rfl | omega) | (apply Pv.conv; exact rfl; (intro w; go_simp <;> first | exact rfl | exact ⟨rfl, rfl⟩); (first | exact wrapu64_id (by omega) (by omega) | exact wrap64_id (by omega) (by omega) | exact wrapu8_id (by omega) (by omega) | exact wrapu32_id (by omega) (by omega) | exact wrapu16_id (by omega) (by omega) | exact u8_mod _ | exact u32_mod _ | exact u64_mod _ | exact rfl)) | ((first | apply Pv.beq | apply Pv.bne); exact rfl; exact rfl; kernel_rfl) | ((first | apply Pv.xor | apply Pv.and | apply Pv.or | apply Pv.shr | apply Pv.shl) <;> first | exact rfl | (simp only [IntKind.bits, Nat.and_one_is_mod]; omega)) | ((first | apply Pv.muln | apply Pv.notn) <;> first | exact rfl | (simp only [IntKind.bits, Nat.and_one_is_mod]; omega)) | ((first | apply Pv.fieldAddr | apply Pv.len | apply Pv.indexAddr | apply Pv.build | apply Pv.field | apply Pv.convert | apply Pv.addw | apply Pv.subw | apply Pv.mulw | apply Pv.binOp) <;> first | exact rfl | (intro w; go_simp <;> first | exact rfl | exact ⟨rfl, rfl⟩))))))
        | (apply EA.take 9; decide +kernel; exact rfl; kernel_rfl; decide +kernel; exact fun _ _ _ _ h => h; (first | (apply Pg.off; exact rfl) | (apply Pg.any; exact rfl; (first | (apply Pv.auto; exact rfl) | ((first | apply Pv.add | apply Pv.sub | apply Pv.mul64 | apply Pv.rem | apply Pv.quo) <;> first | exact rfl | omega) | (apply Pv.conv; exact rfl; (intro w; go_simp <;> first | exact rfl | exact ⟨rfl, rfl⟩); (first | exact wrapu64_id (by omega) (by omega) | exact wrap64_id (by omega) (by omega) | exact wrapu8_id (by omega) (by omega) | exact wrapu32_id (by omega) (by omega) | exact wrapu16_id (by omega) (by omega) | exact u8_mod _ | exact u32_mod _ | exact u64_mod _ | exact rfl)) | ((first | apply Pv.beq | apply Pv.bne); exact rfl; exact rfl; kernel_rfl) | ((first | apply Pv.xor | apply Pv.and | apply Pv.or | apply Pv.shr | apply Pv.shl) <;> first | exact rfl | (simp only [IntKind.bits, Nat.and_one_is_mod]; omega)) | ((first | apply Pv.muln | apply Pv.notn) <;> first | exact rfl | (simp only [IntKind.bits, Nat.and_one_is_mod]; omega)) | ((first | apply Pv.fieldAddr | apply Pv.len | apply Pv.indexAddr | apply Pv.build | apply Pv.field | apply Pv.convert | apply Pv.addw | apply Pv.subw | apply Pv.mulw | apply Pv.binOp) <;> first | exact rfl | (intro w; go_simp <;> first | exact rfl | exact ⟨rfl, rfl⟩))))))
        | (apply EA.take 10; decide +kernel; exact rfl; kernel_rfl; decide +kernel; exact fun _ _ _ _ h => h; (first | (apply Pg.off; exact rfl) | (apply Pg.any; exact rfl; (first | (apply Pv.auto; exact rfl) | ((first | apply Pv.add | apply Pv.sub | apply Pv.mul64 | apply Pv.rem | apply Pv.quo) <;> first | exact rfl | omega) | (apply Pv.conv; exact rfl; (intro w; go_simp <;> first | exact rfl | exact ⟨rfl, rfl⟩); (first | exact wrapu64_id (by omega) (by omega) | exact wrap64_id (by omega) (by omega) | exact wrapu8_id (by omega) (by omega) | exact wrapu32_id (by omega) (by omega) | exact wrapu16_id (by omega) (by omega) | exact u8_mod _ | exact u32_mod _ | exact u64_mod _ | exact rfl)) | ((first | apply Pv.beq | apply Pv.bne); exact rfl; exact rfl; kernel_rfl) | ((first | apply Pv.xor | apply Pv.and | apply Pv.or | apply Pv.shr | apply Pv.shl) <;> first | exact rfl | (simp only [IntKind.bits, Nat.and_one_is_mod]; omega)) | ((first | apply Pv.muln | apply Pv.notn) <;> first | exact rfl | (simp only [IntKind.bits, Nat.and_one_is_mod]; omega)) | ((first | apply Pv.fieldAddr | apply Pv.len | apply Pv.indexAddr | apply Pv.build | apply Pv.field | apply Pv.convert | apply Pv.addw | apply Pv.subw | apply Pv.mulw | apply Pv.binOp) <;> first | exact rfl | (intro w; go_simp <;> first | exact rfl | exact ⟨rfl, rfl⟩))))))
        | (apply EA.take 11; decide +kernel; exact rfl; kernel_rfl; decide +kernel; exact fun _ _ _ _ h => h; (first | (apply Pg.off; exact rfl) | (apply Pg.any; exact rfl; (first | (apply Pv.auto; exact rfl) | ((first | apply Pv.add | apply Pv.sub | apply Pv.mul64 | apply Pv.rem | apply Pv.quo) <;> first | exact rfl | omega) | (apply Pv.conv; exact rfl; (intro w; go_simp <;> first | exact rfl | exact ⟨rfl, rfl⟩); (first | exact wrapu64_id (by omega) (by omega) | exact wrap64_id (by omega) (by omega) | exact wrapu8_id (by omega) (by omega) | exact wrapu32_id (by omega) (by omega) | exact wrapu16_id (by omega) (by omega) | exact u8_mod _ | exact u32_mod _ | exact u64_mod _ | exact rfl)) | ((first | apply Pv.beq | apply Pv.bne); exact rfl; exact rfl; kernel_rfl) | ((first | apply Pv.xor | apply Pv.and | apply Pv.or | apply Pv.shr | apply Pv.shl) <;> first | exact rfl | (simp only [IntKind.bits, Nat.and_one_is_mod]; omega)) | ((first | apply Pv.muln | apply Pv.notn) <;> first | exact rfl | (simp only [IntKind.bits, Nat.and_one_is_mod]; omega)) | ((first | apply Pv.fieldAddr | apply Pv.len | apply Pv.indexAddr | apply Pv.build | apply Pv.field | apply Pv.convert | apply Pv.addw | apply Pv.subw | apply Pv.mulw | apply Pv.binOp) <;> first | exact rfl | (intro w; go_simp <;> first | exact rfl | exact ⟨rfl, rfl⟩)))))))
      apply EA.take 4
      · decide +kernel
      · exact rfl
      · kernel_rfl
      · decide +kernel
      · exact fun _ _ _ _ h => h
      · apply Pg.any
        · exact rfl
        apply Pv.slice
        · exact rfl
        · exact rfl
        · exact rfl
        · exact rfl
        · exact ho
      repeat (first
        | (apply EA.take 0; decide +kernel; exact rfl; kernel_rfl; decide +kernel; exact fun _ _ _ _ h => h; (first | (apply Pg.off; exact rfl) | (apply Pg.any; exact rfl; (first | (apply Pv.auto; exact rfl) | ((first | apply Pv.add | apply Pv.sub | apply Pv.mul64 | apply Pv.rem | apply Pv.quo) <;> first | exact rfl | omega) | (apply Pv.conv; exact rfl; (intro w; go_simp <;> first | exact rfl | exact ⟨rfl, rfl⟩); (first | exact wrapu64_id (by omega) (by omega) | exact wrap64_id (by omega) (by omega) | exact wrapu8_id (by omega) (by omega) | exact wrapu32_id (by omega) (by omega) | exact wrapu16_id (by omega) (by omega) | exact u8_mod _ | exact u32_mod _ | exact u64_mod _ | exact rfl)) | ((first | apply Pv.beq | apply Pv.bne); exact rfl; exact rfl; kernel_rfl) | ((first | apply Pv.xor | apply Pv.and | apply Pv.or | apply Pv.shr | apply Pv.shl) <;> first | exact rfl | (simp only [IntKind.bits, Nat.and_one_is_mod]; omega)) | ((first | apply Pv.muln | apply Pv.notn) <;> first | exact rfl | (simp only [IntKind.bits, Nat.and_one_is_mod]; omega)) | ((first | apply Pv.fieldAddr | apply Pv.len | apply Pv.indexAddr | apply Pv.build | apply Pv.field | apply Pv.convert | apply Pv.addw | apply Pv.subw | apply Pv.mulw | apply Pv.binOp) <;> first | exact rfl | (intro w; go_simp <;> first | exact rfl | exact ⟨rfl, rfl⟩))))))
        | (apply EA.take 1; decide +kernel; exact rfl; kernel_rfl; decide +kernel; exact fun _ _ _ _ h => h; (first | (apply Pg.off; exact rfl) | (apply Pg.any; exact rfl; (first | (apply Pv.auto; exact rfl) | ((first | apply Pv.add | apply Pv.sub | apply Pv.mul64 | apply Pv.rem | apply Pv.quo) <;> first | exact rfl | omega) | (apply Pv.conv; exact rfl; (intro w; go_simp <;> first | exact rfl | exact ⟨rfl, rfl⟩); (first | exact wrapu64_id (by omega) (by omega) | exact wrap64_id (by omega) (by omega) | exact wrapu8_id (by omega) (by omega) | exact wrapu32_id (by omega) (by omega) | exact wrapu16_id (by omega) (by omega) | exact u8_mod _ | exact u32_mod _ | exact u64_mod _ | exact rfl)) | ((first | apply Pv.beq | apply Pv.bne); exact rfl; exact rfl; kernel_rfl) | ((first | apply Pv.xor | apply Pv.and | apply Pv.or | apply Pv.shr | apply Pv.shl) <;> first | exact rfl | (simp only [IntKind.bits, Nat.and_one_is_mod]; omega)) | ((first | apply Pv.muln | apply Pv.notn) <;> first | exact rfl | (simp only [IntKind.bits, Nat.and_one_is_mod]; omega)) | ((first | apply Pv.fieldAddr | apply Pv.len | apply Pv.indexAddr | apply Pv.build | apply Pv.field | apply Pv.convert | apply Pv.addw | apply Pv.subw | apply Pv.mulw | apply Pv.binOp) <;> first | exact rfl | (intro w; go_simp <;> first | exact rfl | exact ⟨rfl, rfl⟩))))))
        | (apply EA.take 2; decide +kernel; exact rfl; kernel_rfl; decide +kernel; exact fun _ _ _ _ h => h; (first | (apply Pg.off; exact rfl) | (apply Pg.any; exact rfl; (first | (apply Pv.auto; exact rfl) | ((first | apply Pv.add | apply Pv.sub | apply Pv.mul64 | apply Pv.rem | apply Pv.quo) <;> first | exact rfl | omega) | (apply Pv.conv; exact rfl; (intro w; go_simp <;> first | exact rfl | exact ⟨rfl, rfl⟩); (first | exact wrapu64_id (by omega) (by omega) | exact wrap64_id (by omega) (by omega) | exact wrapu8_id (by omega) (by omega) | exact wrapu32_id (by omega) (by omega) | exact wrapu16_id (by omega) (by omega) | exact u8_mod _ | exact u32_mod _ | exact u64_mod _ | exact rfl)) | ((first | apply Pv.beq | apply Pv.bne); exact rfl; exact rfl; kernel_rfl) | ((first | apply Pv.xor | apply Pv.and | apply Pv.or | apply Pv.shr | apply Pv.shl) <;> first | exact rfl | (simp only [IntKind.bits, Nat.and_one_is_mod]; omega)) | ((first | apply Pv.muln | apply Pv.notn) <;> first | exact rfl | (simp only [IntKind.bits, Nat.and_one_is_mod]; omega)) | ((first | apply Pv.fieldAddr | apply Pv.len | apply Pv.indexAddr | apply Pv.build | apply Pv.field | apply Pv.convert | apply Pv.addw | apply Pv.subw | apply Pv.mulw | apply Pv.binOp) <;> first | exact rfl | (intro w; go_simp <;> first | exact rfl | exact ⟨rfl, rfl⟩))))))
        | (apply EA.take 3; decide +kernel; exact rfl; kernel_rfl; decide +kernel; exact fun _ _ _ _ h => h; (first | (apply Pg.off; exact rfl) | (apply Pg.any; exact rfl; (first | (apply Pv.auto; exact rfl) | ((first | apply Pv.add | apply Pv.sub | apply Pv.mul64 | apply Pv.rem | apply Pv.quo) <;> first | exact rfl | omega) | (apply Pv.conv; exact rfl; (intro w; go_simp <;> first | exact rfl | exact ⟨rfl, rfl⟩); (first | exact wrapu64_id (by omega) (by omega) | exact wrap64_id (by omega) (by omega) | exact wrapu8_id (by omega) (by omega) | exact wrapu32_id (by omega) (by omega) | exact wrapu16_id (by omega) (by omega) | exact u8_mod _ | exact u32_mod _ | exact u64_mod _ | exact rfl)) | ((first | apply Pv.beq | apply Pv.bne); exact rfl; exact rfl; kernel_rfl) | ((first | apply Pv.xor | apply Pv.and | apply Pv.or | apply Pv.shr | apply Pv.shl) <;> first | exact rfl | (simp only [IntKind.bits, Nat.and_one_is_mod]; omega)) | ((first | apply Pv.muln | apply Pv.notn) <;> first | exact rfl | (simp only [IntKind.bits, Nat.and_one_is_mod]; omega)) | ((first | apply Pv.fieldAddr | apply Pv.len | apply Pv.indexAddr | apply Pv.build | apply Pv.field | apply Pv.convert | apply Pv.addw | apply Pv.subw | apply Pv.mulw | apply Pv.binOp) <;> first | exact rfl | (intro w; go_simp <;> first | exact rfl | exact ⟨rfl, rfl⟩))))))
        | (apply EA.take 4; decide +kernel; exact rfl; kernel_rfl; decide +kernel; exact fun _ _ _ _ h => h; (first | (apply Pg.off; exact rfl) | (apply Pg.any; exact rfl; (first | (apply Pv.auto; exact rfl) | ((first | apply Pv.add | apply Pv.sub | apply Pv.mul64 | apply Pv.rem | apply Pv.quo) <;> first | exact rfl | omega) | (apply Pv.conv; exact rfl; (intro w; go_simp <;> first | exact rfl | exact ⟨rfl, rfl⟩); (first | exact wrapu64_id (by omega) (by omega) | exact wrap64_id (by omega) (by omega) | exact wrapu8_id (by omega) (by omega) | exact wrapu32_id (by omega) (by omega) | exact wrapu16_id (by omega) (by omega) | exact u8_mod _ | exact u32_mod _ | exact u64_mod _ | exact rfl)) | ((first | apply Pv.beq | apply Pv.bne); exact rfl; exact rfl; kernel_rfl) | ((first | apply Pv.xor | apply Pv.and | apply Pv.or | apply Pv.shr | apply Pv.shl) <;> first | exact rfl | (simp only [IntKind.bits, Nat.and_one_is_mod]; omega)) | ((first | apply Pv.muln | apply Pv.notn) <;> first | exact rfl | (simp only [IntKind.bits, Nat.and_one_is_mod]; omega)) | ((first | apply Pv.fieldAddr | apply Pv.len | apply Pv.indexAddr | apply Pv.build | apply Pv.field | apply Pv.convert | apply Pv.addw | apply Pv.subw | apply Pv.mulw | apply Pv.binOp) <;> first | exact rfl | (intro w; go_simp <;> first | exact rfl | exact ⟨rfl, rfl⟩))))))
        | (apply EA.take 5; decide +kernel; exact rfl; kernel_rfl; decide +kernel; exact fun _ _ _ _ h => h; (first | (apply Pg.off; exact rfl) | (apply Pg.any; exact rfl; (first | (apply Pv.auto; exact rfl) | ((first | apply Pv.add | apply Pv.sub | apply Pv.mul64 | apply Pv.rem | apply Pv.quo) <;> first | exact rfl | omega) | (apply Pv.conv; exact rfl; (intro w; go_simp <;> first | exact rfl | exact ⟨rfl, rfl⟩); (first | exact wrapu64_id (by omega) (by omega) | exact wrap64_id (by omega) (by omega) | exact wrapu8_id (by omega) (by omega) | exact wrapu32_id (by omega) (by omega) | exact wrapu16_id (by omega) (by omega) | exact u8_mod _ | exact u32_mod _ | exact u64_mod _ | exact rfl)) | ((first | apply Pv.beq | apply Pv.bne); exact rfl; exact rfl; kernel_rfl) | ((first | apply Pv.xor | apply Pv.and | apply Pv.or | apply Pv.shr | apply Pv.shl) <;> first | exact rfl | (simp only [IntKind.bits, Nat.and_one_is_mod]; omega)) | ((first | apply Pv.muln | apply Pv.notn) <;> first | exact rfl | (simp only [IntKind.bits, Nat.and_one_is_mod]; omega)) | ((first | apply Pv.fieldAddr | apply Pv.len | apply Pv.indexAddr | apply Pv.build | apply Pv.field | apply Pv.convert | apply Pv.addw | apply Pv.subw | apply Pv.mulw | apply Pv.binOp) <;> first | exact rfl | (intro w; go_simp <;> first | exact rfl | exact ⟨rfl, rfl⟩))))))
        | (apply EA.take 6; decide +kernel; exact rfl; kernel_rfl; decide +kernel; exact fun _ _ _ _ h => h; (first | (apply Pg.off; exact rfl) | (apply Pg.any; exact rfl; (first | (apply Pv.auto; exact rfl) | ((first | apply Pv.add | apply Pv.sub | apply Pv.mul64 | apply Pv.rem | apply Pv.quo) <;> first | exact rfl | omega) | (apply Pv.conv; exact rfl; (intro w; go_simp <;> first | exact rfl | exact ⟨rfl, rfl⟩); (first | exact wrapu64_id (by omega) (by omega) | exact wrap64_id (by omega) (by omega) | exact wrapu8_id (by omega) (by omega) | exact wrapu32_id (by omega) (by omega) | exact wrapu16_id (by omega) (by omega) | exact u8_mod _ | exact u32_mod _ | exact u64_mod _ | exact rfl)) | ((first | apply Pv.beq | apply Pv.bne); exact rfl; exact rfl; kernel_rfl) | ((first | apply Pv.xor | apply Pv.and | apply Pv.or | apply Pv.shr | apply Pv.shl) <;> first | exact rfl | (simp only [IntKind.bits, Nat.and_one_is_mod]; omega)) | ((first | apply Pv.muln | apply Pv.notn) <;> first | exact rfl | (simp only [IntKind.bits, Nat.and_one_is_mod]; omega)) | ((first | apply Pv.fieldAddr | apply Pv.len | apply Pv.indexAddr | apply Pv.build | apply Pv.field | apply Pv.convert | apply Pv.addw | apply Pv.subw | apply Pv.mulw | apply Pv.binOp) <;> first | exact rfl | (intro w; go_simp <;> first | exact rfl | exact ⟨rfl, rfl⟩))))))
        | (apply EA.take 7; decide +kernel; exact rfl; kernel_rfl; decide +kernel; exact fun _ _ _ _ h => h; (first | (apply Pg.off; exact rfl) | (apply Pg.any; exact rfl; (first | (apply Pv.auto; exact rfl) | ((first | apply Pv.add | apply Pv.sub | apply Pv.mul64 | apply Pv.rem | apply Pv.quo) <;> first | exact rfl | omega) | (apply Pv.conv; exact rfl; (intro w; go_simp <;> first | exact rfl | exact ⟨rfl, rfl⟩); (first | exact wrapu64_id (by omega) (by omega) | exact wrap64_id (by omega) (by omega) | exact wrapu8_id (by omega) (by omega) | exact wrapu32_id (by omega) (by omega) | exact wrapu16_id (by omega) (by omega) | exact u8_mod _ | exact u32_mod _ | exact u64_mod _ | exact rfl)) | ((first | apply Pv.beq | apply Pv.bne); exact rfl; exact rfl; kernel_rfl) | ((first | apply Pv.xor | apply Pv.and | apply Pv.or | apply Pv.shr | apply Pv.shl) <;> first | exact rfl | (simp only [IntKind.bits, Nat.and_one_is_mod]; omega)) | ((first | apply Pv.muln | apply Pv.notn) <;> first | exact rfl | (simp only [IntKind.bits, Nat.and_one_is_mod]; omega)) | ((first | apply Pv.fieldAddr | apply Pv.len | apply Pv.indexAddr | apply Pv.build | apply Pv.field | apply Pv.convert | apply Pv.addw | apply Pv.subw | apply Pv.mulw | apply Pv.binOp) <;> first | exact rfl | (intro w; go_simp <;> first | exact rfl | exact ⟨rfl, rfl⟩))))))
        | (apply EA.take 8; decide +kernel; exact rfl; kernel_rfl; decide +kernel; exact fun _ _ _ _ h => h; (first | (apply Pg.off; exact rfl) | (apply Pg.any; exact rfl; (first | (apply Pv.auto; exact rfl) | ((first | apply Pv.add | apply Pv.sub | apply Pv.mul64 | apply Pv.rem | apply Pv.quo) <;> first | exact rfl | omega) | (apply Pv.conv; exact rfl; (intro w; go_simp <;> first | exact rfl | exact ⟨rfl, rfl⟩); (first | exact wrapu64_id (by omega) (by omega) | exact wrap64_id (by omega) (by omega) | exact wrapu8_id (by omega) (by omega) | exact wrapu32_id (by omega) (by omega) | exact wrapu16_id (by omega) (by omega) | exact u8_mod _ | exact u32_mod _ | exact u64_mod _ | exact rfl)) | ((first | apply Pv.beq | apply Pv.bne); exact rfl; exact rfl; kernel_rfl) | ((first | apply Pv.xor | apply Pv.and | apply Pv.or | apply Pv.shr | apply Pv.shl) <;> first | exact rfl | (simp only [IntKind.bits, Nat.and_one_is_mod]; omega)) | ((first | apply Pv.muln | apply Pv.notn) <;> first | exact rfl | (simp only [IntKind.bits, Nat.and_one_is_mod]; omega)) | ((first | apply Pv.fieldAddr | apply Pv.len | apply Pv.indexAddr | apply Pv.build | apply Pv.field | apply Pv.convert | apply Pv.addw | apply Pv.subw | apply Pv.mulw | apply Pv.binOp) <;> first | exact rfl | (intro w; go_simp <;> first | exact rfl | exact ⟨rfl, rfl⟩))))))
        | (apply EA.take 9; decide +kernel; exact rfl; kernel_rfl; decide +kernel; exact fun _ _ _ _ h => h; (first | (apply Pg.off; exact rfl) | (apply Pg.any; exact rfl; (first | (apply Pv.auto; exact rfl) | ((first | apply Pv.add | apply Pv.sub | apply Pv.mul64 | apply Pv.rem | apply Pv.quo) <;> first | exact rfl | omega) | (apply Pv.conv; exact rfl; (intro w; go_simp <;> first | exact rfl | exact ⟨rfl, rfl⟩); (first | exact wrapu64_id (by omega) (by omega) | exact wrap64_id (by omega) (by omega) | exact wrapu8_id (by omega) (by omega) | exact wrapu32_id (by omega) (by omega) | exact wrapu16_id (by omega) (by omega) | exact u8_mod _ | exact u32_mod _ | exact u64_mod _ | exact rfl)) | ((first | apply Pv.beq | apply Pv.bne); exact rfl; exact rfl; kernel_rfl) | ((first | apply Pv.xor | apply Pv.and | apply Pv.or | apply Pv.shr | apply Pv.shl) <;> first | exact rfl | (simp only [IntKind.bits, Nat.and_one_is_mod]; omega)) | ((first | apply Pv.muln | apply Pv.notn) <;> first | exact rfl | (simp only [IntKind.bits, Nat.and_one_is_mod]; omega)) | ((first | apply Pv.fieldAddr | apply Pv.len | apply Pv.indexAddr | apply Pv.build | apply Pv.field | apply Pv.convert | apply Pv.addw | apply Pv.subw | apply Pv.mulw | apply Pv.binOp) <;> first | exact rfl | (intro w; go_simp <;> first | exact rfl | exact ⟨rfl, rfl⟩))))))
        | (apply EA.take 10; decide +kernel; exact rfl; kernel_rfl; decide +kernel; exact fun _ _ _ _ h => h; (first | (apply Pg.off; exact rfl) | (apply Pg.any; exact rfl; (first | (apply Pv.auto; exact rfl) | ((first | apply Pv.add | apply Pv.sub | apply Pv.mul64 | apply Pv.rem | apply Pv.quo) <;> first | exact rfl | omega) | (apply Pv.conv; exact rfl; (intro w; go_simp <;> first | exact rfl | exact ⟨rfl, rfl⟩); (first | exact wrapu64_id (by omega) (by omega) | exact wrap64_id (by omega) (by omega) | exact wrapu8_id (by omega) (by omega) | exact wrapu32_id (by omega) (by omega) | exact wrapu16_id (by omega) (by omega) | exact u8_mod _ | exact u32_mod _ | exact u64_mod _ | exact rfl)) | ((first | apply Pv.beq | apply Pv.bne); exact rfl; exact rfl; kernel_rfl) | ((first | apply Pv.xor | apply Pv.and | apply Pv.or | apply Pv.shr | apply Pv.shl) <;> first | exact rfl | (simp only [IntKind.bits, Nat.and_one_is_mod]; omega)) | ((first | apply Pv.muln | apply Pv.notn) <;> first | exact rfl | (simp only [IntKind.bits, Nat.and_one_is_mod]; omega)) | ((first | apply Pv.fieldAddr | apply Pv.len | apply Pv.indexAddr | apply Pv.build | apply Pv.field | apply Pv.convert | apply Pv.addw | apply Pv.subw | apply Pv.mulw | apply Pv.binOp) <;> first | exact rfl | (intro w; go_simp <;> first | exact rfl | exact ⟨rfl, rfl⟩))))))
        | (apply EA.take 11; decide +kernel; exact rfl; kernel_rfl; decide +kernel; exact fun _ _ _ _ h => h; (first | (apply Pg.off; exact rfl) | (apply Pg.any; exact rfl; (first | (apply Pv.auto; exact rfl) | ((first | apply Pv.add | apply Pv.sub | apply Pv.mul64 | apply Pv.rem | apply Pv.quo) <;> first | exact rfl | omega) | (apply Pv.conv; exact rfl; (intro w; go_simp <;> first | exact rfl | exact ⟨rfl, rfl⟩); (first | exact wrapu64_id (by omega) (by omega) | exact wrap64_id (by omega) (by omega) | exact wrapu8_id (by omega) (by omega) | exact wrapu32_id (by omega) (by omega) | exact wrapu16_id (by omega) (by omega) | exact u8_mod _ | exact u32_mod _ | exact u64_mod _ | exact rfl)) | ((first | apply Pv.beq | apply Pv.bne); exact rfl; exact rfl; kernel_rfl) | ((first | apply Pv.xor | apply Pv.and | apply Pv.or | apply Pv.shr | apply Pv.shl) <;> first | exact rfl | (simp only [IntKind.bits, Nat.and_one_is_mod]; omega)) | ((first | apply Pv.muln | apply Pv.notn) <;> first | exact rfl | (simp only [IntKind.bits, Nat.and_one_is_mod]; omega)) | ((first | apply Pv.fieldAddr | apply Pv.len | apply Pv.indexAddr | apply Pv.build | apply Pv.field | apply Pv.convert | apply Pv.addw | apply Pv.subw | apply Pv.mulw | apply Pv.binOp) <;> first | exact rfl | (intro w; go_simp <;> first | exact rfl | exact ⟨rfl, rfl⟩)))))))
      apply EA.done
      · decide +kernel
      refine go ?_
      refine A.r3 ?_
      have hp2 := pr_drop hp (k := i + 1) (o' := o2) (by omega) (ho2.imp id (by omega))
      rw [← bs_drop] at hp2
      exact HOK.out _ (i + 1) _ _ _ _ ht.symm (by omega) (by omega) hs2 hs hp2
    · rw [if_neg (by omega)] at ht
      refine go ?_
      refine A.round (n - (i + 1)) (i + 1, s ||| (l[i].toNat &&& 127) * 2 ^ (7 * i)) (by omega) wk_ ⟨hs, rfl, by simp only; omega, ?_, hs2, ht⟩
      have : i ≠ 9 := by
        intro h9
        have h1 : l[i].toNat ≤ 1 := by omega
        omega
      simp only
      omega
end Go.Proofs.YtfhmamkafancbaaGreatDoor
