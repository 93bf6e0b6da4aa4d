/-
  The stepping engine: maps, ranges over them, function values.
-/
import Derived.Test.YtkolnecahlkndaaEn
import Derived.Test.YtkolnecahlkndaaMp
namespace Go.Proofs.Ytkolnecahlkndaa
open Go.RowKit
set_option linter.unusedVariables false
set_option linter.unusedSimpArgs false
set_option linter.unusedSectionVars false

/-- A thing among what is owned. -/
inductive Has (p : HP) : List HP → Prop
  | here {H : List HP} : Has p (p :: H)
  | there {H : List HP} {q : HP} : Has p H → Has p (q :: H)
theorem Has.front {p : HP} {H : List HP} (h : Has p H) {W w : World} {g : Hl} (hs : Sat W w g H) : ∃ H', Sat W w g (p :: H') := by
  induction h generalizing w with
  | here => exact ⟨_, hs⟩
  | there _ ih => exact ih hs.drop
theorem Re.turn {p : HP} {qs H H' : List HP} (h : Re p qs H H') {W w w' : World} {g : Hl} (hs : Sat W w g H) (ht : ∀ H0, Sat W w g (p :: H0) → Sat W w' g (qs ++ H0)) : Sat W w' g H' := by
  obtain ⟨L, R, rfl, rfl⟩ := h.sat
  have h1 := ht _ hs.toFront
  refine h1.perm ?_
  calc qs ++ (L ++ R) = (qs ++ L) ++ R := by simp
    _ |>.Perm ((L ++ qs) ++ R) := (List.perm_append_comm).append_right _
    _ = L ++ (qs ++ R) := by simp

section
variable {κ : Type} [DecidableEq κ] {P : Program} {n : Fm} {ρ : List (Nat × Value)} {W w : World} {g : Hl} {H H' : List HP} {Q : Exit → Act → World → Prop} {ops : Array Oper} {d : Option Tmp} {ty : TypeId} {ps : String} {af : Array Edge} {x y : Operand} {N : List (Nat × Value) → World → Prop}
  {enc : κ → Value} {t kt et : TypeId} {b : Nat} {l : List (κ × Value)} {k : κ} {v u : Value}

theorem St.makeMap (κ : Type) [DecidableEq κ] (enc : κ → Value) (hs : Sat W w g H) (h : ∀ b w', Sat W w' g (mp enc b ([] : List (κ × Value)) :: H) → N (pushv d (.map (some b)) ρ) w') : St P n ops ⟨d, .makeMap t none, ty, ps, af, none⟩ ρ w N Q :=
  St.val (w' := w.alloc (.map #[] 0)) (fun a ha => by simp [execOp, run_makeMap]) (h _ _ (mp_new hs))

theorem St.lookup {z : Value} {ok : Bool} (K : Ky P kt enc) (ht : P.underlying t = some (.map kt et)) (hz : (zeroValue et).run P w = .ok z w) (hs : Sat W w g H) (hf : Has (mp enc b l) H) (hx : evo n ρ x = some (.map (some b))) (hy : evo n ρ y = some (enc k))
    (h : N (pushv d (if ok then .tuple #[(alook k l).getD z, .bool (alook k l).isSome] else (alook k l).getD z) ρ) w) : St P n ops ⟨d, .lookup t x y ok, ty, ps, af, none⟩ ρ w N Q := by
  obtain ⟨H', hs'⟩ := hf.front hs
  exact St.val (fun a ha => by simp [execOp, ha.eval hx, ha.eval hy, run_lookup_mp K ht hs' k hz ok]) h

theorem St.mapUpdate {z : Operand} (K : Ky P kt enc) (ht : P.underlying t = some (.map kt et)) (hs : Sat W w g H) (hx : evo n ρ x = some (.map (some b))) (hy : evo n ρ y = some (enc k)) (hz : evo n ρ z = some v) (hu : Re (mp enc b l) [mp enc b (aset k v l)] H H')
    (h : ∀ w', Sat W w' g H' → N ρ w') : St P n ops ⟨none, .mapUpdate t x y z, ty, ps, af, none⟩ ρ w N Q := by
  obtain ⟨L, R, rfl, rfl⟩ := hu.sat
  obtain ⟨w', hr, hs'⟩ := run_update_mp K ht hs.toFront k v
  refine St.unit (w' := w') (fun a ha => by simp [execOp, ha.eval hx, ha.eval hy, ha.eval hz, hr]) (h _ (by simpa using hs'.toBack))
theorem St.insert {z : Operand} (K : Ky P kt enc) (ht : P.underlying t = some (.map kt et)) (hs : Sat W w g H) (hx : evo n ρ x = some (.map (some b))) (hy : evo n ρ y = some (enc k)) (hz : evo n ρ z = some v) (hu : Re (mp enc b l) [mp enc b (aset k v l)] H H')
    (h : ∀ w', Sat W w' g H' → N ρ w') : St P n ops ⟨none, .insert t x y z, ty, ps, af, none⟩ ρ w N Q := by
  obtain ⟨L, R, rfl, rfl⟩ := hu.sat
  obtain ⟨w', hr, hs'⟩ := run_update_mp K ht hs.toFront k v
  refine St.unit (w' := w') (fun a ha => by simp [execOp, ha.eval hx, ha.eval hy, ha.eval hz, hr]) (h _ (by simpa using hs'.toBack))

theorem St.delete {kt' : TypeId} (K : Ky P kt enc) (ht : P.underlying t = some (.map kt et)) (hs : Sat W w g H) (hx : evo n ρ x = some (.map (some b))) (hy : evo n ρ y = some (enc k)) (hu : Re (mp enc b l) [mp enc b (adel k l)] H H')
    (h : ∀ w', Sat W w' g H' → N (pushv d (.tuple #[]) ρ) w') : St P n ops ⟨d, .call ⟨.builtin .delete, #[x, y], #[t, kt']⟩, ty, ps, af, none⟩ ρ w N Q := by
  obtain ⟨L, R, rfl, rfl⟩ := hu.sat
  obtain ⟨w', hr, hs'⟩ := run_delete_mp K ht hs.toFront k ty kt'
  refine St.val (w' := w') (fun a ha => by simp [execOp, resolve, ha.eval hx, ha.eval hy, invoke, builtin, hr]) (h _ (by simpa using hs'.toBack))

theorem Pv.makeFunc {fn : Fn} {fs cs : Array Operand} {us vs : List Value} (hf : evs n ρ fs.toList = some us) (hc : evs n ρ cs.toList = some vs) : Pv P n ρ (.makeFunc fn fs cs) ty (.func fn us.toArray vs.toArray) := Pv.mk fun a ha w d ps af g => by
  simp [execOp, ha.args hf, ha.args hc, Instr.makeFunc]

/-- string(b) of bytes. -/
theorem St.string {src dst e : TypeId} {D : Nat → Prop} {u : Value} {m : Nat} {bl : List UInt8} (hx : evo n ρ x = some u) (h1 : P.underlying src = some (.slice e)) (h2 : P.underlying e = some (.int .u8)) (h3 : P.underlying dst = some .string) (hrow : Row 1 w D u m (bs bl)) (h : N (pushv d (.string ⟨bl.toArray⟩) ρ) w) :
    St P n ops ⟨d, .convert src dst x, ty, ps, af, none⟩ ρ w N Q :=
  St.val (fun a ha => by simp [execOp, ha.eval hx, run_string h1 h2 h3 hrow]) h
theorem str_beq (a b : List UInt8) : ((⟨a.toArray⟩ : ByteArray) == ⟨b.toArray⟩) = decide (a = b) := by
  show (a.toArray == b.toArray) = decide (a = b)
  by_cases h : a = b
  · subst h; simp
  · simp [h]
theorem Pv.sne {s s' : TypeId} {a b : List UInt8} (hx : evo n ρ x = some (.string ⟨a.toArray⟩)) (hy : evo n ρ y = some (.string ⟨b.toArray⟩)) : Pv P n ρ (.binOp .neq s x y s') ty (.bool (!decide (a = b))) :=
  Pv.binOp hx hy (fun w => by simp [eqGuard]) fun w => by
    simp [Go.binOp, Op.stringOp]
    exact Bool.beq_eq_decide_eq _ _
theorem Pv.seq {s s' : TypeId} {a b : List UInt8} (hx : evo n ρ x = some (.string ⟨a.toArray⟩)) (hy : evo n ρ y = some (.string ⟨b.toArray⟩)) : Pv P n ρ (.binOp .eql s x y s') ty (.bool (decide (a = b))) :=
  Pv.binOp hx hy (fun w => by simp [eqGuard]) fun w => by
    simp [Go.binOp, Op.stringOp]
    exact Bool.beq_eq_decide_eq _ _

/-- A call of a function's value. -/
theorem St.callv {f : FuncId} {xs : Array Operand} {ts : Array TypeId} {vs : List Value} {fs cs : Array Value} {fn : Func} {c : Code} (hv : evo n ρ x = some (.func (.func f) fs cs)) (hf : P.funcs[f]? = some fn) (hb : fn.body = some c) (hnm : (fn.name == "runtime.NumGoroutine") = false) (hx : evs n ρ xs.toList = some vs)
    (h : Calls P f (fs ++ vs.toArray ++ cs) w (Ret n d ρ N Q)) : St P n ops ⟨d, .call ⟨.value x, xs, ts⟩, ty, ps, af, none⟩ ρ w N Q := St.mk fun a ha K hK => by
  rw [if_pos wanted_none]
  unfold Oper.wp
  have hnm' : ¬ fn.name = "runtime.NumGoroutine" := by simpa using hnm
  have hr : (execOp a.eval ⟨d, .call ⟨.value x, xs, ts⟩, ty, ps, af, none⟩).run P w = .ok (.enter f (fs ++ vs.toArray ++ cs)) w := by
    simp only [execOp, resolve, ha.eval hv, ha.args hx]
    simp [Deferred.ofValue, invoke, callFunc, hf, hnm', hb]
  rw [hr]
  refine h.mono fun e w' hq => ?_
  cases e with
  | returned v => exact hK _ _ _ hq (ha.put _ _)
  | panicked ch => exact A.use hq ha
  | outgrown => exact hq
end

end Go.Proofs.Ytkolnecahlkndaa
