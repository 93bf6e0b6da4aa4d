/-
  The stepping engine: a slice of one struct.
-/
import Derived.Test.YtkolnecahlkndaaIv
namespace Go.Proofs.Ytkolnecahlkndaa
open Go.RowKit
set_option linter.unusedVariables false
set_option linter.unusedSimpArgs false
set_option linter.unusedSectionVars false

theorem foldl_fill : ∀ (vs : List Value) (k : Nat) (pre xs : List Value), pre.length = k → xs.length = vs.length →
    (vs.zipIdx k).foldl (fun (cs : Array Value) (p : Value × Nat) => cs.setIfInBounds (0 + p.2) p.1) (pre ++ xs).toArray = (pre ++ vs).toArray
  | [], k, pre, xs, _, h => by
    obtain rfl : xs = [] := List.eq_nil_of_length_eq_zero (by simpa using h)
    rfl
  | v :: r, k, pre, x :: xs, hk, h => by
    subst hk
    simp only [List.zipIdx_cons, List.foldl_cons, Nat.zero_add]
    have e : (pre ++ x :: xs).toArray.setIfInBounds pre.length v = ((pre ++ [v]) ++ xs).toArray := by
      apply Array.ext'
      simp
    rw [e]
    have := foldl_fill r (pre.length + 1) (pre ++ [v]) xs (by simp) (by simpa using h)
    simp only [Nat.zero_add] at this
    rw [this]
    simp

section
variable {P : Program} {n : Fm} {ρ : List (Nat × Value)} {W w w' : World} {g : Hl} {H : List HP} {Q : Exit → Act → World → Prop} {ops : Array Oper} {rest : List Oper} {d : Option Tmp} {ty : TypeId} {ps : String} {af : Array Edge} {t e : TypeId} {z : Value} {s bytes : Nat} {cs : List Value}
theorem run_bsl_agg (he : ElemOf P t e z s bytes) (hc : cs.length = s) (hs : s ≤ 16777216) (w : World) : (Instr.buildSlice t 1 #[(0, .agg cs.toArray)]).run P w = .ok (.slice (some ⟨w.heap.size, 0, none⟩) 1 1) (w.alloc (.cells cs.toArray e)) := by
  obtain ⟨ht, ⟨inf, hin, hz, hsz, hby⟩, hzs, hpos⟩ := he
  have h1 : ¬ (1 * s > 2 ^ 24) := by omega
  have h2 : ¬ (1 * s = 0) := by omega
  have hzv : (zeroValue e).run P w = .ok z w := by simp [zeroValue, typeInfo, hin, hz, Result.andThen]
  have hl : (((Array.range (1 * s)).map (z.cells[· % z.cells.size]!)).toList).length = cs.length := by simp [hc]
  have hf : Instr.fill (fun i => some (i * s, s)) ((Array.range (1 * s)).map (z.cells[· % z.cells.size]!)) [(0, Value.agg cs.toArray)] = some cs.toArray := by
    have h3 : ¬ ((Value.agg cs.toArray).cells.size ≠ s || decide (0 * s + (Value.agg cs.toArray).cells.size > ((Array.range (1 * s)).map (z.cells[· % z.cells.size]!)).size)) = true := by
      simp [Value.cells, hc]
    simp only [Instr.fill]
    rw [if_neg h3]
    have := foldl_fill cs 0 [] ((Array.range (1 * s)).map (z.cells[· % z.cells.size]!)).toList rfl hl
    simp only [List.nil_append, Array.toArray_toList] at this
    refine congrArg some (Eq.trans ?_ this)
    simp only [Value.cells, Nat.zero_mul]
    rw [← Array.foldl_toList]
    simp
  unfold Instr.buildSlice
  simp only [Sem.run_bind, run_underlying ht, Result.andThen_ok, sizeOf, run_typeInfo_some hin, Sem.run_pure, hsz, if_neg h1, if_neg h2, hzv, hf]
  simp [newRow]
theorem E.bsle (he : ElemOf P t e z s bytes) (hs : Sat W w g H) (hc : cs.length = s) (h : ∀ b w', Sat W w' g (blk b cs e :: H) → E P n ops rest (pushv d (.slice (some ⟨b, 0, none⟩) 1 1) ρ) w' Q) {x : Operand} (hx : evo n ρ x = some (.agg cs.toArray) := by exact rfl) (hsm : s ≤ 16777216 := by decide) :
    E P n ops (⟨d, .buildSlice t 1 #[(0, x)], ty, ps, af, none⟩ :: rest) ρ w Q :=
  E.cons (St.buildSlice hs (xs := [(0, .agg cs.toArray)]) (by simp only [evp, hx]) (run_bsl_agg he hc hsm w) h)
theorem EH.bsle {l : List Oper} {S : World → Prop} {fuel m i : Nat} (he : ElemOf P t e z s bytes) (hs : Sat W w g H) (hc : cs.length = s) (h : ∀ b w', Sat W w' g (blk b cs e :: H) → S w' ∧ EH P n l S fuel (bset m i) (pushv d (.slice (some ⟨b, 0, none⟩) 1 1) ρ) w' Q) {x : Operand} (hr : rdy m l.length 0 l = [i] := by exact rfl) (hi : nth l i = some ⟨d, .buildSlice t 1 #[(0, x)], ty, ps, af, none⟩ := by exact rfl) (hx : evo n ρ x = some (.agg cs.toArray) := by exact rfl) (hsm : s ≤ 16777216 := by decide) :
    EH P n l S (fuel + 1) m ρ w Q := EH.one (St.buildSlice hs (xs := [(0, .agg cs.toArray)]) (by simp only [evp, hx]) (run_bsl_agg he hc hsm w) h) hr hi
/-- One operation, or a slice of one struct; in either order. -/
theorem EH.obe {l : List Oper} {S : World → Prop} {fuel m i i1 : Nat} {oi : Oper} (he : ElemOf P t e z s bytes) (hs : Sat W w g H) (hc : cs.length = s) (h1 : St P n l.toArray oi ρ w (fun ρ' w' => S w' ∧ EH P n l S fuel (bset m i1) ρ' w' Q) Q) (h : ∀ b w', Sat W w' g (blk b cs e :: H) → S w' ∧ EH P n l S fuel (bset m i) (pushv d (.slice (some ⟨b, 0, none⟩) 1 1) ρ) w' Q) {x : Operand} (hr : rdy m l.length 0 l = [i1, i] := by exact rfl) (ho : nth l i1 = some oi := by exact rfl) (hi : nth l i = some ⟨d, .buildSlice t 1 #[(0, x)], ty, ps, af, none⟩ := by exact rfl) (hx : evo n ρ x = some (.agg cs.toArray) := by exact rfl) (hsm : s ≤ 16777216 := by decide) :
    EH P n l S (fuel + 1) m ρ w Q := EH.two h1 (St.buildSlice hs (xs := [(0, .agg cs.toArray)]) (by simp only [evp, hx]) (run_bsl_agg he hc hsm w) h) hr ho hi
/-- A load, or a slice of one struct; in either order. -/
theorem EH.lbe {l : List Oper} {S : World → Prop} {fuel m i i1 b j : Nat} {t1 ty1 e1 : TypeId} {d1 : Option Tmp} {ps1 : String} {af1 : Array Edge} {xs : List Value} {v : Value} {y : Operand} (he : ElemOf P t e z s bytes) (hs : Sat W w g H) (hc : cs.length = s) (hj : xs[j]? = some v) (h1 : S w ∧ EH P n l S fuel (bset m i1) (pushv d1 v ρ) w Q) (h : ∀ b w', Sat W w' g (blk b cs e :: H) → S w' ∧ EH P n l S fuel (bset m i) (pushv d (.slice (some ⟨b, 0, none⟩) 1 1) ρ) w' Q) {x : Operand}
    (hr : rdy m l.length 0 l = [i1, i] := by exact rfl) (ho : nth l i1 = some ⟨d1, .load t1 y, ty1, ps1, af1, none⟩ := by exact rfl) (hi : nth l i = some ⟨d, .buildSlice t 1 #[(0, x)], ty, ps, af, none⟩ := by exact rfl) (hx : evo n ρ x = some (.agg cs.toArray) := by exact rfl) (hy : evo n ρ y = some (.pointer (some ⟨b, j, none⟩)) := by exact rfl) (hf : Fd H b xs e1 := by exact fd_) (ha : (isAgg t1).run P w = .ok false w := by first | (go_simp; done) | fail) (hsm : s ≤ 16777216 := by decide) :
    EH P n l S (fuel + 1) m ρ w Q := EH.two (St.load hs hy hf hj ha h1) (St.buildSlice hs (xs := [(0, .agg cs.toArray)]) (by simp only [evp, hx]) (run_bsl_agg he hc hsm w) h) hr ho hi
end
/-- The same behind code. -/
theorem laterA {α : Type} {n : Fm} {e : Exit} {Q : Exit → Act → World → Prop} {f : α → List (Nat × Value)} {M : α → World → Prop} {G : Prop} (main : (∀ x w, M x w → A n e (f x) w Q) → G) (key : ∀ x w, M x w → A n e (f x) w Q) : G := main key
end Go.Proofs.Ytkolnecahlkndaa
