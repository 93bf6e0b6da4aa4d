/-
  What came in, layer 5: a title; rows of bytes.
-/
import Derived.Test.YtcfbmmlgdopbmaaOp
import Derived.Test.YtcfbmmlgdopbmaaLc
namespace Go.Proofs.Ytcfbmmlgdopbmaa
open Go.RowKit Go.ChangeShapes Go.WideShapes
set_option linter.unusedVariables false
set_option linter.unusedSimpArgs false

section
variable {H : Type} {enc : TypeId × Value → H} {P : Program} {w : World} {base : Nat} {held : Bool}
theorem in_rows {t e u : TypeId} {fuel : Nat} {cs : List Value} {x : DataW H × List MemPlace} (ht : P.underlying t = some (.slice e)) (he : P.underlying e = some (.slice u)) (hu : P.underlying u = some (.int .u8)) (hc : P.cellsOf e = 1) (hcu : P.cellsOf u = 1)
    (h : DataW.trod enc P w base (fun _ => true) held fuel t cs = some x) : ∃ a n c ls, cs = [.slice a n c] ∧ LB (hp w) a n c ls ∧ (ls.map fun l => l.length + 1).sum + 1 ≤ Rows.uptoBulk x.1 := by
  rcases DataW.trod_slice ht h with ⟨rfl, rfl⟩ | ⟨a, len, cap, elems, rest, n, _, rfl, rfl, hb, hl, hm, hlen, hel, hsp, _⟩
  · exact ⟨none, 0, 0, [], rfl, ⟨[], rfl, rfl, fun p hp => by simp at hp, Pr.nil⟩, by simp [Rows.uptoBulk]⟩
  · have each : ∀ i, i < len → ∃ p : Value × List UInt8, w.cell? (a.add i) = some p.1 ∧ Pr 1 (hp w) p.1 p.2.length (bs p.2) ∧ ∀ y, elems[i]? = some y → p.2.length + 1 ≤ Rows.uptoBulk y.1 := by
      intro i hi
      have h1 := hel i hi
      rw [hc, Nat.mul_one, List.getElem?_eq_getElem (by omega), Option.bind_eq_some_iff] at h1
      obtain ⟨cs', hcs, hy⟩ := h1
      obtain ⟨a', n', c', l, rfl, hl', hp', hbk⟩ := in_bytes he hu hcu hy
      refine ⟨(.slice a' n' c', l), cell_of_cells?_one hcs, by rw [hl']; exact hp', fun y hy' => ?_⟩
      rw [List.getElem?_eq_getElem (by omega)] at hy'
      simp only [Option.some.injEq] at hy'
      rw [← hy']
      exact hbk
    obtain ⟨ps, h1, h2⟩ := choose_list len each
    refine ⟨some a, len, cap, ps.map Prod.snd, rfl, ⟨ps, rfl, h1, ?_, pr_cells hl hm (by simpa using h1) ?_⟩, ?_⟩
    · intro p hp
      obtain ⟨i, hi, rfl⟩ := List.mem_iff_getElem.1 hp
      exact (h2 i hi).2.1
    · intro i hi
      rw [(h2 i (by omega)).1, List.getElem?_map, List.getElem?_eq_getElem (by omega)]
      rfl
    · rw [bulk_slice]
      have := sum_le_sum (fun p : Value × List UInt8 => p.2.length + 1) (fun y : DataW H × List MemPlace => Rows.uptoBulk y.1) ps elems (by omega) fun i hi hi' => (h2 i hi).2.2 _ (List.getElem?_eq_getElem hi')
      rw [List.map_map, List.map_map]
      have e1 : ((fun l : List UInt8 => l.length + 1) ∘ Prod.snd : Value × List UInt8 → Nat) = fun p => p.2.length + 1 := rfl
      have e2 : (Rows.uptoBulk ∘ fun y : DataW H × List MemPlace => y.1) = fun y => Rows.uptoBulk y.1 := rfl
      rw [e1]
      show _ ≤ (List.map (Rows.uptoBulk ∘ fun y : DataW H × List MemPlace => y.1) elems).sum + _ + 1
      rw [e2]
      omega
end

theorem in_ints3 {H : Type} {enc : TypeId × Value → H} {P : Program} {w : World} {base : Nat} {held : Bool} {r : Reach} {b0 : Nat} {t : TypeId} {v : Value} {d : DataW H} {ps : List MemPlace} {f0 f1 f2 : Field} {k0 k1 k2 : IntKind} (ht : P.underlying t = some (.struct #[f0, f1, f2])) (h3 : P.cellsOf t = 3)
    (o0 : f0.offset = 0 ∧ P.cellsOf f0.type = 1) (u0 : P.underlying f0.type = some (.int k0)) (o1 : f1.offset = 1 ∧ P.cellsOf f1.type = 1) (u1 : P.underlying f1.type = some (.int k1)) (o2 : f2.offset = 2 ∧ P.cellsOf f2.type = 1) (u2 : P.underlying f2.type = some (.int k2))
    (hval : Value.okWide P w r b0 t v) (h : DataW.Trod enc P w base (fun _ => true) held t v d ps) :
    ∃ x y z : Int, v = .agg #[.int k0 x, .int k1 y, .int k2 z] ∧ (Lit.int k0 x).wf = true ∧ (Lit.int k1 y).wf = true ∧ (Lit.int k2 z).wf = true := by
  obtain ⟨fuel, hf⟩ := h
  obtain ⟨cs, rfl, hsz⟩ : ∃ cs, v = .agg cs ∧ cs.size = P.cellsOf t := by
    unfold Value.okWide at hval
    rw [ht] at hval
    obtain ⟨cs, h1, h2, _⟩ := hval
    exact ⟨cs, h1, h2⟩
  obtain ⟨xs, n, _, _, hl, hlen, hfi⟩ := DataW.trod_struct ht hf
  rw [h3] at hsz
  match cs, hsz with
  | ⟨[c0, c1, c2]⟩, _ =>
    have hx : xs.length = 3 := hlen
    have g0 := hfi 0 f0 rfl
    have g1 := hfi 1 f1 rfl
    have g2 := hfi 2 f2 rfl
    rw [o0.1, o0.2, List.getElem?_eq_getElem (by omega)] at g0
    rw [o1.1, o1.2, List.getElem?_eq_getElem (by omega)] at g1
    rw [o2.1, o2.2, List.getElem?_eq_getElem (by omega)] at g2
    obtain ⟨x, e0, _, w0⟩ := DataW.trod_int u0 g0
    obtain ⟨y, e1, _, w1⟩ := DataW.trod_int u1 g1
    obtain ⟨z, e2, _, w2⟩ := DataW.trod_int u2 g2
    simp [Value.cells] at e0 e1 e2
    subst e0 e1 e2
    exact ⟨x, y, z, rfl, w0, w1, w2⟩

set_option maxRecDepth 100000 in
theorem in_title {H : Type} {enc : TypeId × Value → H} {w : World} {base : Nat} {held : Bool} {r : Reach} {b0 : Nat} {v : Value} {d : DataW H} {ps : List MemPlace} (hval : Value.okWide Try.prog w r b0 24 v) (h : DataW.Trod enc Try.prog w base (fun _ => true) held 24 v d ps) :
    ∃ t : Ti, t.ok ∧ v = t.val := by
  obtain ⟨x, y, z, rfl, w0, w1, w2⟩ := in_ints3 Try.underlying24 (by kernel_rfl) ⟨rfl, by kernel_rfl⟩ Try.underlying5 ⟨rfl, by kernel_rfl⟩ Try.underlying22 ⟨rfl, by kernel_rfl⟩ Try.underlying22 hval h
  simp [Lit.wf, IntKind.min, IntKind.max, IntKind.signed, IntKind.bits] at w0 w1 w2
  refine ⟨⟨UInt8.ofNat x.toNat, y.toNat, z.toNat⟩, ⟨by simp only; omega, by simp only; omega⟩, ?_⟩
  have e0 : (x.toNat % 256 : Nat) = x := by omega
  have e1 : (y.toNat : Int) = y := by omega
  have e2 : (z.toNat : Int) = z := by omega
  simp only [Ti.val, UInt8.toNat_ofNat', Nat.reducePow, e0, e1, e2]
theorem sumS_of (ls : List (List UInt8)) : sumS ls ≤ 10 * (ls.map fun l => l.length + 1).sum := by
  induction ls with
  | nil => simp [sumS]
  | cons x r ih =>
    have e2 : sumS (x :: r) = (x.length + 10) + sumS r := by simp [sumS]
    simp only [List.map_cons, List.sum_cons]
    omega
end Go.Proofs.Ytcfbmmlgdopbmaa
