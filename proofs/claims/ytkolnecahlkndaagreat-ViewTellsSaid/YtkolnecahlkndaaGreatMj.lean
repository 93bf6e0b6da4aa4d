/-
  What came in, layer 15: rows of small numbers; a place.
-/
import Derived.Test.YtkolnecahlkndaaGreatMg
import Derived.RowKit
import Derived.WideShapes
import Derived.ChangeShapes
import Derived.ChangeSlices
namespace Go.Proofs.YtkolnecahlkndaaGreat
open Go.RowKit Go.ChangeShapes Go.WideShapes
set_option linter.unusedVariables false
set_option linter.unusedSimpArgs false

section
variable {H : Type} {enc : TypeId × Value → H} {P : Program} {w : World} {base : Nat} {held : Bool}
theorem in_hs16 {t e : TypeId} {fuel : Nat} {cs : List Value} {x : DataW H × List MemPlace} (ht : P.underlying t = some (.slice e)) (he : P.underlying e = some (.int .u16)) (hc : P.cellsOf e = 1)
    (h : DataW.trod enc P w base (fun _ => true) held fuel t cs = some x) : ∃ a n c zs, cs = [.slice a n c] ∧ zs.length = n ∧ (∀ z ∈ zs, z < 65536) ∧ Pr 1 (fun b => w.heap[b]?) (.slice a n c) n (hs16 zs) := by
  have key : ∀ (a : Option Addr) (n c : Nat) (is : List Int), ((a = none ∧ n = 0 ∧ c = 0 ∧ is = []) ∨ ∃ x, a = some x ∧ n ≤ c ∧ c ≤ maxLen ∧ is.length = c ∧ (∀ i, i < is.length → w.cell? (x.add i) = some (.int .u16 (is.getD i 0))) ∧ ∀ n ∈ is, (Lit.int .u16 n).wf = true) →
      ∃ zs : List Nat, zs.length = n ∧ (∀ z ∈ zs, z < 65536) ∧ Pr 1 (fun b => w.heap[b]?) (.slice a n c) n (hs16 zs) := by
    intro a n c is h
    obtain ⟨h1, h2, h3⟩ := pr_ints h
    have h4 : ∀ i ∈ is, 0 ≤ i ∧ i < 65536 := by
      intro i hi
      have := h3 i hi
      simp [Lit.wf, IntKind.min, IntKind.max, IntKind.signed, IntKind.bits] at this
      omega
    refine ⟨(is.take n).map Int.toNat, by simp [h2], fun z hz => ?_, ?_⟩
    · obtain ⟨i, hi, rfl⟩ := List.mem_map.1 hz
      have := h4 i (List.mem_of_mem_take hi)
      omega
    · have e : hs16 ((is.take n).map Int.toNat) = (is.take n).map (Value.int .u16) := by
        unfold hs16
        rw [List.map_map]
        refine List.map_congr_left fun i hi => ?_
        have := h4 i (List.mem_of_mem_take hi)
        simp only [Function.comp_apply]
        rw [Int.toNat_of_nonneg this.1]
      rw [e]
      exact h1
  rcases open_ints ht he hc h with ⟨hcs, _⟩ | ⟨x, l, c, is, hcs, _, hl, hm, hz, _, hcell, hwz⟩
  · obtain ⟨zs, h1, h2, h3⟩ := key none 0 0 [] (.inl ⟨rfl, rfl, rfl, rfl⟩)
    exact ⟨none, 0, 0, zs, hcs, h1, h2, h3⟩
  · obtain ⟨zs, h1, h2, h3⟩ := key (some x) l c is (.inr ⟨_, rfl, hl, hm, by simpa using hz, hcell, hwz⟩)
    exact ⟨some x, l, c, zs, hcs, h1, h2, h3⟩
end
theorem in_ints2 {H : Type} {enc : TypeId × Value → H} {P : Program} {w : World} {base : Nat} {held : Bool} {r : Reach} {b0 : Nat} {t : TypeId} {v : Value} {d : DataW H} {ps : List MemPlace} {f0 f1 : Field} {k0 k1 : IntKind} (ht : P.underlying t = some (.struct #[f0, f1])) (h3 : P.cellsOf t = 2)
    (o0 : f0.offset = 0 ∧ P.cellsOf f0.type = 1) (u0 : P.underlying f0.type = some (.int k0)) (o1 : f1.offset = 1 ∧ P.cellsOf f1.type = 1) (u1 : P.underlying f1.type = some (.int k1))
    (hval : Value.okWide P w r b0 t v) (h : DataW.Trod enc P w base (fun _ => true) held t v d ps) :
    ∃ x y : Int, v = .agg #[.int k0 x, .int k1 y] ∧ (Lit.int k0 x).wf = true ∧ (Lit.int k1 y).wf = true := by
  obtain ⟨fuel, hf⟩ := h
  obtain ⟨cs, rfl, hsz⟩ : ∃ cs, v = .agg cs ∧ cs.size = P.cellsOf t := by
    unfold Value.okWide at hval
    rw [ht] at hval
    obtain ⟨cs, h1, h2, _⟩ := hval
    exact ⟨cs, h1, h2⟩
  obtain ⟨xs, n, _, _, hl, hlen, hfi⟩ := DataW.trod_struct ht hf
  rw [h3] at hsz
  match cs, hsz with
  | ⟨[c0, c1]⟩, _ =>
    have hx : xs.length = 2 := hlen
    have g0 := hfi 0 f0 rfl
    have g1 := hfi 1 f1 rfl
    rw [o0.1, o0.2, List.getElem?_eq_getElem (by omega)] at g0
    rw [o1.1, o1.2, List.getElem?_eq_getElem (by omega)] at g1
    obtain ⟨x, e0, _, w0⟩ := DataW.trod_int u0 g0
    obtain ⟨y, e1, _, w1⟩ := DataW.trod_int u1 g1
    simp [Value.cells] at e0 e1
    subst e0 e1
    exact ⟨x, y, rfl, w0, w1⟩
set_option maxRecDepth 100000 in
theorem in_spot {H : Type} {enc : TypeId × Value → H} {w : World} {base : Nat} {held : Bool} {r : Reach} {b0 : Nat} {v : Value} {d : DataW H} {ps : List MemPlace} (hval : Value.okWide Tryz.prog w r b0 56 v) (h : DataW.Trod enc Tryz.prog w base (fun _ => true) held 56 v d ps) :
    ∃ (t : Nat) (wr : Int), v = spot t wr := by
  obtain ⟨x, y, rfl, w0, w1⟩ := in_ints2 Tryz.underlying56 (by kernel_rfl) ⟨rfl, by kernel_rfl⟩ Tryz.underlying28 ⟨rfl, by kernel_rfl⟩ Tryz.underlying3 hval h
  simp [Lit.wf, IntKind.min, IntKind.max, IntKind.signed, IntKind.bits] at w0
  refine ⟨x.toNat, y, ?_⟩
  have e0 : (x.toNat : Int) = x := by omega
  simp only [spot, e0]
theorem in_u8 {n : Int} (h : (Lit.int .u8 n).wf = true) : ∃ m : Nat, n = m ∧ m < 256 := by
  simp [Lit.wf, IntKind.min, IntKind.max, IntKind.signed, IntKind.bits] at h
  exact ⟨n.toNat, by omega, by omega⟩
end Go.Proofs.YtkolnecahlkndaaGreat
