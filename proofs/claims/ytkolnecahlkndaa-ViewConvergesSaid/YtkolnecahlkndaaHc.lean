/-
  Layer 12 (order): the library's heap over lists of events: down, Fix, Init, Pop.
-/
import Derived.Test.YtkolnecahlkndaaHa
namespace Go.Proofs.Ytkolnecahlkndaa
open Go.RowKit
set_option linter.unusedVariables false
set_option linter.unusedSimpArgs false

theorem m_len : MethOf Try.prog 110 "Len" 117 false := .mk (by kernel_rfl)
theorem m_less : MethOf Try.prog 110 "Less" 118 false := .mk (by kernel_rfl)
theorem m_swap : MethOf Try.prog 110 "Swap" 119 false := .mk (by kernel_rfl)
theorem m_pop : MethOf Try.prog 110 "Pop" 120 true := .mk (by kernel_rfl)

/-- A cursor, and its lists. -/
def cur (cb : Nat) (L : List Hd) : HP := exs fun q : Option Addr × Nat => wit (fun g => ∀ x ∈ L, x.ok g) (fun _ _ hg h x hx => (h x hx).mono hg) (sep (blk cb [.slice q.1 L.length q.2] 108) (hrow (.slice q.1 L.length q.2) L.length L))
theorem cur_open {W w : World} {g : Hl} {H : List HP} {cb : Nat} {L : List Hd} (hs : Sat W w g (cur cb L :: H)) : ∃ a c, (∀ x ∈ L, x.ok g) ∧ Sat W w g (blk cb [.slice a L.length c] 108 :: hrow (.slice a L.length c) L.length L :: H) := by
  obtain ⟨⟨a, c⟩, h⟩ := hs.unexs
  exact ⟨a, c, h.unwit.1, h.unwit.2.split⟩
theorem cur_close {W w : World} {g : Hl} {H : List HP} {cb n : Nat} {L : List Hd} {a : Option Addr} {c : Nat} (hn : L.length = n) (hok : ∀ x ∈ L, x.ok g) (hs : Sat W w g (blk cb [.slice a n c] 108 :: hrow (.slice a n c) n L :: H)) : Sat W w g (cur cb L :: H) := by
  subst hn
  exact Sat.mkexs (a, c) (Sat.mkwit hok hs.join)
def ci (cb : Nat) : Value := .iface 110 (.pointer (some ⟨cb, 0, none⟩))

section
variable {n : Fm} {ρ : List (Nat × Value)} {W w : World} {g : Hl} {H : List HP} {Q : Exit → Act → World → Prop} {ops : Array Oper} {rest : List Oper} {d : Option Tmp} {ty : TypeId} {ps : String} {af : Array Edge} {cb i j : Nat} {L : List Hd} {recv x y : Operand} {ts : Array TypeId}
theorem E.hless (hs : Sat W w g (cur cb L :: H)) (hi : i < L.length) (hj : j < L.length) (h : ∀ w', Sat W w' g (cur cb L :: H) → E Try.prog n ops rest (pushv d (.bool (decide (kat Hd.ky L i < kat Hd.ky L j))) ρ) w' Q)
    {xi xj : Int} (hv : evo n ρ recv = some (ci cb) := by exact rfl) (hx : evs n ρ [x, y] = some [.int .i64 xi, .int .i64 xj] := by exact rfl) (ei : xi = (i : Int) := by omega) (ej : xj = (j : Int) := by omega) : E Try.prog n ops (⟨d, .call ⟨.invoke recv "Less", #[x, y], ts⟩, ty, ps, af, none⟩ :: rest) ρ w Q := by
  subst ei ej
  obtain ⟨a, c, hok, hs1⟩ := cur_open hs
  refine E.inv Try.func118 (run_meth_val m_less Try.underlying110 (run_ld hs1)) (hless_any hok rfl hi hj hs1.swap ?_) hv hx
  intro w' hs2
  exact h _ (cur_close rfl hok hs2.swap)
theorem E.hswap (hs : Sat W w g (cur cb L :: H)) (hi : i < L.length) (hj : j < L.length) (h : ∀ w', Sat W w' g (cur cb (sw L i j) :: H) → E Try.prog n ops rest (pushv d (.tuple #[]) ρ) w' Q)
    {xi xj : Int} (hv : evo n ρ recv = some (ci cb) := by exact rfl) (hx : evs n ρ [x, y] = some [.int .i64 xi, .int .i64 xj] := by exact rfl) (ei : xi = (i : Int) := by omega) (ej : xj = (j : Int) := by omega) : E Try.prog n ops (⟨d, .call ⟨.invoke recv "Swap", #[x, y], ts⟩, ty, ps, af, none⟩ :: rest) ρ w Q := by
  subst ei ej
  obtain ⟨a, c, hok, hs1⟩ := cur_open hs
  refine E.inv Try.func119 (run_meth_val m_swap Try.underlying110 (run_ld hs1)) (hswap_any rfl hi hj hs1.swap ?_) hv hx
  intro w' hs2
  refine h _ (cur_close (sw_len L i j) ?_ hs2.swap)
  intro x hx
  exact hok x ((sw_perm hi hj).mem_iff.1 hx)
theorem E.hlen (hs : Sat W w g (cur cb L :: H)) (h : E Try.prog n ops rest (pushv d (.int .i64 L.length) ρ) w Q)
    (hv : evo n ρ recv = some (ci cb) := by exact rfl) : E Try.prog n ops (⟨d, .call ⟨.invoke recv "Len", #[], ts⟩, ty, ps, af, none⟩ :: rest) ρ w Q := by
  obtain ⟨a, c, hok, hs1⟩ := cur_open hs
  exact E.inv Try.func117 (run_meth_val m_len Try.underlying110 (run_ld hs1)) (hlen_any h) hv rfl
end

set_option maxHeartbeats 1600000 in
set_option maxRecDepth 100000 in
theorem down_any {R : Ending → World → Prop} {W w : World} {g : Hl} {H : List HP} {cb i0 n : Nat} {L : List Hd} (hn : n ≤ L.length) (hl : L.length ≤ 1000000000) (hi0 : i0 ≤ L.length) (hinv : HInv (kat Hd.ky L) i0 n i0) (hs : Sat W w g (cur cb L :: H))
    (hR : ∀ w' L' bb, L'.Perm L → Heap (kat Hd.ky L') i0 n → (∀ q, n ≤ q → L'[q]? = L[q]?) → Sat W w' g (cur cb L' :: H) → R (.returned (.bool bb)) w') : Calls Try.prog 77 #[ci cb, .int .i64 i0, .int .i64 n] w R := by
  have HR := Lib.hid hR
  clear hR
  refine C.calls (args := [ci cb, .int .i64 i0, .int .i64 n]) Try.func77 rfl rfl rfl ?_
  refine gob ?_
  refine C.cut (fun i : Nat => [(1, .int .i64 i0), (7, .int .i64 i)]) (fun i w => ∃ L' : List Hd, L'.Perm L ∧ Heap (kat Hd.ky L') i0 n ∧ (∀ q, n ≤ q → L'[q]? = L[q]?) ∧ Sat W w g (cur cb L' :: H)) ?_ ?_
  · refine C.block ?_
    refine C.lp (fun x : Nat × List Hd => [(0, ci cb), (1, .int .i64 i0), (2, .int .i64 n), (7, .int .i64 x.1)])
      (fun gk x w => gk = n - x.1 ∧ i0 ≤ x.1 ∧ x.1 ≤ L.length ∧ x.2.Perm L ∧ HInv (kat Hd.ky x.2) i0 n x.1 ∧ (∀ q, n ≤ q → x.2[q]? = L[q]?) ∧ Sat W w g (cur cb x.2 :: H)) (n - i0) (i0, L) ⟨rfl, Nat.le_refl _, hi0, List.Perm.refl _, hinv, fun _ _ => rfl, hs⟩ ?_
    clear hs
    rintro gk ⟨i, L1⟩ w1 ⟨hgk, hi, hiL, hp, hv, hq, hs⟩
    simp only at hgk hi hiL hp hv hq hs ⊢
    have hl1 : L1.length = L.length := hp.length_eq
    have ce : ∀ i, ((i : Nat) : Int) = (i : Int) := fun _ => rfl
    refine go ?_
    cases h1 : decide ((n : Int) ≤ 2 * (i : Int) + 1) with
    | true =>
      have h1 := of_decide_eq_true h1
      refine go ?_
      refine A.mt i ⟨L1, hp, heap_done hv (fun c hc h => by omega), hq, hs⟩
    | false =>
    have h1 := of_decide_eq_false h1
    refine go ?_
    rw [show decide (2 * (i : Int) + 1 < 0) = false from decide_eq_false (by omega)]
    refine go ?_
    cases h2 : decide (2 * (i : Int) + 1 + 1 < n) with
    | false =>
      have h2 := of_decide_eq_false h2
      have hmin : ∀ c, c < n → c = 2 * i + 1 ∨ c = 2 * i + 2 → kat Hd.ky L1 (2 * i + 1) ≤ kat Hd.ky L1 c := fun c hc h => by
        obtain rfl : c = 2 * i + 1 := by omega
        exact Nat.le_refl _
      refine go ?_
      refine E.hless (i := 2 * i + 1) (j := i) hs (by omega) (by omega) ?_
      intro w3 hs
      refine go ?_
      cases h4 : decide (kat Hd.ky L1 (2 * i + 1) < kat Hd.ky L1 i) with
      | false =>
        have h4 := of_decide_eq_false h4
        refine go ?_
        refine A.mt i ⟨L1, hp, heap_done hv (fun c hc h => ?_), hq, hs⟩
        have := hmin c hc h
        omega
      | true =>
      have h4 := of_decide_eq_true h4
      refine go ?_
      refine E.hswap (i := i) (j := 2 * i + 1) hs (by omega) (by omega) ?_
      intro w4 hs
      refine go ?_
      refine A.rd (n - (2 * i + 1)) (2 * i + 1, sw L1 i (2 * i + 1)) ⟨rfl, by simp only; omega, by simp only; omega, (sw_perm (by omega) (by omega)).trans hp, ?_, ?_, hs⟩ (hg := by omega)
      · exact heap_step hv hi (by omega) (by omega) h4 hmin (kat_sw Hd.ky (by omega) (by omega))
      · intro q hqn
        simp only
        rw [sw_get (by omega) (by omega), if_neg (by omega), if_neg (by omega)]
        exact hq q hqn
    | true =>
    have h2 := of_decide_eq_true h2
    refine go ?_
    refine E.hless (i := 2 * i + 2) (j := 2 * i + 1) hs (by omega) (by omega) ?_
    intro w2 hs
    refine go ?_
    cases h3 : decide (kat Hd.ky L1 (2 * i + 2) < kat Hd.ky L1 (2 * i + 1)) with
    | true =>
      have h3 := of_decide_eq_true h3
      have hmin : ∀ c, c < n → c = 2 * i + 1 ∨ c = 2 * i + 2 → kat Hd.ky L1 (2 * i + 2) ≤ kat Hd.ky L1 c := fun c hc h => by
        rcases h with rfl | rfl
        · omega
        · exact Nat.le_refl _
      refine go ?_
      refine E.hless (i := 2 * i + 2) (j := i) hs (by omega) (by omega) ?_
      intro w3 hs
      refine go ?_
      cases h4 : decide (kat Hd.ky L1 (2 * i + 2) < kat Hd.ky L1 i) with
      | false =>
        have h4 := of_decide_eq_false h4
        refine go ?_
        refine A.mt i ⟨L1, hp, heap_done hv (fun c hc h => ?_), hq, hs⟩
        have := hmin c hc h
        omega
      | true =>
      have h4 := of_decide_eq_true h4
      refine go ?_
      refine E.hswap (i := i) (j := 2 * i + 2) hs (by omega) (by omega) ?_
      intro w4 hs
      refine go ?_
      refine A.rd (n - (2 * i + 2)) (2 * i + 2, sw L1 i (2 * i + 2)) ⟨rfl, by simp only; omega, by simp only; omega, (sw_perm (by omega) (by omega)).trans hp, ?_, ?_, hs⟩ (hg := by omega)
      · exact heap_step hv hi (by omega) (by omega) h4 hmin (kat_sw Hd.ky (by omega) (by omega))
      · intro q hqn
        simp only
        rw [sw_get (by omega) (by omega), if_neg (by omega), if_neg (by omega)]
        exact hq q hqn
    | false =>
      have h3 := of_decide_eq_false h3
      have hmin : ∀ c, c < n → c = 2 * i + 1 ∨ c = 2 * i + 2 → kat Hd.ky L1 (2 * i + 1) ≤ kat Hd.ky L1 c := fun c hc h => by
        rcases h with rfl | rfl
        · exact Nat.le_refl _
        · omega
      refine go ?_
      refine E.hless (i := 2 * i + 1) (j := i) hs (by omega) (by omega) ?_
      intro w3 hs
      refine go ?_
      cases h4 : decide (kat Hd.ky L1 (2 * i + 1) < kat Hd.ky L1 i) with
      | false =>
        have h4 := of_decide_eq_false h4
        refine go ?_
        refine A.mt i ⟨L1, hp, heap_done hv (fun c hc h => ?_), hq, hs⟩
        have := hmin c hc h
        omega
      | true =>
      have h4 := of_decide_eq_true h4
      refine go ?_
      refine E.hswap (i := i) (j := 2 * i + 1) hs (by omega) (by omega) ?_
      intro w4 hs
      refine go ?_
      refine A.rd (n - (2 * i + 1)) (2 * i + 1, sw L1 i (2 * i + 1)) ⟨rfl, by simp only; omega, by simp only; omega, (sw_perm (by omega) (by omega)).trans hp, ?_, ?_, hs⟩ (hg := by omega)
      · exact heap_step hv hi (by omega) (by omega) h4 hmin (kat_sw Hd.ky (by omega) (by omega))
      · intro q hqn
        simp only
        rw [sw_get (by omega) (by omega), if_neg (by omega), if_neg (by omega)]
        exact hq q hqn
  · clear hs
    rintro i w5 ⟨L', hp, hh, hq, hs⟩
    refine go ?_
    refine A.r1 ?_
    exact HR.out _ L' _ hp hh hq hs
end Go.Proofs.Ytkolnecahlkndaa
