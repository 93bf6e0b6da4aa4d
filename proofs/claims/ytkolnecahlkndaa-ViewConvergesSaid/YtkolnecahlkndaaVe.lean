/-
  Layer 7 (vector): as bytes.
-/
import Derived.Test.YtkolnecahlkndaaVd
import Derived.Test.YtkolnecahlkndaaQb
namespace Go.Proofs.Ytkolnecahlkndaa
open Go.RowKit
set_option linter.unusedVariables false
set_option linter.unusedSimpArgs false

/-- A vector as bytes: how many, and they. -/
def vecB (v : List Nat) : List UInt8 := layN (vtrim v).length ++ (vtrim v).flatMap layN
theorem flat_ten : ∀ (l : List Nat), (∀ x ∈ l, x < 18446744073709551616) → (l.flatMap layN).length ≤ 10 * l.length
  | [], _ => by simp
  | x :: r, h => by
    have h1 := flat_ten r fun y hy => h y (List.mem_cons_of_mem _ hy)
    have h2 := layN_ten (h x (List.mem_cons_self ..))
    simp only [List.flatMap_cons, List.length_append, List.length_cons]
    omega
theorem vecB_len (v : List Nat) (h : v.length ≤ 64) (hlt : ∀ x ∈ v, x < 18446744073709551616) : (vecB v).length ≤ 700 := by
  have htl := vtrim_len v
  have h1 := flat_ten (vtrim v) fun x hx => hlt x (List.mem_of_mem_take hx)
  have h2 := layN_ten (n := (vtrim v).length) (by omega)
  simp only [vecB, List.length_append]
  omega

set_option maxHeartbeats 1600000 in
set_option maxRecDepth 100000 in
theorem vlay_any {R : Ending → World → Prop} {W w : World} {g : Hl} {H : List HP} {a : Option Addr} {n c k : Nat} {v : List Nat} {u : Value} {xs : List Value} (hs : Sat W w g (own 5 1 u k xs :: H)) (hp : Pr 1 g (.slice a n c) n (us v)) (hv : v.length = n) (hn : n ≤ 64) (hlt : ∀ x ∈ v, x < 18446744073709551616) (hk : k ≤ 100000000)
    (hR : ∀ a' c' w' g', Hl.le g g' → Sat W w' g' (own 5 1 (.slice a' (k + (vecB v).length) c') (k + (vecB v).length) (xs ++ bs (vecB v)) :: H) → R (.returned (.slice a' (k + (vecB v).length) c')) w') :
    Calls Try.prog 29 #[.slice a n c, u] w R := by
  simp only [vecB] at hR
  have HR := Lib.hid hR
  clear hR
  obtain ⟨a1, c1, rfl, hkc, hcm, _⟩ := hs.ownLen
  refine C.calls (args := [.slice a n c, .slice a1 k c1]) Try.func29 rfl rfl rfl ?_
  refine go ?_
  refine E.callf Try.func53 rfl ?_
  refine vtrim_any hs hp hv (by omega) ?_
  intro a2 c2 w2 g2 hg2 hp2 hs
  have htl := vtrim_len v
  have htlt : ∀ x ∈ vtrim v, x < 18446744073709551616 := fun x hx => hlt x (List.mem_of_mem_take hx)
  generalize vtrim v = t at hp2 hs HR htl htlt
  have hl1 := layN_ten (n := t.length) (by omega)
  refine go ?_
  refine E.callf Try.func30 rfl ?_
  refine lay_any hs (by omega) (by omega) ?_
  intro a3 c3 w3 hs
  refine gob ?_
  refine C.cut (fun x : Option Addr × Nat => [(1, .slice x.1 (k + (layN t.length ++ t.flatMap layN).length) x.2)])
    (fun x w => Sat W w g2 (own 5 1 (.slice x.1 (k + (layN t.length ++ t.flatMap layN).length) x.2) (k + (layN t.length ++ t.flatMap layN).length) (xs ++ bs (layN t.length ++ t.flatMap layN)) :: H)) ?_ ?_
  · refine C.block ?_
    refine C.lp (fun x : Nat × Option Addr × Nat => [(1, .slice x.2.1 (k + (layN t.length ++ (t.take x.1).flatMap layN).length) x.2.2), (14, .slice a2 t.length c2), (15, .int .i64 t.length), (16, .int .i64 x.1)])
      (fun gk x w => gk = t.length - x.1 ∧ x.1 ≤ t.length ∧ Sat W w g2 (own 5 1 (.slice x.2.1 (k + (layN t.length ++ (t.take x.1).flatMap layN).length) x.2.2) (k + (layN t.length ++ (t.take x.1).flatMap layN).length) (xs ++ bs (layN t.length ++ (t.take x.1).flatMap layN)) :: H)) t.length (0, a3, c3) ⟨rfl, Nat.zero_le _, ?_⟩ ?_ (hw := ?_)
    · simpa using hs
    · clear hs
      rintro gk ⟨i, a4, c4⟩ w4 ⟨hgk, hi, hs⟩
      simp only at hgk hi hs ⊢
      have hft := flat_ten (t.take i) fun x hx => htlt x (List.mem_of_mem_take hx)
      have hBl : (layN t.length ++ (t.take i).flatMap layN).length ≤ 700 := by
        rw [List.length_append]
        rw [List.length_take] at hft
        omega
      have hsucc : ∀ h : i < t.length, layN t.length ++ (t.take (i + 1)).flatMap layN = (layN t.length ++ (t.take i).flatMap layN) ++ layN t[i] := fun h => by
        rw [List.take_succ_eq_append_getElem h, List.flatMap_append, List.append_assoc]
        simp
      generalize hB : layN t.length ++ (t.take i).flatMap layN = B at hs hBl hsucc ⊢
      replace hB := Lib.hid hB
      refine go ?_
      refine C.cond_dec (p := (i : Int) < t.length) rfl (fun h => ?_) (fun h => ?_)
      · have hil : i < t.length := by omega
        have hsucc := Lib.hid (hsucc hil)
        refine go ?_
        refine E.ix el_vec hs hp2 i (us_get hil) ?_
        intro b5 o5 hc5
        refine go ?_
        refine E.callf Try.func30 rfl ?_
        refine lay_any hs (htlt _ (List.getElem_mem hil)) (by omega) ?_
        intro a6 c6 w6 hs
        refine go ?_
        have e1 : k + (B ++ layN t[i]).length = k + B.length + (layN t[i]).length := by rw [List.length_append]; omega
        refine A.rd (t.length - (i + 1)) (i + 1, a6, c6) ⟨rfl, by omega, ?_⟩ (hw := ?_)
        · simp only [hsucc.out, e1, bs_append]
          rw [← List.append_assoc]
          exact hs
        · simp only [hsucc.out, e1]
          exact wk_
      · obtain rfl : i = t.length := by omega
        have hB := hB.out
        rw [List.take_length] at hB
        subst hB
        refine go ?_
        exact A.mt (a4, c4) hs
    · simp only [List.take_zero, List.flatMap_nil, List.append_nil]
      exact wk_
  clear hs
  rintro ⟨a7, c7⟩ w7 hs
  simp only at hs ⊢
  refine go ?_
  refine A.r1 ?_
  exact HR.out a7 c7 w7 g2 hg2 hs
end Go.Proofs.Ytkolnecahlkndaa
