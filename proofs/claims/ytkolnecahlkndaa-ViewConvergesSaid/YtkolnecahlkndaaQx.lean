/-
  Layer 2 (digits): a text behind some bytes.
-/
import Derived.Test.YtkolnecahlkndaaQb
namespace Go.Proofs.Ytkolnecahlkndaa
open Go.RowKit
set_option linter.unusedVariables false
set_option linter.unusedSimpArgs false

theorem one_bs (l : List UInt8) : ∀ u ∈ bs l, u.oneCell' = true := bs_one l

/-- A text: how many bytes, and they. -/
def textB (t : List UInt8) : List UInt8 := layN t.length ++ t
theorem textB_len (t : List UInt8) (h : t.length < 18446744073709551616) : (textB t).length ≤ t.length + 10 := by
  have := layN_ten h
  unfold textB
  rw [List.length_append]
  omega

set_option maxHeartbeats 1600000 in
set_option maxRecDepth 100000 in
theorem layText_any {R : Ending → World → Prop} {W w : World} {g : Hl} {H : List HP} {v u : Value} {k m : Nat} {xs : List Value} {t : List UInt8} (hs : Sat W w g (own 5 1 v k xs :: H)) (hp : Pr 1 g u m (bs t)) (ht : t.length = m) (hm : m ≤ 1000000000) (hk : k ≤ 1000000000)
    (hR : ∀ a' c' w', Sat W w' g (own 5 1 (.slice a' (k + (textB t).length) c') (k + (textB t).length) (xs ++ bs (textB t)) :: H) → R (.returned (.slice a' (k + (textB t).length) c')) w') :
    Calls Try.prog 34 #[v, u] w R := by
  have HR := Lib.hid hR
  clear hR
  obtain ⟨a, c, rfl, hkc, hcm, _⟩ := hs.ownLen
  obtain ⟨a1, c1, rfl, _, _⟩ := hp.len
  have hl := layN_ten (n := m) (by omega)
  refine C.calls (args := [.slice a k c, .slice a1 m c1]) Try.func34 rfl rfl rfl ?_
  refine go ?_
  refine E.callf Try.func30 rfl ?_
  refine lay_any hs (by omega) hk ?_
  intro a2 c2 w2 hs
  refine go ?_
  apply E.cons
  apply St.append el_u8 hs (hp.row hs) (one_bs t) (by omega) (by omega)
  · exact rfl
  · exact rfl
  intro a3 c3 w3 _ _ hs
  refine go ?_
  refine A.r1 ?_
  have e1 : k + (layN m).length + m = k + (textB t).length := by simp [textB, ht]; omega
  have e2 : xs ++ bs (layN m) ++ bs t = xs ++ bs (textB t) := by simp [textB, ht, bs_append]
  rw [e1, e2] at hs
  rw [e1]
  exact HR.out _ _ _ hs

end Go.Proofs.Ytkolnecahlkndaa
