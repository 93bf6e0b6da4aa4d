/-
  Layer 11 (fold): the mark; a list of members as bytes.
-/
import Derived.Test.YtkolnecahlkndaaFb
import Derived.Test.YtkolnecahlkndaaVe
namespace Go.Proofs.Ytkolnecahlkndaa
open Go.RowKit
set_option linter.unusedVariables false
set_option linter.unusedSimpArgs false

set_option maxHeartbeats 1600000 in
set_option maxRecDepth 100000 in
theorem foldMark_any {R : Ending → World → Prop} {W w : World} {g : Hl} {H : List HP} {b : Nat} {f : Fo} (hs : Sat W w g (fold b f :: H))
    (hR : R (.returned (.int .u64 f.mark)) w) : Calls Try.prog 28 #[ptr b] w R := by
  have HR := Lib.hid hR
  clear hR
  obtain ⟨i, hi, hs⟩ := fold_open hs
  have h1 := hi.ok.mem
  have h2 := hi.ok.ret
  simp only [foB] at hs
  refine C.calls (args := [.pointer (some ⟨b, 0, none⟩)]) Try.func28 rfl rfl rfl ?_
  refine go ?_
  refine E.ld hs ?_ (hj := foC_132 h1 h2)
  refine go ?_
  refine A.r1 ?_
  exact HR.out

/-- Which of the first are there, as a number's bits. -/
def maskN (l : List Bool) : Nat → Nat
  | 0 => 0
  | i + 1 => if l.getD i false = true then maskN l i ||| 2 ^ i else maskN l i
theorem maskN_lt (l : List Bool) : ∀ i, maskN l i < 2 ^ i
  | 0 => by simp [maskN]
  | i + 1 => by
    have := maskN_lt l i
    have h2 : 2 ^ i < 2 ^ (i + 1) := Nat.pow_lt_pow_right (by decide) (by omega)
    simp only [maskN]
    split
    · exact Nat.or_lt_two_pow (by omega) h2
    · omega

set_option maxHeartbeats 1600000 in
set_option maxRecDepth 100000 in
theorem list_any {R : Ending → World → Prop} {W w : World} {g : Hl} {H : List HP} {b o k : Nat} {l : List Bool} {cs xs : List Value} {u : Value} (hc : ∀ i, i < 64 → cs[o + i]? = some (.bool (l.getD i false))) (hk : k ≤ 100000000) (hs : Sat W w g (own 5 1 u k xs :: blk b cs 69 :: H))
    (hR : ∀ a' c' w', Sat W w' g (own 5 1 (.slice a' (k + 8) c') (k + 8) (xs ++ bs (fixB (maskN l 64))) :: blk b cs 69 :: H) → R (.returned (.slice a' (k + 8) c')) w') :
    Calls Try.prog 32 #[u, .pointer (some ⟨b, o, none⟩)] w R := by
  have HR := Lib.hid hR
  clear hR
  obtain ⟨a, c, rfl, hkc, hcm, _⟩ := hs.ownLen
  refine C.calls (args := [.slice a k c, .pointer (some ⟨b, o, none⟩)]) Try.func32 rfl rfl rfl ?_
  refine gob ?_
  refine C.cut (fun _ : Unit => [(0, .slice a k c), (5, .int .u64 (maskN l 64))]) (fun _ w => Sat W w g (own 5 1 (.slice a k c) k xs :: blk b cs 69 :: H)) ?_ ?_
  · refine C.block ?_
    refine C.lp (fun i : Nat => [(0, .slice a k c), (5, .int .u64 (maskN l i)), (8, .pointer (some ⟨b, o, none⟩)), (9, .int .i64 i)]) (fun gk i w => gk = 64 - i ∧ i ≤ 64 ∧ Sat W w g (own 5 1 (.slice a k c) k xs :: blk b cs 69 :: H)) 64 0 ⟨rfl, Nat.zero_le _, hs⟩ ?_
    clear hs
    rintro gk i w2 ⟨rfl, hi, hs⟩
    refine go ?_
    refine C.cond_dec (p := (i : Int) < 64) rfl (fun h => ?_) (fun h => ?_)
    · have hi64 : i < 64 := by omega
      have hci := hc i hi64
      refine go ?_
      refine C.held1 b hs ?_
      intro w3 hk hs
      have rd : Rd (Keeps g [(b, cs, 69)]) b (o + i) (.bool (l.getD i false)) := Rd.blk .here hci
      refine goh ?_
      refine EH.done ?_
      refine go ?_
      have hm := maskN_lt l i
      have hp2 : 2 ^ i < 18446744073709551616 := by
        have h1 : 2 ^ i < 2 ^ 64 := Nat.pow_lt_pow_right (by decide) hi64
        exact h1
      have hm2 : maskN l i < 18446744073709551616 := by omega
      cases hb : l.getD i false with
      | true =>
        refine go ?_
        rw [Nat.one_mul]
        refine A.rd (64 - (i + 1)) (i + 1) ⟨rfl, by omega, hs⟩ (hw := ?_)
        simp only [maskN, hb, if_true]
        exact wk_
      | false =>
        refine go ?_
        refine A.rd (64 - (i + 1)) (i + 1) ⟨rfl, by omega, hs⟩ (hw := ?_)
        simp only [maskN, hb, Bool.false_eq_true, if_false]
        exact wk_
    · obtain rfl : i = 64 := by omega
      refine go ?_
      exact A.mt () hs
  clear hs
  rintro _ w4 hs
  have hm := maskN_lt l 64
  refine go ?_
  refine E.callf Try.func31 rfl ?_
  refine fixed_any hs hm (by omega) ?_
  intro a5 c5 w5 hs
  refine go ?_
  refine A.r1 ?_
  exact HR.out a5 c5 w5 hs
end Go.Proofs.Ytkolnecahlkndaa
