/-
  The references of layers 1 and 2: a quantity's bits; a text, a number in eight bytes, behind some bytes.
-/
import Derived.Test.YtkolnecahlkndaaRa
import Derived.Test.YtkolnecahlkndaaVc
namespace Go.Proofs.Ytkolnecahlkndaa
open Go.RowKit
set_option linter.unusedVariables false
set_option linter.unusedSimpArgs false

theorem own_row {W w : World} {g : Hl} {H : List HP} {E : TypeId} {size n : Nat} {v : Value} {xs : List Value} (hs : Sat W w g (own E size v n xs :: H)) : Row size w (fun _ => True) v n xs := Row.of_owns hs.owns fun _ _ => trivial

set_option maxHeartbeats 1600000 in
set_option maxRecDepth 100000 in
theorem void_any {R : Ending → World → Prop} {w : World} {b : Nat} (hR : R (.returned (.bool (nanF b))) w) : Calls Try.prog 79 #[.float .f64 b] w R := by
  have HR := Lib.hid hR
  clear hR
  refine C.calls (args := [.float .f64 b]) Try.func79 rfl rfl rfl ?_
  refine go ?_
  refine A.r1 ?_
  exact HR.out

set_option maxHeartbeats 1600000 in
set_option maxRecDepth 100000 in
theorem rbits_any {R : Ending → World → Prop} {w : World} {b : Nat} (hR : R (.returned (.int .u64 (bitsF b))) w) : Calls Try.prog 71 #[.float .f64 b] w R := by
  have HR := Lib.hid hR
  clear hR
  refine C.calls (args := [.float .f64 b]) Try.func71 rfl rfl rfl ?_
  refine go ?_
  refine E.callf Try.func79 rfl ?_
  refine void_any ?_
  refine go ?_
  cases hn : nanF b with
  | true =>
    refine go ?_
    refine A.r1 ?_
    simpa [bitsF, hn] using HR.out
  | false =>
    refine go ?_
    refine E.ext (v := .int .u64 b) (w' := w) Try.func57 (ex := Extern.MathFloatBits.float64bits) rfl ?_
    refine go ?_
    refine A.r1 ?_
    simpa [bitsF, hn] using HR.out

set_option maxHeartbeats 1600000 in
set_option maxRecDepth 100000 in
theorem rtextV_any {R : Ending → World → Prop} {W w : World} {g : Hl} {H : List HP} {a : Option Addr} {u : Value} {m c k : Nat} {xs t : List UInt8} (hs : Sat W w g (own 5 1 (.slice a m c) m (bs xs) :: H)) (hx : xs.length = m) (hm : m ≤ 500000000) (hp : Pr 1 g u k (bs t)) (ht : t.length = k) (hk : k ≤ 400000000)
    (hR : ∀ a' c' w', Sat W w' g (own 5 1 (.slice a' (xs ++ textB t).length c') (xs ++ textB t).length (bs (xs ++ textB t)) :: H) → R (.returned (.slice a' (xs ++ textB t).length c')) w') :
    Calls Try.prog 69 #[.slice a m c, u] w R := by
  have HR := Lib.hid hR
  clear hR
  obtain ⟨a1, c1, rfl, _, _⟩ := hp.len
  have hten := layN_ten (n := k) (by omega)
  refine C.calls (args := [.slice a m c, .slice a1 k c1]) Try.func69 rfl rfl rfl ?_
  refine go ?_
  refine E.callf Try.func68 rfl ?_
  refine rlay_any hs (fun w' h => own_row h) hx (by omega) (by omega) ?_
  intro a2 c2 w2 hs
  have hl2 : (xs ++ layN k).length = m + (layN k).length := by simp [hx]
  refine go ?_
  refine E.app el_u8 hs (hp.row hs) ?_
  intro a3 c3 w3 _ _ hs
  refine go ?_
  refine A.r1 ?_
  have e1 : (xs ++ layN k).length + k = (xs ++ textB t).length := by simp [textB, ht]; omega
  have e2 : bs (xs ++ layN k) ++ bs t = bs (xs ++ textB t) := by rw [← bs_append]; simp [textB, ht]
  rw [e1, e2] at hs
  rw [e1]
  exact HR.out _ _ _ hs.swap.drop

set_option maxHeartbeats 1600000 in
set_option maxRecDepth 100000 in
theorem rfixed_any {R : Ending → World → Prop} {W w : World} {g : Hl} {H : List HP} {a : Option Addr} {m c n : Nat} {xs : List UInt8} (hs : Sat W w g (own 5 1 (.slice a m c) m (bs xs) :: H)) (hx : xs.length = m) (hm : m ≤ 1000000000) (hn : n < 18446744073709551616)
    (hR : ∀ a' c' w', Sat W w' g (own 5 1 (.slice a' (xs ++ fixB n).length c') (xs ++ fixB n).length (bs (xs ++ fixB n)) :: H) → R (.returned (.slice a' (xs ++ fixB n).length c')) w') :
    Calls Try.prog 70 #[.slice a m c, .int .u64 n] w R := by
  have HR := Lib.hid hR
  clear hR
  refine C.calls (args := [.slice a m c, .int .u64 n]) Try.func70 rfl rfl rfl ?_
  refine go ?_
  refine E.app el_u8 hs.nilOwn (own_row hs) ?_
  intro a1 c1 w1 _ _ hs
  simp only [Nat.zero_add, List.nil_append] at hs ⊢
  refine gob ?_
  refine C.block ?_
  refine C.lp (fun x : Nat × Nat × Option Addr × Nat × List UInt8 => [(1, .int .u64 n), (5, .slice x.2.2.1 x.2.1 x.2.2.2.1), (6, .int .i64 x.1)])
    (fun gk x w => gk = 8 - x.1 ∧ x.1 ≤ 8 ∧ x.2.1 = m + x.1 ∧ x.2.2.2.2.length = x.2.1 ∧ x.2.2.2.2 ++ fixG (8 - x.1) n = xs ++ fixB n ∧ Sat W w g (own 5 1 (.slice x.2.2.1 x.2.1 x.2.2.2.1) x.2.1 (bs x.2.2.2.2) :: H)) 8 (0, m, a1, c1, xs) ⟨rfl, by omega, rfl, hx, rfl, hs.swap.drop⟩ ?_
  clear hs
  rintro gk ⟨i, k1, a2, c2, ys⟩ w2 ⟨hgk, hi, hk1, hyl, hy, hs⟩
  simp only at hgk hi hk1 hyl hy hs ⊢
  refine go ?_
  refine C.cond_dec (p := (i : Int) < 8) rfl (fun h => ?_) (fun h => ?_)
  · have ej : (56 : Int) - 8 * (i : Int) = ((8 * (7 - i) : Nat) : Int) := by omega
    have e8 : fixG (8 - i) n = UInt8.ofNat (n / 2 ^ (8 * (7 - i))) :: fixG (8 - (i + 1)) n := by
      rw [show 8 - i = (7 - i) + 1 by omega]
      simp only [fixG]
      rw [show 7 - i = 8 - (i + 1) by omega]
    refine go ?_
    rw [ej]
    refine go ?_
    refine E.bsl hs ?_
    intro b2 w2 hs
    refine E.app el_u8 hs.swap (hs.rowOf (size := 1) 1 rfl (by decide)) ?_
    intro a3 c3 w3 _ _ hs
    refine go ?_
    refine A.rd (8 - (i + 1)) (i + 1, k1 + 1, a3, c3, ys ++ [UInt8.ofNat (n / 2 ^ (8 * (7 - i)))]) ⟨rfl, by omega, by simp only; omega, by simp [hyl], ?_, ?_⟩
    · simp only
      rw [← hy, e8]
      simp
    · simp only [bs_append]
      have e9 : bs [UInt8.ofNat (n / 2 ^ (8 * (7 - i)))] = [.int .u8 ((n / 2 ^ (8 * (7 - i)) % 256 : Nat))] := by simp [bs]
      rw [e9]
      exact hs.swap.drop
  · refine go ?_
    refine A.r1 ?_
    obtain rfl : i = 8 := by omega
    simp only [Nat.sub_self, fixG, List.append_nil] at hy
    subst hy
    rw [← hyl] at hs ⊢
    exact HR.out _ _ _ hs
end Go.Proofs.Ytkolnecahlkndaa
