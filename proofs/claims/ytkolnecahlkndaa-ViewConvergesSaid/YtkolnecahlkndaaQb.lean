/-
  Layer 2 (digits): a number behind some bytes.
-/
import Derived.Test.YtkolnecahlkndaaProg
import Derived.Test.YtkolnecahlkndaaIx
namespace Go.Proofs.Ytkolnecahlkndaa
open Go.RowKit
set_option linter.unusedVariables false
set_option linter.unusedSimpArgs false

theorem el_u8 : ElemOf Try.prog 40 5 (.int .u8 0) 1 1 := .of Try.underlying40 (by kernel_rfl) rfl (by decide)

/-- A number in groups of seven bits. -/
def layN (n : Nat) : List UInt8 :=
  if n < 128 then [UInt8.ofNat n] else UInt8.ofNat ((n % 256) ||| 128) :: layN (n / 2 ^ 7)
termination_by n
decreasing_by omega

theorem layN_small {n : Nat} (h : n < 128) : layN n = [UInt8.ofNat n] := by rw [layN, if_pos h]
theorem layN_big {n : Nat} (h : ¬ n < 128) : layN n = UInt8.ofNat ((n % 256) ||| 128) :: layN (n / 2 ^ 7) := by rw [layN, if_neg h]
theorem layN_len : ∀ (k n : Nat), n < 128 ^ (k + 1) → (layN n).length ≤ k + 1
  | 0, n, h => by rw [layN_small (by simpa using h)]; simp
  | k + 1, n, h => by
    by_cases h1 : n < 128
    · rw [layN_small h1]; simp
    · rw [layN_big h1, List.length_cons]
      have := layN_len k (n / 2 ^ 7) (by
        rw [Nat.div_lt_iff_lt_mul (by decide)]
        rw [Nat.pow_succ] at h
        exact h)
      omega
theorem layN_ten {n : Nat} (h : n < 18446744073709551616) : (layN n).length ≤ 10 := layN_len 9 n (by omega)

structure LS where
  n : Nat
  k : Nat
  a : Option Addr
  c : Nat
  xs : List Value

set_option maxHeartbeats 1600000 in
set_option maxRecDepth 100000 in
theorem lay_any {R : Ending → World → Prop} {W w : World} {g : Hl} {H : List HP} {v : Value} {k n : Nat} {xs : List Value} (hs : Sat W w g (own 5 1 v k xs :: H)) (hn : n < 18446744073709551616) (hk : k ≤ 1000000000)
    (hR : ∀ a' c' w', Sat W w' g (own 5 1 (.slice a' (k + (layN n).length) c') (k + (layN n).length) (xs ++ bs (layN n)) :: H) → R (.returned (.slice a' (k + (layN n).length) c')) w') :
    Calls Try.prog 30 #[v, .int .u64 n] w R := by
  have HR := Lib.hid hR
  clear hR
  obtain ⟨a, c, rfl, hkc, hcm, _⟩ := hs.ownLen
  have hlen := layN_ten hn
  refine C.calls (args := [.slice a k c, .int .u64 n]) Try.func30 rfl rfl rfl ?_
  refine go ?_
  refine C.loop (fun x : LS => [(0, .slice x.a x.k x.c), (1, .int .u64 x.n)]) (fun gk x w => gk = x.n ∧ x.n < 18446744073709551616 ∧ x.k + (layN x.n).length = k + (layN n).length ∧ x.xs ++ bs (layN x.n) = xs ++ bs (layN n) ∧ Sat W w g (own 5 1 (.slice x.a x.k x.c) x.k x.xs :: H)) n ⟨n, k, a, c, xs⟩ wk_ ⟨rfl, hn, rfl, rfl, hs⟩ ?_
  clear hs
  rintro n1 ⟨n1, k1, a1, c1, xs1⟩ w1 ⟨rfl, hn1, hk1, hx1, hs⟩
  simp only at hn1 hk1 hx1 hs ⊢
  refine go ?_
  refine C.cond_dec (p := (128 : Int) ≤ n1) rfl (fun hlt => ?_) (fun hlt => ?_)
  · refine go ?_
    refine E.bsl hs ?_
    intro b2 w2 hs
    apply E.cons
    apply St.append el_u8 hs.swap (hs.rowOf (size := 1) 1 rfl (by decide)) (by intro u hu; simp only [List.mem_singleton] at hu; subst hu; rfl) (by omega) (by omega)
    · exact rfl
    · exact rfl
    intro a2 c2 w3 _ _ hs
    refine go ?_
    have hb := layN_big (n := n1) (by omega)
    have ho : (n1 % 256) ||| 128 < 256 := Nat.or_lt_two_pow (n := 8) (by omega) (by omega)
    refine A.round (n1 / 2 ^ 7) ⟨n1 / 2 ^ 7, k1 + 1, a2, c2, xs1 ++ [.int .u8 ((n1 % 256) ||| 128 : Nat)]⟩ (by omega) wk_ ⟨rfl, by simp only; omega, ?_, ?_, hs.swap.drop⟩
    · simp only
      rw [← hk1, hb, List.length_cons]; omega
    · simp only
      rw [← hx1, hb]
      simp [bs, Nat.mod_eq_of_lt ho]
  · refine go ?_
    refine E.bsl hs ?_
    intro b2 w2 hs
    apply E.cons
    apply St.append el_u8 hs.swap (hs.rowOf (size := 1) 1 rfl (by decide)) (by intro u hu; simp only [List.mem_singleton] at hu; subst hu; rfl) (by omega) (by omega)
    · exact rfl
    · exact rfl
    intro a2 c2 w3 _ _ hs
    refine go ?_
    have hb := layN_small (n := n1) (by omega)
    rw [hb] at hk1 hx1
    refine A.r1 ?_
    have e1 : k1 + 1 = k + (layN n).length := by simpa using hk1
    have e2 : xs1 ++ [.int .u8 (n1 : Int)] = xs ++ bs (layN n) := by
      rw [← hx1]
      have : n1 % 256 = n1 := by omega
      simp [bs, this]
    have hs := hs.swap.drop
    rw [e1, e2] at hs
    rw [e1]
    exact HR.out _ _ _ hs

end Go.Proofs.Ytkolnecahlkndaa
