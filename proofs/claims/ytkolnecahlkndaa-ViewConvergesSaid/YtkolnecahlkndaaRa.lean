/-
  The references of layers 2 and 3: a number, a text, a sum, a record: they are the program's.
-/
import Derived.Test.YtkolnecahlkndaaQx
import Derived.Test.YtkolnecahlkndaaBs
namespace Go.Proofs.Ytkolnecahlkndaa
open Go.RowKit
set_option linter.unusedVariables false
set_option linter.unusedSimpArgs false

theorem or128_add (n : Nat) : (n % 256) ||| 128 = 128 + n % 128 := by
  have : ∀ m : Fin 256, (m.val ||| 128) = 128 + m.val % 128 := by decide +kernel
  have h := this ⟨n % 256, Nat.mod_lt _ (by decide)⟩
  simp only at h
  rw [h]
  omega

set_option maxHeartbeats 1600000 in
set_option maxRecDepth 100000 in
theorem rlay_any {R : Ending → World → Prop} {W w : World} {g : Hl} {H : List HP} {D : Nat → Prop} {a : Option Addr} {m c n : Nat} {xs : List UInt8} (hs : Sat W w g H) (hrow : ∀ w', Sat W w' g H → Row 1 w' D (.slice a m c) m (bs xs)) (hx : xs.length = m) (hm : m ≤ 1000000000) (hn : n < 18446744073709551616)
    (hR : ∀ a' c' w', Sat W w' g (own 5 1 (.slice a' (xs ++ layN n).length c') (xs ++ layN n).length (bs (xs ++ layN n)) :: H) → R (.returned (.slice a' (xs ++ layN n).length c')) w') :
    Calls Try.prog 68 #[.slice a m c, .int .u64 n] w R := by
  have HR := Lib.hid hR
  clear hR
  have hten := layN_ten hn
  refine C.calls (args := [.slice a m c, .int .u64 n]) Try.func68 rfl rfl rfl ?_
  refine go ?_
  refine E.app el_u8 hs.nilOwn (hrow w hs) ?_
  intro a1 c1 w1 _ _ hs
  refine gob ?_
  refine C.block ?_
  refine C.lp (fun x : Nat × List UInt8 × Option Addr × Nat => [(1, .int .u64 x.1), (5, .slice x.2.2.1 x.2.1.length x.2.2.2)])
    (fun gk x w => gk = x.1 ∧ x.1 < 18446744073709551616 ∧ x.2.1 ++ layN x.1 = xs ++ layN n ∧ Sat W w g (own 5 1 (.slice x.2.2.1 x.2.1.length x.2.2.2) x.2.1.length (bs x.2.1) :: H)) n (n, xs, a1, c1)
    ⟨rfl, hn, rfl, by rw [hx]; simpa using hs⟩ ?_ (hw := by simp only [hx, Nat.zero_add]; exact wk_)
  clear hs
  rintro gk ⟨q, ys, a2, c2⟩ w2 ⟨hgk, hq, hys, hs⟩
  simp only at hgk hq hys hs ⊢
  have hlen : ys.length + (layN q).length = xs.length + (layN n).length := by
    have := congrArg List.length hys
    simpa using this
  refine go ?_
  refine C.cond_dec (p := (127 : Int) < q) rfl (fun hlt => ?_) (fun hlt => ?_)
  · have e : layN q = UInt8.ofNat (128 + q % 128) :: layN (q / 128) := by
      rw [layN_big (by omega), or128_add]
    rw [e] at hys hlen
    simp only [List.length_cons] at hlen
    refine go ?_
    refine E.bsl hs ?_
    intro b3 w3 hs
    refine E.app el_u8 hs.swap (hs.rowOf (size := 1) 1 rfl (by decide)) ?_
    intro a4 c4 w4 _ _ hs
    refine go ?_
    refine A.rd (q / 128) (q / 128, ys ++ [UInt8.ofNat (128 + q % 128)], a4, c4) ⟨rfl, by simp only; omega, by simpa using hys, ?_⟩ (hw := ?_)
    · have h8 : (UInt8.ofNat (128 + q % 128)).toNat = 128 + q % 128 := by simp; omega
      have e2 : bs (ys ++ [UInt8.ofNat (128 + q % 128)]) = bs ys ++ [.int .u8 ((128 + q % 128 : Nat) : Int)] := by rw [bs_append]; simp only [bs, List.map_cons, List.map_nil, h8]
      simp only [e2, List.length_append, List.length_cons, List.length_nil]
      exact hs.swap.drop
    · simp only [List.length_append, List.length_cons, List.length_nil]
      exact wk_
  · have e : layN q = [UInt8.ofNat q] := layN_small (by omega)
    rw [e] at hys hlen
    simp only [List.length_cons, List.length_nil] at hlen
    refine go ?_
    refine E.bsl hs ?_
    intro b3 w3 hs
    refine E.app el_u8 hs.swap (hs.rowOf (size := 1) 1 rfl (by decide)) ?_
    intro a4 c4 w4 _ _ hs
    refine go ?_
    refine A.r1 ?_
    rw [← hys] at HR
    have key := HR.out a4 c4 w4
    have h8 : (UInt8.ofNat q).toNat = q := by simp; omega
    have e2 : bs (ys ++ [UInt8.ofNat q]) = bs ys ++ [.int .u8 (q : Int)] := by rw [bs_append]; simp only [bs, List.map_cons, List.map_nil, h8]
    simp only [e2, List.length_append, List.length_cons, List.length_nil, Nat.zero_add] at key
    exact key hs.swap.drop
end Go.Proofs.Ytkolnecahlkndaa
