/-
  Layers 2 and 3: a text behind some bytes; a record.
-/
import Derived.Test.YtcfbmmlgdopbmaaQb
namespace Go.Proofs.Ytcfbmmlgdopbmaa
open Go.RowKit
set_option linter.unusedVariables false
set_option linter.unusedSimpArgs false

theorem one_bs (l : List UInt8) : ∀ u ∈ bs l, u.oneCell' = true := bs_one l

/-- A text: how many bytes, and they. -/
def textB (t : List UInt8) : List UInt8 := layN t.length ++ t
def fourB (n : Nat) : List UInt8 := [UInt8.ofNat (n / 2 ^ 24), UInt8.ofNat (n / 2 ^ 16), UInt8.ofNat (n / 2 ^ 8), UInt8.ofNat n]
def wrapB (t : List UInt8) : List UInt8 := textB t ++ fourB (crc (textB t))

theorem textB_len (t : List UInt8) (h : t.length < 18446744073709551616) : (textB t).length ≤ t.length + 10 := by
  have := layN_ten h
  unfold textB
  rw [List.length_append]
  omega
theorem wrapB_len (t : List UInt8) (h : t.length < 18446744073709551616) : (wrapB t).length ≤ t.length + 14 := by
  have := textB_len t h
  unfold wrapB
  rw [List.length_append]
  simp only [fourB, List.length_cons, List.length_nil]
  omega

set_option maxHeartbeats 1600000 in
set_option maxRecDepth 100000 in
theorem layText_any {R : Ending → World → Prop} {W w : World} {g : Hl} {H : List HP} {v u : Value} {k m : Nat} {xs : List Value} {t : List UInt8} (hs : Sat W w g (own 5 1 v k xs :: H)) (hp : Pr 1 g u m (bs t)) (ht : t.length = m) (hm : m ≤ 1000000000) (hk : k ≤ 1000000000)
    (hR : ∀ a' c' w', Sat W w' g (own 5 1 (.slice a' (k + (textB t).length) c') (k + (textB t).length) (xs ++ bs (textB t)) :: H) → R (.returned (.slice a' (k + (textB t).length) c')) w') :
    Calls Try.prog 49 #[v, u] w R := by
  have HR := Lib.hid hR
  clear hR
  obtain ⟨a, c, rfl, hkc, hcm, _⟩ := hs.ownLen
  obtain ⟨a1, c1, rfl, _, _⟩ := hp.len
  have hl := layN_ten (n := m) (by omega)
  refine C.calls (args := [.slice a k c, .slice a1 m c1]) Try.func49 rfl rfl rfl ?_
  refine go ?_
  refine E.callf Try.func48 rfl ?_
  refine lay_any hs (by omega) hk ?_
  intro a2 c2 w2 hs
  refine go ?_
  apply E.cons
  apply St.append el_u8 hs (hp.row hs) (one_bs t) (by omega) (by omega)
  · exact rfl
  · exact rfl
  intro a3 c3 w3 _ _ hs
  refine go ?_
  refine A.r1 ?_
  have e1 : k + (layN m).length + m = k + (textB t).length := by simp [textB, ht]; omega
  have e2 : xs ++ bs (layN m) ++ bs t = xs ++ bs (textB t) := by simp [textB, ht, bs_append]
  rw [e1, e2] at hs
  rw [e1]
  exact HR.out _ _ _ hs

set_option maxHeartbeats 1600000 in
set_option maxRecDepth 100000 in
theorem four_any {R : Ending → World → Prop} {W w : World} {g : Hl} {H : List HP} {n : Nat} (hs : Sat W w g H) (hn : n < 4294967296)
    (hR : ∀ b w', Sat W w' g (own 5 1 (.slice (some ⟨b, 0, none⟩) 4 4) 4 (bs (fourB n)) :: H) → R (.returned (.slice (some ⟨b, 0, none⟩) 4 4)) w') :
    Calls Try.prog 50 #[.int .u32 n] w R := by
  have HR := Lib.hid hR
  clear hR
  refine C.calls (args := [.int .u32 n]) Try.func50 rfl rfl rfl ?_
  refine go ?_
  refine E.bsl hs ?_
  intro b2 w2 hs
  refine go ?_
  refine A.r1 ?_
  refine HR.out _ _ ?_
  have := hs.blkOwn (size := 1) 4 rfl (by decide)
  have e : [Value.int .u8 ((n : Int) / 16777216), .int .u8 ((n : Int) / 65536 % 256), .int .u8 ((n : Int) / 256 % 256), .int .u8 ((n : Int) % 256)] = bs (fourB n) := by
    have h1 : n / 16777216 % 256 = n / 16777216 := by omega
    simp [fourB, bs, h1]
  rw [← e]
  exact this

set_option maxHeartbeats 1600000 in
set_option maxRecDepth 100000 in
theorem wrap_any {R : Ending → World → Prop} {W w : World} {g : Hl} {H : List HP} {u : Value} {m : Nat} {t : List UInt8} (hs : Sat W w g H) (hp : Pr 1 g u m (bs t)) (ht : t.length = m) (hm : m ≤ 1000000000)
    (hR : ∀ a' c' w', Sat W w' g (own 5 1 (.slice a' (wrapB t).length c') (wrapB t).length (bs (wrapB t)) :: H) → R (.returned (.slice a' (wrapB t).length c')) w') :
    Calls Try.prog 28 #[u] w R := by
  have HR := Lib.hid hR
  clear hR
  obtain ⟨a1, c1, rfl, _, _⟩ := hp.len
  have hl := textB_len t (by omega)
  refine C.calls (args := [.slice a1 m c1]) Try.func28 rfl rfl rfl ?_
  refine go ?_
  refine E.callf Try.func49 rfl ?_
  refine layText_any (hs.nilOwn (E := 5) (size := 1)) hp ht hm (by omega) ?_
  intro a2 c2 w2 hs
  rw [List.nil_append] at hs
  rw [Nat.zero_add] at hs ⊢
  refine go ?_
  refine E.callf Try.func51 rfl ?_
  refine sum_any (Row.of_owns (D := fun _ => True) hs.owns (fun _ _ => trivial)) rfl ?_
  refine go ?_
  refine E.callf Try.func50 rfl ?_
  refine four_any hs (crc_lt _) ?_
  intro b3 w3 hs
  refine go ?_
  apply E.cons
  apply St.append el_u8 hs.swap (Row.of_owns (D := fun _ => True) hs.owns (fun _ _ => trivial)) (one_bs _) (by omega) (by omega)
  · exact rfl
  · exact rfl
  intro a4 c4 w4 _ _ hs
  refine go ?_
  refine A.r1 ?_
  have e1 : (textB t).length + 4 = (wrapB t).length := by simp [wrapB, fourB]
  have e2 : bs (textB t) ++ bs (fourB (crc (textB t))) = bs (wrapB t) := by simp [wrapB, bs_append]
  have hs := hs.swap.drop
  rw [e1, e2] at hs
  rw [e1]
  exact HR.out _ _ _ hs

end Go.Proofs.Ytcfbmmlgdopbmaa
