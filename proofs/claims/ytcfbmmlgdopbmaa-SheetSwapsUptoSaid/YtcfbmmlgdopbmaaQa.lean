/-
  Layer 3 (check): the sum of some bytes.
-/
import Derived.Test.YtcfbmmlgdopbmaaProg
import Derived.Test.YtcfbmmlgdopbmaaIx
import Derived.Test.YtcfbmmlgdopbmaaIx
namespace Go.Proofs.Ytcfbmmlgdopbmaa
open Go.RowKit
set_option linter.unusedVariables false
set_option linter.unusedSimpArgs false

def crcBit (s : Nat) : Nat := (s / 2 ^ 1) ^^^ (2197175160 * (s &&& 1))
def crcN : Nat → Nat → Nat
  | 0, s => s
  | k + 1, s => crcN k (crcBit s)
def crcByte (s : Nat) (b : UInt8) : Nat := crcN 8 (s ^^^ b.toNat)
def crc (l : List UInt8) : Nat := (2 ^ 32 - 1) ^^^ l.foldl crcByte 4294967295

theorem crcBit_lt {s : Nat} (h : s < 4294967296) : crcBit s < 4294967296 := by
  unfold crcBit
  have h1 : s / 2 ^ 1 < 2 ^ 32 := by omega
  have h2 : 2197175160 * (s &&& 1) < 2 ^ 32 := by rw [Nat.and_one_is_mod]; omega
  exact Nat.xor_lt_two_pow h1 h2
theorem crcN_lt : ∀ (k : Nat) {s : Nat}, s < 4294967296 → crcN k s < 4294967296
  | 0, _, h => h
  | k + 1, _, h => crcN_lt k (crcBit_lt h)
theorem crcByte_lt {s : Nat} (h : s < 4294967296) (b : UInt8) : crcByte s b < 4294967296 := by
  have hb := b.toNat_lt
  exact crcN_lt 8 (Nat.xor_lt_two_pow (n := 32) h (by omega))
theorem crcFold_lt : ∀ (l : List UInt8) {s : Nat}, s < 4294967296 → l.foldl crcByte s < 4294967296
  | [], _, h => h
  | b :: r, _, h => crcFold_lt r (crcByte_lt h b)
theorem crc_lt (l : List UInt8) : crc l < 4294967296 := Nat.xor_lt_two_pow (n := 32) (by decide) (crcFold_lt l (by decide))

set_option maxHeartbeats 1600000 in
set_option maxRecDepth 100000 in
theorem sum_any {R : Ending → World → Prop} {D : Nat → Prop} {w : World} {a : Option Addr} {n c : Nat} {l : List UInt8} (h : Row 1 w D (.slice a n c) n (bs l)) (hl : l.length = n)
    (hR : R (.returned (.int .u32 (crc l : Nat))) w) : Calls Try.prog 51 #[.slice a n c] w R := by
  have HR := Lib.hid hR
  clear hR
  obtain ⟨_, _, e, hnc, hcm⟩ := h.len
  simp only [Value.slice.injEq] at e
  obtain ⟨rfl, -, rfl⟩ := e
  unfold maxLen at hcm
  refine C.calls (args := [.slice a n c]) Try.func51 rfl rfl rfl ?_
  refine go ?_
  refine C.loop (fun x : Nat × Nat => [(3, .int .u32 x.2), (7, .slice a n c), (8, .int .i64 n), (9, .int .i64 x.1)]) (fun gk x w' => w' = w ∧ gk = n - x.1 ∧ x.1 ≤ n ∧ x.2 < 4294967296 ∧ (l.drop x.1).foldl crcByte x.2 = l.foldl crcByte 4294967295) n (0, 4294967295) wk_ ⟨rfl, rfl, by omega, by simp only; omega, rfl⟩ ?_
  rintro gk ⟨i, s⟩ w' ⟨rfl, rfl, hi, hs, hf⟩
  simp only at hi hs hf ⊢
  refine go ?_
  refine C.cond_dec (p := (i : Int) < n) rfl (fun hlt => ?_) (fun hlt => ?_)
  · have hin : i < l.length := by omega
    obtain ⟨b, o, rfl, hc⟩ : ∃ b o, a = some ⟨b, o, none⟩ ∧ w'.cell? ⟨b, o + i, none⟩ = some (.int .u8 (l[i].toNat : Int)) := by
      obtain ⟨_, a', c', e, _, _, _, h0 | ⟨b, o, cur, t, fz, e2, _⟩⟩ := id h
      · omega
      · simp only [Value.slice.injEq] at e
        obtain ⟨rfl, _, rfl⟩ := e
        subst e2
        exact ⟨b, o, rfl, (h.cellAt rfl (bs_get hin)).2⟩
    have hb := l[i].toNat_lt
    refine gob ?_
    refine C.block ?_
    refine gob ?_
    have hs2 : s ^^^ l[i].toNat < 4294967296 := Nat.xor_lt_two_pow (n := 32) hs (by omega)
    refine C.cutQ (fun s' : Nat => [(3, .int .u32 s'), (7, .slice (some ⟨b, o, none⟩) n c), (8, .int .i64 n), (9, .int .i64 i)]) (fun s' w => w = w' ∧ s' = crcByte s l[i]) ?_ ?_
    · refine C.block ?_
      refine C.loop (fun x : Nat × Nat => [(3, .int .u32 x.2), (7, .slice (some ⟨b, o, none⟩) n c), (8, .int .i64 n), (9, .int .i64 i), (17, .int .i64 x.1)]) (fun gk x w => w = w' ∧ gk = 8 - x.1 ∧ x.1 ≤ 8 ∧ x.2 < 4294967296 ∧ crcN (8 - x.1) x.2 = crcByte s l[i]) 8 (0, s ^^^ l[i].toNat) wk_ ⟨rfl, rfl, by omega, hs2, rfl⟩ ?_
      rintro gk ⟨k, s1⟩ w2 ⟨rfl, rfl, hk, hs1, hf1⟩
      simp only at hk hs1 hf1 ⊢
      refine go ?_
      refine C.cond_dec (p := (k : Int) < 8) rfl (fun hlt => ?_) (fun hlt => ?_)
      · refine go ?_
        exact A.round (8 - (k + 1)) (k + 1, crcBit s1) (by omega) wk_ ⟨rfl, rfl, by simp only; omega, crcBit_lt hs1, by
          rw [← hf1]
          simp only
          rw [show 8 - k = (8 - (k + 1)) + 1 by omega]
          rfl⟩
      · refine go ?_
        refine A.meet s1 wk_ ⟨rfl, ?_⟩
        rw [← hf1, show 8 - k = 0 by omega]
        rfl
    rintro s' w' ⟨rfl, rfl⟩
    refine go ?_
    exact A.round (n - (i + 1)) (i + 1, crcByte s l[i]) (by omega) wk_ ⟨rfl, rfl, by simp only; omega, crcByte_lt hs _, by
      rw [← hf]
      simp only
      rw [List.drop_eq_getElem_cons hin, List.foldl_cons]⟩
  · refine go ?_
    have e : i = n := by omega
    refine A.r1 ?_
    have : crc l = (2 ^ 32 - 1) ^^^ s := by
      unfold crc
      rw [← hf, e, ← hl, List.drop_length]
      rfl
    rw [this] at HR
    exact HR.out

end Go.Proofs.Ytcfbmmlgdopbmaa
