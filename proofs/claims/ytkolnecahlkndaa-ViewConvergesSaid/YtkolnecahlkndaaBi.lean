/-
  The stepping engine: bits of numbers without a sign, as natural numbers.
-/
import Derived.Test.YtkolnecahlkndaaEn
namespace Go.Proofs.Ytkolnecahlkndaa
open Go.RowKit
set_option linter.unusedVariables false
set_option linter.unusedSimpArgs false

/-- A kind without a sign. -/
def Uk (k : IntKind) : Prop := k.signed = false
theorem uk_wrap {k : IntKind} (h : Uk k) {a : Nat} (ha : a < 2 ^ k.bits) : k.wrap (a : Int) = a := by
  have h' : k.signed = false := h
  have e : ((a : Int) % (2 ^ k.bits : Nat)) = a := by
    rw [← Int.natCast_emod, Nat.mod_eq_of_lt ha]
  have e2 : ((2 : Int) ^ k.bits) = ((2 ^ k.bits : Nat) : Int) := by simp
  simp only [IntKind.wrap, h', e2, e]
  simp

theorem u8_mod (a : Nat) : IntKind.u8.wrap (a : Int) = ((a % 256 : Nat) : Int) := by simp [IntKind.wrap, IntKind.bits, IntKind.signed]
theorem u16_mod (a : Nat) : IntKind.u16.wrap (a : Int) = ((a % 65536 : Nat) : Int) := by simp [IntKind.wrap, IntKind.bits, IntKind.signed]
theorem u32_mod (a : Nat) : IntKind.u32.wrap (a : Int) = ((a % 4294967296 : Nat) : Int) := by simp [IntKind.wrap, IntKind.bits, IntKind.signed]
theorem u64_mod (a : Nat) : IntKind.u64.wrap (a : Int) = ((a % 18446744073709551616 : Nat) : Int) := by simp [IntKind.wrap, IntKind.bits, IntKind.signed]

section
variable {P : Program} {n : Fm} {ρ : List (Nat × Value)} {ty s s' : TypeId} {x y : Operand} {k : IntKind} {a b : Nat}

theorem run_xor (h : Uk k) (ha : a < 2 ^ k.bits) (hb : b < 2 ^ k.bits) (w : World) : (Go.binOp .xor s (.int k a) (.int k b)).run P w = .ok (.int k ((a ^^^ b : Nat) : Int)) w := by
  have e : k.wrap ((a ^^^ b : Nat) : Int) = ((a ^^^ b : Nat) : Int) := uk_wrap h (Nat.xor_lt_two_pow ha hb)
  simp [Go.binOp, Op.intBits, BitVec.toNat_xor, Nat.mod_eq_of_lt ha, Nat.mod_eq_of_lt hb, e]
theorem run_and (h : Uk k) (ha : a < 2 ^ k.bits) (hb : b < 2 ^ k.bits) (w : World) : (Go.binOp .and s (.int k a) (.int k b)).run P w = .ok (.int k ((a &&& b : Nat) : Int)) w := by
  have e : k.wrap ((a &&& b : Nat) : Int) = ((a &&& b : Nat) : Int) := uk_wrap h (Nat.lt_of_le_of_lt Nat.and_le_left ha)
  simp [Go.binOp, Op.intBits, BitVec.toNat_and, Nat.mod_eq_of_lt ha, Nat.mod_eq_of_lt hb, e]
theorem run_or (h : Uk k) (ha : a < 2 ^ k.bits) (hb : b < 2 ^ k.bits) (w : World) : (Go.binOp .or s (.int k a) (.int k b)).run P w = .ok (.int k ((a ||| b : Nat) : Int)) w := by
  have e : k.wrap ((a ||| b : Nat) : Int) = ((a ||| b : Nat) : Int) := uk_wrap h (Nat.or_lt_two_pow ha hb)
  simp [Go.binOp, Op.intBits, BitVec.toNat_or, Nat.mod_eq_of_lt ha, Nat.mod_eq_of_lt hb, e]
theorem run_shr {l : IntKind} (hb : b ≤ k.bits) (w : World) : (Go.binOp .shr s (.int k a) (.int l b)).run P w = .ok (.int k ((a / 2 ^ b : Nat) : Int)) w := by
  have h0 : ¬ ((b : Int) < 0) := by omega
  have e : Int.fdiv (a : Int) (2 ^ b) = ((a / 2 ^ b : Nat) : Int) := by
    have e2 : (2 : Int) ^ b = ((2 ^ b : Nat) : Int) := by simp
    rw [e2, Int.fdiv_eq_ediv_of_nonneg _ (Int.natCast_nonneg _), Int.natCast_ediv]
  simp [Go.binOp, Op.shift, h0, Nat.min_eq_left hb, e]
theorem run_shl {l : IntKind} (h : Uk k) (hb : b ≤ k.bits) (hab : a * 2 ^ b < 2 ^ k.bits) (w : World) : (Go.binOp .shl s (.int k a) (.int l b)).run P w = .ok (.int k ((a * 2 ^ b : Nat) : Int)) w := by
  have h0 : ¬ ((b : Int) < 0) := by omega
  have e := uk_wrap h hab
  have e2 : (a : Int) * 2 ^ b = ((a * 2 ^ b : Nat) : Int) := by simp
  simp only [Go.binOp, Op.shift, h0, if_false, Int.toNat_natCast, Nat.min_eq_left hb]
  rw [e2, e]
  rfl
variable {i j : Int}
theorem Pv.notn (hx : evo n ρ x = some (.int k i)) (h : Uk k) (hi : i = (a : Int)) (ha : a < 2 ^ k.bits) : Pv P n ρ (.unOp .xor s x) ty (.int k (((2 ^ k.bits - 1) ^^^ a : Nat) : Int)) := by
  subst hi
  refine Pv.unOp hx fun w => ?_
  have h' : k.signed = false := h
  have h1 : (1 : Nat) ≤ 2 ^ k.bits := Nat.one_le_two_pow
  have hm : k.max = ((2 ^ k.bits - 1 : Nat) : Int) := by
    rw [Int.natCast_sub h1]
    simp [IntKind.max, h']
  have hr := run_xor (P := P) (s := s) (a := 2 ^ k.bits - 1) (b := a) h (by omega) ha w
  simp only [Op.unary, h', hm]
  simpa [Go.binOp] using hr
theorem Pv.xor (hx : evo n ρ x = some (.int k i)) (hy : evo n ρ y = some (.int k j)) (h : Uk k) (hi : i = (a : Int)) (hj : j = (b : Int)) (ha : a < 2 ^ k.bits) (hb : b < 2 ^ k.bits) : Pv P n ρ (.binOp .xor s x y s') ty (.int k ((a ^^^ b : Nat) : Int)) := by
  subst hi hj; exact Pv.binOp hx hy (run_guard_int _ _ _ _ _ _) (run_xor h ha hb)
theorem Pv.and (hx : evo n ρ x = some (.int k i)) (hy : evo n ρ y = some (.int k j)) (h : Uk k) (hi : i = (a : Int)) (hj : j = (b : Int)) (ha : a < 2 ^ k.bits) (hb : b < 2 ^ k.bits) : Pv P n ρ (.binOp .and s x y s') ty (.int k ((a &&& b : Nat) : Int)) := by
  subst hi hj; exact Pv.binOp hx hy (run_guard_int _ _ _ _ _ _) (run_and h ha hb)
theorem Pv.or (hx : evo n ρ x = some (.int k i)) (hy : evo n ρ y = some (.int k j)) (h : Uk k) (hi : i = (a : Int)) (hj : j = (b : Int)) (ha : a < 2 ^ k.bits) (hb : b < 2 ^ k.bits) : Pv P n ρ (.binOp .or s x y s') ty (.int k ((a ||| b : Nat) : Int)) := by
  subst hi hj; exact Pv.binOp hx hy (run_guard_int _ _ _ _ _ _) (run_or h ha hb)
theorem Pv.shr {l : IntKind} (hx : evo n ρ x = some (.int k i)) (hy : evo n ρ y = some (.int l j)) (hi : i = (a : Int)) (hj : j = (b : Int)) (hb : b ≤ k.bits) : Pv P n ρ (.binOp .shr s x y s') ty (.int k ((a / 2 ^ b : Nat) : Int)) := by
  subst hi hj; exact Pv.binOp hx hy (run_guard_int _ _ _ _ _ _) (run_shr hb)
theorem Pv.shl {l : IntKind} (hx : evo n ρ x = some (.int k i)) (hy : evo n ρ y = some (.int l j)) (h : Uk k) (hi : i = (a : Int)) (hj : j = (b : Int)) (hb : b ≤ k.bits) (hab : a * 2 ^ b < 2 ^ k.bits) : Pv P n ρ (.binOp .shl s x y s') ty (.int k ((a * 2 ^ b : Nat) : Int)) := by
  subst hi hj; exact Pv.binOp hx hy (run_guard_int _ _ _ _ _ _) (run_shl h hb hab)
theorem uk_wrap_mod {k : IntKind} (h : Uk k) (a : Nat) : k.wrap (a : Int) = ((a % 2 ^ k.bits : Nat) : Int) := by
  have h' : k.signed = false := h
  have e2 : ((2 : Int) ^ k.bits) = ((2 ^ k.bits : Nat) : Int) := by simp
  simp only [IntKind.wrap, h', e2]
  rw [← Int.natCast_emod]
  simp
theorem Pv.shlw {l : IntKind} (hx : evo n ρ x = some (.int k i)) (hy : evo n ρ y = some (.int l j)) (h : Uk k) (hi : i = (a : Int)) (hj : j = (b : Int)) (hb : b ≤ k.bits) : Pv P n ρ (.binOp .shl s x y s') ty (.int k ((a * 2 ^ b % 2 ^ k.bits : Nat) : Int)) := by
  subst hi hj
  refine Pv.binOp hx hy (run_guard_int _ _ _ _ _ _) fun w => ?_
  have h0 : ¬ ((b : Int) < 0) := by omega
  have e2 : (a : Int) * 2 ^ b = ((a * 2 ^ b : Nat) : Int) := by simp
  simp only [Go.binOp, Op.shift, h0, if_false, Int.toNat_natCast, Nat.min_eq_left hb]
  rw [e2, uk_wrap_mod h]
  rfl
theorem Pv.quon (hx : evo n ρ x = some (.int k i)) (hy : evo n ρ y = some (.int k j)) (h : Uk k) (hi : i = (a : Int)) (hj : j = (b : Int)) (ha : a < 2 ^ k.bits) (hb : 0 < b) : Pv P n ρ (.binOp .quo s x y s') ty (.int k ((a / b : Nat) : Int)) := by
  subst hi hj
  refine Pv.arith hx hy fun w => ?_
  have h0 : ¬ ((b : Int) = 0) := by omega
  have e1 : Int.tdiv (a : Int) (b : Int) = ((a / b : Nat) : Int) := Int.ofNat_tdiv a b |>.symm
  have e2 := uk_wrap h (Nat.lt_of_le_of_lt (Nat.div_le_self a b) ha)
  simp only [Go.binOp, Op.intDiv, h0, if_false, e1, e2, ne_eq, not_true_eq_false, Sem.run_pure]
theorem Pv.remn (hx : evo n ρ x = some (.int k i)) (hy : evo n ρ y = some (.int k j)) (hi : i = (a : Int)) (hj : j = (b : Int)) (hb : 0 < b) : Pv P n ρ (.binOp .rem s x y s') ty (.int k ((a % b : Nat) : Int)) := by
  subst hi hj
  refine Pv.arith hx hy fun w => ?_
  have h0 : ¬ ((b : Int) = 0) := by omega
  have e1 : Int.tmod (a : Int) (b : Int) = ((a % b : Nat) : Int) := Int.ofNat_tmod a b |>.symm
  simp only [Go.binOp, Op.intDiv, h0, if_false, e1, ne_eq, not_true_eq_false, Sem.run_pure]
theorem Pv.muln (hx : evo n ρ x = some (.int k i)) (hy : evo n ρ y = some (.int k j)) (h : Uk k) (hi : i = (a : Int)) (hj : j = (b : Int)) (hab : a * b < 2 ^ k.bits) : Pv P n ρ (.binOp .mul s x y s') ty (.int k ((a * b : Nat) : Int)) := by
  subst hi hj
  have e := uk_wrap h hab
  exact Pv.arith hx hy fun w => by simp only [Go.binOp, Op.intArith]; rw [← Int.natCast_mul, e]; simp
theorem Pv.addn (hx : evo n ρ x = some (.int k i)) (hy : evo n ρ y = some (.int k j)) (h : Uk k) (hi : i = (a : Int)) (hj : j = (b : Int)) (hab : a + b < 2 ^ k.bits) : Pv P n ρ (.binOp .add s x y s') ty (.int k ((a + b : Nat) : Int)) := by
  subst hi hj
  have e := uk_wrap h hab
  exact Pv.arith hx hy fun w => by simp only [Go.binOp, Op.intArith]; rw [← Int.natCast_add, e]; simp
end

end Go.Proofs.Ytkolnecahlkndaa
