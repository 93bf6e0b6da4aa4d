/-
  s[l:h] of a row of structs in a drawn region; a rest within a region that is walked once.
-/
import Derived.Test.YtkolnecahlkndaaIw
namespace Go.Proofs.Ytkolnecahlkndaa
open Go.RowKit
set_option linter.unusedVariables false
section
variable {P : Program} {n : Fm} {ρ : List (Nat × Value)} {W w w' : World} {g g' : Hl} {H H' : List HP} {Q : Exit → Act → World → Prop} {l : List Oper} {S : World → Prop} {fuel m : Nat} {d : Option Tmp} {ty : TypeId} {ps : String} {af : Array Edge} {gd : Option (Nat × Bool)} {v u : Value} {x y : Operand} {o : Op} {F : List (Nat × List Value × TypeId)} {i b k s : Nat} {rs : List Nat} {t e : TypeId} {z : Value} {bytes : Nat} {a : Option Addr} {len c : Nat} {lo hi mx : Option Operand} {vl vh vm : Option Value}
/-- s[l:h] of a row of the pool's, in a drawn region: the first operation that may come up. -/
theorem EH.slq {xs : List Value} (he : ElemOf P t e z s bytes) (hp : Pr s g (.slice a len c) len xs) (q h : Nat) (hS : S w) (kk : ∀ a' c', Pr s g (.slice a' (h - q) c') (h - q) ((xs.drop (q * s)).take ((h - q) * s)) → EH P n l S fuel (bset m i) (pushv d (.slice a' (h - q) c') ρ) w Q)
    (hr : rdy m l.length 0 l = i :: rs := by exact rfl) (hnth : nth l i = some ⟨d, .slice t x lo hi none, ty, ps, af, gd⟩ := by exact rfl) (hg : want n l ρ gd = some true := by exact rfl)
    (hx : evo n ρ x = some (.slice a len c) := by exact rfl) (h1 : evm n ρ lo = some vl := by exact rfl) (h2 : evm n ρ hi = some vh := by exact rfl) (hlo : Lo vl q := by first | exact .inl ⟨rfl, rfl⟩ | exact .inr ⟨_, _, rfl, by omega⟩) (hhi : Hi vh len h := by first | exact .inl ⟨rfl, rfl⟩ | exact .inr ⟨_, _, rfl, by omega⟩) (hl : q ≤ h := by omega) (hh : h ≤ len := by omega)
    (hsel : Region.noSelect l.toArray = true := by kernel_rfl) (hf : Region.free .any l.toArray (bits m l.length) i = true := by decide +kernel)
    (hQ : ∀ v c a w, Q (.panic c) (a.put d v) w → Q (.panic c) a w := by exact fun _ _ _ _ h => h) : EH P n l S (fuel + 1) m ρ w Q := by
  obtain ⟨a', c', h3, h4⟩ := run_slice_pr (P := P) he hp hlo hhi hl hh
  exact EH.take i (by rw [hr]; simp) hnth hsel hf hQ hS (yif (oi := ⟨d, .slice t x lo hi none, ty, ps, af, gd⟩) hg (Pf.pv (Pv.slice hx h1 h2 rfl h3))) (kk _ _ h4)
/-- s[l:h] of a row of the pool's, in a drawn region: the second operation that may come up. -/
theorem EH.slq1 {xs : List Value} (he : ElemOf P t e z s bytes) (hp : Pr s g (.slice a len c) len xs) (q h : Nat) (hS : S w) (kk : ∀ a' c', Pr s g (.slice a' (h - q) c') (h - q) ((xs.drop (q * s)).take ((h - q) * s)) → EH P n l S fuel (bset m i) (pushv d (.slice a' (h - q) c') ρ) w Q)
    {i1 : Nat} (hr : rdy m l.length 0 l = i1 :: i :: rs := by exact rfl) (hnth : nth l i = some ⟨d, .slice t x lo hi none, ty, ps, af, gd⟩ := by exact rfl) (hg : want n l ρ gd = some true := by exact rfl)
    (hx : evo n ρ x = some (.slice a len c) := by exact rfl) (h1 : evm n ρ lo = some vl := by exact rfl) (h2 : evm n ρ hi = some vh := by exact rfl) (hlo : Lo vl q := by first | exact .inl ⟨rfl, rfl⟩ | exact .inr ⟨_, _, rfl, by omega⟩) (hhi : Hi vh len h := by first | exact .inl ⟨rfl, rfl⟩ | exact .inr ⟨_, _, rfl, by omega⟩) (hl : q ≤ h := by omega) (hh : h ≤ len := by omega)
    (hsel : Region.noSelect l.toArray = true := by kernel_rfl) (hf : Region.free .any l.toArray (bits m l.length) i = true := by decide +kernel)
    (hQ : ∀ v c a w, Q (.panic c) (a.put d v) w → Q (.panic c) a w := by exact fun _ _ _ _ h => h) : EH P n l S (fuel + 1) m ρ w Q := by
  obtain ⟨a', c', h3, h4⟩ := run_slice_pr (P := P) he hp hlo hhi hl hh
  exact EH.take i (by rw [hr]; simp) hnth hsel hf hQ hS (yif (oi := ⟨d, .slice t x lo hi none, ty, ps, af, gd⟩) hg (Pf.pv (Pv.slice hx h1 h2 rfl h3))) (kk _ _ h4)
end
theorem E.forget {P : Program} {n : Fm} {ρ ρ' : List (Nat × Value)} {w : World} {Q : Exit → Act → World → Prop} {ops : Array Oper} {rest : List Oper} (hw : Weak ρ ρ') (h : E P n ops rest ρ' w Q) : E P n ops rest ρ w Q := by
  unfold E at *
  exact fun a ha => h a (ha.weak hw)
/-- The same as 'later' within a region. -/
theorem laterE {α : Type} {P : Program} {n : Fm} {ops : Array Oper} {rest : List Oper} {Q : Exit → Act → World → Prop} {f : α → List (Nat × Value)} {M : α → World → Prop} {G : Prop} (main : (∀ x w, M x w → E P n ops rest (f x) w Q) → G) (key : ∀ x w, M x w → E P n ops rest (f x) w Q) : G := main key
end Go.Proofs.Ytkolnecahlkndaa
