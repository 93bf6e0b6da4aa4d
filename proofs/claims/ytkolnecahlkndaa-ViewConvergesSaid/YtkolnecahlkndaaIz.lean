/-
  s[l:h] of a row of structs in a drawn region; a rest within a region that is walked once.
-/
import Derived.Test.YtkolnecahlkndaaIw
namespace Go.Proofs.Ytkolnecahlkndaa
open Go.RowKit
set_option linter.unusedVariables false
set_option linter.unusedSimpArgs false
section
variable {P : Program} {n : Fm} {ρ : List (Nat × Value)} {W w w' : World} {g g' : Hl} {H H' : List HP} {Q : Exit → Act → World → Prop} {l : List Oper} {S : World → Prop} {fuel m : Nat} {d : Option Tmp} {ty : TypeId} {ps : String} {af : Array Edge} {gd : Option (Nat × Bool)} {v u : Value} {x y : Operand} {o : Op} {F : List (Nat × List Value × TypeId)} {i b k s : Nat} {rs : List Nat} {t e : TypeId} {z : Value} {bytes : Nat} {a : Option Addr} {len c : Nat} {lo hi mx : Option Operand} {vl vh vm : Option Value}
/-- s[l:h] of a row of the pool's, in a drawn region: the first operation that may come up. -/
theorem EH.slq {xs : List Value} (he : ElemOf P t e z s bytes) (hp : Pr s g (.slice a len c) len xs) (q h : Nat) (hS : S w) (kk : ∀ a' c', Pr s g (.slice a' (h - q) c') (h - q) ((xs.drop (q * s)).take ((h - q) * s)) → EH P n l S fuel (bset m i) (pushv d (.slice a' (h - q) c') ρ) w Q)
    (hr : rdy m l.length 0 l = i :: rs := by exact rfl) (hnth : nth l i = some ⟨d, .slice t x lo hi none, ty, ps, af, gd⟩ := by exact rfl) (hg : want n l ρ gd = some true := by exact rfl)
    (hx : evo n ρ x = some (.slice a len c) := by exact rfl) (h1 : evm n ρ lo = some vl := by exact rfl) (h2 : evm n ρ hi = some vh := by exact rfl) (hlo : Lo vl q := by first | exact .inl ⟨rfl, rfl⟩ | exact .inr ⟨_, _, rfl, by omega⟩) (hhi : Hi vh len h := by first | exact .inl ⟨rfl, rfl⟩ | exact .inr ⟨_, _, rfl, by omega⟩) (hl : q ≤ h := by omega) (hh : h ≤ len := by omega)
    (hsel : Region.noSelect l.toArray = true := by kernel_rfl) (hf : Region.free .any l.toArray (bits m l.length) i = true := by decide +kernel)
    (hQ : ∀ v c a w, Q (.panic c) (a.put d v) w → Q (.panic c) a w := by exact fun _ _ _ _ h => h) : EH P n l S (fuel + 1) m ρ w Q := by
  obtain ⟨a', c', h3, h4⟩ := run_slice_pr (P := P) he hp hlo hhi hl hh
  exact EH.take i (by rw [hr]; simp) hnth hsel hf hQ hS (yif (oi := ⟨d, .slice t x lo hi none, ty, ps, af, gd⟩) hg (Pf.pv (Pv.slice hx h1 h2 rfl h3))) (kk _ _ h4)
/-- s[l:h] of a row of the pool's, in a drawn region: the second operation that may come up. -/
theorem EH.slq1 {xs : List Value} (he : ElemOf P t e z s bytes) (hp : Pr s g (.slice a len c) len xs) (q h : Nat) (hS : S w) (kk : ∀ a' c', Pr s g (.slice a' (h - q) c') (h - q) ((xs.drop (q * s)).take ((h - q) * s)) → EH P n l S fuel (bset m i) (pushv d (.slice a' (h - q) c') ρ) w Q)
    {i1 : Nat} (hr : rdy m l.length 0 l = i1 :: i :: rs := by exact rfl) (hnth : nth l i = some ⟨d, .slice t x lo hi none, ty, ps, af, gd⟩ := by exact rfl) (hg : want n l ρ gd = some true := by exact rfl)
    (hx : evo n ρ x = some (.slice a len c) := by exact rfl) (h1 : evm n ρ lo = some vl := by exact rfl) (h2 : evm n ρ hi = some vh := by exact rfl) (hlo : Lo vl q := by first | exact .inl ⟨rfl, rfl⟩ | exact .inr ⟨_, _, rfl, by omega⟩) (hhi : Hi vh len h := by first | exact .inl ⟨rfl, rfl⟩ | exact .inr ⟨_, _, rfl, by omega⟩) (hl : q ≤ h := by omega) (hh : h ≤ len := by omega)
    (hsel : Region.noSelect l.toArray = true := by kernel_rfl) (hf : Region.free .any l.toArray (bits m l.length) i = true := by decide +kernel)
    (hQ : ∀ v c a w, Q (.panic c) (a.put d v) w → Q (.panic c) a w := by exact fun _ _ _ _ h => h) : EH P n l S (fuel + 1) m ρ w Q := by
  obtain ⟨a', c', h3, h4⟩ := run_slice_pr (P := P) he hp hlo hhi hl hh
  exact EH.take i (by rw [hr]; simp) hnth hsel hf hQ hS (yif (oi := ⟨d, .slice t x lo hi none, ty, ps, af, gd⟩) hg (Pf.pv (Pv.slice hx h1 h2 rfl h3))) (kk _ _ h4)
end
section
variable {P : Program} {n : Fm} {ρ : List (Nat × Value)} {W w w' : World} {g g' : Hl} {H H' : List HP} {N : List (Nat × Value) → World → Prop} {Q : Exit → Act → World → Prop} {ops : Array Oper} {rest : List Oper} {d : Option Tmp} {ty : TypeId} {ps : String} {af : Array Edge} {v u : Value} {x y : Operand} {e t : TypeId}
/-- []byte(s): the bytes are the pool's. -/
theorem St.bytes {l : List UInt8} {dt : TypeId} (h1 : P.underlying t = some .string) (h2 : P.underlying dt = some (.slice e)) (h3 : P.underlying e = some (.int .u8)) (hs : Sat W w g H) (hl : l.length ≤ 1000000000)
    (h : ∀ b c w' g', Hl.le g g' → Sat W w' g' H → Pr 1 g' (.slice (some ⟨b, 0, none⟩) l.length c) l.length (bs l) → N (pushv d (.slice (some ⟨b, 0, none⟩) l.length c) ρ) w') (hx : evo n ρ x = some (.string ⟨l.toArray⟩) := by exact rfl) :
    St P n ops ⟨d, .convert t dt x, ty, ps, af, none⟩ ρ w N Q := by
  have hr := Go.Lib.run_convert_string_bytes w t dt e ⟨l.toArray⟩ h1 h2 h3
  have hsz : (⟨l.toArray⟩ : ByteArray).size = l.length := by simp [ByteArray.size]
  rw [hsz] at hr
  have hn : Sat W (Go.Lib.bytesWorld w e ⟨l.toArray⟩) g (obj w.heap.size (.cells (Go.Lib.bytesCells w e ⟨l.toArray⟩) e ((Go.Lib.bytesCells w e ⟨l.toArray⟩).size, (Go.Lib.bytesCells w e ⟨l.toArray⟩).size + 1)) :: H) := by
    refine hs.new (Nat.le_refl _) ?_ ?_ ?_ (fun k hk => Go.Lib.bytesWorld_at_old w e _ k hk) (Go.Lib.bytesWorld_at_new w e _)
    · simp [Go.Lib.bytesWorld, World.freeze, World.alloc, World.drew, -World.alloc_eq, -World.drew_eq]
    · simp [Go.Lib.bytesWorld, World.freeze, World.alloc, World.drew, -World.alloc_eq, -World.drew_eq]
    · simp [Go.Lib.bytesWorld, World.freeze, World.alloc, World.drew, -World.alloc_eq, -World.drew_eq]
  obtain ⟨h1, e1, e2, e3, hs2⟩ := hn.publish
  have e1' : h1 = Hl.one w.heap.size (.cells (Go.Lib.bytesCells w e ⟨l.toArray⟩) e ((Go.Lib.bytesCells w e ⟨l.toArray⟩).size, (Go.Lib.bytesCells w e ⟨l.toArray⟩).size + 1)) := e1
  have hcap : l.length ≤ grownCap w l.length 0 e ∧ grownCap w l.length 0 e ≤ 9223372036854775807 := by
    unfold grownCap
    simp only [Question.cut]
    have h0 : 0 < 2 ^ 63 - l.length := by omega
    generalize w.tape w.drawn (Question.appendCap l.length 0 e) = T
    have h1 := Nat.mod_lt T h0
    generalize T % (2 ^ 63 - l.length) = T' at h1 ⊢
    constructor <;> omega
  refine (St.val (v := .slice (some ⟨w.heap.size, 0, none⟩) l.length (grownCap w l.length 0 e)) (w' := Go.Lib.bytesWorld w e ⟨l.toArray⟩) (fun a ha => by simp [execOp, ha.eval hx, hr]) (h _ _ _ _ e2 hs2 ?_))
  refine ⟨by simp, some ⟨w.heap.size, 0, none⟩, grownCap w l.length 0 e, rfl, hcap.1, by unfold maxLen; omega, fun q => by simp at q, Or.inr ⟨w.heap.size, 0, _, _, _, rfl, e3 _ _ (show h1 w.heap.size = some _ from by rw [e1']; simp only [Hl.one, if_true]; rfl), ?_⟩⟩
  simp only [Go.Lib.bytesCells, List.drop_zero, Nat.mul_one, Array.toList_append, Array.toList_map, List.map_toArray]
  rw [List.take_append_of_le_length (by simp), List.take_of_length_le (by simp)]
  simp [bs]

/-- len(m). -/
theorem E.lenm {κ : Type} [DecidableEq κ] {enc : κ → Value} {b : Nat} {l : List (κ × Value)} {xs : Array Operand} {kt et : TypeId} (ht : P.underlying t = some (.map kt et)) (hs : Sat W w g H) (hf : Has (mp enc b l) H) (h : E P n ops rest (pushv d (.int .i64 l.length) ρ) w Q) (hx : evs n ρ xs.toList = some [.map (some b)] := by exact rfl) :
    E P n ops (⟨d, .call ⟨.builtin .len, xs, #[t]⟩, ty, ps, af, none⟩ :: rest) ρ w Q := by
  obtain ⟨H', hs'⟩ := hf.front hs
  obtain ⟨es, clock, he, ho⟩ := mp_open hs'
  have hb := ho.heap
  have hl : es.size = l.length := by
    have := congrArg List.length he.1
    simpa using this
  have hr : (Builtin.len_ #[t] ty #[.map (some b)]).run P w = .ok (.int .i64 l.length) w := by
    simp [Builtin.len_, run_underlying ht, run_getObj_map w b es clock hb, goInt, hl]
  exact E.cons (St.val (fun a ha => by simp [execOp, resolve, ha.args hx, invoke, builtin, hr]) h)
end
theorem E.forget {P : Program} {n : Fm} {ρ ρ' : List (Nat × Value)} {w : World} {Q : Exit → Act → World → Prop} {ops : Array Oper} {rest : List Oper} (hw : Weak ρ ρ') (h : E P n ops rest ρ' w Q) : E P n ops rest ρ w Q := by
  unfold E at *
  exact fun a ha => h a (ha.weak hw)
/-- The same as 'later' within a region. -/
theorem laterE {α : Type} {P : Program} {n : Fm} {ops : Array Oper} {rest : List Oper} {Q : Exit → Act → World → Prop} {f : α → List (Nat × Value)} {M : α → World → Prop} {G : Prop} (main : (∀ x w, M x w → E P n ops rest (f x) w Q) → G) (key : ∀ x w, M x w → E P n ops rest (f x) w Q) : G := main key
theorem EH.forget {P : Program} {n : Fm} {l : List Oper} {S : World → Prop} {fuel m : Nat} {ρ ρ' : List (Nat × Value)} {w : World} {Q : Exit → Act → World → Prop} (hw : Weak ρ ρ') (h : EH P n l S fuel m ρ' w Q) : EH P n l S fuel m ρ w Q := by
  unfold EH at *
  exact fun a ha => h a (ha.weak hw)
/-- The same as 'later' within a drawn region. -/
theorem laterH {α : Type} {P : Program} {n : Fm} {l : List Oper} {S : World → Prop} {fuel m : Nat} {Q : Exit → Act → World → Prop} {f : α → List (Nat × Value)} {M : α → World → Prop} {G : Prop} (main : (∀ x w, M x w → EH P n l S fuel m (f x) w Q) → G) (key : ∀ x w, M x w → EH P n l S fuel m (f x) w Q) : G := main key
end Go.Proofs.Ytkolnecahlkndaa
