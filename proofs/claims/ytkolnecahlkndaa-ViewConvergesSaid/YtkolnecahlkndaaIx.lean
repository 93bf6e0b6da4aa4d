/-
  The stepping engine: parts of rows, and their elements, in short words. An address that nobody asks for is not told.
-/
import Derived.Test.YtkolnecahlkndaaEh
import Derived.Deep.MidRow
import Derived.Laws.OwnMore
namespace Go.Proofs.Ytkolnecahlkndaa
open Go.RowKit
set_option linter.unusedVariables false
set_option linter.unusedSimpArgs false
set_option linter.unusedSectionVars false

theorem bs_drop (l : List UInt8) (k : Nat) : bs (l.drop k) = (bs l).drop k := by simp [bs, List.map_drop]
theorem bs_take (l : List UInt8) (k : Nat) : bs (l.take k) = (bs l).take k := by simp [bs, List.map_take]

/-- The cells of a row from one element on, so many elements. -/
theorem pr_part {g : Hl} {s : Nat} {a : Option Addr} {n c : Nat} {xs : List Value} (h : Pr s g (.slice a n c) n xs) {l k : Nat} (hk : l + k ≤ n) {c' : Nat} {a' : Option Addr} (hc' : k ≤ c') (hc2 : c' ≤ 9223372036854775807) (ha : (a' = a ∧ (l = 0 ∨ c = l)) ∨ a' = a.map (·.add (l * s))) (h0 : a = none → c' = 0) :
    Pr s g (.slice a' k c') k ((xs.drop (l * s)).take (k * s)) := by
  obtain ⟨h1, a0, c0, e, hn, hc, hN, h⟩ := h
  simp only [Value.slice.injEq] at e
  obtain ⟨rfl, _, rfl⟩ := e
  have hls : (l + k) * s ≤ n * s := Nat.mul_le_mul_right _ hk
  rw [Nat.add_mul] at hls
  refine ⟨by rw [List.length_take, List.length_drop, h1]; omega, a', c', rfl, hc', by unfold maxLen; omega, fun e => ?_, ?_⟩
  · have : a = none := by
      rcases ha with ⟨rfl, _⟩ | rfl
      · exact e
      · simpa using e
    have := h0 this
    omega
  · rcases h with rfl | ⟨b, o, cur, t, fz, rfl, hg, ht⟩
    · exact .inl (by omega)
    · by_cases hk0 : k = 0
      · exact .inl hk0
      · refine .inr ⟨b, o + l * s, cur, t, fz, ?_, hg, ?_⟩
        · rcases ha with ⟨rfl, e⟩ | rfl
          · have : l = 0 := by omega
            subst this; simp
          · simp [Addr.add_lit]
        · rw [← ht, List.drop_take, List.take_take, List.drop_drop, Nat.min_eq_left (by omega)]

section
variable {P : Program} {n : Fm} {ρ ρ' : List (Nat × Value)} {W w w' : World} {g g' : Hl} {H H' : List HP} {Q : Exit → Act → World → Prop} {ops : Array Oper} {rest : List Oper} {d : Option Tmp} {ty : TypeId} {ps : String} {af : Array Edge} {v u : Value} {x y : Operand} {N : List (Nat × Value) → World → Prop} {o : Op} {b j k s : Nat} {xs : List Value} {e t : TypeId} {z : Value} {bytes : Nat} {a : Option Addr} {len c : Nat} {lo hi mx : Option Operand} {vl vh vm : Option Value}

/-- A bound of a slice, given or not. -/
def Lo (v : Option Value) (l : Nat) : Prop := (v = none ∧ l = 0) ∨ ∃ kd i, v = some (.int kd i) ∧ i = (l : Int)
def Hi (v : Option Value) (len h : Nat) : Prop := (v = none ∧ h = len) ∨ ∃ kd i, v = some (.int kd i) ∧ i = (h : Int)
def Mx (v h : Option Value) (c m : Nat) : Prop := (v = none ∧ m = c) ∨ (h.isSome = true ∧ ∃ kd i, v = some (.int kd i) ∧ i = (m : Int))

theorem run_slice_any (he : ElemOf P t e z s bytes) {l h m : Nat} (hlo : Lo vl l) (hhi : Hi vh len h) (hmx : Mx vm vh c m) (hlen : len ≤ c) (hl : l ≤ h) (hh : h ≤ m) (hm : m ≤ c) (hh2 : vh = none → h ≤ m) (w : World) :
    (Instr.sliceAt t (.slice a len c) vl vh vm).run P w = .ok (.slice (if m = l then a else a.map (·.add (l * s))) (h - l) (m - l)) w := by
  obtain ⟨ht, ⟨i, hi, hz, hs, hb⟩, hzs, hsz⟩ := he
  rcases hlo with ⟨rfl, rfl⟩ | ⟨k1, i1, rfl, rfl⟩ <;> rcases hhi with ⟨rfl, rfl⟩ | ⟨k2, i2, rfl, rfl⟩ <;> rcases hmx with ⟨rfl, rfl⟩ | ⟨hs1, k3, i3, rfl, rfl⟩ <;>
    simp_all [Instr.sliceAt, Instr.slice, run_underlying ht, Instr.sliceBounds, Instr.sliceBound, asIntOf, sizeOf, typeInfo, go_sem]

/-- A part of a row of the pool's, told. -/
theorem run_slice_pr (he : ElemOf P t e z s bytes) (hp : Pr s g (.slice a len c) len xs) {l h : Nat} (hlo : Lo vl l) (hhi : Hi vh len h) (hl : l ≤ h) (hh : h ≤ len) :
    ∃ a' c', (∀ w, (Instr.sliceAt t (.slice a len c) vl vh none).run P w = .ok (.slice a' (h - l) c') w) ∧ Pr s g (.slice a' (h - l) c') (h - l) ((xs.drop (l * s)).take ((h - l) * s)) := by
  obtain ⟨_, _, e1, hn, hc⟩ := hp.len
  simp only [Value.slice.injEq] at e1
  obtain ⟨_, _, rfl⟩ := e1
  have hN : a = none → len = 0 ∧ c = 0 := by
    obtain ⟨_, a0, c0, e, _, _, hN, _⟩ := hp
    simp only [Value.slice.injEq] at e
    obtain ⟨rfl, _, rfl⟩ := e
    exact hN
  refine ⟨_, _, fun w => run_slice_any he hlo hhi (.inl ⟨rfl, rfl⟩) hn hl (by omega) (Nat.le_refl _) (by omega) w, ?_⟩
  refine pr_part hp (by omega) (by omega) (by omega) ?_ (fun e => by have := hN e; omega)
  by_cases h : c = l
  · rw [if_pos h]; exact .inl ⟨rfl, .inr h⟩
  · rw [if_neg h]; exact .inr rfl
theorem run_slice_b (he : ElemOf P t e z 1 bytes) {l : List UInt8} (hp : Pr 1 g (.slice a len c) len (bs l)) {i h : Nat} (hlo : Lo vl i) (hhi : Hi vh len h) (hl : i ≤ h) (hh : h ≤ len) :
    ∃ a' c', (∀ w, (Instr.sliceAt t (.slice a len c) vl vh none).run P w = .ok (.slice a' (h - i) c') w) ∧ Pr 1 g (.slice a' (h - i) c') (h - i) (bs ((l.drop i).take (h - i))) := by
  obtain ⟨a', c', h1, h2⟩ := run_slice_pr (P := P) he hp hlo hhi hl hh
  refine ⟨a', c', h1, ?_⟩
  rw [bs_take, bs_drop]
  simpa using h2

/-- A value that is found by a run, in any world. -/
theorem E.found {R : Value → Prop} {sl : Op} (hr : ∃ v, Pv P n ρ sl ty v ∧ R v) (h : ∀ v, R v → E P n ops rest (pushv d v ρ) w Q) : E P n ops (⟨d, sl, ty, ps, af, none⟩ :: rest) ρ w Q := by
  obtain ⟨v, h1, h2⟩ := hr
  exact E.pv h1 (h v h2)
/-- s[l:h] of a row of bytes that is the pool's. -/
theorem E.slb (he : ElemOf P t e z 1 bytes) {l : List UInt8} (hp : Pr 1 g (.slice a len c) len (bs l)) (i h : Nat) (k : ∀ a' c', Pr 1 g (.slice a' (h - i) c') (h - i) (bs ((l.drop i).take (h - i))) → E P n ops rest (pushv d (.slice a' (h - i) c') ρ) w Q)
    (hx : evo n ρ x = some (.slice a len c) := by exact rfl) (h1 : evm n ρ lo = some vl := by exact rfl) (h2 : evm n ρ hi = some vh := by exact rfl) (hlo : Lo vl i := by first | exact .inl ⟨rfl, rfl⟩ | exact .inr ⟨_, _, rfl, by omega⟩) (hhi : Hi vh len h := by first | exact .inl ⟨rfl, rfl⟩ | exact .inr ⟨_, _, rfl, by omega⟩) (hl : i ≤ h := by omega) (hh : h ≤ len := by omega) :
    E P n ops (⟨d, .slice t x lo hi none, ty, ps, af, none⟩ :: rest) ρ w Q := by
  obtain ⟨a', c', h3, h4⟩ := run_slice_b (P := P) he hp hlo hhi hl hh
  exact E.pv (Pv.slice hx h1 h2 rfl h3) (k _ _ h4)
theorem E.slp (he : ElemOf P t e z s bytes) (hp : Pr s g (.slice a len c) len xs) (i h : Nat) (k : ∀ a' c', Pr s g (.slice a' (h - i) c') (h - i) ((xs.drop (i * s)).take ((h - i) * s)) → E P n ops rest (pushv d (.slice a' (h - i) c') ρ) w Q)
    (hx : evo n ρ x = some (.slice a len c) := by exact rfl) (h1 : evm n ρ lo = some vl := by exact rfl) (h2 : evm n ρ hi = some vh := by exact rfl) (hlo : Lo vl i := by first | exact .inl ⟨rfl, rfl⟩ | exact .inr ⟨_, _, rfl, by omega⟩) (hhi : Hi vh len h := by first | exact .inl ⟨rfl, rfl⟩ | exact .inr ⟨_, _, rfl, by omega⟩) (hl : i ≤ h := by omega) (hh : h ≤ len := by omega) :
    E P n ops (⟨d, .slice t x lo hi none, ty, ps, af, none⟩ :: rest) ρ w Q := by
  obtain ⟨a', c', h3, h4⟩ := run_slice_pr (P := P) he hp hlo hhi hl hh
  exact E.pv (Pv.slice hx h1 h2 rfl h3) (k _ _ h4)

/-- The place of an element. -/
theorem run_index_el (he : ElemOf P t e z s bytes) (hp : Pr s g (.slice a len c) len xs) {kd : IntKind} {i : Int} (hi : i = (j : Int)) (hj : j < len) : ∃ b o, (∀ w, (Instr.indexAt t (.slice a len c) (.int kd i)).run P w = .ok (.pointer (some ⟨b, o, none⟩)) w) ∧ ∀ w : World, (∀ k o, g k = some o → w.heap[k]? = some o) → w.rangeAt b o ((xs.drop (j * s)).take s) := by
  obtain ⟨h1, a0, c0, e1, hn, hc, hN, h⟩ := hp
  simp only [Value.slice.injEq] at e1
  obtain ⟨rfl, _, rfl⟩ := e1
  rcases h with rfl | ⟨b, o, cur, t', fz, rfl, hg, ht⟩
  · omega
  · refine ⟨b, o + j * s, fun w => run_index_at he hi hj w, fun w hw => ?_⟩
    intro q v hv
    have hb := hw _ _ hg
    rw [List.getElem?_take] at hv
    split at hv
    · rename_i hq
      rw [List.getElem?_drop, ← ht, List.getElem?_take] at hv
      split at hv
      · rw [List.getElem?_drop] at hv
        simp only [World.cell?, hb]
        rw [show o + j * s + q = o + (j * s + q) by omega]
        simpa using hv
      · cases hv
    · cases hv

/-- &s[j] of a row of the pool's, an element of one cell. -/
theorem E.ix (he : ElemOf P t e z 1 bytes) (hs : Sat W w g H) (hp : Pr 1 g (.slice a len c) len xs) (j : Nat) (hxj : xs[j]? = some v) (k : ∀ b o, w.cell? ⟨b, o, none⟩ = some v → E P n ops rest (pushv d (.pointer (some ⟨b, o, none⟩)) ρ) w Q) {kd : IntKind} {i : Int}
    (hx : evo n ρ x = some (.slice a len c) := by exact rfl) (hy : evo n ρ y = some (.int kd i) := by exact rfl) (hi : i = (j : Int) := by omega) (hj : j < len := by omega) :
    E P n ops (⟨d, .indexAddr t x y, ty, ps, af, none⟩ :: rest) ρ w Q := by
  obtain ⟨b, o, h1, h2⟩ := run_index_el (P := P) he hp hi hj
  refine E.pv (Pv.indexAddr hx hy h1) (k b o ?_)
  refine h2 w (fun k o h => hs.pool h) 0 v ?_
  rw [List.getElem?_take, if_pos (by omega), List.getElem?_drop]
  simpa using hxj
/-- &s[j] of a row that reads so now, an element of one cell. -/
theorem E.ixr {D : Nat → Prop} (he : ElemOf P t e z 1 bytes) (hp : Row 1 w D (.slice a len c) len xs) (j : Nat) (hxj : xs[j]? = some v) (k : ∀ b o, w.cell? ⟨b, o, none⟩ = some v → E P n ops rest (pushv d (.pointer (some ⟨b, o, none⟩)) ρ) w Q) {kd : IntKind} {i : Int}
    (hx : evo n ρ x = some (.slice a len c) := by exact rfl) (hy : evo n ρ y = some (.int kd i) := by exact rfl) (hi : i = (j : Int) := by omega) (hj : j < len := by omega) :
    E P n ops (⟨d, .indexAddr t x y, ty, ps, af, none⟩ :: rest) ρ w Q := by
  have ha : ∃ b o, a = some ⟨b, o, none⟩ := by
    obtain ⟨_, a', c', e, _, _, _, h0 | ⟨b, o, cur, t', fz, e2, _, _⟩⟩ := id hp
    · omega
    · simp only [Value.slice.injEq] at e
      exact ⟨b, o, e.1.trans e2⟩
  obtain ⟨b, o, rfl⟩ := ha
  have hc := (hp.cellAt rfl hxj).2
  exact E.pv (Pv.indexAddr hx hy (v := .pointer (some ⟨b, o + j, none⟩)) (fun w => by have := run_index_at he hi hj w (P := P) (b := b) (o := o) (n := len) (c := c) (kd := kd); simpa using this)) (k b (o + j) hc)
/-- An element of several cells. -/
theorem E.ixs (he : ElemOf P t e z s bytes) (hs : Sat W w g H) (hp : Pr s g (.slice a len c) len xs) (j : Nat) (k : ∀ b o, w.rangeAt b o ((xs.drop (j * s)).take s) → E P n ops rest (pushv d (.pointer (some ⟨b, o, none⟩)) ρ) w Q) {kd : IntKind} {i : Int}
    (hx : evo n ρ x = some (.slice a len c) := by exact rfl) (hy : evo n ρ y = some (.int kd i) := by exact rfl) (hi : i = (j : Int) := by omega) (hj : j < len := by omega) :
    E P n ops (⟨d, .indexAddr t x y, ty, ps, af, none⟩ :: rest) ρ w Q := by
  obtain ⟨b, o, h1, h2⟩ := run_index_el (P := P) he hp hi hj
  exact E.pv (Pv.indexAddr hx hy h1) (k b o (h2 w fun k o h => hs.pool h))
/-- string(b), in order. -/
theorem E.strc {bl : List UInt8} {e' dt : TypeId} {D : Nat → Prop} (hrow : Row 1 w D (.slice a len c) len (bs bl)) (h1 : P.underlying t = some (.slice e')) (h2 : P.underlying e' = some (.int .u8)) (h3 : P.underlying dt = some .string) (h : E P n ops rest (pushv d (.string ⟨bl.toArray⟩) ρ) w Q) (hx : evo n ρ x = some (.slice a len c) := by exact rfl) :
    E P n ops (⟨d, .convert t dt x, ty, ps, af, none⟩ :: rest) ρ w Q := E.cons (St.string hx h1 h2 h3 hrow h)
/-- make([]T, n). -/
theorem E.mk {kl kc : IntKind} {k2 : Nat} {i j : Int} (he : ElemOf P t e z s bytes) (hs : Sat W w g H) (h : ∀ a' w', Sat W w' g (own e s (.slice a' k2 k2) k2 (madeCells z.cells (k2 * s)).toList :: H) → E P n ops rest (pushv d (.slice a' k2 k2) ρ) w' Q) (hb : k2 * bytes ≤ 140737488355328 := by omega)
    (hx : evo n ρ x = some (.int kl i) := by exact rfl) (hy : evo n ρ y = some (.int kc j) := by exact rfl) (hi : i = (k2 : Int) := by omega) (hj : j = (k2 : Int) := by omega) (h63 : k2 ≤ 9223372036854775807 := by omega) :
    E P n ops (⟨d, .makeSlice t x y, ty, ps, af, none⟩ :: rest) ρ w Q := by
  subst hi hj
  obtain ⟨ht, ⟨inf, hin, hz, hsz, hby⟩, hzs, hpos⟩ := he
  obtain ⟨w', hr, ho, hg⟩ := run_make_full (P := P) w w.heap.size t e inf z s ht hin hz hsz kl kc k2 (by rw [hby, Nat.mul_comm]; omega) (by unfold maxLen; omega) (Nat.le_refl _)
  exact E.cons (St.val (fun a ha => by simp [execOp, ha.eval hx, ha.eval hy, hr]) (h _ _ (hs.newOwn ho ⟨hg.os, hg.tape, hg.output, hg.size, fun q hq => hg.block q hq (by simp)⟩)))
/-- A struct out of a range of cells. -/
theorem E.ldr {cs : List Value} {o : Nat} (hr : w.rangeAt b o cs) (st : AggOf P t k) (hk : cs.length = k) (h : E P n ops rest (pushv d (.agg cs.toArray) ρ) w Q) (hx : evo n ρ x = some (.pointer (some ⟨b, o, none⟩)) := by exact rfl) :
    E P n ops (⟨d, .load t x, ty, ps, af, none⟩ :: rest) ρ w Q := by
  obtain ⟨d', h1, h2, h3⟩ := st
  subst hk
  exact E.cons (St.loads hx (run_loadVar_mid w b o t cs d' hr h1 (by cases d' <;> first | rfl | simp at h2) h3) h)
end

section
variable {P : Program} {n : Fm} {ρ : List (Nat × Value)} {W w w' : World} {g g' : Hl} {H H' : List HP} {Q : Exit → Act → World → Prop} {l : List Oper} {S : World → Prop} {fuel m : Nat} {d : Option Tmp} {ty : TypeId} {ps : String} {af : Array Edge} {gd : Option (Nat × Bool)} {v u : Value} {x y : Operand} {o : Op} {F : List (Nat × List Value × TypeId)} {i b k s : Nat} {rs : List Nat} {t e : TypeId} {z : Value} {bytes : Nat} {a : Option Addr} {len c : Nat} {lo hi mx : Option Operand} {vl vh vm : Option Value}

/-- s[l:h] of a row of bytes, in a drawn region: the first operation that may come up. -/
theorem EH.slb (he : ElemOf P t e z 1 bytes) {bl : List UInt8} (hp : Pr 1 g (.slice a len c) len (bs bl)) (q h : Nat) (hS : S w) (kk : ∀ a' c', Pr 1 g (.slice a' (h - q) c') (h - q) (bs ((bl.drop q).take (h - q))) → EH P n l S fuel (bset m i) (pushv d (.slice a' (h - q) c') ρ) w Q)
    (hr : rdy m l.length 0 l = i :: rs := by exact rfl) (hnth : nth l i = some ⟨d, .slice t x lo hi none, ty, ps, af, gd⟩ := by exact rfl) (hg : want n l ρ gd = some true := by exact rfl)
    (hx : evo n ρ x = some (.slice a len c) := by exact rfl) (h1 : evm n ρ lo = some vl := by exact rfl) (h2 : evm n ρ hi = some vh := by exact rfl) (hlo : Lo vl q := by first | exact .inl ⟨rfl, rfl⟩ | exact .inr ⟨_, _, rfl, by omega⟩) (hhi : Hi vh len h := by first | exact .inl ⟨rfl, rfl⟩ | exact .inr ⟨_, _, rfl, by omega⟩) (hl : q ≤ h := by omega) (hh : h ≤ len := by omega)
    (hsel : Region.noSelect l.toArray = true := by kernel_rfl) (hf : Region.free .any l.toArray (bits m l.length) i = true := by decide +kernel)
    (hQ : ∀ v c a w, Q (.panic c) (a.put d v) w → Q (.panic c) a w := by exact fun _ _ _ _ h => h) : EH P n l S (fuel + 1) m ρ w Q := by
  obtain ⟨a', c', h3, h4⟩ := run_slice_b (P := P) he hp hlo hhi hl hh
  exact EH.take i (by rw [hr]; simp) hnth hsel hf hQ hS (yif (oi := ⟨d, .slice t x lo hi none, ty, ps, af, gd⟩) hg (Pf.pv (Pv.slice hx h1 h2 rfl h3))) (kk _ _ h4)
/-- &s[j] of a row of the pool's, in a drawn region: the first operation that may come up. -/
theorem EH.ix {xs : List Value} (he : ElemOf P t e z 1 bytes) (hp : Pr 1 g (.slice a len c) len xs) (q : Nat) (hxj : xs[q]? = some v) (hS : S w) (hSk : ∀ w, S w → Keeps g F w) (kk : ∀ b o, Rd S b o v → EH P n l S fuel (bset m i) (pushv d (.pointer (some ⟨b, o, none⟩)) ρ) w Q) {kd : IntKind} {iv : Int}
    (hr : rdy m l.length 0 l = i :: rs := by exact rfl) (hnth : nth l i = some ⟨d, .indexAddr t x y, ty, ps, af, gd⟩ := by exact rfl) (hg : want n l ρ gd = some true := by exact rfl)
    (hx : evo n ρ x = some (.slice a len c) := by exact rfl) (hy : evo n ρ y = some (.int kd iv) := by exact rfl) (hi : iv = (q : Int) := by omega) (hj : q < len := by omega)
    (hsel : Region.noSelect l.toArray = true := by kernel_rfl) (hf : Region.free .any l.toArray (bits m l.length) i = true := by decide +kernel)
    (hQ : ∀ v c a w, Q (.panic c) (a.put d v) w → Q (.panic c) a w := by exact fun _ _ _ _ h => h) : EH P n l S (fuel + 1) m ρ w Q := by
  obtain ⟨b, o, h1, h2⟩ := run_index_el (P := P) he hp hi hj
  refine EH.take i (by rw [hr]; simp) hnth hsel hf hQ hS (yif (oi := ⟨d, .indexAddr t x y, ty, ps, af, gd⟩) hg (Pf.pv (Pv.indexAddr hx hy h1))) (kk b o ?_)
  intro w' hw'
  refine h2 w' (hSk w' hw').1 0 v ?_
  rw [List.getElem?_take, if_pos (by omega), List.getElem?_drop]
  simpa using hxj
/-- string(b) of a row of the pool's, in a drawn region: the first operation that may come up. -/
theorem EH.strc {bl : List UInt8} (hp : Pr 1 g (.slice a len c) len (bs bl)) (hS : S w) (hSk : ∀ w, S w → Keeps g F w) (h1 : P.underlying t = some (.slice e)) (h2 : P.underlying e = some (.int .u8)) {dt : TypeId} (h3 : P.underlying dt = some .string) (kk : EH P n l S fuel (bset m i) (pushv d (.string ⟨bl.toArray⟩) ρ) w Q)
    (hr : rdy m l.length 0 l = i :: rs := by exact rfl) (hnth : nth l i = some ⟨d, .convert t dt x, ty, ps, af, gd⟩ := by exact rfl) (hg : want n l ρ gd = some true := by exact rfl)
    (hx : evo n ρ x = some (.slice a len c) := by exact rfl)
    (hsel : Region.noSelect l.toArray = true := by kernel_rfl) (hf : Region.free .any l.toArray (bits m l.length) i = true := by decide +kernel)
    (hQ : ∀ v c a w, Q (.panic c) (a.put d v) w → Q (.panic c) a w := by exact fun _ _ _ _ h => h) : EH P n l S (fuel + 1) m ρ w Q :=
  EH.take i (by rw [hr]; simp) hnth hsel hf hQ hS (yif (oi := ⟨d, .convert t dt x, ty, ps, af, gd⟩) hg (Pf.val fun a' ha w hw d ps af g' => by
    have := (Pf.string (P := P) (n := n) (F := F) (g := g) (ty := ty) hx hp h1 h2 h3) a' ha w (hSk w hw) d ps af g'
    exact this)) kk
end

end Go.Proofs.Ytkolnecahlkndaa
