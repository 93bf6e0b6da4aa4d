/-
  Layer 15 (view): Have, Keys, Base, At.
-/
import Derived.Test.YtkolnecahlkndaaGreatMg
import Derived.Sort.Walk0
import Derived.Laws.Strings
import Derived.Test.YtkolnecahlkndaaGreatMf
namespace Go.Proofs.YtkolnecahlkndaaGreat
open Go.RowKit
set_option linter.unusedVariables false
set_option linter.unusedSimpArgs false

set_option maxHeartbeats 1600000 in
set_option maxRecDepth 100000 in
theorem foldHave_any {R : Ending → World → Prop} {W w : World} {g : Hl} {H : List HP} {b : Nat} {f : Fo} (hs : Sat W w g (fold b f :: H))
    (hR : ∀ a' c' w' g', Hl.le g g' → Pr 1 g' (.slice a' (vtrim f.vec).length c') (vtrim f.vec).length (us (vtrim f.vec)) → Sat W w' g' (fold b f :: H) → R (.returned (.slice a' (vtrim f.vec).length c')) w') : Calls Tryz.prog 60 #[ptr b] w R := by
  have HR := Lib.hid hR
  clear hR
  obtain ⟨i, hi, hs⟩ := fold_open hs
  have h1 := hi.ok.mem
  have h2 := hi.ok.ret
  simp only [foB] at hs
  refine C.calls (args := [.pointer (some ⟨b, 0, none⟩)]) Tryz.func60 rfl rfl rfl ?_
  refine go ?_
  refine E.ld hs ?_ (hj := foC_129 h1 h2)
  refine go ?_
  refine E.callf Tryz.func63 rfl ?_
  refine vtrim_any hs hi.vec rfl (by have := hi.ok.vec; omega) ?_
  intro a2 c2 w2 g2 hg2 hp2 hs
  refine go ?_
  refine A.r1 ?_
  exact HR.out a2 c2 w2 g2 hg2 hp2 (fold_close i (hi.mono hg2) hs)

set_option maxHeartbeats 1600000 in
set_option maxRecDepth 100000 in
theorem vwHave_any {R : Ending → World → Prop} {W w : World} {g : Hl} {H : List HP} {vb b b' : Nat} {x : El} {f : Fo} (hs : Sat W w g (vw vb b b' x :: fold b' f :: H))
    (hR : ∀ a' c' w' g', Hl.le g g' → Pr 1 g' (.slice a' (vtrim f.vec).length c') (vtrim f.vec).length (us (vtrim f.vec)) → Sat W w' g' (vw vb b b' x :: fold b' f :: H) → R (.returned (.slice a' (vtrim f.vec).length c')) w') : Calls Tryz.prog 24 #[ptr vb] w R := by
  have HR := Lib.hid hR
  clear hR
  simp only [vw, El.v] at hs HR
  refine C.calls (args := [.pointer (some ⟨vb, 0, none⟩)]) Tryz.func24 rfl rfl rfl ?_
  refine go ?_
  refine E.callf Tryz.func60 rfl ?_
  refine foldHave_any hs.swap ?_
  intro a2 c2 w2 g2 hg2 hp2 hs
  refine go ?_
  refine A.r1 ?_
  exact HR.out a2 c2 w2 g2 hg2 hp2 hs.swap

set_option maxHeartbeats 1600000 in
set_option maxRecDepth 100000 in
theorem vwKeys_any {R : Ending → World → Prop} {W w : World} {g : Hl} {H : List HP} {vb b b' : Nat} {x : El} {f : Fo} (hl : f.cells.length ≤ 1000000000) (hs : Sat W w g (vw vb b b' x :: fold b' f :: H))
    (hR : ∀ a' c' w' g', Hl.le g g' → Pr 1 g' (.slice a' f.cells.length c') f.cells.length (f.keys.map str) → Sat W w' g' (vw vb b b' x :: fold b' f :: H) → R (.returned (.slice a' f.cells.length c')) w') : Calls Tryz.prog 25 #[ptr vb] w R := by
  have HR := Lib.hid hR
  clear hR
  obtain ⟨i, hi, hs⟩ := fold_open hs.swap
  have hs2 := hs.pull2
  clear hs
  have hs := hs2
  clear hs2
  simp only [vw, El.v] at hs HR
  refine C.calls (args := [.pointer (some ⟨vb, 0, none⟩)]) Tryz.func25 rfl rfl rfl ?_
  refine go ?_
  refine E.callf Tryz.func33 rfl ?_
  refine foldKeys_any hi hl hs.push2 ?_
  intro a2 c2 w2 g2 hg2 hp2 hs
  refine go ?_
  refine A.r1 ?_
  exact HR.out a2 c2 w2 g2 hg2 hp2 (fold_close i (hi.mono hg2) hs).swap

set_option maxHeartbeats 1600000 in
set_option maxRecDepth 100000 in
theorem vwBase_any {R : Ending → World → Prop} {W w : World} {g : Hl} {H : List HP} {vb b b' : Nat} {x : El} {f : Fo} (hs : Sat W w g (vw vb b b' x :: fold b f :: H))
    (hR : ∀ b2 w', Sat W w' g (fold b2 f :: vw vb b b' x :: fold b f :: H) → R (.returned (ptr b2)) w') : Calls Tryz.prog 10 #[ptr vb] w R := by
  have HR := Lib.hid hR
  clear hR
  simp only [vw, El.v] at hs HR
  refine C.calls (args := [.pointer (some ⟨vb, 0, none⟩)]) Tryz.func10 rfl rfl rfl ?_
  refine go ?_
  refine E.callf Tryz.func17 rfl ?_
  refine foldCopy_any hs.swap ?_
  intro b2 w2 hs
  rw [show ptr b2 = .pointer (some ⟨b2, 0, none⟩) from rfl]
  refine go ?_
  refine A.r1 ?_
  exact HR.out b2 _ (hs.perm (List.Perm.cons _ (.swap _ _ _)))
end Go.Proofs.YtkolnecahlkndaaGreat

/-
  Layer 15 (view): At.
-/
namespace Go.Proofs.YtkolnecahlkndaaGreat
open Go.RowKit
set_option linter.unusedVariables false
set_option linter.unusedSimpArgs false

set_option maxHeartbeats 1600000 in
set_option maxRecDepth 100000 in
theorem vwAt_any {R : Ending → World → Prop} {W w : World} {g : Hl} {H : List HP} {vb b b' : Nat} {x : El} {i : Int} (hx : x.ok g) (hl : x.es.length ≤ 1000000000) (hs : Sat W w g (vw vb b b' x :: H))
    (h1 : ∀ k, i = (k : Nat) → ∀ h : k < x.es.length, ∀ w', Sat W w' g (vw vb b b' x :: H) → R (.returned (.tuple #[x.es[k].val, .bool true])) w')
    (h2 : ¬ (0 ≤ i ∧ i < x.es.length) → ∀ w', Sat W w' g (vw vb b b' x :: H) → R (.returned (.tuple #[.agg #[.int .i64 0, .int .u64 0, .int .u64 0, .int .u8 0, .string ⟨#[]⟩, .slice none 0 0, .float .f64 0, .int .i64 0], .bool false])) w') : Calls Tryz.prog 27 #[ptr vb, .int .i64 i] w R := by
  have HR1 := Lib.hid h1
  have HR2 := Lib.hid h2
  clear h1 h2
  have ag1 := ag_ev
  refine C.calls (args := [.pointer (some ⟨vb, 0, none⟩), .int .i64 i]) Tryz.func27 rfl rfl rfl ?_
  refine go ?_
  refine E.al hs ?_
  intro b4 w1 hs
  refine go ?_
  cases hi : decide (i < 0) with
  | true =>
    have hi := of_decide_eq_true hi
    refine go ?_
    refine E.sto (vs := [.int .i64 0, .int .u64 0, .int .u64 0, .int .u8 0, .string ⟨#[]⟩, .slice none 0 0, .float .f64 0, .int .i64 0]) hs ?_ (hv := rfl)
    intro w2 hs
    refine go ?_
    refine A.c1t1 rfl rfl rfl (run_lda hs ag_ev) ?_
    exact HR2.out (by omega) _ hs.drop
  | false =>
    have hi := of_decide_eq_false hi
    refine go ?_
    refine E.callf Tryz.func13 rfl ?_
    refine vwLen_any hs.swap ?_
    refine go ?_
    cases hk : decide ((x.es.length : Int) ≤ i) with
    | true =>
      have hk := of_decide_eq_true hk
      refine go ?_
      refine E.sto (vs := [.int .i64 0, .int .u64 0, .int .u64 0, .int .u8 0, .string ⟨#[]⟩, .slice none 0 0, .float .f64 0, .int .i64 0]) hs ?_ (hv := rfl)
      intro w2 hs
      refine go ?_
      refine A.c1t1 rfl rfl rfl (run_lda hs ag_ev) ?_
      exact HR2.out (by omega) _ hs.drop
    | false =>
      have hk := of_decide_eq_false hk
      obtain ⟨k, rfl⟩ := Int.eq_ofNat_of_zero_le (show 0 ≤ i by omega)
      have hkl : k < x.es.length := by omega
      have hee := (hx.evs x.es[k] (List.getElem_mem hkl)).1
      simp only [vw, El.v] at hs HR1
      refine go ?_
      refine E.ixs el_ev hs hx.row k ?_
      intro b5 o5 hr
      rw [evC_at hkl] at hr
      refine E.ldr hr ag_ev rfl ?_
      refine E.sto (vs := x.es[k].cs) (ys := x.es[k].cs) hs ?_ (hv := rfl) (hsp := spl_all (by rfl)) (h1 := Ev.cs_one hee)
      intro w2 hs
      refine go ?_
      refine A.c1t1 rfl rfl rfl (run_lda hs ag_ev) ?_
      exact HR1.out k rfl hkl _ hs.drop
end Go.Proofs.YtkolnecahlkndaaGreat

/-
  Layers 11, 15: what a key has.
-/
namespace Go.Proofs.YtkolnecahlkndaaGreat
open Go.RowKit
set_option linter.unusedVariables false
set_option linter.unusedSimpArgs false

theorem Fi.ok.look {i : Fi} {f : Fo} {g : Hl} (hi : i.ok f g) (k : List UInt8) : ∃ (cc : Ce) (a : Option Addr) (c : Nat), (f.cell k).getD ⟨0, [], 0⟩ = cc ∧ (alook k (i.L.map fun p => (p.1, ceV p.2.1 p.2.2))).getD (.agg #[.int .u8 0, .slice none 0 0, .float .f64 0]) = .agg #[.int .u8 cc.kd, .slice a cc.text.length c, .float .f64 cc.num] ∧ (alook k (i.L.map fun p => (p.1, ceV p.2.1 p.2.2))).isSome = (f.cell k).isSome ∧ Pr 1 g (.slice a cc.text.length c) cc.text.length (bs cc.text) ∧ cc.ok := by
  have e1 := alook_map (fun p : Ce × Value => ceV p.1 p.2) k i.L
  have e2 := al_map (Prod.fst : Ce × Value → Ce) k i.L
  rw [e1]
  have e3 : f.cell k = (aget k i.L).map Prod.fst := by rw [Fo.cell, ← hi.plain]; exact e2
  rw [e3]
  cases hL : aget k i.L with
  | none => exact ⟨⟨0, [], 0⟩, none, 0, rfl, rfl, rfl, Pr.nil, ⟨by decide, by decide, by simp⟩⟩
  | some p =>
    have h5 := hi.tvs _ (aget_mem hL)
    obtain ⟨a, c, ep, _⟩ := h5.len
    simp only at ep h5
    have h6 : (k, p.1) ∈ f.cells := by rw [← hi.plain]; exact List.mem_map.2 ⟨(k, p), aget_mem hL, rfl⟩
    refine ⟨p.1, a, c, rfl, ?_, rfl, by rw [← ep]; exact h5, (hi.ok.cells _ h6).1⟩
    simp only [Option.map_some, Option.getD_some, ceV, ep]

set_option maxHeartbeats 1600000 in
set_option maxRecDepth 100000 in
theorem foldCell_any {R : Ending → World → Prop} {W w : World} {g : Hl} {H : List HP} {b : Nat} {f : Fo} {k : List UInt8} (hs : Sat W w g (fold b f :: H))
    (hR : ∀ cc a c w' g', (f.cell k).getD ⟨0, [], 0⟩ = cc → Hl.le g g' → Pr 1 g' (.slice a cc.text.length c) cc.text.length (bs cc.text) → Sat W w' g' (fold b f :: H) → R (.returned (.tuple #[.agg #[.int .u8 cc.kd, .slice a cc.text.length c, .float .f64 cc.num], .bool (f.cell k).isSome])) w') :
    Calls Tryz.prog 61 #[ptr b, .string ⟨k.toArray⟩] w R := by
  have HR := Lib.hid hR
  clear hR
  have ag1 := ag_cell
  obtain ⟨i, hi, hs⟩ := fold_open hs
  have h1 := hi.ok.mem
  have h2 := hi.ok.ret
  obtain ⟨cc, at_, ct, hcc, hcell, hsome, hptv, hck⟩ := hi.look k
  have ctext := hck.text
  simp only [foB] at hs
  refine C.calls (args := [.pointer (some ⟨b, 0, none⟩), .string ⟨k.toArray⟩]) Tryz.func61 rfl rfl rfl ?_
  refine go ?_
  refine E.al hs ?_
  intro b4 w1 hs
  refine go ?_
  refine E.cons (St.lookup (z := .agg #[.int .u8 0, .slice none 0 0, .float .f64 0]) (k := k) ky_str Tryz.underlying76 (by go_simp; first | done | rfl) hs (.there (.there .here)) rfl rfl ?_)
  simp only [if_true, hcell, hsome]
  clear hcell hsome
  refine go ?_
  refine E.al hs ?_
  intro b6 w6 hs
  refine E.sto (vs := [.int .u8 cc.kd, .slice at_ cc.text.length ct, .float .f64 cc.num]) (ys := [.int .u8 cc.kd, .slice at_ cc.text.length ct, .float .f64 cc.num]) hs ?_ (hv := rfl) (hsp := rfl)
  intro w7 hs
  refine go ?_
  refine E.callf Tryz.func47 rfl ?_
  refine bclone_any hs hptv (by omega) ?_
  intro a8 c8 w8 g8 hg8 hp8 hs
  refine go ?_
  refine E.sto (vs := [.slice a8 cc.text.length c8]) (ys := [.int .u8 cc.kd, .slice a8 cc.text.length c8, .float .f64 cc.num]) hs ?_ (hv := rfl) (hsp := rfl)
  intro w9 hs
  refine go ?_
  refine E.sto (vs := [.int .u8 cc.kd, .slice a8 cc.text.length c8, .float .f64 cc.num]) (ys := [.int .u8 cc.kd, .slice a8 cc.text.length c8, .float .f64 cc.num]) hs ?_ (hv := rfl) (hsp := rfl)
  intro w10 hs
  refine go ?_
  refine A.c1t1 rfl rfl rfl (run_lda hs ag_cell) ?_
  exact HR.out cc a8 c8 _ g8 hcc hg8 hp8 (fold_close i (hi.mono hg8) hs.drop.drop)

set_option maxHeartbeats 1600000 in
set_option maxRecDepth 100000 in
theorem vwCell_any {R : Ending → World → Prop} {W w : World} {g : Hl} {H : List HP} {vb b b' : Nat} {x : El} {f : Fo} {k : List UInt8} (hs : Sat W w g (vw vb b b' x :: fold b' f :: H))
    (hR : ∀ cc a c w' g', (f.cell k).getD ⟨0, [], 0⟩ = cc → Hl.le g g' → Pr 1 g' (.slice a cc.text.length c) cc.text.length (bs cc.text) → Sat W w' g' (vw vb b b' x :: fold b' f :: H) → R (.returned (.tuple #[.agg #[.int .u8 cc.kd, .slice a cc.text.length c, .float .f64 cc.num], .bool (f.cell k).isSome])) w') :
    Calls Tryz.prog 26 #[ptr vb, .string ⟨k.toArray⟩] w R := by
  have HR := Lib.hid hR
  clear hR
  have ag1 := ag_cell
  simp only [vw, El.v] at hs HR
  refine C.calls (args := [.pointer (some ⟨vb, 0, none⟩), .string ⟨k.toArray⟩]) Tryz.func26 rfl rfl rfl ?_
  refine go ?_
  refine E.al hs ?_
  intro b4 w1 hs
  refine go ?_
  refine E.callf Tryz.func61 rfl ?_
  refine foldCell_any (k := k) hs.pull2 ?_
  intro cc a2 c2 w2 g2 hcc hg2 hp2 hs
  generalize (f.cell k).isSome = sm at HR
  refine go ?_
  refine E.sto (vs := [.int .u8 cc.kd, .slice a2 cc.text.length c2, .float .f64 cc.num]) (ys := [.int .u8 cc.kd, .slice a2 cc.text.length c2, .float .f64 cc.num]) hs ?_ (hv := rfl) (hsp := rfl)
  intro w3 hs
  refine go ?_
  refine A.c1t1 rfl rfl rfl (run_lda hs ag_cell) ?_
  exact HR.out cc a2 c2 _ g2 hcc hg2 hp2 hs.swap.drop.swap
end Go.Proofs.YtkolnecahlkndaaGreat

/-
  Strings: which one stands ahead.
-/
namespace Go.Proofs.YtkolnecahlkndaaGreat
open Go.RowKit
set_option linter.unusedVariables false
set_option linter.unusedSimpArgs false
theorem Pv.slt {P : Program} {n : Fm} {ρ : List (Nat × Value)} {x y : Operand} {ty s s' : TypeId} {a b : List UInt8} (hx : evo n ρ x = some (.string ⟨a.toArray⟩)) (hy : evo n ρ y = some (.string ⟨b.toArray⟩)) : Pv P n ρ (.binOp .lss s x y s') ty (.bool (decide (a < b))) :=
  Pv.binOp hx hy (fun w => by simp [eqGuard]) fun w => by
    simp [Go.binOp, Op.stringOp]
    exact Go.Proofs.bytesLess_eq _ _
theorem E.slt {P : Program} {n : Fm} {ρ : List (Nat × Value)} {w : World} {Q : Exit → Act → World → Prop} {ops : Array Oper} {rest : List Oper} {d : Option Tmp} {ps : String} {af : Array Edge} {x y : Operand} {ty s s' : TypeId} (a b : List UInt8) (h : E P n ops rest (pushv d (.bool (decide (a < b))) ρ) w Q)
    (hx : evo n ρ x = some (.string ⟨a.toArray⟩) := by exact rfl) (hy : evo n ρ y = some (.string ⟨b.toArray⟩) := by exact rfl) : E P n ops (⟨d, .binOp .lss s x y s', ty, ps, af, none⟩ :: rest) ρ w Q := E.pv (Pv.slt hx hy) h
end Go.Proofs.YtkolnecahlkndaaGreat

/-
  The reference of layer 11: a fold as a list of keys that rises; Find.
-/
namespace Go.Proofs.YtkolnecahlkndaaGreat
open Go.RowKit
set_option linter.unusedVariables false
set_option linter.unusedSimpArgs false

/-- A key and what it has. -/
structure Rc where
  key : List UInt8
  kd : Nat
  text : List UInt8
  num : Nat
  tv : Value
def Rc.cs (c : Rc) : List Value := [.string ⟨c.key.toArray⟩, .int .u8 c.kd, c.tv, .float .f64 c.num]
def rcC (l : List Rc) : List Value := l.flatMap Rc.cs
@[simp] theorem rcC_length (l : List Rc) : (rcC l).length = l.length * 4 := by
  induction l with
  | nil => rfl
  | cons x r ih => simp [rcC, Rc.cs] at ih ⊢; omega
theorem rcC_drop : ∀ (l : List Rc) (j : Nat), (rcC l).drop (j * 4) = rcC (l.drop j)
  | l, 0 => by simp
  | [], j + 1 => by simp [rcC]
  | x :: r, j + 1 => by
    have e : (j + 1) * 4 = j * 4 + 4 := by omega
    rw [e]
    show (x.cs ++ rcC r).drop (j * 4 + 4) = _
    simp only [Rc.cs, List.cons_append, List.nil_append, List.drop_succ_cons]
    exact rcC_drop r j
theorem rcC_take : ∀ (l : List Rc) (j : Nat), (rcC l).take (j * 4) = rcC (l.take j)
  | l, 0 => by simp [rcC]
  | [], j + 1 => by simp [rcC]
  | x :: r, j + 1 => by
    have e : (j + 1) * 4 = j * 4 + 4 := by omega
    rw [e]
    show (x.cs ++ rcC r).take (j * 4 + 4) = x.cs ++ rcC (r.take j)
    simp only [Rc.cs, List.cons_append, List.nil_append, List.take_succ_cons, rcC_take r j]
theorem rcC_append (a b : List Rc) : rcC (a ++ b) = rcC a ++ rcC b := by simp [rcC]
theorem rcC_at {l : List Rc} {j : Nat} (h : j < l.length) : ((rcC l).drop (j * 4)).take 4 = l[j].cs := by
  rw [rcC_drop, List.drop_eq_getElem_cons h]
  exact (rcC_take (l[j] :: l.drop (j + 1)) 1).trans (by simp only [List.take_succ_cons, List.take_zero, rcC, List.flatMap_cons, List.flatMap_nil, List.append_nil])
theorem el_rc : ElemOf Tryz.prog 53 72 (.agg #[.string ⟨#[]⟩, .int .u8 0, .slice none 0 0, .float .f64 0]) 4 56 := .of Tryz.underlying53 (by kernel_rfl) rfl (by decide)
theorem ag_rc : AggOf Tryz.prog 72 4 := ⟨_, Tryz.underlying72, rfl, by kernel_rfl⟩
theorem ag_rf : AggOf Tryz.prog 58 7 := ⟨_, Tryz.underlying58, rfl, by kernel_rfl⟩
/-- A fold of the reference's. -/
structure Rf where
  L : List Rc
  aL : Option Addr
  cL : Nat
  mem : List Bool
  aJ : Option Addr
  cJ : Nat
  ret : List Bool
  aR : Option Addr
  cR : Nat
  hv : List Nat
  aH : Option Addr
  cH : Nat
  tm : Nat
  wr : Int
  mark : Nat
def Rf.cs (r : Rf) : List Value := [.slice r.aL r.L.length r.cL, .slice r.aJ 64 r.cJ, .slice r.aR 64 r.cR, .slice r.aH 64 r.cH, .int .u64 r.tm, .int .i64 r.wr, .int .u64 r.mark]
def Rf.val (r : Rf) : Value := .agg r.cs.toArray
structure Rc.ok (c : Rc) (g : Hl) : Prop where
  tv : Pr 1 g c.tv c.text.length (bs c.text)
  kd : c.kd < 256
  num : c.num < 18446744073709551616
  key : c.key.length ≤ 100000000
  text : c.text.length ≤ 100000000
structure Rf.ok (r : Rf) (g : Hl) : Prop where
  L : Pr 4 g (.slice r.aL r.L.length r.cL) r.L.length (rcC r.L)
  cells : ∀ c ∈ r.L, c.ok g
  few : r.L.length ≤ 1000000
  mem : Pr 1 g (.slice r.aJ 64 r.cJ) 64 (r.mem.map Value.bool)
  ret : Pr 1 g (.slice r.aR 64 r.cR) 64 (r.ret.map Value.bool)
  hv : Pr 1 g (.slice r.aH 64 r.cH) 64 (us r.hv)
  lm : r.mem.length = 64
  lr : r.ret.length = 64
  lh : r.hv.length = 64
  hlt : ∀ x ∈ r.hv, x < 18446744073709551616
  tm : r.tm < 18446744073709551616
  mark : r.mark < 18446744073709551616
theorem Rc.ok.mono {c : Rc} {g g' : Hl} (h : c.ok g) (hg : Hl.le g g') : c.ok g' := ⟨h.tv.mono hg, h.kd, h.num, h.key, h.text⟩
theorem Rf.ok.mono {r : Rf} {g g' : Hl} (h : r.ok g) (hg : Hl.le g g') : r.ok g' := ⟨h.L.mono hg, fun c hc => (h.cells c hc).mono hg, h.few, h.mem.mono hg, h.ret.mono hg, h.hv.mono hg, h.lm, h.lr, h.lh, h.hlt, h.tm, h.mark⟩
/-- A key's place: how many stand ahead. -/
def fpos (L : List Rc) (k : List UInt8) : Nat := (L.takeWhile fun c => decide (c.key < k)).length
def fhas (L : List Rc) (k : List UInt8) : Bool := (L[fpos L k]?.map fun c => decide (c.key = k)).getD false
theorem fpos_le (L : List Rc) (k : List UInt8) : fpos L k ≤ L.length := (List.takeWhile_sublist _).length_le
theorem fpos_eq : ∀ (L : List Rc) (k : List UInt8) (i : Nat), i ≤ L.length → (∀ q, (h : q < L.length) → q < i → L[q].key < k) → (i = L.length ∨ ∃ h : i < L.length, ¬ L[i].key < k) → fpos L k = i
  | [], k, i, h, _, _ => by simp only [List.length_nil] at h; simp [fpos]; omega
  | c :: L, k, 0, _, _, h => by
    rcases h with h | ⟨_, h⟩
    · simp at h
    · have : ¬ c.key < k := by simpa using h
      simp [fpos, this]
  | c :: L, k, i + 1, h1, h2, h3 => by
    have h0 : c.key < k := h2 0 (by simp) (by omega)
    have ih := fpos_eq L k i (by simpa using h1) (fun q hq hqi => h2 (q + 1) (by simpa using hq) (by omega)) (by
      rcases h3 with h3 | ⟨h3, h4⟩
      · left; simpa using h3
      · right; exact ⟨by simpa using h3, by simpa using h4⟩)
    unfold fpos at ih ⊢
    rw [List.takeWhile_cons_of_pos (by simpa using h0), List.length_cons, ih]

set_option maxHeartbeats 3200000 in
set_option maxRecDepth 100000 in
theorem find_any {R : Ending → World → Prop} {W w : World} {g : Hl} {H : List HP} {r : Rf} {k : List UInt8} (hr : r.ok g) (hs : Sat W w g H)
    (hR : ∀ w', Sat W w' g H → R (.returned (.tuple #[.int .i64 (fpos r.L k), .bool (fhas r.L k)])) w') : Calls Tryz.prog 82 #[r.val, .string ⟨k.toArray⟩] w R := by
  have HR := Lib.hid hR
  clear hR
  have ag1 := ag_rc
  have ag2 := ag_rf
  have hfew := hr.few
  simp only [Rf.val, Rf.cs]
  refine C.calls (args := [.agg #[.slice r.aL r.L.length r.cL, .slice r.aJ 64 r.cJ, .slice r.aR 64 r.cR, .slice r.aH 64 r.cH, .int .u64 r.tm, .int .i64 r.wr, .int .u64 r.mark], .string ⟨k.toArray⟩]) Tryz.func82 rfl rfl rfl ?_
  refine go ?_
  refine E.bx hs ?_
  intro b2 w1 hs
  refine gob ?_
  refine C.cut (fun i : Nat => [(1, .string ⟨k.toArray⟩), (2, .pointer (some ⟨b2, 0, none⟩)), (6, .int .i64 i)]) (fun i w => fpos r.L k = i ∧ Sat W w g (blk b2 [.slice r.aL r.L.length r.cL, .slice r.aJ 64 r.cJ, .slice r.aR 64 r.cR, .slice r.aH 64 r.cH, .int .u64 r.tm, .int .i64 r.wr, .int .u64 r.mark] 58 :: H)) ?_ ?_
  · refine C.block ?_
    refine C.lp (fun i : Nat => [(1, .string ⟨k.toArray⟩), (2, .pointer (some ⟨b2, 0, none⟩)), (6, .int .i64 i)]) (fun gk i w => gk = r.L.length - i ∧ i ≤ r.L.length ∧ (∀ q, (h : q < r.L.length) → q < i → r.L[q].key < k) ∧ Sat W w g (blk b2 [.slice r.aL r.L.length r.cL, .slice r.aJ 64 r.cJ, .slice r.aR 64 r.cR, .slice r.aH 64 r.cH, .int .u64 r.tm, .int .i64 r.wr, .int .u64 r.mark] 58 :: H)) r.L.length 0 ⟨rfl, Nat.zero_le _, fun q h h2 => by omega, hs⟩ ?_
    clear hs
    rintro gk i w2 ⟨rfl, hi, hq, hs⟩
    refine go ?_
    cases hlt : decide ((i : Int) < r.L.length) with
    | true =>
      have hil : i < r.L.length := by have := of_decide_eq_true hlt; omega
      clear hlt
      refine go ?_
      refine E.ixs el_rc hs hr.L i ?_
      intro b5 o5 hr5
      rw [rcC_at hil] at hr5
      have c0 : w2.cell? ⟨b5, o5, none⟩ = some (.string ⟨r.L[i].key.toArray⟩) := hr5 0 _ rfl
      refine go ?_
      rw [Go.Proofs.bytesLess_eq]
      cases hk : decide (r.L[i].key < k) with
      | true =>
        have hk := of_decide_eq_true hk
        refine go ?_
        refine A.rd (r.L.length - (i + 1)) (i + 1) ⟨rfl, by omega, fun q hq2 hqi => ?_, hs⟩
        rcases Nat.lt_or_ge q i with h | h
        · exact hq q hq2 h
        · obtain rfl : q = i := by omega
          exact hk
      | false =>
        have hk := of_decide_eq_false hk
        refine go ?_
        exact A.mt i ⟨fpos_eq _ _ _ hi hq (.inr ⟨hil, hk⟩), hs⟩
    | false =>
      have hil : i = r.L.length := by have := of_decide_eq_false hlt; omega
      refine go ?_
      exact A.mt i ⟨fpos_eq _ _ _ hi hq (.inl hil), hs⟩
  clear hs
  rintro i w3 ⟨hfi, hs⟩
  have hil := fpos_le r.L k
  rw [hfi] at hil
  have hh : fhas r.L k = (r.L[i]?.map fun c => decide (c.key = k)).getD false := by rw [fhas, hfi]
  replace hh := Lib.hid hh
  have HR2 : ∀ w', Sat W w' g H → R (.returned (.tuple #[.int .i64 i, .bool (fhas r.L k)])) w' := by rw [← hfi]; exact HR.out
  clear HR
  have HR := Lib.hid HR2
  clear HR2 hfi
  rcases Nat.lt_or_ge i r.L.length with hlt | hge
  · obtain ⟨by_, oy, hya⟩ := pr_some hr.L (by omega)
    have hL := hr.L
    rw [hya] at hL hs
    clear hya
    have hj : (rcC r.L)[i * 4]? = some (.string ⟨r.L[i].key.toArray⟩) := by
      have := congrArg (fun l : List Value => l[0]?) (rcC_at hlt)
      simp only [List.getElem?_take, List.getElem?_drop] at this
      simpa [Rc.cs] using this
    refine go ?_
    refine C.held1 b2 hs ?_
    intro w4 hk hs
    have rd := Rd.pool (F := [(b2, [.slice (some ⟨by_, oy, none⟩) r.L.length r.cL, .slice r.aJ 64 r.cJ, .slice r.aR 64 r.cR, .slice r.aH 64 r.cH, .int .u64 r.tm, .int .i64 r.wr, .int .u64 r.mark], 58)]) hL hj
    refine goh ?_
    rw [show decide ((i : Int) < r.L.length) = true from decide_eq_true (by omega)]
    refine goh ?_
    refine EH.done ?_
    refine go ?_
    have e1 : decide (r.L[i].key = k) = fhas r.L k := by rw [hh.out, List.getElem?_eq_getElem hlt]; rfl
    rw [e1]
    refine A.r2 ?_
    exact HR.out _ hs.drop
  · refine go ?_
    refine C.held1 b2 hs ?_
    intro w4 hk hs
    refine goh ?_
    rw [show decide ((i : Int) < r.L.length) = false from decide_eq_false (by omega)]
    refine goh ?_
    refine EH.done ?_
    refine go ?_
    have e1 : fhas r.L k = false := by rw [hh.out, List.getElem?_eq_none (by omega)]; rfl
    refine A.r2 ?_
    have := HR.out w4 hs.drop
    rw [e1] at this
    exact this
end Go.Proofs.YtkolnecahlkndaaGreat

/-
  The reference of layer 11: put.
-/
namespace Go.Proofs.YtkolnecahlkndaaGreat
open Go.RowKit
set_option linter.unusedVariables false
set_option linter.unusedSimpArgs false

/-- A list in which a key has that. -/
def fput (L : List Rc) (c : Rc) : List Rc := L.take (fpos L c.key) ++ c :: L.drop (fpos L c.key + if fhas L c.key = true then 1 else 0)
theorem Rc.cs_one {c : Rc} {g : Hl} (h : c.ok g) : ∀ u ∈ c.cs, u.oneCell' = true := by
  obtain ⟨a, d, he, _, _⟩ := h.tv.len
  intro u hu
  simp only [Rc.cs, List.mem_cons, List.not_mem_nil, or_false] at hu
  rcases hu with rfl | rfl | rfl | rfl
  · rfl
  · rfl
  · rw [he]; rfl
  · rfl
theorem rcC_one {l : List Rc} {g : Hl} (h : ∀ c ∈ l, c.ok g) : ∀ u ∈ rcC l, u.oneCell' = true := by
  intro u hu
  obtain ⟨c, hc, hu⟩ := List.mem_flatMap.1 hu
  exact Rc.cs_one (h c hc) u hu
theorem fhas_lt {L : List Rc} {k : List UInt8} (h : fhas L k = true) : fpos L k < L.length := by
  rcases Nat.lt_or_ge (fpos L k) L.length with h1 | h1
  · exact h1
  · rw [fhas, List.getElem?_eq_none h1] at h
    cases h

set_option maxHeartbeats 3200000 in
set_option maxRecDepth 100000 in
theorem put_any {R : Ending → World → Prop} {W w : World} {g : Hl} {H : List HP} {r : Rf} {c : Rc} (hr : r.ok g) (hc : c.ok g) (hs : Sat W w g H)
    (hR : ∀ a' c' w' g', Hl.le g g' → Pr 4 g' (.slice a' (fput r.L c).length c') (fput r.L c).length (rcC (fput r.L c)) → Sat W w' g' H → R (.returned (.agg #[.slice a' (fput r.L c).length c', .slice r.aJ 64 r.cJ, .slice r.aR 64 r.cR, .slice r.aH 64 r.cH, .int .u64 r.tm, .int .i64 r.wr, .int .u64 r.mark])) w') :
    Calls Tryz.prog 80 #[r.val, .agg c.cs.toArray] w R := by
  have HR := Lib.hid hR
  clear hR
  have ag1 := ag_rc
  have ag2 := ag_rf
  have hfew := hr.few
  have hpl := fpos_le r.L c.key
  simp only [Rf.val, Rf.cs, Rc.cs]
  refine C.calls (args := [.agg #[.slice r.aL r.L.length r.cL, .slice r.aJ 64 r.cJ, .slice r.aR 64 r.cR, .slice r.aH 64 r.cH, .int .u64 r.tm, .int .i64 r.wr, .int .u64 r.mark], .agg #[.string ⟨c.key.toArray⟩, .int .u8 c.kd, c.tv, .float .f64 c.num]]) Tryz.func80 rfl rfl rfl ?_
  refine go ?_
  refine E.bx hs ?_
  intro b2 w1 hs
  refine go ?_
  refine E.bx hs (xs := [.string ⟨c.key.toArray⟩, .int .u8 c.kd, c.tv, .float .f64 c.num]) ?_ (hx := rfl)
  intro b3 w2 hs
  refine go ?_
  refine E.al hs ?_
  intro b4 w3 hs
  refine go ?_
  refine E.callf Tryz.func82 rfl ?_
  refine find_any (r := r) (k := c.key) hr hs ?_
  intro w4 hs
  refine go ?_
  refine E.slp el_rc hr.L 0 (fpos r.L c.key) ?_
  intro a5 c5 hp5
  simp only [Nat.zero_mul, List.drop_zero, Nat.sub_zero, rcC_take] at hp5 ⊢
  refine E.app el_rc hs.nilOwn (hp5.row hs) ?_ (h1 := rcC_one fun x hx => hr.cells x (List.mem_of_mem_take hx))
  intro a6 c6 w6 _ _ hs
  simp only [Nat.zero_add, List.nil_append] at hs ⊢
  refine go ?_
  refine E.bsle el_rc hs (cs := c.cs) rfl ?_
  intro b7 w7 hs
  refine E.app el_rc hs.swap (hs.rowOf (size := 4) 1 rfl (by decide)) ?_ (h1 := Rc.cs_one hc)
  intro a8 c8 w8 _ _ hs
  refine go ?_
  have hq : fpos r.L c.key + (if fhas r.L c.key = true then 1 else 0) ≤ r.L.length := by
    split
    · rename_i h
      have := fhas_lt h
      omega
    · omega
  refine C.cut (fun _ : Unit => [(2, .pointer (some ⟨b2, 0, none⟩)), (4, .pointer (some ⟨b4, 0, none⟩)), (5, .int .i64 ((fpos r.L c.key + (if fhas r.L c.key = true then 1 else 0) : Nat) : Int)), (7, .slice a8 (fpos r.L c.key + 1) c8)])
    (fun _ w => Sat W w g (own 72 4 (.slice a8 (fpos r.L c.key + 1) c8) (fpos r.L c.key + 1) (rcC (r.L.take (fpos r.L c.key)) ++ c.cs) :: blk b4 [.slice none 0 0, .slice none 0 0, .slice none 0 0, .slice none 0 0, .int .u64 0, .int .i64 0, .int .u64 0] 58 :: blk b2 [.slice r.aL r.L.length r.cL, .slice r.aJ 64 r.cJ, .slice r.aR 64 r.cR, .slice r.aH 64 r.cH, .int .u64 r.tm, .int .i64 r.wr, .int .u64 r.mark] 58 :: H)) ?_ ?_
  · have hs2 := hs.swap.drop.pull2.drop
    cases hf : fhas r.L c.key with
    | true =>
      refine go ?_
      exact A.mt () hs2
    | false =>
      refine go ?_
      exact A.mt () hs2
  clear hs
  rintro _ w9 hs
  generalize hqq : fpos r.L c.key + (if fhas r.L c.key = true then 1 else 0) = q at hq ⊢
  have hput : fput r.L c = (r.L.take (fpos r.L c.key) ++ [c]) ++ r.L.drop q := by rw [fput, hqq]; simp
  replace hqq := Lib.hid hqq
  replace hput := Lib.hid hput
  refine go ?_
  refine E.slp el_rc hr.L q r.L.length ?_
  intro a10 c10 hp10
  rw [rcC_drop, rcC_take, List.take_of_length_le (by rw [List.length_drop]; omega)] at hp10
  refine E.app el_rc hs (hp10.row hs) ?_ (h1 := rcC_one fun x hx => hr.cells x (List.mem_of_mem_drop hx))
  intro a11 c11 w11 _ _ hs
  have el : fpos r.L c.key + 1 + (r.L.length - q) = (fput r.L c).length := by
    rw [hput.out]
    simp only [List.length_append, List.length_take, List.length_drop, List.length_cons, List.length_nil]
    omega
  have ec : rcC (r.L.take (fpos r.L c.key)) ++ c.cs ++ rcC (r.L.drop q) = rcC (fput r.L c) := by
    rw [hput.out, rcC_append, rcC_append]
    simp [rcC]
  rw [el, ec] at hs
  rw [el]
  clear el ec hput
  refine go ?_
  refine E.sto (vs := [.slice a11 (fput r.L c).length c11]) (ys := [.slice a11 (fput r.L c).length c11, .slice r.aJ 64 r.cJ, .slice r.aR 64 r.cR, .slice r.aH 64 r.cH, .int .u64 r.tm, .int .i64 r.wr, .int .u64 r.mark]) hs ?_ (hv := rfl) (hsp := rfl)
  intro w12 hs
  refine go ?_
  refine E.sto (vs := [.slice a11 (fput r.L c).length c11, .slice r.aJ 64 r.cJ, .slice r.aR 64 r.cR, .slice r.aH 64 r.cH, .int .u64 r.tm, .int .i64 r.wr, .int .u64 r.mark]) (ys := [.slice a11 (fput r.L c).length c11, .slice r.aJ 64 r.cJ, .slice r.aR 64 r.cR, .slice r.aH 64 r.cH, .int .u64 r.tm, .int .i64 r.wr, .int .u64 r.mark]) hs ?_ (hv := rfl) (hsp := rfl)
  intro w13 hs
  refine go ?_
  refine A.c1 rfl rfl (run_lda hs ag_rf) ?_
  obtain ⟨g14, hg14, hp14, hs⟩ := hs.publishOwn
  exact HR.out a11 c11 _ g14 hg14 hp14 hs.drop.drop
end Go.Proofs.YtkolnecahlkndaaGreat

/-
  The reference of layer 11: drop.
-/
namespace Go.Proofs.YtkolnecahlkndaaGreat
open Go.RowKit
set_option linter.unusedVariables false
set_option linter.unusedSimpArgs false

/-- A list in which a key has nothing. -/
def fdrop (L : List Rc) (k : List UInt8) : List Rc := if fhas L k = true then L.take (fpos L k) ++ L.drop (fpos L k + 1) else L

set_option maxHeartbeats 3200000 in
set_option maxRecDepth 100000 in
theorem drop_any {R : Ending → World → Prop} {W w : World} {g : Hl} {H : List HP} {r : Rf} {k : List UInt8} (hr : r.ok g) (hs : Sat W w g H)
    (hR : ∀ a' c' w' g', Hl.le g g' → Pr 4 g' (.slice a' (fdrop r.L k).length c') (fdrop r.L k).length (rcC (fdrop r.L k)) → Sat W w' g' H → R (.returned (.agg #[.slice a' (fdrop r.L k).length c', .slice r.aJ 64 r.cJ, .slice r.aR 64 r.cR, .slice r.aH 64 r.cH, .int .u64 r.tm, .int .i64 r.wr, .int .u64 r.mark])) w') :
    Calls Tryz.prog 83 #[r.val, .string ⟨k.toArray⟩] w R := by
  have HR := Lib.hid hR
  clear hR
  have ag1 := ag_rc
  have ag2 := ag_rf
  have hfew := hr.few
  have hpl := fpos_le r.L k
  simp only [Rf.val, Rf.cs]
  refine C.calls (args := [.agg #[.slice r.aL r.L.length r.cL, .slice r.aJ 64 r.cJ, .slice r.aR 64 r.cR, .slice r.aH 64 r.cH, .int .u64 r.tm, .int .i64 r.wr, .int .u64 r.mark], .string ⟨k.toArray⟩]) Tryz.func83 rfl rfl rfl ?_
  refine go ?_
  refine E.bx hs ?_
  intro b2 w1 hs
  refine go ?_
  refine E.al hs ?_
  intro b4 w3 hs
  refine go ?_
  refine E.callf Tryz.func82 rfl ?_
  refine find_any (r := r) (k := k) hr hs ?_
  intro w4 hs
  refine go ?_
  cases hf : fhas r.L k with
  | true =>
    have hlt := fhas_lt hf
    have hdr : fdrop r.L k = r.L.take (fpos r.L k) ++ r.L.drop (fpos r.L k + 1) := by rw [fdrop, if_pos hf]
    replace hdr := Lib.hid hdr
    clear hf
    refine go ?_
    refine E.slp el_rc hr.L 0 (fpos r.L k) ?_
    intro a5 c5 hp5
    simp only [Nat.zero_mul, List.drop_zero, Nat.sub_zero, rcC_take] at hp5 ⊢
    refine E.app el_rc hs.nilOwn (hp5.row hs) ?_ (h1 := rcC_one fun x hx => hr.cells x (List.mem_of_mem_take hx))
    intro a6 c6 w6 _ _ hs
    simp only [Nat.zero_add, List.nil_append] at hs ⊢
    refine go ?_
    refine E.slp el_rc hr.L (fpos r.L k + 1) r.L.length ?_
    intro a10 c10 hp10
    rw [rcC_drop, rcC_take, List.take_of_length_le (by rw [List.length_drop]; omega)] at hp10
    refine E.app el_rc hs (hp10.row hs) ?_ (h1 := rcC_one fun x hx => hr.cells x (List.mem_of_mem_drop hx))
    intro a11 c11 w11 _ _ hs
    have el : fpos r.L k + (r.L.length - (fpos r.L k + 1)) = (fdrop r.L k).length := by
      rw [hdr.out]
      simp only [List.length_append, List.length_take, List.length_drop]
      omega
    have ec : rcC (r.L.take (fpos r.L k)) ++ rcC (r.L.drop (fpos r.L k + 1)) = rcC (fdrop r.L k) := by rw [hdr.out, rcC_append]
    rw [el, ec] at hs
    rw [el]
    clear el ec hdr
    refine go ?_
    refine E.sto (vs := [.slice a11 (fdrop r.L k).length c11]) (ys := [.slice a11 (fdrop r.L k).length c11, .slice r.aJ 64 r.cJ, .slice r.aR 64 r.cR, .slice r.aH 64 r.cH, .int .u64 r.tm, .int .i64 r.wr, .int .u64 r.mark]) hs ?_ (hv := rfl) (hsp := rfl)
    intro w12 hs
    refine go ?_
    refine E.sto (vs := [.slice a11 (fdrop r.L k).length c11, .slice r.aJ 64 r.cJ, .slice r.aR 64 r.cR, .slice r.aH 64 r.cH, .int .u64 r.tm, .int .i64 r.wr, .int .u64 r.mark]) (ys := [.slice a11 (fdrop r.L k).length c11, .slice r.aJ 64 r.cJ, .slice r.aR 64 r.cR, .slice r.aH 64 r.cH, .int .u64 r.tm, .int .i64 r.wr, .int .u64 r.mark]) hs ?_ (hv := rfl) (hsp := rfl)
    intro w13 hs
    refine go ?_
    refine A.c1 rfl rfl (run_lda hs ag_rf) ?_
    obtain ⟨g14, hg14, hp14, hs⟩ := hs.publishOwn
    exact HR.out a11 c11 _ g14 hg14 hp14 hs.drop.drop
  | false =>
    have hdr : fdrop r.L k = r.L := by rw [fdrop, if_neg (by rw [hf]; decide)]
    rw [hdr] at HR
    clear hf hdr
    refine go ?_
    refine E.sto (vs := [.slice r.aL r.L.length r.cL, .slice r.aJ 64 r.cJ, .slice r.aR 64 r.cR, .slice r.aH 64 r.cH, .int .u64 r.tm, .int .i64 r.wr, .int .u64 r.mark]) (ys := [.slice r.aL r.L.length r.cL, .slice r.aJ 64 r.cJ, .slice r.aR 64 r.cR, .slice r.aH 64 r.cH, .int .u64 r.tm, .int .i64 r.wr, .int .u64 r.mark]) hs ?_ (hv := rfl) (hsp := rfl)
    intro w13 hs
    refine go ?_
    refine A.c1 rfl rfl (run_lda hs ag_rf) ?_
    exact HR.out r.aL r.cL _ g (Hl.le_refl _) hr.L hs.drop.drop
end Go.Proofs.YtkolnecahlkndaaGreat

/-
  The reference of layer 11, plain: lists that rise, and those of a fold.
-/
namespace Go.Proofs.YtkolnecahlkndaaGreat
open Go.RowKit
set_option linter.unusedVariables false
set_option linter.unusedSimpArgs false

def Rc.pr (c : Rc) : List UInt8 × Ce := (c.key, ⟨c.kd, c.text, bitsF c.num⟩)
def UpK (L : List Rc) : Prop := L.Pairwise fun a b => a.key < b.key
theorem key_irrefl (a : List UInt8) : ¬ a < a := List.lt_irrefl a
theorem key_le_lt {a b c : List UInt8} (h1 : ¬ b < a) (h2 : b < c) : a < c := List.lt_of_le_of_lt h1 h2

theorem fpos_cons_lt {c : Rc} {L : List Rc} {k : List UInt8} (h : c.key < k) : fpos (c :: L) k = fpos L k + 1 ∧ fhas (c :: L) k = fhas L k := by
  have e : fpos (c :: L) k = fpos L k + 1 := by
    unfold fpos
    rw [List.takeWhile_cons_of_pos (by simpa using h), List.length_cons]
  refine ⟨e, ?_⟩
  unfold fhas
  rw [e, List.getElem?_cons_succ]
theorem fpos_cons_ge {c : Rc} {L : List Rc} {k : List UInt8} (h : ¬ c.key < k) : fpos (c :: L) k = 0 ∧ fhas (c :: L) k = decide (c.key = k) := by
  have e : fpos (c :: L) k = 0 := by
    unfold fpos
    rw [List.takeWhile_cons_of_neg (by simpa using h)]
    rfl
  refine ⟨e, ?_⟩
  unfold fhas
  rw [e]
  rfl
theorem filter_ne : ∀ (L : List Rc) (k : List UInt8), UpK L → (L.filter fun c => decide (c.key ≠ k)) = L.take (fpos L k) ++ L.drop (fpos L k + if fhas L k = true then 1 else 0)
  | [], k, _ => by simp
  | c :: L, k, hu => by
    obtain ⟨h1, h2⟩ := List.pairwise_cons.1 hu
    by_cases h : c.key < k
    · obtain ⟨e1, e2⟩ := fpos_cons_lt (L := L) h
      have hne : c.key ≠ k := fun e => key_irrefl k (e ▸ h)
      rw [e1, e2, List.filter_cons_of_pos (by simpa using hne), filter_ne L k h2, List.take_succ_cons]
      rw [show fpos L k + 1 + (if fhas L k = true then 1 else 0) = (fpos L k + if fhas L k = true then 1 else 0) + 1 by omega, List.drop_succ_cons, List.cons_append]
    · obtain ⟨e1, e2⟩ := fpos_cons_ge (L := L) h
      have hall : (L.filter fun c => decide (c.key ≠ k)) = L := List.filter_eq_self.2 fun x hx => by
        have h3 := key_le_lt h (h1 x hx)
        have : x.key ≠ k := fun e => key_irrefl k (e ▸ h3)
        simpa using this
      rw [e1, e2]
      by_cases hk : c.key = k
      · rw [List.filter_cons_of_neg (by simpa using hk), hall]
        simp [hk]
      · rw [List.filter_cons_of_pos (by simpa using hk), hall]
        simp [hk]

theorem aput_perm {β : Type} (k : List UInt8) (v : β) : ∀ (l : List (List UInt8 × β)), (l.map Prod.fst).Nodup → (aput k v l).Perm ((k, v) :: l.filter fun p => decide (p.1 ≠ k))
  | [], _ => List.Perm.refl _
  | (a, u) :: r, h => by
    simp only [List.map_cons, List.nodup_cons] at h
    simp only [aput]
    by_cases e : k = a
    · subst e
      have hall : (r.filter fun p => decide (p.1 ≠ k)) = r := List.filter_eq_self.2 fun x hx => by
        have : x.1 ≠ k := fun e => h.1 (e ▸ List.mem_map_of_mem hx)
        simpa using this
      rw [if_pos rfl, List.filter_cons_of_neg (by simp), hall]
    · rw [if_neg e, List.filter_cons_of_pos (by simpa using fun h => e h.symm)]
      exact ((aput_perm k v r h.2).cons _).trans (.swap _ _ _)
theorem adrop_filter {β : Type} (k : List UInt8) : ∀ (l : List (List UInt8 × β)), (l.map Prod.fst).Nodup → adrop k l = l.filter fun p => decide (p.1 ≠ k)
  | [], _ => rfl
  | (a, u) :: r, h => by
    simp only [List.map_cons, List.nodup_cons] at h
    simp only [adrop]
    by_cases e : k = a
    · subst e
      have hall : (r.filter fun p => decide (p.1 ≠ k)) = r := List.filter_eq_self.2 fun x hx => by
        have : x.1 ≠ k := fun e => h.1 (e ▸ List.mem_map_of_mem hx)
        simpa using this
      rw [if_pos rfl, List.filter_cons_of_neg (by simp), hall]
    · rw [if_neg e, List.filter_cons_of_pos (by simpa using fun h => e h.symm), adrop_filter k r h.2]

theorem key_tri {a b : List UInt8} (h1 : ¬ b < a) (h2 : a ≠ b) : a < b := by
  rcases Decidable.em (a < b) with h | h
  · exact h
  · exact absurd (List.le_antisymm (show a ≤ b from h1) (show b ≤ a from h)) h2
theorem fput_cons_lt {c d : Rc} {L : List Rc} (h : d.key < c.key) : fput (d :: L) c = d :: fput L c := by
  obtain ⟨e1, e2⟩ := fpos_cons_lt (L := L) h
  unfold fput
  rw [e1, e2, List.take_succ_cons, show fpos L c.key + 1 + (if fhas L c.key = true then 1 else 0) = (fpos L c.key + if fhas L c.key = true then 1 else 0) + 1 by omega, List.drop_succ_cons, List.cons_append]
theorem fput_mem {L : List Rc} {c x : Rc} (h : x ∈ fput L c) : x = c ∨ x ∈ L := by
  unfold fput at h
  rcases List.mem_append.1 h with h | h
  · exact .inr (List.mem_of_mem_take h)
  · rcases List.mem_cons.1 h with h | h
    · exact .inl h
    · exact .inr (List.mem_of_mem_drop h)
theorem up_put : ∀ {L : List Rc} {c : Rc}, UpK L → UpK (fput L c)
  | [], c, _ => by simp [fput, UpK]
  | d :: L, c, hu => by
    obtain ⟨h1, h2⟩ := List.pairwise_cons.1 hu
    by_cases h : d.key < c.key
    · rw [fput_cons_lt h]
      refine List.pairwise_cons.2 ⟨fun x hx => ?_, up_put h2⟩
      rcases fput_mem hx with rfl | hx
      · exact h
      · exact h1 x hx
    · obtain ⟨e1, e2⟩ := fpos_cons_ge (L := L) h
      by_cases hk : d.key = c.key
      · have e3 : fput (d :: L) c = c :: L := by simp [fput, e1, e2, hk]
        rw [e3]
        exact List.pairwise_cons.2 ⟨fun x hx => hk ▸ h1 x hx, h2⟩
      · have e3 : fput (d :: L) c = c :: d :: L := by simp [fput, e1, e2, hk]
        have h4 : c.key < d.key := key_tri h (fun e => hk e.symm)
        rw [e3]
        refine List.pairwise_cons.2 ⟨fun x hx => ?_, hu⟩
        rcases List.mem_cons.1 hx with rfl | hx
        · exact h4
        · exact key_le_lt h (h1 x hx)
theorem fdrop_eq {L : List Rc} {k : List UInt8} (hu : UpK L) : fdrop L k = L.filter fun c => decide (c.key ≠ k) := by
  rw [filter_ne L k hu]
  unfold fdrop
  split
  · rfl
  · rw [Nat.add_zero, List.take_append_drop]
/-- A list that rises has what a fold has. -/
def Rl (L : List Rc) (cells : List (List UInt8 × Ce)) : Prop := (L.map Rc.pr).Perm cells ∧ UpK L
theorem pr_filter (L : List Rc) (k : List UInt8) : (L.filter fun c => decide (c.key ≠ k)).map Rc.pr = (L.map Rc.pr).filter fun p => decide (p.1 ≠ k) := by
  rw [List.filter_map]
  rfl
theorem Rl.put {L : List Rc} {cells : List (List UInt8 × Ce)} {c : Rc} (h : Rl L cells) (hn : (cells.map Prod.fst).Nodup) : Rl (fput L c) (aput c.key c.pr.2 cells) := by
  refine ⟨?_, up_put h.2⟩
  have e1 := aput_perm c.key c.pr.2 cells hn
  have e2 : ((fput L c).map Rc.pr).Perm (c.pr :: (L.filter fun d => decide (d.key ≠ c.key)).map Rc.pr) := by
    rw [filter_ne L c.key h.2, fput]
    simp only [List.map_append, List.map_cons]
    exact List.perm_middle
  rw [pr_filter] at e2
  exact e2.trans (((h.1.filter _).cons _).trans e1.symm)
theorem Rl.drop {L : List Rc} {cells : List (List UInt8 × Ce)} {k : List UInt8} (h : Rl L cells) (hn : (cells.map Prod.fst).Nodup) : Rl (fdrop L k) (adrop k cells) := by
  rw [fdrop_eq h.2, adrop_filter k cells hn]
  refine ⟨?_, h.2.filter _⟩
  rw [pr_filter]
  exact h.1.filter _
end Go.Proofs.YtkolnecahlkndaaGreat

/-
  The reference of layer 11: nodes as a number; a vector's place.
-/
namespace Go.Proofs.YtkolnecahlkndaaGreat
open Go.RowKit
set_option linter.unusedVariables false
set_option linter.unusedSimpArgs false

theorem el_bools : ElemOf Tryz.prog 54 4 (.bool false) 1 1 := .of Tryz.underlying54 (by kernel_rfl) rfl (by decide)
theorem maskN_add (l : List Bool) (i : Nat) (h : l.getD i false = true) : maskN l (i + 1) = maskN l i + 2 ^ i := by
  have h1 := maskN_lt l i
  have h2 := Nat.two_pow_add_eq_or_of_lt h1 1
  simp only [Nat.mul_one] at h2
  simp only [maskN, h, if_true]
  rw [Nat.or_comm, ← h2, Nat.add_comm]

set_option maxHeartbeats 1600000 in
set_option maxRecDepth 100000 in
theorem nodes_any {R : Ending → World → Prop} {W w : World} {g : Hl} {H : List HP} {a : Option Addr} {c : Nat} {l : List Bool} (hp : Pr 1 g (.slice a 64 c) 64 (l.map Value.bool)) (hl : l.length = 64) (hs : Sat W w g H)
    (hR : ∀ w', Sat W w' g H → R (.returned (.int .u64 (maskN l 64))) w') : Calls Tryz.prog 56 #[.slice a 64 c] w R := by
  have HR := Lib.hid hR
  clear hR
  refine C.calls (args := [.slice a 64 c]) Tryz.func56 rfl rfl rfl ?_
  refine gob ?_
  refine C.cut (fun _ : Unit => [(3, .int .u64 (maskN l 64))]) (fun _ w => Sat W w g H) ?_ ?_
  · refine C.block ?_
    refine C.lp (fun i : Nat => [(0, .slice a 64 c), (3, .int .u64 (maskN l i)), (4, .int .i64 i)]) (fun gk i w => gk = 64 - i ∧ i ≤ 64 ∧ Sat W w g H) 64 0 ⟨rfl, Nat.zero_le _, hs⟩ ?_
    clear hs
    rintro gk i w2 ⟨rfl, hi, hs⟩
    refine go ?_
    refine C.cond_dec (p := (i : Int) < 64) rfl (fun h => ?_) (fun h => ?_)
    · have hil : i < 64 := by omega
      have hm := maskN_lt l i
      have hp2 : 2 ^ i < 18446744073709551616 := by
        have h1 : 2 ^ i < 2 ^ 64 := Nat.pow_lt_pow_right (by decide) hil
        exact h1
      have hm2 : maskN l (i + 1) < 18446744073709551616 := by
        have h1 := maskN_lt l (i + 1)
        have h2 : 2 ^ (i + 1) ≤ 2 ^ 64 := Nat.pow_le_pow_right (by decide) (by omega)
        exact Nat.lt_of_lt_of_le h1 h2
      have hget : (l.map Value.bool)[i]? = some (.bool (l.getD i false)) := by
        rw [List.getElem?_map, List.getD_eq_getElem?_getD, List.getElem?_eq_getElem (by omega)]
        rfl
      refine go ?_
      refine E.ix el_bools hs hp i hget ?_
      intro b5 o5 hc5
      refine go ?_
      cases hb : l.getD i false with
      | true =>
        have hadd := maskN_add l i hb
        have hm3 : maskN l i + 2 ^ i < 18446744073709551616 := by omega
        have hadd := Lib.hid hadd
        rw [hb] at hc5
        clear hget
        refine go ?_
        rw [Nat.one_mul, ← hadd.out]
        exact A.rd (64 - (i + 1)) (i + 1) ⟨rfl, by omega, hs⟩
      | false =>
        refine go ?_
        refine A.rd (64 - (i + 1)) (i + 1) ⟨rfl, by omega, hs⟩ (hw := ?_)
        simp only [maskN, hb, Bool.false_eq_true, if_false]
        exact wk_
    · obtain rfl : i = 64 := by omega
      refine go ?_
      exact A.mt () hs
  clear hs
  rintro _ w4 hs
  refine go ?_
  refine A.r1 ?_
  exact HR.out _ hs
end Go.Proofs.YtkolnecahlkndaaGreat

/-
  The reference of layer 7: vectors that agree.
-/
namespace Go.Proofs.YtkolnecahlkndaaGreat
open Go.RowKit
set_option linter.unusedVariables false
set_option linter.unusedSimpArgs false

set_option maxHeartbeats 1600000 in
set_option maxRecDepth 100000 in
theorem rget_any {R : Ending → World → Prop} {W w : World} {g : Hl} {H : List HP} {a : Option Addr} {n c : Nat} {v : List Nat} {i : Nat} (hs : Sat W w g H) (hp : Pr 1 g (.slice a n c) n (us v)) (hn : v.length = n) (hn2 : n ≤ 1000000000)
    (hR : R (.returned (.int .u64 (vget v i))) w) : Calls Tryz.prog 59 #[.slice a n c, .int .i64 i] w R := by
  have HR := Lib.hid hR
  clear hR
  refine C.calls (args := [.slice a n c, .int .i64 i]) Tryz.func59 rfl rfl rfl ?_
  refine go ?_
  rw [show decide ((i : Int) < 0) = false from decide_eq_false (by omega)]
  refine go ?_
  cases h : decide ((n : Int) ≤ i) with
  | true =>
    have h := of_decide_eq_true h
    have e0 : vget v i = 0 := by
      unfold vget
      rw [if_pos (by omega), List.getD_eq_getElem?_getD, List.getElem?_eq_none (by simp; omega)]
      rfl
    rw [e0] at HR
    refine go ?_
    refine A.r1 ?_
    exact HR.out
  | false =>
    have h := of_decide_eq_false h
    have hil : i < v.length := by omega
    have e0 : vget v i = v[i] := by
      unfold vget
      rw [if_pos (by omega), List.getD_eq_getElem?_getD]
      simp [hil]
    rw [e0] at HR
    clear e0
    refine go ?_
    refine E.ix el_u64s hs hp i (us_get hil) ?_
    intro b o hc
    refine go ?_
    refine A.r1 ?_
    exact HR.out

set_option maxHeartbeats 1600000 in
set_option maxRecDepth 100000 in
theorem sameV_any {R : Ending → World → Prop} {W w : World} {g : Hl} {H : List HP} {a1 a2 : Option Addr} {n1 c1 n2 c2 : Nat} {v1 v2 : List Nat} (hs : Sat W w g H) (hp1 : Pr 1 g (.slice a1 n1 c1) n1 (us v1)) (hn1 : v1.length = n1) (hp2 : Pr 1 g (.slice a2 n2 c2) n2 (us v2)) (hn2 : v2.length = n2) (h1 : n1 ≤ 64) (h2 : n2 ≤ 64) (heq : ∀ u : Nat, vget v1 u = vget v2 u)
    (hR : ∀ w', Sat W w' g H → R (.returned (.bool true)) w') : Calls Tryz.prog 23 #[.slice a1 n1 c1, .slice a2 n2 c2] w R := by
  have HR := Lib.hid hR
  clear hR
  replace heq := Lib.hid heq
  refine C.calls (args := [.slice a1 n1 c1, .slice a2 n2 c2]) Tryz.func23 rfl rfl rfl ?_
  refine gob ?_
  refine C.cut (fun _ : Unit => []) (fun _ w => Sat W w g H) ?_ ?_
  · refine C.block ?_
    refine C.lp (fun i : Nat => [(0, .slice a1 n1 c1), (1, .slice a2 n2 c2), (5, .int .i64 i)]) (fun gk i w => gk = 64 - i ∧ i ≤ 64 ∧ Sat W w g H) 64 0 ⟨rfl, Nat.zero_le _, hs⟩ ?_
    clear hs
    rintro gk i w2 ⟨rfl, hi, hs⟩
    refine go ?_
    cases ha : decide ((i : Int) < n1) with
    | true =>
      have ha := of_decide_eq_true ha
      refine go ?_
      refine E.callf Tryz.func59 rfl ?_
      refine rget_any (i := i) hs hp1 hn1 (by omega) ?_
      refine go ?_
      refine E.callf Tryz.func59 rfl ?_
      refine rget_any (i := i) hs hp2 hn2 (by omega) ?_
      rw [← heq.out i]
      refine go ?_
      rw [show decide (((vget v1 (i : Int) : Nat) : Int) = ((vget v1 (i : Int) : Nat) : Int)) = true from decide_eq_true rfl]
      refine go ?_
      exact A.rd (64 - (i + 1)) (i + 1) ⟨rfl, by omega, hs⟩
    | false =>
      have ha := of_decide_eq_false ha
      refine go ?_
      cases hb : decide ((i : Int) < n2) with
      | true =>
        have hb := of_decide_eq_true hb
        refine go ?_
        refine E.callf Tryz.func59 rfl ?_
        refine rget_any (i := i) hs hp1 hn1 (by omega) ?_
        refine go ?_
        refine E.callf Tryz.func59 rfl ?_
        refine rget_any (i := i) hs hp2 hn2 (by omega) ?_
        rw [← heq.out i]
        refine go ?_
        rw [show decide (((vget v1 (i : Int) : Nat) : Int) = ((vget v1 (i : Int) : Nat) : Int)) = true from decide_eq_true rfl]
        refine go ?_
        exact A.rd (64 - (i + 1)) (i + 1) ⟨rfl, by omega, hs⟩
      | false =>
        refine go ?_
        exact A.mt () hs
  clear hs
  rintro _ w3 hs
  refine go ?_
  refine A.r1 ?_
  exact HR.out _ hs
end Go.Proofs.YtkolnecahlkndaaGreat

/-
  The reference of layer 7: a vector as bytes.
-/
namespace Go.Proofs.YtkolnecahlkndaaGreat
open Go.RowKit
set_option linter.unusedVariables false
set_option linter.unusedSimpArgs false

set_option maxHeartbeats 1600000 in
set_option maxRecDepth 100000 in
theorem rlayV_any {R : Ending → World → Prop} {W w : World} {g : Hl} {H : List HP} {a : Option Addr} {n c : Nat} {v : List Nat} (hs : Sat W w g H) (hp : Pr 1 g (.slice a n c) n (us v)) (hv : v.length = n) (hn : n ≤ 64) (hlt : ∀ x ∈ v, x < 18446744073709551616)
    (hR : ∀ a' c' w', Sat W w' g (own 5 1 (.slice a' (vecB v).length c') (vecB v).length (bs (vecB v)) :: H) → R (.returned (.slice a' (vecB v).length c')) w') :
    Calls Tryz.prog 53 #[.slice none 0 0, .slice a n c] w R := by
  have HR := Lib.hid hR
  clear hR
  refine C.calls (args := [.slice none 0 0, .slice a n c]) Tryz.func53 rfl rfl rfl ?_
  refine gob ?_
  refine C.cut (fun _ : Unit => [(0, .slice none 0 0), (1, .slice a n c), (5, .int .i64 (vlen v))]) (fun _ w => Sat W w g H) ?_ ?_
  · refine C.block ?_
    refine C.lp (fun m : Nat => [(0, .slice none 0 0), (1, .slice a n c), (5, .int .i64 m)]) (fun gk m w => gk = m ∧ m ≤ n ∧ (∀ k, (h : k < v.length) → m ≤ k → v[k] = 0) ∧ Sat W w g H) n n ⟨rfl, Nat.le_refl _, fun k h h2 => by omega, hs⟩ ?_
    clear hs
    rintro gk m w1 ⟨rfl, hm, hz, hs⟩
    refine go ?_
    cases h1 : decide ((0 : Int) < gk) with
    | false =>
      have h1 := of_decide_eq_false h1
      refine go ?_
      refine A.mt () hs ?_
      have : vlen v = gk := vlen_eq v gk (by omega) hz (.inl (by omega))
      rw [this]
      exact wk_
    | true =>
    have h1 := of_decide_eq_true h1
    refine go ?_
    have hlt2 : gk - 1 < v.length := by omega
    refine E.ix el_u64s hs hp (gk - 1) (us_get hlt2) ?_
    intro b o hc
    refine go ?_
    cases h2 : decide ((v[gk - 1] : Int) = 0) with
    | false =>
      have h2 := of_decide_eq_false h2
      refine go ?_
      refine A.mt () hs ?_
      have : vlen v = gk := vlen_eq v gk (by omega) hz (.inr ⟨hlt2, by omega⟩)
      rw [this]
      exact wk_
    | true =>
      have h2 := of_decide_eq_true h2
      refine go ?_
      have e1 : ((gk : Int) - 1) = ((gk - 1 : Nat) : Int) := by omega
      rw [e1]
      refine A.rd (gk - 1) (gk - 1) ⟨rfl, by omega, fun k hk hmk => ?_, hs⟩
      rcases Nat.lt_or_ge k gk with h | h
      · obtain rfl : k = gk - 1 := by omega
        omega
      · exact hz k hk h
  clear hs
  rintro _ w2 hs
  have hvl := vlen_le v
  have htl : (vtrim v).length = vlen v := by unfold vtrim; rw [List.length_take]; omega
  have hget : ∀ q (h : q < (vtrim v).length), (us v)[q]? = some (.int .u64 ((vtrim v)[q] : Int)) := fun q h => by
    rw [us_get (by omega)]
    simp [vtrim]
  have htlt : ∀ x ∈ vtrim v, x < 18446744073709551616 := fun x hx => hlt x (List.mem_of_mem_take hx)
  simp only [vecB] at HR
  rw [← htl]
  rw [← htl] at hvl
  clear htl
  generalize vtrim v = t at hvl hget htlt HR
  have hl1 := layN_ten (n := t.length) (by omega)
  refine go ?_
  refine E.callf Tryz.func54 rfl ?_
  refine rlay_any (xs := []) hs (fun w' _ => Row.nil w' fun _ => True) rfl (by omega) (by omega) ?_
  intro a3 c3 w3 hs
  simp only [List.nil_append] at hs ⊢
  refine gob ?_
  refine C.cut (fun x : Option Addr × Nat => [(0, .slice x.1 (layN t.length ++ t.flatMap layN).length x.2)])
    (fun x w => Sat W w g (own 5 1 (.slice x.1 (layN t.length ++ t.flatMap layN).length x.2) (layN t.length ++ t.flatMap layN).length (bs (layN t.length ++ t.flatMap layN)) :: H)) ?_ ?_
  · refine C.block ?_
    refine C.lp (fun x : Nat × Option Addr × Nat => [(0, .slice x.2.1 (layN t.length ++ (t.take x.1).flatMap layN).length x.2.2), (1, .slice a n c), (5, .int .i64 t.length), (6, .int .i64 x.1)])
      (fun gk x w => gk = t.length - x.1 ∧ x.1 ≤ t.length ∧ Sat W w g (own 5 1 (.slice x.2.1 (layN t.length ++ (t.take x.1).flatMap layN).length x.2.2) (layN t.length ++ (t.take x.1).flatMap layN).length (bs (layN t.length ++ (t.take x.1).flatMap layN)) :: H)) t.length (0, a3, c3) ⟨rfl, Nat.zero_le _, ?_⟩ ?_ (hw := ?_)
    · simp only [List.take_zero, List.flatMap_nil, List.append_nil]
      exact hs
    · clear hs
      rintro gk ⟨i, a4, c4⟩ w4 ⟨hgk, hi, hs⟩
      simp only at hgk hi hs ⊢
      have hft := flat_ten (t.take i) fun x hx => htlt x (List.mem_of_mem_take hx)
      have hBl : (layN t.length ++ (t.take i).flatMap layN).length ≤ 700 := by
        rw [List.length_append]
        rw [List.length_take] at hft
        omega
      have hsucc : ∀ h : i < t.length, layN t.length ++ (t.take (i + 1)).flatMap layN = (layN t.length ++ (t.take i).flatMap layN) ++ layN t[i] := fun h => by
        rw [List.take_succ_eq_append_getElem h, List.flatMap_append, List.append_assoc]
        simp
      generalize hB : layN t.length ++ (t.take i).flatMap layN = B at hs hBl hsucc ⊢
      replace hB := Lib.hid hB
      refine go ?_
      refine C.cond_dec (p := (i : Int) < t.length) rfl (fun h => ?_) (fun h => ?_)
      · have hil : i < t.length := by omega
        have hsucc := Lib.hid (hsucc hil)
        refine go ?_
        refine E.ix el_u64s hs hp i (hget i hil) ?_
        intro b5 o5 hc5
        refine go ?_
        refine E.callf Tryz.func54 rfl ?_
        refine rlay_any hs (fun w' h => own_row h) rfl (by omega) (htlt _ (List.getElem_mem hil)) ?_
        intro a6 c6 w6 hs
        refine go ?_
        refine A.rd (t.length - (i + 1)) (i + 1, a6, c6) ⟨rfl, by omega, ?_⟩ (hw := ?_)
        · simp only [hsucc.out]
          exact hs.swap.drop
        · simp only [hsucc.out]
          exact wk_
      · obtain rfl : i = t.length := by omega
        have hB := hB.out
        rw [List.take_length] at hB
        subst hB
        refine go ?_
        exact A.mt (a4, c4) hs
    · simp only [List.take_zero, List.flatMap_nil, List.append_nil]
      exact wk_
  clear hs
  rintro ⟨a7, c7⟩ w7 hs
  simp only at hs ⊢
  refine go ?_
  refine A.r1 ?_
  exact HR.out a7 c7 w7 hs
end Go.Proofs.YtkolnecahlkndaaGreat

/-
  The reference of layer 11: a fold as bytes, the head.
-/
namespace Go.Proofs.YtkolnecahlkndaaGreat
open Go.RowKit
set_option linter.unusedVariables false
set_option linter.unusedSimpArgs false

def Rc.rowB (c : Rc) : List UInt8 := textB c.key ++ [UInt8.ofNat c.kd] ++ (if c.kd = 1 then textB c.text else fixB (bitsF c.num))
def Rf.wrN (r : Rf) : Nat := (r.wr % 18446744073709551616).toNat
def Rf.headB (r : Rf) : List UInt8 := vecB r.hv ++ layN r.tm ++ layN r.wrN ++ fixB (maskN r.mem 64) ++ fixB (maskN r.ret 64) ++ fixB r.mark ++ layN r.L.length
/-- The reference's fold as bytes. -/
def Rf.enc (r : Rf) : List UInt8 := r.headB ++ r.L.flatMap Rc.rowB

set_option maxHeartbeats 3200000 in
set_option maxRecDepth 100000 in
theorem rfEncode_any {R : Ending → World → Prop} {W w : World} {g : Hl} {H : List HP} {r : Rf} (hr : r.ok g) (hb : r.enc.length ≤ 10000000) (hs : Sat W w g H)
    (hR : ∀ a' c' w' g', Hl.le g g' → Sat W w' g' (own 5 1 (.slice a' r.enc.length c') r.enc.length (bs r.enc) :: H) → R (.returned (.slice a' r.enc.length c')) w') : Calls Tryz.prog 22 #[r.val] w R := by
  have HR := Lib.hid hR
  clear hR
  have ag1 := ag_rc
  have ag2 := ag_rf
  have htm := hr.tm
  have hmk := hr.mark
  have hfew := hr.few
  have lv := vecB_len r.hv (by have := hr.lh; omega) hr.hlt
  have lt := layN_ten htm
  have hwn : r.wrN < 18446744073709551616 := by unfold Rf.wrN; omega
  have lw := layN_ten hwn
  have lc := layN_ten (n := r.L.length) (by omega)
  have hm1 := maskN_lt r.mem 64
  have hm2 := maskN_lt r.ret 64
  have ewr : IntKind.u64.wrap r.wr = (r.wrN : Int) := by
    simp [IntKind.wrap, IntKind.bits, IntKind.signed, Rf.wrN]
    omega
  simp only [Rf.val, Rf.cs]
  refine C.calls (args := [.agg #[.slice r.aL r.L.length r.cL, .slice r.aJ 64 r.cJ, .slice r.aR 64 r.cR, .slice r.aH 64 r.cH, .int .u64 r.tm, .int .i64 r.wr, .int .u64 r.mark]]) Tryz.func22 rfl rfl rfl ?_
  refine go ?_
  refine E.bx hs ?_
  intro b1 w1 hs
  refine go ?_
  refine E.callf Tryz.func53 rfl ?_
  refine rlayV_any hs hr.hv hr.lh (by decide) hr.hlt ?_
  intro a2 c2 w2 hs
  refine go ?_
  refine C.held1 b1 hs ?_
  intro w3 hk hs
  refine goh ?_
  refine EH.one (St.callf Tryz.func54 rfl ?_)
  refine rlay_any hs (fun w' h => own_row h) rfl (by omega) htm ?_
  intro a3 c3 w4 hs0
  have hs := hs0.swap.drop
  clear hs0
  refine kept1 hs (fun hk => ?_)
  refine goh ?_
  refine EH.one (St.callf Tryz.func54 rfl ?_)
  refine rlay_any hs (fun w' h => own_row h) rfl (by simp only [List.length_append]; omega) hwn ?_
  intro a4 c4 w5 hs0
  have hs := hs0.swap.drop
  clear hs0
  refine kept1 hs (fun hk => ?_)
  refine goh ?_
  refine EH.done ?_
  refine go ?_
  refine C.held1 b1 hs ?_
  intro w6 hk hs
  refine goh ?_
  refine EH.one (St.callf Tryz.func56 rfl ?_)
  refine nodes_any hr.mem hr.lm hs ?_
  intro w7 hs
  refine kept1 hs (fun hk => ?_)
  refine goh ?_
  refine EH.one (St.callf Tryz.func55 rfl ?_)
  refine rfixed_any hs rfl (by simp only [List.length_append]; omega) hm1 ?_
  intro a8 c8 w8 hs
  refine kept1 hs (fun hk => ?_)
  refine goh ?_
  refine EH.one (St.callf Tryz.func56 rfl ?_)
  refine nodes_any hr.ret hr.lr hs ?_
  intro w9 hs
  refine kept1 hs (fun hk => ?_)
  refine goh ?_
  refine EH.one (St.callf Tryz.func55 rfl ?_)
  refine rfixed_any hs rfl (by simp only [List.length_append, fixB_len]; omega) hm2 ?_
  intro a10 c10 w10 hs
  refine kept1 hs (fun hk => ?_)
  refine goh ?_
  refine EH.one (St.callf Tryz.func55 rfl ?_)
  refine rfixed_any hs rfl (by simp only [List.length_append, fixB_len]; omega) hmk ?_
  intro a11 c11 w11 hs
  refine kept1 hs (fun hk => ?_)
  refine goh ?_
  refine EH.done ?_
  clear hk
  refine go ?_
  refine E.callf Tryz.func54 rfl ?_
  refine rlay_any hs (fun w' h => own_row h) rfl (by simp only [List.length_append, fixB_len]; omega) (by omega) ?_
  intro a12 c12 w12 hs0
  have hs := hs0.swap.drop
  clear hs0
  rw [show vecB r.hv ++ layN r.tm ++ layN r.wrN ++ fixB (maskN r.mem 64) ++ fixB (maskN r.ret 64) ++ fixB r.mark ++ layN r.L.length = r.headB from rfl] at hs ⊢
  refine gob ?_
  clear lv lt lw lc ewr
  refine C.cut (fun x : Option Addr × Nat => [(3, .slice x.1 r.enc.length x.2)]) (fun x w => ∃ g', Hl.le g g' ∧ Sat W w g' (own 5 1 (.slice x.1 r.enc.length x.2) r.enc.length (bs r.enc) :: blk b1 [.slice r.aL r.L.length r.cL, .slice r.aJ 64 r.cJ, .slice r.aR 64 r.cR, .slice r.aH 64 r.cH, .int .u64 r.tm, .int .i64 r.wr, .int .u64 r.mark] 58 :: H)) ?_ ?_
  · refine C.block ?_
    refine C.lp (fun x : Nat × Option Addr × Nat => [(1, .pointer (some ⟨b1, 0, none⟩)), (3, .slice x.2.1 (r.headB ++ (r.L.take x.1).flatMap Rc.rowB).length x.2.2), (4, .int .i64 x.1)])
      (fun gk x w => gk = r.L.length - x.1 ∧ x.1 ≤ r.L.length ∧ ∃ g', Hl.le g g' ∧ Sat W w g' (own 5 1 (.slice x.2.1 (r.headB ++ (r.L.take x.1).flatMap Rc.rowB).length x.2.2) (r.headB ++ (r.L.take x.1).flatMap Rc.rowB).length (bs (r.headB ++ (r.L.take x.1).flatMap Rc.rowB)) :: blk b1 [.slice r.aL r.L.length r.cL, .slice r.aJ 64 r.cJ, .slice r.aR 64 r.cR, .slice r.aH 64 r.cH, .int .u64 r.tm, .int .i64 r.wr, .int .u64 r.mark] 58 :: H)) r.L.length (0, a12, c12) ⟨rfl, Nat.zero_le _, g, Hl.le_refl _, ?_⟩ ?_ (hw := ?_)
    · simp only [List.take_zero, List.flatMap_nil, List.append_nil]
      exact hs
    · clear hs
      rintro gk ⟨j, a4, c4⟩ w4 ⟨hgk, hj, g4, hg4, hs⟩
      simp only at hgk hj hs ⊢
      have hsucc : ∀ h : j < r.L.length, r.headB ++ (r.L.take (j + 1)).flatMap Rc.rowB = (r.headB ++ (r.L.take j).flatMap Rc.rowB) ++ r.L[j].rowB := fun h => by
        rw [List.take_succ_eq_append_getElem h, List.flatMap_append, List.append_assoc]
        simp
      have hBl : (r.headB ++ (r.L.take j).flatMap Rc.rowB).length ≤ 10000000 := by
        have h3 : r.L.flatMap Rc.rowB = (r.L.take j).flatMap Rc.rowB ++ (r.L.drop j).flatMap Rc.rowB := by rw [← List.flatMap_append, List.take_append_drop]
        have h4 := hb
        rw [Rf.enc, h3] at h4
        simp only [List.length_append] at h4 ⊢
        omega
      generalize hB : r.headB ++ (r.L.take j).flatMap Rc.rowB = B at hs hBl hsucc ⊢
      replace hB := Lib.hid hB
      refine go ?_
      refine C.cond_dec (p := (j : Int) < r.L.length) rfl (fun h => ?_) (fun h => ?_)
      · have hjk : j < r.L.length := by omega
        have hsucc := Lib.hid (hsucc hjk)
        have hr4 := hr.mono hg4
        have hck := hr4.cells r.L[j] (List.getElem_mem hjk)
        obtain ⟨by_, oy, hya⟩ := pr_some hr4.L (by omega)
        have hL := hr4.L
        have hL4 := hr4.L
        rw [hya] at hL hs
        replace hya := Lib.hid hya
        have hj0 : (rcC r.L)[j * 4]? = some (.string ⟨r.L[j].key.toArray⟩) := by
          have := congrArg (fun l : List Value => l[0]?) (rcC_at hjk)
          simp only [List.getElem?_take, List.getElem?_drop] at this
          simpa [Rc.cs] using this
        have hj1 : (rcC r.L)[j * 4 + 1]? = some (.int .u8 r.L[j].kd) := by
          have := congrArg (fun l : List Value => l[1]?) (rcC_at hjk)
          simp only [List.getElem?_take, List.getElem?_drop] at this
          simpa [Rc.cs] using this
        have hat := rcC_at hjk
        generalize hcc : r.L[j] = c at hck hsucc hj0 hj1 hat
        clear hcc
        have ckd := hck.kd
        have cnum := hck.num
        have ctext := hck.text
        have ckey := hck.key
        have hkt := textB_len c.key (by omega)
        have htt := textB_len c.text (by omega)
        have e8 : (UInt8.ofNat c.kd).toNat = c.kd := by simp; omega
        refine go ?_
        refine C.cut (fun x : Option Addr × Nat => [(1, .pointer (some ⟨b1, 0, none⟩)), (3, .slice x.1 (B ++ textB c.key ++ [UInt8.ofNat c.kd]).length x.2), (4, .int .i64 j)])
          (fun x w => ∃ g', Hl.le g4 g' ∧ Sat W w g' (own 5 1 (.slice x.1 (B ++ textB c.key ++ [UInt8.ofNat c.kd]).length x.2) (B ++ textB c.key ++ [UInt8.ofNat c.kd]).length (bs (B ++ textB c.key ++ [UInt8.ofNat c.kd])) :: blk b1 [.slice r.aL r.L.length r.cL, .slice r.aJ 64 r.cJ, .slice r.aR 64 r.cR, .slice r.aH 64 r.cH, .int .u64 r.tm, .int .i64 r.wr, .int .u64 r.mark] 58 :: H)) ?_ ?_
        · refine C.held1 b1 hs ?_
          intro w8 hk hs
          have rd0 := Rd.pool (F := [(b1, [.slice (some ⟨by_, oy, none⟩) r.L.length r.cL, .slice r.aJ 64 r.cJ, .slice r.aR 64 r.cR, .slice r.aH 64 r.cH, .int .u64 r.tm, .int .i64 r.wr, .int .u64 r.mark], 58)]) hL hj0
          have rd1 : Rd (Keeps g4 [(b1, [.slice (some ⟨by_, oy, none⟩) r.L.length r.cL, .slice r.aJ 64 r.cJ, .slice r.aR 64 r.cR, .slice r.aH 64 r.cH, .int .u64 r.tm, .int .i64 r.wr, .int .u64 r.mark], 58)]) by_ (oy + j * 4 + 1) (.int .u8 c.kd) := by
            have := Rd.pool (F := [(b1, [.slice (some ⟨by_, oy, none⟩) r.L.length r.cL, .slice r.aJ 64 r.cJ, .slice r.aR 64 r.cR, .slice r.aH 64 r.cH, .int .u64 r.tm, .int .i64 r.wr, .int .u64 r.mark], 58)]) hL hj1
            rwa [← Nat.add_assoc] at this
          refine goh ?_
          refine EH.orb hs (St.bytes (l := c.key) Tryz.underlying9 Tryz.underlying29 Tryz.underlying5 hs (by omega) ?_ (hx := rfl)) ?_
          · intro b9 c9 w9 g9 hg9 hs hp9
            refine kept1 hs (fun hk => ?_) hg9
            refine goh ?_
            refine EH.orb hs (St.callf Tryz.func57 rfl ?_) ?_
            · refine rtextV_any hs rfl (by omega) hp9 rfl (by omega) ?_
              intro a12 c12 w12 hs
              refine kept1 hs (fun hk => ?_) hg9
              refine goh ?_
              refine EH.bsl hs ?_
              intro b13 w13 hs
              refine kept1 hs (fun hk => ?_) hg9
              refine goh ?_
              refine EH.app el_u8 hs.swap (hs.rowOf (size := 1) 1 rfl (by decide)) ?_ (h63 := by simp only [List.length_append]; omega) (hbytes := by simp only [List.length_append]; omega)
              intro a14 c14 w14 _ _ hs
              refine kept1 hs (fun hk => ?_) hg9
              refine goh ?_
              refine EH.done ?_
              refine A.mt (a14, c14) ⟨g9, hg9, ?_⟩ (hw := ?_)
              · have := hs.swap.drop
                rw [← hya.out] at this
                simpa [bs_append, bs, e8, Nat.add_assoc] using this
              · simp only [List.length_append, List.length_cons, List.length_nil, Nat.add_assoc]
                exact wk_
            · intro b13 w13 hs
              refine kept1 hs (fun hk => ?_) hg9
              refine goh ?_
              refine EH.one (St.callf Tryz.func57 rfl ?_)
              refine rtextV_any hs.swap rfl (by omega) hp9 rfl (by omega) ?_
              intro a12 c12 w12 hs
              refine kept1 hs (fun hk => ?_) hg9
              refine goh ?_
              refine EH.app el_u8 hs (hs.swap.rowOf (size := 1) 1 rfl (by decide)) ?_ (h63 := by simp only [List.length_append]; omega) (hbytes := by simp only [List.length_append]; omega)
              intro a14 c14 w14 _ _ hs
              refine kept1 hs (fun hk => ?_) hg9
              refine goh ?_
              refine EH.done ?_
              refine A.mt (a14, c14) ⟨g9, hg9, ?_⟩ (hw := ?_)
              · have := hs.swap.drop
                rw [← hya.out] at this
                simpa [bs_append, bs, e8, Nat.add_assoc] using this
              · simp only [List.length_append, List.length_cons, List.length_nil, Nat.add_assoc]
                exact wk_
          · intro b13 w13 hs
            refine kept1 hs (fun hk => ?_)
            refine goh ?_
            refine EH.one (St.bytes (l := c.key) Tryz.underlying9 Tryz.underlying29 Tryz.underlying5 hs (by omega) ?_ (hx := rfl))
            intro b9 c9 w9 g9 hg9 hs hp9
            refine kept1 hs (fun hk => ?_) hg9
            refine goh ?_
            refine EH.one (St.callf Tryz.func57 rfl ?_)
            refine rtextV_any hs.swap rfl (by omega) hp9 rfl (by omega) ?_
            intro a12 c12 w12 hs
            refine kept1 hs (fun hk => ?_) hg9
            refine goh ?_
            refine EH.app el_u8 hs (hs.swap.rowOf (size := 1) 1 rfl (by decide)) ?_ (h63 := by simp only [List.length_append]; omega) (hbytes := by simp only [List.length_append]; omega)
            intro a14 c14 w14 _ _ hs
            refine kept1 hs (fun hk => ?_) hg9
            refine goh ?_
            refine EH.done ?_
            refine A.mt (a14, c14) ⟨g9, hg9, ?_⟩ (hw := ?_)
            · have := hs.swap.drop
              rw [← hya.out] at this
              simpa [bs_append, bs, e8, Nat.add_assoc] using this
            · simp only [List.length_append, List.length_cons, List.length_nil, Nat.add_assoc]
              exact wk_
        clear hs
        rintro ⟨a15, c15⟩ w15 ⟨g5, hg5, hs⟩
        simp only at hs ⊢
        have hL5 := hL4.mono hg5
        have hBl2 : (B ++ textB c.key ++ [UInt8.ofNat c.kd]).length ≤ 200000000 := by simp only [List.length_append, List.length_cons, List.length_nil]; omega
        have hB2 : B ++ c.rowB = (B ++ textB c.key ++ [UInt8.ofNat c.kd]) ++ (if c.kd = 1 then textB c.text else fixB (bitsF c.num)) := by rw [Rc.rowB]; simp only [List.append_assoc]
        replace hB2 := Lib.hid hB2
        generalize B ++ textB c.key ++ [UInt8.ofNat c.kd] = C0 at hs hBl2 hB2 ⊢
        refine go ?_
        refine E.ixs el_rc hs hL5 j ?_
        intro b5 o5 hr5
        rw [hat] at hr5
        have c1 : w15.cell? ⟨b5, o5 + 1, none⟩ = some (.int .u8 c.kd) := hr5 1 _ rfl
        refine go ?_
        cases hq : decide ((c.kd : Int) = 1) with
        | true =>
          have hq : c.kd = 1 := by have := of_decide_eq_true hq; omega
          refine go ?_
          refine E.ixs el_rc hs hL5 j ?_
          intro b6 o6 hr6
          rw [hat] at hr6
          have c2 : w15.cell? ⟨b6, o6 + 2, none⟩ = some c.tv := hr6 2 _ rfl
          refine go ?_
          refine E.callf Tryz.func57 rfl ?_
          refine rtextV_any hs rfl (by omega) (hck.tv.mono hg5) rfl (by omega) ?_
          intro a16 c16 w16 hs
          refine go ?_
          have hB2 := hB2.out
          rw [if_pos hq] at hB2
          refine A.rd (r.L.length - (j + 1)) (j + 1, a16, c16) ⟨rfl, by omega, g5, hg4.trans hg5, ?_⟩ (hw := ?_)
          · simp only [hsucc.out, hB2]
            exact hs
          · simp only [hsucc.out, hB2]
            exact wk_
        | false =>
          have hq : ¬ c.kd = 1 := by have := of_decide_eq_false hq; omega
          refine go ?_
          refine E.ixs el_rc hs hL5 j ?_
          intro b6 o6 hr6
          rw [hat] at hr6
          have c3 : w15.cell? ⟨b6, o6 + 3, none⟩ = some (.float .f64 c.num) := hr6 3 _ rfl
          refine go ?_
          refine E.callf Tryz.func58 rfl ?_
          refine rbits_any ?_
          refine go ?_
          refine E.callf Tryz.func55 rfl ?_
          refine rfixed_any hs rfl (by omega) (bitsF_lt cnum) ?_
          intro a16 c16 w16 hs
          refine go ?_
          have hB2 := hB2.out
          rw [if_neg hq] at hB2
          refine A.rd (r.L.length - (j + 1)) (j + 1, a16, c16) ⟨rfl, by omega, g5, hg4.trans hg5, ?_⟩ (hw := ?_)
          · simp only [hsucc.out, hB2]
            exact hs
          · simp only [hsucc.out, hB2]
            exact wk_
      · have hB := hB.out
        have hje : j = r.L.length := by omega
        rw [hje, List.take_length] at hB
        have hB3 : B = r.enc := hB.symm
        subst hB3
        refine go ?_
        exact A.mt (a4, c4) ⟨g4, hg4, hs⟩
    · simp only [List.take_zero, List.flatMap_nil, List.append_nil]
      exact wk_
  clear hs
  rintro ⟨a17, c17⟩ w17 ⟨g17, hg17, hs⟩
  simp only at hs ⊢
  refine go ?_
  refine A.r1 ?_
  exact HR.out a17 c17 _ g17 hg17 hs.swap.drop
end Go.Proofs.YtkolnecahlkndaaGreat

/-
  The reference of layer 11, plain: its bytes are the fold's.
-/
namespace Go.Proofs.YtkolnecahlkndaaGreat
open Go.RowKit Go.Maps Go.Sort
set_option linter.unusedVariables false
set_option linter.unusedSimpArgs false

/-- The reference's fold has what the fold has. -/
structure Rel (r : Rf) (f : Fo) : Prop where
  rl : Rl r.L f.cells
  mem : r.mem = f.mem
  ret : r.ret = f.ret
  hv : ∀ u : Nat, vget r.hv u = vget f.vec u
  tm : r.tm = f.tm
  wr : r.wr = f.wr
  mark : r.mark = f.mark
theorem bitsF_bitsF (b : Nat) : bitsF (bitsF b) = bitsF b := by
  unfold bitsF
  split
  · decide +kernel
  · rfl
theorem Rel.keys {r : Rf} {f : Fo} (h : Rel r f) : f.keys = r.L.map Rc.key := by
  have h1 : (r.L.map Rc.key).Perm (f.cells.map Prod.fst) := by
    have := h.rl.1.map Prod.fst
    rw [List.map_map] at this
    exact this
  have h2 : (r.L.map Rc.key).Pairwise fun a b => decide (a ≤ b) = true := by
    rw [List.pairwise_map]
    exact h.rl.2.imp fun {a b} hab => decide_eq_true (List.le_of_lt hab)
  unfold Fo.keys rising
  rw [← mergeSort_of_perm h1]
  exact List.mergeSort_of_pairwise h2
theorem aget_of {β : Type} {k : List UInt8} {v : β} : ∀ {l : List (List UInt8 × β)}, (l.map Prod.fst).Nodup → (k, v) ∈ l → aget k l = some v
  | [], _, h => by cases h
  | (a, u) :: r, hn, h => by
    simp only [List.map_cons, List.nodup_cons] at hn
    simp only [aget]
    rcases List.mem_cons.1 h with h | h
    · simp only [Prod.mk.injEq] at h
      rw [if_pos h.1, h.2]
    · have : k ≠ a := fun e => hn.1 (e ▸ List.mem_map_of_mem h)
      rw [if_neg this]
      exact aget_of hn.2 h
theorem Rel.cell {r : Rf} {f : Fo} (h : Rel r f) (hn : (f.cells.map Prod.fst).Nodup) {c : Rc} (hc : c ∈ r.L) : f.cell c.key = some ⟨c.kd, c.text, bitsF c.num⟩ :=
  aget_of hn (h.rl.1.mem_iff.1 (List.mem_map_of_mem hc))
theorem Rel.row {r : Rf} {f : Fo} (h : Rel r f) (hn : (f.cells.map Prod.fst).Nodup) {c : Rc} (hc : c ∈ r.L) : f.row c.key = c.rowB := by
  unfold Fo.row
  rw [h.cell hn hc]
  simp only [Option.getD_some, cellB, Rc.rowB, bitsF_bitsF]
theorem Rel.rows {r : Rf} {f : Fo} (h : Rel r f) (hn : (f.cells.map Prod.fst).Nodup) : f.keys.flatMap f.row = r.L.flatMap Rc.rowB := by
  rw [h.keys, List.flatMap_map]
  rw [List.flatMap_def, List.flatMap_def, List.map_congr_left fun c hc => h.row hn hc]
theorem vlen_last : ∀ (v : List Nat), vlen v = 0 ∨ v.getD (vlen v - 1) 0 ≠ 0
  | [] => .inl rfl
  | x :: r => by
    simp only [vlen]
    split
    · exact .inl rfl
    · rename_i h
      right
      rcases vlen_last r with h1 | h1
      · have : x ≠ 0 := fun e => h ⟨h1, e⟩
        simpa [h1] using this
      · obtain ⟨m, hm⟩ : ∃ m, vlen r = m + 1 := by
          refine ⟨vlen r - 1, ?_⟩
          have : vlen r ≠ 0 := fun e => by
            rw [e] at h1
            have h2 := vlen_tail r 0 (by omega)
            exact h1 h2
          omega
        rw [hm] at h1 ⊢
        simpa using h1
theorem vlen_agree {a b : List Nat} (h : ∀ k, a.getD k 0 = b.getD k 0) : vlen a ≤ vlen b := by
  rcases Nat.lt_or_ge (vlen b) (vlen a) with h1 | h1
  · exfalso
    rcases vlen_last a with h2 | h2
    · omega
    · rw [h, vlen_tail b _ (by omega)] at h2
      exact h2 rfl
  · exact h1
theorem vtrim_agree {a b : List Nat} (h : ∀ u : Nat, vget a u = vget b u) : vtrim a = vtrim b := by
  have h' : ∀ k, a.getD k 0 = b.getD k 0 := fun k => by
    have := h k
    unfold vget at this
    simpa using this
  have e : vlen a = vlen b := Nat.le_antisymm (vlen_agree h') (vlen_agree fun k => (h' k).symm)
  unfold vtrim
  rw [← e]
  have ha := vlen_le a
  have hb := vlen_le b
  apply List.ext_getElem
  · rw [List.length_take, List.length_take]; omega
  · intro q h1 h2
    rw [List.length_take] at h1 h2
    have := h' q
    rw [List.getD_eq_getElem?_getD, List.getD_eq_getElem?_getD, List.getElem?_eq_getElem (by omega), List.getElem?_eq_getElem (by omega)] at this
    simpa using this
theorem Rel.enc {r : Rf} {f : Fo} (h : Rel r f) (hn : (f.cells.map Prod.fst).Nodup) : r.enc = f.enc := by
  have e1 : vecB r.hv = vecB f.vec := by unfold vecB; rw [vtrim_agree h.hv]
  have e2 : r.L.length = f.cells.length := by
    have := h.rl.1.length_eq
    simpa using this
  unfold Rf.enc Fo.enc Rf.headB Fo.headB Rf.wrN Fo.wrN
  rw [h.rows hn, e1, e2, h.tm, h.wr, h.mem, h.ret, h.mark]
end Go.Proofs.YtkolnecahlkndaaGreat

/-
  Floats: a difference.
-/
namespace Go.Proofs.YtkolnecahlkndaaGreat
open Go.RowKit
set_option linter.unusedVariables false
set_option linter.unusedSimpArgs false
section
variable {P : Program} {n : Fm} {ρ : List (Nat × Value)} {W w w' : World} {g g' : Hl} {H H' : List HP} {Q : Exit → Act → World → Prop} {ops : Array Oper} {rest : List Oper} {d : Option Tmp} {ty : TypeId} {ps : String} {af : Array Edge} {v u : Value} {x y : Operand} {e t : TypeId}
theorem run_fsub {a b : Nat} (w : World) : (∃ r, Ieee.double.sub a b = some r ∧ (Op.floatArith .sub .f64 a b).run P w = .ok (.float .f64 r) w) ∨ (Ieee.double.sub a b = none ∧ ∃ r, 9218868437227405312 < r % 9223372036854775808 ∧ r < 18446744073709551616 ∧ (Op.floatArith .sub .f64 a b).run P w = .ok (.float .f64 r) w.drew) := by
  have e0 : FloatKind.f64.format.sub a b = Ieee.double.sub a b := rfl
  cases hh : Ieee.double.sub a b with
  | some r => exact .inl ⟨r, rfl, by simp [Op.floatArith, e0, hh]⟩
  | none =>
    refine .inr ⟨rfl, (Question.nanBits .f64 a b).cut (w.tape w.drawn (.nanBits .f64 a b)), ?_, ?_, ?_⟩
    · simp only [Question.cut]
      generalize w.tape w.drawn (.nanBits .f64 a b) = T
      have h1 : T % 2 = 0 ∨ T % 2 = 1 := by omega
      have h2 : T / 2 % (2 ^ 52 - 1) < 2 ^ 52 - 1 := Nat.mod_lt _ (by decide)
      generalize T / 2 % (2 ^ 52 - 1) = q at h2 ⊢
      rcases h1 with h1 | h1 <;> rw [h1] <;> omega
    · simp only [Question.cut]
      generalize w.tape w.drawn (.nanBits .f64 a b) = T
      have h1 : T % 2 = 0 ∨ T % 2 = 1 := by omega
      have h2 : T / 2 % (2 ^ 52 - 1) < 2 ^ 52 - 1 := Nat.mod_lt _ (by decide)
      generalize T / 2 % (2 ^ 52 - 1) = q at h2 ⊢
      rcases h1 with h1 | h1 <;> rw [h1] <;> omega
    · simp [Op.floatArith, e0, hh, Question.forced]
/-- A difference of floats. -/
theorem E.fsub {s s' : TypeId} {a b : Nat} (hs : Sat W w g H) (h : ∀ r w', Sat W w' g H → (Ieee.double.sub a b = some r ∨ Ieee.double.sub a b = none ∧ 9218868437227405312 < r % 9223372036854775808 ∧ r < 18446744073709551616) → E P n ops rest (pushv d (.float .f64 r) ρ) w' Q)
    (hx : evo n ρ x = some (.float .f64 a) := by exact rfl) (hy : evo n ρ y = some (.float .f64 b) := by exact rfl) : E P n ops (⟨d, .binOp .sub s x y s', ty, ps, af, none⟩ :: rest) ρ w Q := by
  rcases run_fsub (P := P) (a := a) (b := b) w with ⟨r, h1, h2⟩ | ⟨h1, r, h3, h4, h2⟩
  · refine E.cons (St.val (w' := w) (fun ac ha => ?_) (h r w hs (.inl h1)))
    simp [execOp, ha.eval hx, ha.eval hy, eqGuard, binOp, h2]
  · refine E.cons (St.val (w' := w.drew) (fun ac ha => ?_) (h r w.drew hs.drew (.inr ⟨h1, h3, h4⟩)))
    simp [execOp, ha.eval hx, ha.eval hy, eqGuard, binOp, h2]
end
theorem sub_nan {b : Nat} (h : nanF b = true) : Ieee.double.sub b b = none := by
  unfold nanF Ieee.Format.order at h
  unfold Ieee.Format.sub
  cases hb : Ieee.double.read b with
  | nan s t => rfl
  | infinity s => rw [hb] at h; cases s <;> exact absurd h (by decide)
  | number s m e =>
    rw [hb] at h
    simp [Ieee.Datum.order] at h
end Go.Proofs.YtkolnecahlkndaaGreat

/-
  The stepping engine: makes and sums in drawn regions, a stronger hold.
-/
namespace Go.Proofs.YtkolnecahlkndaaGreat
open Go.RowKit
set_option linter.unusedVariables false
set_option linter.unusedSimpArgs false
section
variable {P : Program} {n : Fm} {ρ : List (Nat × Value)} {W w w' : World} {g g' : Hl} {H H' : List HP} {Q : Exit → Act → World → Prop} {ops : Array Oper} {rest : List Oper} {d : Option Tmp} {ty : TypeId} {ps : String} {af : Array Edge} {v u z : Value} {x y : Operand} {e t : TypeId} {s bytes : Nat} {N : List (Nat × Value) → World → Prop}
/-- An own row that isn't empty lies somewhere. -/
theorem Sat.ownAt {a : Option Addr} {k c : Nat} {xs : List Value} (hs : Sat W w g (own e s (.slice a k c) k xs :: H)) (hk : 0 < k) : ∃ b, a = some ⟨b, 0, none⟩ := by
  rcases hs.owns.2 with ⟨h, _⟩ | ⟨b, _, _, h, _⟩
  · simp only [Value.slice.injEq] at h; omega
  · simp only [Value.slice.injEq] at h
    exact ⟨b, h.1⟩
/-- A place in an own row of single cells. -/
theorem E.ixo {b m c : Nat} {kd : IntKind} {i : Int} (he : ElemOf P t e z 1 bytes) (j : Nat) (h : E P n ops rest (pushv d (.pointer (some ⟨b, j, none⟩)) ρ) w Q)
    (hx : evo n ρ x = some (.slice (some ⟨b, 0, none⟩) m c) := by exact rfl) (hy : evo n ρ y = some (.int kd i) := by exact rfl) (hi : i = (j : Int) := by first | rfl | omega) (hj : j < m := by omega) : E P n ops (⟨d, .indexAddr t x y, ty, ps, af, none⟩ :: rest) ρ w Q := by
  refine E.pv (Pv.indexAddr hx hy fun w => ?_) h
  have := run_index_at he (b := b) (o := 0) (c := c) (kd := kd) hi hj w
  simpa using this
theorem wpAnyH_mono {S S' : World → Prop} (hS : ∀ w, S' w → S w) {md : Region.Mode} : ∀ (fuel : Nat) (listed : Array Bool) (a : Act) (w : World), wpAnyH P md ops Q S' fuel listed a w → wpAnyH P md ops Q S fuel listed a w
  | 0, _, _, _, h => h
  | fuel + 1, _, _, _, h => ⟨h.1, fun i hi => wpOp_mono (fun a' w' h' => ⟨hS _ h'.1, wpAnyH_mono hS fuel _ a' w' h'.2⟩) (h.2 i hi)⟩
/-- From here on more is held. -/
theorem EH.more {l : List Oper} {S : World → Prop} {fuel m : Nat} (S' : World → Prop) (hS : ∀ w, S' w → S w) (h : EH P n l S' fuel m ρ w Q) : EH P n l S fuel m ρ w Q := by
  unfold EH at *
  exact fun a ha => wpAnyH_mono hS _ _ _ _ (h a ha)
theorem Keeps.le {F : List (Nat × List Value × TypeId)} (hg : Hl.le g g') (w : World) (h : Keeps g' F w) : Keeps g F w := ⟨fun k o hk => h.1 k o (hg k o hk), h.2⟩
/-- The pool has grown: all of it is held. -/
theorem EH.pool {l : List Oper} {F : List (Nat × List Value × TypeId)} {fuel m : Nat} (hg : Hl.le g g') (h : EH P n l (Keeps g' F) fuel m ρ w Q) : EH P n l (Keeps g F) fuel m ρ w Q := EH.more _ (Keeps.le hg) h
theorem St.mks {kl kc : IntKind} {k2 : Nat} {i j : Int} (he : ElemOf P t e z s bytes) (hs : Sat W w g H) (h : ∀ a' w', Sat W w' g (own e s (.slice a' k2 k2) k2 (madeCells z.cells (k2 * s)).toList :: H) → N (pushv d (.slice a' k2 k2) ρ) w') (hb : k2 * bytes ≤ 140737488355328 := by omega)
    (hx : evo n ρ x = some (.int kl i) := by exact rfl) (hy : evo n ρ y = some (.int kc j) := by exact rfl) (hi : i = (k2 : Int) := by omega) (hj : j = (k2 : Int) := by omega) (h63 : k2 ≤ 9223372036854775807 := by omega) :
    St P n ops ⟨d, .makeSlice t x y, ty, ps, af, none⟩ ρ w N Q := by
  subst hi hj
  obtain ⟨ht, ⟨inf, hin, hz, hsz, hby⟩, hzs, hpos⟩ := he
  obtain ⟨w', hr, ho, hg⟩ := run_make_full (P := P) w w.heap.size t e inf z s ht hin hz hsz kl kc k2 (by rw [hby, Nat.mul_comm]; omega) (by unfold maxLen; omega) (Nat.le_refl _)
  exact St.val (fun a ha => by simp [execOp, ha.eval hx, ha.eval hy, hr]) (h _ _ (hs.newOwn ho ⟨hg.os, hg.tape, hg.output, hg.size, fun q hq => hg.block q hq (by simp)⟩))
theorem St.al {xs : List Value} (hs : Sat W w g H) (h : ∀ b w', Sat W w' g (blk b xs e :: H) → N (pushv d (.pointer (some ⟨b, 0, none⟩)) ρ) w') (hz : (zeroValue e).run P w = .ok z w := by go_simp; first | done | exact rfl | exact ⟨rfl, rfl⟩) (hx : z.cells.toList = xs := by exact nz_) :
    St P n ops ⟨d, .alloc e, ty, ps, af, none⟩ ρ w N Q := St.alloc hs hz hx h
theorem St.ldp {b j k : Nat} {xs vs : List Value} (st : AggOf P t k) (hs : Sat W w g H) (h : N (pushv d (.agg vs.toArray) ρ) w) (hx : evo n ρ x = some (.pointer (some ⟨b, j, none⟩)) := by exact rfl) (hf : Fd H b xs e := by exact fd_) (hv : (xs.drop j).take k = vs := by exact nz_) (hk : vs.length = k := by exact rfl) :
    St P n ops ⟨d, .load t x, ty, ps, af, none⟩ ρ w N Q := St.loads hx (run_ldp st (hf.blk hs) hv hk) h
/-- A sum of floats. -/
theorem St.fadd {s s' : TypeId} {a b : Nat} (hs : Sat W w g H) (h : ∀ r w', Sat W w' g H → (Ieee.double.add a b = some r ∨ Ieee.double.add a b = none ∧ 9218868437227405312 < r % 9223372036854775808 ∧ r < 18446744073709551616) → N (pushv d (.float .f64 r) ρ) w')
    (hx : evo n ρ x = some (.float .f64 a) := by exact rfl) (hy : evo n ρ y = some (.float .f64 b) := by exact rfl) : St P n ops ⟨d, .binOp .add s x y s', ty, ps, af, none⟩ ρ w N Q := by
  rcases run_fadd (P := P) (a := a) (b := b) w with ⟨r, h1, h2⟩ | ⟨h1, r, h3, h4, h2⟩
  · refine St.val (w' := w) (fun ac ha => ?_) (h r w hs (.inl h1))
    simp [execOp, ha.eval hx, ha.eval hy, eqGuard, binOp, h2]
  · refine St.val (w' := w.drew) (fun ac ha => ?_) (h r w.drew hs.drew (.inr ⟨h1, h3, h4⟩))
    simp [execOp, ha.eval hx, ha.eval hy, eqGuard, binOp, h2]
end
section
variable {P : Program} {n : Fm} {ρ : List (Nat × Value)} {W w w' : World} {g g' : Hl} {H H' : List HP} {Q : Exit → Act → World → Prop} {l : List Oper} {S : World → Prop} {fuel m i : Nat} {rs : List Nat} {d : Option Tmp} {ty : TypeId} {ps : String} {af : Array Edge} {gd : Option (Nat × Bool)} {F : List (Nat × List Value × TypeId)} {v z : Value} {x y : Operand} {e t : TypeId} {a : Option Addr} {len c bytes : Nat}
theorem EH.ldp {b j k : Nat} {xs vs : List Value} (st : AggOf P t k) (hs : Sat W w g H) (h : S w ∧ EH P n l S fuel (bset m i) (pushv d (.agg vs.toArray) ρ) w Q) (hr : rdy m l.length 0 l = [i] := by exact rfl) (hi : nth l i = some ⟨d, .load t x, ty, ps, af, none⟩ := by exact rfl)
    (hx : evo n ρ x = some (.pointer (some ⟨b, j, none⟩)) := by exact rfl) (hf : Fd H b xs e := by exact fd_) (hv : (xs.drop j).take k = vs := by exact nz_) (hk : vs.length = k := by exact rfl) : EH P n l S (fuel + 1) m ρ w Q :=
  EH.one (St.loads hx (run_ldp st (hf.blk hs) hv hk) h) hr hi
theorem keptp0 (hs : Sat W w g' H) (h : Keeps g' [] w → EH P n l (Keeps g' []) fuel m ρ w Q) (hg : Hl.le g g' := by first | exact Hl.le_refl _ | assumption | exact Hl.le.trans (by assumption) (by assumption)) : Keeps g [] w ∧ EH P n l (Keeps g []) fuel m ρ w Q :=
  ⟨Keeps.of0 hs hg, EH.pool hg (h (Keeps.of0 hs (Hl.le_refl _)))⟩
theorem keptp1 {b1 : Nat} {x1 : List Value} {e1 : TypeId} (hs : Sat W w g' H) (h : Keeps g' [(b1, x1, e1)] w → EH P n l (Keeps g' [(b1, x1, e1)]) fuel m ρ w Q) (hg : Hl.le g g' := by first | exact Hl.le_refl _ | assumption | exact Hl.le.trans (by assumption) (by assumption)) (h1 : Fd H b1 x1 e1 := by exact fd_) : Keeps g [(b1, x1, e1)] w ∧ EH P n l (Keeps g [(b1, x1, e1)]) fuel m ρ w Q :=
  ⟨Keeps.of1 hs hg h1, EH.pool hg (h (Keeps.of1 hs (Hl.le_refl _) h1))⟩
theorem keptp2 {b1 b2 : Nat} {x1 x2 : List Value} {e1 e2 : TypeId} (hs : Sat W w g' H) (h : Keeps g' [(b1, x1, e1), (b2, x2, e2)] w → EH P n l (Keeps g' [(b1, x1, e1), (b2, x2, e2)]) fuel m ρ w Q) (hg : Hl.le g g' := by first | exact Hl.le_refl _ | assumption | exact Hl.le.trans (by assumption) (by assumption)) (h1 : Fd H b1 x1 e1 := by exact fd_) (h2 : Fd H b2 x2 e2 := by exact fd_) : Keeps g [(b1, x1, e1), (b2, x2, e2)] w ∧ EH P n l (Keeps g [(b1, x1, e1), (b2, x2, e2)]) fuel m ρ w Q :=
  ⟨Keeps.of2 hs hg h1 h2, EH.pool hg (h (Keeps.of2 hs (Hl.le_refl _) h1 h2))⟩
theorem EH.ix1 {i1 : Nat} {xs : List Value} (he : ElemOf P t e z 1 bytes) (hp : Pr 1 g (.slice a len c) len xs) (q : Nat) (hxj : xs[q]? = some v) (hS : S w) (hSk : ∀ w, S w → Keeps g F w) (kk : ∀ b o, Rd S b o v → EH P n l S fuel (bset m i) (pushv d (.pointer (some ⟨b, o, none⟩)) ρ) w Q) {kd : IntKind} {iv : Int}
    (hr : rdy m l.length 0 l = i1 :: i :: rs := by exact rfl) (hnth : nth l i = some ⟨d, .indexAddr t x y, ty, ps, af, gd⟩ := by exact rfl) (hg : want n l ρ gd = some true := by exact rfl)
    (hx : evo n ρ x = some (.slice a len c) := by exact rfl) (hy : evo n ρ y = some (.int kd iv) := by exact rfl) (hi : iv = (q : Int) := by omega) (hj : q < len := by omega)
    (hsel : Region.noSelect l.toArray = true := by kernel_rfl) (hf : Region.free .any l.toArray (bits m l.length) i = true := by decide +kernel)
    (hQ : ∀ v c a w, Q (.panic c) (a.put d v) w → Q (.panic c) a w := by exact fun _ _ _ _ h => h) : EH P n l S (fuel + 1) m ρ w Q := by
  obtain ⟨b, o, h1, h2⟩ := run_index_el (P := P) he hp hi hj
  refine EH.take i (by rw [hr]; simp) hnth hsel hf hQ hS (yif (oi := ⟨d, .indexAddr t x y, ty, ps, af, gd⟩) hg (Pf.pv (Pv.indexAddr hx hy h1))) (kk b o ?_)
  intro w' hw'
  refine h2 w' (hSk w' hw').1 0 v ?_
  rw [List.getElem?_take, if_pos (by omega), List.getElem?_drop]
  simpa using hxj
end
/-- Within a drawn region: a state that is walked once, from wherever it is come to. -/
theorem laterK {α : Type} {P : Program} {n : Fm} {l : List Oper} {S : World → Prop} {Q : Exit → Act → World → Prop} {fuel m fuel0 m0 : Nat} {f : α → List (Nat × Value)} {M : α → World → Prop} {ρ0 : List (Nat × Value)} {w0 : World}
    (key : ∀ x w, M x w → EH P n l S fuel m (f x) w Q) (main : (∀ x w, M x w → EH P n l S fuel m (f x) w Q) → EH P n l S fuel0 m0 ρ0 w0 Q) : EH P n l S fuel0 m0 ρ0 w0 Q := main key
theorem add_nan {a b : Nat} (h : nanF a = true) : Ieee.double.add a b = none := by
  unfold nanF Ieee.Format.order at h
  unfold Ieee.Format.add
  cases ha : Ieee.double.read a with
  | nan s t => rfl
  | infinity s => rw [ha] at h; cases s <;> exact absurd h (by decide)
  | number s m e =>
    rw [ha] at h
    simp [Ieee.Datum.order] at h
end Go.Proofs.YtkolnecahlkndaaGreat
