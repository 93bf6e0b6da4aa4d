/-
  The stepping engine: regions that draw their order, where some blocks are held: what only reads them is taken first.
-/
import Derived.Test.YtgciifalclgeeaaGreatDoorM01
import Derived.Deep.MidRow
import Derived.Laws.OwnMore
import Derived.ArgAppend
import Derived.Maps.RangeRun
import Derived.Laws.Externs
import Derived.Lib.ConvBytes
import Derived.Laws.Cover2
import Derived.Test.YtgciifalclgeeaaGreatDoorProg
import Derived.Test.YtgciifalclgeeaaGreatDoorM00
import Derived.Lib.ItoaMem
namespace Go.Proofs.YtgciifalclgeeaaGreatDoor
open Go.RowKit
set_option linter.unusedVariables false
set_option linter.unusedSimpArgs false
set_option linter.unusedSectionVars false
/-- The pool, and some blocks, stand in a world. -/
def Keeps (g : Hl) (F : List (Nat × List Value × TypeId)) (w : World) : Prop := (∀ k o, g k = some o → w.heap[k]? = some o) ∧ ∀ x ∈ F, Blk w x.1 x.2.1 x.2.2
/-- Which operations are done, as bits. -/
def bt (m i : Nat) : Bool := Nat.beq (Nat.land (Nat.shiftRight m i) 1) 1
def bset (m i : Nat) : Nat := Nat.lor m (Nat.shiftLeft 1 i)
def bits (m k : Nat) : Array Bool := ((List.range k).map (bt m)).toArray
theorem bt_testBit (m i : Nat) : bt m i = m.testBit i := by
  have h1 : Nat.land (Nat.shiftRight m i) 1 = (m >>> i) &&& 1 := rfl
  unfold bt
  rw [h1, Nat.and_one_is_mod, Nat.testBit, Nat.and_comm, Nat.and_one_is_mod]
  rcases Nat.mod_two_eq_zero_or_one (m >>> i) with h | h <;> rw [h] <;> rfl
theorem bt_bset (m i j : Nat) : bt (bset m i) j = (bt m j || decide (i = j)) := by
  rw [bt_testBit, bt_testBit]
  show (m ||| 1 <<< i).testBit j = _
  rw [Nat.testBit_or, Nat.testBit_shiftLeft]
  by_cases h : i = j
  · subst h; simp
  · by_cases h2 : j ≥ i
    · have : j - i ≠ 0 := by omega
      have h1 : Nat.testBit 1 (j - i) = false := by
        rw [show (1 : Nat) = 2 ^ 0 from rfl, Nat.testBit_two_pow]; simp; omega
      simp [h, h2, h1]
    · simp [h, h2]
theorem bits_size (m k : Nat) : (bits m k).size = k := by simp [bits]
theorem bits_get (m k i : Nat) (h : i < k) : (bits m k)[i]? = some (bt m i) := by simp [bits, h]
theorem bits_set (m k i : Nat) : (bits m k).setIfInBounds i true = bits (bset m i) k := by
  apply Array.ext_getElem?
  intro j
  by_cases hj : j < k
  · rw [bits_get _ _ _ hj, Array.getElem?_setIfInBounds, bt_bset]
    by_cases h : i = j
    · subst h; simp [bits_size, hj]
    · simp [h, bits_get _ _ _ hj]
  · rw [Array.getElem?_eq_none (by simp [bits_size]; omega), Array.getElem?_eq_none (by simp [bits_size]; omega)]
theorem bits_zero (k : Nat) : bits 0 k = Array.replicate k false := by
  apply Array.ext_getElem?
  intro j
  by_cases hj : j < k
  · have : bt 0 j = false := by rw [bt_testBit]; simp
    simp [bits_get _ _ _ hj, hj, this]
  · rw [Array.getElem?_eq_none (by rw [bits_size]; omega), Array.getElem?_eq_none (by simp; omega)]
theorem bits_getD (m k i : Nat) (d : Bool) : (bits m k).getD i d = if i < k then bt m i else d := by
  rw [Array.getD_eq_getD_getElem?]
  by_cases h : i < k
  · rw [bits_get _ _ _ h, if_pos h]; rfl
  · rw [Array.getElem?_eq_none (by rw [bits_size]; omega), if_neg h]; rfl
/-- Which operations may come up. -/
def edB (m k : Nat) : List Edge → Bool
  | [] => true
  | e :: r => match Region.binds .any e with
    | true => match Nat.blt e.on k with
      | true => match bt m e.on with
        | true => edB m k r
        | false => false
      | false => false
    | false => edB m k r
def rdy (m k : Nat) : Nat → List Oper → List Nat
  | _, [] => []
  | i, o :: r => match bt m i with
    | true => rdy m k (i + 1) r
    | false => match edB m k o.after.toList with
      | true => i :: rdy m k (i + 1) r
      | false => rdy m k (i + 1) r
theorem edB_eq (m k : Nat) : ∀ (l : List Edge), edB m k l = l.all (fun e => !Region.binds .any e || (bits m k).getD e.on false)
  | [] => rfl
  | e :: r => by
    have ih := edB_eq m k r
    simp only [bits_getD] at ih
    simp only [edB, List.all_cons, bits_getD]
    cases Region.binds .any e with
    | false => simp only [Bool.not_false, Bool.true_or, Bool.true_and]; exact ih
    | true =>
      by_cases h : e.on < k
      · have hb : Nat.blt e.on k = true := by rw [Nat.blt_eq]; exact h
        simp only [hb, h, if_true, Bool.not_true, Bool.false_or]
        cases bt m e.on
        · simp
        · simp only [Bool.true_and]; exact ih
      · have hb : Nat.blt e.on k = false := by
          cases hc : Nat.blt e.on k with
          | false => rfl
          | true => rw [Nat.blt_eq] at hc; exact absurd hc h
        simp [hb, h]
theorem rdy_eq (m k : Nat) (ops : Array Oper) (hk : ops.size = k) : ∀ (l : List Oper) (i : Nat), (∀ j, l[j]? = ops[i + j]?) → rdy m k i l = ((List.range' i l.length).filter fun i =>
    !(bits m k).getD i true && ((ops[i]?).map (·.after.all fun e => !Region.binds .any e || (bits m k).getD e.on false)).getD false)
  | [], _, _ => rfl
  | o :: r, i, h => by
    have h0 := h 0
    simp only [List.getElem?_cons_zero, Nat.add_zero] at h0
    have hik : i < k := by
      have := (Array.getElem?_eq_some_iff.1 h0.symm).1
      omega
    have hr := rdy_eq m k ops hk r (i + 1) fun j => by
      have := h (j + 1)
      rw [List.getElem?_cons_succ] at this
      rw [this]; congr 1; omega
    rw [List.length_cons, List.range'_succ, List.filter_cons, ← h0]
    simp only [rdy, bits_getD, hik, if_true, Option.map_some, Option.getD_some]
    have he : (o.after.all fun e => !Region.binds .any e || if e.on < k then bt m e.on else false) = edB m k o.after.toList := by
      rw [edB_eq, ← Array.all_toList]
      simp only [bits_getD]
    rw [he]
    simp only [bits_getD] at hr
    cases bt m i <;> cases edB m k o.after.toList <;> simp only [Bool.not_false, Bool.not_true, Bool.true_and, Bool.false_and, Bool.and_true, Bool.and_false, if_true, Bool.false_eq_true, if_false, hr]
theorem rdy_ready (m : Nat) (l : List Oper) : Region.ready .any l.toArray (bits m l.length) = rdy m l.length 0 l := by
  rw [rdy_eq m l.length l.toArray (by simp) l 0 (fun j => by simp)]
  simp only [Region.ready, List.size_toArray, List.range_eq_range']
/-- A region whose order is drawn, while S holds. -/
def EH (P : Program) (n : Fm) (l : List Oper) (S : World → Prop) (fuel m : Nat) (ρ : List (Nat × Value)) (w : World) (Q : Exit → Act → World → Prop) : Prop := ∀ a, Kn n ρ a → wpAnyH P .any l.toArray Q S fuel (bits m l.length) a w
/-- What an operation yields while S holds. -/
def Pf (P : Program) (n : Fm) (S : World → Prop) (ρ : List (Nat × Value)) (o : Op) (ty : TypeId) (v : Value) : Prop :=
  ∀ a, Kn n ρ a → ∀ w, S w → ∀ (d : Option Tmp) (ps : String) (af : Array Edge) (g : Option (Nat × Bool)), (execOp a.eval ⟨d, o, ty, ps, af, g⟩).run P w = .ok (.value v) w
section
variable {P : Program} {n : Fm} {ρ : List (Nat × Value)} {W w w' : World} {g g' : Hl} {H H' : List HP} {Q : Exit → Act → World → Prop} {l : List Oper} {S : World → Prop} {fuel m : Nat} {d : Option Tmp} {ty : TypeId} {ps : String} {af : Array Edge} {gd : Option (Nat × Bool)} {v u : Value} {x y : Operand} {o : Op} {F : List (Nat × List Value × TypeId)} {i i1 i2 i3 i4 i5 i6 i7 : Nat} {rs : List Nat}
theorem Keeps.of (hs : Sat W w g' H) (hg : Hl.le g g') (hF : ∀ x ∈ F, Fd H x.1 x.2.1 x.2.2) : Keeps g F w := ⟨fun k o h => hs.pool (hg k o h), fun x hx => (hF x hx).blk hs⟩
theorem Keeps.of0 (hs : Sat W w g' H) (hg : Hl.le g g' := by first | exact Hl.le_refl _ | assumption | exact Hl.le.trans (by assumption) (by assumption)) : Keeps g [] w := ⟨fun k o h => hs.pool (hg k o h), fun x hx => by cases hx⟩
theorem Keeps.ofs {F : List (Nat × List Value × TypeId)} {b : Nat} {xs : List Value} {e : TypeId} (h : Keeps g F w) (hs : Sat W w g' H) (hf : Fd H b xs e := by exact fd_) : Keeps g ((b, xs, e) :: F) w :=
  ⟨h.1, fun x hx => by
    rcases List.mem_cons.1 hx with rfl | hx
    · exact hf.blk hs
    · exact h.2 x hx⟩
theorem Pf.pv (h : Pv P n ρ o ty v) : Pf P n S ρ o ty v := fun a ha w _ d ps af g => by
  unfold Pv at h; exact h a ha w d ps af g
theorem Pf.val (h : ∀ a, Kn n ρ a → ∀ w, S w → ∀ (d : Option Tmp) (ps : String) (af : Array Edge) (g : Option (Nat × Bool)), (execOp a.eval ⟨d, o, ty, ps, af, g⟩).run P w = .ok (.value v) w) : Pf P n S ρ o ty v := h
/-- A place that reads so while S holds. -/
def Rd (S : World → Prop) (b j : Nat) (v : Value) : Prop := ∀ w, S w → w.cell? ⟨b, j, none⟩ = some v
inductive InF (b : Nat) (xs : List Value) (e : TypeId) : List (Nat × List Value × TypeId) → Prop
  | here {F : List (Nat × List Value × TypeId)} : InF b xs e ((b, xs, e) :: F)
  | there {F : List (Nat × List Value × TypeId)} {q : Nat × List Value × TypeId} : InF b xs e F → InF b xs e (q :: F)
theorem InF.mem {b : Nat} {xs : List Value} {e : TypeId} (h : InF b xs e F) : (b, xs, e) ∈ F := by
  induction h with
  | here => exact List.mem_cons_self ..
  | there _ ih => exact List.mem_cons_of_mem _ ih
theorem Rd.blk {b j : Nat} {xs : List Value} {e : TypeId} (h : InF b xs e F) (hj : xs[j]? = some v) : Rd (Keeps g F) b j v := fun w hw => (blk_cell (hw.2 _ h.mem) j).trans hj
theorem Rd.pool {b o c k j : Nat} {xs : List Value} (hp : Pr k g (.slice (some ⟨b, o, none⟩) i c) i xs) (hj : xs[j]? = some v) : Rd (Keeps g F) b (o + j) v := fun w hw => by
  have hr : Row k w (fun _ => True) (.slice (some ⟨b, o, none⟩) i c) i xs := by
    obtain ⟨h1, a, c', e, hn, hc, ha, h⟩ := hp
    refine ⟨h1, a, c', e, hn, hc, ha, h.imp id ?_⟩
    rintro ⟨b', o', cur, e', fz, ea, hg, ht⟩
    exact ⟨b', o', cur, e', fz, ea, trivial, hw.1 _ _ hg, ht⟩
  exact (hr.cellAt rfl hj).2
theorem Keeps.row {k : Nat} {xs : List Value} (hw : Keeps g F w) (hp : Pr k g v i xs) : Row k w (fun _ => True) v i xs := by
  obtain ⟨h1, a, c', e, hn, hc, ha, h⟩ := hp
  refine ⟨h1, a, c', e, hn, hc, ha, h.imp id ?_⟩
  rintro ⟨b', o', cur, e', fz, ea, hg, ht⟩
  exact ⟨b', o', cur, e', fz, ea, trivial, hw.1 _ _ hg, ht⟩
theorem Pf.load {b j : Nat} {t : TypeId} (hx : evo n ρ x = some (.pointer (some ⟨b, j, none⟩))) (hc : Rd S b j v) (ha : ∀ w, (isAgg t).run P w = .ok false w) : Pf P n S ρ (.load t x) ty v := fun a hk w hS d ps af g => by
  simp [execOp, hk.eval hx, Instr.loadAt, Instr.sureAddr, loadVar, ha, hc w hS]
theorem Pf.loadp {b j k : Nat} {xs vs : List Value} {e t : TypeId} (hx : evo n ρ x = some (.pointer (some ⟨b, j, none⟩))) (hf : InF b xs e F) (st : AggOf P t k) (hv : (xs.drop j).take k = vs) (hk : vs.length = k) : Pf P n (Keeps g F) ρ (.load t x) ty (.agg vs.toArray) := fun a ha w hS d ps af g' => by
  have := run_ldp st (hS.2 _ hf.mem) hv hk
  simp [execOp, ha.eval hx, Instr.loadAt, Instr.sureAddr, this]
/-- string(b), of a row of the pool's. -/
theorem Pf.string {src dst e : TypeId} {k : Nat} {bl : List UInt8} (hx : evo n ρ x = some u) (hrow : Pr 1 g u k (bs bl)) (h1 : P.underlying src = some (.slice e)) (h2 : P.underlying e = some (.int .u8)) (h3 : P.underlying dst = some .string) :
    Pf P n (Keeps g F) ρ (.convert src dst x) ty (.string ⟨bl.toArray⟩) := fun a ha w hS d ps af g' => by
  simp [execOp, ha.eval hx, run_string h1 h2 h3 (hS.row hrow)]
theorem C.held {id : Nat} (S : World → Prop) (hs : Sat W w g H) (h : ∀ w', Sat W w' g H → EH P n l S l.length 0 ρ w' Q) (hm : P.follows .mixedOrders = true := by kernel_rfl) : C P n (.region id l.toArray true) ρ w Q := C.mk fun a ha =>
  wp_region_held (S := S) hm (by
    have := h _ hs.drew a ha
    rw [bits_zero] at this
    simpa using this)
theorem C.held0 {id : Nat} (hs : Sat W w g H) (h : ∀ w', Keeps g [] w' → Sat W w' g H → EH P n l (Keeps g []) l.length 0 ρ w' Q) (hm : P.follows .mixedOrders = true := by kernel_rfl) : C P n (.region id l.toArray true) ρ w Q :=
  C.held _ hs (fun w' hs' => h w' (Keeps.of0 hs') hs') hm
theorem C.held1 {id : Nat} (b1 : Nat) {x1 : List Value} {e1 : TypeId} (hs : Sat W w g H) (h : ∀ w', Keeps g [(b1, x1, e1)] w' → Sat W w' g H → EH P n l (Keeps g [(b1, x1, e1)]) l.length 0 ρ w' Q) (h1 : Fd H b1 x1 e1 := by exact fd_) (hm : P.follows .mixedOrders = true := by kernel_rfl) : C P n (.region id l.toArray true) ρ w Q :=
  C.held _ hs (fun w' hs' => h w' ((Keeps.of0 hs').ofs hs' h1) hs') hm
theorem Keeps.of1 {b1 : Nat} {x1 : List Value} {e1 : TypeId} (hs : Sat W w g' H) (hg : Hl.le g g' := by first | exact Hl.le_refl _ | assumption | exact Hl.le.trans (by assumption) (by assumption)) (h1 : Fd H b1 x1 e1 := by exact fd_) : Keeps g [(b1, x1, e1)] w := (Keeps.of0 hs hg).ofs hs h1
theorem kept1 {G : Prop} {b1 : Nat} {x1 : List Value} {e1 : TypeId} (hs : Sat W w g' H) (h : Keeps g [(b1, x1, e1)] w → G) (hg : Hl.le g g' := by first | exact Hl.le_refl _ | assumption | exact Hl.le.trans (by assumption) (by assumption)) (h1 : Fd H b1 x1 e1 := by exact fd_) : Keeps g [(b1, x1, e1)] w ∧ G := ⟨Keeps.of1 hs hg h1, h (Keeps.of1 hs hg h1)⟩
theorem EH.done (h : A n .normal ρ w Q) (hr : rdy m l.length 0 l = [] := by exact rfl) : EH P n l S fuel m ρ w Q := fun a ha => wpAnyH_done (by rw [rdy_ready, hr]) (A.use h ha) _
/-- What may be taken first. -/
theorem EH.take {oi : Oper} (i : Nat) (hr : i ∈ rdy m l.length 0 l) (hi : nth l i = some oi) (hsel : Region.noSelect l.toArray = true) (hf : Region.free .any l.toArray (bits m l.length) i = true)
    (hQ : ∀ v c a w, Q (.panic c) (a.put oi.dst v) w → Q (.panic c) a w) (hS : S w) (hy : ∀ a, Kn n ρ a → YieldsIf P l.toArray S oi v a) (h : EH P n l S fuel (bset m i) (pushv oi.dst v ρ) w Q) : EH P n l S (fuel + 1) m ρ w Q := fun a ha =>
  wpAnyH_take (nth_get hi) hsel hf (by rw [rdy_ready]; simpa using hr) (hQ v) (hy a ha) hS (by rw [bits_set]; exact h _ (ha.put _ _))
theorem yif {oi : Oper} (hg : want n l ρ oi.guard = some true) (h : Pf P n S ρ oi.op oi.type v) (a : Act) (ha : Kn n ρ a) : YieldsIf P l.toArray S oi v a := by
  obtain ⟨d, o, ty, ps, af, gd⟩ := oi
  exact .inl ⟨want_get hg ha, fun w hS => h a ha w hS _ _ _ _⟩
theorem yoff {oi : Oper} (hg : want n l ρ oi.guard = some false) (a : Act) (ha : Kn n ρ a) : YieldsIf P l.toArray S oi undef a := by
  obtain ⟨d, o, ty, ps, af, gd⟩ := oi
  exact .inr ⟨want_get hg ha, rfl⟩
/-- The operation at hand in a drawn region: what is wanted behind it. -/
def AllSt (P : Program) (n : Fm) (l : List Oper) (S : World → Prop) (fuel m : Nat) (ρ : List (Nat × Value)) (w : World) (Q : Exit → Act → World → Prop) : List Nat → Prop
  | [] => True
  | i :: r => (∃ oi, nth l i = some oi ∧ St P n l.toArray oi ρ w (fun ρ' w' => S w' ∧ EH P n l S fuel (bset m i) ρ' w' Q) Q) ∧ AllSt P n l S fuel m ρ w Q r
theorem EH.all {rs : List Nat} (h : AllSt P n l S fuel m ρ w Q rs) (hr : rdy m l.length 0 l = rs) (hne : rs ≠ []) : EH P n l S (fuel + 1) m ρ w Q := fun a ha => by
  refine wpAnyH_all (rs := rs) (by rw [rdy_ready, hr]) hne ?_
  clear hr hne
  intro i hi
  induction rs with
  | nil => cases hi
  | cons j r ih =>
    obtain ⟨⟨oi, hoi, hst⟩, hrest⟩ := h
    rcases List.mem_cons.1 hi with rfl | hi
    · unfold wpOp
      rw [nth_get hoi]
      simp only
      have h1 := St.use hst ha (fun a' w' => S w' ∧ wpAnyH P .any l.toArray Q S fuel ((bits m l.length).setIfInBounds i true) a' w') (fun ρ' w' a' hN hk => ⟨hN.1, by rw [bits_set]; exact hN.2 a' hk⟩)
      split
      · rename_i hw
        rw [if_pos hw] at h1
        exact .inl h1
      · rename_i hw
        rw [if_neg hw] at h1
        exact h1
    · exact ih hrest hi
theorem EH.one {oi : Oper} (h : St P n l.toArray oi ρ w (fun ρ' w' => S w' ∧ EH P n l S fuel (bset m i) ρ' w' Q) Q) (hr : rdy m l.length 0 l = [i] := by exact rfl) (hi : nth l i = some oi := by exact rfl) : EH P n l S (fuel + 1) m ρ w Q :=
  EH.all (rs := [i]) ⟨⟨oi, hi, h⟩, trivial⟩ hr (by simp)
/-- What an operation yields while S holds, found. -/
theorem pft (h : Pf P n S ρ o ty v := by
    first
    | (apply Pf.pv; exact pvt)
    | (apply Pf.load; exact rfl; (first | assumption | exact Rd.blk (by repeat (first | exact InF.here | apply InF.there)) rfl); (first | (intro w; go_simp; done) | fail))
    | (apply Pf.loadp; exact rfl; (repeat (first | exact InF.here | apply InF.there)); assumption; exact nz_; exact rfl)) : Pf P n S ρ o ty v := h
theorem EH.t0 {oi : Oper} (hS : S w) (h : EH P n l S fuel (bset m i) (pushv oi.dst v ρ) w Q) (hr : rdy m l.length 0 l = i :: rs := by exact rfl) (hi : nth l i = some oi := by exact rfl) (hg : want n l ρ oi.guard = some true := by exact rfl) (hy : Pf P n S ρ oi.op oi.type v := by exact pft) (hsel : Region.noSelect l.toArray = true := by kernel_rfl) (hf : Region.free .any l.toArray (bits m l.length) i = true := by decide +kernel)
    (hQ : ∀ v c a w, Q (.panic c) (a.put oi.dst v) w → Q (.panic c) a w := by exact fun _ _ _ _ h => h) : EH P n l S (fuel + 1) m ρ w Q :=
  EH.take i (by rw [hr]; simp) hi hsel hf hQ hS (yif hg hy) h
theorem EH.o0 {oi : Oper} (hS : S w) (h : EH P n l S fuel (bset m i) (pushv oi.dst undef ρ) w Q) (hr : rdy m l.length 0 l = i :: rs := by exact rfl) (hi : nth l i = some oi := by exact rfl) (hg : want n l ρ oi.guard = some false := by exact rfl) (hsel : Region.noSelect l.toArray = true := by kernel_rfl) (hf : Region.free .any l.toArray (bits m l.length) i = true := by decide +kernel)
    (hQ : ∀ v c a w, Q (.panic c) (a.put oi.dst v) w → Q (.panic c) a w := by exact fun _ _ _ _ h => h) : EH P n l S (fuel + 1) m ρ w Q :=
  EH.take i (by rw [hr]; simp) hi hsel hf hQ hS (yoff hg) h
theorem EH.t1 {oi : Oper} (hS : S w) (h : EH P n l S fuel (bset m i) (pushv oi.dst v ρ) w Q) (hr : rdy m l.length 0 l = i1 :: i :: rs := by exact rfl) (hi : nth l i = some oi := by exact rfl) (hg : want n l ρ oi.guard = some true := by exact rfl) (hy : Pf P n S ρ oi.op oi.type v := by exact pft) (hsel : Region.noSelect l.toArray = true := by kernel_rfl) (hf : Region.free .any l.toArray (bits m l.length) i = true := by decide +kernel)
    (hQ : ∀ v c a w, Q (.panic c) (a.put oi.dst v) w → Q (.panic c) a w := by exact fun _ _ _ _ h => h) : EH P n l S (fuel + 1) m ρ w Q :=
  EH.take i (by rw [hr]; simp) hi hsel hf hQ hS (yif hg hy) h
theorem EH.o1 {oi : Oper} (hS : S w) (h : EH P n l S fuel (bset m i) (pushv oi.dst undef ρ) w Q) (hr : rdy m l.length 0 l = i1 :: i :: rs := by exact rfl) (hi : nth l i = some oi := by exact rfl) (hg : want n l ρ oi.guard = some false := by exact rfl) (hsel : Region.noSelect l.toArray = true := by kernel_rfl) (hf : Region.free .any l.toArray (bits m l.length) i = true := by decide +kernel)
    (hQ : ∀ v c a w, Q (.panic c) (a.put oi.dst v) w → Q (.panic c) a w := by exact fun _ _ _ _ h => h) : EH P n l S (fuel + 1) m ρ w Q :=
  EH.take i (by rw [hr]; simp) hi hsel hf hQ hS (yoff hg) h
theorem EH.t2 {oi : Oper} (hS : S w) (h : EH P n l S fuel (bset m i) (pushv oi.dst v ρ) w Q) (hr : rdy m l.length 0 l = i1 :: i2 :: i :: rs := by exact rfl) (hi : nth l i = some oi := by exact rfl) (hg : want n l ρ oi.guard = some true := by exact rfl) (hy : Pf P n S ρ oi.op oi.type v := by exact pft) (hsel : Region.noSelect l.toArray = true := by kernel_rfl) (hf : Region.free .any l.toArray (bits m l.length) i = true := by decide +kernel)
    (hQ : ∀ v c a w, Q (.panic c) (a.put oi.dst v) w → Q (.panic c) a w := by exact fun _ _ _ _ h => h) : EH P n l S (fuel + 1) m ρ w Q :=
  EH.take i (by rw [hr]; simp) hi hsel hf hQ hS (yif hg hy) h
theorem EH.o2 {oi : Oper} (hS : S w) (h : EH P n l S fuel (bset m i) (pushv oi.dst undef ρ) w Q) (hr : rdy m l.length 0 l = i1 :: i2 :: i :: rs := by exact rfl) (hi : nth l i = some oi := by exact rfl) (hg : want n l ρ oi.guard = some false := by exact rfl) (hsel : Region.noSelect l.toArray = true := by kernel_rfl) (hf : Region.free .any l.toArray (bits m l.length) i = true := by decide +kernel)
    (hQ : ∀ v c a w, Q (.panic c) (a.put oi.dst v) w → Q (.panic c) a w := by exact fun _ _ _ _ h => h) : EH P n l S (fuel + 1) m ρ w Q :=
  EH.take i (by rw [hr]; simp) hi hsel hf hQ hS (yoff hg) h
theorem EH.t3 {oi : Oper} (hS : S w) (h : EH P n l S fuel (bset m i) (pushv oi.dst v ρ) w Q) (hr : rdy m l.length 0 l = i1 :: i2 :: i3 :: i :: rs := by exact rfl) (hi : nth l i = some oi := by exact rfl) (hg : want n l ρ oi.guard = some true := by exact rfl) (hy : Pf P n S ρ oi.op oi.type v := by exact pft) (hsel : Region.noSelect l.toArray = true := by kernel_rfl) (hf : Region.free .any l.toArray (bits m l.length) i = true := by decide +kernel)
    (hQ : ∀ v c a w, Q (.panic c) (a.put oi.dst v) w → Q (.panic c) a w := by exact fun _ _ _ _ h => h) : EH P n l S (fuel + 1) m ρ w Q :=
  EH.take i (by rw [hr]; simp) hi hsel hf hQ hS (yif hg hy) h
theorem EH.o3 {oi : Oper} (hS : S w) (h : EH P n l S fuel (bset m i) (pushv oi.dst undef ρ) w Q) (hr : rdy m l.length 0 l = i1 :: i2 :: i3 :: i :: rs := by exact rfl) (hi : nth l i = some oi := by exact rfl) (hg : want n l ρ oi.guard = some false := by exact rfl) (hsel : Region.noSelect l.toArray = true := by kernel_rfl) (hf : Region.free .any l.toArray (bits m l.length) i = true := by decide +kernel)
    (hQ : ∀ v c a w, Q (.panic c) (a.put oi.dst v) w → Q (.panic c) a w := by exact fun _ _ _ _ h => h) : EH P n l S (fuel + 1) m ρ w Q :=
  EH.take i (by rw [hr]; simp) hi hsel hf hQ hS (yoff hg) h
theorem EH.t4 {oi : Oper} (hS : S w) (h : EH P n l S fuel (bset m i) (pushv oi.dst v ρ) w Q) (hr : rdy m l.length 0 l = i1 :: i2 :: i3 :: i4 :: i :: rs := by exact rfl) (hi : nth l i = some oi := by exact rfl) (hg : want n l ρ oi.guard = some true := by exact rfl) (hy : Pf P n S ρ oi.op oi.type v := by exact pft) (hsel : Region.noSelect l.toArray = true := by kernel_rfl) (hf : Region.free .any l.toArray (bits m l.length) i = true := by decide +kernel)
    (hQ : ∀ v c a w, Q (.panic c) (a.put oi.dst v) w → Q (.panic c) a w := by exact fun _ _ _ _ h => h) : EH P n l S (fuel + 1) m ρ w Q :=
  EH.take i (by rw [hr]; simp) hi hsel hf hQ hS (yif hg hy) h
theorem EH.o4 {oi : Oper} (hS : S w) (h : EH P n l S fuel (bset m i) (pushv oi.dst undef ρ) w Q) (hr : rdy m l.length 0 l = i1 :: i2 :: i3 :: i4 :: i :: rs := by exact rfl) (hi : nth l i = some oi := by exact rfl) (hg : want n l ρ oi.guard = some false := by exact rfl) (hsel : Region.noSelect l.toArray = true := by kernel_rfl) (hf : Region.free .any l.toArray (bits m l.length) i = true := by decide +kernel)
    (hQ : ∀ v c a w, Q (.panic c) (a.put oi.dst v) w → Q (.panic c) a w := by exact fun _ _ _ _ h => h) : EH P n l S (fuel + 1) m ρ w Q :=
  EH.take i (by rw [hr]; simp) hi hsel hf hQ hS (yoff hg) h
theorem EH.t5 {oi : Oper} (hS : S w) (h : EH P n l S fuel (bset m i) (pushv oi.dst v ρ) w Q) (hr : rdy m l.length 0 l = i1 :: i2 :: i3 :: i4 :: i5 :: i :: rs := by exact rfl) (hi : nth l i = some oi := by exact rfl) (hg : want n l ρ oi.guard = some true := by exact rfl) (hy : Pf P n S ρ oi.op oi.type v := by exact pft) (hsel : Region.noSelect l.toArray = true := by kernel_rfl) (hf : Region.free .any l.toArray (bits m l.length) i = true := by decide +kernel)
    (hQ : ∀ v c a w, Q (.panic c) (a.put oi.dst v) w → Q (.panic c) a w := by exact fun _ _ _ _ h => h) : EH P n l S (fuel + 1) m ρ w Q :=
  EH.take i (by rw [hr]; simp) hi hsel hf hQ hS (yif hg hy) h
theorem EH.o5 {oi : Oper} (hS : S w) (h : EH P n l S fuel (bset m i) (pushv oi.dst undef ρ) w Q) (hr : rdy m l.length 0 l = i1 :: i2 :: i3 :: i4 :: i5 :: i :: rs := by exact rfl) (hi : nth l i = some oi := by exact rfl) (hg : want n l ρ oi.guard = some false := by exact rfl) (hsel : Region.noSelect l.toArray = true := by kernel_rfl) (hf : Region.free .any l.toArray (bits m l.length) i = true := by decide +kernel)
    (hQ : ∀ v c a w, Q (.panic c) (a.put oi.dst v) w → Q (.panic c) a w := by exact fun _ _ _ _ h => h) : EH P n l S (fuel + 1) m ρ w Q :=
  EH.take i (by rw [hr]; simp) hi hsel hf hQ hS (yoff hg) h
theorem EH.t6 {oi : Oper} (hS : S w) (h : EH P n l S fuel (bset m i) (pushv oi.dst v ρ) w Q) (hr : rdy m l.length 0 l = i1 :: i2 :: i3 :: i4 :: i5 :: i6 :: i :: rs := by exact rfl) (hi : nth l i = some oi := by exact rfl) (hg : want n l ρ oi.guard = some true := by exact rfl) (hy : Pf P n S ρ oi.op oi.type v := by exact pft) (hsel : Region.noSelect l.toArray = true := by kernel_rfl) (hf : Region.free .any l.toArray (bits m l.length) i = true := by decide +kernel)
    (hQ : ∀ v c a w, Q (.panic c) (a.put oi.dst v) w → Q (.panic c) a w := by exact fun _ _ _ _ h => h) : EH P n l S (fuel + 1) m ρ w Q :=
  EH.take i (by rw [hr]; simp) hi hsel hf hQ hS (yif hg hy) h
theorem EH.o6 {oi : Oper} (hS : S w) (h : EH P n l S fuel (bset m i) (pushv oi.dst undef ρ) w Q) (hr : rdy m l.length 0 l = i1 :: i2 :: i3 :: i4 :: i5 :: i6 :: i :: rs := by exact rfl) (hi : nth l i = some oi := by exact rfl) (hg : want n l ρ oi.guard = some false := by exact rfl) (hsel : Region.noSelect l.toArray = true := by kernel_rfl) (hf : Region.free .any l.toArray (bits m l.length) i = true := by decide +kernel)
    (hQ : ∀ v c a w, Q (.panic c) (a.put oi.dst v) w → Q (.panic c) a w := by exact fun _ _ _ _ h => h) : EH P n l S (fuel + 1) m ρ w Q :=
  EH.take i (by rw [hr]; simp) hi hsel hf hQ hS (yoff hg) h
theorem EH.t7 {oi : Oper} (hS : S w) (h : EH P n l S fuel (bset m i) (pushv oi.dst v ρ) w Q) (hr : rdy m l.length 0 l = i1 :: i2 :: i3 :: i4 :: i5 :: i6 :: i7 :: i :: rs := by exact rfl) (hi : nth l i = some oi := by exact rfl) (hg : want n l ρ oi.guard = some true := by exact rfl) (hy : Pf P n S ρ oi.op oi.type v := by exact pft) (hsel : Region.noSelect l.toArray = true := by kernel_rfl) (hf : Region.free .any l.toArray (bits m l.length) i = true := by decide +kernel)
    (hQ : ∀ v c a w, Q (.panic c) (a.put oi.dst v) w → Q (.panic c) a w := by exact fun _ _ _ _ h => h) : EH P n l S (fuel + 1) m ρ w Q :=
  EH.take i (by rw [hr]; simp) hi hsel hf hQ hS (yif hg hy) h
theorem EH.o7 {oi : Oper} (hS : S w) (h : EH P n l S fuel (bset m i) (pushv oi.dst undef ρ) w Q) (hr : rdy m l.length 0 l = i1 :: i2 :: i3 :: i4 :: i5 :: i6 :: i7 :: i :: rs := by exact rfl) (hi : nth l i = some oi := by exact rfl) (hg : want n l ρ oi.guard = some false := by exact rfl) (hsel : Region.noSelect l.toArray = true := by kernel_rfl) (hf : Region.free .any l.toArray (bits m l.length) i = true := by decide +kernel)
    (hQ : ∀ v c a w, Q (.panic c) (a.put oi.dst v) w → Q (.panic c) a w := by exact fun _ _ _ _ h => h) : EH P n l S (fuel + 1) m ρ w Q :=
  EH.take i (by rw [hr]; simp) hi hsel hf hQ hS (yoff hg) h
/-- All that only reads what is held, or turns nothing. -/
theorem goh {G G' : Prop} (k : G') (h : Lf G' → G := by
    intro kkk
    repeat (first | refine EH.t0 hk ?_ | refine EH.t1 hk ?_ | refine EH.t2 hk ?_ | refine EH.t3 hk ?_ | refine EH.t4 hk ?_ | refine EH.t5 hk ?_ | refine EH.t6 hk ?_ | refine EH.t7 hk ?_ | refine EH.o0 hk ?_ | refine EH.o1 hk ?_ | refine EH.o2 hk ?_ | refine EH.o3 hk ?_ | refine EH.o4 hk ?_ | refine EH.o5 hk ?_ | refine EH.o6 hk ?_ | refine EH.o7 hk ?_)
    exact kkk.out) : G := h ⟨k⟩
end
end Go.Proofs.YtgciifalclgeeaaGreatDoor

/-
  The stepping engine: parts of rows, and their elements, in short words. An address that nobody asks for is not told.
-/
namespace Go.Proofs.YtgciifalclgeeaaGreatDoor
open Go.RowKit
set_option linter.unusedVariables false
set_option linter.unusedSimpArgs false
set_option linter.unusedSectionVars false
section
variable {P : Program} {n : Fm} {ρ ρ' : List (Nat × Value)} {W w w' : World} {g g' : Hl} {H H' : List HP} {Q : Exit → Act → World → Prop} {ops : Array Oper} {rest : List Oper} {d : Option Tmp} {ty : TypeId} {ps : String} {af : Array Edge} {v u : Value} {x y : Operand} {N : List (Nat × Value) → World → Prop} {o : Op} {b j k s : Nat} {xs : List Value} {e t : TypeId} {z : Value} {bytes : Nat} {a : Option Addr} {len c : Nat} {lo hi mx : Option Operand} {vl vh vm : Option Value}
/-- &s[j] of a row that reads so now, an element of one cell. -/
theorem E.ixr {D : Nat → Prop} (he : ElemOf P t e z 1 bytes) (hp : Row 1 w D (.slice a len c) len xs) (j : Nat) (hxj : xs[j]? = some v) (k : ∀ b o, w.cell? ⟨b, o, none⟩ = some v → E P n ops rest (pushv d (.pointer (some ⟨b, o, none⟩)) ρ) w Q) {kd : IntKind} {i : Int}
    (hx : evo n ρ x = some (.slice a len c) := by exact rfl) (hy : evo n ρ y = some (.int kd i) := by exact rfl) (hi : i = (j : Int) := by omega) (hj : j < len := by omega) :
    E P n ops (⟨d, .indexAddr t x y, ty, ps, af, none⟩ :: rest) ρ w Q := by
  have ha : ∃ b o, a = some ⟨b, o, none⟩ := by
    obtain ⟨_, a', c', e, _, _, _, h0 | ⟨b, o, cur, t', fz, e2, _, _⟩⟩ := id hp
    · omega
    · simp only [Value.slice.injEq] at e
      exact ⟨b, o, e.1.trans e2⟩
  obtain ⟨b, o, rfl⟩ := ha
  have hc := (hp.cellAt rfl hxj).2
  exact E.pv (Pv.indexAddr hx hy (v := .pointer (some ⟨b, o + j, none⟩)) (fun w => by have := run_index_at he hi hj w (P := P) (b := b) (o := o) (n := len) (c := c) (kd := kd); simpa using this)) (k b (o + j) hc)
/-- string(b), in order. -/
theorem E.strc {bl : List UInt8} {e' dt : TypeId} {D : Nat → Prop} (hrow : Row 1 w D (.slice a len c) len (bs bl)) (h1 : P.underlying t = some (.slice e')) (h2 : P.underlying e' = some (.int .u8)) (h3 : P.underlying dt = some .string) (h : E P n ops rest (pushv d (.string ⟨bl.toArray⟩) ρ) w Q) (hx : evo n ρ x = some (.slice a len c) := by exact rfl) :
    E P n ops (⟨d, .convert t dt x, ty, ps, af, none⟩ :: rest) ρ w Q := E.cons (St.string hx h1 h2 h3 hrow h)
/-- make([]T, n). -/
theorem E.mk {kl kc : IntKind} {k2 : Nat} {i j : Int} (he : ElemOf P t e z s bytes) (hs : Sat W w g H) (h : ∀ a' w', Sat W w' g (own e s (.slice a' k2 k2) k2 (madeCells z.cells (k2 * s)).toList :: H) → E P n ops rest (pushv d (.slice a' k2 k2) ρ) w' Q) (hb : k2 * bytes ≤ 140737488355328 := by omega)
    (hx : evo n ρ x = some (.int kl i) := by exact rfl) (hy : evo n ρ y = some (.int kc j) := by exact rfl) (hi : i = (k2 : Int) := by omega) (hj : j = (k2 : Int) := by omega) (h63 : k2 ≤ 9223372036854775807 := by omega) :
    E P n ops (⟨d, .makeSlice t x y, ty, ps, af, none⟩ :: rest) ρ w Q := by
  subst hi hj
  obtain ⟨ht, ⟨inf, hin, hz, hsz, hby⟩, hzs, hpos⟩ := he
  obtain ⟨w', hr, ho, hg⟩ := run_make_full (P := P) w w.heap.size t e inf z s ht hin hz hsz kl kc k2 (by rw [hby, Nat.mul_comm]; omega) (by unfold maxLen; omega) (Nat.le_refl _)
  exact E.cons (St.val (fun a ha => by simp [execOp, ha.eval hx, ha.eval hy, hr]) (h _ _ (hs.newOwn ho ⟨hg.os, hg.tape, hg.output, hg.size, fun q hq => hg.block q hq (by simp)⟩)))
/-- A struct out of a range of cells. -/
theorem E.ldr {cs : List Value} {o : Nat} (hr : w.rangeAt b o cs) (st : AggOf P t k) (hk : cs.length = k) (h : E P n ops rest (pushv d (.agg cs.toArray) ρ) w Q) (hx : evo n ρ x = some (.pointer (some ⟨b, o, none⟩)) := by exact rfl) :
    E P n ops (⟨d, .load t x, ty, ps, af, none⟩ :: rest) ρ w Q := by
  obtain ⟨d', h1, h2, h3⟩ := st
  subst hk
  exact E.cons (St.loads hx (run_loadVar_mid w b o t cs d' hr h1 (by cases d' <;> first | rfl | simp at h2) h3) h)
end
section
variable {P : Program} {n : Fm} {ρ : List (Nat × Value)} {W w w' : World} {g g' : Hl} {H H' : List HP} {Q : Exit → Act → World → Prop} {l : List Oper} {S : World → Prop} {fuel m : Nat} {d : Option Tmp} {ty : TypeId} {ps : String} {af : Array Edge} {gd : Option (Nat × Bool)} {v u : Value} {x y : Operand} {o : Op} {F : List (Nat × List Value × TypeId)} {i b k s : Nat} {rs : List Nat} {t e : TypeId} {z : Value} {bytes : Nat} {a : Option Addr} {len c : Nat} {lo hi mx : Option Operand} {vl vh vm : Option Value}
/-- string(b) of a row of the pool's, in a drawn region: the first operation that may come up. -/
theorem EH.strc {bl : List UInt8} (hp : Pr 1 g (.slice a len c) len (bs bl)) (hS : S w) (hSk : ∀ w, S w → Keeps g F w) (h1 : P.underlying t = some (.slice e)) (h2 : P.underlying e = some (.int .u8)) {dt : TypeId} (h3 : P.underlying dt = some .string) (kk : EH P n l S fuel (bset m i) (pushv d (.string ⟨bl.toArray⟩) ρ) w Q)
    (hr : rdy m l.length 0 l = i :: rs := by exact rfl) (hnth : nth l i = some ⟨d, .convert t dt x, ty, ps, af, gd⟩ := by exact rfl) (hg : want n l ρ gd = some true := by exact rfl)
    (hx : evo n ρ x = some (.slice a len c) := by exact rfl)
    (hsel : Region.noSelect l.toArray = true := by kernel_rfl) (hf : Region.free .any l.toArray (bits m l.length) i = true := by decide +kernel)
    (hQ : ∀ v c a w, Q (.panic c) (a.put d v) w → Q (.panic c) a w := by exact fun _ _ _ _ h => h) : EH P n l S (fuel + 1) m ρ w Q :=
  EH.take i (by rw [hr]; simp) hnth hsel hf hQ hS (yif (oi := ⟨d, .convert t dt x, ty, ps, af, gd⟩) hg (Pf.val fun a' ha w hw d ps af g' => by
    have := (Pf.string (P := P) (n := n) (F := F) (g := g) (ty := ty) hx hp h1 h2 h3) a' ha w (hSk w hw) d ps af g'
    exact this)) kk
end
end Go.Proofs.YtgciifalclgeeaaGreatDoor

/-
  What is owned: many things as one; rows whose array may be longer than they may grow; lists of keys and things.
-/
namespace Go.Proofs.YtgciifalclgeeaaGreatDoor
open Go.RowKit
set_option linter.unusedVariables false
set_option linter.unusedSimpArgs false
set_option linter.unusedSectionVars false
theorem Sat.d1 {W w : World} {g : Hl} {A B : HP} {H : List HP} (hs : Sat W w g (A :: B :: H)) : Sat W w g (A :: H) := hs.swap.drop
namespace Sat
variable {W w w' : World} {g g' : Hl} {H H' : List HP} {E : TypeId} {size : Nat} {v : Value} {n : Nat} {xs : List Value}
end Sat
section
variable {P : Program} {W w w' : World} {g g' : Hl} {H H' : List HP} {t e ty : TypeId} {z : Value} {size bytes : Nat} {n : Fm} {ρ : List (Nat × Value)} {Q : Exit → Act → World → Prop} {ops : Array Oper} {rest : List Oper} {d : Option Tmp} {ps : String} {af : Array Edge} {x y : Operand} {N : List (Nat × Value) → World → Prop}
end
/-! Lists of keys and things. -/
section
variable {κ β : Type} [DecidableEq κ]
end
end Go.Proofs.YtgciifalclgeeaaGreatDoor

/-
  A map that a call owns, while it is gone through.
-/
namespace Go.Proofs.YtgciifalclgeeaaGreatDoor
open Go.RowKit
set_option linter.unusedVariables false
set_option linter.unusedSimpArgs false
set_option linter.unusedSectionVars false
section
variable {κ : Type} [DecidableEq κ]
structure IS where
  es : Array MapEntry
  clock : Nat
  since : Nat
  seen : Array Nat
  c0 : Nat
/-- Block b is a map, block r goes through it: 'todo' is still to come; 'cur' came last. -/
def IterOk (enc : κ → Value) (l todo : List (κ × Value)) (cur : Option (κ × Value)) (s : IS) : Prop :=
  Ents enc l s.es s.clock ∧ (∀ x ∈ s.es.toList, x.born < s.since) ∧ s.since ≤ s.c0 ∧ s.since ≤ s.clock ∧ (leftOf s.es s.seen).toList.map entOf = todo.map (fun p => (enc p.1, p.2)) ∧
    ∀ p, cur = some p → ∃ e ∈ s.es.toList, entOf e = (enc p.1, p.2) ∧ ∃ sn : Array Nat, s.seen = sn.push e.born ∧ s.c0 = s.clock
def iter (enc : κ → Value) (b r : Nat) (l todo : List (κ × Value)) (cur : Option (κ × Value)) : HP :=
  exs fun s : IS => wit (fun _ => IterOk enc l todo cur s) (fun _ _ _ h => h) (sep (obj b (.map s.es s.clock)) (obj r (.mapIter (some b) s.since s.seen s.c0)))
variable {P : Program} {W w : World} {g : Hl} {H : List HP} {enc : κ → Value} {t kt et ty : TypeId} {b r : Nat} {l todo : List (κ × Value)} {cur : Option (κ × Value)}
theorem iter_open (hs : Sat W w g (iter enc b r l todo cur :: H)) : ∃ s : IS, IterOk enc l todo cur s ∧ Sat W w g (obj b (.map s.es s.clock) :: obj r (.mapIter (some b) s.since s.seen s.c0) :: H) := by
  obtain ⟨s, h⟩ := hs.unexs
  exact ⟨s, h.unwit.1, h.unwit.2.split⟩
theorem iter_close (s : IS) (h : IterOk enc l todo cur s) (hs : Sat W w g (obj b (.map s.es s.clock) :: obj r (.mapIter (some b) s.since s.seen s.c0) :: H)) : Sat W w g (iter enc b r l todo cur :: H) :=
  Sat.mkexs s (Sat.mkwit h hs.join)
theorem mp_iter (ht : P.underlying t = some (.map kt et)) (hs : Sat W w g (mp enc b l :: H)) : ∃ w', (Instr.range t (.map (some b))).run P w = .ok (.pointer (some ⟨w.heap.size, 0, none⟩)) w' ∧ Sat W w' g (iter enc b w.heap.size l l none :: H) := by
  obtain ⟨es, clock, he, ho⟩ := mp_open hs
  refine ⟨_, run_range_map w t kt et b es clock ht ho.heap, ?_⟩
  have h2 := (ho.alloc (.mapIter (some b) clock #[] clock)).swap
  refine iter_close ⟨es, clock, clock, #[], clock⟩ ⟨he, he.2.1, Nat.le_refl _, Nat.le_refl _, ?_, fun p hp => by cases hp⟩ h2
  have : (leftOf es #[]) = es := by simp [leftOf]
  simp only [this]
  exact he.1
theorem filter_mid (es : List MapEntry) (q : MapEntry → Bool) (e : MapEntry) (hn : (es.map (·.born)).Nodup) (he : e ∈ es.filter q) : ∃ l1 l2, es.filter q = l1 ++ e :: l2 ∧ es.filter (fun x => q x && !(x.born == e.born)) = l1 ++ l2 := by
  obtain ⟨l1, l2, h⟩ := List.append_of_mem he
  refine ⟨l1, l2, h, ?_⟩
  have h2 : es.filter (fun x => q x && !(x.born == e.born)) = (es.filter q).filter (fun x => !(x.born == e.born)) := by
    rw [List.filter_filter]
    congr 1
    funext x
    rw [Bool.and_comm]
  have hnd : ((es.filter q).map (·.born)).Nodup := hn.sublist (List.Sublist.map _ List.filter_sublist)
  rw [h2, h, List.filter_append, List.filter_cons]
  rw [h, List.map_append, List.map_cons] at hnd
  have hd := List.nodup_append.1 hnd
  have f1 : l1.filter (fun x => !(x.born == e.born)) = l1 := List.filter_eq_self.2 fun x hx => by
    have := hd.2.2 x.born (List.mem_map.2 ⟨x, hx, rfl⟩) e.born (by simp)
    simpa using this
  have f2 : l2.filter (fun x => !(x.born == e.born)) = l2 := List.filter_eq_self.2 fun x hx => by
    have h1 := (List.nodup_cons.1 hd.2.1).1
    have : x.born ≠ e.born := fun hq => h1 (List.mem_map.2 ⟨x, hx, hq⟩)
    simpa using this
  simp [f1, f2]
theorem map_eq_split {α β γ : Type} {f : α → γ} {h : β → γ} : ∀ {l1 l2 : List α} {e : α} {m : List β}, (l1 ++ e :: l2).map f = m.map h → ∃ m1 p m2, m = m1 ++ p :: m2 ∧ f e = h p ∧ (l1 ++ l2).map f = (m1 ++ m2).map h
  | [], l2, e, m, hm => by
    cases m with
    | nil => simp at hm
    | cons p m =>
      simp only [List.nil_append, List.map_cons, List.cons.injEq] at hm
      exact ⟨[], p, m, rfl, hm.1, by simpa using hm.2⟩
  | a :: l1, l2, e, m, hm => by
    cases m with
    | nil => simp at hm
    | cons q m =>
      simp only [List.cons_append, List.map_cons, List.cons.injEq] at hm
      obtain ⟨m1, p, m2, rfl, h2, h3⟩ := map_eq_split (l1 := l1) hm.2
      exact ⟨q :: m1, p, m2, rfl, h2, by rw [List.cons_append, List.cons_append, List.map_cons, List.map_cons, hm.1, h3]⟩
/-- The next one, whichever it is. -/
theorem run_iter_next (hs : Sat W w g (iter enc b r l todo cur :: H)) :
    (todo = [] ∧ (Instr.next (.pointer (some ⟨r, 0, none⟩)) false ty).run P w = .ok (.tuple #[.bool false]) w) ∨
    ∃ t1 p t2 w', todo = t1 ++ p :: t2 ∧ (Instr.next (.pointer (some ⟨r, 0, none⟩)) false ty).run P w = .ok (.tuple #[.bool true, enc p.1, p.2]) w' ∧ Sat W w' g (iter enc b r l (t1 ++ t2) (some p) :: H) := by
  obtain ⟨⟨es, clock, since, seen, c0⟩, ⟨he, hold, hsc, hsk, hleft, _⟩, ho⟩ := iter_open hs
  simp only at he hold hsc hsk hleft ho
  rcases run_next_at (P := P) w ty r b since c0 seen es clock ho.swap.heap ho.heap hold hsc with ⟨h0, hr⟩ | ⟨e, hel, w1, hw1, hr⟩
  · refine .inl ⟨?_, hr⟩
    have : (leftOf es seen).toList = [] := by simpa using h0
    rw [this] at hleft
    simpa using hleft.symm
  · right
    have ho1 : Sat W w1 g (obj b (.map es clock) :: obj r (.mapIter (some b) since seen c0) :: H) := by
      rcases hw1 with rfl | rfl
      · exact ho
      · exact ho.drew
    have hl : (leftOf es seen).toList = es.toList.filter (fun x => !seen.contains x.born) := by simp [leftOf]
    rw [hl] at hel
    obtain ⟨l1, l2, h1, h2⟩ := filter_mid es.toList _ e he.2.2 hel
    rw [hl, h1] at hleft
    obtain ⟨m1, p, m2, rfl, h3, h4⟩ := map_eq_split hleft
    have hp : e.key = enc p.1 ∧ e.val = p.2 := by simpa [entOf] using h3
    rw [hp.1, hp.2] at hr
    refine ⟨m1, p, m2, _, rfl, hr, ?_⟩
    have ho2 : Sat W (Go.ChangeMaps.setBlock w1 r (.mapIter (some b) since (seen.push e.born) clock)) g (obj r (.mapIter (some b) since (seen.push e.born) clock) :: obj b (.map es clock) :: H) := by
      refine ho1.swap.update rfl rfl rfl ?_ ?_
      · simp [Go.ChangeMaps.setBlock, ho1.swap.lt]
      · intro k hk hne
        simp [Go.ChangeMaps.setBlock, Array.getElem?_setIfInBounds_ne (Ne.symm hne)]
    refine iter_close ⟨es, clock, since, seen.push e.born, clock⟩ ⟨he, hold, hsk, hsk, ?_, ?_⟩ ho2.swap
    · have : (leftOf es (seen.push e.born)).toList = es.toList.filter (fun x => !seen.contains x.born && !(x.born == e.born)) := by
        simp only [leftOf, Array.toList_filter]
        congr 1
        funext x
        rw [contains_push]
        cases seen.contains x.born <;> simp
      simp only [this, h2]
      exact h4
    · rintro q hq
      cases hq
      exact ⟨e, (List.mem_filter.1 hel).1, h3, seen, rfl, rfl⟩
variable {n : Fm} {ρ : List (Nat × Value)} {Q : Exit → Act → World → Prop} {ops : Array Oper} {rest : List Oper} {d : Option Tmp} {ps : String} {af : Array Edge} {x : Operand}
theorem E.range (ht : P.underlying t = some (.map kt et)) (hs : Sat W w g (mp enc b l :: H)) (h : ∀ r w', Sat W w' g (iter enc b r l l none :: H) → E P n ops rest (pushv d (.pointer (some ⟨r, 0, none⟩)) ρ) w' Q) (hx : evo n ρ x = some (.map (some b)) := by exact rfl) :
    E P n ops (⟨d, .range t x, ty, ps, af, none⟩ :: rest) ρ w Q := by
  obtain ⟨w', hr, hs'⟩ := mp_iter ht hs
  exact E.cons (St.val (fun a ha => by simp [execOp, ha.eval hx, hr]) (h _ _ hs'))
theorem E.next (hs : Sat W w g (iter enc b r l todo cur :: H)) (h0 : todo = [] → E P n ops rest (pushv d (.tuple #[.bool false]) ρ) w Q)
    (h1 : ∀ t1 p t2 w', todo = t1 ++ p :: t2 → Sat W w' g (iter enc b r l (t1 ++ t2) (some p) :: H) → E P n ops rest (pushv d (.tuple #[.bool true, enc p.1, p.2]) ρ) w' Q) (hx : evo n ρ x = some (.pointer (some ⟨r, 0, none⟩)) := by exact rfl) :
    E P n ops (⟨d, .next x false, ty, ps, af, none⟩ :: rest) ρ w Q := by
  rcases run_iter_next (P := P) (ty := ty) hs with ⟨he, hr⟩ | ⟨t1, p, t2, w', he, hr, hs'⟩
  · exact E.cons (St.val (fun a ha => by simp [execOp, ha.eval hx, hr]) (h0 he))
  · exact E.cons (St.val (fun a ha => by simp [execOp, ha.eval hx, hr]) (h1 t1 p t2 w' he hs'))
end
section
variable {P : Program} {W w : World} {g : Hl} {H : List HP} {t ty : TypeId} {r : Nat} {n : Fm} {ρ : List (Nat × Value)} {Q : Exit → Act → World → Prop} {ops : Array Oper} {rest : List Oper} {d : Option Tmp} {ps : String} {af : Array Edge} {x : Operand} {s : ByteArray} {i : Nat}
end
end Go.Proofs.YtgciifalclgeeaaGreatDoor

/-
  The stepping engine: calls through an interface; functions without a body; a map's copy.
-/
namespace Go.Proofs.YtgciifalclgeeaaGreatDoor
open Go.RowKit
set_option linter.unusedVariables false
set_option linter.unusedSimpArgs false
set_option linter.unusedSectionVars false
section
variable {P : Program} {n : Fm} {ρ ρ' : List (Nat × Value)} {W w w' : World} {g g' : Hl} {H H' : List HP} {Q : Exit → Act → World → Prop} {ops : Array Oper} {rest : List Oper} {d : Option Tmp} {ty : TypeId} {ps : String} {af : Array Edge} {v u : Value} {x y : Operand} {N : List (Nat × Value) → World → Prop} {t e : TypeId}
/-- What an interface's row of methods says. -/
def MethOf (P : Program) (t : TypeId) (name : String) (f : FuncId) (byPtr : Bool) : Prop := ∃ i m, P.info? t = some i ∧ i.methods.find? (·.name == name) = some m ∧ m.path = #[] ∧ m.func = some (f, byPtr)
theorem MethOf.mk {name : String} {f : FuncId} {byPtr : Bool} (h : ((P.info? t).bind fun i => (i.methods.find? (·.name == name)).map fun m => (m.path.toList.isEmpty, m.func)) = some (true, some (f, byPtr))) : MethOf P t name f byPtr := by
  obtain ⟨i, hi, h⟩ := Option.bind_eq_some_iff.1 h
  obtain ⟨m, hm, h⟩ := Option.map_eq_some_iff.1 h
  simp only [Prod.mk.injEq] at h
  refine ⟨i, m, hi, hm, ?_, h.2⟩
  have := h.1
  simpa [List.isEmpty_iff] using this
/-- A function without a body, that the model knows. -/
theorem E.ext {f : FuncId} {xs : Array Operand} {ts : Array TypeId} {vs : List Value} {fn : Func} {ex : Array Value → Sem Value} (hf : P.funcs[f]? = some fn) (hr : (ex vs.toArray).run P w = .ok v w') (h : E P n ops rest (pushv d v ρ) w' Q) (hx : evs n ρ xs.toList = some vs := by exact rfl)
    (hnm : (fn.name == "runtime.NumGoroutine") = false := by exact rfl) (hb : fn.body.isNone = true := by exact rfl) (hn : Extern.findNext fn = none := by kernel_rfl) (he : Extern.find fn = some ex := by kernel_rfl) :
    E P n ops (⟨d, .call ⟨.value (.func f), xs, ts⟩, ty, ps, af, none⟩ :: rest) ρ w Q := E.cons (St.val (fun a ha => by
  simp only [execOp, resolve, Act.eval, ha.args hx]
  simp [Deferred.ofValue, invoke, run_callFunc_extern hf hnm hb hn he, hr, Result.andThen]) h)
end
section
variable {P : Program} {n : Fm} {ρ ρ' : List (Nat × Value)} {W w w' : World} {g g' : Hl} {H H' : List HP} {Q : Exit → Act → World → Prop} {l : List Oper} {S : World → Prop} {fuel m i : Nat} {d : Option Tmp} {ty : TypeId} {ps : String} {af : Array Edge} {v u : Value} {x y : Operand} {b j k : Nat} {xs : List Value} {e t : TypeId}
/-- In a drawn region: the one operation that may come up. -/
theorem EH.bsl {parts : Array (Nat × Operand)} {vs : List (Nat × Value)} {cs : List Value} (hs : Sat W w g H) (h : ∀ b w', Sat W w' g (blk b cs e :: H) → S w' ∧ EH P n l S fuel (bset m i) (pushv d (.slice (some ⟨b, 0, none⟩) k k) ρ) w' Q)
    (hr : rdy m l.length 0 l = [i] := by exact rfl) (hi : nth l i = some ⟨d, .buildSlice t k parts, ty, ps, af, none⟩ := by exact rfl) (hx : evp n ρ parts.toList = some vs := by exact rfl) (hrun : (Instr.buildSlice t k vs.toArray).run P w = .ok (.slice (some ⟨w.heap.size, 0, none⟩) k k) (w.alloc (.cells cs.toArray e)) := by go_simp; first | done | exact rfl | exact ⟨rfl, rfl⟩) :
    EH P n l S (fuel + 1) m ρ w Q := EH.one (St.buildSlice hs hx hrun h) hr hi
theorem EH.al {z : Value} (hs : Sat W w g H) (h : ∀ b w', Sat W w' g (blk b xs e :: H) → S w' ∧ EH P n l S fuel (bset m i) (pushv d (.pointer (some ⟨b, 0, none⟩)) ρ) w' Q)
    (hr : rdy m l.length 0 l = [i] := by exact rfl) (hi : nth l i = some ⟨d, .alloc e, ty, ps, af, none⟩ := by exact rfl) (hz : (zeroValue e).run P w = .ok z w := by go_simp; first | done | exact rfl | exact ⟨rfl, rfl⟩) (hx : z.cells.toList = xs := by exact nz_) :
    EH P n l S (fuel + 1) m ρ w Q := EH.one (St.alloc hs hz hx h) hr hi
theorem EH.bx (hs : Sat W w g H) (h : ∀ b w', Sat W w' g (blk b xs e :: H) → S w' ∧ EH P n l S fuel (bset m i) (pushv d (.pointer (some ⟨b, 0, none⟩)) ρ) w' Q)
    (hr : rdy m l.length 0 l = [i] := by exact rfl) (hi : nth l i = some ⟨d, .box e x, ty, ps, af, none⟩ := by exact rfl) (hv : evo n ρ x = some v := by exact rfl) (hx : v.cells.toList = xs := by exact nz_) :
    EH P n l S (fuel + 1) m ρ w Q := EH.one (St.box hs hv hx h) hr hi
theorem EH.sto {vs ys : List Value} (hs : Sat W w g H) (h : ∀ w', Sat W w' g H' → S w' ∧ EH P n l S fuel (bset m i) ρ w' Q)
    (hr : rdy m l.length 0 l = [i] := by exact rfl) (hi : nth l i = some ⟨none, .store t x y, ty, ps, af, none⟩ := by exact rfl) (hx : evo n ρ x = some (.pointer (some ⟨b, j, none⟩)) := by exact rfl) (hy : evo n ρ y = some v := by exact rfl) (hv : v.cells.toList = vs := by exact nz_) (hf : Fd H b xs e := by exact fd_) (hsp : spl xs j vs = ys := by exact nz_) (hu : Up b xs ys e H H' := by exact up_) (hj : Nat.ble (j + vs.length) xs.length = true := by exact rfl) (h1 : vs.all Value.oneCell' = true := by exact rfl) (ht : (sizeOf t).run P w = .ok vs.length w := by exact sz_) :
    EH P n l S (fuel + 1) m ρ w Q := EH.one (St.store hs hx hy hv (by subst hsp; exact hu) hj h1 ht h) hr hi
theorem EH.ld (hs : Sat W w g H) (h : S w ∧ EH P n l S fuel (bset m i) (pushv d v ρ) w Q)
    (hr : rdy m l.length 0 l = [i] := by exact rfl) (hi : nth l i = some ⟨d, .load t x, ty, ps, af, none⟩ := by exact rfl) (hx : evo n ρ x = some (.pointer (some ⟨b, j, none⟩)) := by exact rfl) (hf : Fd H b xs e := by exact fd_) (hj : xs[j]? = some v := by exact rfl) (ha : (isAgg t).run P w = .ok false w := by first | (go_simp; done) | fail) :
    EH P n l S (fuel + 1) m ρ w Q := EH.one (St.load hs hx hf hj ha h) hr hi
end
section
variable {P : Program} {n : Fm} {ρ : List (Nat × Value)} {W w w' : World} {g g' : Hl} {H H' : List HP} {Q : Exit → Act → World → Prop} {ops : Array Oper} {rest : List Oper} {d : Option Tmp} {ty : TypeId} {ps : String} {af : Array Edge} {v u : Value} {x y : Operand} {e t : TypeId}
/-- []byte(s): the bytes are the pool's. -/
theorem E.bytes {l : List UInt8} {dt : TypeId} (h1 : P.underlying t = some .string) (h2 : P.underlying dt = some (.slice e)) (h3 : P.underlying e = some (.int .u8)) (hs : Sat W w g H) (hl : l.length ≤ 1000000000)
    (h : ∀ b c w' g', Hl.le g g' → Sat W w' g' H → Pr 1 g' (.slice (some ⟨b, 0, none⟩) l.length c) l.length (bs l) → E P n ops rest (pushv d (.slice (some ⟨b, 0, none⟩) l.length c) ρ) w' Q) (hx : evo n ρ x = some (.string ⟨l.toArray⟩) := by exact rfl) :
    E P n ops (⟨d, .convert t dt x, ty, ps, af, none⟩ :: rest) ρ w Q := by
  have hr := Go.Lib.run_convert_string_bytes w t dt e ⟨l.toArray⟩ h1 h2 h3
  have hsz : (⟨l.toArray⟩ : ByteArray).size = l.length := by simp [ByteArray.size]
  rw [hsz] at hr
  have hn : Sat W (Go.Lib.bytesWorld w e ⟨l.toArray⟩) g (obj w.heap.size (.cells (Go.Lib.bytesCells w e ⟨l.toArray⟩) e ((Go.Lib.bytesCells w e ⟨l.toArray⟩).size, (Go.Lib.bytesCells w e ⟨l.toArray⟩).size + 1)) :: H) := by
    refine hs.new (Nat.le_refl _) ?_ ?_ ?_ (fun k hk => Go.Lib.bytesWorld_at_old w e _ k hk) (Go.Lib.bytesWorld_at_new w e _)
    · simp [Go.Lib.bytesWorld, World.freeze, World.alloc, World.drew, -World.alloc_eq, -World.drew_eq]
    · simp [Go.Lib.bytesWorld, World.freeze, World.alloc, World.drew, -World.alloc_eq, -World.drew_eq]
    · simp [Go.Lib.bytesWorld, World.freeze, World.alloc, World.drew, -World.alloc_eq, -World.drew_eq]
  obtain ⟨h1, e1, e2, e3, hs2⟩ := hn.publish
  have e1' : h1 = Hl.one w.heap.size (.cells (Go.Lib.bytesCells w e ⟨l.toArray⟩) e ((Go.Lib.bytesCells w e ⟨l.toArray⟩).size, (Go.Lib.bytesCells w e ⟨l.toArray⟩).size + 1)) := e1
  have hcap : l.length ≤ grownCap w l.length 0 e ∧ grownCap w l.length 0 e ≤ 9223372036854775807 := by
    unfold grownCap
    simp only [Question.cut]
    have h0 : 0 < 2 ^ 63 - l.length := by omega
    generalize w.tape w.drawn (Question.appendCap l.length 0 e) = T
    have h1 := Nat.mod_lt T h0
    generalize T % (2 ^ 63 - l.length) = T' at h1 ⊢
    constructor <;> omega
  refine E.cons (St.val (v := .slice (some ⟨w.heap.size, 0, none⟩) l.length (grownCap w l.length 0 e)) (w' := Go.Lib.bytesWorld w e ⟨l.toArray⟩) (fun a ha => by simp [execOp, ha.eval hx, hr]) (h _ _ _ _ e2 hs2 ?_))
  refine ⟨by simp, some ⟨w.heap.size, 0, none⟩, grownCap w l.length 0 e, rfl, hcap.1, by unfold maxLen; omega, fun q => by simp at q, Or.inr ⟨w.heap.size, 0, _, _, _, rfl, e3 _ _ (show h1 w.heap.size = some _ from by rw [e1']; simp only [Hl.one, if_true]; rfl), ?_⟩⟩
  simp only [Go.Lib.bytesCells, List.drop_zero, Nat.mul_one, Array.toList_append, Array.toList_map, List.map_toArray]
  rw [List.take_append_of_le_length (by simp), List.take_of_length_le (by simp)]
  simp [bs]
/-! Floats. -/
end
section
variable {P : Program} {n : Fm} {ρ : List (Nat × Value)} {w : World} {Q : Exit → Act → World → Prop} {ops : Array Oper} {rest : List Oper} {d : Option Tmp} {ty : TypeId} {ps : String} {af : Array Edge} {x y : Operand} {e t : TypeId}
end
/-- What is left is walked once, for all branches that come to it: 'apply later (f := ..) (M := ..)', the branches first. -/
theorem later {α : Type} {P : Program} {n : Fm} {c : Code} {Q : Exit → Act → World → Prop} {f : α → List (Nat × Value)} {M : α → World → Prop} {G : Prop} (main : (∀ x w, M x w → C P n c (f x) w Q) → G) (key : ∀ x w, M x w → C P n c (f x) w Q) : G := main key
end Go.Proofs.YtgciifalclgeeaaGreatDoor

/-
  The stepping engine: a slice of one struct.
-/
namespace Go.Proofs.YtgciifalclgeeaaGreatDoor
open Go.RowKit
set_option linter.unusedVariables false
set_option linter.unusedSimpArgs false
set_option linter.unusedSectionVars false
section
variable {P : Program} {n : Fm} {ρ : List (Nat × Value)} {W w w' : World} {g : Hl} {H : List HP} {Q : Exit → Act → World → Prop} {ops : Array Oper} {rest : List Oper} {d : Option Tmp} {ty : TypeId} {ps : String} {af : Array Edge} {t e : TypeId} {z : Value} {s bytes : Nat} {cs : List Value}
end
end Go.Proofs.YtgciifalclgeeaaGreatDoor

/-
  s[l:h] of a row of structs in a drawn region; a rest within a region that is walked once.
-/
namespace Go.Proofs.YtgciifalclgeeaaGreatDoor
open Go.RowKit
set_option linter.unusedVariables false
set_option linter.unusedSimpArgs false
section
variable {P : Program} {n : Fm} {ρ : List (Nat × Value)} {W w w' : World} {g g' : Hl} {H H' : List HP} {Q : Exit → Act → World → Prop} {l : List Oper} {S : World → Prop} {fuel m : Nat} {d : Option Tmp} {ty : TypeId} {ps : String} {af : Array Edge} {gd : Option (Nat × Bool)} {v u : Value} {x y : Operand} {o : Op} {F : List (Nat × List Value × TypeId)} {i b k s : Nat} {rs : List Nat} {t e : TypeId} {z : Value} {bytes : Nat} {a : Option Addr} {len c : Nat} {lo hi mx : Option Operand} {vl vh vm : Option Value}
end
section
variable {P : Program} {n : Fm} {ρ : List (Nat × Value)} {W w w' : World} {g g' : Hl} {H H' : List HP} {N : List (Nat × Value) → World → Prop} {Q : Exit → Act → World → Prop} {ops : Array Oper} {rest : List Oper} {d : Option Tmp} {ty : TypeId} {ps : String} {af : Array Edge} {v u : Value} {x y : Operand} {e t : TypeId}
/-- []byte(s): the bytes are the pool's. -/
theorem St.bytes {l : List UInt8} {dt : TypeId} (h1 : P.underlying t = some .string) (h2 : P.underlying dt = some (.slice e)) (h3 : P.underlying e = some (.int .u8)) (hs : Sat W w g H) (hl : l.length ≤ 1000000000)
    (h : ∀ b c w' g', Hl.le g g' → Sat W w' g' H → Pr 1 g' (.slice (some ⟨b, 0, none⟩) l.length c) l.length (bs l) → N (pushv d (.slice (some ⟨b, 0, none⟩) l.length c) ρ) w') (hx : evo n ρ x = some (.string ⟨l.toArray⟩) := by exact rfl) :
    St P n ops ⟨d, .convert t dt x, ty, ps, af, none⟩ ρ w N Q := by
  have hr := Go.Lib.run_convert_string_bytes w t dt e ⟨l.toArray⟩ h1 h2 h3
  have hsz : (⟨l.toArray⟩ : ByteArray).size = l.length := by simp [ByteArray.size]
  rw [hsz] at hr
  have hn : Sat W (Go.Lib.bytesWorld w e ⟨l.toArray⟩) g (obj w.heap.size (.cells (Go.Lib.bytesCells w e ⟨l.toArray⟩) e ((Go.Lib.bytesCells w e ⟨l.toArray⟩).size, (Go.Lib.bytesCells w e ⟨l.toArray⟩).size + 1)) :: H) := by
    refine hs.new (Nat.le_refl _) ?_ ?_ ?_ (fun k hk => Go.Lib.bytesWorld_at_old w e _ k hk) (Go.Lib.bytesWorld_at_new w e _)
    · simp [Go.Lib.bytesWorld, World.freeze, World.alloc, World.drew, -World.alloc_eq, -World.drew_eq]
    · simp [Go.Lib.bytesWorld, World.freeze, World.alloc, World.drew, -World.alloc_eq, -World.drew_eq]
    · simp [Go.Lib.bytesWorld, World.freeze, World.alloc, World.drew, -World.alloc_eq, -World.drew_eq]
  obtain ⟨h1, e1, e2, e3, hs2⟩ := hn.publish
  have e1' : h1 = Hl.one w.heap.size (.cells (Go.Lib.bytesCells w e ⟨l.toArray⟩) e ((Go.Lib.bytesCells w e ⟨l.toArray⟩).size, (Go.Lib.bytesCells w e ⟨l.toArray⟩).size + 1)) := e1
  have hcap : l.length ≤ grownCap w l.length 0 e ∧ grownCap w l.length 0 e ≤ 9223372036854775807 := by
    unfold grownCap
    simp only [Question.cut]
    have h0 : 0 < 2 ^ 63 - l.length := by omega
    generalize w.tape w.drawn (Question.appendCap l.length 0 e) = T
    have h1 := Nat.mod_lt T h0
    generalize T % (2 ^ 63 - l.length) = T' at h1 ⊢
    constructor <;> omega
  refine (St.val (v := .slice (some ⟨w.heap.size, 0, none⟩) l.length (grownCap w l.length 0 e)) (w' := Go.Lib.bytesWorld w e ⟨l.toArray⟩) (fun a ha => by simp [execOp, ha.eval hx, hr]) (h _ _ _ _ e2 hs2 ?_))
  refine ⟨by simp, some ⟨w.heap.size, 0, none⟩, grownCap w l.length 0 e, rfl, hcap.1, by unfold maxLen; omega, fun q => by simp at q, Or.inr ⟨w.heap.size, 0, _, _, _, rfl, e3 _ _ (show h1 w.heap.size = some _ from by rw [e1']; simp only [Hl.one, if_true]; rfl), ?_⟩⟩
  simp only [Go.Lib.bytesCells, List.drop_zero, Nat.mul_one, Array.toList_append, Array.toList_map, List.map_toArray]
  rw [List.take_append_of_le_length (by simp), List.take_of_length_le (by simp)]
  simp [bs]
end
end Go.Proofs.YtgciifalclgeeaaGreatDoor

/-
  Floats: a difference.
-/
namespace Go.Proofs.YtgciifalclgeeaaGreatDoor
open Go.RowKit
set_option linter.unusedVariables false
set_option linter.unusedSimpArgs false
section
variable {P : Program} {n : Fm} {ρ : List (Nat × Value)} {W w w' : World} {g g' : Hl} {H H' : List HP} {Q : Exit → Act → World → Prop} {ops : Array Oper} {rest : List Oper} {d : Option Tmp} {ty : TypeId} {ps : String} {af : Array Edge} {v u : Value} {x y : Operand} {e t : TypeId}
end
end Go.Proofs.YtgciifalclgeeaaGreatDoor

/-
  The stepping engine: makes and sums in drawn regions, a stronger hold.
-/
namespace Go.Proofs.YtgciifalclgeeaaGreatDoor
open Go.RowKit
set_option linter.unusedVariables false
set_option linter.unusedSimpArgs false
section
variable {P : Program} {n : Fm} {ρ : List (Nat × Value)} {W w w' : World} {g g' : Hl} {H H' : List HP} {Q : Exit → Act → World → Prop} {ops : Array Oper} {rest : List Oper} {d : Option Tmp} {ty : TypeId} {ps : String} {af : Array Edge} {v u z : Value} {x y : Operand} {e t : TypeId} {s bytes : Nat} {N : List (Nat × Value) → World → Prop}
theorem wpAnyH_mono {S S' : World → Prop} (hS : ∀ w, S' w → S w) {md : Region.Mode} : ∀ (fuel : Nat) (listed : Array Bool) (a : Act) (w : World), wpAnyH P md ops Q S' fuel listed a w → wpAnyH P md ops Q S fuel listed a w
  | 0, _, _, _, h => h
  | fuel + 1, _, _, _, h => ⟨h.1, fun i hi => wpOp_mono (fun a' w' h' => ⟨hS _ h'.1, wpAnyH_mono hS fuel _ a' w' h'.2⟩) (h.2 i hi)⟩
/-- From here on more is held. -/
theorem EH.more {l : List Oper} {S : World → Prop} {fuel m : Nat} (S' : World → Prop) (hS : ∀ w, S' w → S w) (h : EH P n l S' fuel m ρ w Q) : EH P n l S fuel m ρ w Q := by
  unfold EH at *
  exact fun a ha => wpAnyH_mono hS _ _ _ _ (h a ha)
theorem Keeps.le {F : List (Nat × List Value × TypeId)} (hg : Hl.le g g') (w : World) (h : Keeps g' F w) : Keeps g F w := ⟨fun k o hk => h.1 k o (hg k o hk), h.2⟩
/-- The pool has grown: all of it is held. -/
theorem EH.pool {l : List Oper} {F : List (Nat × List Value × TypeId)} {fuel m : Nat} (hg : Hl.le g g') (h : EH P n l (Keeps g' F) fuel m ρ w Q) : EH P n l (Keeps g F) fuel m ρ w Q := EH.more _ (Keeps.le hg) h
theorem St.al {xs : List Value} (hs : Sat W w g H) (h : ∀ b w', Sat W w' g (blk b xs e :: H) → N (pushv d (.pointer (some ⟨b, 0, none⟩)) ρ) w') (hz : (zeroValue e).run P w = .ok z w := by go_simp; first | done | exact rfl | exact ⟨rfl, rfl⟩) (hx : z.cells.toList = xs := by exact nz_) :
    St P n ops ⟨d, .alloc e, ty, ps, af, none⟩ ρ w N Q := St.alloc hs hz hx h
theorem St.ldp {b j k : Nat} {xs vs : List Value} (st : AggOf P t k) (hs : Sat W w g H) (h : N (pushv d (.agg vs.toArray) ρ) w) (hx : evo n ρ x = some (.pointer (some ⟨b, j, none⟩)) := by exact rfl) (hf : Fd H b xs e := by exact fd_) (hv : (xs.drop j).take k = vs := by exact nz_) (hk : vs.length = k := by exact rfl) :
    St P n ops ⟨d, .load t x, ty, ps, af, none⟩ ρ w N Q := St.loads hx (run_ldp st (hf.blk hs) hv hk) h
end
section
variable {P : Program} {n : Fm} {ρ : List (Nat × Value)} {W w w' : World} {g g' : Hl} {H H' : List HP} {Q : Exit → Act → World → Prop} {l : List Oper} {S : World → Prop} {fuel m i : Nat} {rs : List Nat} {d : Option Tmp} {ty : TypeId} {ps : String} {af : Array Edge} {gd : Option (Nat × Bool)} {F : List (Nat × List Value × TypeId)} {v z : Value} {x y : Operand} {e t : TypeId} {a : Option Addr} {len c bytes : Nat}
theorem EH.ldp {b j k : Nat} {xs vs : List Value} (st : AggOf P t k) (hs : Sat W w g H) (h : S w ∧ EH P n l S fuel (bset m i) (pushv d (.agg vs.toArray) ρ) w Q) (hr : rdy m l.length 0 l = [i] := by exact rfl) (hi : nth l i = some ⟨d, .load t x, ty, ps, af, none⟩ := by exact rfl)
    (hx : evo n ρ x = some (.pointer (some ⟨b, j, none⟩)) := by exact rfl) (hf : Fd H b xs e := by exact fd_) (hv : (xs.drop j).take k = vs := by exact nz_) (hk : vs.length = k := by exact rfl) : EH P n l S (fuel + 1) m ρ w Q :=
  EH.one (St.loads hx (run_ldp st (hf.blk hs) hv hk) h) hr hi
theorem keptp1 {b1 : Nat} {x1 : List Value} {e1 : TypeId} (hs : Sat W w g' H) (h : Keeps g' [(b1, x1, e1)] w → EH P n l (Keeps g' [(b1, x1, e1)]) fuel m ρ w Q) (hg : Hl.le g g' := by first | exact Hl.le_refl _ | assumption | exact Hl.le.trans (by assumption) (by assumption)) (h1 : Fd H b1 x1 e1 := by exact fd_) : Keeps g [(b1, x1, e1)] w ∧ EH P n l (Keeps g [(b1, x1, e1)]) fuel m ρ w Q :=
  ⟨Keeps.of1 hs hg h1, EH.pool hg (h (Keeps.of1 hs (Hl.le_refl _) h1))⟩
end
end Go.Proofs.YtgciifalclgeeaaGreatDoor

/-
  The stepping engine: strings by place and in part; what package-level variables hold.
-/
namespace Go.Proofs.YtgciifalclgeeaaGreatDoor
open Go.RowKit
set_option linter.unusedVariables false
set_option linter.unusedSimpArgs false
section
variable {P : Program} {n : Fm} {ρ : List (Nat × Value)} {W w w' : World} {g g' : Hl} {H H' : List HP} {Q : Exit → Act → World → Prop} {ops : Array Oper} {rest : List Oper} {d : Option Tmp} {ty : TypeId} {ps : String} {af : Array Edge} {v u z : Value} {x y : Operand} {e t : TypeId} {l : List UInt8} {kd kd' : IntKind} {i j : Int}
theorem ba_size (l : List UInt8) : (ByteArray.mk l.toArray).size = l.length := by simp [ByteArray.size]
theorem ba_get (l : List UInt8) (k : Nat) (h : k < l.length) (h' : k < (ByteArray.mk l.toArray).size) : (ByteArray.mk l.toArray)[k]'h' = l[k] := by
  show (ByteArray.mk l.toArray).data[k]'(by simpa [ByteArray.size] using h') = l[k]
  simp
theorem ba_extract (l : List UInt8) (a b : Nat) : (ByteArray.mk l.toArray).extract a b = ⟨((l.drop a).take (b - a)).toArray⟩ := by
  apply ByteArray.ext
  rw [ByteArray.data_extract]
  apply Array.ext'
  simp [List.take_drop]
/-- A string's byte. -/
theorem Pv.sidx (ht : P.underlying t = some .string) (q : Nat) (hq : q < l.length) (hx : evo n ρ x = some (.string ⟨l.toArray⟩) := by exact rfl) (hy : evo n ρ y = some (.int kd i) := by exact rfl) (hi : i = (q : Int) := by first | rfl | omega) : Pv P n ρ (.index t x y) ty (.int .u8 (l[q].toNat : Int)) := Pv.mk fun a ha w d ps af g => by
  subst hi
  have h1 := run_index_string (P := P) w t ⟨l.toArray⟩ kd (q : Int) ht
  rw [dif_pos ⟨by omega, by rw [ba_size]; omega⟩] at h1
  have h2 : (ByteArray.mk l.toArray)[(q : Int).toNat]'(by rw [ba_size]; simpa using hq) = l[q] := ba_get l q hq _
  rw [h2] at h1
  simp [execOp, ha.eval hx, ha.eval hy, h1]
theorem E.sidx (ht : P.underlying t = some .string) (q : Nat) (hq : q < l.length) (h : E P n ops rest (pushv d (.int .u8 (l[q].toNat : Int)) ρ) w Q) (hx : evo n ρ x = some (.string ⟨l.toArray⟩) := by exact rfl) (hy : evo n ρ y = some (.int kd i) := by exact rfl) (hi : i = (q : Int) := by first | rfl | omega) :
    E P n ops (⟨d, .index t x y, ty, ps, af, none⟩ :: rest) ρ w Q := E.pv (Pv.sidx ht q hq hx hy hi) h
/-- A part of a string: from a place on; up to a place; between two. -/
theorem Pv.sfrom {lo : Operand} (ht : P.underlying t = some .string) (q : Nat) (hq : q ≤ l.length) (hx : evo n ρ x = some (.string ⟨l.toArray⟩) := by exact rfl) (hy : evo n ρ lo = some (.int kd i) := by exact rfl) (hi : i = (q : Int) := by first | rfl | omega) : Pv P n ρ (.slice t x (some lo) none none) ty (.string ⟨(l.drop q).toArray⟩) :=
  Pv.mk fun a ha w d ps af g => by
    subst hi
    have h1 := run_slice_string_from_if (P := P) w t ⟨l.toArray⟩ kd (q : Int) ht
    rw [if_pos ⟨by omega, by rw [ba_size]; omega⟩, ba_extract, ba_size, List.take_of_length_le (by rw [List.length_drop]; simp)] at h1
    simp only [Int.toNat_natCast] at h1
    simp [execOp, ha.eval hx, ha.eval hy, Instr.sliceAt, run_underlying ht, h1]
theorem Pv.supto {hi' : Operand} (ht : P.underlying t = some .string) (q : Nat) (hq : q ≤ l.length) (hx : evo n ρ x = some (.string ⟨l.toArray⟩) := by exact rfl) (hy : evo n ρ hi' = some (.int kd i) := by exact rfl) (hi : i = (q : Int) := by first | rfl | omega) : Pv P n ρ (.slice t x none (some hi') none) ty (.string ⟨(l.take q).toArray⟩) :=
  Pv.mk fun a ha w d ps af g => by
    subst hi
    have h1 := run_slice_string_to_if (P := P) w t ⟨l.toArray⟩ kd (q : Int) ht
    rw [if_pos ⟨by omega, by rw [ba_size]; omega⟩, ba_extract] at h1
    simp only [Int.toNat_natCast, List.drop_zero, Nat.sub_zero] at h1
    simp [execOp, ha.eval hx, ha.eval hy, Instr.sliceAt, run_underlying ht, h1]
end
/-- A part of a block as a row of bytes. -/
theorem blk_rowb {W w : World} {g : Hl} {H : List HP} {b q m : Nat} {xs : List Value} {E : TypeId} {l : List UInt8} (hs : Sat W w g (blk b xs E :: H)) (hx : xs.drop q = bs l) (hm : l.length = m) (hm2 : m ≤ 9223372036854775807) : Row 1 w (fun _ => True) (.slice (some ⟨b, q, none⟩) m m) m (bs l) :=
  ⟨by rw [bs_length, hm, Nat.mul_one], _, m, rfl, Nat.le_refl _, hm2, fun e => by simp at e, .inr ⟨b, q, xs.toArray, E, (0, 0), rfl, trivial, hs.block, by
    simp only []
    rw [hx, Nat.mul_one, List.take_of_length_le (by rw [bs_length]; omega)]⟩⟩
/-- What a place of a package-level variable holds, in the pool. -/
def GlC (g : Hl) (b o : Nat) (v : Value) : Prop := ∃ cur e fz, g b = some (.cells cur e fz) ∧ cur[o]? = some v
theorem GlC.mono {g g' : Hl} {b o : Nat} {v : Value} (h : GlC g b o v) (hg : Hl.le g g') : GlC g' b o v := by
  obtain ⟨c, e, f, h1, h2⟩ := h
  exact ⟨c, e, f, hg _ _ h1, h2⟩
theorem GlC.at {W w : World} {g : Hl} {H : List HP} {b o : Nat} {v : Value} (h : GlC g b o v) (hs : Sat W w g H) : w.cell? ⟨b, o, none⟩ = some v := by
  obtain ⟨c, e, f, h1, h2⟩ := h
  have := hs.pool h1
  simp [World.cell?, this, h2]
theorem GlC.of {w : World} {b o : Nat} {v : Value} (h : w.cell? ⟨b, o, none⟩ = some v) : GlC (fun k => w.heap[k]?) b o v := by
  simp only [World.cell?] at h
  unfold GlC
  cases hb : w.heap[b]? with
  | none => rw [hb] at h; simp at h
  | some ob =>
    rw [hb] at h
    cases ob with
    | cells cur e fz => exact ⟨cur, e, fz, hb, by simpa using h⟩
    | _ => simp at h
end Go.Proofs.YtgciifalclgeeaaGreatDoor

/-
  Rows of bytes.
-/
namespace Go.Proofs.YtgciifalclgeeaaGreatDoor
open Go.RowKit
set_option linter.unusedVariables false
set_option linter.unusedSimpArgs false
theorem el_u8 : ElemOf Tryz.prog 23 5 (.int .u8 0) 1 1 := .of Tryz.underlying23 (by kernel_rfl) rfl (by decide)
end Go.Proofs.YtgciifalclgeeaaGreatDoor

/-
  Strings of bytes, as values and as a map's keys.
-/
namespace Go.Proofs.YtgciifalclgeeaaGreatDoor
open Go.RowKit
set_option linter.unusedVariables false
set_option linter.unusedSimpArgs false
/-- A string of bytes, as a value. -/
def str (k : List UInt8) : Value := .string ⟨k.toArray⟩
def ptr (b : Nat) : Value := .pointer (some ⟨b, 0, none⟩)
end Go.Proofs.YtgciifalclgeeaaGreatDoor

/-
  Any number as a word to base ten, any word as a number: the kit's contracts, in the engine's words.
-/
namespace Go.Proofs.YtgciifalclgeeaaGreatDoor
open Go.RowKit Go.ChangeShapes Go.WideShapes
set_option linter.unusedVariables false
set_option linter.unusedSimpArgs false
/-- What the calls lean on: the table, and the errors' variables. -/
structure GlD (g : Hl) : Prop where
  es : ∃ t p, GlC g 5 0 (.iface t p)
  er : ∃ t p, GlC g 6 0 (.iface t p)
  tab : ∃ e fz, g 2 = some (.cells (Lib.pow10Tab.map fun z => Value.int .u64 z).toArray e fz)
theorem GlD.mono {g g' : Hl} (h : GlD g) (hg : Hl.le g g') : GlD g' := ⟨by
  obtain ⟨t, p, h1⟩ := h.es
  exact ⟨t, p, h1.mono hg⟩, by
  obtain ⟨t, p, h1⟩ := h.er
  exact ⟨t, p, h1.mono hg⟩, by
  obtain ⟨e, fz, h1⟩ := h.tab
  exact ⟨e, fz, hg _ _ h1⟩⟩
theorem Sat.underD {W w w' : World} {g : Hl} {H : List HP} (hs : Sat W w g H) (hb : Below w.heap.size w w') : Sat W w' g H :=
  (hs.newOwn (E := 5) (size := 1) (World.ownsRow_nil w' _ _ _) hb).drop
theorem below_growD (w : World) (k : Nat) (os : Array Obj) : Below w.heap.size w (Sort.grow (w.drewN k) os) :=
  ⟨rfl, rfl, rfl, by simp [Sort.grow], fun i hi => by simp [Sort.grow, Array.getElem?_append, hi]⟩
theorem GlD.tabIs {W w : World} {g : Hl} {H : List HP} (h : GlD g) (hs : Sat W w g H) : Lib.TabIs Tryz.prog w "internal/strconv.uint64pow10" .u64 Lib.pow10Tab := by
  obtain ⟨e, fz, h1⟩ := h.tab
  have h2 := hs.pool h1
  have gN : Program.globalNamed Tryz.prog "internal/strconv.uint64pow10" = some 2 := by kernel_rfl
  unfold Lib.TabIs World.var?
  rw [gN]
  simp only [Option.bind_some, h2]
section
variable {P : Program} {n : Fm} {ρ : List (Nat × Value)} {W w w' : World} {g g' : Hl} {H H' : List HP} {Q : Exit → Act → World → Prop} {ops : Array Oper} {rest : List Oper} {d : Option Tmp} {ty : TypeId} {ps : String} {af : Array Edge} {v u z : Value} {x y : Operand} {e t : TypeId} {l : List UInt8} {kd kd' : IntKind} {i j : Int}
theorem run_slice_arrh {b q m : Nat} (ht : P.underlying t = some (.array m e)) (hq : ∀ w, (sizeOf e).run P w = .ok 1 w) (hi : i = (q : Int)) (hj : q ≤ m) (w : World) :
    (Instr.sliceAt t (.pointer (some ⟨b, 0, none⟩)) none (some (.int kd i)) none).run P w = .ok (.slice (some ⟨b, 0, none⟩) q m) w := by
  subst hi
  have h1 : ¬ (m < q) := by omega
  simp [Instr.sliceAt, run_underlying ht, asIntOf, hq, Instr.sureAddr, Instr.sliceBounds, Instr.sliceBound, h1, Addr.add_lit]
theorem E.slarh {b q m : Nat} {ho : Operand} (ht : P.underlying t = some (.array m e)) (hj : q ≤ m) (h : E P n ops rest (pushv d (.slice (some ⟨b, 0, none⟩) q m) ρ) w Q) (hq : ∀ w, (sizeOf e).run P w = .ok 1 w := by intro w; exact sz_)
    (hx : evo n ρ x = some (.pointer (some ⟨b, 0, none⟩)) := by exact rfl) (hy : evm n ρ (some ho) = some (some (.int kd i)) := by exact rfl) (hi : i = (q : Int) := by first | rfl | omega) : E P n ops (⟨d, .slice t x none (some ho) none, ty, ps, af, none⟩ :: rest) ρ w Q :=
  E.pv (Pv.slice hx rfl hy rfl (run_slice_arrh ht hq hi hj)) h
end
theorem small10_any {R : Ending → World → Prop} {w : World} {i : Nat} (hi : i < 100) (hR : R (.returned (str (Lib.decDigits i))) w) : Calls Tryz.prog 40 #[.int .i64 i] w R :=
  Calls.mono (Any.internal_strconv_small Tryz.lay283 i hi w) fun e w' ⟨he, hw⟩ => by subst he hw; exact hR
theorem numDigits_any {R : Ending → World → Prop} {W w : World} {g : Hl} {H : List HP} {u : Nat} (hg : GlD g) (h1 : 1 ≤ u) (h2 : u < 18446744073709551616) (hs : Sat W w g H) (hR : R (.returned (.int .i64 (Lib.nDigits u))) w) : Calls Tryz.prog 41 #[.int .u64 u] w R :=
  Calls.mono (Any.internal_strconv_numDigits Tryz.lay284 u h1 h2 w (hg.tabIs hs)) fun e w' ⟨he, hw⟩ => by subst he hw; exact hR
theorem nDigits_le {u : Nat} (h1 : 1 ≤ u) (h2 : u < 18446744073709551616) : Lib.nDigits u ≤ 20 := by
  have := Lib.numDigits_eq u h1 h2
  split at this <;> omega
theorem formatBase10_any {R : Ending → World → Prop} {W w : World} {g : Hl} {H : List HP} {b u : Nat} {T : TypeId} (h1 : 1 ≤ u) (h2 : u < 18446744073709551616) (hs : Sat W w g (blk b (List.replicate 24 (.int .u8 0)) T :: H))
    (hR : ∀ w' xs, Sat W w' g (blk b xs T :: H) → xs.length = 24 → xs.take (Lib.nDigits u) = bs (Lib.decDigits u) → R (.returned (.tuple #[])) w') : Calls Tryz.prog 42 #[.slice (some ⟨b, 0, none⟩) (Lib.nDigits u) 24, .int .u64 u] w R := by
  have hn := nDigits_le h1 h2
  have hH : Sort.Holds (fun (b : UInt8) => Value.int .u8 (b.toNat : Int)) w b 0 (Array.replicate (Lib.nDigits u) 0) := fun j hj => by
    rw [Array.size_replicate] at hj
    refine ⟨?_, hs.free _⟩
    rw [hs.cell, getElem!_pos _ j (by simpa using hj), List.getElem?_replicate, if_pos (by omega)]
    simp
  have hfmt := Any.internal_strconv_formatBase10 Tryz.lay285 b 0 24 u (Array.replicate (Lib.nDigits u) 0) w hH (by rw [Array.size_replicate]; exact Lib.lt_pow_nDigits u) h2 (by rw [Array.size_replicate]; omega)
  rw [Array.size_replicate] at hfmt
  refine Calls.mono hfmt fun e w' ⟨he, k, v', dk, hw, hF⟩ => ?_
  subst he hw
  have hdk : dk.size = Lib.nDigits u := hF.size
  have hs2 : Sat W (Sort.putRow (fun (b : UInt8) => Value.int .u8 (b.toNat : Int)) w b 0 dk) g (blk b (Sort.putCells (fun (b : UInt8) => Value.int .u8 (b.toNat : Int)) 0 dk (List.replicate 24 (.int .u8 0)).toArray).toList T :: H) := by
    refine hs.update rfl rfl rfl ?_ fun k _ hk => ?_
    · simp only [Sort.putRow, Sort.mapBlock, Array.getElem?_modify, if_true, hs.block, Option.map_some, Sort.onCells, Array.toArray_toList]
    · simp only [Sort.putRow, Sort.mapBlock, Array.getElem?_modify, if_neg (Ne.symm hk)]
  refine hR _ _ (hs2.drewN k) (by simp [Sort.putCells]) ?_
  apply List.ext_getElem?
  intro j
  rw [List.getElem?_take]
  by_cases hj : j < Lib.nDigits u
  · have hj2 : j < (Lib.decDigits u).length := by rw [Lib.decDigits_length]; exact hj
    rw [if_pos hj, bs_get hj2, Lib.row_is_numeral hF j hj2]
    simp only [Sort.putCells, Array.getElem?_toList, Array.getElem?_mapIdx]
    rw [List.getElem?_toArray, List.getElem?_replicate, if_pos (by omega), Option.map_some, if_pos ⟨Nat.zero_le _, by omega⟩, Nat.sub_zero]
  · rw [if_neg hj, List.getElem?_eq_none (by rw [bs_length, Lib.decDigits_length]; omega)]
set_option maxHeartbeats 1600000 in
set_option maxRecDepth 100000 in
theorem formatUint10I_any {R : Ending → World → Prop} {W w : World} {g : Hl} {H : List HP} {u : Nat} (hg : GlD g) (h2 : u < 18446744073709551616) (hs : Sat W w g H)
    (hR : ∀ w', Sat W w' g H → R (.returned (str (Lib.decDigits u))) w') : Calls Tryz.prog 26 #[.int .u64 u, .int .i64 10] w R := by
  have HR := Lib.hid hR
  clear hR
  refine C.calls (args := [.int .u64 u, .int .i64 10]) Tryz.func26 rfl rfl rfl ?_
  refine go ?_
  refine C.cond_dec (p := (u : Int) < 100) rfl (fun h => ?_) (fun h => ?_)
  · refine go ?_
    refine E.callf Tryz.func40 rfl ?_
    refine small10_any (by omega) ?_
    refine go ?_
    refine A.r1 ?_
    exact HR.out _ hs
  · have h1 : 1 ≤ u := by omega
    have hn := nDigits_le h1 h2
    refine go ?_
    refine E.al hs (xs := List.replicate 24 (.int .u8 0)) ?_ (hx := rfl)
    intro b1 w1 hs
    refine go ?_
    refine E.callf Tryz.func41 rfl ?_
    refine numDigits_any hg h1 h2 hs ?_
    refine go ?_
    refine E.slarh (q := Lib.nDigits u) Tryz.underlying81 (by omega) ?_
    refine go ?_
    refine E.callf Tryz.func42 rfl ?_
    refine formatBase10_any h1 h2 hs ?_
    intro w2 xs hs hx hxs
    refine go ?_
    refine E.slarh (q := Lib.nDigits u) Tryz.underlying81 (by omega) ?_
    have hrow : Row 1 w2 (fun _ => True) (.slice (some ⟨b1, 0, none⟩) (Lib.nDigits u) 24) (Lib.nDigits u) (bs (Lib.decDigits u)) :=
      ⟨by rw [bs_length, Lib.decDigits_length, Nat.mul_one], _, 24, rfl, by omega, by decide, fun e => by simp at e, .inr ⟨b1, 0, xs.toArray, 81, (0, 0), rfl, trivial, hs.block, by
        simp only []
        rw [Nat.mul_one, List.drop_zero]
        exact hxs⟩⟩
    refine E.strc hrow Tryz.underlying23 Tryz.underlying5 Tryz.underlying9 ?_
    refine go ?_
    refine A.r1 ?_
    exact HR.out _ hs.drop
end Go.Proofs.YtgciifalclgeeaaGreatDoor

/-
  What the kit says of builders, at this seat.
-/
namespace Go.Proofs.YtgciifalclgeeaaGreatDoor
open Go.RowKit
theorem extraW : Builder.Extra Tryz.prog Tryz.lay167_ren where
  sizeBuilder := by kernel_rfl
  liesBuilder := by kernel_rfl
  t5 := Tryz.underlying5
  a5 := Tryz.isAgg5
  z5 := Tryz.sizeOf5
  v5 := Tryz.zeroValue5
  infoByte := by kernel_rfl
  cellsByte := by kernel_rfl
  sizeByte := by kernel_rfl
  neB5 := by decide
theorem extraS : Builder.Extra Tryz.prog Tryz.lay169_ren where
  sizeBuilder := by kernel_rfl
  liesBuilder := by kernel_rfl
  t5 := Tryz.underlying5
  a5 := Tryz.isAgg5
  z5 := Tryz.sizeOf5
  v5 := Tryz.zeroValue5
  infoByte := by kernel_rfl
  cellsByte := by kernel_rfl
  sizeByte := by kernel_rfl
  neB5 := by decide
/-- A builder of this program. -/
def Bld (B : Nat) (l : List UInt8) (w : World) : Prop := Lib.IsBuilder 59 5 B B (Lib.byteCells l) w
theorem writeByte_any {R : Ending → World → Prop} {B : Nat} {l : List UInt8} {c : UInt8} {ki : Int} (hk : ki = (c.toNat : Int)) {w : World} (h : Bld B l w) (hl : l.length ≤ 1000000) (hB : B ≤ w.heap.size) (hR : ∀ w', Bld B (l ++ [c]) w' → Below B w w' → R (.returned .nilIface) w') :
    Calls Tryz.prog 23 #[.pointer (some ⟨B, 0, none⟩), .int .u8 ki] w R := by
  subst hk
  exact Calls.mono (Any.Builder_WriteByte Tryz.lay167 extraW B B (Lib.byteCells l) c.toNat w h (by simp [Lib.byteCells]; omega) hB) fun e w' ⟨he, h1, h2⟩ => by
    subst he
    refine hR _ (.inr ?_) h2
    have e : Lib.byteCells (l ++ [c]) = Lib.byteCells l ++ [.int .u8 c.toNat] := by simp [Lib.byteCells]
    rw [e]
    exact h1
theorem bstring_any {R : Ending → World → Prop} {B : Nat} {l : List UInt8} {w : World} (h : Bld B l w) (hB : B ≤ w.heap.size) (hR : ∀ w', Below B w w' → R (.returned (.string ⟨l.toArray⟩)) w') :
    Calls Tryz.prog 24 #[.pointer (some ⟨B, 0, none⟩)] w R :=
  Calls.mono (Any.Builder_String_any Tryz.lay169 extraS B B l w h hB) fun e w' ⟨he, h2⟩ => by
    subst he
    exact hR _ h2
end Go.Proofs.YtgciifalclgeeaaGreatDoor

/-
  Bytes as a word to base sixteen.
-/
namespace Go.Proofs.YtgciifalclgeeaaGreatDoor
open Go.RowKit
set_option linter.unusedVariables false
set_option linter.unusedSimpArgs false
section
variable {P : Program} {n : Fm} {ρ : List (Nat × Value)} {W w w' : World} {g g' : Hl} {H H' : List HP} {Q : Exit → Act → World → Prop} {ops : Array Oper} {rest : List Oper} {d : Option Tmp} {ty : TypeId} {ps : String} {af : Array Edge} {v u z : Value} {x y : Operand} {e t : TypeId}
/-- A new block, its number known. -/
theorem E.alw {z : Value} {xs : List Value} (h : E P n ops rest (pushv d (.pointer (some ⟨w.heap.size, 0, none⟩)) ρ) (w.alloc (.cells xs.toArray e)) Q) (hz : (zeroValue e).run P w = .ok z w := by go_simp; first | done | exact rfl | exact ⟨rfl, rfl⟩) (hx : z.cells.toList = xs := by exact nz_) :
    E P n ops (⟨d, .alloc e, ty, ps, af, none⟩ :: rest) ρ w Q :=
  E.cons (St.val (fun a _ => by subst hx; simp [execOp, Instr.alloc, hz, newVar, newRow]) h)
end
def dig16 : List UInt8 := [48, 49, 50, 51, 52, 53, 54, 55, 56, 57, 97, 98, 99, 100, 101, 102]
/-- A byte as two digits. -/
def hex2 (c : UInt8) : List UInt8 := [dig16.getD (c.toNat / 2 ^ 4) 0, dig16.getD (c.toNat % 16) 0]
theorem flat2_len (l : List UInt8) : (l.flatMap hex2).length = l.length * 2 := by
  induction l with
  | nil => rfl
  | cons a r ih => simp only [List.flatMap_cons, List.length_append, ih, hex2, List.length_cons, List.length_nil]; omega
theorem flat2_take {l : List UInt8} {i : Nat} (h : i < l.length) : (l.take (i + 1)).flatMap hex2 = (l.take i).flatMap hex2 ++ hex2 l[i] := by
  rw [List.take_succ_eq_append_getElem h, List.flatMap_append]
  simp
set_option maxHeartbeats 1600000 in
set_option maxRecDepth 100000 in
theorem hex_any {R : Ending → World → Prop} {W w : World} {g : Hl} {H : List HP} {v : Value} {l : List UInt8} (hl : l.length ≤ 1000) (hp : Pr 1 g v l.length (bs l)) (hs : Sat W w g H)
    (hR : ∀ w', Sat W w' g H → R (.returned (str (120 :: l.flatMap hex2))) w') : Calls Tryz.prog 13 #[v] w R := by
  have HR := Lib.hid hR
  clear hR
  obtain ⟨a, c, rfl, hnc, _⟩ := hp.len
  refine C.calls (args := [.slice a l.length c]) Tryz.func13 rfl rfl rfl ?_
  refine go ?_
  refine E.alw (xs := [.pointer none, .slice none 0 0]) ?_
  obtain ⟨B, hB⟩ : ∃ B, B = w.heap.size := ⟨_, rfl⟩
  obtain ⟨w1, e1⟩ : ∃ w1, w1 = w.alloc (.cells [.pointer none, .slice none 0 0].toArray 59) := ⟨_, rfl⟩
  rw [← hB, ← e1]
  have hb : Bld B [] w1 := by subst hB e1; exact Lib.fresh_isBuilder _ _ _
  have hw : Below B w w1 := by
    subst hB e1
    exact ⟨rfl, rfl, rfl, by
      show w.heap.size ≤ (w.heap.push _).size
      rw [Array.size_push]
      omega, fun k hk => Lib.alloc_old w _ k hk⟩
  have hu : ∀ {w'}, Below B w w' → Sat W w' g H := fun h => hs.underD (hB ▸ h)
  have hz : ∀ {w'}, Below B w w' → B ≤ w'.heap.size := fun h => by have := h.size; omega
  clear e1 hB hs
  refine go ?_
  refine E.callf Tryz.func23 rfl ?_
  refine writeByte_any (c := 120) rfl hb (by simp) (hz hw) ?_
  intro w2 hb2 hw2
  replace hw := hw.trans hw2
  replace hb := hb2
  clear hw2 hb2
  refine go ?_
  refine C.lp (fun x : Nat => [(3, .pointer (some ⟨B, 0, none⟩)), (7, .slice a l.length c), (8, .int .i64 l.length), (9, .int .i64 x)]) (fun gk x w' => gk = l.length - x ∧ x ≤ l.length ∧ Below B w w' ∧ Bld B (120 :: (l.take x).flatMap hex2) w') l.length 0 ⟨rfl, Nat.zero_le _, hw, hb⟩ ?_
  clear hw hb
  rintro gk i w3 ⟨rfl, hi, hw, hb⟩
  have hs := hu hw
  refine go ?_
  refine C.cond_dec (p := (i : Int) < l.length) rfl (fun hlt => ?_) (fun hlt => ?_)
  · have hin : i < l.length := by omega
    have hcb := l[i].toNat_lt
    have hll : (120 :: (l.take i).flatMap hex2).length ≤ 2001 := by
      rw [List.length_cons, flat2_len, List.length_take]
      omega
    refine go ?_
    refine E.ixr (v := .int .u8 l[i].toNat) el_u8 (hp.row hs) i (bs_get hin) ?_
    intro b o hc
    refine go ?_
    have h4 : l[i].toNat / 2 ^ 4 < dig16.length := by rw [show dig16.length = 16 from rfl]; omega
    refine E.sidx (l := dig16) Tryz.underlying9 (l[i].toNat / 2 ^ 4) h4 ?_
    refine go ?_
    refine E.callf Tryz.func23 rfl ?_
    refine writeByte_any (c := dig16[l[i].toNat / 2 ^ 4]) rfl hb (by omega) (hz hw) ?_
    intro w4 hb4 hw4
    refine go ?_
    rw [show l[i].toNat &&& 15 = l[i].toNat % 16 from Nat.and_two_pow_sub_one_eq_mod _ 4]
    have h5 : l[i].toNat % 16 < dig16.length := by rw [show dig16.length = 16 from rfl]; omega
    refine E.sidx (l := dig16) Tryz.underlying9 (l[i].toNat % 16) h5 ?_
    refine go ?_
    refine E.callf Tryz.func23 rfl ?_
    refine writeByte_any (c := dig16[l[i].toNat % 16]) rfl hb4 (by rw [List.length_append, List.length_singleton]; omega) (hz (hw.trans hw4)) ?_
    intro w5 hb5 hw5
    refine go ?_
    refine A.rd (l.length - (i + 1)) (i + 1) ⟨rfl, hin, (hw.trans hw4).trans hw5, ?_⟩
    rw [flat2_take hin, hex2, List.getD_eq_getElem?_getD, List.getD_eq_getElem?_getD, List.getElem?_eq_getElem h4, List.getElem?_eq_getElem h5]
    rw [List.append_assoc] at hb5
    exact hb5
  · refine go ?_
    refine E.callf Tryz.func24 rfl ?_
    refine bstring_any hb (hz hw) ?_
    intro w4 hw4
    refine go ?_
    refine A.r1 ?_
    have ei : i = l.length := by omega
    subst ei
    rw [List.take_length]
    exact HR.out _ (hu (hw.trans hw4))
end Go.Proofs.YtgciifalclgeeaaGreatDoor

/-
  What an event is.
-/
namespace Go.Proofs.YtgciifalclgeeaaGreatDoor
open Go.RowKit
set_option linter.unusedVariables false
set_option linter.unusedSimpArgs false
/-- An event; 'tv' is its text's slice. -/
structure Ev where
  wr : Int
  sq : Nat
  tm : Nat
  kd : Nat
  key : List UInt8
  text : List UInt8
  num : Nat
  nd : Int
  tv : Value
/-- Its cells. -/
def Ev.cs (e : Ev) : List Value := [.int .i64 e.wr, .int .u64 e.sq, .int .u64 e.tm, .int .u8 e.kd, .string ⟨e.key.toArray⟩, e.tv, .float .f64 e.num, .int .i64 e.nd]
def Ev.val (e : Ev) : Value := .agg e.cs.toArray
/-- Its parts are of their kinds, and its text lies in the pool. -/
structure Ev.ok (e : Ev) (g : Hl) : Prop where
  wr : -9223372036854775808 ≤ e.wr ∧ e.wr ≤ 9223372036854775807
  sq : e.sq < 18446744073709551616
  tm : e.tm < 18446744073709551616
  kd : e.kd < 256
  num : e.num < 18446744073709551616
  nd : -9223372036854775808 ≤ e.nd ∧ e.nd ≤ 9223372036854775807
  key : e.key.length ≤ 100000000
  text : e.text.length ≤ 100000000
  tv : Pr 1 g e.tv e.text.length (bs e.text)
theorem Ev.ok.mono {e : Ev} {g g' : Hl} (h : e.ok g) (hg : Hl.le g g') : e.ok g' := ⟨h.wr, h.sq, h.tm, h.kd, h.num, h.nd, h.key, h.text, h.tv.mono hg⟩
theorem ag_ev : AggOf Tryz.prog 26 8 := ⟨_, Tryz.underlying26, rfl, by kernel_rfl⟩
end Go.Proofs.YtgciifalclgeeaaGreatDoor

/-
  Numbers, lines without a word, events that may be.
-/
namespace Go.Proofs.YtgciifalclgeeaaGreatDoor
open Go.RowKit
set_option linter.unusedVariables false
set_option linter.unusedSimpArgs false
set_option maxHeartbeats 1600000 in
set_option maxRecDepth 100000 in
theorem formatUint10_any {R : Ending → World → Prop} {W w : World} {g : Hl} {H : List HP} {u : Nat} (hg : GlD g) (h2 : u < 18446744073709551616) (hs : Sat W w g H)
    (hR : ∀ w', Sat W w' g H → R (.returned (str (Lib.decDigits u))) w') : Calls Tryz.prog 12 #[.int .u64 u, .int .i64 10] w R := by
  have HR := Lib.hid hR
  clear hR
  refine C.calls (args := [.int .u64 u, .int .i64 10]) Tryz.func12 rfl rfl rfl ?_
  refine go ?_
  refine E.callf Tryz.func26 rfl ?_
  refine formatUint10I_any hg h2 hs ?_
  intro w2 hs
  refine go ?_
  refine A.r1 ?_
  exact HR.out _ hs
theorem itoa10_any {R : Ending → World → Prop} {W w : World} {g : Hl} {H : List HP} {u : Nat} {ui : Int} (hu : ui = (u : Int)) (hg : GlD g) (h2 : u < 9223372036854775808) (hs : Sat W w g H)
    (hR : ∀ w', Sat W w' g H → R (.returned (str (Lib.decDigits u))) w') : Calls Tryz.prog 11 #[.int .i64 ui] w R := by
  subst hu
  refine Calls.mono (Any.strconv_Itoa Tryz.lay171 (u : Int) (by omega) (by omega) w (hg.tabIs hs)) fun e w' ⟨he, k, os, hw⟩ => ?_
  subst he hw
  rw [Lib.itoa_nonneg]
  exact hR _ (hs.underD (below_growD w k os))
theorem dec_small {u : Nat} (h : u < 10) : Lib.decDigits u = [UInt8.ofNat (48 + u)] := Lib.decDigits_one h
theorem dec_big {u : Nat} (h : ¬ u < 10) : Lib.decDigits u = Lib.decDigits (u / 10) ++ Lib.decDigits (u % 10) := by
  rw [Lib.decDigits, dif_neg h, dec_small (Nat.mod_lt _ (by decide))]
theorem dec_len {u : Nat} (h : u < 18446744073709551616) : (Lib.decDigits u).length ≤ 20 := by
  rw [Lib.decDigits_length]
  rcases Nat.eq_zero_or_pos u with rfl | h0
  · rw [Lib.nDigits_small (by decide)]
    decide
  · exact nDigits_le h0 h
set_option maxHeartbeats 1600000 in
set_option maxRecDepth 100000 in
theorem num_any : ∀ (u : Nat) {R : Ending → World → Prop} {W w : World} {g : Hl} {H : List HP}, u < 18446744073709551616 → Sat W w g H →
    (∀ w', Sat W w' g H → R (.returned (str (Lib.decDigits u))) w') → Calls Tryz.prog 9 #[.int .u64 u] w R := by
  intro u
  induction u using Nat.strongRecOn with
  | _ u ih =>
  intro R W w g H h2 hs hR
  have HR := Lib.hid hR
  clear hR
  refine C.calls (args := [.int .u64 u]) Tryz.func9 rfl rfl rfl ?_
  refine go ?_
  refine C.cond_dec (p := (u : Int) < 10) rfl (fun h => ?_) (fun h => ?_)
  · refine go ?_
    have hu : (UInt8.ofNat (48 + u)).toNat = 48 + u := by rw [UInt8.toNat_ofNat']; omega
    refine E.bsl hs (e := 5) (cs := [.int .u8 (48 + (u : Int))]) ?_
    intro b1 w1 hs
    refine go ?_
    have hrow := blk_rowb (l := Lib.decDigits u) (m := 1) (q := 0) hs (by
      rw [dec_small (by omega)]
      simp only [List.drop_zero, bs, List.map_cons, List.map_nil, hu]
      rw [Int.natCast_add]
      rfl) (by rw [dec_small (by omega)]; rfl) (by decide)
    refine E.strc hrow Tryz.underlying23 Tryz.underlying5 Tryz.underlying9 ?_
    refine go ?_
    refine A.r1 ?_
    exact HR.out _ hs.drop
  · refine go ?_
    refine E.callf Tryz.func9 rfl ?_
    refine ih (u / 10) (by omega) (by omega) hs ?_
    intro w1 hs
    refine go ?_
    have hl1 := dec_len (u := u / 10) (by omega)
    have hl2 := dec_len (u := u % 10) (by omega)
    have e0 : str (Lib.decDigits (u / 10)) = .string ⟨(Lib.decDigits (u / 10)).toArray⟩ := rfl
    rw [e0]
    refine go ?_
    rw [show (u : Int).tmod 10 = ((u % 10 : Nat) : Int) from (Int.ofNat_tmod u 10).symm]
    refine E.callf Tryz.func9 rfl ?_
    refine ih (u % 10) (by omega) (by omega) hs ?_
    intro w2 hs
    have e1 : str (Lib.decDigits (u % 10)) = .string ⟨(Lib.decDigits (u % 10)).toArray⟩ := rfl
    rw [e1]
    refine go ?_
    refine A.r1 ?_
    have := HR.out _ hs
    rw [dec_big (by omega)] at this
    exact this
/-- An event that may be, of numbers below a bound. -/
structure Near (e e' : Ev) : Prop where
  wr : ∃ n : Nat, n < 64 ∧ e'.wr = n
  sq : e'.sq < 4611686018427387905
  tm : e'.tm < 4611686018427387905
  tv : e'.tv = e.tv
  text : e'.text = e.text
set_option maxHeartbeats 1600000 in
set_option maxRecDepth 100000 in
theorem near_any {R : Ending → World → Prop} {W w : World} {g : Hl} {H : List HP} {e : Ev} (he : e.sq < 18446744073709551616 ∧ e.tm < 18446744073709551616) (htv : ∃ a c, e.tv = .slice a e.text.length c) (hs : Sat W w g H)
    (hR : ∀ w' e', Near e e' → Sat W w' g H → R (.returned e'.val) w') : Calls Tryz.prog 5 #[e.val] w R := by
  have HR := Lib.hid hR
  clear hR
  have ag1 := ag_ev
  obtain ⟨ewr, esq, etm, ekd, ekey, etext, enum, end', etv⟩ := e
  obtain ⟨a, c, rfl⟩ : ∃ a c, etv = .slice a etext.length c := htv
  simp only at he

  refine C.calls (args := [Ev.val ⟨ewr, esq, etm, ekd, ekey, etext, enum, end', .slice a etext.length c⟩]) Tryz.func5 rfl rfl rfl ?_
  refine go ?_
  refine E.bx hs (xs := [.int .i64 ewr, .int .u64 esq, .int .u64 etm, .int .u8 ekd, .string ⟨ekey.toArray⟩, .slice a etext.length c, .float .f64 enum, .int .i64 end']) ?_ (hx := rfl)
  intro b1 w1 hs
  refine go ?_
  refine E.al hs (xs := [.int .i64 0, .int .u64 0, .int .u64 0, .int .u8 0, .string ⟨#[]⟩, .slice none 0 0, .float .f64 0, .int .i64 0]) ?_ (hx := rfl)
  intro b2 w2 hs
  refine go ?_
  obtain ⟨n, hn, en⟩ : ∃ n : Nat, n < 64 ∧ IntKind.i64.wrap ((IntKind.u64.wrap ewr).tmod 64) = n := by
    have h1 : 0 ≤ IntKind.u64.wrap ewr := by rw [IntKind.wrap_u64]; omega
    obtain ⟨m, hm⟩ := Int.eq_ofNat_of_zero_le h1
    refine ⟨m % 64, by omega, ?_⟩
    rw [hm, show ((m : Int).tmod 64) = ((m % 64 : Nat) : Int) from (Int.ofNat_tmod m 64).symm]
    exact wrap64_id (by omega) (by omega)
  obtain ⟨q, hq, eq⟩ : ∃ n : Nat, n < 64 ∧ IntKind.i64.wrap ((IntKind.u64.wrap end').tmod 64) = n := by
    have h1 : 0 ≤ IntKind.u64.wrap end' := by rw [IntKind.wrap_u64]; omega
    obtain ⟨m, hm⟩ := Int.eq_ofNat_of_zero_le h1
    refine ⟨m % 64, by omega, ?_⟩
    rw [hm, show ((m : Int).tmod 64) = ((m % 64 : Nat) : Int) from (Int.ofNat_tmod m 64).symm]
    exact wrap64_id (by omega) (by omega)
  rw [en]
  refine E.sto hs ?_
  intro w3 hs
  refine go ?_
  refine E.sto hs ?_
  intro w4 hs
  refine go ?_
  refine E.sto hs ?_
  intro w5 hs
  refine go ?_
  refine E.sto hs ?_
  intro w6 hs
  refine go ?_
  refine E.sto hs ?_
  intro w7 hs
  refine go ?_
  refine C.cond_dec (p := (ekey.length : Int) = 0) rfl (fun h => ?_) (fun h => ?_)
  · refine go ?_
    refine E.sto hs ?_
    intro w8 hs
    refine go ?_
    refine E.sto hs ?_
    intro w9 hs
    refine go ?_
    refine A.c1 rfl rfl (run_lda hs ag_ev) ?_
    exact HR.out _ ⟨n, 1 + esq % 4611686018427387904, 1 + etm % 4611686018427387904, 1 + ekd % 6, [107], etext, enum, q, .slice a etext.length c⟩ ⟨⟨n, hn, rfl⟩, by simp only; omega, by simp only; omega, rfl, rfl⟩ hs.drop.drop
  · refine go ?_
    refine E.sto hs ?_
    intro w9 hs
    refine go ?_
    refine A.c1 rfl rfl (run_lda hs ag_ev) ?_
    exact HR.out _ ⟨n, 1 + esq % 4611686018427387904, 1 + etm % 4611686018427387904, 1 + ekd % 6, ekey, etext, enum, q, .slice a etext.length c⟩ ⟨⟨n, hn, rfl⟩, by simp only; omega, by simp only; omega, rfl, rfl⟩ hs.drop.drop
end Go.Proofs.YtgciifalclgeeaaGreatDoor

/-
  The place of a byte in a word.
-/
namespace Go.Proofs.YtgciifalclgeeaaGreatDoor
open Go.RowKit
set_option linter.unusedVariables false
set_option linter.unusedSimpArgs false
/-- The place of a byte: how many stand ahead of the first one; none: -1. -/
def ixB (c : UInt8) : List UInt8 → Int
  | [] => -1
  | x :: r => if x = c then 0 else if ixB c r < 0 then -1 else ixB c r + 1
theorem ixB_ge (c : UInt8) : ∀ (l : List UInt8), -1 ≤ ixB c l ∧ ixB c l < l.length
  | [] => by simp [ixB]
  | x :: r => by
    have := ixB_ge c r
    simp only [ixB, List.length_cons]
    split
    · omega
    · split <;> omega
theorem firstIdx_go (c : UInt8) : ∀ (l pre : List UInt8), ((List.range' pre.length l.length).find? fun i => (ByteArray.mk (pre ++ l).toArray)[i]! == c) = if ixB c l < 0 then none else some (pre.length + (ixB c l).toNat)
  | [], pre => by simp [ixB]
  | x :: r, pre => by
    have h1 : (ByteArray.mk (pre ++ x :: r).toArray)[pre.length]! = x := by
      have hlt : pre.length < (pre ++ x :: r).length := by simp
      rw [getElem!_pos _ _ (by rw [ba_size]; exact hlt), ba_get _ _ hlt]
      simp
    have ih := firstIdx_go c r (pre ++ [x])
    simp only [List.length_append, List.length_cons, List.length_nil, List.append_assoc, List.cons_append, List.nil_append] at ih
    rw [List.length_cons, List.range'_succ, List.find?_cons, h1]
    by_cases hx : x = c
    · have e : ixB c (x :: r) = 0 := by simp [ixB, hx]
      rw [e]
      simp [hx]
    · have hb := ixB_ge c r
      have hne : (x == c) = false := by simpa using hx
      simp only [Nat.zero_add] at ih
      rw [hne]
      simp only
      rw [ih]
      by_cases hn : ixB c r < 0
      · have e : ixB c (x :: r) = -1 := by simp [ixB, hx, hn]
        rw [e, if_pos hn]
        rfl
      · have e : ixB c (x :: r) = ixB c r + 1 := by simp [ixB, hx, hn]
        rw [e, if_neg hn, if_neg (by omega)]
        congr 1
        omega
theorem firstIdx_ix (l : List UInt8) (c : UInt8) : Go.firstIdx ⟨l.toArray⟩ c = ixB c l := by
  have h := firstIdx_go c l []
  simp only [List.length_nil, List.nil_append, Nat.zero_add] at h
  unfold Go.firstIdx
  rw [ba_size, List.range_eq_range', h]
  have hb := ixB_ge c l
  split
  · rename_i i hi
    split at hi
    · cases hi
    · simp only [Option.some.injEq] at hi
      omega
  · rename_i hi
    split at hi
    · omega
    · cases hi
set_option maxHeartbeats 1600000 in
set_option maxRecDepth 100000 in
theorem indexByte_any {R : Ending → World → Prop} {w : World} {s : List UInt8} {c : UInt8} (hR : R (.returned (.int .i64 (ixB c s))) w) :
    Calls Tryz.prog 74 #[str s, .int .u8 (c.toNat : Int)] w R := by
  have HR := Lib.hid hR
  clear hR
  have e0 : str s = .string ⟨s.toArray⟩ := rfl
  rw [e0]
  clear e0
  refine C.calls (args := [.string ⟨s.toArray⟩, .int .u8 (c.toNat : Int)]) Tryz.func74 rfl rfl rfl ?_
  refine go ?_
  have hr := Go.run_indexByte_string (P := Tryz.prog) ⟨s.toArray⟩ (c.toNat : Int) w
  have ec : ((c.toNat : Int).toNat.toUInt8) = c := by simp
  rw [ec, firstIdx_ix] at hr
  refine E.ext Tryz.func103 (ex := Extern.BytealgIndexByte.indexByte) hr ?_
  refine go ?_
  refine A.r1 ?_
  exact HR.out
set_option maxHeartbeats 1600000 in
set_option maxRecDepth 100000 in
theorem index1_any {R : Ending → World → Prop} {w : World} {s : List UInt8} {c : UInt8} (hs1 : s.length ≤ 1000000000) (hR : R (.returned (.int .i64 (ixB c s))) w) :
    Calls Tryz.prog 53 #[str s, str [c]] w R := by
  have HR := Lib.hid hR
  clear hR
  have e0 : str s = .string ⟨s.toArray⟩ := rfl
  have e1 : str [c] = .string ⟨[c].toArray⟩ := rfl
  rw [e0, e1]
  clear e0 e1
  refine C.calls (args := [.string ⟨s.toArray⟩, .string ⟨[c].toArray⟩]) Tryz.func53 rfl rfl rfl ?_
  refine go ?_
  cases he : decide ([c] = s) with
  | true =>
    have he := of_decide_eq_true he
    subst he
    refine go ?_
    refine A.r1 ?_
    have := HR.out
    simp only [ixB, if_true] at this
    exact this
  | false =>
    refine go ?_
    refine E.sidx (l := [c]) Tryz.underlying9 0 (by simp) ?_
    refine E.callf Tryz.func74 rfl ?_
    refine indexByte_any (s := s) (c := c) ?_
    refine go ?_
    refine A.r1 ?_
    exact HR.out
end Go.Proofs.YtgciifalclgeeaaGreatDoor
