/-
  The stepping engine: regions that draw their order, where some blocks are held: what only reads them is taken first.
-/
import Derived.Test.YtkolnecahlkndaaGo
namespace Go.Proofs.Ytkolnecahlkndaa
open Go.RowKit
set_option linter.unusedVariables false
set_option linter.unusedSimpArgs false
set_option linter.unusedSectionVars false

/-- The pool, and some blocks, stand in a world. -/
def Keeps (g : Hl) (F : List (Nat × List Value × TypeId)) (w : World) : Prop := (∀ k o, g k = some o → w.heap[k]? = some o) ∧ ∀ x ∈ F, Blk w x.1 x.2.1 x.2.2

/-- Which operations are done, as bits. -/
def bt (m i : Nat) : Bool := Nat.beq (Nat.land (Nat.shiftRight m i) 1) 1
def bset (m i : Nat) : Nat := Nat.lor m (Nat.shiftLeft 1 i)
def bits (m k : Nat) : Array Bool := ((List.range k).map (bt m)).toArray
theorem bt_testBit (m i : Nat) : bt m i = m.testBit i := by
  have h1 : Nat.land (Nat.shiftRight m i) 1 = (m >>> i) &&& 1 := rfl
  unfold bt
  rw [h1, Nat.and_one_is_mod, Nat.testBit, Nat.and_comm, Nat.and_one_is_mod]
  rcases Nat.mod_two_eq_zero_or_one (m >>> i) with h | h <;> rw [h] <;> rfl
theorem bt_bset (m i j : Nat) : bt (bset m i) j = (bt m j || decide (i = j)) := by
  rw [bt_testBit, bt_testBit]
  show (m ||| 1 <<< i).testBit j = _
  rw [Nat.testBit_or, Nat.testBit_shiftLeft]
  by_cases h : i = j
  · subst h; simp
  · by_cases h2 : j ≥ i
    · have : j - i ≠ 0 := by omega
      have h1 : Nat.testBit 1 (j - i) = false := by
        rw [show (1 : Nat) = 2 ^ 0 from rfl, Nat.testBit_two_pow]; simp; omega
      simp [h, h2, h1]
    · simp [h, h2]
theorem bits_size (m k : Nat) : (bits m k).size = k := by simp [bits]
theorem bits_get (m k i : Nat) (h : i < k) : (bits m k)[i]? = some (bt m i) := by simp [bits, h]
theorem bits_set (m k i : Nat) : (bits m k).setIfInBounds i true = bits (bset m i) k := by
  apply Array.ext_getElem?
  intro j
  by_cases hj : j < k
  · rw [bits_get _ _ _ hj, Array.getElem?_setIfInBounds, bt_bset]
    by_cases h : i = j
    · subst h; simp [bits_size, hj]
    · simp [h, bits_get _ _ _ hj]
  · rw [Array.getElem?_eq_none (by simp [bits_size]; omega), Array.getElem?_eq_none (by simp [bits_size]; omega)]
theorem bits_zero (k : Nat) : bits 0 k = Array.replicate k false := by
  apply Array.ext_getElem?
  intro j
  by_cases hj : j < k
  · have : bt 0 j = false := by rw [bt_testBit]; simp
    simp [bits_get _ _ _ hj, hj, this]
  · rw [Array.getElem?_eq_none (by rw [bits_size]; omega), Array.getElem?_eq_none (by simp; omega)]
theorem bits_getD (m k i : Nat) (d : Bool) : (bits m k).getD i d = if i < k then bt m i else d := by
  rw [Array.getD_eq_getD_getElem?]
  by_cases h : i < k
  · rw [bits_get _ _ _ h, if_pos h]; rfl
  · rw [Array.getElem?_eq_none (by rw [bits_size]; omega), if_neg h]; rfl

/-- Which operations may come up. -/
def edB (m k : Nat) : List Edge → Bool
  | [] => true
  | e :: r => match Region.binds .any e with
    | true => match Nat.blt e.on k with
      | true => match bt m e.on with
        | true => edB m k r
        | false => false
      | false => false
    | false => edB m k r
def rdy (m k : Nat) : Nat → List Oper → List Nat
  | _, [] => []
  | i, o :: r => match bt m i with
    | true => rdy m k (i + 1) r
    | false => match edB m k o.after.toList with
      | true => i :: rdy m k (i + 1) r
      | false => rdy m k (i + 1) r
theorem edB_eq (m k : Nat) : ∀ (l : List Edge), edB m k l = l.all (fun e => !Region.binds .any e || (bits m k).getD e.on false)
  | [] => rfl
  | e :: r => by
    have ih := edB_eq m k r
    simp only [bits_getD] at ih
    simp only [edB, List.all_cons, bits_getD]
    cases Region.binds .any e with
    | false => simp only [Bool.not_false, Bool.true_or, Bool.true_and]; exact ih
    | true =>
      by_cases h : e.on < k
      · have hb : Nat.blt e.on k = true := by rw [Nat.blt_eq]; exact h
        simp only [hb, h, if_true, Bool.not_true, Bool.false_or]
        cases bt m e.on
        · simp
        · simp only [Bool.true_and]; exact ih
      · have hb : Nat.blt e.on k = false := by
          cases hc : Nat.blt e.on k with
          | false => rfl
          | true => rw [Nat.blt_eq] at hc; exact absurd hc h
        simp [hb, h]
theorem rdy_eq (m k : Nat) (ops : Array Oper) (hk : ops.size = k) : ∀ (l : List Oper) (i : Nat), (∀ j, l[j]? = ops[i + j]?) → rdy m k i l = ((List.range' i l.length).filter fun i =>
    !(bits m k).getD i true && ((ops[i]?).map (·.after.all fun e => !Region.binds .any e || (bits m k).getD e.on false)).getD false)
  | [], _, _ => rfl
  | o :: r, i, h => by
    have h0 := h 0
    simp only [List.getElem?_cons_zero, Nat.add_zero] at h0
    have hik : i < k := by
      have := (Array.getElem?_eq_some_iff.1 h0.symm).1
      omega
    have hr := rdy_eq m k ops hk r (i + 1) fun j => by
      have := h (j + 1)
      rw [List.getElem?_cons_succ] at this
      rw [this]; congr 1; omega
    rw [List.length_cons, List.range'_succ, List.filter_cons, ← h0]
    simp only [rdy, bits_getD, hik, if_true, Option.map_some, Option.getD_some]
    have he : (o.after.all fun e => !Region.binds .any e || if e.on < k then bt m e.on else false) = edB m k o.after.toList := by
      rw [edB_eq, ← Array.all_toList]
      simp only [bits_getD]
    rw [he]
    simp only [bits_getD] at hr
    cases bt m i <;> cases edB m k o.after.toList <;> simp only [Bool.not_false, Bool.not_true, Bool.true_and, Bool.false_and, Bool.and_true, Bool.and_false, if_true, Bool.false_eq_true, if_false, hr]
theorem rdy_ready (m : Nat) (l : List Oper) : Region.ready .any l.toArray (bits m l.length) = rdy m l.length 0 l := by
  rw [rdy_eq m l.length l.toArray (by simp) l 0 (fun j => by simp)]
  simp only [Region.ready, List.size_toArray, List.range_eq_range']

/-- A region whose order is drawn, while S holds. -/
def EH (P : Program) (n : Fm) (l : List Oper) (S : World → Prop) (fuel m : Nat) (ρ : List (Nat × Value)) (w : World) (Q : Exit → Act → World → Prop) : Prop := ∀ a, Kn n ρ a → wpAnyH P .any l.toArray Q S fuel (bits m l.length) a w

/-- What an operation yields while S holds. -/
def Pf (P : Program) (n : Fm) (S : World → Prop) (ρ : List (Nat × Value)) (o : Op) (ty : TypeId) (v : Value) : Prop :=
  ∀ a, Kn n ρ a → ∀ w, S w → ∀ (d : Option Tmp) (ps : String) (af : Array Edge) (g : Option (Nat × Bool)), (execOp a.eval ⟨d, o, ty, ps, af, g⟩).run P w = .ok (.value v) w

section
variable {P : Program} {n : Fm} {ρ : List (Nat × Value)} {W w w' : World} {g g' : Hl} {H H' : List HP} {Q : Exit → Act → World → Prop} {l : List Oper} {S : World → Prop} {fuel m : Nat} {d : Option Tmp} {ty : TypeId} {ps : String} {af : Array Edge} {gd : Option (Nat × Bool)} {v u : Value} {x y : Operand} {o : Op} {F : List (Nat × List Value × TypeId)} {i i1 i2 i3 i4 i5 i6 i7 : Nat} {rs : List Nat}

theorem Keeps.of (hs : Sat W w g' H) (hg : Hl.le g g') (hF : ∀ x ∈ F, Fd H x.1 x.2.1 x.2.2) : Keeps g F w := ⟨fun k o h => hs.pool (hg k o h), fun x hx => (hF x hx).blk hs⟩
theorem Keeps.of0 (hs : Sat W w g' H) (hg : Hl.le g g' := by first | exact Hl.le_refl _ | assumption | exact Hl.le.trans (by assumption) (by assumption)) : Keeps g [] w := ⟨fun k o h => hs.pool (hg k o h), fun x hx => by cases hx⟩
theorem Keeps.ofs {F : List (Nat × List Value × TypeId)} {b : Nat} {xs : List Value} {e : TypeId} (h : Keeps g F w) (hs : Sat W w g' H) (hf : Fd H b xs e := by exact fd_) : Keeps g ((b, xs, e) :: F) w :=
  ⟨h.1, fun x hx => by
    rcases List.mem_cons.1 hx with rfl | hx
    · exact hf.blk hs
    · exact h.2 x hx⟩

theorem Pf.pv (h : Pv P n ρ o ty v) : Pf P n S ρ o ty v := fun a ha w _ d ps af g => by
  unfold Pv at h; exact h a ha w d ps af g
theorem Pf.val (h : ∀ a, Kn n ρ a → ∀ w, S w → ∀ (d : Option Tmp) (ps : String) (af : Array Edge) (g : Option (Nat × Bool)), (execOp a.eval ⟨d, o, ty, ps, af, g⟩).run P w = .ok (.value v) w) : Pf P n S ρ o ty v := h

/-- A place that reads so while S holds. -/
def Rd (S : World → Prop) (b j : Nat) (v : Value) : Prop := ∀ w, S w → w.cell? ⟨b, j, none⟩ = some v
inductive InF (b : Nat) (xs : List Value) (e : TypeId) : List (Nat × List Value × TypeId) → Prop
  | here {F : List (Nat × List Value × TypeId)} : InF b xs e ((b, xs, e) :: F)
  | there {F : List (Nat × List Value × TypeId)} {q : Nat × List Value × TypeId} : InF b xs e F → InF b xs e (q :: F)
theorem InF.mem {b : Nat} {xs : List Value} {e : TypeId} (h : InF b xs e F) : (b, xs, e) ∈ F := by
  induction h with
  | here => exact List.mem_cons_self ..
  | there _ ih => exact List.mem_cons_of_mem _ ih
theorem Rd.blk {b j : Nat} {xs : List Value} {e : TypeId} (h : InF b xs e F) (hj : xs[j]? = some v) : Rd (Keeps g F) b j v := fun w hw => (blk_cell (hw.2 _ h.mem) j).trans hj
theorem Rd.pool {b o c k j : Nat} {xs : List Value} (hp : Pr k g (.slice (some ⟨b, o, none⟩) i c) i xs) (hj : xs[j]? = some v) : Rd (Keeps g F) b (o + j) v := fun w hw => by
  have hr : Row k w (fun _ => True) (.slice (some ⟨b, o, none⟩) i c) i xs := by
    obtain ⟨h1, a, c', e, hn, hc, ha, h⟩ := hp
    refine ⟨h1, a, c', e, hn, hc, ha, h.imp id ?_⟩
    rintro ⟨b', o', cur, e', fz, ea, hg, ht⟩
    exact ⟨b', o', cur, e', fz, ea, trivial, hw.1 _ _ hg, ht⟩
  exact (hr.cellAt rfl hj).2
theorem Keeps.row {k : Nat} {xs : List Value} (hw : Keeps g F w) (hp : Pr k g v i xs) : Row k w (fun _ => True) v i xs := by
  obtain ⟨h1, a, c', e, hn, hc, ha, h⟩ := hp
  refine ⟨h1, a, c', e, hn, hc, ha, h.imp id ?_⟩
  rintro ⟨b', o', cur, e', fz, ea, hg, ht⟩
  exact ⟨b', o', cur, e', fz, ea, trivial, hw.1 _ _ hg, ht⟩
theorem Pf.load {b j : Nat} {t : TypeId} (hx : evo n ρ x = some (.pointer (some ⟨b, j, none⟩))) (hc : Rd S b j v) (ha : ∀ w, (isAgg t).run P w = .ok false w) : Pf P n S ρ (.load t x) ty v := fun a hk w hS d ps af g => by
  simp [execOp, hk.eval hx, Instr.loadAt, Instr.sureAddr, loadVar, ha, hc w hS]
theorem Pf.loada {b k : Nat} {xs : List Value} {e t : TypeId} (hx : evo n ρ x = some (.pointer (some ⟨b, 0, none⟩))) (hf : InF b xs e F) (st : AggOf P t k) (hk : xs.length = k) : Pf P n (Keeps g F) ρ (.load t x) ty (.agg xs.toArray) := fun a ha w hS d ps af g' => by
  subst hk
  have := run_load_blk st (hS.2 _ hf.mem)
  simp [execOp, ha.eval hx, Instr.loadAt, Instr.sureAddr, this]
theorem Pf.loadp {b j k : Nat} {xs vs : List Value} {e t : TypeId} (hx : evo n ρ x = some (.pointer (some ⟨b, j, none⟩))) (hf : InF b xs e F) (st : AggOf P t k) (hv : (xs.drop j).take k = vs) (hk : vs.length = k) : Pf P n (Keeps g F) ρ (.load t x) ty (.agg vs.toArray) := fun a ha w hS d ps af g' => by
  have := run_ldp st (hS.2 _ hf.mem) hv hk
  simp [execOp, ha.eval hx, Instr.loadAt, Instr.sureAddr, this]
/-- string(b), of a row of the pool's. -/
theorem Pf.string {src dst e : TypeId} {k : Nat} {bl : List UInt8} (hx : evo n ρ x = some u) (hrow : Pr 1 g u k (bs bl)) (h1 : P.underlying src = some (.slice e)) (h2 : P.underlying e = some (.int .u8)) (h3 : P.underlying dst = some .string) :
    Pf P n (Keeps g F) ρ (.convert src dst x) ty (.string ⟨bl.toArray⟩) := fun a ha w hS d ps af g' => by
  simp [execOp, ha.eval hx, run_string h1 h2 h3 (hS.row hrow)]

theorem C.held {id : Nat} (S : World → Prop) (hs : Sat W w g H) (h : ∀ w', Sat W w' g H → EH P n l S l.length 0 ρ w' Q) (hm : P.follows .mixedOrders = true := by kernel_rfl) : C P n (.region id l.toArray true) ρ w Q := C.mk fun a ha =>
  wp_region_held (S := S) hm (by
    have := h _ hs.drew a ha
    rw [bits_zero] at this
    simpa using this)
theorem C.held0 {id : Nat} (hs : Sat W w g H) (h : ∀ w', Keeps g [] w' → Sat W w' g H → EH P n l (Keeps g []) l.length 0 ρ w' Q) (hm : P.follows .mixedOrders = true := by kernel_rfl) : C P n (.region id l.toArray true) ρ w Q :=
  C.held _ hs (fun w' hs' => h w' (Keeps.of0 hs') hs') hm
theorem C.held1 {id : Nat} (b1 : Nat) {x1 : List Value} {e1 : TypeId} (hs : Sat W w g H) (h : ∀ w', Keeps g [(b1, x1, e1)] w' → Sat W w' g H → EH P n l (Keeps g [(b1, x1, e1)]) l.length 0 ρ w' Q) (h1 : Fd H b1 x1 e1 := by exact fd_) (hm : P.follows .mixedOrders = true := by kernel_rfl) : C P n (.region id l.toArray true) ρ w Q :=
  C.held _ hs (fun w' hs' => h w' ((Keeps.of0 hs').ofs hs' h1) hs') hm
theorem C.held2 {id : Nat} (b1 b2 : Nat) {x1 x2 : List Value} {e1 e2 : TypeId} (hs : Sat W w g H) (h : ∀ w', Keeps g [(b1, x1, e1), (b2, x2, e2)] w' → Sat W w' g H → EH P n l (Keeps g [(b1, x1, e1), (b2, x2, e2)]) l.length 0 ρ w' Q) (h1 : Fd H b1 x1 e1 := by exact fd_) (h2 : Fd H b2 x2 e2 := by exact fd_) (hm : P.follows .mixedOrders = true := by kernel_rfl) : C P n (.region id l.toArray true) ρ w Q :=
  C.held _ hs (fun w' hs' => h w' (((Keeps.of0 hs').ofs hs' h2).ofs hs' h1) hs') hm
theorem Keeps.of1 {b1 : Nat} {x1 : List Value} {e1 : TypeId} (hs : Sat W w g' H) (hg : Hl.le g g' := by first | exact Hl.le_refl _ | assumption | exact Hl.le.trans (by assumption) (by assumption)) (h1 : Fd H b1 x1 e1 := by exact fd_) : Keeps g [(b1, x1, e1)] w := (Keeps.of0 hs hg).ofs hs h1
theorem Keeps.of2 {b1 b2 : Nat} {x1 x2 : List Value} {e1 e2 : TypeId} (hs : Sat W w g' H) (hg : Hl.le g g' := by first | exact Hl.le_refl _ | assumption | exact Hl.le.trans (by assumption) (by assumption)) (h1 : Fd H b1 x1 e1 := by exact fd_) (h2 : Fd H b2 x2 e2 := by exact fd_) : Keeps g [(b1, x1, e1), (b2, x2, e2)] w := ((Keeps.of0 hs hg).ofs hs h2).ofs hs h1
/-- Behind an operation the held things stand as before. -/
theorem kept0 {G : Prop} (hs : Sat W w g' H) (h : Keeps g [] w → G) (hg : Hl.le g g' := by first | exact Hl.le_refl _ | assumption | exact Hl.le.trans (by assumption) (by assumption)) : Keeps g [] w ∧ G := ⟨Keeps.of0 hs hg, h (Keeps.of0 hs hg)⟩
theorem kept1 {G : Prop} {b1 : Nat} {x1 : List Value} {e1 : TypeId} (hs : Sat W w g' H) (h : Keeps g [(b1, x1, e1)] w → G) (hg : Hl.le g g' := by first | exact Hl.le_refl _ | assumption | exact Hl.le.trans (by assumption) (by assumption)) (h1 : Fd H b1 x1 e1 := by exact fd_) : Keeps g [(b1, x1, e1)] w ∧ G := ⟨Keeps.of1 hs hg h1, h (Keeps.of1 hs hg h1)⟩
theorem kept2 {G : Prop} {b1 b2 : Nat} {x1 x2 : List Value} {e1 e2 : TypeId} (hs : Sat W w g' H) (h : Keeps g [(b1, x1, e1), (b2, x2, e2)] w → G) (hg : Hl.le g g' := by first | exact Hl.le_refl _ | assumption | exact Hl.le.trans (by assumption) (by assumption)) (h1 : Fd H b1 x1 e1 := by exact fd_) (h2 : Fd H b2 x2 e2 := by exact fd_) : Keeps g [(b1, x1, e1), (b2, x2, e2)] w ∧ G := ⟨Keeps.of2 hs hg h1 h2, h (Keeps.of2 hs hg h1 h2)⟩
theorem EH.done (h : A n .normal ρ w Q) (hr : rdy m l.length 0 l = [] := by exact rfl) : EH P n l S fuel m ρ w Q := fun a ha => wpAnyH_done (by rw [rdy_ready, hr]) (A.use h ha) _
/-- What may be taken first. -/
theorem EH.take {oi : Oper} (i : Nat) (hr : i ∈ rdy m l.length 0 l) (hi : nth l i = some oi) (hsel : Region.noSelect l.toArray = true) (hf : Region.free .any l.toArray (bits m l.length) i = true)
    (hQ : ∀ v c a w, Q (.panic c) (a.put oi.dst v) w → Q (.panic c) a w) (hS : S w) (hy : ∀ a, Kn n ρ a → YieldsIf P l.toArray S oi v a) (h : EH P n l S fuel (bset m i) (pushv oi.dst v ρ) w Q) : EH P n l S (fuel + 1) m ρ w Q := fun a ha =>
  wpAnyH_take (nth_get hi) hsel hf (by rw [rdy_ready]; simpa using hr) (hQ v) (hy a ha) hS (by rw [bits_set]; exact h _ (ha.put _ _))
theorem yif {oi : Oper} (hg : want n l ρ oi.guard = some true) (h : Pf P n S ρ oi.op oi.type v) (a : Act) (ha : Kn n ρ a) : YieldsIf P l.toArray S oi v a := by
  obtain ⟨d, o, ty, ps, af, gd⟩ := oi
  exact .inl ⟨want_get hg ha, fun w hS => h a ha w hS _ _ _ _⟩
theorem yoff {oi : Oper} (hg : want n l ρ oi.guard = some false) (a : Act) (ha : Kn n ρ a) : YieldsIf P l.toArray S oi undef a := by
  obtain ⟨d, o, ty, ps, af, gd⟩ := oi
  exact .inr ⟨want_get hg ha, rfl⟩
/-- The operation at hand in a drawn region: what is wanted behind it. -/
def AllSt (P : Program) (n : Fm) (l : List Oper) (S : World → Prop) (fuel m : Nat) (ρ : List (Nat × Value)) (w : World) (Q : Exit → Act → World → Prop) : List Nat → Prop
  | [] => True
  | i :: r => (∃ oi, nth l i = some oi ∧ St P n l.toArray oi ρ w (fun ρ' w' => S w' ∧ EH P n l S fuel (bset m i) ρ' w' Q) Q) ∧ AllSt P n l S fuel m ρ w Q r
theorem EH.all {rs : List Nat} (h : AllSt P n l S fuel m ρ w Q rs) (hr : rdy m l.length 0 l = rs) (hne : rs ≠ []) : EH P n l S (fuel + 1) m ρ w Q := fun a ha => by
  refine wpAnyH_all (rs := rs) (by rw [rdy_ready, hr]) hne ?_
  clear hr hne
  intro i hi
  induction rs with
  | nil => cases hi
  | cons j r ih =>
    obtain ⟨⟨oi, hoi, hst⟩, hrest⟩ := h
    rcases List.mem_cons.1 hi with rfl | hi
    · unfold wpOp
      rw [nth_get hoi]
      simp only
      have h1 := St.use hst ha (fun a' w' => S w' ∧ wpAnyH P .any l.toArray Q S fuel ((bits m l.length).setIfInBounds i true) a' w') (fun ρ' w' a' hN hk => ⟨hN.1, by rw [bits_set]; exact hN.2 a' hk⟩)
      split
      · rename_i hw
        rw [if_pos hw] at h1
        exact .inl h1
      · rename_i hw
        rw [if_neg hw] at h1
        exact h1
    · exact ih hrest hi
theorem EH.one {oi : Oper} (h : St P n l.toArray oi ρ w (fun ρ' w' => S w' ∧ EH P n l S fuel (bset m i) ρ' w' Q) Q) (hr : rdy m l.length 0 l = [i] := by exact rfl) (hi : nth l i = some oi := by exact rfl) : EH P n l S (fuel + 1) m ρ w Q :=
  EH.all (rs := [i]) ⟨⟨oi, hi, h⟩, trivial⟩ hr (by simp)
theorem EH.two {oi oj : Oper} (h : St P n l.toArray oi ρ w (fun ρ' w' => S w' ∧ EH P n l S fuel (bset m i1) ρ' w' Q) Q) (h2 : St P n l.toArray oj ρ w (fun ρ' w' => S w' ∧ EH P n l S fuel (bset m i2) ρ' w' Q) Q) (hr : rdy m l.length 0 l = [i1, i2] := by exact rfl) (hi : nth l i1 = some oi := by exact rfl) (hj : nth l i2 = some oj := by exact rfl) : EH P n l S (fuel + 1) m ρ w Q :=
  EH.all (rs := [i1, i2]) ⟨⟨oi, hi, h⟩, ⟨oj, hj, h2⟩, trivial⟩ hr (by simp)

/-- What an operation yields while S holds, found. -/
theorem pft (h : Pf P n S ρ o ty v := by
    first
    | (apply Pf.pv; exact pvt)
    | (apply Pf.load; exact rfl; (first | assumption | exact Rd.blk (by repeat (first | exact InF.here | apply InF.there)) rfl); (first | (intro w; go_simp; done) | fail))
    | (apply Pf.loadp; exact rfl; (repeat (first | exact InF.here | apply InF.there)); assumption; exact nz_; exact rfl)) : Pf P n S ρ o ty v := h
theorem EH.t0 {oi : Oper} (hS : S w) (h : EH P n l S fuel (bset m i) (pushv oi.dst v ρ) w Q) (hr : rdy m l.length 0 l = i :: rs := by exact rfl) (hi : nth l i = some oi := by exact rfl) (hg : want n l ρ oi.guard = some true := by exact rfl) (hy : Pf P n S ρ oi.op oi.type v := by exact pft) (hsel : Region.noSelect l.toArray = true := by kernel_rfl) (hf : Region.free .any l.toArray (bits m l.length) i = true := by decide +kernel)
    (hQ : ∀ v c a w, Q (.panic c) (a.put oi.dst v) w → Q (.panic c) a w := by exact fun _ _ _ _ h => h) : EH P n l S (fuel + 1) m ρ w Q :=
  EH.take i (by rw [hr]; simp) hi hsel hf hQ hS (yif hg hy) h
theorem EH.o0 {oi : Oper} (hS : S w) (h : EH P n l S fuel (bset m i) (pushv oi.dst undef ρ) w Q) (hr : rdy m l.length 0 l = i :: rs := by exact rfl) (hi : nth l i = some oi := by exact rfl) (hg : want n l ρ oi.guard = some false := by exact rfl) (hsel : Region.noSelect l.toArray = true := by kernel_rfl) (hf : Region.free .any l.toArray (bits m l.length) i = true := by decide +kernel)
    (hQ : ∀ v c a w, Q (.panic c) (a.put oi.dst v) w → Q (.panic c) a w := by exact fun _ _ _ _ h => h) : EH P n l S (fuel + 1) m ρ w Q :=
  EH.take i (by rw [hr]; simp) hi hsel hf hQ hS (yoff hg) h
theorem EH.t1 {oi : Oper} (hS : S w) (h : EH P n l S fuel (bset m i) (pushv oi.dst v ρ) w Q) (hr : rdy m l.length 0 l = i1 :: i :: rs := by exact rfl) (hi : nth l i = some oi := by exact rfl) (hg : want n l ρ oi.guard = some true := by exact rfl) (hy : Pf P n S ρ oi.op oi.type v := by exact pft) (hsel : Region.noSelect l.toArray = true := by kernel_rfl) (hf : Region.free .any l.toArray (bits m l.length) i = true := by decide +kernel)
    (hQ : ∀ v c a w, Q (.panic c) (a.put oi.dst v) w → Q (.panic c) a w := by exact fun _ _ _ _ h => h) : EH P n l S (fuel + 1) m ρ w Q :=
  EH.take i (by rw [hr]; simp) hi hsel hf hQ hS (yif hg hy) h
theorem EH.o1 {oi : Oper} (hS : S w) (h : EH P n l S fuel (bset m i) (pushv oi.dst undef ρ) w Q) (hr : rdy m l.length 0 l = i1 :: i :: rs := by exact rfl) (hi : nth l i = some oi := by exact rfl) (hg : want n l ρ oi.guard = some false := by exact rfl) (hsel : Region.noSelect l.toArray = true := by kernel_rfl) (hf : Region.free .any l.toArray (bits m l.length) i = true := by decide +kernel)
    (hQ : ∀ v c a w, Q (.panic c) (a.put oi.dst v) w → Q (.panic c) a w := by exact fun _ _ _ _ h => h) : EH P n l S (fuel + 1) m ρ w Q :=
  EH.take i (by rw [hr]; simp) hi hsel hf hQ hS (yoff hg) h
theorem EH.t2 {oi : Oper} (hS : S w) (h : EH P n l S fuel (bset m i) (pushv oi.dst v ρ) w Q) (hr : rdy m l.length 0 l = i1 :: i2 :: i :: rs := by exact rfl) (hi : nth l i = some oi := by exact rfl) (hg : want n l ρ oi.guard = some true := by exact rfl) (hy : Pf P n S ρ oi.op oi.type v := by exact pft) (hsel : Region.noSelect l.toArray = true := by kernel_rfl) (hf : Region.free .any l.toArray (bits m l.length) i = true := by decide +kernel)
    (hQ : ∀ v c a w, Q (.panic c) (a.put oi.dst v) w → Q (.panic c) a w := by exact fun _ _ _ _ h => h) : EH P n l S (fuel + 1) m ρ w Q :=
  EH.take i (by rw [hr]; simp) hi hsel hf hQ hS (yif hg hy) h
theorem EH.o2 {oi : Oper} (hS : S w) (h : EH P n l S fuel (bset m i) (pushv oi.dst undef ρ) w Q) (hr : rdy m l.length 0 l = i1 :: i2 :: i :: rs := by exact rfl) (hi : nth l i = some oi := by exact rfl) (hg : want n l ρ oi.guard = some false := by exact rfl) (hsel : Region.noSelect l.toArray = true := by kernel_rfl) (hf : Region.free .any l.toArray (bits m l.length) i = true := by decide +kernel)
    (hQ : ∀ v c a w, Q (.panic c) (a.put oi.dst v) w → Q (.panic c) a w := by exact fun _ _ _ _ h => h) : EH P n l S (fuel + 1) m ρ w Q :=
  EH.take i (by rw [hr]; simp) hi hsel hf hQ hS (yoff hg) h
theorem EH.t3 {oi : Oper} (hS : S w) (h : EH P n l S fuel (bset m i) (pushv oi.dst v ρ) w Q) (hr : rdy m l.length 0 l = i1 :: i2 :: i3 :: i :: rs := by exact rfl) (hi : nth l i = some oi := by exact rfl) (hg : want n l ρ oi.guard = some true := by exact rfl) (hy : Pf P n S ρ oi.op oi.type v := by exact pft) (hsel : Region.noSelect l.toArray = true := by kernel_rfl) (hf : Region.free .any l.toArray (bits m l.length) i = true := by decide +kernel)
    (hQ : ∀ v c a w, Q (.panic c) (a.put oi.dst v) w → Q (.panic c) a w := by exact fun _ _ _ _ h => h) : EH P n l S (fuel + 1) m ρ w Q :=
  EH.take i (by rw [hr]; simp) hi hsel hf hQ hS (yif hg hy) h
theorem EH.o3 {oi : Oper} (hS : S w) (h : EH P n l S fuel (bset m i) (pushv oi.dst undef ρ) w Q) (hr : rdy m l.length 0 l = i1 :: i2 :: i3 :: i :: rs := by exact rfl) (hi : nth l i = some oi := by exact rfl) (hg : want n l ρ oi.guard = some false := by exact rfl) (hsel : Region.noSelect l.toArray = true := by kernel_rfl) (hf : Region.free .any l.toArray (bits m l.length) i = true := by decide +kernel)
    (hQ : ∀ v c a w, Q (.panic c) (a.put oi.dst v) w → Q (.panic c) a w := by exact fun _ _ _ _ h => h) : EH P n l S (fuel + 1) m ρ w Q :=
  EH.take i (by rw [hr]; simp) hi hsel hf hQ hS (yoff hg) h
theorem EH.t4 {oi : Oper} (hS : S w) (h : EH P n l S fuel (bset m i) (pushv oi.dst v ρ) w Q) (hr : rdy m l.length 0 l = i1 :: i2 :: i3 :: i4 :: i :: rs := by exact rfl) (hi : nth l i = some oi := by exact rfl) (hg : want n l ρ oi.guard = some true := by exact rfl) (hy : Pf P n S ρ oi.op oi.type v := by exact pft) (hsel : Region.noSelect l.toArray = true := by kernel_rfl) (hf : Region.free .any l.toArray (bits m l.length) i = true := by decide +kernel)
    (hQ : ∀ v c a w, Q (.panic c) (a.put oi.dst v) w → Q (.panic c) a w := by exact fun _ _ _ _ h => h) : EH P n l S (fuel + 1) m ρ w Q :=
  EH.take i (by rw [hr]; simp) hi hsel hf hQ hS (yif hg hy) h
theorem EH.o4 {oi : Oper} (hS : S w) (h : EH P n l S fuel (bset m i) (pushv oi.dst undef ρ) w Q) (hr : rdy m l.length 0 l = i1 :: i2 :: i3 :: i4 :: i :: rs := by exact rfl) (hi : nth l i = some oi := by exact rfl) (hg : want n l ρ oi.guard = some false := by exact rfl) (hsel : Region.noSelect l.toArray = true := by kernel_rfl) (hf : Region.free .any l.toArray (bits m l.length) i = true := by decide +kernel)
    (hQ : ∀ v c a w, Q (.panic c) (a.put oi.dst v) w → Q (.panic c) a w := by exact fun _ _ _ _ h => h) : EH P n l S (fuel + 1) m ρ w Q :=
  EH.take i (by rw [hr]; simp) hi hsel hf hQ hS (yoff hg) h
theorem EH.t5 {oi : Oper} (hS : S w) (h : EH P n l S fuel (bset m i) (pushv oi.dst v ρ) w Q) (hr : rdy m l.length 0 l = i1 :: i2 :: i3 :: i4 :: i5 :: i :: rs := by exact rfl) (hi : nth l i = some oi := by exact rfl) (hg : want n l ρ oi.guard = some true := by exact rfl) (hy : Pf P n S ρ oi.op oi.type v := by exact pft) (hsel : Region.noSelect l.toArray = true := by kernel_rfl) (hf : Region.free .any l.toArray (bits m l.length) i = true := by decide +kernel)
    (hQ : ∀ v c a w, Q (.panic c) (a.put oi.dst v) w → Q (.panic c) a w := by exact fun _ _ _ _ h => h) : EH P n l S (fuel + 1) m ρ w Q :=
  EH.take i (by rw [hr]; simp) hi hsel hf hQ hS (yif hg hy) h
theorem EH.o5 {oi : Oper} (hS : S w) (h : EH P n l S fuel (bset m i) (pushv oi.dst undef ρ) w Q) (hr : rdy m l.length 0 l = i1 :: i2 :: i3 :: i4 :: i5 :: i :: rs := by exact rfl) (hi : nth l i = some oi := by exact rfl) (hg : want n l ρ oi.guard = some false := by exact rfl) (hsel : Region.noSelect l.toArray = true := by kernel_rfl) (hf : Region.free .any l.toArray (bits m l.length) i = true := by decide +kernel)
    (hQ : ∀ v c a w, Q (.panic c) (a.put oi.dst v) w → Q (.panic c) a w := by exact fun _ _ _ _ h => h) : EH P n l S (fuel + 1) m ρ w Q :=
  EH.take i (by rw [hr]; simp) hi hsel hf hQ hS (yoff hg) h
theorem EH.t6 {oi : Oper} (hS : S w) (h : EH P n l S fuel (bset m i) (pushv oi.dst v ρ) w Q) (hr : rdy m l.length 0 l = i1 :: i2 :: i3 :: i4 :: i5 :: i6 :: i :: rs := by exact rfl) (hi : nth l i = some oi := by exact rfl) (hg : want n l ρ oi.guard = some true := by exact rfl) (hy : Pf P n S ρ oi.op oi.type v := by exact pft) (hsel : Region.noSelect l.toArray = true := by kernel_rfl) (hf : Region.free .any l.toArray (bits m l.length) i = true := by decide +kernel)
    (hQ : ∀ v c a w, Q (.panic c) (a.put oi.dst v) w → Q (.panic c) a w := by exact fun _ _ _ _ h => h) : EH P n l S (fuel + 1) m ρ w Q :=
  EH.take i (by rw [hr]; simp) hi hsel hf hQ hS (yif hg hy) h
theorem EH.o6 {oi : Oper} (hS : S w) (h : EH P n l S fuel (bset m i) (pushv oi.dst undef ρ) w Q) (hr : rdy m l.length 0 l = i1 :: i2 :: i3 :: i4 :: i5 :: i6 :: i :: rs := by exact rfl) (hi : nth l i = some oi := by exact rfl) (hg : want n l ρ oi.guard = some false := by exact rfl) (hsel : Region.noSelect l.toArray = true := by kernel_rfl) (hf : Region.free .any l.toArray (bits m l.length) i = true := by decide +kernel)
    (hQ : ∀ v c a w, Q (.panic c) (a.put oi.dst v) w → Q (.panic c) a w := by exact fun _ _ _ _ h => h) : EH P n l S (fuel + 1) m ρ w Q :=
  EH.take i (by rw [hr]; simp) hi hsel hf hQ hS (yoff hg) h
theorem EH.t7 {oi : Oper} (hS : S w) (h : EH P n l S fuel (bset m i) (pushv oi.dst v ρ) w Q) (hr : rdy m l.length 0 l = i1 :: i2 :: i3 :: i4 :: i5 :: i6 :: i7 :: i :: rs := by exact rfl) (hi : nth l i = some oi := by exact rfl) (hg : want n l ρ oi.guard = some true := by exact rfl) (hy : Pf P n S ρ oi.op oi.type v := by exact pft) (hsel : Region.noSelect l.toArray = true := by kernel_rfl) (hf : Region.free .any l.toArray (bits m l.length) i = true := by decide +kernel)
    (hQ : ∀ v c a w, Q (.panic c) (a.put oi.dst v) w → Q (.panic c) a w := by exact fun _ _ _ _ h => h) : EH P n l S (fuel + 1) m ρ w Q :=
  EH.take i (by rw [hr]; simp) hi hsel hf hQ hS (yif hg hy) h
theorem EH.o7 {oi : Oper} (hS : S w) (h : EH P n l S fuel (bset m i) (pushv oi.dst undef ρ) w Q) (hr : rdy m l.length 0 l = i1 :: i2 :: i3 :: i4 :: i5 :: i6 :: i7 :: i :: rs := by exact rfl) (hi : nth l i = some oi := by exact rfl) (hg : want n l ρ oi.guard = some false := by exact rfl) (hsel : Region.noSelect l.toArray = true := by kernel_rfl) (hf : Region.free .any l.toArray (bits m l.length) i = true := by decide +kernel)
    (hQ : ∀ v c a w, Q (.panic c) (a.put oi.dst v) w → Q (.panic c) a w := by exact fun _ _ _ _ h => h) : EH P n l S (fuel + 1) m ρ w Q :=
  EH.take i (by rw [hr]; simp) hi hsel hf hQ hS (yoff hg) h
/-- All that only reads what is held, or turns nothing. -/
theorem goh {G G' : Prop} (k : G') (h : Lf G' → G := by
    intro kkk
    repeat (first | refine EH.t0 hk ?_ | refine EH.t1 hk ?_ | refine EH.t2 hk ?_ | refine EH.t3 hk ?_ | refine EH.t4 hk ?_ | refine EH.t5 hk ?_ | refine EH.t6 hk ?_ | refine EH.t7 hk ?_ | refine EH.o0 hk ?_ | refine EH.o1 hk ?_ | refine EH.o2 hk ?_ | refine EH.o3 hk ?_ | refine EH.o4 hk ?_ | refine EH.o5 hk ?_ | refine EH.o6 hk ?_ | refine EH.o7 hk ?_)
    exact kkk.out) : G := h ⟨k⟩
end

end Go.Proofs.Ytkolnecahlkndaa
