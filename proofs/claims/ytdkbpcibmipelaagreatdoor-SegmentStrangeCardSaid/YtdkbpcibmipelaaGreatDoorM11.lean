/-
  Layer 5 (sheet): Swap.
-/
import Derived.Test.YtdkbpcibmipelaaGreatDoorM08
import Derived.Test.YtdkbpcibmipelaaGreatDoorM10
import Derived.Test.YtdkbpcibmipelaaGreatDoorM03
import Derived.Test.YtdkbpcibmipelaaGreatDoorM02
import Derived.Test.YtdkbpcibmipelaaGreatDoorM09
namespace Go.Proofs.YtdkbpcibmipelaaGreatDoor
open Go.RowKit
set_option linter.unusedVariables false
set_option linter.unusedSimpArgs false

theorem Pr.le {g : Hl} {s n c : Nat} {a : Option Addr} {xs : List Value} (h : Pr s g (.slice a n c) n xs) : n ≤ c ∧ c ≤ 9223372036854775807 := by
  obtain ⟨_, _, e, h1, h2⟩ := h.len
  simp only [Value.slice.injEq] at e
  omega
theorem LB.le {g : Hl} {n c : Nat} {a : Option Addr} {ls : List (List UInt8)} (h : LB g a n c ls) : n ≤ c ∧ c ≤ 9223372036854775807 := by
  obtain ⟨ps, _, _, _, h⟩ := h
  exact h.le
theorem LB.get {g : Hl} {a : Option Addr} {n c : Nat} {ls : List (List UInt8)} (h : LB g a n c ls) {i : Nat} (hi : i < n) : ∃ xs : List Value, Pr 1 g (.slice a n c) n xs ∧ ∃ a' c', xs[i]? = some (.slice a' (ls[i]'(by rw [h.len]; exact hi)).length c') ∧ Pr 1 g (.slice a' (ls[i]'(by rw [h.len]; exact hi)).length c') (ls[i]'(by rw [h.len]; exact hi)).length (bs (ls[i]'(by rw [h.len]; exact hi))) := by
  obtain ⟨ps, rfl, h2, h3, h4⟩ := h
  have hip : i < ps.length := by omega
  have h5 := h3 ps[i] (List.getElem_mem hip)
  obtain ⟨a', c', e, _⟩ := h5.len
  refine ⟨_, h4, a', c', ?_, ?_⟩
  · rw [List.getElem?_map, List.getElem?_eq_getElem hip]
    simp only [Option.map_some, List.getElem_map, Option.some.injEq]
    exact e
  · simp only [List.getElem_map]
    rw [e] at h5
    exact h5

def catB (ls : List (List UInt8)) : List UInt8 := (ls.map wrapB).flatten
def sumL (ls : List (List UInt8)) : Nat := (ls.map fun x => x.length + 14).sum
theorem catB_snoc (ls : List (List UInt8)) (x : List UInt8) : catB (ls ++ [x]) = catB ls ++ wrapB x := by simp [catB]
theorem sumL_snoc (ls : List (List UInt8)) (x : List UInt8) : sumL (ls ++ [x]) = sumL ls + (x.length + 14) := by simp [sumL]
theorem sumL_mem {ls : List (List UInt8)} {x : List UInt8} (h : x ∈ ls) : x.length + 14 ≤ sumL ls := by
  obtain ⟨l1, l2, rfl⟩ := List.append_of_mem h
  simp only [sumL, List.map_append, List.map_cons, List.sum_append, List.sum_cons]
  omega
theorem sumL_take (ls : List (List UInt8)) (i : Nat) : sumL (ls.take i) ≤ sumL ls := by
  have : sumL ls = sumL (ls.take i) + sumL (ls.drop i) := by
    have h : sumL (ls.take i ++ ls.drop i) = sumL (ls.take i) + sumL (ls.drop i) := by
      simp only [sumL, List.map_append, List.sum_append]
    rw [List.take_append_drop] at h
    exact h
  omega
theorem catB_len : ∀ (ls : List (List UInt8)), sumL ls ≤ 1000000000 → (catB ls).length ≤ sumL ls
  | [], _ => by simp [catB]
  | x :: r, h => by
    have e : sumL (x :: r) = (x.length + 14) + sumL r := by simp [sumL]
    have h1 := wrapB_len x (by omega)
    have h2 := catB_len r (by omega)
    have e2 : catB (x :: r) = wrapB x ++ catB r := by simp [catB]
    rw [e2, List.length_append]
    omega

def newB : List UInt8 := [46, 110, 101, 119]
/-- How 'Swap' goes. -/
def Dk.swap (d : Dk) (name : List UInt8) (t : Ti) (ls : List (List UInt8)) : Int × Dk :=
  let r1 := d.remove (name ++ newB)
  if r1.1 ≠ 0 ∧ r1.1 ≠ 2 then r1 else
  if ls.any (fun x => decide (2097152 < x.length)) then (6, r1.2) else
  let r2 := r1.2.append (name ++ newB) (headB t ++ catB ls)
  if r2.1 ≠ 0 then r2 else
  let r3 := r2.2.sync (name ++ newB)
  if r3.1 ≠ 0 then r3 else r3.2.move (name ++ newB) name

set_option maxHeartbeats 1600000 in
set_option maxRecDepth 100000 in
theorem swap_any {R : Ending → World → Prop} {W w : World} {g : Hl} {H : List HP} {b n c : Nat} {a : Option Addr} {d : Dk} {name : List UInt8} {t : Ti} {ls : List (List UInt8)} (ht : t.ok) (hs : Sat W w g (disk b d :: H)) (hl : LB g a n c ls) (hb : sumL ls ≤ 100000000) (hnm : name.length ≤ 1000)
    (hR : ∀ w' g', Hl.le g g' → Sat W w' g' (disk b (d.swap name t ls).2 :: H) → R (.returned (.int .i64 (d.swap name t ls).1)) w') :
    Calls Tryz.prog 203 #[ptr b, str name, t.val, .slice a n c] w R := by
  have HR := Lib.hid hR
  clear hR
  refine C.calls (args := [ptr b, str name, t.val, .slice a n c]) Tryz.func203 rfl rfl rfl ?_
  have e0 : str name = .string ⟨name.toArray⟩ := rfl
  rw [e0]
  refine go ?_
  refine E.bx hs ?_
  intro b1 w1 hs
  have hs : Sat W w1 g (blk b1 t.cs 41 :: disk b d :: H) := hs
  refine go ?_
  have key := HR.out
  simp only [Dk.swap] at key
  refine E.callf Tryz.func106 rfl ?_
  refine remove_any (name := name ++ newB) hs.swap ?_
  intro w2 hs
  generalize d.remove (name ++ newB) = r1 at hs key ⊢
  obtain ⟨e1, d1⟩ := r1
  simp only at hs key ⊢
  have hll := hl.len
  have hle := hl.le
  have hhl := headB_len ht
  by_cases h12 : e1 = 0 ∨ e1 = 2
  rotate_left
  · have h1 : ¬ e1 = 0 := fun h => h12 (.inl h)
    have h2 : ¬ e1 = 2 := fun h => h12 (.inr h)
    have d1' : decide (e1 = 0) = false := by simp [h1]
    have d2' : decide (e1 = 2) = false := by simp [h2]
    refine go ?_
    rw [d1']
    refine go ?_
    rw [d2']
    refine go ?_
    refine A.r1 ?_
    rw [if_pos ⟨h1, h2⟩] at key
    exact key _ _ (Hl.le_refl _) hs.swap.drop
  rw [if_neg (by omega)] at key
  have K := Lib.hid key
  clear key HR
  rcases h12 with rfl | rfl
  all_goals
    refine go ?_
    refine E.lda hs.swap ag_title ?_
    refine go ?_
    refine E.callf Tryz.func21 rfl ?_
    refine head_any hs ht ?_
    intro a3 c3 w3 g3 hg3 hs
    have hl3 := hl.mono hg3
    refine gob ?_
    refine C.cutQ (fun x : Option Addr × Nat => [(0, ptr b), (1, str name), (9, str (name ++ newB)), (11, .slice x.1 (headB t ++ catB ls).length x.2)]) (fun x w => ls.any (fun x => decide (2097152 < x.length)) = false ∧ Sat W w g3 (own 5 1 (.slice x.1 (headB t ++ catB ls).length x.2) (headB t ++ catB ls).length (bs (headB t ++ catB ls)) :: disk b d1 :: blk b1 t.cs 41 :: H)) ?_ ?_
    · refine C.block ?_
      refine C.lp (fun x : Nat × Option Addr × Nat => [(0, ptr b), (1, str name), (9, str (name ++ newB)), (11, .slice x.2.1 (headB t ++ catB (ls.take x.1)).length x.2.2), (30, .slice a n c), (31, .int .i64 n), (32, .int .i64 x.1)])
        (fun gk x w => gk = n - x.1 ∧ x.1 ≤ n ∧ (ls.take x.1).any (fun x => decide (2097152 < x.length)) = false ∧ Sat W w g3 (own 5 1 (.slice x.2.1 (headB t ++ catB (ls.take x.1)).length x.2.2) (headB t ++ catB (ls.take x.1)).length (bs (headB t ++ catB (ls.take x.1))) :: disk b d1 :: blk b1 t.cs 41 :: H)) n (0, a3, c3)
        ⟨rfl, Nat.zero_le _, by simp, by simpa [catB] using hs⟩ ?_ (hw := ?_)
      rotate_left
      · simp only [List.take_zero, catB, List.map_nil, List.flatten_nil, List.append_nil]
        exact wk_
      clear hs
      rintro gk ⟨i, a4, c4⟩ w4 ⟨rfl, hi, hany, hs⟩
      simp only at hi hany hs ⊢
      refine go ?_
      refine C.cond_dec (p := (i : Int) < n) rfl (fun hlt => ?_) (fun hlt => ?_)
      rotate_left
      · have hin : i = n := by omega
        refine go ?_
        have ht2 : ls.take i = ls := List.take_of_length_le (by omega)
        rw [ht2] at hs hany ⊢
        exact A.mt (a4, c4) ⟨hany, hs⟩
      · have hin : i < n := by omega
        obtain ⟨xs, hpx, a5, c5, hxi, hp5⟩ := hl3.get hin
        have hil : i < ls.length := by omega
        have htk : ls.take (i + 1) = ls.take i ++ [ls[i]] := List.take_succ_eq_append_getElem hil
        have hmx := sumL_mem (List.getElem_mem hil)
        have hst := sumL_take ls (i + 1)
        have hcl := catB_len (ls.take i) (by have := sumL_take ls i; omega)
        have hst0 := sumL_take ls i
        rw [htk, sumL_snoc] at hst
        refine go ?_
        refine E.ix el_row hs hpx i hxi ?_
        intro b6 o6 hc6
        refine go ?_
        refine C.cond_dec (p := (2097152 : Int) < (ls[i].length : Nat)) rfl (fun hbig => ?_) (fun hbig => ?_)
        · refine go ?_
          refine A.r1 ?_
          have hA : ls.any (fun x => decide (2097152 < x.length)) = true := List.any_eq_true.2 ⟨ls[i], List.getElem_mem hil, by simp; omega⟩
          have key := K.out
          rw [if_pos hA] at key
          exact key _ _ hg3 hs.drop.swap.drop
        · refine go ?_
          refine E.callf Tryz.func93 rfl ?_
          refine wrap_any hs hp5 rfl (by omega) ?_
          intro a7 c7 w7 hs
          have hwl := wrapB_len ls[i] (by omega)
          have hrw : Row 1 w7 (fun _ => True) (.slice a7 (wrapB ls[i]).length c7) (wrapB ls[i]).length (bs (wrapB ls[i])) := Row.of_owns hs.owns (fun _ _ => trivial)
          have hpl : (headB t ++ catB (ls.take i)).length ≤ 39 + sumL (ls.take i) := by rw [List.length_append]; omega
          refine go ?_
          refine E.app el_u8 hs.swap hrw ?_
          intro a8 c8 w8 _ _ hs
          refine go ?_
          have e8 : (headB t ++ catB (ls.take i)).length + (wrapB ls[i]).length = (headB t ++ catB (ls.take (i + 1))).length := by rw [htk, catB_snoc]; simp [Nat.add_assoc]
          have e9 : bs (headB t ++ catB (ls.take i)) ++ bs (wrapB ls[i]) = bs (headB t ++ catB (ls.take (i + 1))) := by rw [← bs_append, htk, catB_snoc, List.append_assoc]
          rw [e8, e9] at hs
          rw [e8]
          refine A.rd (n - (i + 1)) (i + 1, a8, c8) ⟨rfl, by simp only; omega, ?_, hs.swap.drop⟩
          simp only
          rw [htk, List.any_append, hany]
          simp
          omega
    · rintro ⟨a4, c4⟩ w4 ⟨hany, hs⟩
      simp only at hs ⊢
      have key := K.out
      rw [if_neg (by rw [hany]; simp)] at key
      have hcl := catB_len ls (by omega)
      have hpl : (headB t ++ catB ls).length ≤ 39 + sumL ls := by rw [List.length_append]; omega
      obtain ⟨g5, hg5, hp5, hs⟩ := hs.publishOwn
      refine go ?_
      refine E.callf Tryz.func32 rfl ?_
      refine append_any hs hp5 rfl (by omega) ?_
      intro w5 hs
      generalize d1.append (name ++ newB) (headB t ++ catB ls) = r2 at hs key ⊢
      obtain ⟨e2, d2⟩ := r2
      simp only at hs key ⊢
      refine go ?_
      by_cases h2 : e2 = 0
      rotate_left
      · have hd : (!decide (e2 = 0)) = true := by simp [h2]
        refine C.cond rfl (fun _ => ?_) (fun h => by rw [hd] at h; cases h)
        refine go ?_
        refine A.r1 ?_
        rw [if_pos h2] at key
        exact key _ _ (hg3.trans hg5) hs.swap.drop
      rw [if_neg (by omega)] at key
      subst h2
      refine go ?_
      refine E.callf Tryz.func108 rfl ?_
      refine sync_any hs ?_
      intro w6 hs
      generalize d2.sync (name ++ newB) = r3 at hs key ⊢
      obtain ⟨e3, d3⟩ := r3
      simp only at hs key ⊢
      refine go ?_
      by_cases h3 : e3 = 0
      rotate_left
      · have hd : (!decide (e3 = 0)) = true := by simp [h3]
        refine C.cond rfl (fun _ => ?_) (fun h => by rw [hd] at h; cases h)
        refine go ?_
        refine A.r1 ?_
        rw [if_pos h3] at key
        exact key _ _ (hg3.trans hg5) hs.swap.drop
      rw [if_neg (by omega)] at key
      subst h3
      refine go ?_
      refine E.callf Tryz.func31 rfl ?_
      refine move_any hs ?_
      intro w7 hs
      refine go ?_
      refine A.r1 ?_
      exact key _ _ (hg3.trans hg5) hs.swap.drop
end Go.Proofs.YtdkbpcibmipelaaGreatDoor

/-
  Layer 8 (segment): Open.
-/
namespace Go.Proofs.YtdkbpcibmipelaaGreatDoor
open Go.RowKit
set_option linter.unusedVariables false
set_option linter.unusedSimpArgs false

def Ev.raw (e : Ev) : Ep := ⟨e.wr.toNat, e.sq, e.tm, e.kd, e.key, e.text, e.num, e.nd.toNat⟩
theorem Ep.raw_ev (p : Ep) (tv : Value) : (p.ev tv).raw = p := rfl
/-- The events of a file's records, as far as each is the next one; how long they are, and whether something is cut off. -/
def opE (wr first : Nat) (acc : List Ep) (sz : Nat) : List (List UInt8) → List Ep × Nat × Bool
  | [] => (acc, sz, false)
  | p :: r => match decE p with
    | .error _ => (acc, sz, true)
    | .ok e => if e.wr = wr ∧ e.sq = (first + acc.length) % 18446744073709551616 then opE wr first (acc ++ [e]) (sz + recN p.length) r else (acc, sz, true)
/-- How 'Open' goes. -/
def Dk.opn (d : Dk) (wr first : Nat) : Except Int (List Ep × Nat × Int) × Dk :=
  match (d.mend (nameB wr first)).1 with
  | .error e => (.error e, (d.mend (nameB wr first)).2)
  | .ok s => if s.t.kind = 115 ∧ s.t.a = wr ∧ s.t.b = first then
      (if (opE wr first [] (headB ⟨115, wr, first⟩).length s.l).2.2 = true then
        (.ok ((opE wr first [] (headB ⟨115, wr, first⟩).length s.l).1, (opE wr first [] (headB ⟨115, wr, first⟩).length s.l).2.1, ((d.mend (nameB wr first)).2.cut (nameB wr first) (opE wr first [] (headB ⟨115, wr, first⟩).length s.l).2.1).1), ((d.mend (nameB wr first)).2.cut (nameB wr first) (opE wr first [] (headB ⟨115, wr, first⟩).length s.l).2.1).2)
      else (.ok ((opE wr first [] (headB ⟨115, wr, first⟩).length s.l).1, (opE wr first [] (headB ⟨115, wr, first⟩).length s.l).2.1, 0), (d.mend (nameB wr first)).2))
    else (.error 4, (d.mend (nameB wr first)).2)

set_option maxHeartbeats 1600000 in
theorem run_title_neq (k k' a a' b b' : Int) (w : World) : (Go.binOp .neq 41 (.agg #[.int .u8 k, .int .u64 a, .int .u64 b]) (.agg #[.int .u8 k', .int .u64 a', .int .u64 b'])).run Tryz.prog w = .ok (.bool (!decide (k = k' ∧ a = a' ∧ b = b'))) w := by
  rw [run_neq_struct, show (10000 : Nat) = 9999 + 1 from rfl, run_equalIn_agg _ _ _ _ _ (by kernel_rfl) (by kernel_rfl), show (Program.fieldsOf Tryz.prog 41).toList = [⟨"Kind", 5, 0, false, "", "", 0⟩, ⟨"A", 22, 1, false, "", "", 8⟩, ⟨"B", 22, 2, false, "", "", 16⟩] by kernel_rfl]
  simp [Op.eqFields, part, go_sem]
  by_cases h1 : k = k' <;> by_cases h2 : a = a' <;> by_cases h3 : b = b' <;> simp [h1, h2, h3]
set_option maxHeartbeats 6400000 in
set_option maxRecDepth 100000 in
theorem sgOpen_any {R : Ending → World → Prop} {W w : World} {g : Hl} {H : List HP} {b : Nat} {d : Dk} {i n : Nat} (hg : Gl g) (hi : i < 64) (hn : n < 18446744073709551616)
    (hfew : ∀ s, (d.mend (nameB i n)).1 = .ok s → (∀ p ∈ s.l, p.length ≤ 2097152) ∧ s.l.length ≤ 1000000000) (hs : Sat W w g (disk b d :: H))
    (hE : ∀ e w' g', Hl.le g g' → (d.opn i n).1 = .error e → e ≠ 0 → Sat W w' g' (disk b (d.opn i n).2 :: H) → R (.returned (.tuple #[noSg, .int .i64 e])) w')
    (hOK : ∀ x sz er w' g', Hl.le g g' → (d.opn i n).1 = .ok (x.es.map Ev.raw, sz, er) → El.ok x g' → (∀ e ∈ x.es, e.right = 0) → Sat W w' g' (disk b (d.opn i n).2 :: H) → R (.returned (.tuple #[Sg.val ⟨i, n, x, sz⟩, .int .i64 er])) w') :
    Calls Tryz.prog 20 #[ptr b, str (nameB i n)] w R := by
  have HE := Lib.hid hE
  have HOK := Lib.hid hOK
  clear hE hOK
  have ag1 := ag_sg
  have ag2 := ag_ev
  have ag3 := ag_title
  have ag4 := ag_sheet
  have hto : Ti.ok ⟨115, i, n⟩ := ⟨by simp only; omega, hn⟩
  refine C.calls (args := [ptr b, str (nameB i n)]) Tryz.func20 rfl rfl rfl ?_
  refine go ?_
  refine E.al hs ?_
  intro b4 w1 hs
  refine go ?_
  refine E.callf Tryz.func89 rfl ?_
  refine split_any hg (by omega) hn hs ?_
  intro w2 g2 hg2 hs
  refine go ?_
  refine E.callf Tryz.func90 rfl ?_
  refine mend_any hs.swap ?_ ?_
  rotate_left
  · intro e w3 g3 hme hne hg3 hs
    refine go ?_
    refine E.al hs ?_
    intro b9 w4 hs
    refine go ?_
    refine E.sto hs ?_
    intro w5 hs
    refine go ?_
    have hd : (!decide (e = 0)) = true := by simp [hne]
    refine C.cond rfl (fun _ => ?_) (fun h => by rw [hd] at h; cases h)
    clear hd
    refine go ?_
    refine E.sto hs ?_
    intro w6 hs
    refine go ?_
    refine A.c1t1 rfl rfl rfl (run_lda hs.pull2 ag_sg) ?_
    have key := HE.out e w6 g3 (hg2.trans hg3)
    simp only [Dk.opn, hme] at key
    exact key trivial hne hs.drop.swap.drop
  intro s a3 c3 w3 g3 hme hst hse hgood hg3 hlb hs
  obtain ⟨hf1, hf2⟩ := hfew _ hme
  obtain ⟨⟨kd, ta, tb⟩, ls, good, se⟩ := s
  simp only at hse hgood hf1 hf2 hlb
  simp only [Sh.cs]
  obtain rfl : se = 0 := hse
  refine go ?_
  refine E.al hs ?_
  intro b9 w4 hs
  refine go ?_
  refine E.sto hs ?_
  intro w5 hs
  refine go ?_
  refine E.al hs ?_
  intro b11 w6 hs
  refine go ?_
  refine E.sto hs ?_
  intro w7 hs
  refine go ?_
  refine E.pv (Pv.binOp rfl rfl (fun w => run_eqGuard_agg w _ _ _ _ _ _ (by kernel_rfl)) (fun w => run_title_neq _ _ _ _ _ _ w)) ?_
  refine go ?_
  cases ht : decide ((kd.toNat : Int) = 115 ∧ (ta : Int) = i ∧ (tb : Int) = n) with
  | false =>
    have ht := of_decide_eq_false ht
    refine go ?_
    refine E.sto hs ?_
    intro w8 hs
    refine go ?_
    refine A.c1t1 rfl rfl rfl (run_lda hs.pull3 ag_sg) ?_
    have key := HE.out 4 w8 g3 (hg2.trans hg3)
    have hne : ¬ (kd = 115 ∧ ta = i ∧ tb = n) := by
      rintro ⟨rfl, rfl, rfl⟩
      exact ht ⟨rfl, rfl, rfl⟩
    simp only [Dk.opn, hme, if_neg hne] at key
    exact key trivial (by decide) hs.drop.drop.swap.drop
  | true =>
  have ht := of_decide_eq_true ht
  obtain ⟨ht1, ht2, ht3⟩ := ht
  have htk : kd = 115 := by
    apply UInt8.toNat_inj.1
    have : (115 : UInt8).toNat = 115 := rfl
    omega
  obtain rfl : ta = i := by omega
  obtain rfl : tb = n := by omega
  subst htk
  clear ht1 ht2 ht3
  have hop : d.opn ta tb = (if (opE ta tb [] (headB ⟨115, ta, tb⟩).length ls).2.2 = true then
        (.ok ((opE ta tb [] (headB ⟨115, ta, tb⟩).length ls).1, (opE ta tb [] (headB ⟨115, ta, tb⟩).length ls).2.1, ((d.mend (nameB ta tb)).2.cut (nameB ta tb) (opE ta tb [] (headB ⟨115, ta, tb⟩).length ls).2.1).1), ((d.mend (nameB ta tb)).2.cut (nameB ta tb) (opE ta tb [] (headB ⟨115, ta, tb⟩).length ls).2.1).2)
      else (.ok ((opE ta tb [] (headB ⟨115, ta, tb⟩).length ls).1, (opE ta tb [] (headB ⟨115, ta, tb⟩).length ls).2.1, 0), (d.mend (nameB ta tb)).2)) := by
    simp only [Dk.opn, hme]
    exact if_pos ⟨trivial, trivial, trivial⟩
  clear HE hst hme hfew ht
  have hhl := headB_len hto
  generalize hd1 : (d.mend (nameB ta tb)).2 = d1 at hs hop
  clear hd1
  generalize (d.opn ta tb) = res at hop HOK
  have hop := Lib.hid hop
  refine go ?_
  refine E.callf Tryz.func21 rfl ?_
  refine head_any (t := ⟨115, ta, tb⟩) hs hto ?_
  intro ah ch w8 g8 hg8 hs
  replace hs := hs.drop
  refine go ?_
  refine E.al hs ?_
  intro b12 w9 hs
  refine go ?_
  refine E.sto hs ?_
  intro w10 hs
  refine gob ?_
  have hs0 : Sat W w10 g8 (own 46 8 (.slice none 0 0) 0 [] :: blk b12 [.int .i64 ta, .int .u64 tb, .slice none 0 0, .int .i64 (headB ⟨115, ta, tb⟩).length] 29 :: blk b11 [.int .u8 115, .int .u64 ta, .int .u64 tb] 41 :: blk b9 [.int .u8 (115 : UInt8).toNat, .int .u64 ta, .int .u64 tb, .slice a3 ls.length c3, .int .i64 good, .int .i64 0] 151 :: disk b d1 :: blk b4 [.int .i64 0, .int .u64 0, .slice none 0 0, .int .i64 0] 29 :: H) := hs.mknothing.conv fun h e => ⟨by simp, .inl ⟨rfl, rfl, e⟩⟩
  clear hs
  refine C.cut (fun _ : Unit => [(4, ptr b4), (12, ptr b12)]) (fun _ w => ∃ j, j = ls.length ∧ ∃ (a : Option Addr) (c : Nat) (es : List Ev) (sz : Nat) (g' : Hl), Hl.le g8 g' ∧ (∀ e ∈ es, e.ok g' ∧ e.low ∧ e.right = 0) ∧ es.length ≤ j ∧ sz ≤ 39 + j * 2097166 ∧ opE ta tb [] (headB ⟨115, ta, tb⟩).length ls = opE ta tb (es.map Ev.raw) sz (ls.drop j) ∧ Sat W w g' (own 46 8 (.slice a es.length c) es.length (evC es) :: blk b12 [.int .i64 ta, .int .u64 tb, .slice a es.length c, .int .i64 sz] 29 :: blk b11 [.int .u8 115, .int .u64 ta, .int .u64 tb] 41 :: blk b9 [.int .u8 (115 : UInt8).toNat, .int .u64 ta, .int .u64 tb, .slice a3 ls.length c3, .int .i64 good, .int .i64 0] 151 :: disk b d1 :: blk b4 [.int .i64 0, .int .u64 0, .slice none 0 0, .int .i64 0] 29 :: H)) ?_ ?_
  · refine C.block ?_
    refine C.lp (fun j : Nat => [(0, ptr b), (1, str (nameB ta tb)), (4, ptr b4), (6, .int .i64 ta), (12, ptr b12), (52, .slice a3 ls.length c3), (53, .int .i64 ls.length), (54, .int .i64 j)])
      (fun gk j w => gk = ls.length - j ∧ j ≤ ls.length ∧ ∃ (a : Option Addr) (c : Nat) (es : List Ev) (sz : Nat) (g' : Hl), Hl.le g8 g' ∧ (∀ e ∈ es, e.ok g' ∧ e.low ∧ e.right = 0) ∧ es.length ≤ j ∧ sz ≤ 39 + j * 2097166 ∧ opE ta tb [] (headB ⟨115, ta, tb⟩).length ls = opE ta tb (es.map Ev.raw) sz (ls.drop j) ∧ Sat W w g' (own 46 8 (.slice a es.length c) es.length (evC es) :: blk b12 [.int .i64 ta, .int .u64 tb, .slice a es.length c, .int .i64 sz] 29 :: blk b11 [.int .u8 115, .int .u64 ta, .int .u64 tb] 41 :: blk b9 [.int .u8 (115 : UInt8).toNat, .int .u64 ta, .int .u64 tb, .slice a3 ls.length c3, .int .i64 good, .int .i64 0] 151 :: disk b d1 :: blk b4 [.int .i64 0, .int .u64 0, .slice none 0 0, .int .i64 0] 29 :: H)) ls.length 0 ⟨rfl, Nat.zero_le _, none, 0, [], (headB ⟨115, ta, tb⟩).length, g8, Hl.le_refl _, (fun e he => by cases he), Nat.zero_le _, by omega, rfl, hs0⟩ ?_
    clear hs0
    rintro gk j w11 ⟨rfl, hj, a, c, es, sz, g11, hg11, hes, hel, hsz, hop2, hs⟩
    have Hop2 := Lib.hid hop2
    clear hop2
    refine go ?_
    refine C.cond_dec (p := (j : Int) < ls.length) rfl (fun h => ?_) (fun h => ?_)
    rotate_left
    · obtain rfl : j = ls.length := by omega
      refine go ?_
      exact A.mt () ⟨_, rfl, a, c, es, sz, g11, hg11, hes, hel, hsz, Hop2.out, hs⟩
    have hjl : j < ls.length := by omega
    obtain ⟨xs, hpx, a5, c5, hxi, hp5⟩ := (hlb.mono (hg8.trans hg11)).get hjl
    have hpl := hf1 ls[j] (List.getElem_mem hjl)
    have hrec : recN ls[j].length ≤ 2097166 := by
      have := layN_ten (n := ls[j].length) (by omega)
      unfold recN; omega
    have hdr : ls.drop j = ls[j] :: ls.drop (j + 1) := List.drop_eq_getElem_cons hjl
    have hcut : ∀ (w' : World) (g' : Hl), Hl.le g11 g' → (opE ta tb (es.map Ev.raw) sz (ls.drop j) = (es.map Ev.raw, sz, true)) → Sat W w' g' (own 46 8 (.slice a es.length c) es.length (evC es) :: disk b (d1.cut (nameB ta tb) sz).2 :: H) → R (.returned (.tuple #[Sg.val ⟨ta, tb, ⟨a, c, es⟩, sz⟩, .int .i64 (d1.cut (nameB ta tb) sz).1])) w' := by
      intro w' g' hg' hstop hs
      obtain ⟨g2', hg2', hpr, hs⟩ := hs.publishOwn
      have h1 := hop.out
      rw [Hop2.out, hstop] at h1
      simp only [if_true] at h1
      have hel' : El.ok ⟨a, c, es⟩ g2' := ⟨hpr, fun e he => ⟨(hes e he).1.mono (hg'.trans hg2'), (hes e he).2.1⟩⟩
      have h2 := HOK.out ⟨a, c, es⟩ sz (d1.cut (nameB ta tb) sz).1 w' g2' (hg2.trans (hg3.trans (hg8.trans (hg11.trans (hg'.trans hg2')))))
      rw [h1] at h2
      exact h2 rfl hel' (fun e he => (hes e he).2.2) hs
    have hcut := Lib.hid hcut
    refine go ?_
    refine E.ix el_row hs hpx j hxi ?_
    intro b6 o6 hc6
    refine go ?_
    refine E.callf Tryz.func91 rfl ?_
    refine decode_any hs hp5 rfl (by omega) ?_ ?_
    rotate_left
    · intro e w12 g12 hg12 hde hne hs
      have hstop : opE ta tb (es.map Ev.raw) sz (ls.drop j) = (es.map Ev.raw, sz, true) := by
        rw [hdr]; simp only [opE, hde]
      refine go ?_
      refine E.al hs ?_
      intro b15 w13 hs
      refine go ?_
      refine E.sto hs ?_
      intro w14 hs
      refine go ?_
      refine C.held2 b15 b12 hs ?_
      intro w15 hk hs
      refine goh ?_
      have hd : decide (e = 0) = false := decide_eq_false hne
      rw [hd]
      refine goh ?_
      refine EH.done ?_
      refine go ?_
      refine C.held1 b12 hs ?_
      intro w20 hk hs
      refine goh ?_
      refine EH.one (St.callf Tryz.func27 rfl ?_)
      refine cut_any (b := b) (d := d1) (name := nameB ta tb) (k := (sz : Int)) hs.pull5 ?_
      intro w21 hs
      refine kept1 hs (fun hk => ?_) (Hl.le_refl _)
      refine goh ?_
      refine EH.sto (vs := [.int .i64 ta, .int .u64 tb, .slice a es.length c, .int .i64 sz]) (ys := [.int .i64 ta, .int .u64 tb, .slice a es.length c, .int .i64 sz]) hs ?_ (hv := rfl) (hsp := rfl)
      intro w22 hs
      refine kept1 hs (fun hk => ?_) (Hl.le_refl _)
      refine goh ?_
      refine EH.done ?_
      refine go ?_
      refine A.c1t1 rfl rfl rfl (run_lda hs.pull5 ag_sg) ?_
      exact hcut w22 g12 hg12 hstop hs.swap.drop.swap.pull2.drop.pull2.drop.pull2.drop.pull2.drop
    intro q tv w12 g12 hg12 hde hqo hs
    refine go ?_
    refine E.al hs ?_
    intro b15 w13 hs
    refine go ?_
    refine E.sto (vs := (q.ev tv).cs) (ys := (q.ev tv).cs) hs ?_ (hv := rfl) (hsp := rfl) (h1 := Ev.cs_one hqo)
    intro w14 hs
    refine go ?_
    refine C.held2 b15 b12 hs ?_
    intro w15 hk hs
    refine goh ?_
    cases hc : decide ((q.ev tv).wr = (ta : Int)) with
    | false =>
      have hc := of_decide_eq_false hc
      have hstop : opE ta tb (es.map Ev.raw) sz (ls.drop j) = (es.map Ev.raw, sz, true) := by
        rw [hdr]; simp only [opE, hde]
        exact if_neg (fun h => hc (by simp only [Ep.ev, h.1]))
      refine goh ?_
      refine EH.done ?_
      refine go ?_
      refine C.held1 b12 hs ?_
      intro w20 hk hs
      refine goh ?_
      refine EH.one (St.callf Tryz.func27 rfl ?_)
      refine cut_any (b := b) (d := d1) (name := nameB ta tb) (k := (sz : Int)) hs.pull5 ?_
      intro w21 hs
      refine kept1 hs (fun hk => ?_) (Hl.le_refl _)
      refine goh ?_
      refine EH.sto (vs := [.int .i64 ta, .int .u64 tb, .slice a es.length c, .int .i64 sz]) (ys := [.int .i64 ta, .int .u64 tb, .slice a es.length c, .int .i64 sz]) hs ?_ (hv := rfl) (hsp := rfl)
      intro w22 hs
      refine kept1 hs (fun hk => ?_) (Hl.le_refl _)
      refine goh ?_
      refine EH.done ?_
      refine go ?_
      refine A.c1t1 rfl rfl rfl (run_lda hs.pull5 ag_sg) ?_
      exact hcut w22 g12 hg12 hstop hs.swap.drop.swap.pull2.drop.pull2.drop.pull2.drop.pull2.drop
    | true =>
    have hc := of_decide_eq_true hc
    have hcw : q.wr = ta := by
      simp only [Ep.ev] at hc
      omega
    clear hc
    refine goh ?_
    refine EH.one (St.guard rfl rfl (St.callf Tryz.func26 rfl ?_))
    refine sgNext_any (s := ⟨ta, tb, ⟨a, c, es⟩, sz⟩) hn (by simp only; omega) hs ?_
    intro w16 hs
    refine kept2 hs (fun hk => ?_) (Hl.le_refl _)
    refine goh ?_
    refine EH.done ?_
    refine go ?_
    cases hq : decide (((q.ev tv).sq : Int) = (Sg.next ⟨ta, tb, ⟨a, c, es⟩, sz⟩ : Nat)) with
    | false =>
      have hq := of_decide_eq_false hq
      have hstop : opE ta tb (es.map Ev.raw) sz (ls.drop j) = (es.map Ev.raw, sz, true) := by
        rw [hdr]; simp only [opE, hde]
        exact if_neg (fun h => hq (by simp only [Ep.ev, h.2, Sg.next, List.length_map]))
      refine go ?_
      refine C.held1 b12 hs ?_
      intro w20 hk hs
      refine goh ?_
      refine EH.one (St.callf Tryz.func27 rfl ?_)
      refine cut_any (b := b) (d := d1) (name := nameB ta tb) (k := (sz : Int)) hs.pull5 ?_
      intro w21 hs
      refine kept1 hs (fun hk => ?_) (Hl.le_refl _)
      refine goh ?_
      refine EH.sto (vs := [.int .i64 ta, .int .u64 tb, .slice a es.length c, .int .i64 sz]) (ys := [.int .i64 ta, .int .u64 tb, .slice a es.length c, .int .i64 sz]) hs ?_ (hv := rfl) (hsp := rfl)
      intro w22 hs
      refine kept1 hs (fun hk => ?_) (Hl.le_refl _)
      refine goh ?_
      refine EH.done ?_
      refine go ?_
      refine A.c1t1 rfl rfl rfl (run_lda hs.pull5 ag_sg) ?_
      exact hcut w22 g12 hg12 hstop hs.swap.drop.swap.pull2.drop.pull2.drop.pull2.drop.pull2.drop
    | true =>
    have hq := of_decide_eq_true hq
    have hqs : q.sq = (tb + (es.map Ev.raw).length) % 18446744073709551616 := by
      simp only [Ep.ev, Sg.next] at hq
      rw [List.length_map]
      omega
    clear hq
    refine go ?_
    refine C.heldN hs ?_
    intro w17 hs
    have rz : ∀ w, (Keeps g12 [(b15, (q.ev tv).cs, 46), (b12, [.int .i64 ta, .int .u64 tb, .slice a es.length c, .int .i64 sz], 29)]) w → szAt b12 sz w := fun w hw => Rd.blk (.there .here) rfl w hw
    have hk : (Keeps g12 [(b15, (q.ev tv).cs, 46), (b12, [.int .i64 ta, .int .u64 tb, .slice a es.length c, .int .i64 sz], 29)]) w17 := Keeps.of2 hs (Hl.le_refl _)
    have hz := rz _ hk
    have hrd : Rd (szAt b12 sz) b12 3 (.int .i64 sz) := fun w h => h
    refine EH.tail 16384 16384 16383 14 1 (szAt b12 sz) (fun _ _ => trivial) ?_
    refine EH.tp 5 hz ?_
    refine EH.tp 6 hz ?_
    refine EH.tp 7 hz ?_
    refine EH.tp 8 hz ?_
    refine EH.tail 15872 32736 16895 5 5 (Keeps g12 [(b15, (q.ev tv).cs, 46), (b12, [.int .i64 ta, .int .u64 tb, .slice a es.length c, .int .i64 sz], 29)]) rz ?_
    refine goh ?_
    refine EH.bsle el_ev hs (cs := (q.ev tv).cs) rfl ?_
    intro b18 w18 hs
    refine kept2 hs (fun hk => ?_) (Hl.le_refl _)
    refine goh ?_
    refine EH.app el_ev hs.pull2 (hs.rowOf (size := 8) 1 rfl (by decide)) ?_ (h1 := fun u hu => List.all_eq_true.1 (Ev.cs_one hqo) u hu)
    intro a17 c17 w19 _ _ hs
    refine kept2 hs (fun hk => ?_) (Hl.le_refl _)
    refine goh ?_
    refine EH.done ?_
    refine A.mid ?_
    have hz : szAt b12 sz w19 := Rd.blk (g := g12) (.here) rfl w19 (Keeps.of1 hs (Hl.le_refl _) (b1 := b12) (x1 := [.int .i64 ta, .int .u64 tb, .slice a es.length c, .int .i64 sz]))
    refine EH.tp 11 hz ?_
    refine EH.one (St.callf Tryz.func92 rfl ?_)
    refine checkSize_any (n := ls[j].length) (by omega) ?_
    refine ⟨hz, ?_⟩
    refine EH.tp 10 hz ?_
    refine EH.sto (vs := [.slice a17 (es.length + 1) c17]) (ys := [.int .i64 ta, .int .u64 tb, .slice a17 (es.length + 1) c17, .int .i64 sz]) hs ?_ (hv := rfl) (hsp := rfl)
    intro w20 hs
    have hz : szAt b12 sz w20 := Rd.blk (g := g12) (.here) rfl w20 (Keeps.of1 hs (Hl.le_refl _) (b1 := b12) (x1 := [.int .i64 ta, .int .u64 tb, .slice a17 (es.length + 1) c17, .int .i64 sz]))
    refine ⟨hz, ?_⟩
    refine EH.tp 13 hz ?_
    refine EH.done ?_
    refine A.mid ?_
    refine EH.sto (vs := [.int .i64 (sz + recN ls[j].length : Nat)]) (ys := [.int .i64 ta, .int .u64 tb, .slice a17 (es.length + 1) c17, .int .i64 (sz + recN ls[j].length : Nat)]) hs ?_ (hv := rfl) (hsp := rfl)
    intro w21 hs
    refine ⟨trivial, ?_⟩
    refine EH.done ?_
    refine go ?_
    have hqr : (q.ev tv).right = 0 := by
      simp only [decE] at hde
      split at hde
      · cases hde
      · split at hde
        · rename_i h0
          cases hde
          rw [Ep.right_ev]; exact h0
        · cases hde
    have hlow : (q.ev tv).low := by
      obtain ⟨h1, h2, _⟩ := right_zero hqr
      exact ⟨h1, h2⟩
    refine A.rd (ls.length - (j + 1)) (j + 1) ⟨rfl, by omega, a17, c17, es ++ [q.ev tv], sz + recN ls[j].length, g12, hg11.trans hg12, ?_, ?_, ?_, ?_, ?_⟩
    · intro e he
      rcases List.mem_append.1 he with h | h
      · exact ⟨(hes e h).1.mono hg12, (hes e h).2⟩
      · rw [List.mem_singleton.1 h]
        exact ⟨hqo, hlow, hqr⟩
    · simp only [List.length_append, List.length_singleton]; omega
    · omega
    · rw [Hop2.out, hdr]
      simp only [opE, hde]
      rw [if_pos ⟨hcw, hqs⟩, List.map_append]
      rfl
    · simp only [List.length_append, List.length_singleton, evC_append]
      have e1 : evC [q.ev tv] = (q.ev tv).cs := by simp [evC]
      rw [e1]
      exact hs.swap.drop.swap.drop
  clear hs0
  rintro _ w30 ⟨j, rfl, a, c, es, sz, g11, hg11, hes, hel, hsz, hop2, hs⟩
  rw [List.drop_length] at hop2
  have h1 := hop.out
  simp only [hop2, opE, Bool.false_eq_true, if_false] at h1
  clear hop2 hop
  subst h1
  have HOK := Lib.hid HOK.out
  refine go ?_
  refine E.sto hs ?_
  intro w31 hs
  refine go ?_
  obtain ⟨g2', hg2', hpr, hs⟩ := hs.publishOwn
  refine A.c1t1 rfl rfl rfl (run_lda hs.pull4 ag_sg) ?_
  exact HOK.out ⟨a, c, es⟩ sz 0 w31 g2' (hg2.trans (hg3.trans (hg8.trans (hg11.trans hg2')))) rfl ⟨hpr, fun e he => ⟨(hes e he).1.mono hg2', (hes e he).2.1⟩⟩ (fun e he => (hes e he).2.2) hs.drop.drop.drop.swap.drop
end Go.Proofs.YtdkbpcibmipelaaGreatDoor

/-
  The law of layer 8: its events.
-/
namespace Go.Proofs.YtdkbpcibmipelaaGreatDoor
open Go.RowKit
set_option linter.unusedVariables false
set_option linter.unusedSimpArgs false

theorem zeros8 (k : Nat) : (madeCells (Value.int .u8 0).cells (k * 1)).toList = bs (List.replicate k 0) := by
  have h : ∀ k, (madeCells #[Value.int .u8 0] k).toList = bs (List.replicate k 0) := by
    intro k
    apply List.ext_getElem?
    intro j
    by_cases hj : j < k
    · simp [madeCells, bs, hj, Nat.mod_one]
    · simp [madeCells, bs, hj]
  rw [Nat.mul_one]
  exact h k
theorem t0_ok : (⟨0, 0, 0⟩ : Ti).ok := ⟨by decide, by decide⟩
def evP (K T w sq tm : Nat) (tv : Value) : Ev := ⟨w, sq, tm, 1 + K % 4, [UInt8.ofNat (97 + T % 3)], if 1 + K % 4 = 1 then List.replicate (T % 30) 0 else [], 0, 0, tv⟩

set_option maxHeartbeats 1600000 in
set_option maxRecDepth 100000 in
theorem awake8_any {R : Ending → World → Prop} {W w : World} {g : Hl} {H : List HP} (hg : Gl g) (hs : Sat W w g H) (hR : ∀ w', Sat W w' g H → R (.returned (.bool true)) w') : Calls Tryz.prog 15 #[] w R := by
  have HR := Lib.hid hR
  clear hR
  refine C.calls (args := []) Tryz.func15 rfl rfl rfl ?_
  refine go ?_
  refine E.callf Tryz.func18 rfl ?_
  refine segName_any (i := 3) (n := 255) hg (by decide) (by decide) hs ?_
  intro w1 hs
  have h1 : hexN 255 = [102, 102] := by
    rw [hexN, if_neg (by decide), hexN, if_pos (by decide)]; rfl
  have h2 : nameB 3 255 = [102, 101, 101, 100, 45, 51, 45, 48, 48, 48, 48, 48, 48, 48, 48, 48, 48, 48, 48, 48, 48, 102, 102] := by
    simp only [nameB, padB, h1, beginB, decN_small (n := 3) (by decide)]; rfl
  rw [h2, show str [102, 101, 101, 100, 45, 51, 45, 48, 48, 48, 48, 48, 48, 48, 48, 48, 48, 48, 48, 48, 48, 102, 102] = .string ⟨#[102, 101, 101, 100, 45, 51, 45, 48, 48, 48, 48, 48, 48, 48, 48, 48, 48, 48, 48, 48, 48, 102, 102]⟩ from rfl]
  clear h1 h2
  refine go ?_
  refine A.r1 ?_
  exact HR.out _ hs

set_option maxHeartbeats 1600000 in
set_option maxRecDepth 100000 in
theorem event8_any {R : Ending → World → Prop} {W w : World} {g : Hl} {H : List HP} {K T i sq tm : Nat} (hi : i < 64) (hK : K < 256) (hT : T < 256) (hsq : sq < 18446744073709551616) (htm : tm < 18446744073709551616) (hs : Sat W w g H)
    (hR : ∀ tv w' g', Hl.le g g' → (evP K T i sq tm tv).ok g' → Sat W w' g' H → R (.returned (evP K T i sq tm tv).val) w') : Calls Tryz.prog 24 #[.agg #[.int .u8 K, .int .u8 T], .int .i64 i, .int .u64 sq, .int .u64 tm] w R := by
  have HR := Lib.hid hR
  clear hR
  have ag1 := ag_ev
  refine C.calls (args := [(.agg #[.int .u8 K, .int .u8 T]), .int .i64 i, .int .u64 sq, .int .u64 tm]) Tryz.func24 rfl rfl rfl ?_
  refine go ?_
  refine E.bx hs ?_
  intro b4 w1 hs
  refine go ?_
  refine E.al hs ?_
  intro b8 w2 hs
  refine go ?_
  refine E.bsl hs ?_
  intro b9 w3 hs
  have hch : ((97 + T % 3 : Nat) : Int) = ((UInt8.ofNat (97 + T % 3)).toNat : Int) := by
    have : (UInt8.ofNat (97 + T % 3)).toNat = 97 + T % 3 := by
      rw [UInt8.toNat_ofNat']; omega
    rw [this]
  refine E.strc (bl := [UInt8.ofNat (97 + T % 3)]) (by
    have := hs.rowOf (size := 1) 1 rfl (by decide)
    simp only [bs, List.map_cons, List.map_nil]
    rw [← hch]
    exact this) Tryz.underlying33 Tryz.underlying5 Tryz.underlying9 ?_
  clear hch
  generalize hc : UInt8.ofNat (97 + T % 3) = ch
  have hc := Lib.hid hc
  refine go ?_
  refine E.al hs ?_
  intro b10 w4 hs
  refine go ?_
  refine E.sto hs ?_
  intro w5 hs
  refine go ?_
  refine C.cond_dec (p := (1 : Int) + K % 4 = 1) rfl (fun h => ?_) (fun h => ?_)
  · have hK0 : 1 + K % 4 = 1 := by omega
    refine go ?_
    refine E.mk (k2 := T % 30) el_u8 hs ?_ (hi := (Int.ofNat_tmod T 30).symm) (hj := (Int.ofNat_tmod T 30).symm)
    intro a11 w6 hs
    refine go ?_
    refine E.sto (vs := [.slice a11 (T % 30) (T % 30)]) (ys := [.int .i64 i, .int .u64 sq, .int .u64 tm, .int .u8 (1 + (K : Int) % 4), .string ⟨#[ch]⟩, .slice a11 (T % 30) (T % 30), .float .f64 0, .int .i64 0]) hs ?_ (hv := rfl) (hsp := rfl)
    intro w7 hs
    refine go ?_
    refine E.sto (vs := [.int .i64 i, .int .u64 sq, .int .u64 tm, .int .u8 (1 + (K : Int) % 4), .string ⟨#[ch]⟩, .slice a11 (T % 30) (T % 30), .float .f64 0, .int .i64 0]) (ys := [.int .i64 i, .int .u64 sq, .int .u64 tm, .int .u8 (1 + (K : Int) % 4), .string ⟨#[ch]⟩, .slice a11 (T % 30) (T % 30), .float .f64 0, .int .i64 0]) hs ?_ (hv := rfl) (hsp := rfl)
    intro w8 hs
    refine go ?_
    obtain ⟨g9, hg9, hp9, hs⟩ := hs.publishOwn
    refine A.c1 rfl rfl (run_lda hs.pull2 ag_ev) ?_
    have key := HR.out (.slice a11 (T % 30) (T % 30)) w8 g9 hg9
    have hc := hc.out
    subst hc
    simp only [evP, if_pos hK0] at key
    exact key ⟨by simp only; omega, hsq, htm, by simp only; omega, by simp only; omega, by simp only; omega, by simp, by simp; omega, by
      simp only [List.length_replicate]
      rw [zeros8] at hp9
      exact hp9⟩ hs.drop.drop.drop.drop
  · have hK0 : ¬ 1 + K % 4 = 1 := by omega
    refine go ?_
    refine E.sto hs ?_
    intro w7 hs
    refine go ?_
    refine A.c1 rfl rfl (run_lda hs.swap ag_ev) ?_
    have key := HR.out (.slice none 0 0) w7 g (Hl.le_refl _)
    have hc := hc.out
    subst hc
    simp only [evP, if_neg hK0] at key
    exact key ⟨by simp only; omega, hsq, htm, by simp only; omega, by simp only; omega, by simp only; omega, by simp, by simp, Pr.nil⟩ hs.drop.drop.drop.drop
end Go.Proofs.YtdkbpcibmipelaaGreatDoor

/-
  Layers 3 and 5, in plain lists: records that are laid are read again; a disk that doesn't stop.
-/
namespace Go.Proofs.YtdkbpcibmipelaaGreatDoor

theorem fourB_len (n : Nat) : (fourB n).length = 4 := rfl
theorem openB_wrap (t r : List UInt8) (most : Nat) (h : t.length ≤ most) (hm : most ≤ 1000000000) : openB (wrapB t ++ r) most = .ok ((layN t.length).length, t.length) := by
  have h1 : wrapB t ++ r = layN t.length ++ (t ++ (fourB (crc (textB t)) ++ r)) := by simp [wrapB, textB]
  have h2 := takeGo_layN t.length (by omega) (t ++ (fourB (crc (textB t)) ++ r))
  have h3 : (wrapB t ++ r).take ((layN t.length).length + t.length) = textB t := by
    rw [wrapB, List.append_assoc, List.take_append_of_le_length (by simp [textB]), List.take_of_length_le (by simp [textB])]
  have h4 : (wrapB t ++ r).drop ((layN t.length).length + t.length) = fourB (crc (textB t)) ++ r := by
    rw [wrapB, List.append_assoc, List.drop_append_of_le_length (by simp [textB]), List.drop_eq_nil_of_le (by simp [textB])]; rfl
  have h5 : (wrapB t ++ r).length = (layN t.length).length + t.length + (4 + r.length) := by
    rw [h1]; simp [fourB_len]; omega
  unfold openB
  have h2' : takeGo 0 0 (wrapB t ++ r) = (t.length, (layN t.length).length, 0) := by rw [h1]; exact h2
  rw [h2']
  simp only [ne_eq, not_true_eq_false, if_false, h3, h4, h5]
  rw [if_neg (by omega), if_neg (by omega), if_neg (by omega), if_pos (by rw [List.take_append_of_le_length (by simp [fourB_len]), List.take_of_length_le (by simp [fourB_len])])]
theorem wrapB_length (t : List UInt8) : (wrapB t).length = (layN t.length).length + t.length + 4 := by
  simp [wrapB, textB, fourB_len, Nat.add_assoc]
theorem wrap_take (t r : List UInt8) : ((wrapB t ++ r).drop (layN t.length).length).take t.length = t := by
  have h1 : wrapB t ++ r = layN t.length ++ (t ++ (fourB (crc (textB t)) ++ r)) := by simp [wrapB, textB]
  rw [h1, List.drop_append_of_le_length (Nat.le_refl _), List.drop_eq_nil_of_le (Nat.le_refl _), List.nil_append, List.take_append_of_le_length (Nat.le_refl _), List.take_of_length_le (Nat.le_refl _)]
theorem wrap_drop (t r : List UInt8) : (wrapB t ++ r).drop ((layN t.length).length + t.length + 4) = r := by
  rw [← wrapB_length, List.drop_append_of_le_length (Nat.le_refl _), List.drop_eq_nil_of_le (Nat.le_refl _), List.nil_append]

/-- Records, and then any bytes. -/
theorem allC_cat (r : List UInt8) : ∀ (ls : List (List UInt8)), (∀ x ∈ ls, x.length ≤ 2097152) → allC (catB ls ++ r) = (ls ++ (allC r).1, (catB ls).length + (allC r).2.1, (allC r).2.2)
  | [], _ => by simp [catB]
  | x :: ls, h => by
    have hx := h x (by simp)
    have e : catB (x :: ls) ++ r = wrapB x ++ (catB ls ++ r) := by simp [catB]
    have ih := allC_cat r ls fun y hy => h y (by simp [hy])
    have hne : wrapB x ++ (catB ls ++ r) ≠ [] := by
      have : 0 < (wrapB x ++ (catB ls ++ r)).length := by rw [List.length_append, wrapB_length]; omega
      exact List.length_pos_iff.1 this
    unfold allC at ih ⊢
    rw [e]
    have hlen : (wrapB x ++ (catB ls ++ r)).length = (wrapB x).length + (catB ls ++ r).length := by simp
    rw [allB, if_neg hne, openB_wrap x _ _ hx (by decide)]
    simp only [wrap_take, wrap_drop]
    rw [allB_fuel 2097152 _ ((catB ls ++ r).length + 1) (catB ls ++ r) (by rw [hlen, wrapB_length]; omega) (by omega), ih]
    have e2 : (catB (x :: ls)).length = (wrapB x).length + (catB ls).length := by simp [catB]
    simp only [List.cons_append, Prod.mk.injEq, and_true, true_and, e2, wrapB_length]
    omega
theorem allC_nil : allC [] = ([], 0, 0) := by simp [allC, allB]
theorem scanB_lay (t : Ti) (ht : t.ok) (ls : List (List UInt8)) (hl : ∀ x ∈ ls, x.length ≤ 2097152) (r : List UInt8) :
    scanB (headB t ++ (catB ls ++ r)) = .ok ⟨t, ls ++ (allC r).1, (headB t).length + (catB ls).length + (allC r).2.1, (allC r).2.2⟩ := by
  have h1 := titleB_len ht
  unfold scanB headB
  rw [openB_wrap _ _ _ (by omega) (by decide)]
  simp only [wrap_take, wrap_drop, rdTitle_titleB t ht, allC_cat r ls hl]
  simp only [wrapB_length]
  congr 2
  omega

/-! A disk that doesn't stop. -/
def Dk.calm (d : Dk) : Prop := d.off = false ∧ d.fuse < 0
theorem Dk.calm.act {d : Dk} (h : d.calm) : d.act.1 = 0 ∧ d.act.2.fs = d.fs ∧ d.act.2.room = d.room ∧ d.act.2.calm ∧ d.act.2.torn = d.torn := by
  obtain ⟨h1, h2⟩ := h
  unfold Dk.act
  rw [if_neg (by rw [h1]; simp), if_neg (by omega), if_neg (by omega)]
  exact ⟨rfl, rfl, rfl, ⟨h1, h2⟩, rfl⟩
theorem Dk.calm.append {d : Dk} (h : d.calm) {name p : List UInt8} (hn : namedB name = true) (hr : (tk d.fs : Int) + p.length ≤ d.room) :
    ∃ d', d.append name p = (0, d') ∧ d'.fs = put name p d.fs ∧ d'.room = d.room ∧ d'.calm := by
  obtain ⟨a, b, c, e, _⟩ := h.act
  refine ⟨{ d.act.2 with fs := put name p d.fs }, ?_, rfl, c, e⟩
  unfold Dk.append
  rw [hn, a, if_neg (by simp), if_pos rfl, if_neg (by omega)]
theorem Dk.calm.full {d : Dk} (h : d.calm) {name p : List UInt8} (hn : namedB name = true) (hr : d.room < (tk d.fs : Int) + p.length) :
    ∃ d', d.append name p = (3, d') ∧ d'.fs = d.fs ∧ d'.room = d.room ∧ d'.calm := by
  obtain ⟨a, b, c, e, _⟩ := h.act
  refine ⟨_, ?_, b, c, e⟩
  unfold Dk.append
  rw [hn, a, if_neg (by simp), if_pos rfl, if_pos (by omega)]
theorem Dk.calm.sync {d : Dk} (h : d.calm) {name : List UInt8} {f : Fl} (hf : aget name d.fs = some f) :
    ∃ d', d.sync name = (0, d') ∧ d'.fs = aput name ⟨f.p, f.p.length⟩ d.fs ∧ d'.room = d.room ∧ d'.calm := by
  obtain ⟨a, b, c, e, _⟩ := h.act
  refine ⟨{ d.act.2 with fs := aput name ⟨f.p, f.p.length⟩ d.fs }, ?_, rfl, c, e⟩
  unfold Dk.sync
  rw [a, if_pos rfl, hf]
theorem Dk.calm.remove {d : Dk} (h : d.calm) {name : List UInt8} {f : Fl} (hf : aget name d.fs = some f) :
    ∃ d', d.remove name = (0, d') ∧ d'.fs = adrop name d.fs ∧ d'.room = d.room ∧ d'.calm := by
  obtain ⟨a, b, c, e, _⟩ := h.act
  refine ⟨{ d.act.2 with fs := adrop name d.fs }, ?_, rfl, c, e⟩
  unfold Dk.remove
  rw [a, if_pos rfl, hf]
theorem Dk.calm.remove_none {d : Dk} (h : d.calm) {name : List UInt8} (hf : aget name d.fs = none) :
    ∃ d', d.remove name = (2, d') ∧ d'.fs = d.fs ∧ d'.room = d.room ∧ d'.calm := by
  obtain ⟨a, b, c, e, _⟩ := h.act
  refine ⟨_, ?_, b, c, e⟩
  unfold Dk.remove
  rw [a, if_pos rfl, hf]
theorem Dk.calm.move {d : Dk} (h : d.calm) {src dst : List UInt8} {f : Fl} (hn : namedB dst = true) (hf : aget src d.fs = some f) :
    ∃ d', d.move src dst = (0, d') ∧ d'.fs = aput dst f (adrop src d.fs) ∧ d'.room = d.room ∧ d'.calm := by
  obtain ⟨a, b, c, e, _⟩ := h.act
  refine ⟨{ d.act.2 with fs := aput dst f (adrop src d.fs) }, ?_, rfl, c, e⟩
  unfold Dk.move
  rw [hn, a, if_neg (by simp), if_pos rfl, hf]
theorem Dk.calm.cut {d : Dk} (h : d.calm) {name : List UInt8} {f : Fl} {n : Nat} (hf : aget name d.fs = some f) (hn : n ≤ f.p.length) :
    ∃ d', d.cut name n = (0, d') ∧ d'.fs = aput name ⟨f.p.take n, n⟩ d.fs ∧ d'.room = d.room ∧ d'.calm := by
  obtain ⟨a, b, c, e, _⟩ := h.act
  refine ⟨{ d.act.2 with fs := aput name ⟨f.p.take n, n⟩ d.fs }, ?_, rfl, c, e⟩
  unfold Dk.cut
  rw [a, if_pos rfl, hf]
  simp only
  rw [if_neg (by omega)]
  simp
theorem Dk.calm.read {d : Dk} (h : d.calm) {name : List UInt8} {f : Fl} (hf : aget name d.fs = some f) : d.read name = .ok f.p := by
  unfold Dk.read
  rw [h.1, if_neg (by simp), hf]
theorem Dk.calm.read_none {d : Dk} (h : d.calm) {name : List UInt8} (hf : aget name d.fs = none) : d.read name = .error 2 := by
  unfold Dk.read
  rw [h.1, if_neg (by simp), hf]
end Go.Proofs.YtdkbpcibmipelaaGreatDoor

/-
  The law of layer 8: a segment with events.
-/
namespace Go.Proofs.YtdkbpcibmipelaaGreatDoor
open Go.RowKit
set_option linter.unusedVariables false
set_option linter.unusedSimpArgs false

theorem begin_calm8 {d : Dk} (h : d.calm) {name : List UInt8} {t : Ti} (hn : namedB name = true) (hf : aget name d.fs = none) (hr : (tk d.fs : Int) + (headB t).length ≤ d.room) :
    ∃ d', d.begin name t = (0, d') ∧ d'.fs = d.fs ++ [(name, ⟨headB t, (headB t).length⟩)] ∧ d'.room = d.room ∧ d'.calm := by
  obtain ⟨d1, e1, e2, e3, e4⟩ := h.append hn hr
  have e5 : d1.fs = d.fs ++ [(name, ⟨headB t, 0⟩)] := by
    rw [e2, put, hf, (as_none hf).1]; simp
  have e6 : aget name d1.fs = some ⟨headB t, 0⟩ := by
    rw [e5]; exact aget_last hf
  obtain ⟨d2, g1, g2, g3, g4⟩ := e4.sync e6
  refine ⟨d2, ?_, ?_, g3.trans e3, g4⟩
  · unfold Dk.begin
    rw [h.read_none hf, e1]
    simp only [if_true, g1]
  · rw [g2, e5]
    exact aput_last hf
theorem begin_old {d : Dk} (h : d.calm) {name : List UInt8} {t : Ti} {f : Fl} (hf : aget name d.fs = some f) : d.begin name t = (10, d) := by
  unfold Dk.begin
  rw [h.read hf]
theorem add_calm8 {d : Dk} (h : d.calm) {name p : List UInt8} (hp : p.length ≤ 2097152) (hn : namedB name = true) (hr : (tk d.fs : Int) + (wrapB p).length ≤ d.room) :
    ∃ d', d.add name p = (0, d') ∧ d'.fs = put name (wrapB p) d.fs ∧ d'.room = d.room ∧ d'.calm := by
  obtain ⟨d1, e1, e2, e3, e4⟩ := h.append hn hr
  refine ⟨d1, ?_, e2, e3, e4⟩
  unfold Dk.add
  rw [if_neg (by omega)]
  exact e1
theorem aget_one {name : List UInt8} {f : Fl} : aget name [(name, f)] = some f := by simp [aget]
theorem aput_one {name : List UInt8} {f f' : Fl} : aput name f' [(name, f)] = [(name, f')] := by simp [aput]
theorem put_one {name p : List UInt8} {f : Fl} : put name p [(name, f)] = [(name, ⟨f.p ++ p, f.safe⟩)] := by simp [put, aget, aput]
theorem tk_one8 {name : List UInt8} {f : Fl} : tk [(name, f)] = f.p.length := by simp [tk]


theorem el_put : ElemOf Tryz.prog 23 49 (.agg #[.int .u8 0, .int .u8 0]) 2 2 := .of Tryz.underlying23 (by kernel_rfl) rfl (by decide)
theorem ag_put : AggOf Tryz.prog 49 2 := ⟨_, Tryz.underlying49, rfl, by kernel_rfl⟩
def putC (ps : List (Nat × Nat)) : List Value := ps.flatMap fun p => [.int .u8 p.1, .int .u8 p.2]
/-- The event of a number. -/
def evK (ps : List (Nat × Nat)) (i f k : Nat) : Ev := evP (ps.getD k (0, 0)).1 (ps.getD k (0, 0)).2 i (f + k) (k + 1) (.slice none 0 0)
def evL (ps : List (Nat × Nat)) (i f n : Nat) : List Ev := (List.range n).map (evK ps i f)
theorem evL_succ (ps : List (Nat × Nat)) (i f n : Nat) : evL ps i f (n + 1) = evL ps i f n ++ [evK ps i f n] := by simp [evL, List.range_succ]
theorem evP_enc (K T i sq tm : Nat) (tv tv' : Value) : (evP K T i sq tm tv).enc = (evP K T i sq tm tv').enc := rfl
theorem evP_ep (K T i sq tm : Nat) (tv tv' : Value) : (evP K T i sq tm tv).ep = (evP K T i sq tm tv').ep := rfl
theorem evP_right {K T i sq tm : Nat} {tv : Value} (hi : i < 64) (h1 : 1 ≤ sq) (h2 : sq ≤ 9223372036854775807) (h3 : 1 ≤ tm) (h4 : tm ≤ 9223372036854775807) : (evP K T i sq tm tv).right = 0 := by
  have hl : (evP K T i sq tm tv).text.length ≤ 30 := by
    simp only [evP]; split
    · simp; omega
    · simp
  have hk : (evP K T i sq tm tv).key.length = 1 := rfl
  have hkd : (evP K T i sq tm tv).kd = 1 + K % 4 := rfl
  unfold Ev.right
  rw [hk, hkd, if_neg, if_neg, if_neg]
  · simp only [evP]; omega
  · omega
  · simp only [evP]; omega
theorem putC_at {ps : List (Nat × Nat)} {j : Nat} (h : j < ps.length) : ((putC ps).drop (j * 2)).take 2 = [.int .u8 (ps.getD j (0, 0)).1, .int .u8 (ps.getD j (0, 0)).2] := by
  induction ps generalizing j with
  | nil => simp at h
  | cons p r ih =>
    cases j with
    | zero => rfl
    | succ j =>
      have : (j + 1) * 2 = 2 + j * 2 := by omega
      rw [this]
      simp only [putC, List.flatMap_cons]
      rw [← List.drop_drop]
      exact ih (by simpa using h)
end Go.Proofs.YtdkbpcibmipelaaGreatDoor

/-
  The law of layer 8: fill, walked.
-/
namespace Go.Proofs.YtdkbpcibmipelaaGreatDoor
open Go.RowKit
set_option linter.unusedVariables false
set_option linter.unusedSimpArgs false

/-- The file of the first so many events. -/
def fileP (ps : List (Nat × Nat)) (i f n : Nat) : List UInt8 := headB ⟨115, i, f⟩ ++ catB ((evL ps i f n).map Ev.enc)
theorem fileP_succ (ps : List (Nat × Nat)) (i f n : Nat) : fileP ps i f (n + 1) = fileP ps i f n ++ wrapB (evK ps i f n).enc := by
  simp only [fileP, evL_succ, List.map_append, List.map_cons, List.map_nil, catB_snoc, List.append_assoc]

theorem nameB_named {i f : Nat} (hi : i < 64) (hf : f < 18446744073709551616) : namedB (nameB i f) = true := by
  have h1 := padB_len hf
  have h2 := beginB_len (w := i) (by omega)
  have hh : ∀ d < 16, okB (hexD d) = true := by decide
  have hx : ∀ n, (hexN n).all okB = true := by
    intro n
    induction n using Nat.strongRecOn with
    | _ n ih =>
      by_cases h : n < 16
      · rw [hexN_small h]; simp [hh n h]
      · rw [hexN_step (by omega), List.all_append, ih _ (by omega)]
        simp [hh (n % 16) (by omega)]
  have hd : ∀ k < 64, (decN k).all okB = true := by
    intro k hk
    have h10 : ∀ q < 10, okB (UInt8.ofNat (48 + q)) = true := by decide
    by_cases h : k < 10
    · rw [decN_small h]; simp only [List.all_cons, List.all_nil, Bool.and_true]; exact h10 k h
    · rw [decN_two (by omega) (by omega)]
      simp only [List.all_cons, List.all_nil, Bool.and_true, Bool.and_eq_true]
      exact ⟨h10 _ (by omega), h10 _ (by omega)⟩
  have hr : (List.replicate (16 - (hexN f).length) (48 : UInt8)).all okB = true := by
    rw [List.all_eq_true]
    intro x hx
    obtain ⟨_, rfl⟩ := List.mem_replicate.1 hx
    decide
  unfold namedB
  rw [Bool.and_eq_true, Bool.and_eq_true]
  refine ⟨⟨?_, ?_⟩, ?_⟩
  · simp [nameB, beginB]
  · simp only [nameB, List.length_append, decide_eq_true_eq]; omega
  · simp only [nameB, beginB, padB, List.all_append, hd i hi, hx f, hr, Bool.and_true]
    decide
theorem evK_len {ps : List (Nat × Nat)} {i f k : Nat} (hi : i < 64) (hf : f ≤ 2000000000000000000) (hk : k ≤ 1000) : (evK ps i f k).enc.length ≤ 92 := by
  have hl : (evK ps i f k).text.length ≤ 30 := by
    simp only [evK, evP]; split
    · simp; omega
    · simp
  have h := Ev.enc_len (evK ps i f k) (by simp only [evK, evP]; omega) (by simp only [evK, evP]; omega) (by simp only [evK, evP]; omega) (by simp [evK, evP]) (by omega) (by simp [evK, evP])
  have hk1 : (evK ps i f k).key.length = 1 := rfl
  omega
theorem fileP_len {ps : List (Nat × Nat)} {i f : Nat} (hi : i < 64) (hf : f ≤ 2000000000000000000) : ∀ n, n ≤ 1000 → (fileP ps i f n).length ≤ 39 + n * 106
  | 0, _ => by
    have := headB_len (t := ⟨115, i, f⟩) ⟨by simp only; omega, by simp only; omega⟩
    simpa [fileP, evL, catB] using this
  | n + 1, h => by
    have ih := fileP_len (ps := ps) hi hf n (by omega)
    have h1 := evK_len (ps := ps) hi hf (k := n) (by omega)
    have h2 := wrapB_len (evK ps i f n).enc (by omega)
    rw [fileP_succ, List.length_append]
    omega
/-- A segment that holds the first so many events. -/
structure Full (s : Sg) (d : Dk) (g : Hl) (ps : List (Nat × Nat)) (i f n : Nat) : Prop where
  wr : s.wr = i
  first : s.first = f
  x : s.x.ok g
  es : s.x.es.map Ev.raw = (evL ps i f n).map Ev.ep
  size : s.size = (fileP ps i f n).length
  calm : d.calm
  room : d.room = 65536
  fs : ∃ q, d.fs = [(nameB i f, ⟨fileP ps i f n, q⟩)]
theorem Full.len {s : Sg} {d : Dk} {g : Hl} {ps : List (Nat × Nat)} {i f n : Nat} (h : Full s d g ps i f n) : s.x.es.length = n := by
  have := congrArg List.length h.es
  simpa [evL] using this
theorem Full.mono {s : Sg} {d : Dk} {g g' : Hl} {ps : List (Nat × Nat)} {i f n : Nat} (h : Full s d g ps i f n) (hg : Hl.le g g') : Full s d g' ps i f n := ⟨h.wr, h.first, h.x.mono hg, h.es, h.size, h.calm, h.room, h.fs⟩

set_option maxHeartbeats 6400000 in
set_option maxRecDepth 100000 in
theorem fill8_any {R : Ending → World → Prop} {W w : World} {g : Hl} {H : List HP} {b : Nat} {d : Dk} {i f n c : Nat} {a : Option Addr} {ps : List (Nat × Nat)} (hg : Gl g) (hi : i < 64) (hf0 : 1 ≤ f) (hf : f ≤ 2000000000000000000) (hp : Pr 2 g (.slice a n c) n (putC ps)) (hn : ps.length = n) (hn30 : n ≤ 30) (hps : ∀ p ∈ ps, p.1 < 256 ∧ p.2 < 256)
    (hc : d.calm) (hfs : d.fs = []) (hroom : d.room = 65536) (hs : Sat W w g (disk b d :: H))
    (hR : ∀ s d' w' g', Hl.le g g' → Full s d' g' ps i f n → Sat W w' g' (disk b d' :: H) → R (.returned (.tuple #[s.val, .bool true])) w') :
    Calls Tryz.prog 17 #[ptr b, .int .i64 i, .int .u64 f, .slice a n c] w R := by
  have HR := Lib.hid hR
  clear hR
  have ag1 := ag_sg
  have ag2 := ag_put
  have hto : Ti.ok ⟨115, i, f⟩ := ⟨by simp only; omega, by simp only; omega⟩
  have hhl := headB_len hto
  have hnm : namedB (nameB i f) = true := nameB_named hi (by omega)
  obtain ⟨d1, e1, e2, e3, e4⟩ := begin_calm8 hc (t := ⟨115, i, f⟩) hnm (by rw [hfs]; rfl) (by rw [hfs, hroom]; simp [tk]; omega)
  have e1a : (d.begin (nameB i f) ⟨115, i, f⟩).1 = 0 := by rw [e1]
  have e1b : (d.begin (nameB i f) ⟨115, i, f⟩).2 = d1 := by rw [e1]
  refine C.calls (args := [ptr b, .int .i64 i, .int .u64 f, .slice a n c]) Tryz.func17 rfl rfl rfl ?_
  refine go ?_
  refine E.al hs ?_
  intro b8 w1 hs
  refine go ?_
  refine E.callf Tryz.func83 rfl ?_
  refine sgCreate_any hg hi (by omega) (by omega) hs.swap ?_ ?_
  rotate_left
  · intro w2 g2 hg2 hne _
    exact absurd e1a hne
  intro w2 g2 hg2 _ hs
  rw [e1b] at hs
  have hfull : Full ⟨i, f, ⟨none, 0, []⟩, (headB ⟨115, i, f⟩).length⟩ d1 g2 ps i f 0 := ⟨rfl, rfl, ⟨Pr.nil, fun e he => by cases he⟩, rfl, by simp [fileP, evL, catB], e4, by rw [e3, hroom], (headB ⟨115, i, f⟩).length, by rw [e2, hfs]; simp [fileP, evL, catB]⟩
  clear e1 e2 e3 e4 e1a e1b hc hfs hroom
  generalize hsg : (⟨i, f, ⟨none, 0, []⟩, (headB ⟨115, i, f⟩).length⟩ : Sg) = s0 at hfull
  clear hsg
  refine go ?_
  refine E.al hs ?_
  intro b10 w3 hs
  refine go ?_
  refine E.sto (vs := s0.cs) (ys := s0.cs) hs ?_ (hv := rfl) (hsp := rfl)
  intro w4 hs
  refine gob ?_
  refine C.cut (fun _ : Unit => [(8, ptr b8), (10, ptr b10)]) (fun _ w => ∃ j, j = n ∧ ∃ (s : Sg) (d : Dk) (g' : Hl), Hl.le g2 g' ∧ Full s d g' ps i f j ∧ Sat W w g' (blk b10 s.cs 29 :: disk b d :: blk b8 [.int .i64 0, .int .u64 0, .slice none 0 0, .int .i64 0] 29 :: H)) ?_ ?_
  · refine C.block ?_
    refine C.lp (fun j : Nat => [(0, ptr b), (1, .int .i64 i), (2, .int .u64 f), (3, .slice a n c), (8, ptr b8), (10, ptr b10), (12, .int .i64 j)])
      (fun gk j w => gk = n - j ∧ j ≤ n ∧ ∃ (s : Sg) (d : Dk) (g' : Hl), Hl.le g2 g' ∧ Full s d g' ps i f j ∧ Sat W w g' (blk b10 s.cs 29 :: disk b d :: blk b8 [.int .i64 0, .int .u64 0, .slice none 0 0, .int .i64 0] 29 :: H)) n 0 ⟨rfl, Nat.zero_le _, s0, d1, g2, Hl.le_refl _, hfull, hs⟩ ?_
    clear hs hfull
    rintro gk j w5 ⟨rfl, hj, s, d, g5, hg5, hfull, hs⟩
    refine go ?_
    refine C.cond_dec (p := (j : Int) < n) rfl (fun h => ?_) (fun h => ?_)
    rotate_left
    · obtain rfl : j = n := by omega
      refine go ?_
      exact A.mt () ⟨_, rfl, s, d, g5, hg5, hfull, hs⟩
    have hjn : j < n := by omega
    have hry := hp.mono (hg2.trans hg5)
    obtain ⟨by_, oy, hya⟩ := pr_some hry (by omega)
    subst hya
    have hsl := hfull.len
    refine go ?_
    refine C.heldN hs ?_
    intro w6 hs
    refine EH.tail 1966080 1966080 131071 17 4 (Keeps g5 [(b10, s.cs, 29)]) (fun _ _ => trivial) ?_
    have hk : Keeps g5 [(b10, s.cs, 29)] w6 := Keeps.of1 hs (Hl.le_refl _)
    have hps' := hps (ps[j]'(by omega)) (List.getElem_mem _)
    have hgd : ps.getD j (0, 0) = ps[j]'(by omega) := by simp [List.getD_eq_getElem?_getD, List.getElem?_eq_getElem (show j < ps.length by omega)]
    rw [← hgd] at hps'
    clear hgd
    refine goh ?_
    refine EH.t0 hk ?_ (hy := Pf.loadpr ag_put hry hjn (putC_at (by omega)) rfl rfl)
    refine goh ?_
    have hfl := fileP_len (ps := ps) hi hf j (by omega)
    have hel := evK_len (ps := ps) hi hf (k := j) (by omega)
    have hwl := wrapB_len (evK ps i f j).enc (by omega)
    refine EH.one (St.callf Tryz.func24 rfl ?_)
    refine event8_any (K := (ps.getD j (0, 0)).1) (T := (ps.getD j (0, 0)).2) (i := i) (sq := f + j) (tm := j + 1) hi hps'.1 hps'.2 (by omega) (by omega) hs ?_
    intro tv w7 g7 hg7 heo hs
    refine kept1 hs (fun hk => ?_) hg7
    refine goh ?_
    have hfit : s.fit (evP (ps.getD j (0, 0)).1 (ps.getD j (0, 0)).2 i (f + j) (j + 1) tv) = 0 := by
      have hnx : s.next = f + j := by
        simp only [Sg.next, hfull.first, hsl]; omega
      simp only [Sg.fit]
      rw [if_pos (evP_right hi (by omega) (by omega) (by omega) (by omega)), if_pos]
      exact ⟨by simp only [evP, hfull.wr], by rw [hnx]; rfl⟩
    obtain ⟨q, hfsd⟩ := hfull.fs
    obtain ⟨d2, f1, f2, f3, f4⟩ := add_calm8 hfull.calm (name := nameB i f) (p := (evK ps i f j).enc) (by omega) hnm (by rw [hfsd, tk_one8, hfull.room]; simp only; omega)
    have f1 : d.add (nameB s.wr s.first) (evP (ps.getD j (0, 0)).1 (ps.getD j (0, 0)).2 i (f + j) (j + 1) tv).enc = (0, d2) := by
      rw [hfull.wr, hfull.first]; exact f1
    refine EH.one (St.callf Tryz.func28 rfl ?_)
    refine sgAdd_any (s := s) (e := evP (ps.getD j (0, 0)).1 (ps.getD j (0, 0)).2 i (f + j) (j + 1) tv) (hg.mono (hg2.trans (hg5.trans hg7))) heo (hfull.x.mono hg7) (by rw [hfull.wr]; exact hi) (by rw [hfull.first]; omega) (by rw [hfull.size]; omega) (by rw [hsl]; omega) hs.swap ?_ ?_ ?_
    · intro w' g' _ h _
      exact absurd hfit h
    · intro w' g' _ _ h _
      rw [f1] at h
      exact absurd rfl h
    intro a8 c8 tv2 w8 g8 hg8 _ _ hxo hs
    rw [f1] at hs
    refine kept1 hs (fun hk => ?_) (hg7.trans hg8)
    refine goh ?_
    have hfull2 : Full ⟨s.wr, s.first, ⟨a8, c8, s.x.es ++ [(evP (ps.getD j (0, 0)).1 (ps.getD j (0, 0)).2 i (f + j) (j + 1) tv).ep.ev tv2]⟩, s.size + recN (evP (ps.getD j (0, 0)).1 (ps.getD j (0, 0)).2 i (f + j) (j + 1) tv).enc.length⟩ d2 g8 ps i f (j + 1) := by
      refine ⟨hfull.wr, hfull.first, hxo, ?_, ?_, f4, by rw [f3, hfull.room], q, ?_⟩
      · simp only [List.map_append, List.map_cons, List.map_nil, evL_succ, hfull.es, Ep.raw_ev]
        rfl
      · rw [fileP_succ, List.length_append, wrapB_length, hfull.size]
        rfl
      · rw [f2, hfsd, fileP_succ]
        simp [put, aget, aput]
    generalize (⟨s.wr, s.first, ⟨a8, c8, s.x.es ++ [(evP (ps.getD j (0, 0)).1 (ps.getD j (0, 0)).2 i (f + j) (j + 1) tv).ep.ev tv2]⟩, s.size + recN (evP (ps.getD j (0, 0)).1 (ps.getD j (0, 0)).2 i (f + j) (j + 1) tv).enc.length⟩ : Sg) = s2 at hfull2
    refine EH.done ?_
    refine A.mid ?_
    refine EH.tp 17 trivial ?_
    refine EH.tp 18 trivial ?_
    refine EH.sto (vs := s2.cs) (ys := s2.cs) hs ?_ (hv := rfl) (hsp := rfl)
    intro w9 hs
    refine ⟨trivial, ?_⟩
    refine EH.tp 20 trivial ?_
    refine EH.done ?_
    refine go ?_
    exact A.rd (n - (j + 1)) (j + 1) ⟨rfl, by omega, s2, d2, g8, hg5.trans (hg7.trans hg8), hfull2, hs.swap⟩
  clear hs hfull
  rintro _ w30 ⟨j, rfl, s, d, g5, hg5, hfull, hs⟩
  refine go ?_
  refine E.sto (vs := s.cs) (ys := s.cs) hs ?_ (hv := rfl) (hsp := rfl)
  intro w31 hs
  refine go ?_
  refine A.c1t1 rfl rfl rfl (run_lda hs.pull2 ag_sg) ?_
  exact HR.out s d w31 g5 (hg2.trans hg5) hfull hs.drop.swap.drop
end Go.Proofs.YtdkbpcibmipelaaGreatDoor

/-
  The law of layer 8, plain: what a filled segment's file is opened as.
-/
namespace Go.Proofs.YtdkbpcibmipelaaGreatDoor
open Go.RowKit
set_option linter.unusedVariables false
set_option linter.unusedSimpArgs false

theorem evP_ep_right {K T i sq tm : Nat} {tv : Value} (hi : i < 64) (h1 : 1 ≤ sq) (h2 : sq ≤ 9223372036854775807) (h3 : 1 ≤ tm) (h4 : tm ≤ 9223372036854775807) : (evP K T i sq tm tv).ep.right = 0 := by
  have h5 : ((evP K T i sq tm tv).ep.ev tv) = evP K T i sq tm tv := by
    have hk : 1 ≤ 1 + K % 4 ∧ 1 + K % 4 ≤ 4 := by omega
    have hk5 : ¬ 1 + K % 4 = 5 := by omega
    show Ev.mk _ _ _ _ _ _ _ _ _ = Ev.mk _ _ _ _ _ _ _ _ _
    rw [Ev.mk.injEq]
    refine ⟨rfl, rfl, rfl, rfl, if_pos hk, ?_, ?_, ?_, rfl⟩
    · show (if 1 + K % 4 = 1 then (if 1 + K % 4 = 1 then List.replicate (T % 30) 0 else []) else []) = (if 1 + K % 4 = 1 then List.replicate (T % 30) (0 : UInt8) else [])
      by_cases h : 1 + K % 4 = 1
      · rw [if_pos h, if_pos h]
      · rw [if_neg h, if_neg h]
    · show (if 1 + K % 4 = 2 ∨ 1 + K % 4 = 3 then bitsF 0 else 0) = 0
      split
      · decide +kernel
      · rfl
    · show (((if 1 + K % 4 = 5 then (0 : Int).toNat else 0 : Nat)) : Int) = 0
      rw [if_neg hk5]; rfl
  rw [← Ep.right_ev _ tv, h5]
  exact evP_right hi h1 h2 h3 h4
theorem evK_dec {ps : List (Nat × Nat)} {i f k : Nat} (hi : i < 64) (hf0 : 1 ≤ f) (hf : f ≤ 2000000000000000000) (hk : k ≤ 1000) : decE (evK ps i f k).enc = .ok (evK ps i f k).ep := by
  have hl : (evK ps i f k).text.length ≤ 30 := by
    simp only [evK, evP]; split
    · simp; omega
    · simp
  have h := rdEv_enc (e := evK ps i f k) (by simp only [evK, evP]; omega) (by simp only [evK, evP]; omega) (by simp only [evK, evP]; omega) (by simp only [evK, evP]; omega) (by simp [evK, evP]) (by omega) (by simp [evK, evP]) (by simp [evK, evP])
  unfold decE
  rw [h]
  simp only
  rw [if_pos]
  exact evP_ep_right hi (by omega) (by omega) (by omega) (by omega)
/-- What is read back. -/
theorem opE_full {ps : List (Nat × Nat)} {i f : Nat} (hi : i < 64) (hf0 : 1 ≤ f) (hf : f ≤ 2000000000000000000) : ∀ (m k sz : Nat), k + m ≤ 1000 →
    opE i f ((evL ps i f k).map Ev.ep) sz ((List.range' k m).map fun q => (evK ps i f q).enc) = ((evL ps i f (k + m)).map Ev.ep, sz + (catB ((List.range' k m).map fun q => (evK ps i f q).enc)).length, false)
  | 0, k, sz, _ => by simp [opE, catB]
  | m + 1, k, sz, h => by
    rw [List.range'_succ, List.map_cons]
    have hd := evK_dec (ps := ps) hi hf0 hf (k := k) (by omega)
    simp only [opE, hd]
    have hlen : ((evL ps i f k).map Ev.ep).length = k := by simp [evL]
    rw [if_pos ⟨rfl, by rw [hlen]; simp only [evK, evP, Ev.ep]; omega⟩]
    have e1 : (evL ps i f k).map Ev.ep ++ [(evK ps i f k).ep] = (evL ps i f (k + 1)).map Ev.ep := by rw [evL_succ]; simp
    rw [e1, opE_full hi hf0 hf m (k + 1) _ (by omega)]
    have e2 : k + 1 + m = k + (m + 1) := by omega
    rw [e2]
    have e3 : ∀ (x : List UInt8) (r : List (List UInt8)), (catB (x :: r)).length = recN x.length + (catB r).length := by
      intro x r
      simp only [catB, List.map_cons, List.flatten_cons, List.length_append, wrapB_length]
      rfl
    rw [e3, Nat.add_assoc]
theorem Full.opn {s : Sg} {d : Dk} {g : Hl} {ps : List (Nat × Nat)} {i f n : Nat} (h : Full s d g ps i f n) (hi : i < 64) (hf0 : 1 ≤ f) (hf : f ≤ 2000000000000000000) (hn : n ≤ 1000) :
    d.opn i f = (.ok ((evL ps i f n).map Ev.ep, (fileP ps i f n).length, 0), d) ∧ (d.mend (nameB i f)).1 = .ok ⟨⟨115, i, f⟩, (evL ps i f n).map Ev.enc, (fileP ps i f n).length, 0⟩ := by
  have hto : Ti.ok ⟨115, i, f⟩ := ⟨by simp only; omega, by simp only; omega⟩
  obtain ⟨q, hq⟩ := h.fs
  have hrd : d.read (nameB i f) = .ok (fileP ps i f n) := h.calm.read (f := ⟨fileP ps i f n, q⟩) (by rw [hq]; simp [aget])
  have hlen : ∀ x ∈ (evL ps i f n).map Ev.enc, x.length ≤ 2097152 := by
    intro x hx
    obtain ⟨e, he, rfl⟩ := List.mem_map.1 hx
    obtain ⟨k, hk, rfl⟩ := List.mem_map.1 he
    have := evK_len (ps := ps) hi hf (k := k) (by have := List.mem_range.1 hk; omega)
    omega
  have hsc := scanB_lay ⟨115, i, f⟩ hto ((evL ps i f n).map Ev.enc) hlen []
  rw [List.append_nil, allC_nil] at hsc
  simp only [List.append_nil, Nat.add_zero] at hsc
  have hfl : (fileP ps i f n).length = (headB ⟨115, i, f⟩).length + (catB ((evL ps i f n).map Ev.enc)).length := by simp [fileP]
  have hm : d.mend (nameB i f) = (.ok ⟨⟨115, i, f⟩, (evL ps i f n).map Ev.enc, (fileP ps i f n).length, 0⟩, d) := by
    simp only [Dk.mend, Dk.sheet, hrd]
    rw [hfl]
    simp only [fileP, hsc, if_true]
  have hop := opE_full (ps := ps) hi hf0 hf n 0 (headB ⟨115, i, f⟩).length (by omega)
  have e0 : (evL ps i f 0).map Ev.ep = [] := rfl
  have e1 : (List.range' 0 n).map (fun q => (evK ps i f q).enc) = (evL ps i f n).map Ev.enc := by
    simp [evL, List.range_eq_range', Function.comp_def]
  rw [e0, e1, Nat.zero_add, ← hfl] at hop
  refine ⟨?_, by rw [hm]⟩
  simp only [Dk.opn, hm]
  rw [if_pos ⟨trivial, trivial, trivial⟩, hop]
  simp
end Go.Proofs.YtdkbpcibmipelaaGreatDoor

/-
  The references of layers 2 and 3: a number, a text, a sum, a record: they are the program's.
-/
namespace Go.Proofs.YtdkbpcibmipelaaGreatDoor
open Go.RowKit
set_option linter.unusedVariables false
set_option linter.unusedSimpArgs false

theorem or128_add (n : Nat) : (n % 256) ||| 128 = 128 + n % 128 := by
  have : ∀ m : Fin 256, (m.val ||| 128) = 128 + m.val % 128 := by decide +kernel
  have h := this ⟨n % 256, Nat.mod_lt _ (by decide)⟩
  simp only at h
  rw [h]
  omega

set_option maxHeartbeats 1600000 in
set_option maxRecDepth 100000 in
theorem rlay_any {R : Ending → World → Prop} {W w : World} {g : Hl} {H : List HP} {D : Nat → Prop} {a : Option Addr} {m c n : Nat} {xs : List UInt8} (hs : Sat W w g H) (hrow : ∀ w', Sat W w' g H → Row 1 w' D (.slice a m c) m (bs xs)) (hx : xs.length = m) (hm : m ≤ 1000000000) (hn : n < 18446744073709551616)
    (hR : ∀ a' c' w', Sat W w' g (own 5 1 (.slice a' (xs ++ layN n).length c') (xs ++ layN n).length (bs (xs ++ layN n)) :: H) → R (.returned (.slice a' (xs ++ layN n).length c')) w') :
    Calls Tryz.prog 97 #[.slice a m c, .int .u64 n] w R := by
  have HR := Lib.hid hR
  clear hR
  have hten := layN_ten hn
  refine C.calls (args := [.slice a m c, .int .u64 n]) Tryz.func97 rfl rfl rfl ?_
  refine go ?_
  refine E.app el_u8 hs.nilOwn (hrow w hs) ?_
  intro a1 c1 w1 _ _ hs
  refine gob ?_
  refine C.block ?_
  refine C.lp (fun x : Nat × List UInt8 × Option Addr × Nat => [(1, .int .u64 x.1), (5, .slice x.2.2.1 x.2.1.length x.2.2.2)])
    (fun gk x w => gk = x.1 ∧ x.1 < 18446744073709551616 ∧ x.2.1 ++ layN x.1 = xs ++ layN n ∧ Sat W w g (own 5 1 (.slice x.2.2.1 x.2.1.length x.2.2.2) x.2.1.length (bs x.2.1) :: H)) n (n, xs, a1, c1)
    ⟨rfl, hn, rfl, by rw [hx]; simpa using hs⟩ ?_ (hw := by simp only [hx, Nat.zero_add]; exact wk_)
  clear hs
  rintro gk ⟨q, ys, a2, c2⟩ w2 ⟨hgk, hq, hys, hs⟩
  simp only at hgk hq hys hs ⊢
  have hlen : ys.length + (layN q).length = xs.length + (layN n).length := by
    have := congrArg List.length hys
    simpa using this
  refine go ?_
  refine C.cond_dec (p := (127 : Int) < q) rfl (fun hlt => ?_) (fun hlt => ?_)
  · have e : layN q = UInt8.ofNat (128 + q % 128) :: layN (q / 128) := by
      rw [layN_big (by omega), or128_add]
    rw [e] at hys hlen
    simp only [List.length_cons] at hlen
    refine go ?_
    refine E.bsl hs ?_
    intro b3 w3 hs
    refine E.app el_u8 hs.swap (hs.rowOf (size := 1) 1 rfl (by decide)) ?_
    intro a4 c4 w4 _ _ hs
    refine go ?_
    refine A.rd (q / 128) (q / 128, ys ++ [UInt8.ofNat (128 + q % 128)], a4, c4) ⟨rfl, by simp only; omega, by simpa using hys, ?_⟩ (hw := ?_)
    · have h8 : (UInt8.ofNat (128 + q % 128)).toNat = 128 + q % 128 := by simp; omega
      have e2 : bs (ys ++ [UInt8.ofNat (128 + q % 128)]) = bs ys ++ [.int .u8 ((128 + q % 128 : Nat) : Int)] := by rw [bs_append]; simp only [bs, List.map_cons, List.map_nil, h8]
      simp only [e2, List.length_append, List.length_cons, List.length_nil]
      exact hs.swap.drop
    · simp only [List.length_append, List.length_cons, List.length_nil]
      exact wk_
  · have e : layN q = [UInt8.ofNat q] := layN_small (by omega)
    rw [e] at hys hlen
    simp only [List.length_cons, List.length_nil] at hlen
    refine go ?_
    refine E.bsl hs ?_
    intro b3 w3 hs
    refine E.app el_u8 hs.swap (hs.rowOf (size := 1) 1 rfl (by decide)) ?_
    intro a4 c4 w4 _ _ hs
    refine go ?_
    refine A.r1 ?_
    rw [← hys] at HR
    have key := HR.out a4 c4 w4
    have h8 : (UInt8.ofNat q).toNat = q := by simp; omega
    have e2 : bs (ys ++ [UInt8.ofNat q]) = bs ys ++ [.int .u8 (q : Int)] := by rw [bs_append]; simp only [bs, List.map_cons, List.map_nil, h8]
    simp only [e2, List.length_append, List.length_cons, List.length_nil, Nat.zero_add] at key
    exact key hs.swap.drop
end Go.Proofs.YtdkbpcibmipelaaGreatDoor

/-
  The references of layers 1 and 2: a quantity's bits; a text, a number in eight bytes, behind some bytes.
-/
namespace Go.Proofs.YtdkbpcibmipelaaGreatDoor
open Go.RowKit
set_option linter.unusedVariables false
set_option linter.unusedSimpArgs false

theorem own_row {W w : World} {g : Hl} {H : List HP} {E : TypeId} {size n : Nat} {v : Value} {xs : List Value} (hs : Sat W w g (own E size v n xs :: H)) : Row size w (fun _ => True) v n xs := Row.of_owns hs.owns fun _ _ => trivial

set_option maxHeartbeats 1600000 in
set_option maxRecDepth 100000 in
theorem void_any {R : Ending → World → Prop} {w : World} {b : Nat} (hR : R (.returned (.bool (nanF b))) w) : Calls Tryz.prog 172 #[.float .f64 b] w R := by
  have HR := Lib.hid hR
  clear hR
  refine C.calls (args := [.float .f64 b]) Tryz.func172 rfl rfl rfl ?_
  refine go ?_
  refine A.r1 ?_
  exact HR.out

set_option maxHeartbeats 1600000 in
set_option maxRecDepth 100000 in
theorem rbits_any {R : Ending → World → Prop} {w : World} {b : Nat} (hR : R (.returned (.int .u64 (bitsF b))) w) : Calls Tryz.prog 99 #[.float .f64 b] w R := by
  have HR := Lib.hid hR
  clear hR
  refine C.calls (args := [.float .f64 b]) Tryz.func99 rfl rfl rfl ?_
  refine go ?_
  refine E.callf Tryz.func172 rfl ?_
  refine void_any ?_
  refine go ?_
  cases hn : nanF b with
  | true =>
    refine go ?_
    refine A.r1 ?_
    simpa [bitsF, hn] using HR.out
  | false =>
    refine go ?_
    refine E.ext (v := .int .u64 b) (w' := w) Tryz.func173 (ex := Extern.MathFloatBits.float64bits) rfl ?_
    refine go ?_
    refine A.r1 ?_
    simpa [bitsF, hn] using HR.out

set_option maxHeartbeats 1600000 in
set_option maxRecDepth 100000 in
theorem rtextV_any {R : Ending → World → Prop} {W w : World} {g : Hl} {H : List HP} {a : Option Addr} {u : Value} {m c k : Nat} {xs t : List UInt8} (hs : Sat W w g (own 5 1 (.slice a m c) m (bs xs) :: H)) (hx : xs.length = m) (hm : m ≤ 500000000) (hp : Pr 1 g u k (bs t)) (ht : t.length = k) (hk : k ≤ 400000000)
    (hR : ∀ a' c' w', Sat W w' g (own 5 1 (.slice a' (xs ++ textB t).length c') (xs ++ textB t).length (bs (xs ++ textB t)) :: H) → R (.returned (.slice a' (xs ++ textB t).length c')) w') :
    Calls Tryz.prog 95 #[.slice a m c, u] w R := by
  have HR := Lib.hid hR
  clear hR
  obtain ⟨a1, c1, rfl, _, _⟩ := hp.len
  have hten := layN_ten (n := k) (by omega)
  refine C.calls (args := [.slice a m c, .slice a1 k c1]) Tryz.func95 rfl rfl rfl ?_
  refine go ?_
  refine E.callf Tryz.func97 rfl ?_
  refine rlay_any hs (fun w' h => own_row h) hx (by omega) (by omega) ?_
  intro a2 c2 w2 hs
  have hl2 : (xs ++ layN k).length = m + (layN k).length := by simp [hx]
  refine go ?_
  refine E.app el_u8 hs (hp.row hs) ?_
  intro a3 c3 w3 _ _ hs
  refine go ?_
  refine A.r1 ?_
  have e1 : (xs ++ layN k).length + k = (xs ++ textB t).length := by simp [textB, ht]; omega
  have e2 : bs (xs ++ layN k) ++ bs t = bs (xs ++ textB t) := by rw [← bs_append]; simp [textB, ht]
  rw [e1, e2] at hs
  rw [e1]
  exact HR.out _ _ _ hs.swap.drop

set_option maxHeartbeats 1600000 in
set_option maxRecDepth 100000 in
theorem rfixed_any {R : Ending → World → Prop} {W w : World} {g : Hl} {H : List HP} {a : Option Addr} {m c n : Nat} {xs : List UInt8} (hs : Sat W w g (own 5 1 (.slice a m c) m (bs xs) :: H)) (hx : xs.length = m) (hm : m ≤ 1000000000) (hn : n < 18446744073709551616)
    (hR : ∀ a' c' w', Sat W w' g (own 5 1 (.slice a' (xs ++ fixB n).length c') (xs ++ fixB n).length (bs (xs ++ fixB n)) :: H) → R (.returned (.slice a' (xs ++ fixB n).length c')) w') :
    Calls Tryz.prog 98 #[.slice a m c, .int .u64 n] w R := by
  have HR := Lib.hid hR
  clear hR
  refine C.calls (args := [.slice a m c, .int .u64 n]) Tryz.func98 rfl rfl rfl ?_
  refine go ?_
  refine E.app el_u8 hs.nilOwn (own_row hs) ?_
  intro a1 c1 w1 _ _ hs
  simp only [Nat.zero_add, List.nil_append] at hs ⊢
  refine gob ?_
  refine C.block ?_
  refine C.lp (fun x : Nat × Nat × Option Addr × Nat × List UInt8 => [(1, .int .u64 n), (5, .slice x.2.2.1 x.2.1 x.2.2.2.1), (6, .int .i64 x.1)])
    (fun gk x w => gk = 8 - x.1 ∧ x.1 ≤ 8 ∧ x.2.1 = m + x.1 ∧ x.2.2.2.2.length = x.2.1 ∧ x.2.2.2.2 ++ fixG (8 - x.1) n = xs ++ fixB n ∧ Sat W w g (own 5 1 (.slice x.2.2.1 x.2.1 x.2.2.2.1) x.2.1 (bs x.2.2.2.2) :: H)) 8 (0, m, a1, c1, xs) ⟨rfl, by omega, rfl, hx, rfl, hs.swap.drop⟩ ?_
  clear hs
  rintro gk ⟨i, k1, a2, c2, ys⟩ w2 ⟨hgk, hi, hk1, hyl, hy, hs⟩
  simp only at hgk hi hk1 hyl hy hs ⊢
  refine go ?_
  refine C.cond_dec (p := (i : Int) < 8) rfl (fun h => ?_) (fun h => ?_)
  · have ej : (56 : Int) - 8 * (i : Int) = ((8 * (7 - i) : Nat) : Int) := by omega
    have e8 : fixG (8 - i) n = UInt8.ofNat (n / 2 ^ (8 * (7 - i))) :: fixG (8 - (i + 1)) n := by
      rw [show 8 - i = (7 - i) + 1 by omega]
      simp only [fixG]
      rw [show 7 - i = 8 - (i + 1) by omega]
    refine go ?_
    rw [ej]
    refine go ?_
    refine E.bsl hs ?_
    intro b2 w2 hs
    refine E.app el_u8 hs.swap (hs.rowOf (size := 1) 1 rfl (by decide)) ?_
    intro a3 c3 w3 _ _ hs
    refine go ?_
    refine A.rd (8 - (i + 1)) (i + 1, k1 + 1, a3, c3, ys ++ [UInt8.ofNat (n / 2 ^ (8 * (7 - i)))]) ⟨rfl, by omega, by simp only; omega, by simp [hyl], ?_, ?_⟩
    · simp only
      rw [← hy, e8]
      simp
    · simp only [bs_append]
      have e9 : bs [UInt8.ofNat (n / 2 ^ (8 * (7 - i)))] = [.int .u8 ((n / 2 ^ (8 * (7 - i)) % 256 : Nat))] := by simp [bs]
      rw [e9]
      exact hs.swap.drop
  · refine go ?_
    refine A.r1 ?_
    obtain rfl : i = 8 := by omega
    simp only [Nat.sub_self, fixG, List.append_nil] at hy
    subst hy
    rw [← hyl] at hs ⊢
    exact HR.out _ _ _ hs
end Go.Proofs.YtdkbpcibmipelaaGreatDoor

/-
  The reference of layer 6: places, and events as bytes: they are the program's.
-/
namespace Go.Proofs.YtdkbpcibmipelaaGreatDoor
open Go.RowKit
set_option linter.unusedVariables false
set_option linter.unusedSimpArgs false

set_option maxHeartbeats 1600000 in
set_option maxRecDepth 100000 in
theorem rat_any {R : Ending → World → Prop} {W w : World} {g : Hl} {H : List HP} {e : Ev} (hs : Sat W w g H) (hR : ∀ w', Sat W w' g H → R (.returned (spot e.tm e.wr)) w') :
    Calls Tryz.prog 186 #[e.val] w R := by
  have HR := Lib.hid hR
  clear hR
  simp only [Ev.val, Ev.cs]
  refine C.calls (args := [.agg #[.int .i64 e.wr, .int .u64 e.sq, .int .u64 e.tm, .int .u8 e.kd, .string ⟨e.key.toArray⟩, e.tv, .float .f64 e.num, .int .i64 e.nd]]) Tryz.func186 rfl rfl rfl ?_
  refine go ?_
  refine E.bx hs ?_
  intro b1 w1 hs
  refine go ?_
  refine E.al hs ?_
  intro b2 w2 hs
  refine go ?_
  refine E.sto hs ?_
  intro w3 hs
  refine go ?_
  refine A.c1 rfl rfl (run_lda hs ag_spot) ?_
  exact HR.out _ hs.drop.drop

set_option maxHeartbeats 1600000 in
set_option maxRecDepth 100000 in
theorem ahead_any {R : Ending → World → Prop} {W w : World} {g : Hl} {H : List HP} {t1 t2 : Nat} {w1 w2 : Int} (hs : Sat W w g H) (hR : ∀ w', Sat W w' g H → R (.returned (.bool (decide (cmpS t1 w1 t2 w2 < 0)))) w') :
    Calls Tryz.prog 185 #[spot t1 w1, spot t2 w2] w R := by
  have HR := Lib.hid hR
  clear hR
  have e1 : decide (cmpS t1 w1 t2 w2 < 0) = decide (t1 < t2 ∨ t1 = t2 ∧ w1 < w2) := decide_eq_decide.2 cmpS_lt
  rw [e1] at HR
  simp only [spot]
  refine C.calls (args := [.agg #[.int .u64 t1, .int .i64 w1], .agg #[.int .u64 t2, .int .i64 w2]]) Tryz.func185 rfl rfl rfl ?_
  refine go ?_
  refine E.bx hs ?_
  intro b1 w3 hs
  refine go ?_
  refine E.bx hs ?_
  intro b2 w4 hs
  refine go ?_
  cases h1 : decide ((t1 : Int) < t2) with
  | true =>
    have h1 := of_decide_eq_true h1
    refine go ?_
    refine A.r1 ?_
    have := HR.out _ hs.drop.drop
    rw [decide_eq_true (by omega)] at this
    exact this
  | false =>
  have h1 := of_decide_eq_false h1
  refine go ?_
  cases h2 : decide ((t1 : Int) = t2) with
  | false =>
    have h2 := of_decide_eq_false h2
    refine go ?_
    refine A.r1 ?_
    have := HR.out _ hs.drop.drop
    rw [decide_eq_false (by omega)] at this
    exact this
  | true =>
  have h2 := of_decide_eq_true h2
  refine go ?_
  refine A.r1 ?_
  have := HR.out _ hs.drop.drop
  rw [show decide (t1 < t2 ∨ t1 = t2 ∧ w1 < w2) = decide (w1 < w2) from decide_eq_decide.2 (by omega)] at this
  exact this

set_option maxHeartbeats 3200000 in
set_option maxRecDepth 100000 in
theorem rencode_any {R : Ending → World → Prop} {W w : World} {g : Hl} {H : List HP} {e : Ev} (ho : e.ok g) (hwr : 0 ≤ e.wr) (hk1 : 1 ≤ e.kd) (hnd : e.kd = 5 → 0 ≤ e.nd) (hs : Sat W w g H)
    (hR : ∀ a' c' w' g', Hl.le g g' → Sat W w' g' (own 5 1 (.slice a' e.enc.length c') e.enc.length (bs e.enc) :: H) → R (.returned (.slice a' e.enc.length c')) w') :
    Calls Tryz.prog 23 #[e.val] w R := by
  have HR := Lib.hid hR
  clear hR
  obtain ⟨a, c, etv, hnc, _⟩ := ho.tv.len
  have hkd := ho.kd
  have hsq := ho.sq
  have htm := ho.tm
  have h1 := ho.wr
  have h2 := ho.nd
  have h3 := ho.key
  have h4 := ho.text
  have h5 := ho.tv
  have h6 := ho.num
  clear ho
  obtain ⟨wr, sq, tm, kd, key, text, num, nd, tv⟩ := e
  simp only at etv hkd hsq htm h1 h2 h3 h4 h5 h6 hwr hnd hk1
  simp only [Ev.val, Ev.cs]
  subst etv
  obtain ⟨wr, rfl⟩ := Int.eq_ofNat_of_zero_le hwr
  have l1 := layN_ten (n := wr) (by omega)
  have l2 := layN_ten (n := sq) (by omega)
  have l3 := layN_ten (n := tm) (by omega)
  have m1 : (layN wr ++ layN sq).length ≤ 20 := by rw [List.length_append]; omega
  refine C.calls (args := [.agg #[.int .i64 wr, .int .u64 sq, .int .u64 tm, .int .u8 kd, .string ⟨key.toArray⟩, .slice a text.length c, .float .f64 num, .int .i64 nd]]) Tryz.func23 rfl rfl rfl ?_
  refine go ?_
  refine E.bx hs ?_
  intro b1 w1 hs
  refine go ?_
  have e8 : (UInt8.ofNat kd).toNat = kd := by simp; omega
  refine C.cut (fun x : Option Addr × Nat => [(1, .pointer (some ⟨b1, 0, none⟩)), (3, .slice x.1 (layN wr ++ layN sq ++ layN tm).length x.2)])
    (fun x w => Sat W w g (own 5 1 (.slice x.1 (layN wr ++ layN sq ++ layN tm).length x.2) (layN wr ++ layN sq ++ layN tm).length (bs (layN wr ++ layN sq ++ layN tm)) :: blk b1 [.int .i64 wr, .int .u64 sq, .int .u64 tm, .int .u8 kd, .string ⟨key.toArray⟩, .slice a text.length c, .float .f64 num, .int .i64 nd] 46 :: H)) ?_ ?_
  · refine C.held1 b1 hs ?_
    intro w hk hs
    refine goh ?_
    refine EH.one (St.callf Tryz.func97 rfl ?_)
    refine rlay_any (xs := []) hs (fun w' _ => Row.nil w' fun _ => True) rfl (by omega) (by omega) ?_
    intro a2 c2 w2 hs
    simp only [List.nil_append] at hs ⊢
    refine kept1 hs (fun hk => ?_)
    refine goh ?_
    refine EH.one (St.callf Tryz.func97 rfl ?_)
    refine rlay_any hs (fun w' h => own_row h) rfl (by omega) (by omega) ?_
    intro a3 c3 w3 hs
    replace hs := hs.swap.drop
    refine kept1 hs (fun hk => ?_)
    refine goh ?_
    refine EH.one (St.callf Tryz.func97 rfl ?_)
    refine rlay_any hs (fun w' h => own_row h) rfl (by omega) (by omega) ?_
    intro a4 c4 w4 hs
    replace hs := hs.swap.drop
    refine kept1 hs (fun hk => ?_)
    refine goh ?_
    refine EH.done ?_
    exact A.mt (a4, c4) hs
  clear hs
  rintro ⟨a2, c2⟩ w2 hs
  simp only at hs ⊢
  have lA0 : (layN wr ++ layN sq ++ layN tm).length ≤ 30 := by
    simp only [List.length_append]; omega
  refine go ?_
  refine E.bsl hs ?_
  intro b3 w3 hs
  refine E.app el_u8 hs.swap (hs.rowOf (size := 1) 1 rfl (by decide)) ?_
  intro a4 c4 w4 _ _ hs
  replace hs := hs.swap.drop
  have eA : bs (layN wr ++ layN sq ++ layN tm) ++ [.int .u8 (kd : Nat)] = bs (layN wr ++ layN sq ++ layN tm ++ [UInt8.ofNat kd]) := by simp [bs, e8]
  have eL : (layN wr ++ layN sq ++ layN tm).length + 1 = (layN wr ++ layN sq ++ layN tm ++ [UInt8.ofNat kd]).length := by simp [Nat.add_assoc]
  rw [eA, eL] at hs
  rw [eL]
  have lA : (layN wr ++ layN sq ++ layN tm ++ [UInt8.ofNat kd]).length ≤ 31 := by
    rw [← eL]; omega
  have hR2 : ∀ (B : List UInt8), layN wr ++ layN sq ++ layN tm ++ [UInt8.ofNat kd] ++ B = Ev.enc ⟨wr, sq, tm, kd, key, text, num, nd, .slice a text.length c⟩ → ∀ a' c' w' g', Hl.le g g' → Sat W w' g' (own 5 1 (.slice a' (layN wr ++ layN sq ++ layN tm ++ [UInt8.ofNat kd] ++ B).length c') (layN wr ++ layN sq ++ layN tm ++ [UInt8.ofNat kd] ++ B).length (bs (layN wr ++ layN sq ++ layN tm ++ [UInt8.ofNat kd] ++ B)) :: H) → R (.returned (.slice a' (layN wr ++ layN sq ++ layN tm ++ [UInt8.ofNat kd] ++ B).length c')) w' := fun B hB a' c' w' g' hg' hs' => by
    rw [hB] at hs' ⊢
    exact HR.out _ _ _ _ hg' hs'
  clear HR eA eL
  simp only [Ev.enc, Ev.keyB, Ev.restB, Int.toNat_natCast] at hR2
  generalize hAA : layN wr ++ layN sq ++ layN tm ++ [UInt8.ofNat kd] = A1 at lA hR2 hs ⊢
  clear hAA
  have h3b : key.length ≤ 1000000000 := by omega
  have hkey := textB_len key (by omega)
  have htext := textB_len text (by omega)
  have lk : (A1 ++ textB key).length ≤ 200000000 := by rw [List.length_append]; omega
  have hcases : kd = 1 ∨ kd = 2 ∨ kd = 3 ∨ kd = 4 ∨ kd = 5 ∨ 5 < kd := by omega
  rcases hcases with hq | hq | hq | hq | hq | hq
  · subst hq
    simp only [show (1 ≤ 1 ∧ 1 ≤ 4) = True by simp, if_true] at hR2
    have HR2 := Lib.hid hR2
    clear hR2
    refine go ?_
    refine E.bytes Tryz.underlying9 Tryz.underlying33 Tryz.underlying5 hs h3b ?_
    intro b5 c5 w3 g3 hg3 hs hp5
    refine go ?_
    refine E.callf Tryz.func95 rfl ?_
    refine rtextV_any hs rfl (by omega) hp5 rfl (by omega) ?_
    intro a4 c4 w4 hs
    refine go ?_
    refine E.callf Tryz.func95 rfl ?_
    refine rtextV_any hs rfl (by omega) (h5.mono hg3) rfl (by omega) ?_
    intro a6 c6 w6 hs
    refine go ?_
    refine A.r1 ?_
    rw [List.append_assoc A1] at hs ⊢
    exact HR2.out (textB key ++ textB text) (by simp) _ _ _ _ hg3 hs.swap.drop
  · subst hq
    simp only [show (1 ≤ 2 ∧ 2 ≤ 4) = True by simp, if_true] at hR2
    have HR2 := Lib.hid hR2
    clear hR2
    refine go ?_
    refine E.bytes Tryz.underlying9 Tryz.underlying33 Tryz.underlying5 hs h3b ?_
    intro b5 c5 w3 g3 hg3 hs hp5
    refine go ?_
    refine E.callf Tryz.func95 rfl ?_
    refine rtextV_any hs rfl (by omega) hp5 rfl (by omega) ?_
    intro a4 c4 w4 hs
    refine go ?_
    refine E.callf Tryz.func99 rfl ?_
    refine rbits_any ?_
    refine E.callf Tryz.func98 rfl ?_
    refine rfixed_any hs rfl (by omega) (bitsF_lt h6) ?_
    intro a6 c6 w6 hs
    refine go ?_
    refine A.r1 ?_
    rw [List.append_assoc A1] at hs ⊢
    exact HR2.out (textB key ++ fixB (bitsF num)) (by simp) _ _ _ _ hg3 hs.swap.drop
  · subst hq
    simp only [show (1 ≤ 3 ∧ 3 ≤ 4) = True by simp, if_true] at hR2
    have HR2 := Lib.hid hR2
    clear hR2
    refine go ?_
    refine E.bytes Tryz.underlying9 Tryz.underlying33 Tryz.underlying5 hs h3b ?_
    intro b5 c5 w3 g3 hg3 hs hp5
    refine go ?_
    refine E.callf Tryz.func95 rfl ?_
    refine rtextV_any hs rfl (by omega) hp5 rfl (by omega) ?_
    intro a4 c4 w4 hs
    refine go ?_
    refine E.callf Tryz.func99 rfl ?_
    refine rbits_any ?_
    refine E.callf Tryz.func98 rfl ?_
    refine rfixed_any hs rfl (by omega) (bitsF_lt h6) ?_
    intro a6 c6 w6 hs
    refine go ?_
    refine A.r1 ?_
    rw [List.append_assoc A1] at hs ⊢
    exact HR2.out (textB key ++ fixB (bitsF num)) (by simp) _ _ _ _ hg3 hs.swap.drop
  · subst hq
    simp only [show (1 ≤ 4 ∧ 4 ≤ 4) = True by simp, if_true] at hR2
    have HR2 := Lib.hid hR2
    clear hR2
    refine go ?_
    refine E.bytes Tryz.underlying9 Tryz.underlying33 Tryz.underlying5 hs h3b ?_
    intro b5 c5 w3 g3 hg3 hs hp5
    refine go ?_
    refine E.callf Tryz.func95 rfl ?_
    refine rtextV_any hs rfl (by omega) hp5 rfl (by omega) ?_
    intro a4 c4 w4 hs
    refine go ?_
    refine A.r1 ?_
    exact HR2.out (textB key) (by simp) _ _ _ _ hg3 hs.swap.drop
  · subst hq
    obtain ⟨nd, rfl⟩ := Int.eq_ofNat_of_zero_le (hnd rfl)
    simp only [show (1 ≤ 5 ∧ 5 ≤ 4) = False by simp, if_false, Int.toNat_natCast] at hR2
    have HR2 := Lib.hid hR2
    clear hR2
    refine go ?_
    refine E.callf Tryz.func97 rfl ?_
    refine rlay_any hs (fun w' h => own_row h) rfl (by omega) (by omega) ?_
    intro a6 c6 w6 hs
    refine go ?_
    refine A.r1 ?_
    exact HR2.out (layN nd) (by simp) _ _ _ _ (Hl.le_refl _) (hs.swap.drop.swap.drop)
  · refine go ?_
    rw [show decide ((kd : Int) ≤ 4) = false from decide_eq_false (by omega)]
    refine go ?_
    rw [show decide ((kd : Int) = 1) = false from decide_eq_false (by omega)]
    refine go ?_
    rw [show decide ((kd : Int) = 2) = false from decide_eq_false (by omega)]
    refine go ?_
    rw [show decide ((kd : Int) = 3) = false from decide_eq_false (by omega)]
    refine go ?_
    rw [show decide ((kd : Int) = 5) = false from decide_eq_false (by omega)]
    refine go ?_
    refine A.r1 ?_
    have k1 : ¬ (1 ≤ kd ∧ kd ≤ 4) := by omega
    have k2 : ¬ kd = 1 := by omega
    have k3 : ¬ (kd = 2 ∨ kd = 3) := by omega
    have k4 : ¬ kd = 5 := by omega
    simp only [k1, k2, k3, k4, if_false] at hR2
    have := hR2 [] (by simp) a4 c4 w4 g (Hl.le_refl _)
    rw [List.append_nil] at this
    exact this hs.swap.drop
end Go.Proofs.YtdkbpcibmipelaaGreatDoor

/-
  The reference of layer 6: whether events are one.
-/
namespace Go.Proofs.YtdkbpcibmipelaaGreatDoor
open Go.RowKit
set_option linter.unusedVariables false
set_option linter.unusedSimpArgs false

/-- What a valid event's parts are. -/
structure Ev.fit (e : Ev) : Prop where
  wr : 0 ≤ e.wr
  kd : 1 ≤ e.kd
  nd : e.kd = 5 → 0 ≤ e.nd

set_option maxHeartbeats 3200000 in
set_option maxRecDepth 100000 in
theorem same_any {R : Ending → World → Prop} {W w : World} {g : Hl} {H : List HP} {e f : Ev} (he : e.ok g) (hf : f.ok g) (fe : e.fit) (ff : f.fit) (hs : Sat W w g H)
    (hR : ∀ w' g', Hl.le g g' → Sat W w' g' H → R (.returned (.bool (decide (e.enc = f.enc)))) w') :
    Calls Tryz.prog 54 #[e.val, f.val] w R := by
  have HR := Lib.hid hR
  clear hR
  have ag1 := ag_ev
  refine C.calls (args := [e.val, f.val]) Tryz.func54 rfl rfl rfl ?_
  refine go ?_
  refine E.bx hs (xs := e.cs) ?_ (hx := rfl)
  intro b1 w1 hs
  refine E.bx hs (xs := f.cs) ?_ (hx := rfl)
  intro b2 w2 hs
  refine go ?_
  refine C.held2 b1 b2 hs ?_
  intro w3 hk hs
  refine goh ?_
  refine EH.one (St.callf Tryz.func23 rfl ?_)
  refine rencode_any (e := e) he fe.wr fe.kd fe.nd hs ?_
  intro a4 c4 w4 g4 hg4 hs
  obtain ⟨g5, hg5, hp5, hs⟩ := hs.publishOwn
  refine kept2 hs (fun hk => ?_) (hg4.trans hg5)
  refine goh ?_
  refine EH.two (St.string rfl Tryz.underlying33 Tryz.underlying5 Tryz.underlying9 (hp5.row hs) ?_) (St.callf Tryz.func23 rfl ?_)
  · refine kept2 hs (fun hk => ?_) (hg4.trans hg5)
    refine goh ?_
    refine EH.one (St.callf Tryz.func23 rfl ?_)
    refine rencode_any (e := f) ((hf.mono hg4).mono hg5) ff.wr ff.kd ff.nd hs ?_
    intro a6 c6 w6 g6 hg6 hs
    obtain ⟨g7, hg7, hp7, hs⟩ := hs.publishOwn
    refine kept2 hs (fun hk => ?_) ((hg4.trans hg5).trans (hg6.trans hg7))
    refine goh ?_
    refine EH.one (St.string rfl Tryz.underlying33 Tryz.underlying5 Tryz.underlying9 (hp7.row hs) ?_)
    refine kept2 hs (fun hk => ?_) ((hg4.trans hg5).trans (hg6.trans hg7))
    refine goh ?_
    refine EH.done ?_
    refine go ?_
    refine A.r1 ?_
    exact HR.out _ _ ((hg4.trans hg5).trans (hg6.trans hg7)) hs.drop.drop
  · refine rencode_any (e := f) ((hf.mono hg4).mono hg5) ff.wr ff.kd ff.nd hs ?_
    intro a6 c6 w6 g6 hg6 hs
    obtain ⟨g7, hg7, hp7, hs⟩ := hs.publishOwn
    have hp5' := (hp5.mono hg6).mono hg7
    refine kept2 hs (fun hk => ?_) ((hg4.trans hg5).trans (hg6.trans hg7))
    refine goh ?_
    refine EH.two (St.string rfl Tryz.underlying33 Tryz.underlying5 Tryz.underlying9 (hp5'.row hs) ?_) (St.string rfl Tryz.underlying33 Tryz.underlying5 Tryz.underlying9 (hp7.row hs) ?_)
    · refine kept2 hs (fun hk => ?_) ((hg4.trans hg5).trans (hg6.trans hg7))
      refine goh ?_
      refine EH.one (St.string rfl Tryz.underlying33 Tryz.underlying5 Tryz.underlying9 (hp7.row hs) ?_)
      refine kept2 hs (fun hk => ?_) ((hg4.trans hg5).trans (hg6.trans hg7))
      refine goh ?_
      refine EH.done ?_
      refine go ?_
      refine A.r1 ?_
      exact HR.out _ _ ((hg4.trans hg5).trans (hg6.trans hg7)) hs.drop.drop
    · refine kept2 hs (fun hk => ?_) ((hg4.trans hg5).trans (hg6.trans hg7))
      refine goh ?_
      refine EH.one (St.string rfl Tryz.underlying33 Tryz.underlying5 Tryz.underlying9 (hp5'.row hs) ?_)
      refine kept2 hs (fun hk => ?_) ((hg4.trans hg5).trans (hg6.trans hg7))
      refine goh ?_
      refine EH.done ?_
      refine go ?_
      refine A.r1 ?_
      exact HR.out _ _ ((hg4.trans hg5).trans (hg6.trans hg7)) hs.drop.drop

/-- Two lists of events, by their bytes. -/
def sameE (a b : List Ev) : Bool := decide (a.map Ev.enc = b.map Ev.enc)

end Go.Proofs.YtdkbpcibmipelaaGreatDoor

/-
  The reference of layer 12: are two lists of events one?
-/
namespace Go.Proofs.YtdkbpcibmipelaaGreatDoor
open Go.RowKit
set_option linter.unusedVariables false
set_option linter.unusedSimpArgs false

set_option maxHeartbeats 3200000 in
set_option maxRecDepth 100000 in
theorem sameAll_any {R : Ending → World → Prop} {W w : World} {g : Hl} {H : List HP} {x y : El} (hx : x.ok g) (hy : y.ok g) (fx : ∀ e ∈ x.es, e.fit) (fy : ∀ e ∈ y.es, e.fit) (hlx : x.es.length ≤ 1000000000) (hly : y.es.length ≤ 1000000000) (hs : Sat W w g H)
    (hR : ∀ w' g', Hl.le g g' → Sat W w' g' H → R (.returned (.bool (sameE x.es y.es))) w') :
    Calls Tryz.prog 25 #[x.v, y.v] w R := by
  have HR := Lib.hid hR
  clear hR
  refine C.calls (args := [.slice x.a x.es.length x.c, .slice y.a y.es.length y.c]) Tryz.func25 rfl rfl rfl ?_
  refine go ?_
  cases h0 : decide ((x.es.length : Int) = y.es.length) with
  | false =>
    have h0 := of_decide_eq_false h0
    refine go ?_
    refine A.r1 ?_
    have := HR.out _ g (Hl.le_refl _) hs
    rw [show sameE x.es y.es = false from decide_eq_false (fun h => by have := congrArg List.length h; simp at this; omega)] at this
    exact this
  | true =>
  have h0 := of_decide_eq_true h0
  refine gob ?_
  have hxy0 : x.es.length = y.es.length := by omega
  have hxy := Lib.hid hxy0
  clear h0 hxy0
  refine C.block ?_
  refine C.lp (fun i : Nat => [(0, .slice x.a x.es.length x.c), (1, .slice y.a y.es.length y.c), (5, .int .i64 i)])
    (fun gk i w => gk = x.es.length - i ∧ i ≤ x.es.length ∧ (x.es.take i).map Ev.enc = (y.es.take i).map Ev.enc ∧ ∃ g', Hl.le g g' ∧ Sat W w g' H) x.es.length 0 ⟨rfl, Nat.zero_le _, rfl, g, Hl.le_refl _, hs⟩ ?_
  clear hs
  rintro gk i w2 ⟨rfl, hi, heq, g2, hg2, hs⟩
  refine go ?_
  refine C.cond_dec (p := (i : Int) < x.es.length) rfl (fun h => ?_) (fun h => ?_)
  · have hix : i < x.es.length := by omega
    have hiy : i < y.es.length := by have := hxy.out; omega
    have hiy' : (i : Int) < y.es.length := by omega
    have hrx := hx.row.mono hg2
    have hry := hy.row.mono hg2
    have hxy1 := hxy.out
    obtain ⟨bx, ox, hxa⟩ := pr_some hrx (by omega)
    obtain ⟨by_, oy, hya⟩ := pr_some hry (by omega)
    have hex := hx.evs x.es[i] (List.getElem_mem hix)
    have hey := hy.evs y.es[i] (List.getElem_mem hiy)
    simp only [El.v, hxa] at hrx
    simp only [El.v, hya] at hry
    clear hxy1
    refine go ?_
    rw [hxa, hya]
    refine C.held0 hs ?_
    intro w3 hk hs
    refine goh ?_
    refine EH.t0 hk ?_ (hy := Pf.loadpr ag_ev hrx hix (evC_at hix) rfl rfl)
    refine EH.t0 hk ?_ (hy := Pf.loadpr ag_ev hry hiy (evC_at hiy) rfl rfl)
    refine EH.one (St.callf Tryz.func54 rfl ?_)
    refine same_any (e := x.es[i]) (f := y.es[i]) (hex.1.mono hg2) (hey.1.mono hg2) (fx _ (List.getElem_mem hix)) (fy _ (List.getElem_mem hiy)) hs ?_
    intro w4 g4 hg4 hs
    refine kept0 hs (fun hk => ?_) hg4
    refine goh ?_
    refine EH.done ?_
    refine go ?_
    cases hd : decide (x.es[i].enc = y.es[i].enc) with
    | true =>
      have hd := of_decide_eq_true hd
      refine go ?_
      rw [← hxa, ← hya]
      refine A.rd (x.es.length - (i + 1)) (i + 1) ⟨rfl, by omega, ?_, g4, hg2.trans hg4, hs⟩
      rw [List.take_succ_eq_append_getElem hix, List.take_succ_eq_append_getElem hiy, List.map_append, List.map_append, heq]
      simp [hd]
    | false =>
      have hd := of_decide_eq_false hd
      refine go ?_
      refine A.r1 ?_
      have := HR.out _ _ (hg2.trans hg4) hs
      rw [show sameE x.es y.es = false from decide_eq_false (fun h => hd (by
        have h1 := congrArg (fun l => l[i]?) h
        simp only [List.getElem?_map, List.getElem?_eq_getElem hix, List.getElem?_eq_getElem hiy, Option.map_some, Option.some.injEq] at h1
        exact h1))] at this
      exact this
  · obtain rfl : i = x.es.length := by omega
    refine go ?_
    refine A.r1 ?_
    have := HR.out _ _ hg2 hs
    rw [List.take_length, hxy.out, List.take_length] at heq
    rw [show sameE x.es y.es = true from decide_eq_true heq] at this
    exact this
end Go.Proofs.YtdkbpcibmipelaaGreatDoor
