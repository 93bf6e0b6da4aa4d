/-
  Layer 6 (event): Decode; an event as it is kept.
-/
import Derived.Test.YtfhmamkafancbaaGreatDoorM08
import Derived.WalkKit
import Derived.Test.YtfhmamkafancbaaGreatDoorM06
import Derived.Test.YtfhmamkafancbaaGreatDoorM02
namespace Go.Proofs.YtfhmamkafancbaaGreatDoor
open Go.RowKit
set_option linter.unusedVariables false
set_option linter.unusedSimpArgs false
def Ep.right (p : Ep) : Int := (p.ev (.slice none 0 0)).right
theorem Ep.right_ev (p : Ep) (tv : Value) : (p.ev tv).right = p.right := rfl
/-- Decode, plain. -/
def decE (l : List UInt8) : Except Int Ep :=
  match rdEv l with
  | .error e => .error e
  | .ok p => if p.right = 0 then .ok p else .error p.right
/-- No event. -/
def noEv : Value := .agg #[.int .i64 0, .int .u64 0, .int .u64 0, .int .u8 0, .string ⟨#[]⟩, .slice none 0 0, .float .f64 0, .int .i64 0]
set_option maxHeartbeats 3200000 in
set_option maxRecDepth 100000 in
theorem decode_any {R : Ending → World → Prop} {W w : World} {g : Hl} {H : List HP} {a : Option Addr} {n c : Nat} {l : List UInt8} (hs : Sat W w g H) (hp : Pr 1 g (.slice a n c) n (bs l)) (hl : l.length = n) (hn : n ≤ 100000000)
    (hOK : ∀ p tv w' g', Hl.le g g' → decE l = .ok p → (p.ev tv).ok g' → Sat W w' g' H → R (.returned (.tuple #[(p.ev tv).val, .int .i64 0])) w')
    (hE : ∀ e w' g', Hl.le g g' → decE l = .error e → e ≠ 0 → Sat W w' g' H → R (.returned (.tuple #[noEv, .int .i64 e])) w') :
    Calls Tryz.prog 242 #[.slice a n c] w R := by
  have HOK := Lib.hid hOK
  have HE := Lib.hid hE
  clear hOK hE
  have ag1 := ag_ev
  refine C.calls (args := [.slice a n c]) Tryz.func242 rfl rfl rfl ?_
  refine go ?_
  refine E.al hs ?_
  intro b2 w2 hs
  refine go ?_
  refine E.callf Tryz.func271 rfl ?_
  refine eread_any hs hp hl hn ?_ ?_
  · intro p tv w3 g3 hg3 hr ho hs
    refine go ?_
    refine E.al hs ?_
    intro b4 w4 hs
    refine E.sto (vs := (p.ev tv).cs) (ys := (p.ev tv).cs) hs ?_ (hv := rfl) (hsp := spl_all (by rfl)) (h1 := Ev.cs_one ho)
    intro w5 hs
    refine go ?_
    refine E.callf Tryz.func51 rfl ?_
    refine right_any (e := p.ev tv) ho hs ?_
    intro w6 hs
    rw [Ep.right_ev]
    refine go ?_
    cases hd : decide (p.right = 0) with
    | true =>
      have hd := of_decide_eq_true hd
      refine go ?_
      refine E.sto (vs := (p.ev tv).cs) (ys := (p.ev tv).cs) hs ?_ (hv := rfl) (hsp := spl_all (by rfl)) (h1 := Ev.cs_one ho)
      intro w7 hs
      refine go ?_
      refine A.c1t1 rfl rfl rfl (run_lda hs ag_ev) ?_
      exact HOK.out p tv _ g3 hg3 (by simp only [decE, hr, if_pos hd]) ho hs.drop.drop
    | false =>
      have hd := of_decide_eq_false hd
      refine go ?_
      refine E.sto (vs := [.int .i64 0, .int .u64 0, .int .u64 0, .int .u8 0, .string ⟨#[]⟩, .slice none 0 0, .float .f64 0, .int .i64 0]) (ys := [.int .i64 0, .int .u64 0, .int .u64 0, .int .u8 0, .string ⟨#[]⟩, .slice none 0 0, .float .f64 0, .int .i64 0]) hs ?_ (hv := rfl) (hsp := rfl)
      intro w7 hs
      refine go ?_
      refine A.c1t1 rfl rfl rfl (run_lda hs ag_ev) ?_
      exact HE.out _ _ g3 hg3 (by simp only [decE, hr, if_neg hd]) hd hs.drop.drop
  · intro e cs w3 g3 hg3 hr hne hcl hc1 hs
    have hde : decide (e = 0) = false := decide_eq_false hne
    refine go ?_
    refine E.al hs ?_
    intro b4 w4 hs
    refine E.sto (vs := cs) (ys := cs) hs ?_ (hv := rfl) (hsp := spl_all (by rw [hcl]; rfl)) (h1 := hc1) (hj := by rw [hcl]; rfl) (ht := by rw [hcl]; exact sz_)
    intro w5 hs
    refine go ?_
    rw [hde]
    refine go ?_
    rw [hde]
    refine go ?_
    refine E.sto (vs := [.int .i64 0, .int .u64 0, .int .u64 0, .int .u8 0, .string ⟨#[]⟩, .slice none 0 0, .float .f64 0, .int .i64 0]) (ys := [.int .i64 0, .int .u64 0, .int .u64 0, .int .u8 0, .string ⟨#[]⟩, .slice none 0 0, .float .f64 0, .int .i64 0]) hs ?_ (hv := rfl) (hsp := rfl)
    intro w7 hs
    refine go ?_
    refine A.c1t1 rfl rfl rfl (run_lda hs ag_ev) ?_
    exact HE.out _ _ g3 hg3 (by simp only [decE, hr]) hne hs.drop.drop
set_option maxHeartbeats 3200000 in
set_option maxRecDepth 100000 in
theorem eplain_any {R : Ending → World → Prop} {W w : World} {g : Hl} {H : List HP} {e : Ev} (ho : e.ok g) (hw : 0 ≤ e.wr) (hnd : e.kd = 5 → 0 ≤ e.nd) (hs : Sat W w g H)
    (hR : ∀ tv w' g', Hl.le g g' → (e.ep.ev tv).ok g' → Sat W w' g' H → R (.returned (e.ep.ev tv).val) w') : Calls Tryz.prog 33 #[e.val] w R := by
  have HR := Lib.hid hR
  clear hR
  obtain ⟨a, c, etv, hnc, _⟩ := ho.tv.len
  have htv := ho.tv
  rw [etv] at htv
  have hko := ho.kd
  have hsqo := ho.sq
  have htmo := ho.tm
  have hkeyo := ho.key
  have htxo := ho.text
  have hnumo := ho.num
  have hndo := ho.nd
  have hwro := ho.wr
  have ag1 := ag_ev
  refine C.calls (args := [e.val]) Tryz.func33 rfl rfl rfl ?_
  refine go ?_
  refine E.bx hs (xs := e.cs) ?_ (hx := rfl)
  intro b1 w1 hs
  refine go ?_
  refine E.al hs ?_
  intro b2 w2 hs
  refine go ?_
  refine E.al hs ?_
  intro b3 w3 hs
  refine E.sto (vs := [.int .i64 e.wr, .int .u64 e.sq, .int .u64 e.tm, .int .u8 e.kd, .string ⟨#[]⟩, .slice none 0 0, .float .f64 0, .int .i64 0]) (ys := [.int .i64 e.wr, .int .u64 e.sq, .int .u64 e.tm, .int .u8 e.kd, .string ⟨#[]⟩, .slice none 0 0, .float .f64 0, .int .i64 0]) hs ?_ (hv := rfl) (hsp := rfl)
  intro w4 hs
  apply later (α := Unit) (f := fun _ => [(1, .pointer (some ⟨b1, 0, none⟩)), (2, .pointer (some ⟨b2, 0, none⟩)), (3, .pointer (some ⟨b3, 0, none⟩)), (25, .int .u8 e.kd), (26, .bool (decide ((e.kd : Int) = 1)))])
    (M := fun _ w => Sat W w g (blk b3 [.int .i64 e.wr, .int .u64 e.sq, .int .u64 e.tm, .int .u8 e.kd, .string ⟨(e.ep.key).toArray⟩, .slice none 0 0, .float .f64 0, .int .i64 0] 26 :: blk b2 [.int .i64 0, .int .u64 0, .int .u64 0, .int .u8 0, .string ⟨#[]⟩, .slice none 0 0, .float .f64 0, .int .i64 0] 26 :: blk b1 e.cs 26 :: H))
  · intro ky
    have hno : ¬ (1 ≤ e.kd ∧ e.kd ≤ 4) → e.ep.key = [] := fun h => by simp only [Ev.ep, if_neg h]
    have hyes : (1 ≤ e.kd ∧ e.kd ≤ 4) → e.ep.key = e.key := fun h => by simp only [Ev.ep, if_pos h]
    refine go ?_
    cases c1 : decide ((1 : Int) ≤ e.kd) with
    | false =>
      have c1 := of_decide_eq_false c1
      rw [hno (by omega)] at ky
      refine go ?_
      exact C.forget wk_ (ky () _ hs)
    | true =>
      have c1 := of_decide_eq_true c1
      refine go ?_
      cases c2 : decide ((e.kd : Int) ≤ 4) with
      | false =>
        have c2 := of_decide_eq_false c2
        rw [hno (by omega)] at ky
        refine go ?_
        exact C.forget wk_ (ky () _ hs)
      | true =>
        have c2 := of_decide_eq_true c2
        rw [hyes (by omega)] at ky
        refine go ?_
        refine E.sto (vs := [.string ⟨e.key.toArray⟩]) (ys := [.int .i64 e.wr, .int .u64 e.sq, .int .u64 e.tm, .int .u8 e.kd, .string ⟨e.key.toArray⟩, .slice none 0 0, .float .f64 0, .int .i64 0]) hs ?_ (hv := rfl) (hsp := rfl)
        intro w5 hs
        refine go ?_
        exact C.forget wk_ (ky () _ hs)
  clear hs
  rintro _ w6 hs
  have hkl : e.ep.key.length ≤ 100000000 := by
    simp only [Ev.ep]
    split
    · exact hkeyo
    · simp
  have fin : ∀ (tv : Value) w' g', Hl.le g g' → Pr 1 g' tv e.ep.text.length (bs e.ep.text) → Sat W w' g' (blk b3 [.int .i64 e.wr, .int .u64 e.sq, .int .u64 e.tm, .int .u8 e.kd, .string ⟨(e.ep.key).toArray⟩, tv, .float .f64 e.ep.num, .int .i64 e.ep.nd] 26 :: H) → R (.returned (.agg #[.int .i64 e.wr, .int .u64 e.sq, .int .u64 e.tm, .int .u8 e.kd, .string ⟨(e.ep.key).toArray⟩, tv, .float .f64 e.ep.num, .int .i64 e.ep.nd])) w' := by
    intro tv w' g' hg' hp hs
    have := HR.out tv w' g' hg' ?_ hs.drop
    · rw [show (e.ep.ev tv).val = .agg #[.int .i64 e.wr, .int .u64 e.sq, .int .u64 e.tm, .int .u8 e.kd, .string ⟨(e.ep.key).toArray⟩, tv, .float .f64 e.ep.num, .int .i64 e.ep.nd] by
        simp only [Ev.val, Ev.cs, Ep.ev]
        rw [show ((e.ep.wr : Nat) : Int) = e.wr by simp only [Ev.ep]; omega]
        rfl] at this
      exact this
    · simp only [Ep.ev]
      refine ⟨?_, hsqo, htmo, hko, ?_, ?_, hkl, ?_, hp⟩
      · simp only [Ev.ep]; omega
      · simp only [Ev.ep]
        split
        · exact bitsF_lt hnumo
        · omega
      · simp only [Ev.ep]; split <;> omega
      · simp only [Ev.ep]
        split
        · exact htxo
        · simp
  clear HR
  have HR := Lib.hid fin
  clear fin
  apply laterE (α := (Option Addr × Nat) × Nat × Int × Hl) (f := fun x => [(2, .pointer (some ⟨b2, 0, none⟩)), (44, .agg #[.int .i64 e.wr, .int .u64 e.sq, .int .u64 e.tm, .int .u8 e.kd, .string ⟨(e.ep.key).toArray⟩, .slice x.1.1 e.ep.text.length x.1.2, .float .f64 x.2.1, .int .i64 x.2.2.1])])
    (M := fun x w => x.2.1 = e.ep.num ∧ x.2.2.1 = e.ep.nd ∧ Hl.le g x.2.2.2 ∧ Pr 1 x.2.2.2 (.slice x.1.1 e.ep.text.length x.1.2) e.ep.text.length (bs e.ep.text) ∧ Sat W w x.2.2.2 (blk b3 [.int .i64 e.wr, .int .u64 e.sq, .int .u64 e.tm, .int .u8 e.kd, .string ⟨(e.ep.key).toArray⟩, .slice x.1.1 e.ep.text.length x.1.2, .float .f64 x.2.1, .int .i64 x.2.2.1] 26 :: blk b2 [.int .i64 0, .int .u64 0, .int .u64 0, .int .u8 0, .string ⟨#[]⟩, .slice none 0 0, .float .f64 0, .int .i64 0] 26 :: blk b1 e.cs 26 :: H))
  · intro ky
    by_cases k1 : e.kd = 1
    · have ht : e.ep.text = e.text := by simp only [Ev.ep, if_pos k1]
      have hn0 : 0 = e.ep.num := by simp only [Ev.ep]; rw [if_neg (by omega)]
      have hd0 : (0 : Int) = e.ep.nd := by simp only [Ev.ep]; rw [if_neg (by omega)]; rfl
      replace hn0 := Lib.hid hn0
      replace hd0 := Lib.hid hd0
      rw [ht] at ky
      rw [show decide ((e.kd : Int) = 1) = true from decide_eq_true (by omega)]
      refine go ?_
      rw [etv]
      refine E.app el_u8 hs.nilOwn (htv.row hs) ?_
      intro a7 c7 w7 _ _ hs
      rw [Nat.zero_add] at hs ⊢
      rw [List.nil_append] at hs
      obtain ⟨g10, hg10, hp10, hs⟩ := hs.publishOwn
      refine go ?_
      refine E.sto (vs := [.slice a7 e.text.length c7]) (ys := [.int .i64 e.wr, .int .u64 e.sq, .int .u64 e.tm, .int .u8 e.kd, .string ⟨(e.ep.key).toArray⟩, .slice a7 e.text.length c7, .float .f64 0, .int .i64 0]) hs ?_ (hv := rfl) (hsp := rfl)
      intro w8 hs
      refine go ?_
      exact E.forget wk_ (ky ((a7, c7), 0, 0, g10) _ ⟨hn0.out, hd0.out, hg10, hp10, hs⟩)
    · have ht : e.ep.text = [] := by simp only [Ev.ep, if_neg k1]
      rw [ht] at ky
      rw [show decide ((e.kd : Int) = 1) = false from decide_eq_false (by omega)]
      refine go ?_
      by_cases k2 : e.kd = 2 ∨ e.kd = 3
      · have hn0 : bitsF e.num = e.ep.num := by simp only [Ev.ep]; rw [if_pos k2]
        have hd0 : (0 : Int) = e.ep.nd := by simp only [Ev.ep]; rw [if_neg (by omega)]; rfl
        replace hn0 := Lib.hid hn0
        replace hd0 := Lib.hid hd0
        apply laterE (α := Unit) (f := fun _ => [(2, .pointer (some ⟨b2, 0, none⟩)), (3, .pointer (some ⟨b3, 0, none⟩)), (36, .float .f64 e.num)]) (M := fun _ w => Sat W w g (blk b3 [.int .i64 e.wr, .int .u64 e.sq, .int .u64 e.tm, .int .u8 e.kd, .string ⟨(e.ep.key).toArray⟩, .slice none 0 0, .float .f64 0, .int .i64 0] 26 :: blk b2 [.int .i64 0, .int .u64 0, .int .u64 0, .int .u8 0, .string ⟨#[]⟩, .slice none 0 0, .float .f64 0, .int .i64 0] 26 :: blk b1 e.cs 26 :: H))
        · intro kf
          rcases k2 with k2 | k2
          · rw [show decide ((e.kd : Int) = 2) = true from decide_eq_true (by omega)]
            refine go ?_
            exact E.forget wk_ (kf () _ hs)
          · rw [show decide ((e.kd : Int) = 2) = false from decide_eq_false (by omega)]
            refine go ?_
            rw [show decide ((e.kd : Int) = 3) = true from decide_eq_true (by omega)]
            refine go ?_
            exact E.forget wk_ (kf () _ hs)
        · rintro _ w7 hs
          refine E.callf Tryz.func82 rfl ?_
          refine plain_any ?_
          refine go ?_
          refine E.sto (vs := [.float .f64 (bitsF e.num)]) (ys := [.int .i64 e.wr, .int .u64 e.sq, .int .u64 e.tm, .int .u8 e.kd, .string ⟨(e.ep.key).toArray⟩, .slice none 0 0, .float .f64 (bitsF e.num), .int .i64 0]) hs ?_ (hv := rfl) (hsp := rfl)
          intro w8 hs
          refine go ?_
          exact E.forget wk_ (ky ((none, 0), bitsF e.num, 0, g) _ ⟨hn0.out, hd0.out, Hl.le_refl _, Pr.nil, hs⟩)
      · have hn0 : 0 = e.ep.num := by simp only [Ev.ep]; rw [if_neg k2]
        replace hn0 := Lib.hid hn0
        rw [show decide ((e.kd : Int) = 2) = false from decide_eq_false (by omega)]
        refine go ?_
        rw [show decide ((e.kd : Int) = 3) = false from decide_eq_false (by omega)]
        refine go ?_
        by_cases k5 : e.kd = 5
        · have hd0 : e.nd = e.ep.nd := by have := hnd k5; simp only [Ev.ep]; rw [if_pos k5]; omega
          replace hd0 := Lib.hid hd0
          rw [show decide ((e.kd : Int) = 5) = true from decide_eq_true (by omega)]
          refine go ?_
          refine E.sto (vs := [.int .i64 e.nd]) (ys := [.int .i64 e.wr, .int .u64 e.sq, .int .u64 e.tm, .int .u8 e.kd, .string ⟨(e.ep.key).toArray⟩, .slice none 0 0, .float .f64 0, .int .i64 e.nd]) hs ?_ (hv := rfl) (hsp := rfl)
          intro w8 hs
          refine go ?_
          exact E.forget wk_ (ky ((none, 0), 0, e.nd, g) _ ⟨hn0.out, hd0.out, Hl.le_refl _, Pr.nil, hs⟩)
        · have hd0 : (0 : Int) = e.ep.nd := by simp only [Ev.ep]; rw [if_neg k5]; rfl
          replace hd0 := Lib.hid hd0
          rw [show decide ((e.kd : Int) = 5) = false from decide_eq_false (by omega)]
          refine go ?_
          exact E.forget wk_ (ky ((none, 0), 0, 0, g) _ ⟨hn0.out, hd0.out, Hl.le_refl _, Pr.nil, hs⟩)
  · rintro ⟨⟨a7, c7⟩, num, nd, g7⟩ w9 ⟨h1, h2, hg7, hp7, hs⟩
    simp only at h1 h2 hg7 hp7 hs ⊢
    refine E.sto (vs := [.int .i64 e.wr, .int .u64 e.sq, .int .u64 e.tm, .int .u8 e.kd, .string ⟨(e.ep.key).toArray⟩, .slice a7 e.ep.text.length c7, .float .f64 num, .int .i64 nd]) (ys := [.int .i64 e.wr, .int .u64 e.sq, .int .u64 e.tm, .int .u8 e.kd, .string ⟨(e.ep.key).toArray⟩, .slice a7 e.ep.text.length c7, .float .f64 num, .int .i64 nd]) hs ?_ (hv := rfl) (hsp := rfl)
    intro w10 hs
    refine go ?_
    refine A.c1 rfl rfl (run_lda hs ag_ev) ?_
    subst h1 h2
    exact HR.out _ _ g7 hg7 hp7 hs.swap.drop.swap.drop
end Go.Proofs.YtfhmamkafancbaaGreatDoor

/-
  A heap, in plain words: keys by place.
-/
namespace Go.Proofs.YtfhmamkafancbaaGreatDoor
set_option linter.unusedVariables false
section
variable {α : Type} (k : α → Nat)
/-- The key at a place. -/
def kat (l : List α) (q : Nat) : Nat := (l[q]?.map k).getD 0
def Heap (f : Nat → Nat) (s n : Nat) : Prop := ∀ c, 0 < c → c < n → s ≤ (c - 1) / 2 → f ((c - 1) / 2) ≤ f c
end
end Go.Proofs.YtfhmamkafancbaaGreatDoor

/-
  Layer 12 (order): lists of events, by their first ones: what lies in memory; Len, Less, Swap, Pop.
-/
namespace Go.Proofs.YtfhmamkafancbaaGreatDoor
open Go.RowKit
set_option linter.unusedVariables false
set_option linter.unusedSimpArgs false
/-- The cells of events. -/
def evC (l : List Ev) : List Value := l.flatMap Ev.cs
@[simp] theorem evC_length (l : List Ev) : (evC l).length = l.length * 8 := by
  induction l with
  | nil => rfl
  | cons x r ih => simp only [evC, List.flatMap_cons, List.length_append, List.length_cons] at ih ⊢; rw [ih]; simp [Ev.cs]; omega
theorem evC_drop : ∀ (l : List Ev) (j : Nat), (evC l).drop (j * 8) = evC (l.drop j)
  | l, 0 => by simp
  | [], j + 1 => by simp [evC]
  | x :: r, j + 1 => by
    have : (j + 1) * 8 = 8 + j * 8 := by omega
    rw [this, ← List.drop_drop]
    have h8 : (evC (x :: r)).drop 8 = evC r := by simp [evC, Ev.cs]
    rw [h8, evC_drop r j]
    rfl
theorem evC_take : ∀ (l : List Ev) (j : Nat), (evC l).take (j * 8) = evC (l.take j)
  | l, 0 => by simp [evC]
  | [], j + 1 => by simp [evC]
  | x :: r, j + 1 => by
    have : (j + 1) * 8 = 8 + j * 8 := by omega
    have e1 : evC (x :: r) = x.cs ++ evC r := rfl
    have e2 : x.cs.length = 8 := rfl
    rw [this, e1, List.take_append, e2, List.take_of_length_le (by rw [e2]; omega), show 8 + j * 8 - 8 = j * 8 by omega, evC_take r j]
    rfl
theorem evC_at {l : List Ev} {j : Nat} (h : j < l.length) : ((evC l).drop (j * 8)).take 8 = l[j].cs := by
  rw [evC_drop, List.drop_eq_getElem_cons h]
  exact (evC_take (l[j] :: l.drop (j + 1)) 1).trans (by simp only [List.take_succ_cons, List.take_zero, evC, List.flatMap_cons, List.flatMap_nil, List.append_nil])
theorem evC_append (a b : List Ev) : evC (a ++ b) = evC a ++ evC b := by simp [evC]
theorem el_ev : ElemOf Tryz.prog 41 26 (.agg #[.int .i64 0, .int .u64 0, .int .u64 0, .int .u8 0, .string ⟨#[]⟩, .slice none 0 0, .float .f64 0, .int .i64 0]) 8 88 := .of Tryz.underlying41 (by kernel_rfl) rfl (by decide)
/-- Events that may be in order: their writers are small. -/
def Ev.low (e : Ev) : Prop := 0 ≤ e.wr ∧ e.wr < 64
def Ev.ky (e : Ev) : Nat := e.tm * 64 + e.wr.toNat
/-- A list that isn't empty, and where it lies. -/
structure Hd where
  b : Nat
  o : Nat
  c : Nat
  es : List Ev
def Hd.v (x : Hd) : Value := .slice (some ⟨x.b, x.o, none⟩) x.es.length x.c
def Hd.hd (x : Hd) : Ev := x.es.headD ⟨0, 0, 0, 0, [], [], 0, 0, .slice none 0 0⟩
structure Hd.ok (x : Hd) (g : Hl) : Prop where
  row : Pr 8 g x.v x.es.length (evC x.es)
  ne : x.es ≠ []
  evs : ∀ e ∈ x.es, e.ok g ∧ e.low
theorem Hd.ok.mono {x : Hd} {g g' : Hl} (h : x.ok g) (hg : Hl.le g g') : x.ok g' := ⟨h.row.mono hg, h.ne, fun e he => ⟨(h.evs e he).1.mono hg, (h.evs e he).2⟩⟩
def Hd.ky (x : Hd) : Nat := x.hd.ky
/-- The lists' own row. -/
def hrow (v : Value) (n : Nat) (L : List Hd) : HP := own 41 1 v n (L.map Hd.v)
set_option maxHeartbeats 1600000 in
set_option maxRecDepth 100000 in
theorem hlen_any {R : Ending → World → Prop} {w : World} {a : Option Addr} {n c : Nat} (hR : R (.returned (.int .i64 n)) w) : Calls Tryz.prog 323 #[.slice a n c] w R := by
  have HR := Lib.hid hR
  clear hR
  refine C.calls (args := [.slice a n c]) Tryz.func323 rfl rfl rfl ?_
  refine go ?_
  refine A.r1 ?_
  exact HR.out
end Go.Proofs.YtfhmamkafancbaaGreatDoor

/-
  Layer 12 (order): the library's heap over lists of events: down, Fix, Init, Pop.
-/
namespace Go.Proofs.YtfhmamkafancbaaGreatDoor
open Go.RowKit
set_option linter.unusedVariables false
set_option linter.unusedSimpArgs false
theorem m_len : MethOf Tryz.prog 279 "Len" 323 false := .mk (by kernel_rfl)
/-- A cursor, and its lists. -/
def cur (cb : Nat) (L : List Hd) : HP := exs fun q : Option Addr × Nat => wit (fun g => ∀ x ∈ L, x.ok g) (fun _ _ hg h x hx => (h x hx).mono hg) (sep (blk cb [.slice q.1 L.length q.2] 277) (hrow (.slice q.1 L.length q.2) L.length L))
theorem cur_open {W w : World} {g : Hl} {H : List HP} {cb : Nat} {L : List Hd} (hs : Sat W w g (cur cb L :: H)) : ∃ a c, (∀ x ∈ L, x.ok g) ∧ Sat W w g (blk cb [.slice a L.length c] 277 :: hrow (.slice a L.length c) L.length L :: H) := by
  obtain ⟨⟨a, c⟩, h⟩ := hs.unexs
  exact ⟨a, c, h.unwit.1, h.unwit.2.split⟩
def ci (cb : Nat) : Value := .iface 279 (.pointer (some ⟨cb, 0, none⟩))
section
variable {n : Fm} {ρ : List (Nat × Value)} {W w : World} {g : Hl} {H : List HP} {Q : Exit → Act → World → Prop} {ops : Array Oper} {rest : List Oper} {d : Option Tmp} {ty : TypeId} {ps : String} {af : Array Edge} {cb i j : Nat} {L : List Hd} {recv x y : Operand} {ts : Array TypeId}
theorem E.hlen (hs : Sat W w g (cur cb L :: H)) (h : E Tryz.prog n ops rest (pushv d (.int .i64 L.length) ρ) w Q)
    (hv : evo n ρ recv = some (ci cb) := by exact rfl) : E Tryz.prog n ops (⟨d, .call ⟨.invoke recv "Len", #[], ts⟩, ty, ps, af, none⟩ :: rest) ρ w Q := by
  obtain ⟨a, c, hok, hs1⟩ := cur_open hs
  exact E.inv Tryz.func323 (run_meth_val m_len Tryz.underlying279 (run_ld hs1)) (hlen_any h) hv rfl
end
end Go.Proofs.YtfhmamkafancbaaGreatDoor

/-
  Layer 12 (order): the library's heap over lists of events: Init, Fix, Pop.
-/
namespace Go.Proofs.YtfhmamkafancbaaGreatDoor
open Go.RowKit
set_option linter.unusedVariables false
set_option linter.unusedSimpArgs false
end Go.Proofs.YtfhmamkafancbaaGreatDoor

/-
  Layer 12 (order): a cursor: New, Next.
-/
namespace Go.Proofs.YtfhmamkafancbaaGreatDoor
open Go.RowKit
set_option linter.unusedVariables false
set_option linter.unusedSimpArgs false
/-- A list of events, as a slice of the pool's. -/
structure El where
  a : Option Addr
  c : Nat
  es : List Ev
def El.v (x : El) : Value := .slice x.a x.es.length x.c
structure El.ok (x : El) (g : Hl) : Prop where
  row : Pr 8 g x.v x.es.length (evC x.es)
  evs : ∀ e ∈ x.es, e.ok g ∧ e.low
theorem El.ok.mono {x : El} {g g' : Hl} (h : x.ok g) (hg : Hl.le g g') : x.ok g' := ⟨h.row.mono hg, fun e he => ⟨(h.evs e he).1.mono hg, (h.evs e he).2⟩⟩
/-- Rising strictly. -/
def Up1 (l : List Ev) : Prop := l.Pairwise fun a b => a.ky < b.ky
structure CrOk (L : List Hd) (T : List Ev) : Prop where
  heap : Heap (kat Hd.ky L) 0 L.length
  each : ∀ x ∈ L, Up1 x.es
  up : Up1 T
  perm : T.Perm (L.flatMap Hd.es)
  few : L.length ≤ 1000000000
end Go.Proofs.YtfhmamkafancbaaGreatDoor

/-
  Layer 8 (segment): how long a record is, a new segment.
-/
namespace Go.Proofs.YtfhmamkafancbaaGreatDoor
open Go.RowKit
set_option linter.unusedVariables false
set_option linter.unusedSimpArgs false
theorem ag_sg : AggOf Tryz.prog 157 4 := ⟨_, Tryz.underlying157, rfl, by kernel_rfl⟩
/-- How many bytes a record has. -/
def recN (n : Nat) : Nat := (layN n).length + n + 4
/-- A segment. -/
structure Sg where
  wr : Nat
  first : Nat
  x : El
  size : Nat
def Sg.cs (s : Sg) : List Value := [.int .i64 s.wr, .int .u64 s.first, s.x.v, .int .i64 s.size]
def Sg.val (s : Sg) : Value := .agg s.cs.toArray
def Sg.next (s : Sg) : Nat := (s.first + s.x.es.length) % 18446744073709551616
def noSg : Value := .agg #[.int .i64 0, .int .u64 0, .slice none 0 0, .int .i64 0]
set_option maxHeartbeats 1600000 in
set_option maxRecDepth 100000 in
theorem digitsSize_any {R : Ending → World → Prop} {w : World} {n : Nat} (hn : n < 18446744073709551616) (hR : ∀ w', w' = w → R (.returned (.int .i64 (layN n).length)) w') : Calls Tryz.prog 211 #[.int .u64 n] w R := by
  have HR := Lib.hid hR
  clear hR
  have hlen := layN_ten hn
  refine C.calls (args := [.int .u64 n]) Tryz.func211 rfl rfl rfl ?_
  refine gob ?_
  refine C.cut (fun _ : Unit => [(3, .int .i64 ((layN n).length : Nat))]) (fun _ w' => w' = w) ?_ ?_
  · refine C.block ?_
    refine C.lp (fun x : Nat × Nat => [(0, .int .u64 x.1), (3, .int .i64 (x.2 : Nat))]) (fun gk x w' => gk = x.1 ∧ x.1 < 18446744073709551616 ∧ x.2 + (layN x.1).length = (layN n).length + 1 ∧ w' = w) n (n, 1) ⟨rfl, hn, by simp only; omega, rfl⟩ ?_
    rintro m ⟨m, k⟩ w1 ⟨rfl, hm, hk, hw⟩
    simp only at hm hk ⊢
    refine go ?_
    refine C.cond_dec (p := (128 : Int) ≤ m) rfl (fun hlt => ?_) (fun hlt => ?_)
    · refine go ?_
      have hb := layN_big (n := m) (by omega)
      rw [hb, List.length_cons] at hk
      refine A.rd (m / 2 ^ 7) (m / 2 ^ 7, k + 1) ⟨rfl, by simp only; omega, by simp only; omega, hw⟩
    · refine go ?_
      have hb := layN_small (n := m) (by omega)
      rw [hb, List.length_singleton] at hk
      obtain rfl : k = (layN n).length := by omega
      exact A.mt () hw
  · rintro _ w1 hw
    refine go ?_
    refine A.r1 ?_
    exact HR.out _ hw
set_option maxHeartbeats 1600000 in
set_option maxRecDepth 100000 in
theorem checkSize_any {R : Ending → World → Prop} {w : World} {n : Nat} (hn : n ≤ 1000000000) (hR : R (.returned (.int .i64 (recN n))) w) : Calls Tryz.prog 170 #[.int .i64 n] w R := by
  have HR := Lib.hid hR
  clear hR
  have hlen := layN_ten (n := n) (by omega)
  refine C.calls (args := [.int .i64 n]) Tryz.func170 rfl rfl rfl ?_
  refine go ?_
  rw [show Max.max (n : Int) 0 = (n : Int) by omega]
  refine go ?_
  refine E.callf Tryz.func211 rfl ?_
  refine digitsSize_any (n := n) (by omega) ?_
  rintro _ rfl
  refine go ?_
  rw [show Max.max (n : Int) 0 = (n : Int) by omega]
  refine go ?_
  refine A.r1 ?_
  exact HR.out
set_option maxHeartbeats 1600000 in
set_option maxRecDepth 100000 in
theorem sgNext_any {R : Ending → World → Prop} {W w : World} {g : Hl} {H : List HP} {s : Sg} (hf : s.first < 18446744073709551616) (hl : s.x.es.length ≤ 1000000000) (hs : Sat W w g H)
    (hR : ∀ w', Sat W w' g H → R (.returned (.int .u64 s.next)) w') : Calls Tryz.prog 105 #[s.val] w R := by
  have HR := Lib.hid hR
  clear hR
  obtain ⟨wr, first, ⟨a, c, es⟩, size⟩ := s
  simp only at hf hl
  simp only [Sg.val, Sg.cs, El.v]
  refine C.calls (args := [(.agg #[.int .i64 wr, .int .u64 first, .slice a es.length c, .int .i64 size])]) Tryz.func105 rfl rfl rfl ?_
  refine go ?_
  refine E.bx hs ?_
  intro b1 w1 hs
  refine go ?_
  have key := HR.out _ hs.drop
  simp only [Sg.next] at key
  refine A.r1 ?_
  exact key
set_option maxHeartbeats 1600000 in
set_option maxRecDepth 100000 in
theorem sgCreate_any {R : Ending → World → Prop} {W w : World} {g : Hl} {H : List HP} {b : Nat} {d : Dk} {i n : Nat} (hg : Gl g) (hi : i < 64) (hn : n < 18446744073709551616) (h0 : n ≠ 0) (hs : Sat W w g (disk b d :: H))
    (hOK : ∀ w' g', Hl.le g g' → (d.begin (nameB i n) ⟨115, i, n⟩).1 = 0 → Sat W w' g' (disk b (d.begin (nameB i n) ⟨115, i, n⟩).2 :: H) → R (.returned (.tuple #[Sg.val ⟨i, n, ⟨none, 0, []⟩, (headB ⟨115, i, n⟩).length⟩, .int .i64 0])) w')
    (hE : ∀ w' g', Hl.le g g' → (d.begin (nameB i n) ⟨115, i, n⟩).1 ≠ 0 → Sat W w' g' (disk b (d.begin (nameB i n) ⟨115, i, n⟩).2 :: H) → R (.returned (.tuple #[noSg, .int .i64 (d.begin (nameB i n) ⟨115, i, n⟩).1])) w') :
    Calls Tryz.prog 168 #[ptr b, .int .i64 i, .int .u64 n] w R := by
  have HOK := Lib.hid hOK
  have HE := Lib.hid hE
  clear hOK hE
  have ag1 := ag_sg
  have ag2 := ag_title
  refine C.calls (args := [ptr b, .int .i64 i, .int .u64 n]) Tryz.func168 rfl rfl rfl ?_
  refine go ?_
  refine E.al hs ?_
  intro b6 w1 hs
  refine go ?_
  rw [show decide ((64 : Int) ≤ i) = false by rw [decide_eq_false_iff_not]; omega]
  refine go ?_
  have hne : decide ((n : Int) = 0) = false := by rw [decide_eq_false_iff_not]; omega
  refine C.cond rfl (fun h => by rw [hne] at h; cases h) (fun _ => ?_)
  clear hne
  refine go ?_
  refine E.al hs ?_
  intro b8 w2 hs
  refine go ?_
  refine E.sto hs ?_
  intro w3 hs
  refine go ?_
  refine C.held1 b8 hs ?_
  intro w4 hk hs
  refine goh ?_
  have hto : Ti.ok ⟨115, i, n⟩ := ⟨by simp only; omega, hn⟩
  refine EH.one (St.callf Tryz.func112 rfl ?_)
  refine segName_any hg (by omega) hn hs ?_
  intro w5 hs
  refine kept1 hs (fun hk => ?_) (Hl.le_refl _)
  refine goh ?_
  refine EH.one (St.callf Tryz.func210 rfl ?_)
  refine begin_any (t := ⟨115, i, n⟩) hto hs.pull2 ?_
  intro w6 g6 hg6 hs
  refine kept1 hs (fun hk => ?_) hg6
  refine goh ?_
  refine EH.done ?_
  refine go ?_
  by_cases hb : (d.begin (nameB i n) ⟨115, i, n⟩).1 = 0
  · have hd : (!decide ((d.begin (nameB i n) ⟨115, i, n⟩).1 = 0)) = false := by simp [hb]
    refine C.cond rfl (fun h => by rw [hd] at h; cases h) (fun _ => ?_)
    clear hd
    refine go ?_
    have hhl := headB_len hto
    refine E.callf Tryz.func192 rfl ?_
    refine head_any (t := ⟨115, i, n⟩) hs hto ?_
    intro a c w7 g7 hg7 hs
    refine go ?_
    refine E.sto hs ?_
    intro w8 hs
    refine go ?_
    refine A.c1t1 rfl rfl rfl (run_lda hs.pull3 ag_sg) ?_
    exact HOK.out _ _ (hg6.trans hg7) hb hs.drop.pull2.drop.swap.drop
  · have hd : (!decide ((d.begin (nameB i n) ⟨115, i, n⟩).1 = 0)) = true := by simp [hb]
    refine C.cond rfl (fun _ => ?_) (fun h => by rw [hd] at h; cases h)
    clear hd
    refine go ?_
    refine E.sto hs ?_
    intro w7 hs
    refine go ?_
    refine A.c1t1 rfl rfl rfl (run_lda hs.pull2 ag_sg) ?_
    exact HE.out _ _ hg6 hb hs.pull2.drop.swap.drop
end Go.Proofs.YtfhmamkafancbaaGreatDoor

/-
  append(s[:len(s):len(s)], e) of a row of the pool's: a new row; in a drawn region.
-/
namespace Go.Proofs.YtfhmamkafancbaaGreatDoor
open Go.RowKit
set_option linter.unusedVariables false
set_option linter.unusedSimpArgs false
section
variable {P : Program} {n : Fm} {ρ : List (Nat × Value)} {W w w' : World} {g g' : Hl} {H H' : List HP} {Q : Exit → Act → World → Prop} {l : List Oper} {S : World → Prop} {fuel m : Nat} {d : Option Tmp} {ty : TypeId} {ps : String} {af : Array Edge} {gd : Option (Nat × Bool)} {v u : Value} {x y : Operand} {t e : TypeId} {z : Value} {s bytes : Nat} {a : Option Addr} {k c i : Nat} {xs news : List Value}
theorem run_slf (he : ElemOf P t e z s bytes) (hp : Pr s g (.slice a k c) k xs) (kd kd' : IntKind) :
    ∃ a', (∀ w, (Instr.sliceAt t (.slice a k c) none (some (.int kd k)) (some (.int kd' k))).run P w = .ok (.slice a' k k) w) ∧ Pr s g (.slice a' k k) k xs := by
  obtain ⟨h1, a0, c0, e1, hn, hc, h0, h⟩ := hp
  simp only [Value.slice.injEq] at e1
  obtain ⟨rfl, _, rfl⟩ := e1
  refine ⟨a, fun w => ?_, h1, a, k, rfl, Nat.le_refl _, by omega, fun ha => ⟨(h0 ha).1, (h0 ha).1⟩, h⟩
  rw [run_slice_any he (l := 0) (h := k) (m := k) (.inl ⟨rfl, rfl⟩) (.inr ⟨_, _, rfl, rfl⟩) (.inr ⟨rfl, _, _, rfl, rfl⟩) hn (Nat.zero_le _) (Nat.le_refl _) hn (fun h => by cases h) w]
  by_cases hk : k = 0
  · rw [if_pos hk]; rfl
  · rw [if_neg hk]
    rcases h with h | ⟨b, o, cur, t', fz, rfl, _⟩
    · exact absurd h hk
    · simp [Addr.add_lit]
theorem run_appendp (he : ElemOf P t e z s bytes) (hp : Pr s g (.slice a k k) k xs) (hs : Sat W w g H) {q : Nat} {D : Nat → Prop} (hrow : Row s w D u q news) (hq : 0 < q) (h1 : ∀ x ∈ news, x.oneCell' = true) (h63 : k + q ≤ 9223372036854775807) (hbytes : (k + q) * bytes ≤ 140737488355328) :
    ∃ a' c' w', (Builtin.append_ #[t, t] ty #[.slice a k k, u]).run P w = .ok (.slice a' (k + q) c') w' ∧ Sat W w' g (own e s (.slice a' (k + q) c') (k + q) (xs ++ news) :: H) := by
  obtain ⟨hl, a0, c0, e1, _, _, hnone, _⟩ := id hp
  simp only [Value.slice.injEq] at e1
  obtain ⟨rfl, _, rfl⟩ := e1
  obtain ⟨ht, ⟨inf, hi, hz, hsz, hb⟩, hzs, hpos⟩ := he
  rcases hrow.news with ⟨_, h0, _⟩ | ⟨a', c', rfl, hnl, hnc⟩
  · omega
  have fin : ∀ v' w', w'.ownsRow w.heap.size e s v' (k + q) (xs ++ news) → w.grownBy w' none → ∃ a2 c2, v' = .slice a2 (k + q) c2 ∧ Sat W w' g (own e s (.slice a2 (k + q) c2) (k + q) (xs ++ news) :: H) := by
    intro v' w' ho hg
    have hs2 := (hs.newOwn ho ⟨hg.os, hg.tape, hg.output, hg.size, fun q hq => hg.block q hq (by simp)⟩)
    obtain ⟨a2, c2, rfl, _⟩ := hs2.ownLen
    exact ⟨a2, c2, rfl, hs2⟩
  cases ha : a with
  | none =>
    subst ha
    obtain ⟨rfl, _⟩ := hnone rfl
    obtain rfl : xs = [] := List.eq_nil_of_length_eq_zero (by simpa using hl)
    obtain ⟨v', w', hrun, r1, r2, _⟩ := run_append_own (P := P) w w.heap.size t ty e inf z s bytes ht hi hz hsz hb hzs hpos (.slice none 0 0) 0 [] (World.ownsRow_nil w _ e s) a' q c' news hnl hnc h1 (by unfold maxLen; omega) hbytes (Nat.le_refl _)
    obtain ⟨a2, c2, rfl, h2⟩ := fin v' w' r1 r2
    exact ⟨a2, c2, w', hrun, h2⟩
  | some ad =>
    subst ha
    have hc0 : ∀ j u, xs[j]? = some u → w.cell? (ad.add j) = some u := by
      rcases (hp.row hs).news with ⟨e, _⟩ | ⟨a, c, e, _, hc⟩
      · cases e
      · simp only [Value.slice.injEq, Option.some.injEq] at e
        obtain ⟨rfl, _⟩ := e
        exact hc
    obtain ⟨v', w', hrun, r1, r2⟩ := run_append_arg_grows (P := P) w t ty e inf z s bytes ht hi hz hsz hb hzs hpos ad k k xs hl hc0 a' q c' news hnl hnc (by omega) (by unfold maxLen; omega) hbytes
    obtain ⟨a2, c2, rfl, h2⟩ := fin v' w' r1 r2
    exact ⟨a2, c2, w', hrun, h2⟩
theorem St.appp {N : List (Nat × Value) → World → Prop} {ops : Array Oper} (he : ElemOf P t e z s bytes) (hp : Pr s g (.slice a k k) k xs) (hs : Sat W w g H) {q : Nat} {D : Nat → Prop} (hrow : Row s w D u q news) (hq : 0 < q) (h1 : ∀ x ∈ news, x.oneCell' = true) (h63 : k + q ≤ 9223372036854775807) (hbytes : (k + q) * bytes ≤ 140737488355328)
    (hx : evo n ρ x = some (.slice a k k)) (hy : evo n ρ y = some u)
    (h : ∀ a' c' w', Sat W w' g (own e s (.slice a' (k + q) c') (k + q) (xs ++ news) :: H) → N (pushv d (.slice a' (k + q) c') ρ) w') :
    St P n ops ⟨d, .call ⟨.builtin .append, #[x, y], #[t, t]⟩, ty, ps, af, none⟩ ρ w N Q := by
  obtain ⟨a', c', w', hr, hs'⟩ := run_appendp (P := P) (ty := ty) he hp hs hrow hq h1 h63 hbytes
  refine St.val (v := .slice a' (k + q) c') (w' := w') (fun ac ha => ?_) (h a' c' w' hs')
  simp only [execOp, resolve, invoke, builtin, Sem.run_bind, Sem.run_pure, Result.andThen_ok, List.map_toArray, List.map_cons, List.map_nil, ha.eval hx, ha.eval hy, hr]
theorem EH.appp (he : ElemOf P t e z s bytes) (hp : Pr s g (.slice a k k) k xs) (hs : Sat W w g H) {q : Nat} {D : Nat → Prop} (hrow : Row s w D u q news)
    (h : ∀ a' c' w', Sat W w' g (own e s (.slice a' (k + q) c') (k + q) (xs ++ news) :: H) → S w' ∧ EH P n l S fuel (bset m i) (pushv d (.slice a' (k + q) c') ρ) w' Q)
    (hr : rdy m l.length 0 l = [i] := by exact rfl) (hi : nth l i = some ⟨d, .call ⟨.builtin .append, #[x, y], #[t, t]⟩, ty, ps, af, none⟩ := by exact rfl) (hq : 0 < q := by omega) (h63 : k + q ≤ 9223372036854775807 := by omega) (hbytes : (k + q) * bytes ≤ 140737488355328 := by omega)
    (hx : evo n ρ x = some (.slice a k k) := by exact rfl) (hy : evo n ρ y = some u := by exact rfl) (h1 : ∀ x ∈ news, x.oneCell' = true := by first | exact bs_one _ | (intro u hu; simp only [List.mem_cons, List.not_mem_nil, or_false] at hu; rcases hu with rfl | rfl | rfl <;> exact rfl)) :
    EH P n l S (fuel + 1) m ρ w Q := EH.one (St.appp he hp hs hrow hq h1 h63 hbytes hx hy h) hr hi
/-- s[:len:len] in a drawn region: the first that may come up. -/
theorem EH.slf {rs : List Nat} {hi' mx : Operand} {kd kd' : IntKind} (he : ElemOf P t e z s bytes) (hp : Pr s g (.slice a k c) k xs) (hS : S w) (kk : ∀ a', Pr s g (.slice a' k k) k xs → EH P n l S fuel (bset m i) (pushv d (.slice a' k k) ρ) w Q)
    (hr : rdy m l.length 0 l = i :: rs := by exact rfl) (hnth : nth l i = some ⟨d, .slice t x none (some hi') (some mx), ty, ps, af, gd⟩ := by exact rfl) (hg : want n l ρ gd = some true := by exact rfl)
    (hx : evo n ρ x = some (.slice a k c) := by exact rfl) (h1 : evo n ρ hi' = some (.int kd k) := by exact rfl) (h2 : evo n ρ mx = some (.int kd' k) := by exact rfl)
    (hsel : Region.noSelect l.toArray = true := by kernel_rfl) (hf : Region.free .any l.toArray (bits m l.length) i = true := by decide +kernel)
    (hQ : ∀ v c a w, Q (.panic c) (a.put d v) w → Q (.panic c) a w := by exact fun _ _ _ _ h => h) : EH P n l S (fuel + 1) m ρ w Q := by
  obtain ⟨a', h3, h4⟩ := run_slf (P := P) he hp kd kd'
  exact EH.take i (by rw [hr]; simp) hnth hsel hf hQ hS (yif (oi := ⟨d, .slice t x none (some hi') (some mx), ty, ps, af, gd⟩) hg (Pf.pv (Pv.slice hx rfl (by simp only [evm, h1, Option.map_some]) (by simp only [evm, h2, Option.map_some]) h3))) (kk _ h4)
end
end Go.Proofs.YtfhmamkafancbaaGreatDoor

/-
  A drawn region whose last operations (stores) wait for all the others: the first ones while S holds, then the last.
-/
namespace Go.Proofs.YtfhmamkafancbaaGreatDoor
open Go.RowKit
set_option linter.unusedVariables false
set_option linter.unusedSimpArgs false
section
variable {P : Program} {Q : Exit → Act → World → Prop}
def midQ (P : Program) (S0 : World → Prop) (o2 : Array Oper) (Q : Exit → Act → World → Prop) (k : Nat) (M : Array Bool) : Exit → Act → World → Prop
  | .normal, a, w => wpAnyH P .any o2 Q S0 k M a w
  | e, a, w => Q e a w
theorem upon_mid {S0 : World → Prop} {o2 : Array Oper} {k : Nat} {M : Array Bool} {o : Oper} {a : Act} {w : World} {K : Act → World → Prop} (h : o.wp P a w K (midQ P S0 o2 Q k M)) : o.wp P a w K Q := by
  unfold Oper.wp at *
  generalize (execOp a.eval o).run P w = r at *
  cases r with
  | ok n w' =>
    cases n <;> simp only [Oper.upon] at h ⊢ <;>
      first
        | exact h
        | exact Calls.mono h (fun e w'' he => by cases e <;> exact he)
        | exact Rows.mono h (fun _ _ he => he)
  | halt x w' => cases x <;> simp only [Oper.upon] at h ⊢ <;> exact h
theorem least_false (L : Array Bool) : ∀ n, (∀ i < n, L.getD i true = true) ∨ ∃ i, i < n ∧ L.getD i true = false ∧ ∀ j < i, L.getD j true = true
  | 0 => .inl fun i h => by omega
  | n + 1 => by
    rcases least_false L n with h | ⟨i, h1, h2, h3⟩
    · cases hn : L.getD n true with
      | true =>
        refine .inl ?_
        intro i hi
        by_cases h0 : i = n
        · rw [h0]; exact hn
        · exact h i (by omega)
      | false => exact .inr ⟨n, by omega, hn, h⟩
    · exact .inr ⟨i, by omega, h2, h3⟩
theorem getD_of (L : Array Bool) {i : Nat} (h : i < L.size) : L[i]? = some (L.getD i true) := by
  rw [Array.getD_eq_getD_getElem?, Array.getElem?_eq_getElem h]; rfl
theorem last_false (L : Array Bool) : ∀ (d m : Nat), L.size - m ≤ d → L.getD m true = false → ∃ j, L.getD j true = false ∧ ∀ q, j < q → L.getD q true = true
  | d, m, hd, hm => by
    by_cases h : ∃ q, m < q ∧ L.getD q true = false
    · obtain ⟨q, hq, hf⟩ := h
      have hqs : q < L.size := by
        apply Nat.lt_of_not_le
        intro hge
        rw [Array.getD_eq_getD_getElem?, Array.getElem?_eq_none (by omega)] at hf; cases hf
      cases d with
      | zero => omega
      | succ d => exact last_false L d q (by omega) hf
    · refine ⟨m, hm, fun q hq => ?_⟩
      cases hb : L.getD q true with
      | true => rfl
      | false => exact absurd ⟨q, hq, hb⟩ h
theorem tail_any {S0 S : World → Prop} (himp : ∀ w, S w → S0 w) {o2 : Array Oper} {k : Nat} {M1 : Array Bool} {T U : Nat → Bool}
    (hac : ∀ (i : Nat) (o : Oper), o2[i]? = some o → T i = false → U i = true → ∀ e ∈ o.after, Region.binds .any e = true → e.on < i ∧ T e.on = false)
    (hwait : ∀ (i : Nat) (o : Oper), o2[i]? = some o → T i = true → ∀ j < o2.size, T j = false → U j = true → (∃ e ∈ o.after, Region.binds .any e = true ∧ T e.on = true ∧ e.on < o2.size) ∨ (∃ e ∈ o.after, Region.binds .any e = true ∧ e.on = j) ∨ ∃ (q : Nat) (oq : Oper), o2[q]? = some oq ∧ T q = false ∧ U q = true ∧ j < q ∧ ∃ e ∈ oq.after, Region.binds .any e = true ∧ e.on = j)
    (hM1 : ∀ i, i < o2.size → M1[i]? = some (!T i)) (hMs : M1.size = o2.size) :
    ∀ (f : Nat) (L M : Array Bool) (a : Act) (w : World), L.size = o2.size → M.size = o2.size → (∀ i, T i = false → M[i]? = L[i]?) → (∀ i, i < o2.size → T i = true → M[i]? = some false ∧ L[i]? = some true) → (∀ j, L.getD j true = false → U j = true) → (∀ (j : Nat) (o : Oper), o2[j]? = some o → T j = false → U j = true → L.getD j false = true → ∀ e ∈ o.after, Region.binds .any e = true → L.getD e.on false = true) → L.toList.count false = f →
      wpAnyH P .any o2 (midQ P S0 o2 Q k M1) S f L a w → wpAnyH P .any o2 Q S0 (f + k) M a w := by
  intro f
  induction f with
  | zero =>
    intro L M a w hL hM hlo hhi hu hcl hc h
    have hall : ∀ i < o2.size, L[i]? = some true := by
      intro i hi
      have hi' : i < L.size := by omega
      rw [Array.getElem?_eq_getElem hi']
      cases hb : L[i] with
      | true => rfl
      | false =>
        have : false ∈ L.toList := by
          rw [← hb]; simp
        have := List.count_pos_iff.2 this
        omega
    have e : M = M1 := by
      apply Array.ext_getElem?
      intro i
      by_cases hi : i < o2.size
      · rw [hM1 i hi]
        cases ht : T i with
        | false => rw [hlo i ht, hall i hi]; rfl
        | true => rw [(hhi i hi ht).1]; rfl
      · rw [Array.getElem?_eq_none (by omega), Array.getElem?_eq_none (by omega)]
    subst e
    rw [Nat.zero_add]
    exact h.2
  | succ f ih =>
    intro L M a w hL hM hlo hhi hu hcl hc h
    have hlg : ∀ i, T i = false → M.getD i true = L.getD i true := fun i hi => by rw [Array.getD_eq_getD_getElem?, Array.getD_eq_getD_getElem?, hlo i hi]
    have hlgf : ∀ i, T i = false → M.getD i false = L.getD i false := fun i hi => by rw [Array.getD_eq_getD_getElem?, Array.getD_eq_getD_getElem?, hlo i hi]
    obtain ⟨m, hm, hmf, hmin⟩ : ∃ i, i < o2.size ∧ L.getD i true = false ∧ ∀ j < i, L.getD j true = true := by
      rcases least_false L o2.size with h0 | h0
      · exfalso
        have : false ∈ L.toList := List.count_pos_iff.1 (by omega)
        obtain ⟨i, hi, he⟩ := List.mem_iff_getElem.1 this
        have hi' : i < L.size := by simpa using hi
        have := h0 i (by omega)
        rw [Array.getD_eq_getD_getElem?, Array.getElem?_eq_getElem hi'] at this
        simp at he this
        rw [he] at this; cases this
      · exact h0
    have hnt : ∀ i, L.getD i true = false → T i = false := by
      intro i hi
      cases ht : T i with
      | false => rfl
      | true =>
        by_cases hi2 : i < o2.size
        · rw [Array.getD_eq_getD_getElem?, (hhi i hi2 ht).2] at hi; cases hi
        · rw [Array.getD_eq_getD_getElem?, Array.getElem?_eq_none (by omega)] at hi; cases hi
    have hmT := hnt m hmf
    have hmf' : L.getD m false = false := by
      rw [Array.getD_eq_getD_getElem?, getD_of L (by omega), hmf]; rfl
    have hready : m ∈ Region.ready .any o2 M := by
      rw [mem_ready]
      refine ⟨by rw [hlg m hmT]; exact hmf, ?_⟩
      have ho : o2[m]? = some o2[m] := Array.getElem?_eq_getElem hm
      refine ⟨o2[m], ho, fun e he hb => ?_⟩
      obtain ⟨hlt, hT⟩ := hac m _ ho hmT (hu m hmf) e he hb
      rw [hlgf _ hT, Array.getD_eq_getD_getElem?, getD_of L (by omega), hmin _ hlt]; rfl
    rw [Nat.add_right_comm]
    refine ⟨fun h0 => (by rw [h0] at hready; cases hready), fun i hi => ?_⟩
    obtain ⟨hiu, o, ho, hall⟩ := mem_ready.1 hi
    have hi1 : i < o2.size := (Array.getElem?_eq_some_iff.1 ho).1
    have hiT : T i = false := by
      cases ht : T i with
      | false => rfl
      | true =>
        obtain ⟨m2, hm2, hmax⟩ := last_false L _ m (Nat.le_refl _) hmf
        have hmT2 := hnt m2 hm2
        have hm2s : m2 < o2.size := by
          apply Nat.lt_of_not_le
          intro hge
          rw [Array.getD_eq_getD_getElem?, Array.getElem?_eq_none (by omega)] at hm2; cases hm2
        have hmf2 : L.getD m2 false = false := by
          rw [Array.getD_eq_getD_getElem?, getD_of L (by omega), hm2]; rfl
        rcases hwait i o ho ht m2 hm2s hmT2 (hu m2 hm2) with ⟨e, he, hb, hT, hons⟩ | ⟨e, he, hb, hon⟩ | ⟨q, oq, hoq, hqT, hqU, hlt, e, he, hb, hon⟩
        · have := hall e he hb
          rw [Array.getD_eq_getD_getElem?, (hhi _ hons hT).1] at this
          cases this
        · have := hall e he hb
          rw [hon, hlgf m2 hmT2, hmf2] at this
          cases this
        · have hqs : q < o2.size := (Array.getElem?_eq_some_iff.1 hoq).1
          have hql : L.getD q false = true := by
            rw [Array.getD_eq_getD_getElem?, getD_of L (by omega), hmax q hlt]; rfl
          have := hcl q oq hoq hqT hqU hql e he hb
          rw [hon, hmf2] at this
          cases this
    have hLi : L.getD i true = false := by rw [← hlg i hiT]; exact hiu
    have hiU := hu i hLi
    have hir : i ∈ Region.ready .any o2 L := by
      rw [mem_ready]
      refine ⟨by rw [← hlg i hiT]; exact hiu, o, ho, fun e he hb => ?_⟩
      rw [← hlgf _ (hac i o ho hiT hiU e he hb).2]; exact hall e he hb
    have hst := h.2 i hir
    have hiL : i < L.size := by omega
    have hcount : (L.setIfInBounds i true).toList.count false = f := by
      have hLi2 : L[i] = false := by
        rw [Array.getD_eq_getD_getElem?, Array.getElem?_eq_getElem hiL] at hLi
        exact hLi
      rw [Array.toList_setIfInBounds, List.count_set (by simpa using hiL), hc]
      simp [hLi2]
    have next : ∀ a w, (S w ∧ wpAnyH P .any o2 (midQ P S0 o2 Q k M1) S f (L.setIfInBounds i true) a w) → (S0 w ∧ wpAnyH P .any o2 Q S0 (f + k) (M.setIfInBounds i true) a w) := fun a w hh =>
      ⟨himp _ hh.1, ih _ _ a w (by simpa using hL) (by simpa using hM) (fun j hj => by
        rw [Array.getElem?_setIfInBounds, Array.getElem?_setIfInBounds, hlo j hj]
        by_cases hij : i = j
        · subst hij; simp [hiL, show i < M.size by omega]
        · simp [hij]) (fun j hj hj2 => by
        have hne : i ≠ j := fun h => by rw [h] at hiT; rw [hiT] at hj2; cases hj2
        rw [Array.getElem?_setIfInBounds_ne hne, Array.getElem?_setIfInBounds_ne hne]
        exact hhi j hj hj2) (fun j hj => by
        refine hu j ?_
        by_cases hij : i = j
        · subst hij; exact hLi
        · rw [getD_set_ne true hij] at hj; exact hj) (fun j oj hoj hjT hjU hjl e he hb => by
        by_cases hij : i = j
        · subst hij
          rw [ho] at hoj; cases hoj
          have h5 := hall e he hb
          rw [hlgf _ (hac i _ ho hiT hiU e he hb).2] at h5
          exact getD_set_true h5
        · rw [getD_set_ne false hij] at hjl
          exact getD_set_true (hcl j oj hoj hjT hjU hjl e he hb)) hcount hh.2⟩
    have hst := wpOp_mono next hst
    unfold wpOp at hst ⊢
    rw [ho] at hst ⊢
    simp only at hst ⊢
    split
    · rename_i hw
      rw [if_pos hw] at hst
      rcases hst with hst | ⟨ha, a', w', hl⟩
      · exact .inl (upon_mid hst)
      · exact .inr ⟨ha, a', w', hl⟩
    · rename_i hw
      rw [if_neg hw] at hst
      exact hst
/-- Those that have come up (m), the last ones (t), both (mt), all but the last (m1). -/
def tlB (l : List Oper) (m t mt m1 f : Nat) : Bool :=
  ((List.range l.length).all fun i => (bt mt i == (bt m i || bt t i)) && (bt m1 i == !bt t i) && !(bt m i && bt t i)) &&
  (l.zipIdx.all fun (o, i) => bt t i || bt m i || o.after.all fun e => !Region.binds .any e || (Nat.blt e.on i && !bt t e.on)) &&
  (l.zipIdx.all fun (o, i) => !bt t i || (List.range l.length).all fun j => bt t j || bt m j || (o.after.any fun e => Region.binds .any e && (bt t e.on && Nat.blt e.on l.length)) || (o.after.any fun e => Region.binds .any e && Nat.beq e.on j) || l.zipIdx.any fun (oq, q) => !bt t q && !bt m q && Nat.blt j q && oq.after.any fun e => Region.binds .any e && Nat.beq e.on j) &&
  Nat.beq (((List.range l.length).map (bt mt)).count false) f
variable {n : Fm} {ρ : List (Nat × Value)} {W w w' : World} {g g' : Hl} {H H' : List HP} {l l1 : List Oper} {S : World → Prop}
theorem EH.tail (t mt m1 f k : Nat) {m F : Nat} {S0 : World → Prop} (S : World → Prop) (himp : ∀ w, S w → S0 w) (h : EH P n l S f mt ρ w (midQ P S0 l.toArray Q k (bits m1 l.length))) (hF : F = f + k := by exact rfl)
    (hb : tlB l m t mt m1 f = true := by kernel_rfl) : EH P n l S0 F m ρ w Q := fun a ha => by
  subst hF
  have h0 := h a ha
  simp only [tlB, Bool.and_eq_true, List.all_eq_true] at hb
  obtain ⟨⟨⟨hb1, hb2⟩, hb3⟩, hb4⟩ := hb
  have hb1 : ∀ i < l.length, bt mt i = (bt m i || bt t i) ∧ bt m1 i = !bt t i ∧ (bt m i && bt t i) = false := fun i hi => by
    have := hb1 i (by simpa using hi)
    obtain ⟨⟨h1, h2⟩, h3⟩ := this
    exact ⟨by simpa using h1, by simpa using h2, by rw [Bool.not_eq_true'] at h3; exact h3⟩
  refine (tail_any himp (T := bt t) (U := fun j => !bt m j) (M1 := bits m1 l.length) ?_ ?_ ?_ (by rw [bits_size]; simp) f (bits mt l.length) (bits m l.length) a w (by rw [bits_size]; simp) (by rw [bits_size]; simp) ?_ ?_ ?_ ?_ ?_ h0)
  · intro i o ho hT hU e he hbd
    simp only [Bool.not_eq_true'] at hU
    have hi : l[i]? = some o := by simpa using ho
    have := hb2 (o, i) (by rw [List.mem_zipIdx_iff_getElem?]; exact hi)
    simp only [hT, hU, Bool.false_or] at this
    rw [Array.all_eq_true_iff_forall_mem] at this
    have := this e he
    simp only [hbd, Bool.not_true, Bool.false_or, Bool.and_eq_true, Bool.not_eq_true'] at this
    exact ⟨Nat.le_of_ble_eq_true this.1, this.2⟩
  · intro i o ho hT j hj hTj hU
    have hi : l[i]? = some o := by simpa using ho
    have := hb3 (o, i) (by rw [List.mem_zipIdx_iff_getElem?]; exact hi)
    simp only [hT, Bool.not_true, Bool.false_or, List.all_eq_true] at this
    have := this j (by simpa using hj)
    simp only [Bool.not_eq_true'] at hU
    simp only [hTj, hU, Bool.false_or, Bool.or_eq_true] at this
    rcases this with (this | this) | this
    · rw [Array.any_eq_true'] at this
      obtain ⟨e, he, h2⟩ := this
      simp only [Bool.and_eq_true] at h2
      have h3 : e.on < l.length := Nat.le_of_ble_eq_true h2.2.2
      exact .inl ⟨e, he, h2.1, h2.2.1, by simpa using h3⟩
    · rw [Array.any_eq_true'] at this
      obtain ⟨e, he, h2⟩ := this
      simp only [Bool.and_eq_true] at h2
      exact .inr (.inl ⟨e, he, h2.1, Nat.eq_of_beq_eq_true h2.2⟩)
    · rw [List.any_eq_true] at this
      obtain ⟨⟨oq, q⟩, hmem, h2⟩ := this
      simp only [Bool.and_eq_true, Bool.not_eq_true'] at h2
      obtain ⟨⟨⟨h3, h4⟩, h5⟩, h6⟩ := h2
      rw [Array.any_eq_true'] at h6
      obtain ⟨e, he, h7⟩ := h6
      simp only [Bool.and_eq_true] at h7
      rw [List.mem_zipIdx_iff_getElem?] at hmem
      exact .inr (.inr ⟨q, oq, by simpa using hmem, h3, by rw [h4]; rfl, Nat.le_of_ble_eq_true h5, e, he, h7.1, Nat.eq_of_beq_eq_true h7.2⟩)
  · intro i hi
    have hi : i < l.length := by simpa using hi
    rw [bits_get _ _ _ hi, (hb1 i hi).2.1]
  · intro i hT
    by_cases hi : i < l.length
    · rw [bits_get _ _ _ hi, bits_get _ _ _ hi, (hb1 i hi).1, hT, Bool.or_false]
    · rw [Array.getElem?_eq_none (by rw [bits_size]; omega), Array.getElem?_eq_none (by rw [bits_size]; omega)]
  · intro i hi hT
    have hi : i < l.length := by simpa using hi
    have h3 := (hb1 i hi).2.2
    rw [hT, Bool.and_true] at h3
    rw [bits_get _ _ _ hi, bits_get _ _ _ hi, (hb1 i hi).1, hT, Bool.or_true, h3]
    exact ⟨rfl, rfl⟩
  · intro j hj
    rw [bits_getD] at hj
    split at hj
    · rename_i hi
      rw [(hb1 j hi).1] at hj
      cases hm : bt m j
      · rfl
      · rw [hm] at hj; cases hj
    · cases hj
  · intro j o ho hT hU hj e he hbd
    have hi : l[j]? = some o := by simpa using ho
    have hjl : j < l.length := (List.getElem?_eq_some_iff.1 hi).1
    rw [bits_getD, if_pos hjl, (hb1 j hjl).1, hT, Bool.or_false] at hj
    simp only [hj] at hU
    cases hU
  · have := Nat.eq_of_beq_eq_true hb4
    rw [← this]
    simp [bits]
theorem A.mid {k m : Nat} {S0 : World → Prop} (h : EH P n l S0 k m ρ w Q) : A n .normal ρ w (midQ P S0 l.toArray Q k (bits m l.length)) := A.mk fun a ha => by
  simp only [midQ]
  exact h a ha
/-- This one first. -/
theorem EH.tp (i : Nat) {m fuel : Nat} {oi : Oper} {v : Value} (hS : S w) (h : EH P n l S fuel (bset m i) (pushv oi.dst v ρ) w Q) (hr : (rdy m l.length 0 l).contains i = true := by kernel_rfl) (hi : nth l i = some oi := by exact rfl) (hg : want n l ρ oi.guard = some true := by exact rfl) (hy : Pf P n S ρ oi.op oi.type v := by exact pft) (hsel : Region.noSelect l.toArray = true := by kernel_rfl) (hf : Region.free .any l.toArray (bits m l.length) i = true := by decide +kernel)
    (hQ : ∀ v c a w, Q (.panic c) (a.put oi.dst v) w → Q (.panic c) a w := by exact fun _ _ _ _ h => h) : EH P n l S (fuel + 1) m ρ w Q :=
  EH.take i (by simpa using hr) hi hsel hf hQ hS (yif hg hy) h
/-- The beginning, nothing held. -/
theorem C.heldN {id : Nat} (hs : Sat W w g H) (h : ∀ w', Sat W w' g H → EH P n l (fun _ => True) l.length 0 ρ w' Q) (hm : P.follows .mixedOrders = true := by kernel_rfl) : C P n (.region id l.toArray true) ρ w Q := C.held _ hs h hm
end
end Go.Proofs.YtfhmamkafancbaaGreatDoor

/-
  Layer 8 (segment): one more event.
-/
namespace Go.Proofs.YtfhmamkafancbaaGreatDoor
open Go.RowKit
set_option linter.unusedVariables false
set_option linter.unusedSimpArgs false
theorem right_zero {e : Ev} (h : e.right = 0) : 0 ≤ e.wr ∧ e.wr < 64 ∧ (e.kd = 5 → 0 ≤ e.nd ∧ e.nd < 64) := by
  unfold Ev.right at h
  split at h
  · omega
  · rename_i h1
    refine ⟨by omega, by omega, fun h5 => ?_⟩
    have : ¬ (e.kd = 5 ∧ ¬ (0 ≤ e.nd ∧ e.nd < 64)) := fun h6 => h1 (.inr (.inr (.inr (.inr (.inr h6)))))
    omega
def szAt (b n : Nat) : World → Prop := fun w => w.cell? ⟨b, 3, none⟩ = some (.int .i64 n)
/-- May an event be added. -/
def Sg.fit (s : Sg) (e : Ev) : Int := if e.right = 0 then (if e.wr = s.wr ∧ e.sq = s.next then 0 else 9) else e.right
set_option maxHeartbeats 3200000 in
set_option maxRecDepth 100000 in
theorem sgAdd_any {R : Ending → World → Prop} {W w : World} {g : Hl} {H : List HP} {b : Nat} {d : Dk} {s : Sg} {e : Ev} (hg : Gl g) (ho : e.ok g) (hx : s.x.ok g) (hwr : s.wr < 64) (hf : s.first < 18446744073709551616) (hsz : s.size ≤ 4000000000000000000) (hl : s.x.es.length ≤ 1000000000) (hs : Sat W w g (disk b d :: H))
    (hN : ∀ w' g', Hl.le g g' → s.fit e ≠ 0 → Sat W w' g' (disk b d :: H) → R (.returned (.tuple #[s.val, .int .i64 (s.fit e)])) w')
    (hE : ∀ w' g', Hl.le g g' → s.fit e = 0 → (d.add (nameB s.wr s.first) e.enc).1 ≠ 0 → Sat W w' g' (disk b (d.add (nameB s.wr s.first) e.enc).2 :: H) → R (.returned (.tuple #[s.val, .int .i64 (d.add (nameB s.wr s.first) e.enc).1])) w')
    (hOK : ∀ a' c' tv w' g', Hl.le g g' → s.fit e = 0 → (d.add (nameB s.wr s.first) e.enc).1 = 0 → El.ok ⟨a', c', s.x.es ++ [e.ep.ev tv]⟩ g' → Sat W w' g' (disk b (d.add (nameB s.wr s.first) e.enc).2 :: H) → R (.returned (.tuple #[Sg.val ⟨s.wr, s.first, ⟨a', c', s.x.es ++ [e.ep.ev tv]⟩, s.size + recN e.enc.length⟩, .int .i64 0])) w') :
    Calls Tryz.prog 110 #[s.val, ptr b, e.val] w R := by
  have HN := Lib.hid hN
  have HE := Lib.hid hE
  have HOK := Lib.hid hOK
  clear hN hE hOK
  have ag1 := ag_sg
  have ag2 := ag_ev
  obtain ⟨ea, ec, etv, hnc, _⟩ := ho.tv.len
  obtain ⟨wr, first, ⟨a, c, es⟩, size⟩ := s
  simp only at hx hwr hf hsz hl
  simp only [Sg.val, Sg.cs, El.v]
  refine C.calls (args := [(.agg #[.int .i64 wr, .int .u64 first, .slice a es.length c, .int .i64 size]), ptr b, e.val]) Tryz.func110 rfl rfl rfl ?_
  refine go ?_
  refine E.bx hs ?_
  intro b3 w1 hs
  refine E.bx hs (xs := e.cs) ?_ (hx := rfl)
  intro b5 w2 hs
  refine go ?_
  refine E.al hs ?_
  intro b6 w3 hs
  refine go ?_
  refine E.callf Tryz.func51 rfl ?_
  refine right_any (e := e) ho hs ?_
  intro w4 hs
  refine go ?_
  cases hr : decide (e.right = 0) with
  | false =>
    have hr := of_decide_eq_false hr
    refine go ?_
    refine E.sto hs ?_
    intro w5 hs
    refine go ?_
    refine A.c1t1 rfl rfl rfl (run_lda hs ag_sg) ?_
    have key := HN.out w5 g (Hl.le_refl _)
    simp only [Sg.fit, if_neg hr] at key
    exact key hr hs.drop.drop.drop
  | true =>
  have hr := of_decide_eq_true hr
  obtain ⟨hw0, hw1, hnd⟩ := right_zero hr
  refine go ?_
  refine C.held2 b5 b3 hs ?_
  intro w5 hk hs
  refine goh ?_
  cases hc : decide (e.wr = (wr : Int)) with
  | false =>
    have hc := of_decide_eq_false hc
    refine goh ?_
    refine EH.done ?_
    refine go ?_
    refine E.sto hs ?_
    intro w6 hs
    refine go ?_
    refine A.c1t1 rfl rfl rfl (run_lda hs ag_sg) ?_
    have key := HN.out w6 g (Hl.le_refl _)
    simp only [Sg.fit, if_pos hr, hc, false_and, if_false] at key
    exact key (by decide) hs.drop.drop.drop
  | true =>
  have hc := of_decide_eq_true hc
  refine goh ?_
  refine EH.one (St.guard rfl rfl (St.callf Tryz.func105 rfl ?_))
  refine sgNext_any (s := ⟨wr, first, ⟨a, c, es⟩, size⟩) hf (by simp only; omega) hs ?_
  intro w6 hs
  refine kept2 hs (fun hk => ?_) (Hl.le_refl _)
  refine goh ?_
  refine EH.done ?_
  refine go ?_
  cases hn : decide ((e.sq : Int) = (Sg.next ⟨wr, first, ⟨a, c, es⟩, size⟩ : Nat)) with
  | false =>
    have hn := of_decide_eq_false hn
    refine go ?_
    refine E.sto hs ?_
    intro w7 hs
    refine go ?_
    refine A.c1t1 rfl rfl rfl (run_lda hs ag_sg) ?_
    have key := HN.out w7 g (Hl.le_refl _)
    simp only [Sg.fit, if_pos hr] at key
    rw [if_neg (by rintro ⟨_, h⟩; exact hn (by rw [h]))] at key
    exact key (by decide) hs.drop.drop.drop
  | true =>
  have hn := of_decide_eq_true hn
  have hfit : Sg.fit ⟨wr, first, ⟨a, c, es⟩, size⟩ e = 0 := by
    simp only [Sg.fit, if_pos hr]
    exact if_pos ⟨hc, by exact_mod_cast hn⟩
  clear hn
  refine go ?_
  refine E.callf Tryz.func144 rfl ?_
  refine encode_any (e := e) ho hw0 (fun h => (hnd h).1) hs ?_
  intro pa pc w7 g7 hg7 hs
  obtain ⟨g8, hg8, hp8, hs⟩ := hs.publishOwn
  refine go ?_
  refine E.callf Tryz.func112 rfl ?_
  refine segName_any (hg.mono (hg7.trans hg8)) (by omega) hf hs ?_
  intro w8 hs
  refine go ?_
  refine E.callf Tryz.func169 rfl ?_
  refine add_any hs.pull3 hp8 rfl ?_
  intro w9 g9 hg9 hs
  refine go ?_
  by_cases hb : (d.add (nameB wr first) e.enc).1 = 0
  · have hd : (!decide ((d.add (nameB wr first) e.enc).1 = 0)) = false := by simp [hb]
    refine C.cond rfl (fun h => by rw [hd] at h; cases h) (fun _ => ?_)
    clear hd
    refine go ?_
    refine C.heldN hs ?_
    intro w10 hs
    have rz : ∀ w, Keeps g9 [(b5, e.cs, 26), (b3, [.int .i64 wr, .int .u64 first, .slice a es.length c, .int .i64 size], 157)] w → szAt b3 size w := fun w hw => Rd.blk (.there .here) rfl w hw
    have hk : Keeps g9 [(b5, e.cs, 26), (b3, [.int .i64 wr, .int .u64 first, .slice a es.length c, .int .i64 size], 157)] w10 := Keeps.of2 hs (Hl.le_refl _)
    have hz := rz _ hk
    have hrd : Rd (szAt b3 size) b3 3 (.int .i64 size) := fun w h => h
    refine EH.tail 4194304 4194304 4194303 22 1 (szAt b3 size) (fun _ _ => trivial) ?_
    refine EH.tp 13 hz ?_
    refine EH.tp 14 hz ?_
    refine EH.tp 15 hz ?_
    refine EH.tp 16 hz ?_
    refine EH.tail 4063232 8380416 4325375 13 5 (Keeps g9 [(b5, e.cs, 26), (b3, [.int .i64 wr, .int .u64 first, .slice a es.length c, .int .i64 size], 157)]) rz ?_
    have hen : e.enc.length ≤ 2097152 := by
      simp only [Dk.add] at hb
      split at hb
      · simp at hb
      · omega
    have hrec : recN e.enc.length ≤ 2097166 := by
      have := layN_ten (n := e.enc.length) (by omega)
      unfold recN; omega
    have hrow : Pr 8 g9 (.slice a es.length c) es.length (evC es) := hx.row.mono ((hg7.trans hg8).trans hg9)
    refine goh ?_
    refine EH.slf el_ev hrow hk ?_
    intro a3 hrow
    refine goh ?_
    refine EH.one (St.callf Tryz.func33 rfl ?_)
    refine eplain_any (e := e) (ho.mono ((hg7.trans hg8).trans hg9)) hw0 (fun h => (hnd h).1) hs ?_
    intro tv w11 g11 hg11 hpo hs
    refine kept2 hs (fun hk => ?_) hg11
    refine goh ?_
    replace hrow := hrow.mono hg11
    refine EH.bsle el_ev hs (cs := (e.ep.ev tv).cs) rfl ?_
    intro b12 w12 hs
    refine kept2 hs (fun hk => ?_) hg11
    refine goh ?_
    refine EH.appp el_ev hrow hs (hs.rowOf (size := 8) 1 rfl (by decide)) ?_ (h1 := fun u hu => List.all_eq_true.1 (Ev.cs_one hpo) u hu)
    intro a13 c13 w13 hs
    refine kept2 hs (fun hk => ?_) hg11
    refine goh ?_
    refine EH.done ?_
    refine A.mid ?_
    have hz : szAt b3 size w13 := Rd.blk (g := g11) (.here) rfl w13 (Keeps.of1 hs (Hl.le_refl _) (b1 := b3) (x1 := [.int .i64 wr, .int .u64 first, .slice a es.length c, .int .i64 size]))
    refine EH.tp 19 hz ?_
    refine EH.one (St.callf Tryz.func170 rfl ?_)
    refine checkSize_any (n := e.enc.length) (by omega) ?_
    refine ⟨hz, ?_⟩
    refine EH.tp 18 hz ?_
    refine EH.sto (vs := [.slice a13 (es.length + 1) c13]) (ys := [.int .i64 wr, .int .u64 first, .slice a13 (es.length + 1) c13, .int .i64 size]) hs ?_ (hv := rfl) (hsp := rfl)
    intro w14 hs
    have hz : szAt b3 size w14 := Rd.blk (g := g11) (.here) rfl w14 (Keeps.of1 hs (Hl.le_refl _) (b1 := b3) (x1 := [.int .i64 wr, .int .u64 first, .slice a13 (es.length + 1) c13, .int .i64 size]))
    refine ⟨hz, ?_⟩
    refine EH.tp 21 hz ?_
    refine EH.done ?_
    refine A.mid ?_
    refine EH.sto (vs := [.int .i64 (size + recN e.enc.length : Nat)]) (ys := [.int .i64 wr, .int .u64 first, .slice a13 (es.length + 1) c13, .int .i64 (size + recN e.enc.length : Nat)]) hs ?_ (hv := rfl) (hsp := rfl)
    intro w15 hs
    refine ⟨trivial, ?_⟩
    refine EH.done ?_
    refine go ?_
    refine E.sto hs ?_
    intro w16 hs
    refine go ?_
    obtain ⟨g17, hg17, hpl, hs⟩ := hs.publishOwn
    refine A.c1t1 rfl rfl rfl (run_lda hs.pull2 ag_sg) ?_
    have hgg : Hl.le g g17 := (((hg7.trans hg8).trans hg9).trans hg11).trans hg17
    have hlow : (e.ep.ev tv).low := by
      simp only [Ev.low, Ep.ev, Ev.ep]
      omega
    have hel : El.ok ⟨a13, c13, es ++ [e.ep.ev tv]⟩ g17 := ⟨by
      have := hpl
      simp only [El.v, List.length_append, List.length_singleton, evC_append]
      simpa [evC] using this, fun e' he' => by
      rcases List.mem_append.1 he' with h | h
      · exact ⟨(hx.evs e' h).1.mono hgg, (hx.evs e' h).2⟩
      · rw [List.mem_singleton.1 h]
        exact ⟨hpo.mono hg17, hlow⟩⟩
    have key := HOK.out a13 c13 tv w16 g17 hgg hfit hb hel hs.drop.swap.drop.swap.drop.swap.drop
    simp only [Sg.val, Sg.cs, El.v, List.length_append, List.length_singleton] at key
    exact key
  · have hd : (!decide ((d.add (nameB wr first) e.enc).1 = 0)) = true := by simp [hb]
    refine C.cond rfl (fun _ => ?_) (fun h => by rw [hd] at h; cases h)
    clear hd
    refine go ?_
    refine E.sto hs ?_
    intro w10 hs
    refine go ?_
    refine A.c1t1 rfl rfl rfl (run_lda hs.swap ag_sg) ?_
    exact HE.out _ _ ((hg7.trans hg8).trans hg9) hfit hb hs.swap.drop.swap.drop.swap.drop
end Go.Proofs.YtfhmamkafancbaaGreatDoor

/-
  Words as numbers: Atoi of a few digits, ParseUint to base sixteen; what stands ahead of a byte and behind it.
-/
namespace Go.Proofs.YtfhmamkafancbaaGreatDoor
open Go.RowKit
set_option linter.unusedVariables false
set_option linter.unusedSimpArgs false
set_option maxHeartbeats 1600000 in
set_option maxRecDepth 100000 in
theorem cut_lite {R : Ending → World → Prop} {W w : World} {g : Hl} {H : List HP} {s : List UInt8} {c : UInt8} (hl : s.length ≤ 1000000000) (hs : Sat W w g H)
    (h1 : ∀ k : Nat, ixB c s = k → k < s.length → ∀ w', Sat W w' g H → R (.returned (.tuple #[str (s.take k), str (s.drop (k + 1)), .bool true])) w')
    (h2 : ixB c s < 0 → ∀ w', Sat W w' g H → R (.returned (.tuple #[str s, str [], .bool false])) w') :
    Calls Tryz.prog 284 #[str s, str [c]] w R := by
  have H1 := Lib.hid h1
  have H2 := Lib.hid h2
  clear h1 h2
  have hb := ixB_ge c s
  refine C.calls (args := [str s, str [c]]) Tryz.func284 rfl rfl rfl ?_
  refine go ?_
  refine E.callf Tryz.func289 rfl ?_
  refine index1_any hl ?_
  have e0 : str s = .string ⟨s.toArray⟩ := rfl
  have e1 : str [c] = .string ⟨[c].toArray⟩ := rfl
  rw [e0, e1]
  clear e0 e1
  refine go ?_
  refine C.cond_dec (p := (0 : Int) ≤ ixB c s) rfl (fun h => ?_) (fun h => ?_)
  · obtain ⟨k, hk⟩ := Int.eq_ofNat_of_zero_le h
    have hkl : k < s.length := by omega
    replace H1 := Lib.hid (H1.out k hk hkl)
    rw [hk]
    clear hk hb h
    refine go ?_
    refine C.held0 hs ?_
    intro w2 hk hs
    refine goh ?_
    refine EH.t0 hk ?_ (hy := Pf.pv (Pv.supto (l := s) Tryz.underlying9 k (by omega) rfl rfl rfl))
    refine goh ?_
    have ek : IntKind.i64.wrap ((k : Int) + ([c].length : Int)) = ((k + 1 : Nat) : Int) := by
      rw [show ([c].length : Int) = 1 from rfl]
      exact wrap64_id (by omega) (by omega)
    rw [ek]
    refine EH.t0 hk ?_ (hy := Pf.pv (Pv.sfrom (l := s) Tryz.underlying9 (k + 1) (by omega) rfl rfl rfl))
    refine goh ?_
    refine EH.done ?_
    refine go ?_
    refine A.r3 ?_
    exact H1.out _ hs
  · refine go ?_
    refine A.r3 ?_
    exact H2.out (by omega) _ hs
/-- The value of some digits. -/
def decV (l : List UInt8) : Nat := l.foldl (fun a c => a * 10 + (c.toNat - 48)) 0
def digB (c : UInt8) : Bool := decide (48 ≤ c.toNat) && decide (c.toNat ≤ 57)
theorem decV_lt : ∀ (l : List UInt8) (a : Nat), l.all digB = true → l.foldl (fun a c => a * 10 + (c.toNat - 48)) a < (a + 1) * 10 ^ l.length
  | [], a, _ => by simp
  | c :: l, a, h => by
    simp only [List.all_cons, Bool.and_eq_true, digB, decide_eq_true_eq] at h
    have := decV_lt l (a * 10 + (c.toNat - 48)) (by simpa [digB] using h.2)
    refine Nat.lt_of_lt_of_le this ?_
    rw [List.length_cons, Nat.pow_succ, Nat.mul_comm (10 ^ l.length) 10, ← Nat.mul_assoc]
    exact Nat.mul_le_mul_right _ (by omega)
theorem decV_decN {n : Nat} (h : n < 100) : decV (decN n) = n ∧ (decN n).all digB = true := by
  by_cases h1 : n < 10
  · rw [decN_small h1]
    exact (by decide +kernel : ∀ j : Fin 10, decV [UInt8.ofNat (48 + j.val)] = j.val ∧ [UInt8.ofNat (48 + j.val)].all digB = true) ⟨n, h1⟩
  · rw [decN_two (by omega) h]
    exact (by decide +kernel : ∀ j : Fin 100, decV [UInt8.ofNat (48 + j.val / 10), UInt8.ofNat (48 + j.val % 10)] = j.val ∧ [UInt8.ofNat (48 + j.val / 10), UInt8.ofNat (48 + j.val % 10)].all digB = true) ⟨n, h⟩
set_option maxHeartbeats 3200000 in
set_option maxRecDepth 100000 in
theorem atoiI_any {R : Ending → World → Prop} {W w : World} {g : Hl} {H : List HP} {l : List UInt8} (h1 : 1 ≤ l.length) (h2 : l.length ≤ 18) (hd : l.all digB = true) (hs : Sat W w g H)
    (hR : ∀ w' g', Hl.le g g' → Sat W w' g' H → R (.returned (.tuple #[.int .i64 (decV l), .nilIface])) w') : Calls Tryz.prog 285 #[str l] w R := by
  have HR := Lib.hid hR
  clear hR
  have e0 : str l = .string ⟨l.toArray⟩ := rfl
  rw [e0]
  clear e0
  have hdig : ∀ k (h : k < l.length), 48 ≤ l[k].toNat ∧ l[k].toNat ≤ 57 := fun k h => by
    have := List.all_eq_true.1 hd l[k] (List.getElem_mem h)
    simpa [digB] using this
  refine C.calls (args := [.string ⟨l.toArray⟩]) Tryz.func285 rfl rfl rfl ?_
  refine go ?_
  rw [show decide ((0 : Int) < l.length) = true from decide_eq_true (by omega)]
  refine go ?_
  rw [show decide ((l.length : Int) < 19) = true from decide_eq_true (by omega)]
  refine go ?_
  have h0 := hdig 0 (by omega)
  refine E.sidx (l := l) Tryz.underlying9 0 (by omega) ?_
  refine go ?_
  rw [show decide ((l[0].toNat : Int) = 45) = false from decide_eq_false (by omega)]
  refine go ?_
  refine E.sidx (l := l) Tryz.underlying9 0 (by omega) ?_
  refine go ?_
  rw [show decide ((l[0].toNat : Int) = 43) = false from decide_eq_false (by omega)]
  refine go ?_
  refine E.bytes (l := l) Tryz.underlying9 Tryz.underlying23 Tryz.underlying5 hs (by omega) ?_
  intro b c w1 g1 hg1 hs hp
  refine gob ?_
  refine C.cut (fun _ : Unit => [(0, .string ⟨l.toArray⟩), (5, .string ⟨l.toArray⟩), (6, .int .i64 (decV l))]) (fun _ w => Sat W w g1 H) ?_ ?_
  · refine C.block ?_
    refine C.lp (fun i : Nat => [(0, .string ⟨l.toArray⟩), (5, .string ⟨l.toArray⟩), (6, .int .i64 (decV (l.take i))), (47, .slice (some ⟨b, 0, none⟩) l.length c), (48, .int .i64 l.length), (49, .int .i64 i)])
      (fun gk i w => gk = l.length - i ∧ i ≤ l.length ∧ Sat W w g1 H) l.length 0 ⟨rfl, Nat.zero_le _, hs⟩ ?_
    clear hs
    rintro gk i w2 ⟨rfl, hi, hs⟩
    refine go ?_
    refine C.cond_dec (p := (i : Int) < l.length) rfl (fun h => ?_) (fun h => ?_)
    · have hil : i < l.length := by omega
      have hdi := hdig i hil
      have hc3 : w2.cell? ⟨b, i, none⟩ = some (.int .u8 (l[i].toNat : Int)) := by
        have := ((hp.row hs).cellAt rfl (bs_get hil)).2
        simpa using this
      refine go ?_
      have ew : IntKind.u8.wrap ((l[i].toNat : Int) - 48) = ((l[i].toNat - 48 : Nat) : Int) := by
        rw [show ((l[i].toNat : Int) - 48) = ((l[i].toNat - 48 : Nat) : Int) by omega]
        exact wrapu8_id (by omega) (by omega)
      rw [ew]
      rw [show decide ((9 : Int) < ((l[i].toNat - 48 : Nat) : Int)) = false from decide_eq_false (by omega)]
      have hdv : decV (l.take (i + 1)) = decV (l.take i) * 10 + (l[i].toNat - 48) := by
        unfold decV
        rw [List.take_succ_eq_append_getElem hil, List.foldl_append]
        rfl
      have hlt : decV (l.take (i + 1)) < 1000000000000000000 := by
        have h1 := decV_lt (l.take (i + 1)) 0 (List.all_eq_true.2 fun x hx => List.all_eq_true.1 hd x (List.mem_of_mem_take hx))
        have h2 : (l.take (i + 1)).length ≤ 18 := by rw [List.length_take]; omega
        have h3 : 10 ^ (l.take (i + 1)).length ≤ 10 ^ 18 := Nat.pow_le_pow_right (by decide) h2
        unfold decV
        omega
      refine go ?_
      rw [show ((decV (l.take i) : Int) * 10 + ((l[i].toNat - 48 : Nat) : Int)) = ((decV (l.take (i + 1)) : Nat) : Int) by omega]
      exact A.rd (l.length - (i + 1)) (i + 1) ⟨rfl, by omega, hs⟩
    · obtain rfl : i = l.length := by omega
      refine go ?_
      refine A.mt () hs (hw := ?_)
      rw [List.take_length]
      exact wk_
  clear hs
  rintro _ w4 hs
  refine go ?_
  refine E.sidx (l := l) Tryz.underlying9 0 (by omega) ?_
  refine go ?_
  rw [show decide ((l[0].toNat : Int) = 45) = false from decide_eq_false (by omega)]
  refine go ?_
  refine A.r2 ?_
  exact HR.out _ g1 hg1 hs
end Go.Proofs.YtfhmamkafancbaaGreatDoor

/-
  Words as numbers: ParseUint to base sixteen; Atoi, Cut as others call them.
-/
namespace Go.Proofs.YtfhmamkafancbaaGreatDoor
open Go.RowKit
set_option linter.unusedVariables false
set_option linter.unusedSimpArgs false
set_option maxHeartbeats 1600000 in
set_option maxRecDepth 100000 in
theorem cut1_any {R : Ending → World → Prop} {W w : World} {g : Hl} {H : List HP} {s : List UInt8} {c : UInt8} (hl : s.length ≤ 1000000000) (hs : Sat W w g H)
    (h1 : ∀ k : Nat, ixB c s = k → k < s.length → ∀ w', Sat W w' g H → R (.returned (.tuple #[str (s.take k), str (s.drop (k + 1)), .bool true])) w')
    (h2 : ixB c s < 0 → ∀ w', Sat W w' g H → R (.returned (.tuple #[str s, str [], .bool false])) w') :
    Calls Tryz.prog 268 #[str s, str [c]] w R := by
  have H1 := Lib.hid h1
  have H2 := Lib.hid h2
  clear h1 h2
  refine C.calls (args := [str s, str [c]]) Tryz.func268 rfl rfl rfl ?_
  refine go ?_
  refine E.callf Tryz.func284 rfl ?_
  refine cut_lite hl hs ?_ ?_
  · intro k hk hkl w2 hs
    refine go ?_
    refine A.r3 ?_
    exact H1.out k hk hkl _ hs
  · intro hk w2 hs
    refine go ?_
    refine A.r3 ?_
    exact H2.out hk _ hs
set_option maxHeartbeats 1600000 in
set_option maxRecDepth 100000 in
theorem atoi_any {R : Ending → World → Prop} {W w : World} {g : Hl} {H : List HP} {l : List UInt8} (h1 : 1 ≤ l.length) (h2 : l.length ≤ 18) (hd : l.all digB = true) (hs : Sat W w g H)
    (hR : ∀ w' g', Hl.le g g' → Sat W w' g' H → R (.returned (.tuple #[.int .i64 (decV l), .nilIface])) w') : Calls Tryz.prog 269 #[str l] w R := by
  have HR := Lib.hid hR
  clear hR
  refine C.calls (args := [str l]) Tryz.func269 rfl rfl rfl ?_
  refine go ?_
  refine E.callf Tryz.func285 rfl ?_
  refine atoiI_any h1 h2 hd hs ?_
  intro w2 g2 hg2 hs
  refine go ?_
  refine A.r2 ?_
  exact HR.out _ g2 hg2 hs
/-- A digit to base sixteen, and the value of some. -/
def hexW (c : UInt8) : Nat := if c.toNat ≤ 57 then c.toNat - 48 else c.toNat - 87
def hexB (c : UInt8) : Bool := (decide (48 ≤ c.toNat) && decide (c.toNat ≤ 57)) || (decide (97 ≤ c.toNat) && decide (c.toNat ≤ 102))
def hexV (l : List UInt8) : Nat := l.foldl (fun a c => a * 16 + hexW c) 0
theorem hexW_lt {c : UInt8} (h : hexB c = true) : hexW c < 16 := by
  simp only [hexB, Bool.or_eq_true, Bool.and_eq_true, decide_eq_true_eq] at h
  unfold hexW
  split <;> omega
theorem hexV_ge : ∀ (l : List UInt8) (a : Nat), a * 16 ^ l.length ≤ l.foldl (fun a c => a * 16 + hexW c) a
  | [], a => by simp
  | c :: l, a => by
    have := hexV_ge l (a * 16 + hexW c)
    refine Nat.le_trans ?_ this
    rw [List.length_cons, Nat.pow_succ, Nat.mul_comm (16 ^ l.length) 16, ← Nat.mul_assoc]
    exact Nat.mul_le_mul_right _ (by omega)
theorem hexV_append (l m : List UInt8) : hexV (l ++ m) = m.foldl (fun a c => a * 16 + hexW c) (hexV l) := by simp [hexV, List.foldl_append]
theorem hexD_ok {d : Nat} (h : d < 16) : hexW (hexD d) = d ∧ hexB (hexD d) = true :=
  (by decide +kernel : ∀ j : Fin 16, hexW (hexD j.val) = j.val ∧ hexB (hexD j.val) = true) ⟨d, h⟩
theorem hexV_hexN : ∀ (k n : Nat), n < 16 ^ k → hexV (hexN n) = n ∧ (hexN n).all hexB = true
  | 0, n, h => by
    simp only [Nat.pow_zero] at h
    obtain rfl : n = 0 := by omega
    rw [hexN_small (by decide)]
    decide +kernel
  | k + 1, n, h => by
    by_cases h1 : n < 16
    · rw [hexN_small h1]
      obtain ⟨h2, h3⟩ := hexD_ok h1
      refine ⟨?_, by simp [h3]⟩
      simp [hexV, h2]
    · rw [hexN_step (by omega)]
      obtain ⟨h2, h3⟩ := hexD_ok (d := n % 16) (by omega)
      obtain ⟨h4, h5⟩ := hexV_hexN k (n / 16) (by rw [Nat.pow_succ] at h; omega)
      refine ⟨?_, by simp [h5, h3]⟩
      rw [hexV_append, h4]
      simp only [List.foldl_cons, List.foldl_nil, h2]
      omega
set_option maxHeartbeats 1600000 in
set_option maxRecDepth 100000 in
theorem lower_any {R : Ending → World → Prop} {w : World} {c : Nat} (hc : 97 ≤ c ∧ c ≤ 102) (hR : R (.returned (.int .u8 c)) w) : Calls Tryz.prog 295 #[.int .u8 c] w R := by
  have HR := Lib.hid hR
  clear hR
  refine C.calls (args := [.int .u8 c]) Tryz.func295 rfl rfl rfl ?_
  refine go ?_
  have hcases : c = 97 ∨ c = 98 ∨ c = 99 ∨ c = 100 ∨ c = 101 ∨ c = 102 := by omega
  rcases hcases with rfl | rfl | rfl | rfl | rfl | rfl
  all_goals
    refine A.r1 ?_
    exact HR.out
set_option maxHeartbeats 3200000 in
set_option maxRecDepth 100000 in
theorem parseUintI_any {R : Ending → World → Prop} {W w : World} {g : Hl} {H : List HP} {l : List UInt8} (h1 : 1 ≤ l.length) (h2 : l.length ≤ 100) (hd : l.all hexB = true) (hv : hexV l < 18446744073709551616) (hs : Sat W w g H)
    (hR : ∀ w' g', Hl.le g g' → Sat W w' g' H → R (.returned (.tuple #[.int .u64 (hexV l), .nilIface])) w') : Calls Tryz.prog 287 #[str l, .int .i64 16, .int .i64 64] w R := by
  have HR := Lib.hid hR
  clear hR
  have e0 : str l = .string ⟨l.toArray⟩ := rfl
  rw [e0]
  clear e0
  have hdig : ∀ k (h : k < l.length), hexB l[k] = true := fun k h => List.all_eq_true.1 hd l[k] (List.getElem_mem h)
  have hne : ¬ l = [] := fun e => by rw [e] at h1; simp at h1
  refine C.calls (args := [.string ⟨l.toArray⟩, .int .i64 16, .int .i64 64]) Tryz.func287 rfl rfl rfl ?_
  refine go ?_
  rw [show decide (l = []) = false from decide_eq_false hne]
  refine go ?_
  rw [show IntKind.u64.wrap (((1 * 2 ^ 64 % 2 ^ IntKind.u64.bits : Nat) : Int) - 1) = 18446744073709551615 by decide +kernel]
  refine E.bytes (l := l) Tryz.underlying9 Tryz.underlying23 Tryz.underlying5 hs (by omega) ?_
  intro b c w1 g1 hg1 hs hp
  refine gob ?_
  refine C.cut (fun _ : Unit => [(12, .bool false), (13, .int .u64 (hexV l))]) (fun _ w => Sat W w g1 H) ?_ ?_
  · refine C.block ?_
    refine C.lp (fun i : Nat => [(1, .int .i64 16), (8, .bool false), (10, .int .u64 1152921504606846976), (11, .int .u64 18446744073709551615), (12, .bool false), (13, .int .u64 (hexV (l.take i))), (99, .slice (some ⟨b, 0, none⟩) l.length c), (100, .int .i64 l.length), (101, .int .i64 i)])
      (fun gk i w => gk = l.length - i ∧ i ≤ l.length ∧ Sat W w g1 H) l.length 0 ⟨rfl, Nat.zero_le _, hs⟩ ?_
    clear hs
    rintro gk i w2 ⟨rfl, hi, hs⟩
    refine go ?_
    refine C.cond_dec (p := (i : Int) < l.length) rfl (fun h => ?_) (fun h => ?_)
    · have hil : i < l.length := by omega
      have hdi := hdig i hil
      have hwl := hexW_lt hdi
      have hc3 : w2.cell? ⟨b, i, none⟩ = some (.int .u8 (l[i].toNat : Int)) := by
        have := ((hp.row hs).cellAt rfl (bs_get hil)).2
        simpa using this
      have hdv : hexV (l.take (i + 1)) = hexV (l.take i) * 16 + hexW l[i] := by
        rw [List.take_succ_eq_append_getElem hil, hexV_append]
        rfl
      have hlt : hexV (l.take (i + 1)) < 18446744073709551616 := by
        have h3 := hexV_ge (l.drop (i + 1)) (hexV (l.take (i + 1)))
        have h4 := hexV_append (l.take (i + 1)) (l.drop (i + 1))
        rw [List.take_append_drop] at h4
        rw [← h4] at h3
        have h5 : hexV (l.take (i + 1)) ≤ hexV (l.take (i + 1)) * 16 ^ (l.drop (i + 1)).length := Nat.le_mul_of_pos_right _ (Nat.pow_pos (by decide))
        omega
      generalize hqv : hexV (l.take i) = q at hdv
      generalize hqw : hexV (l.take (i + 1)) = q2 at hdv hlt
      generalize hdd : hexW l[i] = dg at hdv hwl
      have hdd' : dg = hexW l[i] := hdd.symm
      apply later (α := Unit) (f := fun _ => [(1, .int .i64 16), (8, .bool false), (10, .int .u64 1152921504606846976), (11, .int .u64 18446744073709551615), (12, .bool false), (13, .int .u64 q), (16, .int .u8 dg), (137, .bool (decide ((16 : Int) ≤ dg))), (99, .slice (some ⟨b, 0, none⟩) l.length c), (100, .int .i64 l.length), (101, .int .i64 i)])
        (M := fun _ w => Sat W w g1 H)
      · intro key
        simp only [hexB, Bool.or_eq_true, Bool.and_eq_true, decide_eq_true_eq] at hdi
        refine go ?_
        rw [show decide ((l[i].toNat : Int) = 95) = false from decide_eq_false (by omega)]
        refine go ?_
        rcases hdi with hdi | hdi
        · have ew : IntKind.u8.wrap ((l[i].toNat : Int) - 48) = ((dg : Nat) : Int) := by
            rw [hdd', hexW, if_pos (by omega), show ((l[i].toNat : Int) - 48) = ((l[i].toNat - 48 : Nat) : Int) by omega]
            exact wrapu8_id (by omega) (by omega)
          rw [show decide ((48 : Int) ≤ l[i].toNat) = true from decide_eq_true (by omega)]
          refine go ?_
          rw [show decide ((l[i].toNat : Int) ≤ 57) = true from decide_eq_true (by omega)]
          refine go ?_
          rw [ew]
          exact C.forget wk_ (key () _ hs)
        · have ew : IntKind.u8.wrap (IntKind.u8.wrap ((l[i].toNat : Int) - 97) + 10) = ((dg : Nat) : Int) := by
            have e1 : IntKind.u8.wrap ((l[i].toNat : Int) - 97) = ((l[i].toNat - 97 : Nat) : Int) := by
              rw [show ((l[i].toNat : Int) - 97) = ((l[i].toNat - 97 : Nat) : Int) by omega]
              exact wrapu8_id (by omega) (by omega)
            rw [e1, hdd', hexW, if_neg (by omega), show (((l[i].toNat - 97 : Nat) : Int) + 10) = ((l[i].toNat - 87 : Nat) : Int) by omega]
            exact wrapu8_id (by omega) (by omega)
          rw [show decide ((48 : Int) ≤ l[i].toNat) = true from decide_eq_true (by omega)]
          refine go ?_
          rw [show decide ((l[i].toNat : Int) ≤ 57) = false from decide_eq_false (by omega)]
          refine go ?_
          refine E.callf Tryz.func295 rfl ?_
          refine lower_any (c := l[i].toNat) hdi ?_
          refine go ?_
          rw [show decide ((97 : Int) ≤ l[i].toNat) = true from decide_eq_true (by omega)]
          refine go ?_
          refine E.callf Tryz.func295 rfl ?_
          refine lower_any (c := l[i].toNat) hdi ?_
          refine go ?_
          rw [show decide ((l[i].toNat : Int) ≤ 122) = true from decide_eq_true (by omega)]
          refine go ?_
          refine E.callf Tryz.func295 rfl ?_
          refine lower_any (c := l[i].toNat) hdi ?_
          refine go ?_
          rw [ew]
          exact C.forget wk_ (key () _ hs)
      · rintro _ w5 hs
        rw [show decide ((16 : Int) ≤ dg) = false from decide_eq_false (by omega)]
        refine go ?_
        rw [show decide ((1152921504606846976 : Int) ≤ q) = false from decide_eq_false (by omega)]
        clear hdd' hdd hqv
        replace hqw := Lib.hid hqw
        refine go ?_
        rw [show decide (((q * 16 + dg : Nat) : Int) < ((q * 16 : Nat) : Int)) = false from decide_eq_false (by omega)]
        refine go ?_
        rw [show decide ((18446744073709551615 : Int) < ((q * 16 + dg : Nat) : Int)) = false from decide_eq_false (by omega)]
        refine go ?_
        refine A.rd (l.length - (i + 1)) (i + 1) ⟨rfl, by omega, hs⟩ (hw := ?_)
        rw [hqw.out, hdv]
        exact wk_
    · obtain rfl : i = l.length := by omega
      refine go ?_
      refine A.mt () hs (hw := ?_)
      rw [List.take_length]
      exact wk_
  clear hs
  rintro _ w4 hs
  refine go ?_
  refine A.r2 ?_
  exact HR.out _ g1 hg1 hs
set_option maxHeartbeats 1600000 in
set_option maxRecDepth 100000 in
theorem parseUint_any {R : Ending → World → Prop} {W w : World} {g : Hl} {H : List HP} {l : List UInt8} (h1 : 1 ≤ l.length) (h2 : l.length ≤ 100) (hd : l.all hexB = true) (hv : hexV l < 18446744073709551616) (hs : Sat W w g H)
    (hR : ∀ w' g', Hl.le g g' → Sat W w' g' H → R (.returned (.tuple #[.int .u64 (hexV l), .nilIface])) w') : Calls Tryz.prog 270 #[str l, .int .i64 16, .int .i64 64] w R := by
  have HR := Lib.hid hR
  clear hR
  refine C.calls (args := [str l, .int .i64 16, .int .i64 64]) Tryz.func270 rfl rfl rfl ?_
  refine go ?_
  refine E.callf Tryz.func287 rfl ?_
  refine parseUintI_any h1 h2 hd hv hs ?_
  intro w2 g2 hg2 hs
  refine go ?_
  refine A.r2 ?_
  exact HR.out _ g2 hg2 hs
end Go.Proofs.YtfhmamkafancbaaGreatDoor

/-
  Layer 8 (segment): a writer and a number out of a file's name.
-/
namespace Go.Proofs.YtfhmamkafancbaaGreatDoor
open Go.RowKit
set_option linter.unusedVariables false
set_option linter.unusedSimpArgs false
theorem ixB_at (c : UInt8) : ∀ (l m : List UInt8), (∀ x ∈ l, x ≠ c) → ixB c (l ++ c :: m) = l.length
  | [], m, _ => by simp [ixB]
  | x :: l, m, h => by
    have ih := ixB_at c l m fun y hy => h y (List.mem_cons_of_mem _ hy)
    have hx := h x (List.mem_cons_self ..)
    simp only [List.cons_append, ixB, if_neg hx, ih, List.length_cons]
    rw [if_neg (by omega)]
    omega
theorem padB_val {n : Nat} (h : n < 18446744073709551616) : hexV (padB n) = n ∧ (padB n).all hexB = true := by
  obtain ⟨h1, h2⟩ := hexV_hexN 16 n h
  unfold padB
  have h0 : ∀ k, hexV (List.replicate k 48) = 0 := by
    intro k
    induction k with
    | zero => rfl
    | succ k ih =>
      rw [List.replicate_succ', hexV_append, ih]
      decide +kernel
  refine ⟨?_, ?_⟩
  · rw [hexV_append, h0]
    exact h1
  · rw [List.all_append, h2, Bool.and_true, List.all_eq_true]
    intro x hx
    obtain ⟨_, rfl⟩ := List.mem_replicate.1 hx
    decide +kernel
set_option maxHeartbeats 3200000 in
set_option maxRecDepth 100000 in
theorem split_any {R : Ending → World → Prop} {W w : World} {g : Hl} {H : List HP} {i n : Nat} (hg : Gl g) (hi : i < 100) (hn : n < 18446744073709551616) (hs : Sat W w g H)
    (hR : ∀ w' g', Hl.le g g' → Sat W w' g' H → R (.returned (.tuple #[.int .i64 i, .int .u64 n, .bool true])) w') : Calls Tryz.prog 240 #[str (nameB i n)] w R := by
  have HR := Lib.hid hR
  clear hR
  have hl := decN_len hi
  have hp := padB_len hn
  obtain ⟨hv1, hv2⟩ := padB_val hn
  obtain ⟨hd1, hd2⟩ := decV_decN hi
  have hnl : (nameB i n).length ≤ 100 := by
    have := beginB_len hi
    unfold nameB
    rw [List.length_append]
    omega
  have hne : nameB i n = ([102, 101, 101, 100, 45] : List UInt8) ++ (decN i ++ 45 :: padB n) := by simp [nameB, beginB]
  have hix : ixB 45 (decN i ++ 45 :: padB n) = (decN i).length := ixB_at 45 _ _ fun x hx => by
    have := List.all_eq_true.1 hd2 x hx
    rintro rfl
    exact absurd this (by decide)
  have hsl : (decN i ++ 45 :: padB n).length ≤ 1000 := by simp only [List.length_append, List.length_cons]; omega
  have htk : (decN i ++ 45 :: padB n).take (decN i).length = decN i := List.take_left
  have hdk : (decN i ++ 45 :: padB n).drop ((decN i).length + 1) = padB n := by
    rw [← List.drop_drop, List.drop_left]
    rfl
  rw [hne] at hnl ⊢
  replace hne := Lib.hid hne
  generalize hrest : decN i ++ 45 :: padB n = rest at hix hsl htk hdk hnl hne ⊢
  refine C.calls (args := [str (([102, 101, 101, 100, 45] : List UInt8) ++ rest)]) Tryz.func240 rfl rfl rfl ?_
  refine go ?_
  refine E.callf Tryz.func267 rfl ?_
  refine cutPrefix_has (p := [102, 101, 101, 100, 45]) (r := rest) (by omega) ?_
  refine go ?_
  refine E.callf Tryz.func268 rfl ?_
  refine cut1_any (s := rest) (c := 45) (by omega) hs ?_ ?_
  · intro k hk hkl w2 hs
    obtain rfl : k = (decN i).length := by omega
    rw [htk, hdk]
    clear htk hdk hk hix hrest
    refine go ?_
    refine E.callf Tryz.func269 rfl ?_
    refine atoi_any (l := decN i) hl.1 (by omega) hd2 hs ?_
    intro w3 g3 hg3 hs
    rw [hd1]
    refine go ?_
    refine E.callf Tryz.func270 rfl ?_
    refine parseUint_any (l := padB n) (by omega) (by omega) hv2 (by omega) hs ?_
    intro w4 g4 hg4 hs
    rw [hv1]
    refine go ?_
    rw [show decide ((i : Int) < 0) = false from decide_eq_false (by omega)]
    refine go ?_
    refine E.callf Tryz.func112 rfl ?_
    refine segName_any (i := i) (n := n) ((hg.mono hg3).mono hg4) hi hn hs ?_
    intro w5 hs
    rw [hne.out]
    have e0 : str (([102, 101, 101, 100, 45] : List UInt8) ++ rest) = .string ⟨(([102, 101, 101, 100, 45] : List UInt8) ++ rest).toArray⟩ := rfl
    rw [e0]
    refine go ?_
    rw [decide_eq_true (rfl : (([102, 101, 101, 100, 45] : List UInt8) ++ rest) = ([102, 101, 101, 100, 45] : List UInt8) ++ rest)]
    refine go ?_
    refine A.r3 ?_
    exact HR.out _ g4 (hg3.trans hg4) hs
  · intro hk
    omega
end Go.Proofs.YtfhmamkafancbaaGreatDoor
