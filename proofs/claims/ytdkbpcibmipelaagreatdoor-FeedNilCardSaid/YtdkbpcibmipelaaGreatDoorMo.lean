/-
  A nil feed; an event that came in.
-/
import Derived.Test.YtdkbpcibmipelaaGreatDoorMn
import Derived.Test.YtdkbpcibmipelaaGreatDoorMl
import Derived.Test.YtdkbpcibmipelaaGreatDoorMd
import Derived.Test.YtdkbpcibmipelaaGreatDoorMi
import Derived.Test.YtdkbpcibmipelaaGreatDoorMc
import Derived.Laws.FloatBits
import Derived.RowKit
import Derived.WideShapes
import Derived.ChangeShapes
import Derived.ChangeSlices
namespace Go.Proofs.YtdkbpcibmipelaaGreatDoor
open Go.RowKit
set_option linter.unusedVariables false
set_option linter.unusedSimpArgs false

set_option maxHeartbeats 1600000 in
set_option maxRecDepth 100000 in
theorem fnilWriter {R : Ending → World → Prop} {w : World} (hR : R (.returned (.int .i64 0)) w) : Calls Tryz.prog 46 #[.pointer none] w R := by
  have HR := Lib.hid hR
  clear hR
  refine C.calls (args := [.pointer none]) Tryz.func46 rfl rfl rfl ?_
  refine go ?_
  refine A.r1 ?_
  exact HR.out
set_option maxHeartbeats 1600000 in
set_option maxRecDepth 100000 in
theorem fnilFloor {R : Ending → World → Prop} {w : World} (hR : R (.returned (.int .u64 0)) w) : Calls Tryz.prog 39 #[.pointer none] w R := by
  have HR := Lib.hid hR
  clear hR
  refine C.calls (args := [.pointer none]) Tryz.func39 rfl rfl rfl ?_
  refine go ?_
  refine A.r1 ?_
  exact HR.out
set_option maxHeartbeats 1600000 in
set_option maxRecDepth 100000 in
theorem fnilNext {R : Ending → World → Prop} {w : World} (hR : R (.returned (.int .u64 1)) w) : Calls Tryz.prog 40 #[.pointer none] w R := by
  have HR := Lib.hid hR
  clear hR
  refine C.calls (args := [.pointer none]) Tryz.func40 rfl rfl rfl ?_
  refine go ?_
  refine A.r1 ?_
  exact HR.out
set_option maxHeartbeats 1600000 in
set_option maxRecDepth 100000 in
theorem fnilTime {R : Ending → World → Prop} {w : World} (hR : R (.returned (.int .u64 0)) w) : Calls Tryz.prog 47 #[.pointer none] w R := by
  have HR := Lib.hid hR
  clear hR
  refine C.calls (args := [.pointer none]) Tryz.func47 rfl rfl rfl ?_
  refine go ?_
  refine A.r1 ?_
  exact HR.out
set_option maxHeartbeats 1600000 in
set_option maxRecDepth 100000 in
theorem fnilSync {R : Ending → World → Prop} {w : World} (hR : R (.returned (.int .i64 0)) w) : Calls Tryz.prog 37 #[.pointer none] w R := by
  have HR := Lib.hid hR
  clear hR
  refine C.calls (args := [.pointer none]) Tryz.func37 rfl rfl rfl ?_
  refine go ?_
  refine A.r1 ?_
  exact HR.out
set_option maxHeartbeats 1600000 in
set_option maxRecDepth 100000 in
theorem fnilSegments {R : Ending → World → Prop} {w : World} (hR : R (.returned (.int .i64 0)) w) : Calls Tryz.prog 43 #[.pointer none] w R := by
  have HR := Lib.hid hR
  clear hR
  refine C.calls (args := [.pointer none]) Tryz.func43 rfl rfl rfl ?_
  refine go ?_
  refine A.r1 ?_
  exact HR.out
set_option maxHeartbeats 1600000 in
set_option maxRecDepth 100000 in
theorem fnilAll {R : Ending → World → Prop} {w : World} (hR : R (.returned (.slice none 0 0)) w) : Calls Tryz.prog 48 #[.pointer none] w R := by
  have HR := Lib.hid hR
  clear hR
  refine C.calls (args := [.pointer none]) Tryz.func48 rfl rfl rfl ?_
  refine go ?_
  refine A.r1 ?_
  exact HR.out
set_option maxHeartbeats 1600000 in
set_option maxRecDepth 100000 in
theorem fnilSealed {R : Ending → World → Prop} {w : World} (hR : R (.returned (.bool false)) w) : Calls Tryz.prog 49 #[.pointer none] w R := by
  have HR := Lib.hid hR
  clear hR
  refine C.calls (args := [.pointer none]) Tryz.func49 rfl rfl rfl ?_
  refine go ?_
  refine E.callf Tryz.func48 rfl ?_
  refine fnilAll ?_
  refine go ?_
  refine A.r1 ?_
  exact HR.out
set_option maxHeartbeats 1600000 in
set_option maxRecDepth 100000 in
theorem fnilFold {R : Ending → World → Prop} {w : World} {a b : Int} (hR : R (.returned (.int .i64 1)) w) : Calls Tryz.prog 38 #[.pointer none, .int .u64 a, .int .u64 b] w R := by
  have HR := Lib.hid hR
  clear hR
  refine C.calls (args := [.pointer none, .int .u64 a, .int .u64 b]) Tryz.func38 rfl rfl rfl ?_
  refine go ?_
  refine A.r1 ?_
  exact HR.out
set_option maxHeartbeats 1600000 in
set_option maxRecDepth 100000 in
theorem fnilAdd {R : Ending → World → Prop} {W w : World} {g : Hl} {H : List HP} {e : Ev} (hv : ∃ a c, e.tv = .slice a e.text.length c) (hs : Sat W w g H) (hR : ∀ w', Sat W w' g H → R (.returned (.int .i64 2)) w') : Calls Tryz.prog 35 #[.pointer none, e.val] w R := by
  have HR := Lib.hid hR
  clear hR
  refine C.calls (args := [.pointer none, e.val]) Tryz.func35 rfl rfl rfl ?_
  refine go ?_
  refine E.bx hs (xs := e.cs) ?_ (hx := rfl)
  intro b3 w1 hs
  refine go ?_
  refine A.r1 ?_
  exact HR.out _ hs.drop
set_option maxHeartbeats 1600000 in
set_option maxRecDepth 100000 in
theorem fnilGet {R : Ending → World → Prop} {W w : World} {g : Hl} {H : List HP} {n : Int} (hs : Sat W w g H) (hR : ∀ w', Sat W w' g H → R (.returned (.tuple #[noEv, .int .i64 2])) w') : Calls Tryz.prog 44 #[.pointer none, .int .u64 n] w R := by
  have HR := Lib.hid hR
  clear hR
  have ag1 := ag_ev
  refine C.calls (args := [.pointer none, .int .u64 n]) Tryz.func44 rfl rfl rfl ?_
  refine go ?_
  refine E.al hs ?_
  intro b4 w1 hs
  refine go ?_
  refine E.sto (vs := [.int .i64 0, .int .u64 0, .int .u64 0, .int .u8 0, .string ⟨#[]⟩, .slice none 0 0, .float .f64 0, .int .i64 0]) (ys := [.int .i64 0, .int .u64 0, .int .u64 0, .int .u8 0, .string ⟨#[]⟩, .slice none 0 0, .float .f64 0, .int .i64 0]) hs ?_ (hv := rfl) (hsp := rfl)
  intro w2 hs
  refine go ?_
  refine A.c1t1 rfl rfl rfl (run_lda hs ag_ev) ?_
  exact HR.out _ hs.drop
set_option maxHeartbeats 1600000 in
set_option maxRecDepth 100000 in
theorem fnilRange {R : Ending → World → Prop} {W w : World} {g : Hl} {H : List HP} {n m : Int} (hs : Sat W w g H) (hR : ∀ w', Sat W w' g H → R (.returned (.tuple #[.slice none 0 0, .int .i64 2])) w') : Calls Tryz.prog 45 #[.pointer none, .int .u64 n, .int .i64 m] w R := by
  have HR := Lib.hid hR
  clear hR
  refine C.calls (args := [.pointer none, .int .u64 n, .int .i64 m]) Tryz.func45 rfl rfl rfl ?_
  refine go ?_
  refine E.callf Tryz.func44 rfl ?_
  refine fnilGet hs ?_
  intro w1 hs
  refine go ?_
  refine E.al hs ?_
  intro b8 w2 hs
  refine E.sto (vs := [.int .i64 0, .int .u64 0, .int .u64 0, .int .u8 0, .string ⟨#[]⟩, .slice none 0 0, .float .f64 0, .int .i64 0]) (ys := [.int .i64 0, .int .u64 0, .int .u64 0, .int .u8 0, .string ⟨#[]⟩, .slice none 0 0, .float .f64 0, .int .i64 0]) hs ?_ (hv := rfl) (hsp := rfl)
  intro w3 hs
  refine go ?_
  refine A.r2 ?_
  exact HR.out _ hs.drop
set_option maxHeartbeats 1600000 in
set_option maxRecDepth 100000 in
theorem fopen_bad {R : Ending → World → Prop} {w : World} {x : Value} {wr cap : Int} {fl tm : Int} (hw : ¬ (0 ≤ wr ∧ wr < 64)) (hR : R (.returned (.tuple #[.pointer none, .int .i64 1])) w) : Calls Tryz.prog 34 #[x, .int .i64 wr, .int .i64 cap, .int .u64 fl, .int .u64 tm] w R := by
  have HR := Lib.hid hR
  clear hR
  refine C.calls (args := [x, .int .i64 wr, .int .i64 cap, .int .u64 fl, .int .u64 tm]) Tryz.func34 rfl rfl rfl ?_
  refine go ?_
  cases h1 : decide (wr < 0) with
  | true =>
    refine go ?_
    refine A.r2 ?_
    exact HR.out
  | false =>
    have h2 : decide ((64 : Int) ≤ wr) = true := decide_eq_true (by have := of_decide_eq_false h1; omega)
    refine go ?_
    rw [h2]
    refine go ?_
    refine A.r2 ?_
    exact HR.out

theorem Sat.dropAll {W w : World} {g : Hl} : ∀ {l H : List HP}, Sat W w g (l ++ H) → Sat W w g H
  | [], _, h => h
  | _ :: l, _, h => Sat.dropAll (l := l) (Sat.drop h)
set_option maxHeartbeats 3200000 in
set_option maxRecDepth 100000 in
theorem feedNil_any {R : Ending → World → Prop} {W w : World} {g : Hl} {H : List HP} {wr most : Int} {n : Nat} {e : Ev} (hg : Gl g) (hmost : -9223372036854775808 ≤ most ∧ most ≤ 9223372036854775807) (hv : ∃ a c, e.tv = .slice a e.text.length c) (hs : Sat W w g H)
    (hR : ∀ w' g', Hl.le g g' → Sat W w' g' H → R (.returned (.bool true)) w') :
    Calls Tryz.prog 8 #[.int .i64 wr, e.val, .int .u64 n, .int .i64 most] w R := by
  have HR := Lib.hid hR
  clear hR
  have ag1 := ag_ev
  obtain ⟨ta, tc, htv⟩ := hv
  obtain ⟨ewr, esq, etm, ekd, ekey, etext, enum, end_, etv⟩ := e
  simp only at htv
  subst htv
  have hadd : ∀ {R : Ending → World → Prop} {w : World} {g : Hl} {H : List HP}, Sat W w g H → (∀ w', Sat W w' g H → R (.returned (.int .i64 2)) w') → Calls Tryz.prog 35 #[.pointer none, Ev.val ⟨ewr, esq, etm, ekd, ekey, etext, enum, end_, .slice ta etext.length tc⟩] w R := fun hs hR => fnilAdd ⟨_, _, rfl⟩ hs hR
  refine C.calls (args := [.int .i64 wr, (Ev.val ⟨ewr, esq, etm, ekd, ekey, etext, enum, end_, .slice ta etext.length tc⟩), .int .u64 n, .int .i64 most]) Tryz.func8 rfl rfl rfl ?_
  refine go ?_
  refine E.bx hs (xs := Ev.cs ⟨ewr, esq, etm, ekd, ekey, etext, enum, end_, .slice ta etext.length tc⟩) ?_ (hx := rfl)
  intro b5 w1 hs
  refine go ?_
  refine E.callf Tryz.func33 rfl ?_
  refine awake9_any hg hs ?_
  intro w2 g2 hg2 hs
  refine go ?_
  cases hk : decide ((100 : Int) < ekey.length) with
  | true =>
    refine go ?_
    refine E.callf Tryz.func33 rfl ?_
    refine awake9_any (hg.mono hg2) hs ?_
    intro w3 g3 hg3 hs
    refine go ?_
    refine A.r1 ?_
    exact HR.out _ _ (hg2.trans hg3) hs.drop
  | false =>
  refine go ?_
  cases ht : decide ((100 : Int) < etext.length) with
  | true =>
    refine go ?_
    refine E.callf Tryz.func33 rfl ?_
    refine awake9_any (hg.mono hg2) hs ?_
    intro w3 g3 hg3 hs
    refine go ?_
    refine A.r1 ?_
    exact HR.out _ _ (hg2.trans hg3) hs.drop
  | false =>
  clear hk ht
  refine go ?_
  refine E.callf Tryz.func44 rfl ?_
  refine fnilGet hs ?_
  intro w3 hs
  refine go ?_
  refine E.al hs ?_
  intro b10 w4 hs
  refine E.sto (vs := [.int .i64 0, .int .u64 0, .int .u64 0, .int .u8 0, .string ⟨#[]⟩, .slice none 0 0, .float .f64 0, .int .i64 0]) (ys := [.int .i64 0, .int .u64 0, .int .u64 0, .int .u8 0, .string ⟨#[]⟩, .slice none 0 0, .float .f64 0, .int .i64 0]) hs ?_ (hv := rfl) (hsp := rfl)
  intro w5 hs
  refine go ?_
  refine E.callf Tryz.func45 rfl ?_
  refine fnilRange hs ?_
  intro w6 hs
  refine go ?_
  refine E.callf Tryz.func16 rfl ?_
  refine new_any (by omega) hs ?_
  intro db w7 hs
  refine go ?_
  apply laterE (α := Int) (f := fun er => [(0, .int .i64 wr), (2, .int .u64 n), (5, ptr b5), (9, .pointer none), (11, .int .i64 2), (13, .int .i64 2), (15, .int .i64 er), (51, .pointer none)])
    (M := fun er w => er = (if 0 ≤ wr ∧ wr < 64 then 0 else 1) ∧ ∃ g' H', Hl.le g g' ∧ Sat W w g' (H' ++ blk b5 (Ev.cs ⟨ewr, esq, etm, ekd, ekey, etext, enum, end_, .slice ta etext.length tc⟩) 46 :: H))
  · intro key
    by_cases hw : 0 ≤ wr ∧ wr < 64
    · obtain ⟨k, rfl⟩ : ∃ k : Nat, wr = k := ⟨wr.toNat, by omega⟩
      refine E.callf Tryz.func34 rfl ?_
      refine fopen_new (wr := k) (cap := most) (fl := 0) (tm := 0) (hg.mono hg2) (by omega) (by decide) (by decide) hmost hs ?_
      intro b w8 g8 hg8 hs
      refine go ?_
      exact E.forget wk_ (key 0 _ ⟨by rw [if_pos hw], g8, [_, _, _], hg2.trans hg8, hs⟩)
    · refine E.callf Tryz.func34 rfl ?_
      refine fopen_bad hw ?_
      refine go ?_
      exact E.forget wk_ (key 1 _ ⟨by rw [if_neg hw], g2, [_, _], hg2, hs⟩)
  rintro er w8 ⟨her, g8, H8, hg8, hs⟩
  replace her := Lib.hid her
  replace hs := hs.toFront
  refine E.callf Tryz.func46 rfl ?_
  refine fnilWriter ?_
  refine go ?_
  refine E.callf Tryz.func39 rfl ?_
  refine fnilFloor ?_
  refine go ?_
  refine E.callf Tryz.func40 rfl ?_
  refine fnilNext ?_
  refine go ?_
  refine E.callf Tryz.func47 rfl ?_
  refine fnilTime ?_
  refine go ?_
  refine E.callf Tryz.func48 rfl ?_
  refine fnilAll ?_
  refine go ?_
  refine E.callf Tryz.func49 rfl ?_
  refine fnilSealed ?_
  refine go ?_
  refine E.callf Tryz.func35 rfl ?_
  refine hadd hs ?_
  intro w9 hs
  refine go ?_
  refine E.callf Tryz.func37 rfl ?_
  refine fnilSync ?_
  refine go ?_
  refine E.callf Tryz.func38 rfl ?_
  refine fnilFold ?_
  refine go ?_
  refine E.callf Tryz.func43 rfl ?_
  refine fnilSegments ?_
  refine go ?_
  have fin : Sat W w9 g8 H := Sat.dropAll hs.drop
  clear hadd
  cases h1 : decide ((0 : Int) ≤ wr) with
  | false =>
    have he : er = 1 := by rw [her.out, if_neg]; have := of_decide_eq_false h1; omega
    subst he
    refine go ?_
    refine A.r1 ?_
    exact HR.out _ g8 hg8 fin
  | true =>
    cases h2 : decide (wr < 64) with
    | false =>
      have he : er = 1 := by rw [her.out, if_neg]; have := of_decide_eq_false h2; omega
      subst he
      refine go ?_
      refine A.r1 ?_
      rw [h2]
      exact HR.out _ g8 hg8 fin
    | true =>
      have he : er = 0 := by rw [her.out, if_pos]; have := of_decide_eq_true h1; have := of_decide_eq_true h2; omega
      subst he
      refine go ?_
      refine A.r1 ?_
      rw [h2]
      exact HR.out _ g8 hg8 fin
end Go.Proofs.YtdkbpcibmipelaaGreatDoor

/-
  The reference of layer 12: events sorted; all events of some lists.
-/
namespace Go.Proofs.YtdkbpcibmipelaaGreatDoor
open Go.RowKit
set_option linter.unusedVariables false
set_option linter.unusedSimpArgs false

theorem evC_one {l : List Ev} {g : Hl} (h : ∀ e ∈ l, e.ok g) : ∀ u ∈ evC l, u.oneCell' = true := by
  intro u hu
  obtain ⟨e, he, hu⟩ := List.mem_flatMap.1 hu
  exact List.all_eq_true.1 (Ev.cs_one (h e he)) u hu
/-- Rising. -/
def UpE (l : List Ev) : Prop := l.Pairwise fun a b => a.ky ≤ b.ky
theorem ins_up {l : List Ev} {e : Ev} {k : Nat} (h : UpE l) (hk : k ≤ l.length) (h1 : ∀ q (hq : q < l.length), k ≤ q → e.ky < l[q].ky) (h2 : k = 0 ∨ ∃ hq : k - 1 < l.length, l[k - 1].ky ≤ e.ky) : UpE (l.take k ++ e :: l.drop k) := by
  unfold UpE at *
  have hs := h
  rw [← List.take_append_drop k l] at hs
  obtain ⟨p1, p2, p3⟩ := List.pairwise_append.1 hs
  refine List.pairwise_append.2 ⟨p1, List.pairwise_cons.2 ⟨fun b hb => ?_, p2⟩, fun a ha b hb => ?_⟩
  · obtain ⟨q, hq, rfl⟩ := List.mem_iff_getElem.1 hb
    rw [List.getElem_drop]
    exact Nat.le_of_lt (h1 (k + q) (by rw [List.length_drop] at hq; omega) (by omega))
  · rcases List.mem_cons.1 hb with rfl | hb
    · obtain ⟨q, hq, rfl⟩ := List.mem_iff_getElem.1 ha
      rw [List.length_take] at hq
      rcases h2 with h2 | ⟨hq2, h2⟩
      · omega
      · rw [List.getElem_take]
        have hq3 : q < l.length := by omega
        rcases Nat.lt_or_ge q (k - 1) with hlt | hge
        · have := List.pairwise_iff_getElem.1 h q (k - 1) hq3 hq2 hlt
          omega
        · obtain rfl : q = k - 1 := by omega
          exact h2
    · exact p3 a ha b hb
theorem ins_perm {l : List Ev} {e : Ev} {k : Nat} : (l.take k ++ e :: l.drop k).Perm (e :: l) := by
  have := List.perm_middle (a := e) (l₁ := l.take k) (l₂ := l.drop k)
  rw [List.take_append_drop] at this
  exact this

set_option maxHeartbeats 3200000 in
set_option maxRecDepth 100000 in
theorem sort_any {R : Ending → World → Prop} {W w : World} {g : Hl} {H : List HP} {x : El} (hx : x.ok g) (hl : x.es.length ≤ 100000000) (hs : Sat W w g H)
    (hR : ∀ y w' g', Hl.le g g' → El.ok y g' → y.es.Perm x.es → UpE y.es → Sat W w' g' H → R (.returned y.v) w') :
    Calls Tryz.prog 117 #[x.v] w R := by
  have HR := Lib.hid hR
  clear hR
  refine C.calls (args := [.slice x.a x.es.length x.c]) Tryz.func117 rfl rfl rfl ?_
  refine gob ?_
  refine C.block ?_
  refine C.lp (fun q : Nat × El => [(0, .slice x.a x.es.length x.c), (3, .slice q.2.a q.2.es.length q.2.c), (4, .int .i64 q.1)])
    (fun gk q w => gk = x.es.length - q.1 ∧ q.1 ≤ x.es.length ∧ q.2.es.Perm (x.es.take q.1) ∧ UpE q.2.es ∧ ∃ g', Hl.le g g' ∧ q.2.ok g' ∧ Sat W w g' H) x.es.length (0, ⟨none, 0, []⟩)
    ⟨rfl, Nat.zero_le _, List.Perm.refl _, List.Pairwise.nil, g, Hl.le_refl _, ⟨Pr.nil, by simp⟩, hs⟩ ?_
  clear hs
  rintro gk ⟨i, y⟩ w2 ⟨hgk, hi, hp, hu, g2, hg2, hy, hs⟩
  simp only at hgk hi hp hu hy hs ⊢
  have hyl := hp.length_eq
  rw [List.length_take] at hyl
  have hyl2 := Lib.hid hyl
  clear hyl
  refine go ?_
  refine C.cond_dec (p := (i : Int) < x.es.length) rfl (fun h => ?_) (fun h => ?_)
  · have hil : i < x.es.length := by omega
    have hrx := hx.row.mono hg2
    obtain ⟨bx, ox, hxa⟩ := pr_some hrx (by omega)
    have hex := hx.evs x.es[i] (List.getElem_mem hil)
    have hrx' := hrx
    simp only [El.v, hxa] at hrx'
    have hy9 : y.es.length ≤ 100000000 := by have := hyl2.out; omega
    refine gob ?_
    refine C.block ?_
    refine gob ?_
    refine C.cut (fun k : Nat => [(0, .slice x.a x.es.length x.c), (3, .slice y.a y.es.length y.c), (4, .int .i64 i), (5, .int .i64 k)])
      (fun k w => k ≤ y.es.length ∧ (∀ q (hq : q < y.es.length), k ≤ q → x.es[i].ky < y.es[q].ky) ∧ (k = 0 ∨ ∃ hq : k - 1 < y.es.length, y.es[k - 1].ky ≤ x.es[i].ky) ∧ Sat W w g2 H) ?_ ?_
    · refine C.block ?_
      refine C.lp (fun k : Nat => [(0, .slice x.a x.es.length x.c), (3, .slice y.a y.es.length y.c), (4, .int .i64 i), (5, .int .i64 k)])
        (fun gk k w => gk = k ∧ k ≤ y.es.length ∧ (∀ q (hq : q < y.es.length), k ≤ q → x.es[i].ky < y.es[q].ky) ∧ Sat W w g2 H) y.es.length y.es.length ⟨rfl, Nat.le_refl _, fun q hq hk => by omega, hs⟩ ?_
      clear hs
      rintro gk k w3 ⟨rfl, hk, hkq, hs⟩
      have hkx := hk
      rcases Nat.eq_zero_or_pos gk with rfl | hpos
      · refine go ?_
        refine C.held0 hs ?_
        intro w4 hk hs
        refine goh ?_
        refine EH.done ?_
        refine go ?_
        exact A.mt 0 ⟨Nat.zero_le _, hkq, .inl rfl, hs⟩
      · obtain ⟨k, rfl⟩ : ∃ k, gk = k + 1 := ⟨gk - 1, by omega⟩
        have hry := hy.row
        obtain ⟨by_, oy, hya⟩ := pr_some hry (by omega)
        simp only [El.v, hya] at hry
        have hlt : k < y.es.length := by omega
        have hlt' : (k : Int) < y.es.length := by omega
        have hey := hy.evs y.es[k] (List.getElem_mem hlt)
        refine go ?_
        rw [hxa, hya]
        refine C.held0 hs ?_
        intro w4 hk hs
        refine goh ?_
        rw [show decide ((0 : Int) < ((k + 1 : Nat) : Int)) = true from decide_eq_true (by omega)]
        refine goh ?_
        rw [show ((k + 1 : Nat) : Int) - 1 = (k : Int) by omega]
        refine goh ?_
        refine EH.t0 hk ?_ (hy := Pf.loadpr ag_ev hrx' hil (evC_at hil) rfl rfl)
        refine EH.t1 hk ?_ (hy := Pf.loadpr ag_ev hry hlt (evC_at hlt) rfl rfl)
        refine EH.one (St.guard rfl rfl (St.callf Tryz.func186 rfl ?_))
        refine rat_any (e := x.es[i]) hs ?_
        intro w5 hs
        refine kept0 hs (fun hk => ?_)
        refine goh ?_
        refine EH.one (St.guard rfl rfl (St.callf Tryz.func186 rfl ?_))
        refine rat_any (e := y.es[k]) hs ?_
        intro w6 hs
        refine kept0 hs (fun hk => ?_)
        refine goh ?_
        refine EH.one (St.guard rfl rfl (St.callf Tryz.func185 rfl ?_))
        refine ahead_any (t1 := x.es[i].tm) (w1 := x.es[i].wr) (t2 := y.es[k].tm) (w2 := y.es[k].wr) hs ?_
        intro w7 hs
        refine kept0 hs (fun hk => ?_)
        refine goh ?_
        refine EH.done ?_
        refine go ?_
        have hkl := ky_lt hex.2 hey.2
        cases hd : decide (cmpS x.es[i].tm x.es[i].wr y.es[k].tm y.es[k].wr < 0) with
        | true =>
          have hd := hkl.1 (of_decide_eq_true hd)
          refine go ?_
          rw [show ((k + 1 : Nat) : Int) - 1 = (k : Int) by omega, ← hxa, ← hya]
          refine A.rd k k ⟨rfl, by omega, fun q hq hkq2 => ?_, hs⟩
          rcases Nat.eq_or_lt_of_le hkq2 with rfl | h'
          · exact hd
          · exact hkq q hq (by omega)
        | false =>
          have hd : ¬ x.es[i].ky < y.es[k].ky := fun h => of_decide_eq_false hd (hkl.2 h)
          refine go ?_
          rw [← hxa, ← hya]
          exact A.mt (k + 1) ⟨hkx, hkq, .inr ⟨hlt, by simp only [Nat.add_sub_cancel]; omega⟩, hs⟩
    clear hs
    rintro k w8 ⟨hk, hkq, hk0, hs⟩
    refine go ?_
    refine E.slp el_ev hy.row 0 k ?_
    intro a9 c9 hp9
    have e9 : ((evC y.es).drop (0 * 8)).take ((k - 0) * 8) = evC (y.es.take k) := by
      rw [Nat.zero_mul, List.drop_zero, Nat.sub_zero, evC_take]
    rw [e9] at hp9
    refine E.app el_ev hs.nilOwn (hp9.row hs) ?_ (h1 := evC_one fun e he => (hy.evs e (List.mem_of_mem_take he)).1)
    intro a10 c10 w10 _ _ hs
    simp only [Nat.zero_add, List.nil_append, Nat.sub_zero] at hs ⊢
    refine go ?_
    refine E.ldr (pr_range hs hrx' hil (evC_at hil)) ag_ev rfl ?_
    refine E.bsle el_ev hs (cs := x.es[i].cs) rfl ?_
    intro b12 w12 hs
    refine E.app el_ev hs.swap (hs.rowOf (size := 8) 1 rfl (by decide)) ?_ (h1 := fun u hu => List.all_eq_true.1 (Ev.cs_one hex.1) u hu)
    intro a13 c13 w13 _ _ hs
    replace hs := hs.swap.drop
    refine go ?_
    refine E.slp el_ev hy.row k y.es.length ?_
    intro a14 c14 hp14
    have e14 : ((evC y.es).drop (k * 8)).take ((y.es.length - k) * 8) = evC (y.es.drop k) := by
      rw [evC_drop, evC_take, List.take_of_length_le (by rw [List.length_drop]; exact Nat.le_refl _)]
    rw [e14] at hp14
    refine E.app el_ev hs (hp14.row hs) ?_ (h1 := evC_one fun e he => (hy.evs e (List.mem_of_mem_drop he)).1)
    intro a15 c15 w15 _ _ hs
    obtain ⟨g16, hg16, hp16, hs⟩ := hs.publishOwn
    have en : k + 1 + (y.es.length - k) = (y.es.take k ++ x.es[i] :: y.es.drop k).length := by
      simp only [List.length_append, List.length_take, List.length_cons, List.length_drop]; omega
    have ec : evC (y.es.take k) ++ x.es[i].cs ++ evC (y.es.drop k) = evC (y.es.take k ++ x.es[i] :: y.es.drop k) := by
      rw [evC_append]
      simp only [List.append_assoc]
      rfl
    rw [en, ec] at hp16
    rw [en]
    refine go ?_
    refine A.rd (x.es.length - (i + 1)) (i + 1, ⟨a15, c15, y.es.take k ++ x.es[i] :: y.es.drop k⟩) ⟨rfl, by simp only; omega, ?_, ?_, g16, hg2.trans hg16, ⟨hp16, ?_⟩, hs⟩
    · rw [List.take_succ_eq_append_getElem hil]
      exact ins_perm.trans ((List.Perm.cons _ hp).trans (List.perm_append_comm (l₁ := [x.es[i]])))
    · exact ins_up hu hk hkq hk0
    · intro e he
      have h1 := ins_perm.mem_iff.1 he
      rcases List.mem_cons.1 h1 with rfl | h1
      · exact ⟨(hex.1.mono hg2).mono hg16, hex.2⟩
      · exact ⟨(hy.evs e h1).1.mono hg16, (hy.evs e h1).2⟩
  · obtain rfl : i = x.es.length := by omega
    rw [List.take_length] at hp
    refine go ?_
    refine A.r1 ?_
    exact HR.out y _ g2 hg2 hy hp hu hs

set_option maxHeartbeats 3200000 in
set_option maxRecDepth 100000 in
theorem whole_any {R : Ending → World → Prop} {W w : World} {g : Hl} {H : List HP} {a : Option Addr} {n c : Nat} {ls : List El} (hp : Pr 1 g (.slice a n c) n (ls.map El.v)) (hn : ls.length = n) (hn2 : n ≤ 1000000000) (hok : ∀ x ∈ ls, x.ok g) (hl : (ls.flatMap El.es).length ≤ 100000000) (hs : Sat W w g H)
    (hR : ∀ y w' g', Hl.le g g' → El.ok y g' → y.es.Perm (ls.flatMap El.es) → UpE y.es → Sat W w' g' H → R (.returned y.v) w') :
    Calls Tryz.prog 55 #[.slice a n c] w R := by
  have HR := Lib.hid hR
  clear hR
  refine C.calls (args := [.slice a n c]) Tryz.func55 rfl rfl rfl ?_
  refine gob ?_
  refine C.cut (fun x : Option Addr × Nat => [(3, .slice x.1 (ls.flatMap El.es).length x.2)]) (fun x w => Sat W w g (own 46 8 (.slice x.1 (ls.flatMap El.es).length x.2) (ls.flatMap El.es).length (evC (ls.flatMap El.es)) :: H)) ?_ ?_
  · refine C.block ?_
    refine C.lp (fun x : Nat × Option Addr × Nat => [(0, .slice a n c), (3, .slice x.2.1 ((ls.take x.1).flatMap El.es).length x.2.2), (4, .int .i64 x.1)])
      (fun gk x w => gk = n - x.1 ∧ x.1 ≤ n ∧ Sat W w g (own 46 8 (.slice x.2.1 ((ls.take x.1).flatMap El.es).length x.2.2) ((ls.take x.1).flatMap El.es).length (evC ((ls.take x.1).flatMap El.es)) :: H)) n (0, none, 0) ⟨rfl, Nat.zero_le _, hs.nilOwn⟩ ?_
    clear hs
    rintro gk ⟨i, a2, c2⟩ w2 ⟨hgk, hi, hs⟩
    simp only at hgk hi hs ⊢
    refine go ?_
    refine C.cond_dec (p := (i : Int) < n) rfl (fun h => ?_) (fun h => ?_)
    · have hil : i < ls.length := by omega
      have ho := hok ls[i] (List.getElem_mem hil)
      have hsucc : (ls.take (i + 1)).flatMap El.es = (ls.take i).flatMap El.es ++ ls[i].es := by
        rw [List.take_succ_eq_append_getElem hil, List.flatMap_append]; simp
      have hle : ((ls.take i).flatMap El.es).length + ls[i].es.length ≤ 100000000 := by
        have h1 : ls.flatMap El.es = (ls.take (i + 1)).flatMap El.es ++ (ls.drop (i + 1)).flatMap El.es := by rw [← List.flatMap_append, List.take_append_drop]
        rw [h1, hsucc, List.length_append, List.length_append] at hl
        omega
      refine go ?_
      refine E.ix el_lists hs hp i (v := .slice ls[i].a ls[i].es.length ls[i].c) (by rw [List.getElem?_map, List.getElem?_eq_getElem hil]; rfl) ?_
      intro b3 o3 hc3
      refine go ?_
      refine E.app el_ev hs (ho.row.row hs) ?_ (h1 := evC_one fun e he => (ho.evs e he).1)
      intro a4 c4 w4 _ _ hs
      refine go ?_
      refine A.rd (n - (i + 1)) (i + 1, a4, c4) ⟨rfl, by omega, ?_⟩ (hw := ?_)
      · simp only [hsucc, List.length_append, evC_append]
        exact hs
      · simp only [hsucc, List.length_append]
        exact wk_
    · obtain rfl : i = n := by omega
      have e1 : ls.take i = ls := List.take_of_length_le (by omega)
      rw [e1] at hs ⊢
      refine go ?_
      exact A.mt (a2, c2) hs
  clear hs
  rintro ⟨a2, c2⟩ w2 hs
  simp only at hs ⊢
  obtain ⟨g3, hg3, hp3, hs⟩ := hs.publishOwn
  refine go ?_
  refine E.callf Tryz.func117 rfl ?_
  refine sort_any (x := ⟨a2, c2, ls.flatMap El.es⟩) ⟨hp3, fun e he => ?_⟩ hl hs ?_
  · obtain ⟨x, hx, he⟩ := List.mem_flatMap.1 he
    exact ⟨((hok x hx).evs e he).1.mono hg3, ((hok x hx).evs e he).2⟩
  intro y w4 g4 hg4 hy hyp hyu hs
  refine go ?_
  refine A.r1 ?_
  exact HR.out y _ g4 (hg3.trans hg4) hy hyp hyu hs
end Go.Proofs.YtdkbpcibmipelaaGreatDoor

/-
  Layer 7 (vector): Get, Trim, With.
-/
namespace Go.Proofs.YtdkbpcibmipelaaGreatDoor
open Go.RowKit
set_option linter.unusedVariables false
set_option linter.unusedSimpArgs false

/-- The cells of numbers. -/
def us (v : List Nat) : List Value := v.map fun (n : Nat) => .int .u64 (n : Int)
@[simp] theorem us_length (v : List Nat) : (us v).length = v.length := by simp [us]
theorem us_one (l : List Nat) : ∀ u ∈ us l, u.oneCell' = true := by
  intro u hu
  obtain ⟨x, _, rfl⟩ := List.mem_map.1 hu
  rfl
theorem us_get {l : List Nat} {j : Nat} (h : j < l.length) : (us l)[j]? = some (.int .u64 (l[j] : Int)) := by simp [us, h]
theorem us_take (l : List Nat) (k : Nat) : us (l.take k) = (us l).take k := by simp [us, List.map_take]
theorem el_vec : ElemOf Tryz.prog 96 22 (.int .u64 0) 1 8 := .of Tryz.underlying96 (by kernel_rfl) rfl (by decide)

def vget (v : List Nat) (w : Int) : Nat := if 0 ≤ w then v.getD w.toNat 0 else 0
/-- How many without noughts behind. -/
def vlen : List Nat → Nat
  | [] => 0
  | x :: r => if vlen r = 0 ∧ x = 0 then 0 else vlen r + 1
def vtrim (v : List Nat) : List Nat := v.take (vlen v)
def vwith (v : List Nat) (w : Int) (n : Nat) : List Nat := if 0 ≤ w ∧ w < 64 then vtrim ((v ++ List.replicate (w.toNat + 1 - v.length) 0).set w.toNat n) else vtrim v
theorem vlen_le : ∀ (v : List Nat), vlen v ≤ v.length
  | [] => Nat.le_refl _
  | x :: r => by have := vlen_le r; simp only [vlen, List.length_cons]; split <;> omega
theorem vlen_zero : ∀ (v : List Nat), (∀ k, (h : k < v.length) → v[k] = 0) → vlen v = 0
  | [], _ => rfl
  | x :: r, h => by
    have h0 := h 0 (by simp)
    have := vlen_zero r fun k hk => by have := h (k + 1) (by simpa using hk); simpa using this
    simp only [vlen]
    rw [if_pos ⟨this, by simpa using h0⟩]
theorem vlen_eq : ∀ (v : List Nat) (n : Nat), n ≤ v.length → (∀ k, (h : k < v.length) → n ≤ k → v[k] = 0) → (n = 0 ∨ ∃ h : n - 1 < v.length, v[n - 1] ≠ 0) → vlen v = n
  | [], n, h, _, _ => by simp only [List.length_nil] at h; simp only [vlen]; omega
  | x :: r, 0, _, h, _ => vlen_zero _ fun k hk => h k hk (Nat.zero_le _)
  | x :: r, n + 1, h1, h2, h3 => by
    simp only [List.length_cons] at h1
    rcases h3 with h3 | ⟨h3, h4⟩
    · omega
    rcases Nat.eq_zero_or_pos n with rfl | hn
    · have h0 := vlen_zero r fun k hk => by have := h2 (k + 1) (by simpa using hk) (by omega); simpa using this
      simp only [vlen, h0]
      have : x ≠ 0 := by simpa using h4
      rw [if_neg (by omega)]
    · have ih := vlen_eq r n (by omega) (fun k hk hnk => by have := h2 (k + 1) (by simpa using hk) (by omega); simpa using this) (.inr ⟨by simp only [List.length_cons] at h3; omega, by
        obtain ⟨m, rfl⟩ : ∃ m, n = m + 1 := ⟨n - 1, by omega⟩
        simpa using h4⟩)
      simp only [vlen, ih]
      rw [if_neg (by omega)]
theorem vlen_tail : ∀ (v : List Nat) (k : Nat), vlen v ≤ k → v.getD k 0 = 0
  | [], k, _ => by simp
  | x :: r, k, h => by
    simp only [vlen] at h
    split at h
    · rename_i h0
      cases k with
      | zero => simpa using h0.2
      | succ k => have := vlen_tail r k (by omega); simpa using this
    · cases k with
      | zero => omega
      | succ k => have := vlen_tail r k (by omega); simpa using this
theorem vtrim_get (v : List Nat) (w : Int) : vget (vtrim v) w = vget v w := by
  unfold vget vtrim
  split
  · rw [List.getD_eq_getElem?_getD, List.getElem?_take]
    split
    · rw [List.getD_eq_getElem?_getD]
    · rename_i h
      have := vlen_tail v w.toNat (by omega)
      rw [this]; rfl
  · rfl
theorem vtrim_len (v : List Nat) : (vtrim v).length ≤ v.length := by unfold vtrim; rw [List.length_take]; omega
theorem vwith_get (v : List Nat) {w : Int} (n : Nat) (u : Int) (hw : 0 ≤ w ∧ w < 64) : vget (vwith v w n) u = if u = w then n else vget v u := by
  unfold vwith
  rw [if_pos hw, vtrim_get]
  unfold vget
  by_cases hu : 0 ≤ u
  · rw [if_pos hu, if_pos hu]
    rw [List.getD_eq_getElem?_getD, List.getElem?_set]
    by_cases he : u = w
    · subst he
      rw [if_pos rfl, if_pos rfl, if_pos (by simp; omega)]; rfl
    · rw [if_neg (by omega), if_neg he, List.getElem?_append, List.getD_eq_getElem?_getD]
      split
      · rfl
      · rename_i h
        rw [List.getElem?_eq_none (l := v) (by omega), List.getElem?_replicate]
        split <;> rfl
  · rw [if_neg hu, if_neg hu, if_neg (by omega)]
theorem vwith_len (v : List Nat) (w : Int) (n : Nat) (hv : v.length ≤ 64) : (vwith v w n).length ≤ 64 := by
  unfold vwith
  split
  · have := vtrim_len ((v ++ List.replicate (w.toNat + 1 - v.length) 0).set w.toNat n)
    simp only [List.length_set, List.length_append, List.length_replicate] at this
    omega
  · have := vtrim_len v; omega
theorem vwith_lt (v : List Nat) (w : Int) (n : Nat) (h : ∀ x ∈ v, x < 18446744073709551616) (hn : n < 18446744073709551616) : ∀ x ∈ vwith v w n, x < 18446744073709551616 := by
  intro x hx
  unfold vwith at hx
  split at hx
  · have h1 := List.mem_of_mem_take hx
    rcases List.mem_or_eq_of_mem_set h1 with h2 | rfl
    · rcases List.mem_append.1 h2 with h3 | h3
      · exact h x h3
      · have := (List.mem_replicate.1 h3).2; omega
    · exact hn
  · exact h x (List.mem_of_mem_take hx)

set_option maxHeartbeats 1600000 in
set_option maxRecDepth 100000 in
theorem vget_any {R : Ending → World → Prop} {W w : World} {g : Hl} {H : List HP} {a : Option Addr} {n c : Nat} {v : List Nat} {i : Int} (hs : Sat W w g H) (hp : Pr 1 g (.slice a n c) n (us v)) (hn : v.length = n) (hn2 : n ≤ 1000000000) (hR : R (.returned (.int .u64 (vget v i))) w) :
    Calls Tryz.prog 133 #[.slice a n c, .int .i64 i] w R := by
  have HR := Lib.hid hR
  clear hR
  refine C.calls (args := [.slice a n c, .int .i64 i]) Tryz.func133 rfl rfl rfl ?_
  refine go ?_
  cases h1 : decide (i < 0) with
  | true =>
    refine go ?_
    refine A.r1 ?_
    have h1 := of_decide_eq_true h1
    have := HR.out
    simp only [vget] at this
    rw [if_neg (by omega)] at this
    exact this
  | false =>
  have h1 := of_decide_eq_false h1
  refine go ?_
  cases h2 : decide ((n : Int) ≤ i) with
  | true =>
    refine go ?_
    refine A.r1 ?_
    have h2 := of_decide_eq_true h2
    have := HR.out
    simp only [vget] at this
    rw [if_pos (by omega), List.getD_eq_getElem?_getD, List.getElem?_eq_none (by omega)] at this
    exact this
  | false =>
  have h2 := of_decide_eq_false h2
  refine go ?_
  refine E.ix el_vec hs hp i.toNat (us_get (by omega)) ?_
  intro b o hc
  refine go ?_
  refine A.r1 ?_
  have := HR.out
  simp only [vget] at this
  rw [if_pos (by omega), List.getD_eq_getElem?_getD, List.getElem?_eq_getElem (by omega)] at this
  exact this

set_option maxHeartbeats 1600000 in
set_option maxRecDepth 100000 in
theorem vclone_any {R : Ending → World → Prop} {W w : World} {g : Hl} {H : List HP} {a : Option Addr} {n c : Nat} {v : List Nat} (hs : Sat W w g H) (hp : Pr 1 g (.slice a n c) n (us v)) (hn : n ≤ 1000000000)
    (hR : ∀ a' c' w', Sat W w' g (own 22 1 (.slice a' n c') n (us v) :: H) → R (.returned (.slice a' n c')) w') :
    Calls Tryz.prog 191 #[.slice a n c] w R := by
  have HR := Lib.hid hR
  clear hR
  cases a with
  | none =>
    obtain ⟨hx, a0, c0, e, _, _, h0, _⟩ := id hp
    simp only [Value.slice.injEq] at e
    obtain ⟨rfl, _, rfl⟩ := e
    obtain ⟨rfl, rfl⟩ := h0 rfl
    obtain rfl : v = [] := by simpa using hx
    refine C.calls (args := [.slice none 0 0]) Tryz.func191 rfl rfl rfl ?_
    refine go ?_
    refine A.r1 ?_
    exact HR.out _ _ _ hs.nilOwn
  | some ad =>
    refine C.calls (args := [.slice (some ad) n c]) Tryz.func191 rfl rfl rfl ?_
    refine go ?_
    refine E.bsl hs ?_
    intro b1 w1 hs
    have hs := hs.blkOwn (size := 1) 0 rfl (by decide)
    refine go ?_
    refine E.app el_vec hs (hp.row hs) ?_ (h1 := us_one _)
    intro a2 c2 w2 _ _ hs
    simp only [Nat.zero_add, List.nil_append] at hs ⊢
    refine go ?_
    refine A.r1 ?_
    exact HR.out _ _ _ hs

set_option maxHeartbeats 1600000 in
set_option maxRecDepth 100000 in
theorem vtrim_any {R : Ending → World → Prop} {W w : World} {g : Hl} {H : List HP} {a : Option Addr} {n c : Nat} {v : List Nat} (hs : Sat W w g H) (hp : Pr 1 g (.slice a n c) n (us v)) (hv : v.length = n) (hn : n ≤ 1000000000)
    (hR : ∀ a' c' w' g', Hl.le g g' → Pr 1 g' (.slice a' (vtrim v).length c') (vtrim v).length (us (vtrim v)) → Sat W w' g' H → R (.returned (.slice a' (vtrim v).length c')) w') :
    Calls Tryz.prog 121 #[.slice a n c] w R := by
  have HR := Lib.hid hR
  clear hR
  refine C.calls (args := [.slice a n c]) Tryz.func121 rfl rfl rfl ?_
  refine gob ?_
  refine C.cutQ (fun _ : Unit => [(0, .slice a n c), (3, .int .i64 (vlen v))]) (fun _ w => Sat W w g H) ?_ ?_
  · refine C.block ?_
    refine C.lp (fun m : Nat => [(0, .slice a n c), (3, .int .i64 m)]) (fun gk m w => gk = m ∧ m ≤ n ∧ (∀ k, (h : k < v.length) → m ≤ k → v[k] = 0) ∧ Sat W w g H) n n ⟨rfl, Nat.le_refl _, fun k h h2 => by omega, hs⟩ ?_
    clear hs
    rintro gk m w1 ⟨rfl, hm, hz, hs⟩
    refine go ?_
    cases h1 : decide ((0 : Int) < gk) with
    | false =>
      have h1 := of_decide_eq_false h1
      refine go ?_
      refine A.mt () hs ?_
      have : vlen v = gk := vlen_eq v gk (by omega) hz (.inl (by omega))
      rw [this]
      exact wk_
    | true =>
    have h1 := of_decide_eq_true h1
    refine go ?_
    have hlt : gk - 1 < v.length := by omega
    refine E.ix el_vec hs hp (gk - 1) (us_get hlt) ?_
    intro b o hc
    refine go ?_
    cases h2 : decide ((v[gk - 1] : Int) = 0) with
    | false =>
      have h2 := of_decide_eq_false h2
      refine go ?_
      refine A.mt () hs ?_
      have : vlen v = gk := vlen_eq v gk (by omega) hz (.inr ⟨hlt, by omega⟩)
      rw [this]
      exact wk_
    | true =>
      have h2 := of_decide_eq_true h2
      refine go ?_
      have e1 : ((gk : Int) - 1) = ((gk - 1 : Nat) : Int) := by omega
      rw [e1]
      refine A.rd (gk - 1) (gk - 1) ⟨rfl, by omega, fun k hk hmk => ?_, hs⟩
      rcases Nat.lt_or_ge k gk with h | h
      · obtain rfl : k = gk - 1 := by omega
        omega
      · exact hz k hk h
  clear hs
  rintro _ w1 hs
  have hvl := vlen_le v
  refine go ?_
  refine E.slp el_vec hp 0 (vlen v) ?_
  intro a2 c2 hp2
  simp only [Nat.zero_mul, List.drop_zero, Nat.sub_zero, Nat.mul_one] at hp2 ⊢
  rw [← us_take] at hp2
  have hl : (vtrim v).length = vlen v := by unfold vtrim; rw [List.length_take]; omega
  refine E.callf Tryz.func191 rfl ?_
  refine vclone_any hs hp2 (by omega) ?_
  intro a3 c3 w3 hs
  obtain ⟨g3, hg3, hp3, hs⟩ := hs.publishOwn
  refine go ?_
  refine A.r1 ?_
  have hp4 : Pr 1 g3 (.slice a3 (vtrim v).length c3) (vtrim v).length (us (vtrim v)) := by rw [hl]; exact hp3
  rw [← hl]
  exact HR.out _ _ _ _ hg3 hp4 hs

set_option maxHeartbeats 1600000 in
set_option maxRecDepth 100000 in
theorem vwith_any {R : Ending → World → Prop} {W w : World} {g : Hl} {H : List HP} {a : Option Addr} {n c m : Nat} {v : List Nat} {i : Int} (hs : Sat W w g H) (hp : Pr 1 g (.slice a n c) n (us v)) (hv : v.length = n) (hn : n ≤ 100000000)
    (hR : ∀ a' c' w' g', Hl.le g g' → Pr 1 g' (.slice a' (vwith v i m).length c') (vwith v i m).length (us (vwith v i m)) → Sat W w' g' H → R (.returned (.slice a' (vwith v i m).length c')) w') :
    Calls Tryz.prog 208 #[.slice a n c, .int .i64 i, .int .u64 m] w R := by
  have HR := Lib.hid hR
  clear hR
  by_cases hi : 0 ≤ i ∧ i < 64
  · obtain ⟨i, rfl⟩ := Int.eq_ofNat_of_zero_le hi.1
    have ew : vwith v i m = vtrim ((v ++ List.replicate (i + 1 - v.length) 0).set i m) := by unfold vwith; rw [if_pos hi]; rfl
    refine C.calls (args := [.slice a n c, .int .i64 i, .int .u64 m]) Tryz.func208 rfl rfl rfl ?_
    refine go ?_
    rw [show decide ((i : Int) < 0) = false from decide_eq_false (by omega)]
    refine go ?_
    rw [show decide ((64 : Int) ≤ i) = false from decide_eq_false (by omega)]
    refine go ?_
    refine E.callf Tryz.func191 rfl ?_
    refine vclone_any hs hp (by omega) ?_
    intro a2 c2 w2 hs
    refine gob ?_
    refine C.cut (fun x : Nat × Option Addr × Nat => [(1, .int .i64 i), (2, .int .u64 m), (7, .slice x.2.1 x.1 x.2.2)]) (fun x w => x.1 = (v ++ List.replicate (i + 1 - v.length) 0).length ∧ Sat W w g (own 22 1 (.slice x.2.1 x.1 x.2.2) x.1 (us (v ++ List.replicate (i + 1 - v.length) 0)) :: H)) ?_ ?_
    · refine C.block ?_
      refine C.lp (fun x : Nat × Option Addr × Nat => [(1, .int .i64 i), (2, .int .u64 m), (7, .slice x.2.1 x.1 x.2.2)]) (fun gk x w => gk = i + 1 - x.1 ∧ n ≤ x.1 ∧ x.1 ≤ max n (i + 1) ∧ Sat W w g (own 22 1 (.slice x.2.1 x.1 x.2.2) x.1 (us (v ++ List.replicate (x.1 - n) 0)) :: H)) (i + 1 - n) (n, a2, c2) ⟨rfl, Nat.le_refl _, by simp only; omega, by simpa using hs⟩ ?_
      clear hs
      rintro gk ⟨k, a3, c3⟩ w3 ⟨rfl, hk, hk2, hs⟩
      simp only at hk hk2 hs ⊢
      refine go ?_
      refine C.cond_dec (p := (k : Int) ≤ i) rfl (fun h => ?_) (fun h => ?_)
      · refine go ?_
        refine E.bsl hs ?_
        intro b4 w4 hs
        refine E.app el_vec hs.swap (hs.rowOf (size := 1) 1 rfl (by decide)) ?_
        intro a5 c5 w5 _ _ hs
        refine go ?_
        refine A.rd (i + 1 - (k + 1)) (k + 1, a5, c5) ⟨rfl, by simp only; omega, by simp only; omega, ?_⟩
        have e : us (v ++ List.replicate (k + 1 - n) 0) = us (v ++ List.replicate (k - n) 0) ++ [.int .u64 0] := by
          rw [show k + 1 - n = (k - n) + 1 by omega, List.replicate_succ']
          simp [us]
        simp only [e]
        exact hs.swap.drop
      · refine go ?_
        refine A.mt (k, a3, c3) ⟨?_, ?_⟩
        · simp only [List.length_append, List.length_replicate]; omega
        · rw [show i + 1 - v.length = k - n by omega]
          exact hs
    clear hs
    rintro ⟨k, a3, c3⟩ w3 ⟨hk, hs⟩
    simp only at hk hs ⊢
    have hlen : (v ++ List.replicate (i + 1 - v.length) 0).length = k := hk.symm
    have hik : i < k := by rw [hk]; simp only [List.length_append, List.length_replicate]; omega
    have hk9 : k ≤ 1000000000 := by rw [hk]; simp only [List.length_append, List.length_replicate]; omega
    generalize v ++ List.replicate (i + 1 - v.length) 0 = u at *
    clear hk
    obtain ⟨_, _, e1, hkc, hcm, hcase⟩ := hs.ownLen
    simp only [Value.slice.injEq] at e1
    obtain ⟨rfl, _, rfl⟩ := e1
    rcases hcase with rfl | ⟨bb, rfl⟩
    · exfalso
      rcases hs.owns.2 with ⟨e, _⟩ | ⟨_, _, _, e, _⟩
      · simp only [Value.slice.injEq] at e; omega
      · cases e
    refine go ?_
    refine E.cons (St.storeOwn hs rfl rfl rfl (by rw [us_length]; omega) rfl sz_ ?_)
    intro w4 hs
    have e2 : (us u).set i (.int .u64 m) = us (u.set i m) := by simp [us]
    rw [e2] at hs
    obtain ⟨g5, hg5, hp5, hs⟩ := hs.publishOwn
    refine go ?_
    refine E.callf Tryz.func121 rfl ?_
    refine vtrim_any hs hp5 (by simpa using hlen) (by omega) ?_
    intro a6 c6 w6 g6 hg6 hp6 hs
    rw [ew] at HR
    refine go ?_
    refine A.r1 ?_
    exact HR.out _ _ _ _ (hg5.trans hg6) hp6 hs
  · have ew : vwith v i m = vtrim v := by unfold vwith; rw [if_neg hi]
    rw [ew] at HR
    refine C.calls (args := [.slice a n c, .int .i64 i, .int .u64 m]) Tryz.func208 rfl rfl rfl ?_
    refine go ?_
    cases h1 : decide (i < 0) with
    | true =>
      refine go ?_
      refine E.callf Tryz.func121 rfl ?_
      refine vtrim_any hs hp hv (by omega) ?_
      intro a6 c6 w6 g6 hg6 hp6 hs
      refine go ?_
      refine A.r1 ?_
      exact HR.out _ _ _ _ hg6 hp6 hs
    | false =>
      have h1 := of_decide_eq_false h1
      refine go ?_
      rw [show decide ((64 : Int) ≤ i) = true from decide_eq_true (by omega)]
      refine go ?_
      refine E.callf Tryz.func121 rfl ?_
      refine vtrim_any hs hp hv (by omega) ?_
      intro a6 c6 w6 g6 hg6 hp6 hs
      refine go ?_
      refine A.r1 ?_
      exact HR.out _ _ _ _ hg6 hp6 hs
end Go.Proofs.YtdkbpcibmipelaaGreatDoor

/-
  The reference of layer 12: events of three writers, from numbers.
-/
namespace Go.Proofs.YtdkbpcibmipelaaGreatDoor
open Go.RowKit
set_option linter.unusedVariables false
set_option linter.unusedSimpArgs false

theorem el_u16s : ElemOf Tryz.prog 89 53 (.int .u16 0) 1 2 := .of Tryz.underlying89 (by kernel_rfl) rfl (by decide)
theorem el_u64s : ElemOf Tryz.prog 90 22 (.int .u64 0) 1 8 := .of Tryz.underlying90 (by kernel_rfl) rfl (by decide)
/-- The cells of small numbers. -/
def hs16 (v : List Nat) : List Value := v.map fun (n : Nat) => .int .u16 (n : Int)

/-- A writer's event, from numbers. -/
structure Ev.fine (e : Ev) (g : Hl) (w : Nat) (last : Nat) : Prop where
  ok : e.ok g
  wr : e.wr = w
  kd : 1 ≤ e.kd ∧ e.kd ≤ 4
  key : e.key.length = 1
  text : e.text.length ≤ 1
  nd : e.nd = 0
  tm : 1 ≤ e.tm ∧ e.tm ≤ last
theorem Ev.fine.mono {e : Ev} {g g' : Hl} {w l l' : Nat} (h : e.fine g w l) (hg : Hl.le g g') (hl : l ≤ l') : e.fine g' w l' := ⟨h.ok.mono hg, h.wr, h.kd, h.key, h.text, h.nd, h.tm.1, by have := h.tm.2; omega⟩
structure Feed (g : Hl) (w : Nat) (es : List Ev) (last : Nat) : Prop where
  evs : ∀ e ∈ es, e.fine g w last
  sq : ∀ q (h : q < es.length), es[q].sq = q + 1
  up : es.Pairwise fun a b => a.tm < b.tm
theorem Feed.mono {g g' : Hl} {w l : Nat} {es : List Ev} (h : Feed g w es l) (hg : Hl.le g g') : Feed g' w es l := ⟨fun e he => (h.evs e he).mono hg (Nat.le_refl _), h.sq, h.up⟩
theorem Feed.add {g g' : Hl} {w l l' : Nat} {es : List Ev} {e : Ev} (h : Feed g w es l) (hg : Hl.le g g') (hl : l < e.tm) (he : e.fine g' w l') (hll : l ≤ l') (hsq : e.sq = es.length + 1) : Feed g' w (es ++ [e]) l' := by
  refine ⟨fun x hx => ?_, fun q hq => ?_, ?_⟩
  · rcases List.mem_append.1 hx with hx | hx
    · exact (h.evs x hx).mono hg hll
    · simp only [List.mem_singleton] at hx; subst hx; exact he
  · rcases Nat.lt_or_ge q es.length with hlt | hge
    · rw [List.getElem_append_left hlt]; exact h.sq q hlt
    · have : q = es.length := by simp at hq; omega
      subst this
      simp [hsq]
  · refine List.pairwise_append.2 ⟨h.up, List.pairwise_singleton _ _, fun a ha b hb => ?_⟩
    simp only [List.mem_singleton] at hb
    subst hb
    have := (h.evs a ha).tm.2
    omega

theorem made1 (v : Value) (k : Nat) : (madeCells #[v] k).toList = List.replicate k v := by
  apply List.ext_getElem?
  intro j
  by_cases hj : j < k
  · simp [madeCells, hj, Nat.mod_one]
  · simp [madeCells, hj]
section
variable {P : Program} {n : Fm} {ρ : List (Nat × Value)} {W w : World} {g : Hl} {H : List HP} {Q : Exit → Act → World → Prop} {ops : Array Oper} {rest : List Oper} {d : Option Tmp} {ty : TypeId} {ps : String} {af : Array Edge} {x y : Operand}
theorem E.fdiv {s s' : TypeId} {a b r : Nat} (hr : Ieee.double.div a b = some r) (h : E P n ops rest (pushv d (.float .f64 r) ρ) w Q)
    (hx : evo n ρ x = some (.float .f64 a) := by exact rfl) (hy : evo n ρ y = some (.float .f64 b) := by exact rfl) : E P n ops (⟨d, .binOp .quo s x y s', ty, ps, af, none⟩ :: rest) ρ w Q := by
  refine E.cons (St.val (v := .float .f64 r) (w' := w) (fun ac ha => ?_) h)
  have e0 : FloatKind.f64.format.div a b = some r := hr
  simp [execOp, ha.eval hx, ha.eval hy, eqGuard, binOp, Op.floatArith, e0]
end
theorem quarter : ∀ i : Nat, i < 60 → ∃ r, Ieee.double.div (FloatKind.f64.nearest (i : Int)) 4616189618054758400 = some r ∧ r < 18446744073709551616 := by
  intro i hi
  have h : ∀ j : Fin 60, (Ieee.double.div (FloatKind.f64.nearest (j.val : Int)) 4616189618054758400).isSome = true := by decide +kernel
  have h1 := h ⟨i, hi⟩
  obtain ⟨r, hr⟩ := Option.isSome_iff_exists.1 h1
  exact ⟨r, hr, Ieee.Format.div_lt _ hr⟩
/-- A list that is being made. -/
def fown (x : El) : HP := own 46 8 x.v x.es.length (evC x.es)
theorem bsep_out {W w : World} {g : Hl} {H : List HP} {l1 l2 : List HP} {p : HP} (hs : Sat W w g (bsep (l1 ++ p :: l2) :: H)) : Sat W w g (p :: bsep (l1 ++ l2) :: H) := by
  have h1 := hs.bopen
  simp only [List.append_assoc, List.cons_append] at h1
  have h2 := h1.toFront
  rw [← List.append_assoc] at h2
  exact (Sat.bclose (l := l1 ++ l2) (h2.toBack)).swap
theorem bsep_in {W w : World} {g : Hl} {H : List HP} {l1 l2 : List HP} {p : HP} (hs : Sat W w g (p :: bsep (l1 ++ l2) :: H)) : Sat W w g (bsep (l1 ++ p :: l2) :: H) := by
  have h1 := hs.swap.bopen
  simp only [List.append_assoc] at h1
  apply Sat.bclose
  simp only [List.append_assoc, List.cons_append]
  refine h1.perm ?_
  refine List.Perm.append_left _ ?_
  exact List.perm_middle

theorem mkFine {g : Hl} {v len t kd : Nat} {kb : UInt8} {text : List UInt8} {num : Nat} {tv : Value} (hv : v < 3) (hl : len ≤ 60) (ht : 1 ≤ t ∧ t ≤ 300) (hk : 1 ≤ kd ∧ kd ≤ 4) (hx : text.length ≤ 1) (hn : num < 18446744073709551616) (hp : Pr 1 g tv text.length (bs text)) :
    Ev.fine ⟨(v : Nat), len + 1, t, kd, [kb], text, num, 0, tv⟩ g v t := ⟨⟨by simp only; omega, by simp only; omega, by simp only; omega, by simp only; omega, hn, by simp only; omega, by simp, by simp only; omega, hp⟩, rfl, hk, rfl, hx, rfl, ht.1, Nat.le_refl _⟩
set_option maxHeartbeats 3200000 in
set_option maxRecDepth 100000 in
theorem feeds_any {R : Ending → World → Prop} {W w : World} {g : Hl} {H : List HP} {a : Option Addr} {n c : Nat} {zs : List Nat} (hp : Pr 1 g (.slice a n c) n (hs16 zs)) (hn : zs.length = n) (hz : ∀ z ∈ zs, z < 65536) (hn2 : n ≤ 60) (hs : Sat W w g H)
    (hR : ∀ a' c' (outs : List El) w' g', Hl.le g g' → outs.length = 3 → (∀ w (h : w < outs.length), ∃ last, last ≤ 240 ∧ Feed g' w outs[w].es last ∧ outs[w].es.length ≤ 60) → (∀ x ∈ outs, x.ok g') → Pr 1 g' (.slice a' 3 c') 3 (outs.map El.v) → Sat W w' g' H → R (.returned (.slice a' 3 c')) w') :
    Calls Tryz.prog 56 #[.slice a n c, .int .i64 3] w R := by
  have HR := Lib.hid hR
  clear hR
  refine C.calls (args := [.slice a n c, .int .i64 3]) Tryz.func56 rfl rfl rfl ?_
  refine go ?_
  refine E.mk (k2 := 3) el_lists hs ?_
  intro a1 w1 hs
  refine go ?_
  refine E.mk (k2 := 3) el_u64s hs ?_
  intro a2 w2 hs
  obtain ⟨bl, ls0, rfl, hl0, _, _, hl1, hs⟩ := own_open (by decide) hs
  obtain ⟨bo, os0, rfl, ho0, _, _, ho1, hs⟩ := own_open (by decide) hs.swap
  have hls : ls0 = us [0, 0, 0] := by rw [← List.take_of_length_le (l := ls0) (Nat.le_of_eq hl0), hl1]; exact made1 (.int .u64 0) 3
  have hos : os0 = ([⟨none, 0, []⟩, ⟨none, 0, []⟩, ⟨none, 0, []⟩] : List El).map El.v := by rw [← List.take_of_length_le (l := os0) (Nat.le_of_eq ho0), ho1]; exact made1 (.slice none 0 0) 3
  subst hls hos
  have hs3 : Sat W w2 g (bsep (([⟨none, 0, []⟩, ⟨none, 0, []⟩, ⟨none, 0, []⟩] : List El).map fown) :: blk bo (([⟨none, 0, []⟩, ⟨none, 0, []⟩, ⟨none, 0, []⟩] : List El).map El.v) 27 :: blk bl (us [0, 0, 0]) 22 :: H) := Sat.bclose (l := ([⟨none, 0, []⟩, ⟨none, 0, []⟩, ⟨none, 0, []⟩] : List El).map fown) hs.nilOwn.nilOwn.nilOwn
  clear hs hl0 hl1 ho0 ho1
  have hs := hs3
  clear hs3
  refine gob ?_
  refine C.cut (fun _ : Unit => [(5, .slice (some ⟨bo, 0, none⟩) 3 3)]) (fun _ w => ∃ (outs : List El) (lasts : List Nat) (g' : Hl), outs.length = 3 ∧ lasts.length = 3 ∧ Hl.le g g' ∧ (∀ w (h : w < outs.length) (h' : w < lasts.length), Feed g' w outs[w].es lasts[w] ∧ lasts[w] ≤ 240 ∧ outs[w].es.length ≤ 60) ∧ Sat W w g' (bsep (outs.map fown) :: blk bo (outs.map El.v) 27 :: blk bl (us lasts) 22 :: H)) ?_ ?_
  · refine C.block ?_
    refine C.lp (fun i : Nat => [(0, .slice a n c), (1, .int .i64 3), (5, .slice (some ⟨bo, 0, none⟩) 3 3), (6, .slice (some ⟨bl, 0, none⟩) 3 3), (7, .int .i64 i)])
      (fun gk i w => gk = n - i ∧ i ≤ n ∧ ∃ (outs : List El) (lasts : List Nat) (g' : Hl), outs.length = 3 ∧ lasts.length = 3 ∧ Hl.le g g' ∧ (∀ w (h : w < outs.length) (h' : w < lasts.length), Feed g' w outs[w].es lasts[w] ∧ lasts[w] ≤ 4 * i ∧ outs[w].es.length ≤ i) ∧ Sat W w g' (bsep (outs.map fown) :: blk bo (outs.map El.v) 27 :: blk bl (us lasts) 22 :: H)) n 0
      ⟨rfl, Nat.zero_le _, [⟨none, 0, []⟩, ⟨none, 0, []⟩, ⟨none, 0, []⟩], [0, 0, 0], g, rfl, rfl, Hl.le_refl _, ?_, hs⟩ ?_
    · intro w h h'
      have : w = 0 ∨ w = 1 ∨ w = 2 := by simp at h; omega
      rcases this with rfl | rfl | rfl <;> exact ⟨⟨by simp, by simp, by simp⟩, by simp, by simp⟩
    clear hs
    rintro gk i w3 ⟨rfl, hi, outs, lasts, g3, ho3, hl3, hg3, hF, hs⟩
    refine go ?_
    cases hd : decide ((i : Int) < n) with
    | false =>
      refine go ?_
      refine A.mt () ⟨outs, lasts, g3, ho3, hl3, hg3, fun w h h' => ?_, hs⟩
      obtain ⟨f1, f2, f3⟩ := hF w h h'
      exact ⟨f1, by omega, by omega⟩
    | true =>
    have hd := of_decide_eq_true hd
    refine go ?_
    rw [show decide ((i : Int) < 60) = true from decide_eq_true (by omega)]
    refine go ?_
    have hil : i < zs.length := by omega
    have hz1 := hz zs[i] (List.getElem_mem hil)
    obtain ⟨lb, lo, ha⟩ := pr_some hp (by omega)
    subst ha
    have hp3 := hp.mono hg3
    have hzc : (hs16 zs)[i]? = some (.int .u16 (zs[i] : Nat)) := by simp [hs16, hil]
    have hcell : w3.cell? ⟨lb, lo + i, none⟩ = some (.int .u16 (zs[i] : Nat)) := ((hp3.row hs).cellAt rfl hzc).2
    generalize hzz : zs[i] = z at hz1 hzc hcell
    clear hzz
    refine go ?_
    have ew : (z : Int).tmod 3 = ((z % 3 : Nat) : Int) := (Int.ofNat_tmod z 3).symm
    have hw3 : z % 3 < 3 := Nat.mod_lt _ (by decide)
    rw [ew]
    generalize hwz : z % 3 = v at hw3
    clear hwz ew
    have hvo : v < outs.length := by omega
    have hvl : v < lasts.length := by omega
    obtain ⟨f1, f2, f3⟩ := hF v hvo hvl
    have hv3 : (v : Int) < 3 := by omega
    have hlv : (us lasts)[v]? = some (.int .u64 (lasts[v] : Nat)) := us_get hvl
    refine C.held0 hs ?_
    intro w4 hk hs
    have rl : Rd (Keeps g3 []) lb (lo + i) (.int .u16 (z : Nat)) := Rd.pool hp3 hzc
    refine goh ?_
    refine EH.ld hs ?_ (hf := .there (.there .here)) (hj := hlv)
    refine kept0 hs (fun hk => ?_)
    refine goh ?_
    have htb : lasts[v] + (1 + z / 16 % 4) ≤ 4 * (i + 1) := by omega
    have htl : lasts[v] < lasts[v] + (1 + z / 16 % 4) := by omega
    generalize htt : lasts[v] + (1 + z / 16 % 4) = t at htb htl
    have hus : spl (us lasts) v [.int .u64 (t : Nat)] = us (lasts.set v t) := by simp [spl, us]
    refine EH.sto hs ?_ (hf := .there (.there .here)) (hsp := hus) (hu := .there (.there .here)) (hj := Nat.ble_eq ▸ (by simp only [List.length_cons, List.length_nil, us_length]; omega))
    intro w5 hs
    refine kept0 hs (fun hk => ?_)
    refine EH.done ?_
    refine go ?_
    have hlt2 : (us (lasts.set v t))[v]? = some (.int .u64 (t : Nat)) := by simp [us, hvl]
    have hov : (outs.map El.v)[v]? = some (.slice outs[v].a outs[v].es.length outs[v].c) := by rw [List.getElem?_map, List.getElem?_eq_getElem hvo]; rfl
    refine C.cut (fun x : Nat => [(0, .slice (some ⟨lb, lo, none⟩) n c), (1, .int .i64 3), (5, .slice (some ⟨bo, 0, none⟩) 3 3), (6, .slice (some ⟨bl, 0, none⟩) 3 3), (7, .int .i64 i), (8, .int .i64 v), (9, .pointer (some ⟨x, 0, none⟩))])
      (fun b9 w => Sat W w g3 (blk b9 [.int .i64 v, .int .u64 (outs[v].es.length + 1 : Nat), .int .u64 (t : Nat), .int .u8 (1 + z / 64 % 256 % 4 : Nat), .string ⟨[UInt8.ofNat (97 + z / 256 % 4)].toArray⟩, .slice none 0 0, .float .f64 0, .int .i64 0] 46 :: bsep (outs.map fown) :: blk bo (outs.map El.v) 27 :: blk bl (us (lasts.set v t)) 22 :: H)) ?_ ?_
    · refine C.held2 bo bl hs ?_
      intro w6 hk hs
      have rl2 : Rd (Keeps g3 [(bo, outs.map El.v, 27), (bl, us (lasts.set v t), 22)]) lb (lo + i) (.int .u16 (z : Nat)) := Rd.pool hp3 hzc
      have rO : Rd (Keeps g3 [(bo, outs.map El.v, 27), (bl, us (lasts.set v t), 22)]) bo v (.slice outs[v].a outs[v].es.length outs[v].c) := Rd.blk .here hov
      have rL : Rd (Keeps g3 [(bo, outs.map El.v, 27), (bl, us (lasts.set v t), 22)]) bl v (.int .u64 (t : Nat)) := Rd.blk (.there .here) hlt2
      refine goh ?_
      have eb : bs [UInt8.ofNat (97 + z / 256 % 4)] = [.int .u8 (97 + z / 256 % 4 : Nat)] := by
        have : (97 + z / 256 % 4) % 256 = 97 + z / 256 % 4 := by omega
        simp only [bs, List.map_cons, List.map_nil, UInt8.toNat_ofNat']
        rw [show 2 ^ 8 = 256 by rfl, this]
      refine EH.ba hs ?_ ?_
      · intro b7 w7 hs
        refine kept2 hs (fun hk => ?_)
        refine EH.ora hs (St.string rfl Tryz.underlying33 Tryz.underlying5 Tryz.underlying9 ((by rw [eb]; exact hs.rowOf (size := 1) 1 rfl (by decide) : Row 1 _ (fun _ => True) _ 1 (bs [UInt8.ofNat (97 + z / 256 % 4)]))) ?_) ?_
        · refine kept2 hs (fun hk => ?_)
          refine goh ?_
          refine EH.al hs ?_
          intro b9 w9 hs
          refine kept2 hs (fun hk => ?_)
          refine goh ?_
          refine EH.sto hs ?_
          intro w10 hs
          refine kept2 hs (fun hk => ?_)
          refine EH.done ?_
          exact A.mt b9 (by have := hs.swap.drop; simpa using this)
        · intro b9 w9 hs
          refine kept2 hs (fun hk => ?_)
          refine EH.one (St.string rfl Tryz.underlying33 Tryz.underlying5 Tryz.underlying9 ((by rw [eb]; exact hs.swap.rowOf (size := 1) 1 rfl (by decide) : Row 1 _ (fun _ => True) _ 1 (bs [UInt8.ofNat (97 + z / 256 % 4)]))) ?_)
          refine kept2 hs (fun hk => ?_)
          refine goh ?_
          refine EH.sto hs ?_
          intro w10 hs
          refine kept2 hs (fun hk => ?_)
          refine EH.done ?_
          exact A.mt b9 (by have := hs.swap.drop; simpa using this)
      · intro b9 w9 hs
        refine kept2 hs (fun hk => ?_)
        refine EH.bsl hs ?_
        intro b7 w7 hs
        refine kept2 hs (fun hk => ?_)
        refine EH.one (St.string rfl Tryz.underlying33 Tryz.underlying5 Tryz.underlying9 ((by rw [eb]; exact hs.rowOf (size := 1) 1 rfl (by decide) : Row 1 _ (fun _ => True) _ 1 (bs [UInt8.ofNat (97 + z / 256 % 4)]))) ?_)
        refine kept2 hs (fun hk => ?_)
        refine goh ?_
        refine EH.sto hs ?_
        intro w10 hs
        refine kept2 hs (fun hk => ?_)
        refine EH.done ?_
        exact A.mt b9 (by have := hs.drop; simpa using this)
    clear hs
    rintro b9 w11 hs
    have hkd : 1 ≤ 1 + z / 64 % 256 % 4 ∧ 1 + z / 64 % 256 % 4 ≤ 4 := by omega
    generalize 1 + z / 64 % 256 % 4 = kd at hkd hs
    obtain ⟨qr, hqr, hqr2⟩ := quarter i (by omega)
    have hi60 : i < 60 := by omega
    have hk100 : (97 + z / 256 % 4) < 256 := by omega
    apply later (f := fun _ : Ev × Hl => [(0, .slice (some ⟨lb, lo, none⟩) n c), (1, .int .i64 3), (5, .slice (some ⟨bo, 0, none⟩) 3 3), (6, .slice (some ⟨bl, 0, none⟩) 3 3), (7, .int .i64 i), (8, .int .i64 v), (9, .pointer (some ⟨b9, 0, none⟩))])
      (M := fun x w => Hl.le g3 x.2 ∧ x.1.fine x.2 v t ∧ x.1.sq = outs[v].es.length + 1 ∧ x.1.tm = t ∧ Sat W w x.2 (blk b9 x.1.cs 46 :: bsep (outs.map fown) :: blk bo (outs.map El.v) 27 :: blk bl (us (lasts.set v t)) 22 :: H))
    · intro key
      have hF1 : ∀ {kd' : Nat} {text : List UInt8} {num : Nat} {tv : Value} {g' : Hl}, 1 ≤ kd' ∧ kd' ≤ 4 → text.length ≤ 1 → num < 18446744073709551616 → Pr 1 g' tv text.length (bs text) → Ev.fine ⟨(v : Nat), outs[v].es.length + 1, t, kd', [UInt8.ofNat (97 + z / 256 % 4)], text, num, 0, tv⟩ g' v t :=
        fun h1 h2 h3 h4 => mkFine hw3 (by omega) (by omega) h1 h2 h3 h4
      have hcases : kd = 1 ∨ kd = 2 ∨ kd = 3 ∨ kd = 4 := by omega
      rcases hcases with rfl | rfl | rfl | rfl
      · refine go ?_
        refine E.bsl hs ?_
        intro b12 w12 hs
        refine go ?_
        refine E.sto hs ?_
        intro w13 hs
        have hbs : [.int .u8 (i : Nat)] = bs [UInt8.ofNat i] := by
          have : i % 256 = i := by omega
          simp [bs, this]
        obtain ⟨g14, hg14, hp14, hs⟩ := (hs.blkOwn (size := 1) 1 rfl (by decide)).publishOwn
        rw [hbs] at hp14
        refine go ?_
        exact C.forget wk_ (key (_, g14) _ ⟨hg14, hF1 (kd' := 1) (text := [UInt8.ofNat i]) (num := 0) (by decide) (by simp) (by decide) hp14, rfl, rfl, hs⟩)
      · refine go ?_
        refine E.fdiv hqr ?_
        refine go ?_
        refine E.sto hs ?_
        intro w13 hs
        refine go ?_
        exact C.forget wk_ (key (_, g3) _ ⟨Hl.le_refl _, hF1 (kd' := 2) (text := []) (num := qr) (by decide) (by simp) hqr2 Pr.nil, rfl, rfl, hs⟩)
      · refine go ?_
        refine E.fdiv hqr ?_
        refine go ?_
        refine E.sto hs ?_
        intro w13 hs
        refine go ?_
        exact C.forget wk_ (key (_, g3) _ ⟨Hl.le_refl _, hF1 (kd' := 3) (text := []) (num := qr) (by decide) (by simp) hqr2 Pr.nil, rfl, rfl, hs⟩)
      · refine go ?_
        exact C.forget wk_ (key (_, g3) _ ⟨Hl.le_refl _, hF1 (kd' := 4) (text := []) (num := 0) (by decide) (by simp) (by decide) Pr.nil, rfl, rfl, hs⟩)
    clear hs
    rintro ⟨e, g15⟩ w15 ⟨hg15, hfe, hsq, htm, hs⟩
    simp only at hg15 hfe hsq htm hs
    have hov9 : outs[v].es.length ≤ 60 := by omega
    have hsplit : outs.map fown = (outs.take v).map fown ++ fown outs[v] :: (outs.drop (v + 1)).map fown := by
      rw [← List.map_cons, ← List.map_append, ← List.drop_eq_getElem_cons hvo, List.take_append_drop]
    have ag1 := ag_ev
    have hspl : ∀ a17 c17, spl (outs.map El.v) v [.slice a17 (outs[v].es.length + 1) c17] = (outs.set v ⟨a17, c17, outs[v].es ++ [e]⟩).map El.v := fun a17 c17 => by
      simp [spl, List.map_set, El.v]
    have bj : ∀ a17 c17, Nat.ble (v + [Value.slice a17 (outs[v].es.length + 1) c17].length) (outs.map El.v).length = true := fun a17 c17 => by rw [Nat.ble_eq]; simp only [List.length_cons, List.length_nil, List.length_map]; omega
    apply laterA (α := (Option Addr × Nat)) (f := fun x => [(0, .slice (some ⟨lb, lo, none⟩) n c), (1, .int .i64 3), (5, .slice (some ⟨bo, 0, none⟩) 3 3), (6, .slice (some ⟨bl, 0, none⟩) 3 3), (7, .int .i64 i)])
      (M := fun x w => Sat W w g15 (own 46 8 (.slice x.1 (outs[v].es.length + 1) x.2) (outs[v].es.length + 1) (evC outs[v].es ++ e.cs) :: bsep ((outs.take v).map fown ++ (outs.drop (v + 1)).map fown) :: blk bo ((outs.set v ⟨x.1, x.2, outs[v].es ++ [e]⟩).map El.v) 27 :: blk bl (us (lasts.set v t)) 22 :: H))
    · intro key
      refine C.held1 b9 hs ?_
      intro w16 hk hs
      refine goh ?_
      refine EH.lbe el_ev hs (cs := e.cs) rfl hov ?_ ?_
      · refine kept1 hs (fun hk => ?_)
        refine EH.bsle el_ev hs (cs := e.cs) rfl ?_
        intro b17 w17 hs
        refine kept1 hs (fun hk => ?_)
        refine EH.app el_ev (bsep_out (l1 := (outs.take v).map fown) (l2 := (outs.drop (v + 1)).map fown) (p := fown outs[v]) (by rw [← hsplit]; exact hs.pull2)) (hs.rowOf (size := 8) 1 rfl (by decide)) ?_ (h1 := fun u hu => List.all_eq_true.1 (Ev.cs_one hfe.ok) u hu)
        intro a17 c17 w17 _ _ hs
        refine kept1 hs (fun hk => ?_)
        refine goh ?_
        refine EH.sto (vs := [.slice a17 (outs[v].es.length + 1) c17]) (ys := (outs.set v ⟨a17, c17, outs[v].es ++ [e]⟩).map El.v) hs ?_ (hv := rfl) (hf := .there (.there (.there (.there .here)))) (hu := .there (.there (.there (.there .here)))) (hsp := hspl a17 c17) (hj := bj a17 c17)
        intro w18 hs
        refine kept1 hs (fun hk => ?_)
        refine EH.done ?_
        refine A.forget wk_ (key (a17, c17) _ ?_)
        exact hs.pull2.drop.pull2.drop
      · intro b17 w17 hs
        refine kept1 hs (fun hk => ?_)
        refine EH.ld hs ?_ (hf := .there (.there (.there .here))) (hj := hov)
        refine kept1 hs (fun hk => ?_)
        refine EH.app el_ev (bsep_out (l1 := (outs.take v).map fown) (l2 := (outs.drop (v + 1)).map fown) (p := fown outs[v]) (by rw [← hsplit]; exact hs.pull2)) (hs.rowOf (size := 8) 1 rfl (by decide)) ?_ (h1 := fun u hu => List.all_eq_true.1 (Ev.cs_one hfe.ok) u hu)
        intro a17 c17 w17 _ _ hs
        refine kept1 hs (fun hk => ?_)
        refine goh ?_
        refine EH.sto (vs := [.slice a17 (outs[v].es.length + 1) c17]) (ys := (outs.set v ⟨a17, c17, outs[v].es ++ [e]⟩).map El.v) hs ?_ (hv := rfl) (hf := .there (.there (.there (.there .here)))) (hu := .there (.there (.there (.there .here)))) (hsp := hspl a17 c17) (hj := bj a17 c17)
        intro w18 hs
        refine kept1 hs (fun hk => ?_)
        refine EH.done ?_
        refine A.forget wk_ (key (a17, c17) _ ?_)
        exact hs.pull2.drop.pull2.drop
    clear hs
    rintro ⟨a17, c17⟩ w19 hs
    simp only at hs ⊢
    refine go ?_
    refine A.rd (n - (i + 1)) (i + 1) ⟨rfl, by omega, outs.set v ⟨a17, c17, outs[v].es ++ [e]⟩, lasts.set v t, g15, by simpa using ho3, by simpa using hl3, hg3.trans hg15, fun u h h' => ?_, ?_⟩
    · simp only [List.length_set] at h h'
      obtain ⟨q1, q2, q3⟩ := hF u h h'
      rcases Nat.decEq v u with hne | rfl
      · rw [List.getElem_set_ne hne, List.getElem_set_ne hne]
        exact ⟨q1.mono hg15, by omega, by omega⟩
      · rw [List.getElem_set_self, List.getElem_set_self]
        refine ⟨q1.add hg15 (by omega) hfe (by omega) hsq, by omega, by simp; omega⟩
    · have e1 : (outs.set v ⟨a17, c17, outs[v].es ++ [e]⟩).map fown = (outs.take v).map fown ++ fown ⟨a17, c17, outs[v].es ++ [e]⟩ :: (outs.drop (v + 1)).map fown := by
        rw [List.set_eq_take_append_cons_drop, if_pos hvo, List.map_append, List.map_cons]
      rw [e1]
      refine bsep_in ?_
      have e2 : fown ⟨a17, c17, outs[v].es ++ [e]⟩ = own 46 8 (.slice a17 (outs[v].es.length + 1) c17) (outs[v].es.length + 1) (evC outs[v].es ++ e.cs) := by
        simp only [fown, El.v, List.length_append, List.length_cons, List.length_nil, evC_append]
        simp [evC]
      rw [e2]
      exact hs
  · clear hs
    rintro _ w20 ⟨outs, lasts, g4, ho3, hl3, hg4, hF, hs⟩
    match outs, lasts, ho3, hl3 with
    | [x0, x1, x2], [l0, l1, l2], _, _ =>
    have hs := Sat.bopen hs
    simp only [List.map_cons, List.map_nil, List.cons_append, List.nil_append] at hs
    obtain ⟨g5, hg5, hp5, hs⟩ := hs.publishOwn
    obtain ⟨g6, hg6, hp6, hs⟩ := hs.publishOwn
    obtain ⟨g7, hg7, hp7, hs⟩ := hs.publishOwn
    obtain ⟨g8, hg8, hp8, hs⟩ := (hs.blkOwn (size := 1) 3 rfl (by decide)).publishOwn
    refine go ?_
    refine A.r1 ?_
    have hg48 := ((hg5.trans hg6).trans hg7).trans hg8
    refine HR.out _ _ [x0, x1, x2] _ g8 (hg4.trans hg48) rfl (fun u h => ?_) (fun x hx => ?_) hp8 hs.drop
    · have h' : u < [l0, l1, l2].length := by simpa using h
      obtain ⟨q1, q2, q3⟩ := hF u h h'
      exact ⟨_, q2, q1.mono hg48, q3⟩
    · have f0 := (hF 0 (by simp) (by simp)).1.mono hg48
      have f1 := (hF 1 (by simp) (by simp)).1.mono hg48
      have f2 := (hF 2 (by simp) (by simp)).1.mono hg48
      have low : ∀ {w l : Nat} {es : List Ev}, w < 3 → Feed g8 w es l → ∀ e ∈ es, e.ok g8 ∧ e.low := fun hw hf e he => by
        have := hf.evs e he
        exact ⟨this.ok, by unfold Ev.low; rw [this.wr]; omega⟩
      simp only [List.mem_cons, List.not_mem_nil, or_false] at hx
      rcases hx with rfl | rfl | rfl
      · exact ⟨((hp5.mono hg6).mono hg7).mono hg8, low (by decide) f0⟩
      · exact ⟨(hp6.mono hg7).mono hg8, low (by decide) f1⟩
      · exact ⟨hp7.mono hg8, low (by decide) f2⟩
end Go.Proofs.YtdkbpcibmipelaaGreatDoor

/-
  What came in, layer 15: rows of small numbers; a place.
-/
namespace Go.Proofs.YtdkbpcibmipelaaGreatDoor
open Go.RowKit Go.ChangeShapes Go.WideShapes
set_option linter.unusedVariables false
set_option linter.unusedSimpArgs false

section
variable {H : Type} {enc : TypeId × Value → H} {P : Program} {w : World} {base : Nat} {held : Bool}
theorem in_hs16 {t e : TypeId} {fuel : Nat} {cs : List Value} {x : DataW H × List MemPlace} (ht : P.underlying t = some (.slice e)) (he : P.underlying e = some (.int .u16)) (hc : P.cellsOf e = 1)
    (h : DataW.trod enc P w base (fun _ => true) held fuel t cs = some x) : ∃ a n c zs, cs = [.slice a n c] ∧ zs.length = n ∧ (∀ z ∈ zs, z < 65536) ∧ Pr 1 (fun b => w.heap[b]?) (.slice a n c) n (hs16 zs) := by
  have key : ∀ (a : Option Addr) (n c : Nat) (is : List Int), ((a = none ∧ n = 0 ∧ c = 0 ∧ is = []) ∨ ∃ x, a = some x ∧ n ≤ c ∧ c ≤ maxLen ∧ is.length = c ∧ (∀ i, i < is.length → w.cell? (x.add i) = some (.int .u16 (is.getD i 0))) ∧ ∀ n ∈ is, (Lit.int .u16 n).wf = true) →
      ∃ zs : List Nat, zs.length = n ∧ (∀ z ∈ zs, z < 65536) ∧ Pr 1 (fun b => w.heap[b]?) (.slice a n c) n (hs16 zs) := by
    intro a n c is h
    obtain ⟨h1, h2, h3⟩ := pr_ints h
    have h4 : ∀ i ∈ is, 0 ≤ i ∧ i < 65536 := by
      intro i hi
      have := h3 i hi
      simp [Lit.wf, IntKind.min, IntKind.max, IntKind.signed, IntKind.bits] at this
      omega
    refine ⟨(is.take n).map Int.toNat, by simp [h2], fun z hz => ?_, ?_⟩
    · obtain ⟨i, hi, rfl⟩ := List.mem_map.1 hz
      have := h4 i (List.mem_of_mem_take hi)
      omega
    · have e : hs16 ((is.take n).map Int.toNat) = (is.take n).map (Value.int .u16) := by
        unfold hs16
        rw [List.map_map]
        refine List.map_congr_left fun i hi => ?_
        have := h4 i (List.mem_of_mem_take hi)
        simp only [Function.comp_apply]
        rw [Int.toNat_of_nonneg this.1]
      rw [e]
      exact h1
  rcases open_ints ht he hc h with ⟨hcs, _⟩ | ⟨x, l, c, is, hcs, _, hl, hm, hz, _, hcell, hwz⟩
  · obtain ⟨zs, h1, h2, h3⟩ := key none 0 0 [] (.inl ⟨rfl, rfl, rfl, rfl⟩)
    exact ⟨none, 0, 0, zs, hcs, h1, h2, h3⟩
  · obtain ⟨zs, h1, h2, h3⟩ := key (some x) l c is (.inr ⟨_, rfl, hl, hm, by simpa using hz, hcell, hwz⟩)
    exact ⟨some x, l, c, zs, hcs, h1, h2, h3⟩
end
theorem in_ints2 {H : Type} {enc : TypeId × Value → H} {P : Program} {w : World} {base : Nat} {held : Bool} {r : Reach} {b0 : Nat} {t : TypeId} {v : Value} {d : DataW H} {ps : List MemPlace} {f0 f1 : Field} {k0 k1 : IntKind} (ht : P.underlying t = some (.struct #[f0, f1])) (h3 : P.cellsOf t = 2)
    (o0 : f0.offset = 0 ∧ P.cellsOf f0.type = 1) (u0 : P.underlying f0.type = some (.int k0)) (o1 : f1.offset = 1 ∧ P.cellsOf f1.type = 1) (u1 : P.underlying f1.type = some (.int k1))
    (hval : Value.okWide P w r b0 t v) (h : DataW.Trod enc P w base (fun _ => true) held t v d ps) :
    ∃ x y : Int, v = .agg #[.int k0 x, .int k1 y] ∧ (Lit.int k0 x).wf = true ∧ (Lit.int k1 y).wf = true := by
  obtain ⟨fuel, hf⟩ := h
  obtain ⟨cs, rfl, hsz⟩ : ∃ cs, v = .agg cs ∧ cs.size = P.cellsOf t := by
    unfold Value.okWide at hval
    rw [ht] at hval
    obtain ⟨cs, h1, h2, _⟩ := hval
    exact ⟨cs, h1, h2⟩
  obtain ⟨xs, n, _, _, hl, hlen, hfi⟩ := DataW.trod_struct ht hf
  rw [h3] at hsz
  match cs, hsz with
  | ⟨[c0, c1]⟩, _ =>
    have hx : xs.length = 2 := hlen
    have g0 := hfi 0 f0 rfl
    have g1 := hfi 1 f1 rfl
    rw [o0.1, o0.2, List.getElem?_eq_getElem (by omega)] at g0
    rw [o1.1, o1.2, List.getElem?_eq_getElem (by omega)] at g1
    obtain ⟨x, e0, _, w0⟩ := DataW.trod_int u0 g0
    obtain ⟨y, e1, _, w1⟩ := DataW.trod_int u1 g1
    simp [Value.cells] at e0 e1
    subst e0 e1
    exact ⟨x, y, rfl, w0, w1⟩
set_option maxRecDepth 100000 in
theorem in_spot {H : Type} {enc : TypeId × Value → H} {w : World} {base : Nat} {held : Bool} {r : Reach} {b0 : Nat} {v : Value} {d : DataW H} {ps : List MemPlace} (hval : Value.okWide Tryz.prog w r b0 105 v) (h : DataW.Trod enc Tryz.prog w base (fun _ => true) held 105 v d ps) :
    ∃ (t : Nat) (wr : Int), v = spot t wr := by
  obtain ⟨x, y, rfl, w0, w1⟩ := in_ints2 Tryz.underlying105 (by kernel_rfl) ⟨rfl, by kernel_rfl⟩ Tryz.underlying22 ⟨rfl, by kernel_rfl⟩ Tryz.underlying3 hval h
  simp [Lit.wf, IntKind.min, IntKind.max, IntKind.signed, IntKind.bits] at w0
  refine ⟨x.toNat, y, ?_⟩
  have e0 : (x.toNat : Int) = x := by omega
  simp only [spot, e0]
theorem in_u8 {n : Int} (h : (Lit.int .u8 n).wf = true) : ∃ m : Nat, n = m ∧ m < 256 := by
  simp [Lit.wf, IntKind.min, IntKind.max, IntKind.signed, IntKind.bits] at h
  exact ⟨n.toNat, by omega, by omega⟩
end Go.Proofs.YtdkbpcibmipelaaGreatDoor

/-
  What came in, layer 8: one small event.
-/
namespace Go.Proofs.YtdkbpcibmipelaaGreatDoor
open Go.RowKit Go.ChangeShapes Go.WideShapes
set_option linter.unusedVariables false
set_option linter.unusedSimpArgs false
set_option maxRecDepth 100000 in
theorem in_put {H : Type} {enc : TypeId × Value → H} {w : World} {base : Nat} {held : Bool} {r : Reach} {b0 : Nat} {v : Value} {d : DataW H} {ps : List MemPlace} (hval : Value.okWide Tryz.prog w r b0 49 v) (h : DataW.Trod enc Tryz.prog w base (fun _ => true) held 49 v d ps) :
    ∃ K T : Nat, v = .agg #[.int .u8 K, .int .u8 T] ∧ K < 256 ∧ T < 256 := by
  obtain ⟨x, y, rfl, w0, w1⟩ := in_ints2 Tryz.underlying49 (by kernel_rfl) ⟨rfl, by kernel_rfl⟩ Tryz.underlying5 ⟨rfl, by kernel_rfl⟩ Tryz.underlying5 hval h
  obtain ⟨K, rfl, hK⟩ := in_u8 w0
  obtain ⟨T, rfl, hT⟩ := in_u8 w1
  exact ⟨K, T, rfl, hK, hT⟩
end Go.Proofs.YtdkbpcibmipelaaGreatDoor

/-
  What came in: an event.
-/
namespace Go.Proofs.YtdkbpcibmipelaaGreatDoor
open Go.RowKit Go.ChangeShapes Go.WideShapes
set_option linter.unusedVariables false
set_option linter.unusedSimpArgs false
theorem trod_float {H : Type} {enc : TypeId × Value → H} {P : Program} {w : World} {base : Nat} {spare : Nat → Bool} {held : Bool} {fuel : Nat} {t : TypeId} {cs : List Value} {x : DataW H × List MemPlace} {k : FloatKind} (ht : P.underlying t = some (.float k)) (h : DataW.trod enc P w base spare held fuel t cs = some x) : ∃ b, cs = [.float k b] ∧ (Lit.float k b).wf = true := by
  cases fuel with
  | zero => simp [DataW.trod] at h
  | succ n =>
    unfold DataW.trod at h
    rw [ht] at h
    split at h <;> simp_all
/-- An event that came in. -/
structure EvIn (e : Ev) (w : World) : Prop where
  wr : -9223372036854775808 ≤ e.wr ∧ e.wr ≤ 9223372036854775807
  sq : e.sq < 18446744073709551616
  tm : e.tm < 18446744073709551616
  kd : e.kd < 256
  num : e.num < 18446744073709551616
  nd : -9223372036854775808 ≤ e.nd ∧ e.nd ≤ 9223372036854775807
  key : e.key.length ≤ maxLen
  tv : ∃ a c, e.tv = .slice a e.text.length c
  text : Pr 1 (hp w) e.tv e.text.length (bs e.text)
theorem EvIn.ok {e : Ev} {w : World} (h : EvIn e w) (hk : e.key.length ≤ 100000000) (ht : e.text.length ≤ 100000000) : e.ok (hp w) := ⟨h.wr, h.sq, h.tm, h.kd, h.num, h.nd, hk, ht, h.text⟩
set_option maxRecDepth 100000 in
theorem in_event {H : Type} {enc : TypeId × Value → H} {w : World} {base : Nat} {held : Bool} {r : Reach} {b0 : Nat} {v : Value} {d : DataW H} {ps : List MemPlace} (hval : Value.okWide Tryz.prog w r b0 46 v) (h : DataW.Trod enc Tryz.prog w base (fun _ => true) held 46 v d ps) :
    ∃ e : Ev, v = e.val ∧ EvIn e w := by
  obtain ⟨fuel, hf⟩ := h
  obtain ⟨cs, rfl, hsz⟩ : ∃ cs, v = .agg cs ∧ cs.size = Program.cellsOf Tryz.prog 46 := by
    unfold Value.okWide at hval
    rw [Tryz.underlying46] at hval
    obtain ⟨cs, h1, h2, _⟩ := hval
    exact ⟨cs, h1, h2⟩
  obtain ⟨xs, n, _, _, hl, hlen, hfi⟩ := DataW.trod_struct Tryz.underlying46 hf
  have h8 : Program.cellsOf Tryz.prog 46 = 8 := by kernel_rfl
  have c3 : Program.cellsOf Tryz.prog 3 = 1 := by kernel_rfl
  have c22 : Program.cellsOf Tryz.prog 22 = 1 := by kernel_rfl
  have c5 : Program.cellsOf Tryz.prog 5 = 1 := by kernel_rfl
  have c9 : Program.cellsOf Tryz.prog 9 = 1 := by kernel_rfl
  have c33 : Program.cellsOf Tryz.prog 33 = 1 := by kernel_rfl
  have cf : Program.cellsOf Tryz.prog 44 = 1 := by kernel_rfl
  rw [h8] at hsz
  match cs, hsz with
  | ⟨[v0, v1, v2, v3, v4, v5, v6, v7]⟩, _ =>
    have hx : xs.length = 8 := hlen
    have g0 : DataW.trod enc Tryz.prog w base (fun _ => true) held n 3 (([v0, v1, v2, v3, v4, v5, v6, v7].drop 0).take (Program.cellsOf Tryz.prog 3)) = xs[0]? := hfi 0 _ rfl
    have g1 : DataW.trod enc Tryz.prog w base (fun _ => true) held n 22 (([v0, v1, v2, v3, v4, v5, v6, v7].drop 1).take (Program.cellsOf Tryz.prog 22)) = xs[1]? := hfi 1 _ rfl
    have g2 : DataW.trod enc Tryz.prog w base (fun _ => true) held n 22 (([v0, v1, v2, v3, v4, v5, v6, v7].drop 2).take (Program.cellsOf Tryz.prog 22)) = xs[2]? := hfi 2 _ rfl
    have g3 : DataW.trod enc Tryz.prog w base (fun _ => true) held n 5 (([v0, v1, v2, v3, v4, v5, v6, v7].drop 3).take (Program.cellsOf Tryz.prog 5)) = xs[3]? := hfi 3 _ rfl
    have g4 : DataW.trod enc Tryz.prog w base (fun _ => true) held n 9 (([v0, v1, v2, v3, v4, v5, v6, v7].drop 4).take (Program.cellsOf Tryz.prog 9)) = xs[4]? := hfi 4 _ rfl
    have g5 : DataW.trod enc Tryz.prog w base (fun _ => true) held n 33 (([v0, v1, v2, v3, v4, v5, v6, v7].drop 5).take (Program.cellsOf Tryz.prog 33)) = xs[5]? := hfi 5 _ rfl
    have g6 : DataW.trod enc Tryz.prog w base (fun _ => true) held n 44 (([v0, v1, v2, v3, v4, v5, v6, v7].drop 6).take (Program.cellsOf Tryz.prog 44)) = xs[6]? := hfi 6 _ rfl
    have g7 : DataW.trod enc Tryz.prog w base (fun _ => true) held n 3 (([v0, v1, v2, v3, v4, v5, v6, v7].drop 7).take (Program.cellsOf Tryz.prog 3)) = xs[7]? := hfi 7 _ rfl
    rw [c3] at g0 g7
    rw [c22] at g1 g2
    rw [c5] at g3
    rw [c9] at g4
    rw [c33] at g5
    rw [cf] at g6
    rw [List.getElem?_eq_getElem (by omega)] at g0 g1 g2 g3 g4 g5 g6 g7
    obtain ⟨x0, e0, _, w0⟩ := DataW.trod_int Tryz.underlying3 g0
    obtain ⟨x1, e1, _, w1⟩ := DataW.trod_int Tryz.underlying22 g1
    obtain ⟨x2, e2, _, w2⟩ := DataW.trod_int Tryz.underlying22 g2
    obtain ⟨x3, e3, _, w3⟩ := DataW.trod_int Tryz.underlying5 g3
    obtain ⟨x4, e4, _, w4⟩ := DataW.trod_string Tryz.underlying9 g4
    obtain ⟨a, len, c, l, e5, hll, hp5, _⟩ := in_bytes Tryz.underlying33 Tryz.underlying5 c5 g5
    obtain ⟨x6, e6, w6⟩ := trod_float Tryz.underlying44 g6
    obtain ⟨x7, e7, _, w7⟩ := DataW.trod_int Tryz.underlying3 g7
    simp [Value.cells] at e0 e1 e2 e3 e4 e5 e6 e7
    subst e0 e1 e2 e3 e4 e5 e6 e7
    simp [Lit.wf, IntKind.min, IntKind.max, IntKind.signed, IntKind.bits] at w0 w1 w2 w3 w6 w7
    refine ⟨⟨x0, x1.toNat, x2.toNat, x3.toNat, x4.data.toList, l, x6, x7, .slice a len c⟩, ?_, ?_⟩
    · have q1 : ((x1.toNat : Nat) : Int) = x1 := by omega
      have q2 : ((x2.toNat : Nat) : Int) = x2 := by omega
      have q3 : ((x3.toNat : Nat) : Int) = x3 := by omega
      simp only [Ev.val, Ev.cs, q1, q2, q3]
    · subst hll
      refine ⟨⟨by simp only; omega, by simp only; omega⟩, by simp only; omega, by simp only; omega, by simp only; omega, ?_, ⟨by simp only; omega, by simp only; omega⟩, ?_, ⟨a, c, rfl⟩, hp5⟩
      · simp only
        omega
      · have : x4.data.toList.length = x4.size := Array.length_toList
        show x4.data.toList.length ≤ maxLen
        rw [this]
        exact w4
end Go.Proofs.YtdkbpcibmipelaaGreatDoor
