/-
  Layer 15 (view): By, Len, Range, Members; and a fold of some events.
-/
import Derived.Test.YtkolnecahlkndaaHf
import Derived.Test.YtkolnecahlkndaaFb
namespace Go.Proofs.Ytkolnecahlkndaa
open Go.RowKit
set_option linter.unusedVariables false
set_option linter.unusedSimpArgs false

def Fo.adds (f : Fo) (l : List Ev) : Fo := l.foldl Fo.add f
/-- Each follows. -/
def Fo.fits : Fo → List Ev → Prop
  | _, [] => True
  | f, e :: r => f.step e = (0, f.add e) ∧ Fo.fits (f.add e) r
theorem fits_append : ∀ (f : Fo) (l m : List Ev), f.fits (l ++ m) ↔ f.fits l ∧ (f.adds l).fits m
  | f, [], m => by simp [Fo.fits, Fo.adds]
  | f, e :: r, m => by
    simp only [List.cons_append, Fo.fits, fits_append (f.add e) r m, Fo.adds, List.foldl_cons, and_assoc]
theorem adds_append (f : Fo) (l m : List Ev) : f.adds (l ++ m) = (f.adds l).adds m := by simp [Fo.adds]

/-- A view, without its folds. -/
def vw (vb b b' : Nat) (x : El) : HP := blk vb [ptr b, x.v, ptr b'] 59

set_option maxHeartbeats 3200000 in
set_option maxRecDepth 100000 in
theorem by_any {R : Ending → World → Prop} {W w : World} {g : Hl} {H : List HP} {b n c : Nat} {a : Option Addr} {f : Fo} {ls : List El} {T : List Ev} (hp : Pr 1 g (.slice a n c) n (ls.map El.v)) (hn : ls.length = n) (hn2 : n ≤ 1000000000) (hok : ∀ x ∈ ls, x.ok g) (hup : ∀ x ∈ ls, Up1 x.es) (hT : Up1 T) (hperm : T.Perm (ls.flatMap El.es)) (hl : T.length ≤ 1000000000)
    (hf : f.fits T) (hs : Sat W w g (fold b f :: H))
    (hR : ∀ vb b' x w' g', Hl.le g g' → El.ok x g' → x.es = T → Sat W w' g' (vw vb b b' x :: fold b f :: fold b' (f.adds T) :: H) → R (.returned (.tuple #[ptr vb, .int .i64 0])) w') : Calls Try.prog 8 #[ptr b, .slice a n c] w R := by
  have HR := Lib.hid hR
  clear hR
  have ag1 := ag_ev
  refine C.calls (args := [.pointer (some ⟨b, 0, none⟩), .slice a n c]) Try.func8 rfl rfl rfl ?_
  refine go ?_
  refine E.callf Try.func21 rfl ?_
  refine all_any hp hn hn2 hok hup hT hperm hl hs ?_
  intro w1 x g1 hg1 hx hxe hs
  subst hxe
  refine go ?_
  refine E.callf Try.func22 rfl ?_
  refine foldCopy_any hs ?_
  intro b' w2 hs
  rw [show ptr b' = .pointer (some ⟨b', 0, none⟩) from rfl]
  refine go ?_
  refine E.bx hs (xs := [ptr b, .slice x.a x.es.length x.c, ptr b']) ?_ (hx := rfl)
  intro vb w3 hs
  refine gob ?_
  refine C.cut (fun _ : Unit => [(6, .pointer (some ⟨vb, 0, none⟩))]) (fun _ w => ∃ g', Hl.le g1 g' ∧ Sat W w g' (blk vb [ptr b, .slice x.a x.es.length x.c, ptr b'] 59 :: fold b f :: fold b' (f.adds x.es) :: H)) ?_ ?_
  · refine C.block ?_
    refine C.lp (fun i : Nat => [(6, .pointer (some ⟨vb, 0, none⟩)), (22, .slice x.a x.es.length x.c), (23, .int .i64 x.es.length), (24, .int .i64 i)])
      (fun gk i w => gk = x.es.length - i ∧ i ≤ x.es.length ∧ ∃ g', Hl.le g1 g' ∧ Sat W w g' (blk vb [ptr b, .slice x.a x.es.length x.c, ptr b'] 59 :: fold b' (f.adds (x.es.take i)) :: fold b f :: H)) x.es.length 0 ⟨rfl, Nat.zero_le _, g1, Hl.le_refl _, hs⟩ ?_
    clear hs
    rintro gk i w4 ⟨rfl, hi, g2, hg2, hs⟩
    refine go ?_
    refine C.cond_dec (p := (i : Int) < x.es.length) rfl (fun h => ?_) (fun h => ?_)
    · have hil : i < x.es.length := by omega
      have hee := hx.evs x.es[i] (List.getElem_mem hil)
      refine go ?_
      refine E.ixs el_ev hs (hx.row.mono hg2) i ?_
      intro b5 o5 hr
      rw [evC_at hil] at hr
      refine E.ldr hr ag_ev rfl ?_
      refine E.al hs ?_
      intro b6 w6 hs
      refine E.sto (vs := x.es[i].cs) (ys := x.es[i].cs) hs ?_ (hv := rfl) (hsp := spl_all (by rfl)) (h1 := Ev.cs_one hee.1)
      intro w7 hs
      refine go ?_
      refine C.held2 b6 vb hs ?_
      intro w8 hk hs
      refine goh ?_
      refine EH.one (St.callf Try.func23 rfl ?_)
      refine foldApply_any (b := b') (e := x.es[i]) (hee.1.mono hg2) hs.pull2 ?_
      intro w9 g9 hg9 hs
      have hfi : (f.adds (x.es.take i)).step x.es[i] = (0, f.adds (x.es.take (i + 1))) := by
        have h1 := hf
        rw [← List.take_append_drop i x.es, fits_append, List.drop_eq_getElem_cons hil] at h1
        rw [List.take_succ_eq_append_getElem hil, adds_append]
        exact h1.2.1
      rw [hfi] at hs ⊢
      simp only at hs ⊢
      refine kept2 hs (fun hk => ?_) hg9
      refine goh ?_
      refine EH.done ?_
      refine go ?_
      refine A.rd (x.es.length - (i + 1)) (i + 1) ⟨rfl, by omega, g9, hg2.trans hg9, ?_⟩
      exact hs.swap.drop.swap
    · obtain rfl : i = x.es.length := by omega
      refine go ?_
      refine A.mt () ⟨g2, hg2, ?_⟩
      rw [List.take_length] at hs
      exact hs.perm (List.Perm.cons _ (.swap _ _ _))
  clear hs
  rintro _ w10 ⟨g10, hg10, hs⟩
  refine go ?_
  refine A.r2 ?_
  exact HR.out vb b' x w10 g10 (hg1.trans hg10) (hx.mono hg10) rfl hs
end Go.Proofs.Ytkolnecahlkndaa
