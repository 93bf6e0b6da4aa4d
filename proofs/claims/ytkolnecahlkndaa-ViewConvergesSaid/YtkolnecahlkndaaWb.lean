/-
  Layer 15 (view): Len, Members, Range; the statements' example, and a fold of the first events.
-/
import Derived.Test.YtkolnecahlkndaaWa
namespace Go.Proofs.Ytkolnecahlkndaa
open Go.RowKit
set_option linter.unusedVariables false
set_option linter.unusedSimpArgs false

set_option maxHeartbeats 1600000 in
set_option maxRecDepth 100000 in
theorem vwLen_any {R : Ending → World → Prop} {W w : World} {g : Hl} {H : List HP} {vb b b' : Nat} {x : El} (hs : Sat W w g (vw vb b b' x :: H)) (hR : R (.returned (.int .i64 x.es.length)) w) : Calls Try.prog 18 #[ptr vb] w R := by
  have HR := Lib.hid hR
  clear hR
  simp only [vw, El.v] at hs
  refine C.calls (args := [.pointer (some ⟨vb, 0, none⟩)]) Try.func18 rfl rfl rfl ?_
  refine go ?_
  refine A.r1 ?_
  exact HR.out

set_option maxHeartbeats 1600000 in
set_option maxRecDepth 100000 in
theorem vwMembers_any {R : Ending → World → Prop} {W w : World} {g : Hl} {H : List HP} {vb b b' : Nat} {x : El} {f : Fo} (hs : Sat W w g (vw vb b b' x :: fold b' f :: H))
    (hR : ∀ a' c' w', Sat W w' g (own 3 1 (.slice a' (f.members 64).length c') (f.members 64).length (is_ (f.members 64)) :: fold b' f :: vw vb b b' x :: H) → R (.returned (.slice a' (f.members 64).length c')) w') : Calls Try.prog 19 #[ptr vb] w R := by
  have HR := Lib.hid hR
  clear hR
  simp only [vw, El.v] at hs HR
  refine C.calls (args := [.pointer (some ⟨vb, 0, none⟩)]) Try.func19 rfl rfl rfl ?_
  refine go ?_
  refine E.callf Try.func36 rfl ?_
  refine foldMembers_any hs.swap ?_
  intro a' c' w1 hs
  refine go ?_
  refine A.r1 ?_
  exact HR.out _ _ _ hs

set_option maxHeartbeats 1600000 in
set_option maxRecDepth 100000 in
theorem vwRange_any {R : Ending → World → Prop} {W w : World} {g : Hl} {H : List HP} {vb b b' t : Nat} {wr most : Int} {x : El} {f : Fo} (hx : x.ok g) (hup : Up1 x.es) (hl : x.es.length ≤ 1000000000) (hs : Sat W w g (vw vb b b' x :: fold b f :: H))
    (h1 : cmpS t wr f.tm f.wr < 0 → ∀ w', Sat W w' g (vw vb b b' x :: fold b f :: H) → R (.returned (.tuple #[.slice none 0 0, .int .i64 13])) w')
    (h2 : ¬ cmpS t wr f.tm f.wr < 0 → ∀ w' y g', Hl.le g g' → El.ok y g' → y.es = (x.es.dropWhile (upto t wr)).take most.toNat → Sat W w' g' (vw vb b b' x :: fold b f :: H) → R (.returned (.tuple #[y.v, .int .i64 0])) w') :
    Calls Try.prog 10 #[ptr vb, spot t wr, .int .i64 most] w R := by
  have HR1 := Lib.hid h1
  have HR2 := Lib.hid h2
  clear h1 h2
  have ag2 := ag_spot
  simp only [vw, El.v] at hs HR1 HR2
  refine C.calls (args := [.pointer (some ⟨vb, 0, none⟩), .agg #[.int .u64 t, .int .i64 wr], .int .i64 most]) Try.func10 rfl rfl rfl ?_
  refine go ?_
  refine E.bx hs ?_
  intro b4 w1 hs
  refine go ?_
  refine C.held2 b4 vb hs ?_
  intro w2 hk hs
  refine goh ?_
  refine EH.one (St.callf Try.func25 rfl ?_)
  refine foldLast_any hs.pull2 ?_
  intro w3 hs
  refine kept2 hs (fun hk => ?_)
  refine goh ?_
  refine EH.one (St.callf Try.func24 rfl ?_)
  refine compare_any (t1 := t) (w1 := wr) (t2 := f.tm) (w2 := f.wr) hs ?_
  intro w4 hs
  refine kept2 hs (fun hk => ?_)
  refine goh ?_
  refine EH.done ?_
  refine go ?_
  refine C.cond_dec (p := cmpS t wr f.tm f.wr < 0) rfl (fun h => ?_) (fun h => ?_)
  · refine go ?_
    refine A.r2 ?_
    exact HR1.out h _ (hs.swap.drop.swap)
  · refine go ?_
    refine C.held2 b4 vb hs ?_
    intro w5 hk hs
    refine goh ?_
    refine EH.bsl hs ?_
    intro b6 w6 hs
    refine kept2 hs (fun hk => ?_)
    obtain ⟨g7, hg7, hp7, hs7⟩ := (hs.blkOwn (size := 1) 1 rfl (by decide)).publishOwn
    refine EH.one (St.callf Try.func26 rfl ?_)
    refine range_any (t := t) (wr := wr) (ls := [x]) (T := x.es) hp7 rfl (by decide) (fun y hy => ?_) (fun y hy => ?_) hup (by simp) hl hs7 ?_
    · simp only [List.mem_singleton] at hy
      subst hy
      exact hx.mono hg7
    · simp only [List.mem_singleton] at hy
      subst hy
      exact hup
    clear hs hp7
    intro w8 y g8 hg8 hy hye hs
    refine kept2 hs (fun hk => ?_) (hg7.trans hg8)
    refine goh ?_
    refine EH.done ?_
    refine go ?_
    refine A.r2 ?_
    exact HR2.out h _ y g8 (hg7.trans hg8) hy hye (hs.swap.drop.swap)

set_option maxHeartbeats 1600000 in
set_option maxRecDepth 100000 in
theorem awake15_any {R : Ending → World → Prop} {W w : World} {g : Hl} {H : List HP} (hs : Sat W w g H) (hR : ∀ w' g', Hl.le g g' → Sat W w' g' H → R (.returned (.bool true)) w') : Calls Try.prog 5 #[] w R := by
  have HR := Lib.hid hR
  clear hR
  refine C.calls (args := []) Try.func5 rfl rfl rfl ?_
  refine go ?_
  refine E.callf Try.func17 rfl ?_
  refine foldNew_any (n := 1) (by decide) hs ?_
  intro b w1 hs
  rw [show ptr b = .pointer (some ⟨b, 0, none⟩) from rfl]
  refine go ?_
  refine E.callf Try.func8 rfl ?_
  refine by_any (ls := []) (T := []) Pr.nil rfl (by decide) (by simp) (by simp) List.Pairwise.nil (by simp) (by decide) trivial hs ?_
  intro vb b' x w2 g2 hg2 hx hxe hs
  rw [show ptr vb = .pointer (some ⟨vb, 0, none⟩) from rfl]
  refine go ?_
  refine E.callf Try.func18 rfl ?_
  refine vwLen_any hs ?_
  have e0 : (x.es.length : Int) = 0 := by rw [hxe]; rfl
  rw [e0]
  refine go ?_
  refine E.callf Try.func19 rfl ?_
  refine vwMembers_any (hs.perm (List.Perm.cons _ (.swap _ _ _))) ?_
  intro a3 c3 w3 hs
  have e1 : (Fo.members (Fo.adds (foNew (min (max 1 0) 64 : Int).toNat) []) 64).length = 1 := by decide +kernel
  rw [e1]
  refine go ?_
  refine A.r1 ?_
  exact HR.out _ g2 hg2 hs.drop.drop.drop.drop

set_option maxHeartbeats 1600000 in
set_option maxRecDepth 100000 in
theorem base_any {R : Ending → World → Prop} {W w : World} {g : Hl} {H : List HP} {x : El} {k : Nat} (hx : x.ok g) (hk : k ≤ x.es.length) (hl : x.es.length ≤ 1000000000) (hf : (foNew 3).fits (x.es.take k)) (hs : Sat W w g H)
    (hR : ∀ b w' g', Hl.le g g' → Sat W w' g' (fold b ((foNew 3).adds (x.es.take k)) :: H) → R (.returned (ptr b)) w') : Calls Try.prog 9 #[x.v, .int .i64 k] w R := by
  have HR := Lib.hid hR
  clear hR
  refine C.calls (args := [.slice x.a x.es.length x.c, .int .i64 k]) Try.func9 rfl rfl rfl ?_
  refine go ?_
  refine E.callf Try.func17 rfl ?_
  refine foldNew_any (n := 3) (by decide) hs ?_
  intro b w1 hs
  have e3 : (min (max (3 : Int) 0) 64).toNat = 3 := by decide
  rw [e3] at hs
  refine gob ?_
  refine C.block ?_
  refine C.lp (fun i : Nat => [(0, .slice x.a x.es.length x.c), (1, .int .i64 k), (5, ptr b), (6, .int .i64 i)])
    (fun gk i w => gk = k - i ∧ i ≤ k ∧ ∃ g', Hl.le g g' ∧ Sat W w g' (fold b ((foNew 3).adds (x.es.take i)) :: H)) k 0 ⟨rfl, Nat.zero_le _, g, Hl.le_refl _, hs⟩ ?_
  clear hs
  rintro gk i w2 ⟨rfl, hi, g2, hg2, hs⟩
  refine go ?_
  refine C.cond_dec (p := (i : Int) < k) rfl (fun h => ?_) (fun h => ?_)
  · have hil : i < x.es.length := by omega
    have hee := hx.evs x.es[i] (List.getElem_mem hil)
    refine go ?_
    refine E.ixs el_ev hs (hx.row.mono hg2) i ?_
    intro b5 o5 hr
    rw [evC_at hil] at hr
    refine E.ldr hr ag_ev rfl ?_
    refine E.callf Try.func23 rfl ?_
    refine foldApply_any (b := b) (e := x.es[i]) (hee.1.mono hg2) hs ?_
    intro w9 g9 hg9 hs
    have hfi : ((foNew 3).adds (x.es.take i)).step x.es[i] = (0, (foNew 3).adds (x.es.take (i + 1))) := by
      have h1 := hf
      have hlk : i < (x.es.take k).length := by rw [List.length_take]; omega
      rw [← List.take_append_drop i (x.es.take k), fits_append, List.drop_eq_getElem_cons hlk, List.take_take, Nat.min_eq_left (by omega), List.getElem_take] at h1
      rw [List.take_succ_eq_append_getElem hil, adds_append]
      exact h1.2.1
    rw [hfi] at hs ⊢
    simp only at hs ⊢
    refine go ?_
    exact A.rd (k - (i + 1)) (i + 1) ⟨rfl, by omega, g9, hg2.trans hg9, hs⟩
  · obtain rfl : i = k := by omega
    refine go ?_
    refine A.r1 ?_
    exact HR.out _ _ g2 hg2 hs
end Go.Proofs.Ytkolnecahlkndaa
