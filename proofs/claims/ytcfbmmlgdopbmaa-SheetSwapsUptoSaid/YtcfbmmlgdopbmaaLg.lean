/-
  The walk of SheetMends.
-/
import Derived.Test.YtcfbmmlgdopbmaaLf
import Derived.Test.YtcfbmmlgdopbmaaLe
namespace Go.Proofs.Ytcfbmmlgdopbmaa
open Go.RowKit
set_option linter.unusedVariables false
set_option linter.unusedSimpArgs false

section
variable {P : Program} {n : Fm} {ρ : List (Nat × Value)} {W w w' : World} {g g' : Hl} {H H' : List HP} {Q : Exit → Act → World → Prop} {l : List Oper} {S : World → Prop} {fuel m : Nat} {d : Option Tmp} {ty : TypeId} {ps : String} {af : Array Edge} {gd : Option (Nat × Bool)} {v u : Value} {x y : Operand} {o : Op} {F : List (Nat × List Value × TypeId)} {i b k s : Nat} {rs : List Nat} {t e : TypeId} {z : Value} {bytes : Nat} {a : Option Addr} {len c : Nat} {lo hi mx : Option Operand} {vl vh vm : Option Value}
/-- s[l:h] of a row of the pool's, in a drawn region: the first operation that may come up. -/
theorem EH.slp {xs : List Value} (he : ElemOf P t e z s bytes) (hp : Pr s g (.slice a len c) len xs) (q h : Nat) (hS : S w) (kk : ∀ a' c', Pr s g (.slice a' (h - q) c') (h - q) ((xs.drop (q * s)).take ((h - q) * s)) → EH P n l S fuel (bset m i) (pushv d (.slice a' (h - q) c') ρ) w Q)
    (hr : rdy m l.length 0 l = i :: rs := by exact rfl) (hnth : nth l i = some ⟨d, .slice t x lo hi none, ty, ps, af, gd⟩ := by exact rfl) (hg : want n l ρ gd = some true := by exact rfl)
    (hx : evo n ρ x = some (.slice a len c) := by exact rfl) (h1 : evm n ρ lo = some vl := by exact rfl) (h2 : evm n ρ hi = some vh := by exact rfl) (hlo : Lo vl q := by first | exact .inl ⟨rfl, rfl⟩ | exact .inr ⟨_, _, rfl, by omega⟩) (hhi : Hi vh len h := by first | exact .inl ⟨rfl, rfl⟩ | exact .inr ⟨_, _, rfl, by omega⟩) (hl : q ≤ h := by omega) (hh : h ≤ len := by omega)
    (hsel : Region.noSelect l.toArray = true := by kernel_rfl) (hf : Region.free .any l.toArray (bits m l.length) i = true := by decide +kernel)
    (hQ : ∀ v c a w, Q (.panic c) (a.put d v) w → Q (.panic c) a w := by exact fun _ _ _ _ h => h) : EH P n l S (fuel + 1) m ρ w Q := by
  obtain ⟨a', c', h3, h4⟩ := run_slice_pr (P := P) he hp hlo hhi hl hh
  exact EH.take i (by rw [hr]; simp) hnth hsel hf hQ hS (yif (oi := ⟨d, .slice t x lo hi none, ty, ps, af, gd⟩) hg (Pf.pv (Pv.slice hx h1 h2 rfl h3))) (kk _ _ h4)
end
theorem sumS_ten (ls : List (List UInt8)) : 10 * ls.length ≤ sumS ls := by
  induction ls with
  | nil => simp [sumS]
  | cons x r ih =>
    have e2 : sumS (x :: r) = (x.length + 10) + sumS r := by simp [sumS]
    simp only [List.length_cons]
    omega
/-- The first rows. -/
theorem LB.row {g : Hl} {a : Option Addr} {n c : Nat} {ls : List (List UInt8)} (h : LB g a n c ls) : ∃ xs : List Value, Pr 1 g (.slice a n c) n xs ∧ ∀ (k : Nat) (a' : Option Addr) (c' : Nat), k ≤ n → Pr 1 g (.slice a' (k - 0) c') (k - 0) ((xs.drop (0 * 1)).take ((k - 0) * 1)) → LB g a' k c' (ls.take k) := by
  obtain ⟨ps, h1, h2, h3, h4⟩ := h
  refine ⟨_, h4, fun k a' c' hk hp => ⟨ps.take k, by rw [List.map_take, h1], by rw [List.length_take]; omega, fun p hp => h3 p (List.mem_of_mem_take hp), ?_⟩⟩
  simpa [List.map_take] using hp

set_option maxHeartbeats 6400000 in
set_option maxRecDepth 100000 in
theorem mends_any {R : Ending → World → Prop} {W w : World} {g : Hl} {H : List HP} {n c n3 c3 cut : Nat} {a a3 : Option Addr} {t : Ti} {ls : List (List UInt8)} {more : List UInt8} (ht : t.ok) (hs : Sat W w g H) (hl : LB g a n c ls) (hb : sumS ls ≤ 1000000000000000) (hcut : cut < 65536) (hm : Pr 1 g (.slice a3 n3 c3) n3 (bs more)) (hml : more.length = n3)
    (hR : ∀ w' g', Hl.le g g' → Sat W w' g' H → R (.returned (.bool true)) w') :
    Calls Try.prog 4 #[t.val, .slice a n c, .int .u16 cut, .slice a3 n3 c3] w R := by
  have HR := Lib.hid hR
  clear hR
  have hhl := headB_len ht
  have hll := hl.len
  have hle := hl.le
  have hme := hm.le
  refine C.calls (args := [t.val, .slice a n c, .int .u16 cut, .slice a3 n3 c3]) Try.func4 rfl rfl rfl ?_
  refine go ?_
  refine E.bx hs ?_
  intro b1 w1 hs
  replace hs : Sat W w1 g (blk b1 t.cs 24 :: H) := hs
  refine go ?_
  refine E.callf Try.func8 rfl ?_
  refine awake_any hs ?_
  intro w2 g2 hg2 hs
  refine go ?_
  refine E.callf Try.func9 rfl ?_
  refine short_any hs (hl.mono hg2) hb ?_
  intro w3 hs
  cases hsh : decide (sumS ls ≤ 2000)
  · refine go ?_
    refine E.callf Try.func8 rfl ?_
    refine awake_any hs ?_
    intro w4 g4 hg4 hs
    refine go ?_
    refine A.r1 ?_
    exact HR.out _ _ (hg2.trans hg4) hs.drop
  have hS : sumS ls ≤ 2000 := by simpa using hsh
  have hL := sumL_S ls
  clear hsh
  cases hmo : decide ((100 : Int) < n3)
  rotate_left
  · refine go ?_
    rw [hmo]
    refine go ?_
    refine E.callf Try.func8 rfl ?_
    refine awake_any hs ?_
    intro w4 g4 hg4 hs
    refine go ?_
    refine A.r1 ?_
    exact HR.out _ _ (hg2.trans hg4) hs.drop
  have hn3 : n3 ≤ 100 := by simp at hmo; omega
  refine go ?_
  rw [hmo]
  clear hmo
  refine go ?_
  refine E.lda hs ag_title ?_
  refine go ?_
  refine E.callf Try.func16 rfl ?_
  refine llay_any hs ht (hl.mono hg2) (by omega) ?_
  intro ab cb w5 g5 hg5 hs
  obtain ⟨g6, hg6, hpb, hs⟩ := hs.publishOwn
  refine go ?_
  refine E.lda hs ag_title ?_
  refine go ?_
  refine E.callf Try.func17 rfl ?_
  refine lhead_any hs ht ?_
  intro a7 c7 w7 g7 hg7 hs
  replace hs := hs.drop
  have hcl := catB_len ls (by omega)
  obtain ⟨m, hmd⟩ : ∃ m : Nat, m = cut % ((catB ls).length + 1) := ⟨_, rfl⟩
  have hm1 : m ≤ (catB ls).length := by have := Nat.mod_lt cut (show 0 < (catB ls).length + 1 by omega); omega
  have e1 : (headB t ++ catB ls).length = (headB t).length + (catB ls).length := List.length_append
  refine go ?_
  refine E.pv (Pv.remn (a := cut) (b := (catB ls).length + 1) rfl rfl rfl (by omega) (by omega)) ?_
  rw [← hmd]
  refine go ?_
  refine E.callf Try.func10 rfl ?_
  refine new_any (by decide) hs ?_
  intro b w8 hs
  refine go ?_
  refine E.slb el_u8 (hpb.mono hg7) 0 ((headB t).length + m) (fun a9 c9 hp9 => ?_)
  have e10 : ((headB t ++ catB ls).drop 0).take ((headB t).length + m - 0) = headB t ++ (catB ls).take m := by
    rw [List.drop_zero, Nat.sub_zero, List.take_append, List.take_of_length_le (by omega), Nat.add_sub_cancel_left]
  rw [e10] at hp9
  simp only [Nat.sub_zero] at hp9 ⊢
  have e11 : (headB t ++ (catB ls).take m).length = (headB t).length + m := by rw [List.length_append, List.length_take]; omega
  obtain ⟨d1, f1, f2, f3, f4⟩ := Dk.calm.append (d := ⟨[], 65536, -1, 0, 0, false⟩) ⟨rfl, by simp⟩ (name := [102]) (p := headB t ++ (catB ls).take m) fB_named (by rw [e11]; simp only [tk]; simp; omega)
  replace f2 : d1.fs = [([102], ⟨headB t ++ (catB ls).take m, 0⟩)] := f2
  replace f3 : d1.room = 65536 := f3
  have hmx : ∀ x ∈ ls, x.length ≤ 2097152 := fun x hx => by have := sumS_mem hx; omega
  obtain ⟨k, d2, s2, k1, k2, k3, k4, k5, k6, k7⟩ := mend_torn f4 (name := [102]) ht hmx hm1 (by rw [f2, aget_one])
  rw [f2, aput_one] at k5
  refine go ?_
  refine E.callf Try.func18 rfl ?_
  refine append_any (name := [102]) hs hp9 e11 (by omega) ?_
  intro w10 hs
  rw [f1] at hs ⊢
  replace hs : Sat W w10 g7 (disk b d1 :: _) := hs
  refine go ?_
  refine E.callf Try.func19 rfl ?_
  refine mend_any (name := [102]) hs ?_ ?_
  rotate_left
  · intro e w11 g11 hme
    rw [k4] at hme
    cases hme
  intro sh a11 c11 w11 g11 hme htok _ hgd hg11 hlb hs
  rw [k4] at hme hs
  simp only [Except.ok.injEq] at hme
  subst hme
  replace hs : Sat W w11 g11 (disk b d2 :: _) := hs
  simp only [Sh.cs] at hlb ⊢
  have e12 : (ls.take k).length = k := by rw [List.length_take]; omega
  rw [e12] at hlb ⊢
  refine go ?_
  refine E.al hs ?_
  intro b13 w13 hs
  refine go ?_
  refine E.sto hs ?_
  intro w14 hs
  refine go ?_
  have ag1 := ag_title
  have hl11 := hl.mono ((((hg2.trans hg5).trans hg6).trans hg7).trans hg11)
  obtain ⟨xs, hpx, hbk⟩ := hl11.row
  clear hmd e10 hme k4
  obtain ⟨kd, ta, tb⟩ := t
  simp only [Ti.cs] at hs
  have hkn : ¬ (n : Int) < (k : Int) := by omega
  have hk200 : k ≤ 200 := by have := sumS_ten ls; omega
  refine C.held2 b13 b1 hs ?_
  intro w15 hk hs
  refine goh ?_
  rw [decide_eq_false hkn]
  refine goh ?_
  refine EH.slp el_row hpx 0 k hk (fun a16 c16 hp16 => ?_)
  have hlk := hbk k a16 c16 (by omega) hp16
  simp only [Nat.sub_zero]
  refine goh ?_
  refine EH.one (St.guard rfl rfl (St.callf Try.func15 rfl ?_))
  refine same_any hs hlb hlk ?_
  intro w17 hs
  rw [decide_eq_true rfl]
  refine kept2 hs (fun hk => ?_)
  refine goh ?_
  refine EH.done ?_
  refine go ?_
  clear hlk hp16
  refine C.cutQ (fun _ : Unit => [(3, .slice a3 n3 c3), (12, ptr b), (13, ptr b13), (107, .bool false)]) (fun _ w => ∃ g', Hl.le g11 g' ∧ Sat W w g' (blk b13 [.int .u8 kd.toNat, .int .u64 ta, .int .u64 tb, .slice a11 k c11, .int .i64 ((headB ⟨kd, ta, tb⟩).length + (catB (ls.take k)).length : Nat), .int .i64 0] 32 :: disk b d2 :: blk b1 [.int .u8 kd.toNat, .int .u64 ta, .int .u64 tb] 24 :: H)) ?_ ?_
  · refine C.held2 b13 b1 hs ?_
    intro w18 hk hs
    refine goh ?_
    cases hkn2 : decide ((k : Int) < (n : Int))
    · refine goh ?_
      refine EH.done ?_
      refine go ?_
      exact A.mt () ⟨g11, Hl.le_refl _, hs⟩
    · have hkn3 : k < n := by simpa using hkn2
      have k3' := k3 (by omega)
      have hsl := sumL_take ls (k + 1)
      refine goh ?_
      refine EH.slp el_row hpx 0 (k + 1) hk (fun a16 c16 hp16 => ?_)
      have hlk := hbk (k + 1) a16 c16 (by omega) hp16
      simp only [Nat.sub_zero]
      refine goh ?_
      refine EH.one (St.guard rfl rfl (St.callf Try.func16 rfl ?_))
      refine llay_any (t := ⟨kd, ta, tb⟩) hs ht hlk (by omega) ?_
      intro a22 c22 w22 g22 hg22 hs
      replace hs := hs.drop
      refine kept2 hs (fun hk => ?_) hg22
      have e23 : (headB ⟨kd, ta, tb⟩ ++ catB (ls.take (k + 1))).length = (headB ⟨kd, ta, tb⟩).length + (catB (ls.take (k + 1))).length := List.length_append
      have hcl2 := catB_len (ls.take (k + 1)) (by omega)
      refine goh ?_
      have e25 : decide (((headB ⟨kd, ta, tb⟩).length : Int) + (((headB ⟨kd, ta, tb⟩).length : Int) + ((catB (ls.take (k + 1))).length : Int)) - ((headB ⟨kd, ta, tb⟩).length : Int) ≤ ((headB ⟨kd, ta, tb⟩).length : Int) + (m : Int)) = false := decide_eq_false (by omega)
      rw [e25]
      refine EH.done ?_
      refine go ?_
      exact A.mt () ⟨g22, hg22, hs⟩
  clear hs
  rintro _ w19 ⟨g19, hg19, hs⟩
  refine go ?_
  obtain ⟨d3, q1, q2, q3, q4⟩ := add_calm (name := [102]) (p := more) k7 (by omega) fB_named (by rw [k5, tk_one, k6, f3]; simp only [List.length_append]; have := wrapB_len more (by omega); omega)
  rw [k5, put_one] at q2
  have hg19' : Hl.le g g19 := ((((hg2.trans hg5).trans hg6).trans hg7).trans hg11).trans hg19
  refine E.callf Try.func13 rfl ?_
  refine add_any (name := [102]) hs.swap (hm.mono hg19') hml ?_
  intro w20 g20 hg20 hs
  rw [q1] at hs ⊢
  replace hs : Sat W w20 g20 (disk b d3 :: _) := hs
  have hfile : aget [102] d3.fs = some ⟨headB ⟨kd, ta, tb⟩ ++ (catB (ls.take k ++ [more]) ++ []), s2⟩ := by rw [q2, aget_one, catB_snoc]; simp
  have hscan := scanB_lay ⟨kd, ta, tb⟩ ht (ls.take k ++ [more]) (by
    intro x hx
    rcases List.mem_append.1 hx with h | h
    · exact hmx x (List.mem_of_mem_take h)
    · simp only [List.mem_singleton] at h; subst h; omega) []
  rw [allC_nil] at hscan
  simp only [List.append_nil, Nat.add_zero] at hscan hfile
  have hsheet : d3.sheet [102] = .ok ⟨⟨kd, ta, tb⟩, ls.take k ++ [more], (headB ⟨kd, ta, tb⟩).length + (catB (ls.take k ++ [more])).length, 0⟩ := by
    unfold Dk.sheet
    rw [q4.read hfile]
    exact hscan
  refine go ?_
  refine E.callf Try.func11 rfl ?_
  refine sread_any (name := [102]) hs ?_ ?_
  rotate_left
  · intro e w14 g14 he
    rw [hsheet] at he
    cases he
  intro sh a21 c21 w21 g21 he htok _ _ hg21 hlb2 hs
  rw [hsheet] at he
  simp only [Except.ok.injEq] at he
  subst he
  simp only [Sh.cs] at hlb2 ⊢
  have e22 : (ls.take k ++ [more]).length = k + 1 := by rw [List.length_append, e12]; rfl
  rw [e22] at hlb2 ⊢
  refine go ?_
  refine E.al hs ?_
  intro b22 w22 hs
  refine go ?_
  refine E.sto hs ?_
  intro w23 hs
  refine go ?_
  obtain ⟨ys, hpy, a24, c24, hyi, hp24⟩ := hlb2.get (i := k) (by omega)
  have e24 : (ls.take k ++ [more])[k]'(by omega) = more := by
    rw [List.getElem_append_right (by omega)]; simp [e12]
  rw [e24] at hyi hp24
  clear hscan hsheet hfile q1
  refine C.held1 b22 hs ?_
  intro w25 hk hs
  refine goh ?_
  rw [decide_eq_true rfl]
  refine goh ?_
  refine EH.ix el_row hpy k hyi hk (fun _ h => h) (fun b26 o26 hc26 => ?_)
  refine goh ?_
  refine EH.strc hp24 hk (fun _ h => h) Try.underlying37 Try.underlying5 Try.underlying9 ?_
  refine goh ?_
  refine EH.strc (hm.mono (hg19'.trans (hg20.trans hg21))) hk (fun _ h => h) Try.underlying37 Try.underlying5 Try.underlying9 ?_
  refine goh ?_
  refine EH.done ?_
  refine go ?_
  refine A.r1 ?_
  rw [decide_eq_true rfl]
  exact HR.out _ _ (hg19'.trans (hg20.trans hg21)) hs.drop.drop.drop.drop
end Go.Proofs.Ytcfbmmlgdopbmaa
