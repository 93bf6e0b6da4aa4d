/-
  Layer 15 (view): ViewConverges walked (printed by tools/gen_wg.py).
-/
import Derived.Test.YtkolnecahlkndaaWf
namespace Go.Proofs.Ytkolnecahlkndaa
open Go.RowKit
set_option linter.unusedVariables false
set_option linter.unusedSimpArgs false

set_option maxHeartbeats 6400000 in
set_option maxRecDepth 100000 in
theorem viewConverges_any {R : Ending → World → Prop} {W w : World} {g : Hl} {H : List HP} {a : Option Addr} {n c cut cut2 : Nat} {zs : List Nat} (hp : Pr 1 g (.slice a n c) n (hs16 zs)) (hn : zs.length = n) (hz : ∀ z ∈ zs, z < 65536) (hcut : cut < 256) (hcut2 : cut2 < 256) (hs : Sat W w g H)
    (hR : ∀ w' g', Hl.le g g' → Sat W w' g' H → R (.returned (.bool true)) w') :
    Calls Try.prog 4 #[.slice a n c, .int .u8 cut, .int .u8 cut2] w R := by
  have HR := Lib.hid hR
  clear hR
  have ag1 := ag_ev
  have ag2 := ag_spot
  refine C.calls (args := [.slice a n c, .int .u8 cut, .int .u8 cut2]) Try.func4 rfl rfl rfl ?_
  refine go ?_
  refine E.callf Try.func5 rfl ?_
  refine awake15_any hs ?_
  intro w2 g2 hg2 hs
  refine go ?_
  cases h60 : decide ((60 : Int) < n) with
  | true =>
    refine go ?_
    refine E.callf Try.func5 rfl ?_
    refine awake15_any hs ?_
    intro w3 g3 hg3 hs
    refine go ?_
    refine A.r1 ?_
    exact HR.out _ g3 (hg2.trans hg3) hs
  | false =>
    have hn60 := of_decide_eq_false h60
    refine go ?_
    refine E.callf Try.func7 rfl ?_
    refine feeds_any (hp.mono hg2) hn hz (by omega) hs ?_
    intro a4 c4 outs w4 g4 hg4 ho3 hof hok hp4 hs
    have h3 : Three g4 outs := ⟨ho3, hof⟩
    refine go ?_
    refine E.callf Try.func6 rfl ?_
    refine whole_any hp4 ho3 (by decide) hok (by have := h3.few; omega) hs ?_
    intro y w5 g5 hg5 hy hyp hyu hs
    have hT := h3.tale hyp hyu
    have hT9 := hT.few
    clear hyp hyu
    rw [show y.v = .slice y.a y.es.length y.c from rfl]
    refine go ?_
    have ewr : (cut : Int).tmod (y.es.length + 1) = ((cut % (y.es.length + 1) : Nat) : Int) := (Int.ofNat_tmod cut (y.es.length + 1)).symm
    have ewr2 : (cut2 : Int).tmod (y.es.length + 1) = ((cut2 % (y.es.length + 1) : Nat) : Int) := (Int.ofNat_tmod cut2 (y.es.length + 1)).symm
    have hkl : cut % (y.es.length + 1) ≤ y.es.length := by have := Nat.mod_lt cut (show 0 < y.es.length + 1 by omega); omega
    have hkl2 : cut2 % (y.es.length + 1) ≤ y.es.length := by have := Nat.mod_lt cut2 (show 0 < y.es.length + 1 by omega); omega
    rw [ewr, ewr2]
    clear ewr ewr2
    generalize cut % (y.es.length + 1) = k at hkl
    generalize cut2 % (y.es.length + 1) = k2 at hkl2
    have hgA : Hl.le g5 g5 := Hl.le_refl _
    refine C.held0 hs ?_
    intro w6 hk hs
    refine goh ?_
    refine EH.slq1 el_ev (hy.row.mono hgA) k y.es.length hk ?_
    intro a7 c7 hp7
    have hxe : (y.es.drop k).length = y.es.length - k := List.length_drop
    have ee : ((evC y.es).drop (k * 8)).take ((y.es.length - k) * 8) = evC (y.es.drop k) := by
      rw [evC_drop, evC_take, List.take_of_length_le (by omega)]
    rw [ee] at hp7
    have hx7 : ∀ {g' : Hl}, Hl.le g5 g' → El.ok ⟨a7, c7, y.es.drop k⟩ g' := fun hg => ⟨by simp only [El.v, hxe]; exact hp7.mono hg, fun e he => ⟨(hy.evs e ((List.drop_sublist k _).subset he)).1.mono (hgA.trans hg), (hy.evs e ((List.drop_sublist k _).subset he)).2⟩⟩
    have hv7 : (⟨a7, c7, y.es.drop k⟩ : El).v = .slice a7 (y.es.length - k) c7 := by simp only [El.v, hxe]
    have hD := hT.drop k
    have hadd : ((foNew 3).adds (y.es.take k)).adds (y.es.drop k) = (foNew 3).adds y.es := by rw [← adds_append, List.take_append_drop]
    apply later (α := (Nat × Nat × Nat) × El × Hl) (f := fun x => [(7, .slice y.a y.es.length y.c), (9, .int .i64 k2), (10, .pointer (some ⟨x.1.1, 0, none⟩)), (11, .int .i64 0)])
      (M := fun x w => Hl.le g5 x.2.2 ∧ Sat W w x.2.2 (vw x.1.1 x.1.2.1 x.1.2.2 x.2.1 :: fold x.1.2.2 ((foNew 3).adds y.es) :: H))
    · intro key
      have hEnd : ∀ (vq bq cq : Nat) (xq : El) (gq : Hl) (wq : World), Sat W wq gq (vw vq bq cq xq :: fold bq ((foNew 3).adds (y.es.take k)) :: fold cq (((foNew 3).adds (y.es.take k)).adds (y.es.drop k)) :: H) → Sat W wq gq (vw vq bq cq xq :: fold cq ((foNew 3).adds y.es) :: H) := fun vq bq cq xq gq wq h => by
        rw [hadd] at h
        exact h.swap.drop
      refine EH.orb hs (St.callf Try.func9 rfl ?_) ?_
      · refine base_any (x := y) (k := k) (hy.mono hgA) hkl (by omega) (hT.fits_at k).1 hs ?_
        intro b9 w9 g9 hg9 hs
        refine kept0 hs (fun hk => ?_) hg9
        refine goh ?_
        refine EH.bsl hs ?_
        intro b8 w8 hs
        refine kept0 hs (fun hk => ?_) hg9
        refine goh ?_
        obtain ⟨g10, hg10, hp10, hs10⟩ := (hs.blkOwn (size := 1) 1 rfl (by decide)).publishOwn
        refine EH.one (St.callf Try.func8 rfl ?_)
        refine by_any (ls := [⟨a7, c7, y.es.drop k⟩]) (T := y.es.drop k) (by rw [List.map_singleton, hv7]; exact hp10) rfl (by decide) (fun z hz => ?_) (fun z hz => ?_) hD.1 (by simp) (by omega) (hT.fits_at k).2 hs10 ?_
        · simp only [List.mem_singleton] at hz
          subst hz
          exact hx7 (hg9.trans hg10)
        · simp only [List.mem_singleton] at hz
          subst hz
          exact hD.1
        clear hs hp10 hs10
        intro vb b11 x w11 g11 hg11 hx hxe6 hs
        refine kept0 hs (fun hk => ?_) (hg9.trans (hg10.trans hg11))
        refine goh ?_
        refine EH.done ?_
        refine go ?_
        exact C.forget wk_ (key ((vb, b9, b11), x, g11) _ ⟨hg9.trans (hg10.trans hg11), hEnd _ _ _ _ _ _ hs⟩)
      · intro b8 w8 hs
        refine kept0 hs (fun hk => ?_)
        refine goh ?_
        obtain ⟨g10, hg10, hp10, hs10⟩ := (hs.blkOwn (size := 1) 1 rfl (by decide)).publishOwn
        refine EH.one (St.callf Try.func9 rfl ?_)
        refine base_any (x := y) (k := k) (hy.mono (hgA.trans hg10)) hkl (by omega) (hT.fits_at k).1 hs10 ?_
        clear hs hs10
        intro b9 w9 g9 hg9 hs
        refine kept0 hs (fun hk => ?_) (hg10.trans hg9)
        refine goh ?_
        refine EH.one (St.callf Try.func8 rfl ?_)
        refine by_any (ls := [⟨a7, c7, y.es.drop k⟩]) (T := y.es.drop k) (by rw [List.map_singleton, hv7]; exact hp10.mono hg9) rfl (by decide) (fun z hz => ?_) (fun z hz => ?_) hD.1 (by simp) (by omega) (hT.fits_at k).2 hs ?_
        · simp only [List.mem_singleton] at hz
          subst hz
          exact hx7 (hg10.trans hg9)
        · simp only [List.mem_singleton] at hz
          subst hz
          exact hD.1
        clear hs
        intro vb b11 x w11 g11 hg11 hx hxe6 hs
        refine kept0 hs (fun hk => ?_) (hg10.trans (hg9.trans hg11))
        refine goh ?_
        refine EH.done ?_
        refine go ?_
        exact C.forget wk_ (key ((vb, b9, b11), x, g11) _ ⟨hg10.trans (hg9.trans hg11), hEnd _ _ _ _ _ _ hs⟩)
    clear hs hD hxe ee hx7 hv7 hp7 hadd hk
    rintro ⟨⟨vb, b1, b2⟩, x1, g6⟩ w6 ⟨hg6, hs⟩
    simp only at hg6 hs ⊢
    have hgl := (hg2.trans (hg4.trans hg5)).trans hg6
    refine C.held0 hs ?_
    intro w6 hk hs
    refine goh ?_
    refine EH.slq1 el_ev (hy.row.mono hg6) k2 y.es.length hk ?_
    intro a7 c7 hp7
    have hxe : (y.es.drop k2).length = y.es.length - k2 := List.length_drop
    have ee : ((evC y.es).drop (k2 * 8)).take ((y.es.length - k2) * 8) = evC (y.es.drop k2) := by
      rw [evC_drop, evC_take, List.take_of_length_le (by omega)]
    rw [ee] at hp7
    have hx7 : ∀ {g' : Hl}, Hl.le g6 g' → El.ok ⟨a7, c7, y.es.drop k2⟩ g' := fun hg => ⟨by simp only [El.v, hxe]; exact hp7.mono hg, fun e he => ⟨(hy.evs e ((List.drop_sublist k2 _).subset he)).1.mono (hg6.trans hg), (hy.evs e ((List.drop_sublist k2 _).subset he)).2⟩⟩
    have hv7 : (⟨a7, c7, y.es.drop k2⟩ : El).v = .slice a7 (y.es.length - k2) c7 := by simp only [El.v, hxe]
    have hD := hT.drop k2
    have hadd : ((foNew 3).adds (y.es.take k2)).adds (y.es.drop k2) = (foNew 3).adds y.es := by rw [← adds_append, List.take_append_drop]
    apply later (α := (Nat × Nat × Nat) × El × Hl) (f := fun x => [(10, .pointer (some ⟨vb, 0, none⟩)), (11, .int .i64 0), (12, .pointer (some ⟨x.1.1, 0, none⟩)), (13, .int .i64 0)])
      (M := fun x w => Hl.le g6 x.2.2 ∧ Sat W w x.2.2 (vw x.1.1 x.1.2.1 x.1.2.2 x.2.1 :: fold x.1.2.2 ((foNew 3).adds y.es) :: vw vb b1 b2 x1 :: fold b2 ((foNew 3).adds y.es) :: H))
    · intro key
      have hEnd : ∀ (vq bq cq : Nat) (xq : El) (gq : Hl) (wq : World), Sat W wq gq (vw vq bq cq xq :: fold bq ((foNew 3).adds (y.es.take k2)) :: fold cq (((foNew 3).adds (y.es.take k2)).adds (y.es.drop k2)) :: vw vb b1 b2 x1 :: fold b2 ((foNew 3).adds y.es) :: H) → Sat W wq gq (vw vq bq cq xq :: fold cq ((foNew 3).adds y.es) :: vw vb b1 b2 x1 :: fold b2 ((foNew 3).adds y.es) :: H) := fun vq bq cq xq gq wq h => by
        rw [hadd] at h
        exact h.swap.drop
      refine EH.orb hs (St.callf Try.func9 rfl ?_) ?_
      · refine base_any (x := y) (k := k2) (hy.mono hg6) hkl2 (by omega) (hT.fits_at k2).1 hs ?_
        intro b9 w9 g9 hg9 hs
        refine kept0 hs (fun hk => ?_) hg9
        refine goh ?_
        refine EH.bsl hs ?_
        intro b8 w8 hs
        refine kept0 hs (fun hk => ?_) hg9
        refine goh ?_
        obtain ⟨g10, hg10, hp10, hs10⟩ := (hs.blkOwn (size := 1) 1 rfl (by decide)).publishOwn
        refine EH.one (St.callf Try.func8 rfl ?_)
        refine by_any (ls := [⟨a7, c7, y.es.drop k2⟩]) (T := y.es.drop k2) (by rw [List.map_singleton, hv7]; exact hp10) rfl (by decide) (fun z hz => ?_) (fun z hz => ?_) hD.1 (by simp) (by omega) (hT.fits_at k2).2 hs10 ?_
        · simp only [List.mem_singleton] at hz
          subst hz
          exact hx7 (hg9.trans hg10)
        · simp only [List.mem_singleton] at hz
          subst hz
          exact hD.1
        clear hs hp10 hs10
        intro vb b11 x w11 g11 hg11 hx hxe6 hs
        refine kept0 hs (fun hk => ?_) (hg9.trans (hg10.trans hg11))
        refine goh ?_
        refine EH.done ?_
        refine go ?_
        exact C.forget wk_ (key ((vb, b9, b11), x, g11) _ ⟨hg9.trans (hg10.trans hg11), hEnd _ _ _ _ _ _ hs⟩)
      · intro b8 w8 hs
        refine kept0 hs (fun hk => ?_)
        refine goh ?_
        obtain ⟨g10, hg10, hp10, hs10⟩ := (hs.blkOwn (size := 1) 1 rfl (by decide)).publishOwn
        refine EH.one (St.callf Try.func9 rfl ?_)
        refine base_any (x := y) (k := k2) (hy.mono (hg6.trans hg10)) hkl2 (by omega) (hT.fits_at k2).1 hs10 ?_
        clear hs hs10
        intro b9 w9 g9 hg9 hs
        refine kept0 hs (fun hk => ?_) (hg10.trans hg9)
        refine goh ?_
        refine EH.one (St.callf Try.func8 rfl ?_)
        refine by_any (ls := [⟨a7, c7, y.es.drop k2⟩]) (T := y.es.drop k2) (by rw [List.map_singleton, hv7]; exact hp10.mono hg9) rfl (by decide) (fun z hz => ?_) (fun z hz => ?_) hD.1 (by simp) (by omega) (hT.fits_at k2).2 hs ?_
        · simp only [List.mem_singleton] at hz
          subst hz
          exact hx7 (hg10.trans hg9)
        · simp only [List.mem_singleton] at hz
          subst hz
          exact hD.1
        clear hs
        intro vb b11 x w11 g11 hg11 hx hxe6 hs
        refine kept0 hs (fun hk => ?_) (hg10.trans (hg9.trans hg11))
        refine goh ?_
        refine EH.done ?_
        refine go ?_
        exact C.forget wk_ (key ((vb, b9, b11), x, g11) _ ⟨hg10.trans (hg9.trans hg11), hEnd _ _ _ _ _ _ hs⟩)
    clear hs hD hxe ee hx7 hv7 hp7 hadd hk
    rintro ⟨⟨vb2, b3, b4⟩, x2, g7⟩ w7 ⟨hg7, hs⟩
    simp only at hg7 hs ⊢
    replace hgl := hgl.trans hg7
    clear hg7 hg6
    obtain ⟨hFs, hFc⟩ := hT.short
    have hFo : ((foNew 3).adds y.es).ok := by
      obtain ⟨i, hi, _⟩ := fold_open hs.swap
      exact hi.ok
    have hFl := Fo.enc_len hFo hFs hFc
    generalize (foNew 3).adds y.es = F at hs hFs hFc hFo hFl
    refine C.held0 hs ?_
    intro w8 hk hs
    refine goh ?_
    apply laterH (α := Unit) (f := fun _ => [(10, .pointer (some ⟨vb, 0, none⟩)), (12, .pointer (some ⟨vb2, 0, none⟩)), (65, .bool true), (67, .int .u64 F.mark), (69, .int .u64 F.mark)])
      (M := fun _ w => Keeps g7 [] w ∧ Sat W w g7 (vw vb2 b3 b4 x2 :: fold b4 F :: vw vb b1 b2 x1 :: fold b2 F :: H))
    · intro key
      refine EH.one (St.guard rfl rfl (St.callf Try.func14 rfl ?_))
      refine vwMark_any hs.pull3.pull3 ?_
      refine kept0 hs (fun hk => ?_)
      refine EH.one (St.guard rfl rfl (St.callf Try.func14 rfl ?_))
      refine vwMark_any hs ?_
      refine kept0 hs (fun hk => ?_)
      exact EH.forget wk_ (key () _ ⟨hk, hs⟩)
    clear hs hk
    rintro _ w9 ⟨hk, hs⟩
    refine goh ?_
    rw [show decide ((F.mark : Int) = F.mark) = true from decide_eq_true rfl]
    refine goh ?_
    have hs2 := hs.pull3.pull3
    clear hs
    have hs := hs2
    clear hs2
    apply laterH (α := (Nat × Nat) × (Option Addr × Nat) × (Option Addr × Nat) × Hl) (f := fun x => [(72, .bool true), (73, .pointer (some ⟨vb, 0, none⟩)), (77, .pointer (some ⟨vb2, 0, none⟩)), (76, .string ⟨F.enc.toArray⟩), (80, .string ⟨F.enc.toArray⟩)])
      (M := fun x w => Keeps g7 [] w ∧ Hl.le g7 x.2.2.2 ∧ 0 = 0 ∧ 0 = 0 ∧ Sat W w x.2.2.2 (H))
    · intro key33
      apply laterH (α := (Nat × Nat) × (Option Addr × Nat) × (Option Addr × Nat) × Hl) (f := fun x => [(72, .bool true), (73, .pointer (some ⟨vb, 0, none⟩)), (77, .pointer (some ⟨vb2, 0, none⟩)), (75, .slice x.2.1.1 F.enc.length x.2.1.2), (80, .string ⟨F.enc.toArray⟩)])
        (M := fun x w => Keeps g7 [] w ∧ Hl.le g7 x.2.2.2 ∧ Pr 1 x.2.2.2 (.slice x.2.1.1 F.enc.length x.2.1.2) F.enc.length (bs F.enc) ∧ 0 = 0 ∧ Sat W w x.2.2.2 (H))
      · intro key23
        apply laterH (α := (Nat × Nat) × (Option Addr × Nat) × (Option Addr × Nat) × Hl) (f := fun x => [(72, .bool true), (73, .pointer (some ⟨vb, 0, none⟩)), (77, .pointer (some ⟨vb2, 0, none⟩)), (76, .string ⟨F.enc.toArray⟩), (79, .slice x.2.2.1.1 F.enc.length x.2.2.1.2)])
          (M := fun x w => Keeps g7 [] w ∧ Hl.le g7 x.2.2.2 ∧ 0 = 0 ∧ Pr 1 x.2.2.2 (.slice x.2.2.1.1 F.enc.length x.2.2.1.2) F.enc.length (bs F.enc) ∧ Sat W w x.2.2.2 (H))
        · intro key32
          apply laterH (α := (Nat × Nat) × (Option Addr × Nat) × (Option Addr × Nat) × Hl) (f := fun x => [(72, .bool true), (73, .pointer (some ⟨vb, 0, none⟩)), (77, .pointer (some ⟨vb2, 0, none⟩)), (75, .slice x.2.1.1 F.enc.length x.2.1.2), (79, .slice x.2.2.1.1 F.enc.length x.2.2.1.2)])
            (M := fun x w => Keeps g7 [] w ∧ Hl.le g7 x.2.2.2 ∧ Pr 1 x.2.2.2 (.slice x.2.1.1 F.enc.length x.2.1.2) F.enc.length (bs F.enc) ∧ Pr 1 x.2.2.2 (.slice x.2.2.1.1 F.enc.length x.2.2.1.2) F.enc.length (bs F.enc) ∧ Sat W w x.2.2.2 (H))
          · intro key22
            apply laterH (α := (Nat × Nat) × (Option Addr × Nat) × (Option Addr × Nat) × Hl) (f := fun x => [(72, .bool true), (73, .pointer (some ⟨vb, 0, none⟩)), (77, .pointer (some ⟨vb2, 0, none⟩)), (76, .string ⟨F.enc.toArray⟩), (78, .pointer (some ⟨x.1.2, 0, none⟩))])
              (M := fun x w => Keeps g7 [] w ∧ Hl.le g7 x.2.2.2 ∧ 0 = 0 ∧ 0 = 0 ∧ Sat W w x.2.2.2 (fold x.1.2 F :: H))
            · intro key31
              apply laterH (α := (Nat × Nat) × (Option Addr × Nat) × (Option Addr × Nat) × Hl) (f := fun x => [(72, .bool true), (73, .pointer (some ⟨vb, 0, none⟩)), (77, .pointer (some ⟨vb2, 0, none⟩)), (75, .slice x.2.1.1 F.enc.length x.2.1.2), (78, .pointer (some ⟨x.1.2, 0, none⟩))])
                (M := fun x w => Keeps g7 [] w ∧ Hl.le g7 x.2.2.2 ∧ Pr 1 x.2.2.2 (.slice x.2.1.1 F.enc.length x.2.1.2) F.enc.length (bs F.enc) ∧ 0 = 0 ∧ Sat W w x.2.2.2 (fold x.1.2 F :: H))
              · intro key21
                apply laterH (α := (Nat × Nat) × (Option Addr × Nat) × (Option Addr × Nat) × Hl) (f := fun x => [(72, .bool true), (73, .pointer (some ⟨vb, 0, none⟩)), (77, .pointer (some ⟨vb2, 0, none⟩)), (76, .string ⟨F.enc.toArray⟩)])
                  (M := fun x w => Keeps g7 [] w ∧ Hl.le g7 x.2.2.2 ∧ 0 = 0 ∧ 0 = 0 ∧ Sat W w x.2.2.2 (vw vb2 b3 b4 x2 :: fold b4 F :: H))
                · intro key30
                  apply laterH (α := (Nat × Nat) × (Option Addr × Nat) × (Option Addr × Nat) × Hl) (f := fun x => [(72, .bool true), (73, .pointer (some ⟨vb, 0, none⟩)), (77, .pointer (some ⟨vb2, 0, none⟩)), (75, .slice x.2.1.1 F.enc.length x.2.1.2)])
                    (M := fun x w => Keeps g7 [] w ∧ Hl.le g7 x.2.2.2 ∧ Pr 1 x.2.2.2 (.slice x.2.1.1 F.enc.length x.2.1.2) F.enc.length (bs F.enc) ∧ 0 = 0 ∧ Sat W w x.2.2.2 (vw vb2 b3 b4 x2 :: fold b4 F :: H))
                  · intro key20
                    apply laterH (α := (Nat × Nat) × (Option Addr × Nat) × (Option Addr × Nat) × Hl) (f := fun x => [(72, .bool true), (73, .pointer (some ⟨vb, 0, none⟩)), (77, .pointer (some ⟨vb2, 0, none⟩)), (74, .pointer (some ⟨x.1.1, 0, none⟩))])
                      (M := fun x w => Keeps g7 [] w ∧ Hl.le g7 x.2.2.2 ∧ 0 = 0 ∧ 0 = 0 ∧ Sat W w x.2.2.2 (fold x.1.1 F :: vw vb2 b3 b4 x2 :: fold b4 F :: H))
                    · intro key10
                      obtain ⟨p, q, aa, ca, ba, cb, g9, hg9, hpa, hpb, hs⟩ : ∃ (p q : Nat) (aa : Option Addr) (ca : Nat) (ba : Option Addr) (cb : Nat) (g9 : Hl), Hl.le g7 g9 ∧ 0 = 0 ∧ 0 = 0 ∧ Sat W w9 g9 (vw vb b1 b2 x1 :: fold b2 F :: vw vb2 b3 b4 x2 :: fold b4 F :: H) := ⟨0, 0, none, 0, none, 0, g7, Hl.le_refl _, rfl, rfl, hs⟩
                      refine EH.one (St.guard rfl rfl (St.callf Try.func15 rfl ?_))
                      refine vwFold_any hs ?_
                      intro r w10 hs
                      have hs2 := hs.swap.drop.swap.drop
                      refine kept0 hs (fun hk => ?_) hg9
                      exact EH.forget wk_ (key10 ((r, q), (aa, ca), (ba, cb), g9) _ ⟨hk, hg9, hpa, hpb, hs2⟩)
                    rintro ⟨⟨p, q⟩, ⟨aa, ca⟩, ⟨ba, cb⟩, g9⟩ w10 ⟨hk, hg9, hpa, hpb, hs⟩
                    simp only at hg9 hs ⊢
                    refine EH.one (St.guard rfl rfl (St.callf Try.func16 rfl ?_))
                    refine foldEncode_any hFl (by omega) hs ?_
                    intro ra rc w10 g10 hg10 hs
                    obtain ⟨g11, hg11, hp11, hs⟩ := hs.publishOwn
                    refine kept0 hs (fun hk => ?_) (hg9.trans (hg10.trans hg11))
                    exact EH.forget wk_ (key20 ((p, q), (ra, rc), (ba, cb), g11) _ ⟨hk, hg9.trans (hg10.trans hg11), hp11, hpb, hs.drop⟩)
                  rintro ⟨⟨p, q⟩, ⟨aa, ca⟩, ⟨ba, cb⟩, g9⟩ w10 ⟨hk, hg9, hpa, hpb, hs⟩
                  simp only at hg9 hs ⊢
                  simp only at hpa
                  refine EH.two (St.guard rfl rfl (St.string rfl Try.underlying40 Try.underlying5 Try.underlying9 (hpa.row hs) ?_)) (St.guard rfl rfl (St.callf Try.func15 rfl ?_))
                  · refine kept0 hs (fun hk => ?_) hg9
                    exact EH.forget wk_ (key30 ((p, q), (aa, ca), (ba, cb), g9) _ ⟨hk, hg9, rfl, hpb, hs⟩)
                  · refine vwFold_any hs ?_
                    intro r w10 hs
                    have hs2 := hs.swap.drop.swap.drop
                    refine kept0 hs (fun hk => ?_) hg9
                    exact EH.forget wk_ (key21 ((p, r), (aa, ca), (ba, cb), g9) _ ⟨hk, hg9, hpa, hpb, hs2⟩)
                rintro ⟨⟨p, q⟩, ⟨aa, ca⟩, ⟨ba, cb⟩, g9⟩ w10 ⟨hk, hg9, hpa, hpb, hs⟩
                simp only at hg9 hs ⊢
                refine EH.one (St.guard rfl rfl (St.callf Try.func15 rfl ?_))
                refine vwFold_any hs ?_
                intro r w10 hs
                have hs2 := hs.swap.drop.swap.drop
                refine kept0 hs (fun hk => ?_) hg9
                exact EH.forget wk_ (key31 ((p, r), (aa, ca), (ba, cb), g9) _ ⟨hk, hg9, hpa, hpb, hs2⟩)
              rintro ⟨⟨p, q⟩, ⟨aa, ca⟩, ⟨ba, cb⟩, g9⟩ w10 ⟨hk, hg9, hpa, hpb, hs⟩
              simp only at hg9 hs ⊢
              simp only at hpa
              refine EH.two (St.guard rfl rfl (St.string rfl Try.underlying40 Try.underlying5 Try.underlying9 (hpa.row hs) ?_)) (St.guard rfl rfl (St.callf Try.func16 rfl ?_))
              · refine kept0 hs (fun hk => ?_) hg9
                exact EH.forget wk_ (key31 ((p, q), (aa, ca), (ba, cb), g9) _ ⟨hk, hg9, rfl, hpb, hs⟩)
              · refine foldEncode_any hFl (by omega) hs ?_
                intro ra rc w10 g10 hg10 hs
                obtain ⟨g11, hg11, hp11, hs⟩ := hs.publishOwn
                refine kept0 hs (fun hk => ?_) (hg9.trans (hg10.trans hg11))
                exact EH.forget wk_ (key22 ((p, q), (aa, ca), (ra, rc), g11) _ ⟨hk, hg9.trans (hg10.trans hg11), hpa.mono (hg10.trans hg11), hp11, hs.drop⟩)
            rintro ⟨⟨p, q⟩, ⟨aa, ca⟩, ⟨ba, cb⟩, g9⟩ w10 ⟨hk, hg9, hpa, hpb, hs⟩
            simp only at hg9 hs ⊢
            refine EH.one (St.guard rfl rfl (St.callf Try.func16 rfl ?_))
            refine foldEncode_any hFl (by omega) hs ?_
            intro ra rc w10 g10 hg10 hs
            obtain ⟨g11, hg11, hp11, hs⟩ := hs.publishOwn
            refine kept0 hs (fun hk => ?_) (hg9.trans (hg10.trans hg11))
            exact EH.forget wk_ (key32 ((p, q), (aa, ca), (ra, rc), g11) _ ⟨hk, hg9.trans (hg10.trans hg11), hpa, hp11, hs.drop⟩)
          rintro ⟨⟨p, q⟩, ⟨aa, ca⟩, ⟨ba, cb⟩, g9⟩ w10 ⟨hk, hg9, hpa, hpb, hs⟩
          simp only at hg9 hs ⊢
          simp only at hpa
          simp only at hpb
          refine EH.two (St.guard rfl rfl (St.string rfl Try.underlying40 Try.underlying5 Try.underlying9 (hpa.row hs) ?_)) (St.guard rfl rfl (St.string rfl Try.underlying40 Try.underlying5 Try.underlying9 (hpb.row hs) ?_))
          · refine kept0 hs (fun hk => ?_) hg9
            exact EH.forget wk_ (key32 ((p, q), (aa, ca), (ba, cb), g9) _ ⟨hk, hg9, rfl, hpb, hs⟩)
          · refine kept0 hs (fun hk => ?_) hg9
            exact EH.forget wk_ (key23 ((p, q), (aa, ca), (ba, cb), g9) _ ⟨hk, hg9, hpa, rfl, hs⟩)
        rintro ⟨⟨p, q⟩, ⟨aa, ca⟩, ⟨ba, cb⟩, g9⟩ w10 ⟨hk, hg9, hpa, hpb, hs⟩
        simp only at hg9 hs ⊢
        simp only at hpb
        refine EH.one (St.guard rfl rfl (St.string rfl Try.underlying40 Try.underlying5 Try.underlying9 (hpb.row hs) ?_))
        refine kept0 hs (fun hk => ?_) hg9
        exact EH.forget wk_ (key33 ((p, q), (aa, ca), (ba, cb), g9) _ ⟨hk, hg9, hpa, rfl, hs⟩)
      rintro ⟨⟨p, q⟩, ⟨aa, ca⟩, ⟨ba, cb⟩, g9⟩ w10 ⟨hk, hg9, hpa, hpb, hs⟩
      simp only at hg9 hs ⊢
      simp only at hpa
      refine EH.one (St.guard rfl rfl (St.string rfl Try.underlying40 Try.underlying5 Try.underlying9 (hpa.row hs) ?_))
      refine kept0 hs (fun hk => ?_) hg9
      exact EH.forget wk_ (key33 ((p, q), (aa, ca), (ba, cb), g9) _ ⟨hk, hg9, rfl, hpb, hs⟩)
    rintro ⟨⟨p, q⟩, ⟨aa, ca⟩, ⟨ba, cb⟩, g9⟩ w10 ⟨hk, hg9, hpa, hpb, hs⟩
    simp only at hg9 hs ⊢
    refine goh ?_
    rw [show decide (F.enc = F.enc) = true from decide_eq_true rfl]
    refine EH.done ?_
    refine go ?_
    refine A.r1 ?_
    exact HR.out _ g9 (hgl.trans hg9) hs
end Go.Proofs.Ytkolnecahlkndaa
