/-
  Layer 19 (post): Double, Peek, Bend.
-/
import Derived.Test.YtpnfckdjggigpaaPc
namespace Go.Proofs.Ytpnfckdjggigpaa
open Go.RowKit

theorem double_none {R : Ending → World → Prop} {W w : World} {g : Hl} {H : List HP} {b : Nat} {i : Int} (hs : Sat W w g (post b [] :: H)) (hR : R (.returned (.int .i64 2)) w) :
    Calls Try.prog 9 #[.pointer (some ⟨b, 0, none⟩), .int .i64 i] w R := by
  obtain ⟨a, c, h⟩ := post_cells hs
  have HR := Lib.hid hR
  have H0 := Lib.hid h
  clear hR h
  go_enter Try.func9, Try.ntmps9
  go_wp2_with (go_at_call 17; refine (at_none _ _ _ _ _ H0.out).mono ?_; rintro e w' ⟨rfl, rfl⟩)
  exact HR.out

set_option maxRecDepth 100000 in
theorem double_full {R : Ending → World → Prop} {W w : World} {g : Hl} {H : List HP} {b : Nat} {i : Int} {l : List Pk} (hs : Sat W w g (post b l :: H)) (hl : l.length = 512) (hR : R (.returned (.int .i64 3)) w) :
    Calls Try.prog 9 #[.pointer (some ⟨b, 0, none⟩), .int .i64 i] w R := by
  obtain ⟨a, c, h⟩ := post_cells hs
  have h2 := Lib.hid h
  have HR := Lib.hid hR
  have hpos : 0 < l.length := by omega
  have hge : 512 ≤ l.length := by omega
  have hle : l.length ≤ 512 := by omega
  clear hR hl
  go_enter Try.func9, Try.ntmps9
  go_wp2_with (go_at_call 17; refine (at_some _ _ _ _ _ _ h2.out hpos (by omega)).mono ?_; rintro e w' ⟨rfl, rfl⟩)
  exact HR.out

set_option maxRecDepth 100000 in
theorem double_some {R : Ending → World → Prop} {W w : World} {g : Hl} {H : List HP} {b : Nat} {i : Int} {l : List Pk} {k : Nat} {x : Pk} (hs : Sat W w g (post b l :: H)) (hk : idx i l.length = k) (hx : l[k]? = some x) (hl : l.length < 512)
    (hR : ∀ w' g', Hl.le g g' → Sat W w' g' (post b (l ++ [x]) :: H) → R (.returned (.int .i64 0)) w') :
    Calls Try.prog 9 #[.pointer (some ⟨b, 0, none⟩), .int .i64 i] w R := by
  obtain ⟨sb, sc, ps, v, rfl, hps, hxv, hx2, hx3, hsc, hscm, hs1⟩ := post_at hs hx
  obtain ⟨hlt, _⟩ := List.getElem?_eq_some_iff.1 hxv
  obtain ⟨xa, xc, rfl, _, _⟩ := hx2.len
  have hlm : (ps.map Prod.fst).length = ps.length := List.length_map _
  rw [hlm] at hk hl
  have k0 : w.cell? ⟨b, 0, none⟩ = some (.slice (some ⟨sb, 0, none⟩) ps.length sc) := hs1.cell 0
  have c0 := hs1.swap.ownCell (j := k * 4) (pk_get hxv 0 (by omega))
  have c1 := hs1.swap.ownCell (j := k * 4 + 1) (pk_get hxv 1 (by omega))
  have c2 := hs1.swap.ownCell (j := k * 4 + 2) (pk_get hxv 2 (by omega))
  have c3 := hs1.swap.ownCell (j := k * 4 + 3) (pk_get hxv 3 (by omega))
  have hpos : 0 < ps.length := by omega
  have hk1 : (k : Int) < ps.length := by omega
  have hl2 : ¬ 512 ≤ ps.length := by omega
  have Hk := Lib.hid hk
  have K0 := Lib.hid k0
  have HR := Lib.hid hR
  have Hlm := Lib.hid hlm
  clear hk hx hxv hR hps hlm
  go_enter Try.func9, Try.ntmps9
  go_wp2_with (first
    | (go_at_call 17; refine (at_some _ _ _ _ _ _ K0.out hpos (by omega)).mono ?_; rintro e w' ⟨rfl, rfl⟩; rw [Hk.out])
    | (go_at_call 7; refine send_any (x := x) hs (by rw [Hlm.out]; omega) (hx2.row hs) hx3 ?_; intro w1 g1 hg hs2; rw [Hlm.out] at hs2))
  refine HR.out w1 g1 hg ?_
  rw [show ps.length + 1 - 512 = 0 by omega] at hs2
  exact hs2

theorem peek_none {R : Ending → World → Prop} {W w : World} {g : Hl} {H : List HP} {b : Nat} {i : Int} (hs : Sat W w g (post b [] :: H))
    (hR : ∀ w', Sat W w' g (post b [] :: H) → R (.returned (.tuple #[.agg #[.int .i64 0, .int .i64 0, .slice none 0 0, .bool false], .int .i64 2])) w') :
    Calls Try.prog 11 #[.pointer (some ⟨b, 0, none⟩), .int .i64 i] w R := by
  have hs1 := hs.garbage (.cells #[.int .i64 0, .int .i64 0, .slice none 0 0, .bool false] 31)
  obtain ⟨a, c, h⟩ := post_cells hs1
  have HR := Lib.hid hR
  have H0 := Lib.hid h
  clear hR h
  go_enter Try.func11, Try.ntmps11
  go_wp2_with (go_at_call 17; refine (at_none _ _ _ _ _ H0.out).mono ?_; rintro e w' ⟨rfl, rfl⟩)
  refine bodyPost_ret (v := .tuple #[.agg #[.int .i64 0, .int .i64 0, .slice none 0 0, .bool false], .int .i64 2]) (by simp [results, Try.results11, go_sem]) rfl (HR.out _ hs1)

set_option maxRecDepth 100000 in
/-- Peek: its bytes are the caller's own. -/
theorem peek_some {R : Ending → World → Prop} {W w : World} {g : Hl} {H : List HP} {b : Nat} {i : Int} {l : List Pk} {k : Nat} {x : Pk} (hs : Sat W w g (post b l :: H)) (hk : idx i l.length = k) (hx : l[k]? = some x) (hl : l.length ≤ 512)
    (hR : ∀ w' a c, Sat W w' g (own 5 1 (.slice a x.p.length c) x.p.length (bs x.p) :: post b l :: H) → x.p.length ≤ 1000 → R (.returned (.tuple #[.agg #[.int .i64 x.frm, .int .i64 x.dst, .slice a x.p.length c, .bool x.bent], .int .i64 0])) w') :
    Calls Try.prog 11 #[.pointer (some ⟨b, 0, none⟩), .int .i64 i] w R := by
  obtain ⟨sb, sc, ps, v, rfl, hps, hxv, hx2, hx3, hsc, hscm, hs1⟩ := post_at hs hx
  obtain ⟨hlt, _⟩ := List.getElem?_eq_some_iff.1 hxv
  obtain ⟨xa, xc, rfl, _, _⟩ := hx2.len
  have hlm : (ps.map Prod.fst).length = ps.length := List.length_map _
  rw [hlm] at hk hl
  have k0 : w.cell? ⟨b, 0, none⟩ = some (.slice (some ⟨sb, 0, none⟩) ps.length sc) := hs1.cell 0
  have c0 := hs1.swap.ownCell (j := k * 4) (pk_get hxv 0 (by omega))
  have c1 := hs1.swap.ownCell (j := k * 4 + 1) (pk_get hxv 1 (by omega))
  have c2 := hs1.swap.ownCell (j := k * 4 + 2) (pk_get hxv 2 (by omega))
  have c3 := hs1.swap.ownCell (j := k * 4 + 3) (pk_get hxv 3 (by omega))
  have hbz := hs1.blt
  have hsz : sb < w.heap.size := World.block_lt_of_cell? _ _ c0
  have hs2 := (hs.allocAt w.heap.size [.int .i64 0, .int .i64 0, .slice none 0 0, .bool false] 31 rfl)
  have hs3 := hs2.allocAt (w.heap.size + 1) [.int .i64 x.frm, .int .i64 x.dst, .slice xa x.p.length xc, .bool x.bent] 31 (by simp)
  have K0 : Hid ((w.alloc (.cells #[.int .i64 0, .int .i64 0, .slice none 0 0, .bool false] 31)).cell? ⟨b, 0, none⟩ = some (.slice (some ⟨sb, 0, none⟩) ps.length sc)) := (hs1.allocAt w.heap.size [.int .i64 0, .int .i64 0, .slice none 0 0, .bool false] 31 rfl).swap.cell 0
  have hpos : 0 < ps.length := by omega
  have hk1 : (k : Int) < ps.length := by omega
  have Hk := Lib.hid hk
  have HR := Lib.hid hR
  clear hk hx hxv hR hps hlm
  go_enter Try.func11, Try.ntmps11
  go_wp2_with (first
    | (go_at_call 17; refine (at_some _ _ _ _ _ _ K0.out hpos (by omega)).mono ?_; rintro e w' ⟨rfl, rfl⟩; rw [Hk.out])
    | (go_at_call 15; refine clone_sl hs3 (hx2.row hs3) (by omega) ?_; intro v3 w3 hs4 hnil; clear hnil; obtain ⟨a3, c3', rfl, hc31, hc32, hc33⟩ := hs4.ownLen; have HC := Lib.hid hc33; clear hc33; have e0 := hs4.swap.cell 0; have e1 := hs4.swap.cell 1; have e2 := hs4.swap.cell 2; have e3 := hs4.swap.cell 3; have f2 := hs4.swap.free 2; have g0 := hs4.pull2.cell 0; have g1 := hs4.pull2.cell 1; have g2 := hs4.pull2.cell 2; have g3 := hs4.pull2.cell 3; have f4 := hs4.pull2.free 0; have f5 := hs4.pull2.free 1; have f6 := hs4.pull2.free 2; have f7 := hs4.pull2.free 3))
  have hs5 := (((((hs4.swap.set 2 (.slice a3 x.p.length c3')).pull2.set 0 (.int .i64 x.frm)).set 1 (.int .i64 x.dst)).set 2 (.slice a3 x.p.length c3')).set 3 (.bool x.bent))
  have hs6 := hs5.drop.drop
  exact ret_cell_tmp Try.results11 hs5.block agg_pk rfl rfl rfl rfl (HR.out _ _ _ hs6 hx3)

end Go.Proofs.Ytpnfckdjggigpaa
