/-
  Layer 19 (post): packet, Take, Double, Peek, Bend.
-/
import Derived.Test.YtpnfckdjggigpaaPb
namespace Go.Proofs.Ytpnfckdjggigpaa
open Go.RowKit

theorem agg_pk : AggOf Try.prog 31 4 := ⟨_, Try.underlying31, rfl, by kernel_rfl⟩

theorem u8_wrap (k : Nat) : IntKind.u8.wrap (k : Int) = ((UInt8.ofNat k).toNat : Int) := by
  simp [IntKind.wrap, IntKind.bits, IntKind.signed]

theorem packet_any {R : Ending → World → Prop} {W w : World} {g : Hl} {H : List HP} (k : Nat) {ki : Int} (hk : ki = k) (hs : Sat W w g H) (hn : k ≤ 100000)
    (hR : ∀ w' g' v, Hl.le g g' → Sat W w' g' H → Pr 1 g' v 2 (bs [UInt8.ofNat k, 9]) → R (.returned (.agg #[.int .i64 k, .int .i64 (k + 1), v, .bool false])) w') :
    Calls Try.prog 8 #[.int .i64 ki] w R := by
  subst hk
  have HR := Lib.hid hR
  clear hR
  go_enter Try.func8, Try.ntmps8
  go_wp2
  obtain ⟨g', hg, hv, hs2⟩ := (((hs.garbage _).allocAt (w.heap.size + 1) [.int .u8 ((k : Int) % 256), .int .u8 9] 5 (by simp)).blkOwn (size := 1) 2 rfl (by decide)).publishOwn
  refine bodyPost_ret (v := .agg #[.int .i64 k, .int .i64 (k + 1), .slice (some ⟨w.heap.size + 1, 0, none⟩) 2 2, .bool false]) (by simp [results, Try.results8, go_sem]) rfl (HR.out _ g' _ hg hs2 ?_)
  have e : (k : Int) % 256 = ((UInt8.ofNat k).toNat : Int) := by simp
  rw [e] at hv
  exact hv

theorem post_cells {W w : World} {g : Hl} {H : List HP} {b : Nat} {l : List Pk} (hs : Sat W w g (post b l :: H)) : ∃ a c, w.cell? ⟨b, 0, none⟩ = some (.slice a l.length c) := by
  obtain ⟨sv, ps, rfl, hps, hs1⟩ := post_open hs
  obtain ⟨sa, sc, rfl, hsc, hscm, hsa⟩ := hs1.swap.ownLen
  exact ⟨sa, sc, by simpa using hs1.cell 0⟩

theorem len_any {R : Ending → World → Prop} {W w : World} {g : Hl} {H : List HP} {b : Nat} {l : List Pk} (hs : Sat W w g (post b l :: H)) (hR : R (.returned (.int .i64 l.length)) w) :
    Calls Try.prog 14 #[.pointer (some ⟨b, 0, none⟩)] w R := by
  obtain ⟨a, c, h⟩ := post_cells hs
  refine (len_some _ _ _ _ _ h).mono ?_
  rintro e w' ⟨rfl, rfl⟩
  exact hR

/-- Reading one packet of the row. -/
theorem pk_at {ps : List (Pk × Value)} {i : Nat} (hi : i < ps.length) (j : Nat) (hj : j < 4) : (pkCells ps)[i * 4 + j]? = ((ps[i]'hi).1.cells (ps[i]'hi).2)[j]? := by
  induction ps generalizing i with
  | nil => simp at hi
  | cons a r ih =>
    simp only [pkCells, List.flatMap_cons] at *
    cases i with
    | zero =>
      rw [List.getElem?_append_left (by simp [Pk.cells]; omega)]
      simp
    | succ i =>
      rw [List.getElem?_append_right (by simp [Pk.cells]; omega)]
      have := ih (i := i) (by simpa using hi)
      rw [show (i + 1) * 4 + j - (a.1.cells a.2).length = i * 4 + j by simp [Pk.cells]; omega]
      rw [this]; rfl

theorem pk_get {ps : List (Pk × Value)} {i : Nat} {x : Pk} {v : Value} (h : ps[i]? = some (x, v)) (j : Nat) (hj : j < 4) : (pkCells ps)[i * 4 + j]? = (x.cells v)[j]? := by
  obtain ⟨hi, e⟩ := List.getElem?_eq_some_iff.1 h
  rw [pk_at hi j hj, e]

theorem take_none {R : Ending → World → Prop} {W w : World} {g : Hl} {H : List HP} {b : Nat} {i : Int} (hs : Sat W w g (post b [] :: H))
    (hR : ∀ w', Sat W w' g (post b [] :: H) → R (.returned (.tuple #[.agg #[.int .i64 0, .int .i64 0, .slice none 0 0, .bool false], .int .i64 2])) w') :
    Calls Try.prog 10 #[.pointer (some ⟨b, 0, none⟩), .int .i64 i] w R := by
  have hs1 := hs.garbage (.cells #[.int .i64 0, .int .i64 0, .slice none 0 0, .bool false] 31)
  obtain ⟨a, c, h⟩ := post_cells hs1
  have HR := Lib.hid hR
  have H0 := Lib.hid h
  clear hR h
  go_enter Try.func10, Try.ntmps10
  go_wp2_with (go_at_call 17; refine (at_none _ _ _ _ _ H0.out).mono ?_; rintro e w' ⟨rfl, rfl⟩)
  refine bodyPost_ret (v := .tuple #[.agg #[.int .i64 0, .int .i64 0, .slice none 0 0, .bool false], .int .i64 2]) (by simp [results, Try.results10, go_sem]) rfl (HR.out _ hs1)

/-- A post that isn't empty, laid open at one place. -/
theorem post_at {W w : World} {g : Hl} {H : List HP} {b : Nat} {l : List Pk} {k : Nat} {x : Pk} (hs : Sat W w g (post b l :: H)) (hx : l[k]? = some x) :
    ∃ sb sc ps v, ps.map Prod.fst = l ∧ (∀ x ∈ ps, Pr 1 g x.2 x.1.p.length (bs x.1.p) ∧ x.1.p.length ≤ 1000) ∧ ps[k]? = some (x, v) ∧ Pr 1 g v x.p.length (bs x.p) ∧ x.p.length ≤ 1000 ∧ ps.length ≤ sc ∧ sc ≤ 9223372036854775807 ∧
      Sat W w g (blk b [.slice (some ⟨sb, 0, none⟩) ps.length sc] 27 :: own 31 4 (.slice (some ⟨sb, 0, none⟩) ps.length sc) ps.length (pkCells ps) :: H) := by
  obtain ⟨sv, ps, rfl, hps, hs1⟩ := post_open hs
  obtain ⟨sa, sc, rfl, hsc, hscm, hsa⟩ := hs1.swap.ownLen
  obtain ⟨⟨x', v⟩, h1, rfl⟩ : ∃ q, ps[k]? = some q ∧ q.1 = x := by simpa using hx
  have hlt := (List.getElem?_eq_some_iff.1 h1).1
  rcases hsa with rfl | ⟨sb, rfl⟩
  · rcases hs1.swap.owns.2 with ⟨_, e⟩ | ⟨_, _, _, e, _⟩
    · omega
    · cases e
  · exact ⟨sb, sc, ps, v, rfl, hps, h1, (hps _ (List.mem_of_getElem? h1)).1, (hps _ (List.mem_of_getElem? h1)).2, hsc, hscm, hs1⟩

theorem take_some {R : Ending → World → Prop} {W w : World} {g : Hl} {H : List HP} {b : Nat} {i : Int} {l : List Pk} {k : Nat} {x : Pk} (hs : Sat W w g (post b l :: H)) (hk : idx i l.length = k) (hx : l[k]? = some x) (hl : l.length ≤ 512)
    (hR : ∀ w' a c, Sat W w' g (post b (l.take k ++ l.drop (k + 1)) :: H) → Pr 1 g (.slice a x.p.length c) x.p.length (bs x.p) → R (.returned (.tuple #[.agg #[.int .i64 x.frm, .int .i64 x.dst, .slice a x.p.length c, .bool x.bent], .int .i64 0])) w') :
    Calls Try.prog 10 #[.pointer (some ⟨b, 0, none⟩), .int .i64 i] w R := by
  obtain ⟨sb, sc, ps, v, rfl, hps, hxv, hx2, hx3, hsc, hscm, hs1⟩ := post_at hs hx
  obtain ⟨hlt, _⟩ := List.getElem?_eq_some_iff.1 hxv
  obtain ⟨xa, xc, rfl, _, _⟩ := hx2.len
  simp only [List.length_map] at hk hl
  have hs2 := (hs1.allocAt w.heap.size [.int .i64 0, .int .i64 0, .slice none 0 0, .bool false] 31 rfl)
  have hs3 := hs2.allocAt (w.heap.size + 1) [.int .i64 x.frm, .int .i64 x.dst, .slice xa x.p.length xc, .bool x.bent] 31 (by simp)
  have k0 : w.cell? ⟨b, 0, none⟩ = some (.slice (some ⟨sb, 0, none⟩) ps.length sc) := hs1.cell 0
  have c0 := hs1.swap.ownCell (j := k * 4) (pk_get hxv 0 (by omega))
  have c1 := hs1.swap.ownCell (j := k * 4 + 1) (pk_get hxv 1 (by omega))
  have c2 := hs1.swap.ownCell (j := k * 4 + 2) (pk_get hxv 2 (by omega))
  have c3 := hs1.swap.ownCell (j := k * 4 + 3) (pk_get hxv 3 (by omega))
  have hbz := hs1.blt
  have hsz : sb < w.heap.size := World.block_lt_of_cell? _ _ c0
  have K0 : Hid ((w.alloc (.cells #[.int .i64 0, .int .i64 0, .slice none 0 0, .bool false] 31)).cell? ⟨b, 0, none⟩ = some (.slice (some ⟨sb, 0, none⟩) ps.length sc)) := hs2.swap.cell 0
  have hpos : 0 < ps.length := by omega
  have hk1 : (k : Int) < ps.length := by omega
  have Hk := Lib.hid hk
  have Hx := Lib.hid hx
  have Hxv := Lib.hid hxv
  have HR := Lib.hid hR
  have Hps := Lib.hid hps
  clear hk hx hxv hR hps
  go_enter Try.func10, Try.ntmps10
  go_wp2_with (first
    | (go_at_call 17; refine (at_some _ _ _ _ _ _ K0.out hpos (by omega)).mono ?_; rintro e w' ⟨rfl, rfl⟩; rw [Hk.out])
    | fail)
  refine delete_sl k (k + 1) (by rfl) (by omega) hs3.pull3 ?_ (by omega) (by omega) ?_
  · exact pkCells_one _ fun y hy => by
      obtain ⟨a, c, e, _⟩ := (Hps.out y hy).1.len
      exact ⟨a, _, c, e⟩
  intro v3 w3 hs4
  rw [show k + 1 - k = 1 by omega] at hs4
  obtain ⟨a3, c3', rfl, hc31, hc32, hc33⟩ := hs4.ownLen
  have d0 := hs4.pull3.cell 0
  have d1 := hs4.pull3.free 0
  have e0 := hs4.swap.cell 0
  have e1 := hs4.swap.cell 1
  have e2 := hs4.swap.cell 2
  have e3 := hs4.swap.cell 3
  have f0 := hs4.pull2.free 0
  have f1 := hs4.pull2.free 1
  have f2 := hs4.pull2.free 2
  have f3 := hs4.pull2.free 3
  have g0 := hs4.pull2.cell 0
  have g1 := hs4.pull2.cell 1
  have g2 := hs4.pull2.cell 2
  have g3 := hs4.pull2.cell 3
  have n1 := hs4.pull3.swap.drop.apart
  go_wp2
  have hs5 := ((((hs4.pull3.set 0 (.slice a3 (ps.length - 1) c3')).pull3.set 0 (.int .i64 x.frm)).set 1 (.int .i64 x.dst)).set 2 (.slice xa x.p.length xc)).set 3 (.bool x.bent)
  have hs6 := hs5.drop.pull2.drop
  rw [pkCells_take, pkCells_drop, ← pkCells_append] at hs6
  refine ret_cell_tmp Try.results10 hs5.block agg_pk rfl rfl rfl rfl (HR.out _ _ _ ?_ hx2)
  have hl2 : (ps.take k ++ ps.drop (k + 1)).length = ps.length - 1 := by simp; omega
  have := post_close (ps.take k ++ ps.drop (k + 1)) (fun y hy => Hps.out y (by rcases List.mem_append.1 hy with h | h; exact List.mem_of_mem_take h; exact List.mem_of_mem_drop h)) (by rw [hl2]; exact hs6)
  simpa using this

end Go.Proofs.Ytpnfckdjggigpaa
