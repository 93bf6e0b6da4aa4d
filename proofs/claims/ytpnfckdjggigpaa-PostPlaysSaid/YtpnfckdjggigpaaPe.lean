/-
  Layer 19 (post): Bend.
-/
import Derived.Test.YtpnfckdjggigpaaPd
namespace Go.Proofs.Ytpnfckdjggigpaa
open Go.RowKit

theorem bend_none {R : Ending → World → Prop} {W w : World} {g : Hl} {H : List HP} {b : Nat} {i place by' : Int} (hs : Sat W w g (post b [] :: H)) (hR : R (.returned (.int .i64 2)) w) :
    Calls Try.prog 13 #[.pointer (some ⟨b, 0, none⟩), .int .i64 i, .int .i64 place, .int .i64 by'] w R := by
  obtain ⟨a, c, h⟩ := post_cells hs
  have HR := Lib.hid hR
  have H0 := Lib.hid h
  clear hR h
  go_enter Try.func13, Try.ntmps13
  go_wp2_with (go_at_call 17; refine (at_none _ _ _ _ _ H0.out).mono ?_; rintro e w' ⟨rfl, rfl⟩)
  exact HR.out

set_option maxRecDepth 100000 in
theorem bend_old {R : Ending → World → Prop} {W w : World} {g : Hl} {H : List HP} {b : Nat} {i place by' : Int} {l : List Pk} {k : Nat} {x : Pk} (hs : Sat W w g (post b l :: H)) (hk : idx i l.length = k) (hx : l[k]? = some x) (hl : l.length ≤ 512) (hb : x.bent = true)
    (hR : R (.returned (.int .i64 10)) w) :
    Calls Try.prog 13 #[.pointer (some ⟨b, 0, none⟩), .int .i64 i, .int .i64 place, .int .i64 by'] w R := by
  obtain ⟨sb, sc, ps, v, rfl, hps, hxv, hx2, hx3, hsc, hscm, hs1⟩ := post_at hs hx
  obtain ⟨hlt, _⟩ := List.getElem?_eq_some_iff.1 hxv
  have hlm : (ps.map Prod.fst).length = ps.length := List.length_map _
  rw [hlm] at hk hl
  have k0 : w.cell? ⟨b, 0, none⟩ = some (.slice (some ⟨sb, 0, none⟩) ps.length sc) := hs1.cell 0
  have c3 := hs1.swap.ownCell (j := k * 4 + 3) (pk_get hxv 3 (by omega))
  simp only [hb] at c3
  have hpos : 0 < ps.length := by omega
  have hk1 : (k : Int) < ps.length := by omega
  have Hk := Lib.hid hk
  have K0 := Lib.hid k0
  have HR := Lib.hid hR
  clear hk hx hxv hR hps hlm hb
  go_enter Try.func13, Try.ntmps13
  go_wp2_with (go_at_call 17; refine (at_some _ _ _ _ _ _ K0.out hpos (by omega)).mono ?_; rintro e w' ⟨rfl, rfl⟩; rw [Hk.out])
  exact HR.out

/-- A byte of some bytes turned. -/
def bendT (by' : Int) : UInt8 := UInt8.ofNat (max ((by' % 18446744073709551616) % 256) 1).toNat
def bendB (p : List UInt8) (place by' : Int) : List UInt8 := p.set (idx place p.length) (p.getD (idx place p.length) 0 ^^^ bendT by')

theorem bs_set (p : List UInt8) (j : Nat) (u : UInt8) : bs (p.set j u) = (bs p).set j (.int .u8 u.toNat) := by simp [bs, List.map_set]

theorem pkCells_bend {ps : List (Pk × Value)} {k : Nat} {x : Pk} {v v' : Value} {p' : List UInt8} (h : ps[k]? = some (x, v)) :
    ((pkCells ps).set (k * 4 + 2) v').set (k * 4 + 3) (.bool true) = pkCells (ps.set k ({ x with p := p', bent := true }, v')) := by
  induction ps generalizing k with
  | nil => simp at h
  | cons a r ih =>
    cases k with
    | zero =>
      simp at h
      subst h
      simp [pkCells, Pk.cells]
    | succ k =>
      have h2 := ih (k := k) (by simpa using h)
      simp only [pkCells, List.flatMap_cons, List.set_cons_succ] at *
      rw [← h2, List.set_append_right _ _ (by simp [Pk.cells]; omega), List.set_append_right _ _ (by simp [Pk.cells]; omega)]
      simp only [Pk.cells, List.length_cons, List.length_nil]
      congr 3 <;> omega

theorem bend_end {W w : World} {g : Hl} {H : List HP} {b sb sc k : Nat} {x : Pk} {ps : List (Pk × Value)} {v v' : Value} (p' : List UInt8) (hp' : p'.length = x.p.length) (hx3 : x.p.length ≤ 1000)
    (hxv : ps[k]? = some (x, v)) (hps : ∀ x ∈ ps, Pr 1 g x.2 x.1.p.length (bs x.1.p) ∧ x.1.p.length ≤ 1000)
    (hs : Sat W w g (own 5 1 v' x.p.length (bs p') :: blk b [.slice (some ⟨sb, 0, none⟩) ps.length sc] 27 :: own 31 4 (.slice (some ⟨sb, 0, none⟩) ps.length sc) ps.length (pkCells ps) :: H)) :
    ∃ g', Hl.le g g' ∧ Sat W ((w.setCell ⟨sb, k * 4 + 2, none⟩ v').setCell ⟨sb, k * 4 + 3, none⟩ (.bool true)).drew g' (post b ((ps.map Prod.fst).set k { x with p := p', bent := true }) :: H) := by
  obtain ⟨g', hg, hv, hs2⟩ := ((hs.pull2.setOwn (k * 4 + 2) v').setOwn (k * 4 + 3) (.bool true)).swap.drew.publishOwn
  rw [pkCells_bend (p' := p') hxv] at hs2
  refine ⟨g', hg, ?_⟩
  have := post_close (ps.set k ({ x with p := p', bent := true }, v')) ?_ (by simpa using hs2.swap)
  · simpa [List.map_set] using this
  · intro y hy
    rcases List.mem_or_eq_of_mem_set hy with h | h
    · exact ⟨(hps y h).1.mono hg, (hps y h).2⟩
    · subst h
      exact ⟨by simpa [hp'] using hv, by simpa [hp'] using hx3⟩

set_option maxRecDepth 100000 in
theorem bend_some {R : Ending → World → Prop} {W w : World} {g : Hl} {H : List HP} {b : Nat} {i place by' : Int} {l : List Pk} {k : Nat} {x : Pk} (hs : Sat W w g (post b l :: H)) (hk : idx i l.length = k) (hx : l[k]? = some x) (hl : l.length ≤ 512) (hb : x.bent = false)
    (hR : ∀ w' g', Hl.le g g' → Sat W w' g' (post b (l.set k { x with p := bendB x.p place by', bent := true }) :: H) → R (.returned (.int .i64 0)) w') :
    Calls Try.prog 13 #[.pointer (some ⟨b, 0, none⟩), .int .i64 i, .int .i64 place, .int .i64 by'] w R := by
  obtain ⟨sb, sc, ps, v, rfl, hps, hxv, hx2, hx3, hsc, hscm, hs1⟩ := post_at hs hx
  obtain ⟨hlt, _⟩ := List.getElem?_eq_some_iff.1 hxv
  obtain ⟨xa, xc, rfl, _, _⟩ := hx2.len
  have hlm : (ps.map Prod.fst).length = ps.length := List.length_map _
  rw [hlm] at hk hl
  have k0 : w.cell? ⟨b, 0, none⟩ = some (.slice (some ⟨sb, 0, none⟩) ps.length sc) := hs1.cell 0
  have c2 := hs1.swap.ownCell (j := k * 4 + 2) (pk_get hxv 2 (by omega))
  have c3 := hs1.swap.ownCell (j := k * 4 + 3) (pk_get hxv 3 (by omega))
  simp only [hb] at c3
  have hpos : 0 < ps.length := by omega
  have hk1 : (k : Int) < ps.length := by omega
  have Hk := Lib.hid hk
  have K0 := Lib.hid k0
  have HR := Lib.hid hR
  have Hxv := Lib.hid hxv
  have Hps := Lib.hid hps
  clear hk hx hxv hR hps hlm hb
  go_enter Try.func13, Try.ntmps13
  go_wp2_with (first
    | (go_at_call 17; refine (at_some _ _ _ _ _ _ K0.out hpos (by omega)).mono ?_; rintro e w' ⟨rfl, rfl⟩; rw [Hk.out])
    | fail)
  refine clone_sl hs1 (hx2.row hs1) (by omega) ?_
  intro v3 w3 hs4 hnil
  clear hnil
  obtain ⟨a3, c3', rfl, hc31, hc32, hc33⟩ := hs4.ownLen
  by_cases hp : 0 < x.p.length
  · have hpi := idx_lt place hp
    obtain ⟨vb, rfl⟩ : ∃ vb, a3 = some ⟨vb, 0, none⟩ := by
      rcases hc33 with rfl | h
      · rcases hs4.owns.2 with ⟨_, e⟩ | ⟨_, _, _, e, _⟩
        · omega
        · cases e
      · exact h
    have hw := idx_wrap place hp (by omega)
    have hjn : idx place x.p.length < x.p.length := hpi
    have Hj : Hid (idx place x.p.length = idx place x.p.length) := rfl
    generalize hj : idx place x.p.length = j at hw hjn hpi
    have Hj := Lib.hid hj
    clear hj
    have hji : (j : Int) < x.p.length := by omega
    have u0 : w3.cell? ⟨vb, j, none⟩ = some (.int .u8 (x.p[j].toNat : Int)) := hs4.ownCell (by simp [bs, hjn])
    have u1 := hs4.ownFree j
    have u2 := hs4.swap.cell 0
    have u3 := hs4.swap.free 0
    have hs4' := hs4.pull2
    have ne1 : sb ≠ vb := hs4'.ne (at_own _ _ _ _ _ _) (at_own _ _ _ _ _ _)
    have ne2 : b ≠ vb := hs4.swap.ne (at_blk _ _ _) (at_own _ _ _ _ _ _)
    have ne3 : sb ≠ b := hs4'.pull2.swap.ne (at_own _ _ _ _ _ _) (at_blk _ _ _)
    have v2 := hs4'.ownCell (j := k * 4 + 2) (pk_get Hxv.out 2 (by omega))
    have v3 := hs4'.ownCell (j := k * 4 + 3) (pk_get Hxv.out 3 (by omega))
    have q2 := hs4'.ownFree (k * 4 + 2)
    have q3 := hs4'.ownFree (k * 4 + 3)
    have ub := x.p[j].toNat_lt
    have hpn : (0 : Int) < x.p.length := by omega
    obtain ⟨m, hm, hm2⟩ : ∃ m : Nat, (IntKind.u64.wrap by').tmod 256 = (m : Int) ∧ m < 256 := by
      have e : IntKind.u64.wrap by' = by' % 18446744073709551616 := by simp [IntKind.wrap, IntKind.bits, IntKind.signed]
      have h0 : 0 ≤ by' % 18446744073709551616 := Int.emod_nonneg _ (by decide)
      rw [e, Int.tmod_eq_emod_of_nonneg h0]
      exact ⟨((by' % 18446744073709551616) % 256).toNat, by omega, by omega⟩
    have hxor : Hid (bits .xor .u8 (x.p[j].toNat : Int) (max (m : Int) 1) = ((x.p[j] ^^^ bendT by').toNat : Int)) := by
      show _ = _
      have e1 : (bendT by').toNat = max m 1 := by
        have e : IntKind.u64.wrap by' = by' % 18446744073709551616 := by simp [IntKind.wrap, IntKind.bits, IntKind.signed]
        have h0 : 0 ≤ by' % 18446744073709551616 := Int.emod_nonneg _ (by decide)
        rw [e, Int.tmod_eq_emod_of_nonneg h0] at hm
        unfold bendT
        rw [hm, UInt8.toNat_ofNat']
        omega
      rw [show (max (m : Int) 1) = ((max m 1 : Nat) : Int) by omega, u8_xor_nat _ _ ub (by omega), UInt8.toNat_xor, e1]
    have hbend : Hid (bendB x.p place by' = x.p.set j (x.p[j] ^^^ bendT by')) := by
      show _ = _
      unfold bendB
      rw [Hj.out]
      simp [hjn]
    by_cases hm0 : m = 0
    · subst hm0
      go_wp2
      go_region
      all_goals go_wp2
      have hx := hxor.out
      rw [show max ((0 : Nat) : Int) 1 = 1 by omega] at hx
      rw [hx]
      obtain ⟨g', hg, hs5⟩ := bend_end (x.p.set j (x.p[j] ^^^ bendT by')) (by simp) hx3 Hxv.out Hps.out (by rw [bs_set]; exact hs4.setOwn j (.int .u8 (x.p[j] ^^^ bendT by').toNat))
      refine HR.out _ g' hg ?_
      rw [hbend.out]
      exact hs5
    · have hm3 : 1 ≤ m := by omega
      have hm4 : (1 : Int) ≤ m := by omega
      go_wp2
      go_region
      go_wp2
      have hx := hxor.out
      rw [show max (m : Int) 1 = m by omega] at hx
      rw [hx]
      obtain ⟨g', hg, hs5⟩ := bend_end (x.p.set j (x.p[j] ^^^ bendT by')) (by simp) hx3 Hxv.out Hps.out (by rw [bs_set]; exact hs4.setOwn j (.int .u8 (x.p[j] ^^^ bendT by').toNat))
      refine HR.out _ g' hg ?_
      rw [hbend.out]
      exact hs5
  · have hz : x.p.length = 0 := by omega
    have hs4' := hs4.pull2
    have u2 := hs4.swap.cell 0
    have u3 := hs4.swap.free 0
    have ne3 : sb ≠ b := hs4'.pull2.swap.ne (at_own _ _ _ _ _ _) (at_blk _ _ _)
    have v2 := hs4'.ownCell (j := k * 4 + 2) (pk_get Hxv.out 2 (by omega))
    have v3 := hs4'.ownCell (j := k * 4 + 3) (pk_get Hxv.out 3 (by omega))
    have q2 := hs4'.ownFree (k * 4 + 2)
    have q3 := hs4'.ownFree (k * 4 + 3)
    have Hz := Lib.hid hz
    clear hz
    go_wp2
    go_region
    go_wp2
    obtain ⟨g', hg, hs5⟩ := bend_end x.p rfl hx3 Hxv.out Hps.out hs4
    refine HR.out _ g' hg ?_
    have : bendB x.p place by' = x.p := by
      have h0 := List.eq_nil_of_length_eq_zero Hz.out
      simp [bendB, h0]
    rw [this]
    exact hs5

end Go.Proofs.Ytpnfckdjggigpaa
