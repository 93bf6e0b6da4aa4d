/-
  Layer 19 (post): PostKeeps: the walk.
-/
import Derived.Test.YtpnfckdjggigpaaPf
import Derived.Lib.SlBytesConst
namespace Go.Proofs.Ytpnfckdjggigpaa
open Go.RowKit

set_option maxRecDepth 100000 in
theorem keeps_long {R : Ending → World → Prop} {W w : World} {g : Hl} {H : List HP} {v : Value} {n : Nat} {l : List UInt8} (i b : Int) (hs : Sat W w g H) (hp : Pr 1 g v n (bs l)) (hn : 200 < n) (hR : ∀ w' g', Hl.le g g' → Sat W w' g' H → R (.returned (.bool true)) w') :
    Calls Try.prog 5 #[v, .int .i64 i, .int .i64 b] w R := by
  have HR := Lib.hid hR
  clear hR
  obtain ⟨a, c, rfl, hc1, hc2⟩ := hp.len
  have hn2 : (200 : Int) < n := by omega
  go_enter Try.func5, Try.ntmps5
  go_wp2_with fail
  refine awake_any hs ?_
  intro w1 g1 hg1 hs1
  go_wp2_with fail
  refine awake_any hs1 ?_
  intro w2 g2 hg2 hs2
  go_wp2
  exact HR.out _ g2 (hg1.trans hg2) hs2

theorem keeps_q {W w : World} {g : Hl} {H : List HP} {v : Value} {n : Nat} {l : List UInt8} (hs : Sat W w g (own 5 1 v n (bs l) :: H)) (hl : l.length = n) (hn : 0 < n) :
    ∃ qb qc Q, v = .slice (some ⟨qb, 0, none⟩) n qc ∧ Wr Q qb ∧ Sat W w g (Q :: H) ∧ Row 1 w (fun _ => True) (.slice (some ⟨qb, 0, none⟩) n qc) n (bs l) := by
  obtain ⟨a, c, rfl, h1, h2, h3⟩ := hs.ownLen
  rcases h3 with rfl | ⟨qb, rfl⟩
  · rcases hs.owns.2 with ⟨_, e⟩ | ⟨_, _, _, e, _⟩
    · omega
    · cases e
  · exact ⟨qb, c, _, rfl, wr_own hn (by simp [hl]), hs, Row.of_owns hs.owns fun _ _ => trivial⟩

theorem x_string (l : List UInt8) : (120 :: l = (({ data := #[120] } : ByteArray) ++ { data := l.toArray }).toList) = True := by
  rw [ByteArray.toList_eq]
  simp
theorem x_string2 (l : List UInt8) : (120 :: l == (({ data := #[120] } : ByteArray) ++ { data := l.toArray }).toList) = true := by
  rw [beq_iff_eq]
  exact of_eq_true (x_string l)

set_option maxHeartbeats 1600000 in
set_option maxRecDepth 100000 in
theorem keeps_any {R : Ending → World → Prop} {W w : World} {g : Hl} {H : List HP} {v : Value} {n : Nat} {l : List UInt8} (i b : Int) (hs : Sat W w g H) (hp : Pr 1 g v n (bs l)) (hl : l.length = n) (hn : n ≤ 200) (hR : ∀ w' g', Hl.le g g' → Sat W w' g' H → R (.returned (.bool true)) w') :
    Calls Try.prog 5 #[v, .int .i64 i, .int .i64 b] w R := by
  have HR := Lib.hid hR
  have Hl := Lib.hid hl
  clear hR hl
  obtain ⟨a, c, rfl, hc1, hc2⟩ := hp.len
  have hn2 : ¬ (200 : Int) < n := by omega
  have kc := fun (w : World) (C : Array Value) (n c : Nat) => Lib.run_convert_bytes_const (P := Try.prog) w 29 5 C n c Try.underlying29 Try.underlying5
  go_enter Try.func5, Try.ntmps5
  go_wp2_with fail
  refine awake_any hs ?_
  intro w1 g1 hg1 hs1
  go_upto_region 3 with fail
  go_cut [7] (fun s7 wx => ∃ qb qc Q, s7 = .slice (some ⟨qb, 0, none⟩) (1 + n) qc ∧ Wr Q qb ∧ Sat W wx g1 (Q :: H) ∧ Row 1 wx (fun _ => True) (.slice (some ⟨qb, 0, none⟩) (1 + n) qc) (1 + n) (bs (120 :: l)))
  case first =>
    have hp1 := hp.mono hg1
    have hsM := hs1.alloc (.cells #[.int .u8 120] 5 (1, 2))
    have HpM := Lib.hid (hp1.row hsM)
    have HsM := Lib.hid hsM
    clear hsM
    have Hc := Lib.hid (alloc_cells w1 (bs [120]) 5 (1, 2))
    have H5 : Hid (1 + n ≤ maxLen ∧ (1 + n) * 1 ≤ 140737488355328) := ⟨by unfold maxLen; omega, by omega⟩
    by_cases h0 : 0 < n
    · go_wp2_with (at_builtin; refine app_full (b := ⟨w1.heap.size, 0, none⟩) (n := 1) (olds := bs [120]) rfl (.tmp 31) (.tmp 32) el_u8 rfl rfl rfl HsM.out rfl Hc.out HpM.out (bs_one l) h0 H5.out.1 H5.out.2 ?_; intro v2 w2 hs2)
      go_meet
      rw [show bs [120] ++ bs l = bs (120 :: l) from (bs_append _ _).symm] at hs2
      exact keeps_q hs2.swap.drop (by simp [Hl.out]; omega) (by omega)
    · obtain rfl : n = 0 := by omega
      have e0 : l = [] := List.eq_nil_of_length_eq_zero Hl.out
      go_wp2_with (at_builtin; refine app_nothing (b := some ⟨w1.heap.size, 0, none⟩) (n := 1) (c := 1) rfl (.tmp 31) (.tmp 32) el_u8 rfl rfl (Nat.le_refl _) rfl HpM.out ?_)
      go_meet
      refine ⟨w1.heap.size, 1, _, rfl, wr_obj (by decide) (by decide), HsM.out, ?_⟩
      rw [e0]
      exact ⟨rfl, _, 1, rfl, by omega, by decide, fun e => by simp at e, .inr ⟨_, 0, _, _, _, rfl, trivial, heap_alloc_new w1 _, by simp [bs]⟩⟩
  case rest =>
    obtain ⟨qb, qc, Q, rfl, hQ, hs2, hq⟩ := hcut
    have hs3 := post_new (hs2.allocAt wc.heap.size [.slice none 0 0] 27 rfl)
    generalize hb : wc.heap.size = pb at hs3
    have Hb := Lib.hid hb
    clear hb
    have hlen : (120 :: l).length = 1 + n := by simp [Hl.out]; omega
    have hq2 : Row 1 (wc.alloc (.cells #[.slice none 0 0] 27)) (fun _ => True) (.slice (some ⟨qb, 0, none⟩) (1 + n) qc) (Pk.mk 0 0 (120 :: l) false).p.length (bs (120 :: l)) := by
      show Row 1 _ _ _ (120 :: l).length _
      rw [hlen]
      exact hq.alloc _
    have Hlen := Lib.hid hlen
    clear hlen
    go_wp2_with fail
    rw [Hb.out]
    refine send_any (x := ⟨0, 0, 120 :: l, false⟩) hs3 (by simp) hq2 (by show (120 :: l).length ≤ 1000; rw [Hlen.out]; omega) ?_
    intro w3 g3 hg3 hs4
    obtain ⟨⟨q0, k0⟩, k1, k2⟩ := hQ _ _ _ _ hs4.swap
    have hs5 := k2 (.int .u8 121)
    clear k2
    have hn5 : (0 : Int) < 1 + n := by omega
    go_wp2_with fail
    have J0 : Hid (∀ m, idx 0 m = 0) := fun n => by simp [idx]
    refine peek_some (k := 0) (x := ⟨0, 0, 120 :: l, false⟩) hs5 (J0.out _) rfl (by simp) ?_
    intro w4 a4 c4 hs6 hx4
    rw [show (Pk.mk 0 0 (120 :: l) false).p.length = 1 + n from Hlen.out] at hs6 ⊢
    obtain ⟨vb, rfl⟩ : ∃ vb, a4 = some ⟨vb, 0, none⟩ := by
      obtain ⟨_, _, _, e, _⟩ := keeps_q hs6 (by exact Hlen.out) (by omega)
      simp only [Value.slice.injEq] at e
      exact ⟨_, e.1⟩
    have z0 : w4.cell? ⟨vb, 0, none⟩ = some (.int .u8 (120 : Int)) := hs6.ownCell (by rfl)
    have z1 := hs6.ownFree 0
    have z2 : vb < w4.heap.size := World.block_lt_of_cell? _ _ z0
    have hs8 := ((hs6.setOwn 0 (.int .u8 122)).allocAt w4.heap.size [.int .i64 0, .int .i64 0, .slice (some ⟨vb, 0, none⟩) (1 + n) c4, .bool false] 31 (by simp)).swap.drop.swap
    go_wp2_with fail
    refine double_some (k := 0) (x := ⟨0, 0, 120 :: l, false⟩) hs8 (J0.out _) rfl (by simp) ?_
    intro w5 g5 hg5 hs9
    go_wp2_with fail
    refine bend_some (k := 0) (x := ⟨0, 0, 120 :: l, false⟩) hs9 (J0.out _) rfl (by simp) rfl ?_
    intro w6 g6 hg6 hs10
    go_wp2_with fail
    refine take_some (k := 1) (x := ⟨0, 0, 120 :: l, false⟩) hs10 (by simp [idx]) rfl (by simp) ?_
    intro w7 a7 c7 hs11 hv7
    rw [show (Pk.mk 0 0 (120 :: l) false).p.length = 1 + n from Hlen.out] at hv7 ⊢
    have t0 := hs11.swap.cell 0
    have t1 := hs11.swap.cell 1
    have t2 := hs11.swap.cell 2
    have t3 := hs11.swap.cell 3
    have t4 := hs11.swap.blt
    go_wp2_with fail
    refine send_nil (hs11.allocAt w7.heap.size [.int .i64 0, .int .i64 0, .slice a7 (1 + n) c7, .bool false] 31 rfl) ?_
    intro w8 hs12
    go_wp2_with fail
    refine take_nil hs12 ?_
    intro w9 hs13
    go_wp2_with fail
    refine peek_nil (hs13.garbage _) ?_
    intro w10 hs14
    have hs15 := post_new ((hs14.garbage (.cells #[.int .i64 0, .int .i64 0, .slice none 0 0, .bool false] 31)).allocAt (w10.heap.size + 1) [.slice none 0 0] 27 (by simp))
    go_wp2_with fail
    refine send_any (x := ⟨0, 0, [], false⟩) hs15 (by simp) (Row.nil _ (fun _ => True)) (by simp) ?_
    intro w11 g11 hg11 hs16
    go_wp2_with fail
    refine bend_some (k := 0) (x := ⟨0, 0, [], false⟩) hs16 (by simp [idx]) rfl (by simp) rfl ?_
    intro w12 g12 hg12 hs17
    go_wp2_with fail
    refine take_some (k := 0) (x := ⟨0, 0, [], true⟩) hs17 (J0.out _) (by simp [bendB]) (by simp) ?_
    intro w13 a13 c13 hs18 hv13
    have t5 := hs18.swap.cell 2
    have t6 := hs18.swap.blt
    have hs19 := hs18.garbage (.cells #[.int .i64 0, .int .i64 0, .slice a13 0 c13, .bool true] 31)
    have hv8 := hv7.mono (hg11.trans hg12)
    have s1 := run_string Try.underlying29 Try.underlying5 Try.underlying9 (hv8.row hs19)
    have s2 := run_string Try.underlying29 Try.underlying5 Try.underlying9 (((hp.mono hg1).mono (hg3.trans ((hg5.trans hg6).trans (hg11.trans hg12)))).row hs19)
    have hse := x_string l
    have hse2 := x_string2 l
    have hsz : ¬ 9223372036854775807 < 1 + l.length := by rw [Hl.out]; omega
    go_wp2_with fail
    refine double_nil ?_
    go_wp2_with fail
    refine bend_nil ?_
    go_wp2_with (go_at_call 14; refine (len_nil _).mono ?_; rintro e w' ⟨rfl, rfl⟩)
    exact HR.out _ g12 (hg1.trans (hg3.trans ((hg5.trans hg6).trans (hg11.trans hg12)))) hs19.drop.drop.drop.drop

end Go.Proofs.Ytpnfckdjggigpaa
