/-
  Layer 19 (post): PostMost: the walk.
-/
import Derived.Test.YtpnfckdjggigpaaPf
namespace Go.Proofs.Ytpnfckdjggigpaa
open Go.RowKit

/-- What is under way behind so many sends. -/
def win (j : Nat) : List Pk := ((List.range j).map pk).drop (j - 512)
theorem win_length (j : Nat) : (win j).length = min j 512 := by simp [win]; omega
theorem win_succ (j : Nat) : (win j ++ [pk j]).drop ((win j).length + 1 - 512) = win (j + 1) := by
  rw [win_length]
  unfold win
  rw [List.range_succ, List.map_append, List.map_cons, List.map_nil]
  by_cases h : j < 512
  · rw [show min j 512 + 1 - 512 = 0 by omega, show j - 512 = 0 by omega, show j + 1 - 512 = 0 by omega]
    rfl
  · rw [show min j 512 + 1 - 512 = 1 by omega, show j + 1 - 512 = (j - 512) + 1 by omega, ← List.drop_drop, ← List.drop_append_of_le_length (by simp)]
theorem win_get (j i : Nat) (hi : i < min j 512) : (win j)[i]? = some (pk (j - 512 + i)) := by
  have : j - 512 + i < j := by omega
  simp [win, this]

set_option maxRecDepth 100000 in
theorem most_any {R : Ending → World → Prop} {W w : World} {g : Hl} {H : List HP} (n : Nat) (hn : n < 65536) (hs : Sat W w g H) (hR : ∀ w' g', Hl.le g g' → Sat W w' g' H → R (.returned (.bool true)) w') :
    Calls Try.prog 3 #[.int .u16 n] w R := by
  have HR := Lib.hid hR
  obtain ⟨m, hm, hm2⟩ : ∃ m : Nat, (n : Int) % 200 = (m : Int) ∧ m < 200 := ⟨n % 200, by omega, by omega⟩
  clear hR
  go_enter Try.func3, Try.ntmps3
  go_wp2_with fail
  refine awake_any hs ?_
  intro w1 g1 hg1 hs1
  have hs2 := post_new (hs1.allocAt w1.heap.size [.slice none 0 0] 27 rfl)
  generalize hb : w1.heap.size = b at hs2
  have Hb := Lib.hid hb
  clear hb
  go_wp2_with fail
  rw [Hb.out]
  clear hm
  go_loopw [5] (fun i wr => ∃ j : Nat, j ≤ 400 + m ∧ i = .int .i64 j ∧ ∃ g', Hl.le g g' ∧ Sat W wr g' (post b (win j) :: H)) (fun i _ => 400 + m - (intOf i).toNat)
  case atStart => exact ⟨0, by omega, rfl, g1, hg1, hs2⟩
  case round =>
    obtain ⟨j, hj, rfl, g2, hg2, hs3⟩ := hrel
    by_cases hlt : j < 400 + m
    · go_wp2_with fail
      refine packet_any j (by rfl) hs3 (by omega) ?_
      intro w4 g4 v4 hg4 hs4 hv4
      go_wp2_with fail
      refine send_any (x := pk j) hs4 (by rw [win_length]; omega) (hv4.row hs4) (by simp) ?_
      intro w5 g5 hg5 hs5
      go_wp2
      go_roundw
      case rel => exact ⟨j + 1, by omega, by go_num, g5, (hg2.trans hg4).trans hg5, by rw [← win_succ]; exact hs5⟩
      case measure => simp [intOf]; omega
    · obtain rfl : j = 400 + m := by omega
      have i0 : ∀ n, idx 0 n = 0 := fun n => by simp [idx]
      have I0 := Lib.hid i0
      clear i0
      by_cases hlt : m < 112
      · have h5 : ¬ (512 : Int) < 400 + (m : Int) := by omega
        have h6 : (400 : Int) + (m : Int) < 512 := by omega
        go_wp2_with fail
        refine double_some (k := 0) (x := pk 0) hs3 (by rw [I0.out]) (by rw [win_get _ _ (by omega)]; congr 2; omega) (by rw [win_length]; omega) ?_
        intro w4 g4 hg4 hs4
        go_wp2_with fail
        refine take_some (k := 0) (x := pk 0) hs4 (by rw [I0.out]) (by rw [List.getElem?_append_left (by rw [win_length]; omega), win_get _ _ (by omega)]; congr 2; omega) (by rw [List.length_append, win_length]; simp; omega) ?_
        intro w6 a6 c6 hs6 hv6
        go_wp2
        exact HR.out _ g4 (hg2.trans hg4) (hs6.garbage _).drop
      · by_cases he : m = 112
        · subst he
          go_wp2_with fail
          refine double_full hs3 (by rw [win_length]; omega) ?_
          go_wp2_with fail
          refine take_some (k := 0) (x := pk 0) hs3 (by rw [I0.out]) (by rw [win_get _ _ (by omega)]) (by rw [win_length]; omega) ?_
          intro w6 a6 c6 hs6 hv6
          go_wp2
          exact HR.out _ g2 hg2 (hs6.garbage _).drop
        · have h5 : (512 : Int) < 400 + (m : Int) := by omega
          have h6 : ¬ (400 : Int) + (m : Int) < 512 := by omega
          have h7 : decide ((400 : Int) + (m : Int) < 512) = false := decide_eq_false h6
          go_wp2_with fail
          refine double_full hs3 (by rw [win_length]; omega) ?_
          go_wp2_with fail
          refine take_some (k := 0) (x := pk (m - 112)) hs3 (by rw [I0.out]) (by rw [win_get _ _ (by omega)]; congr 2; omega) (by rw [win_length]; omega) ?_
          intro w6 a6 c6 hs6 hv6
          have e : ((m - 112 : Nat) : Int) = 400 + (m : Int) - 512 := by omega
          go_wp2
          exact HR.out _ g2 hg2 (hs6.garbage _).drop

end Go.Proofs.Ytpnfckdjggigpaa
