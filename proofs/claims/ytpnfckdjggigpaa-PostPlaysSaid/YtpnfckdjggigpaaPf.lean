/-
  Layer 19 (post): the nil post; the law's example ('awake'); a packet against a line ('same').
-/
import Derived.Test.YtpnfckdjggigpaaPe
namespace Go.Proofs.Ytpnfckdjggigpaa
open Go.RowKit

theorem send_nil {R : Ending → World → Prop} {W w : World} {g : Hl} {H : List HP} {f d : Value} {v e : Value} (hs : Sat W w g H) (hR : ∀ w', Sat W w' g H → R (.returned (.tuple #[])) w') :
    Calls Try.prog 7 #[.pointer none, .agg #[f, d, v, e]] w R := by
  have HR := Lib.hid hR
  clear hR
  go_enter Try.func7, Try.ntmps7
  go_wp2
  refine bodyPost_ret (results_none rfl _ _ _) rfl ?_
  exact HR.out _ (hs.garbage _)

theorem take_nil {R : Ending → World → Prop} {W w : World} {g : Hl} {H : List HP} {i : Int} (hs : Sat W w g H)
    (hR : ∀ w', Sat W w' g H → R (.returned (.tuple #[.agg #[.int .i64 0, .int .i64 0, .slice none 0 0, .bool false], .int .i64 2])) w') :
    Calls Try.prog 10 #[.pointer none, .int .i64 i] w R := by
  have hs1 := hs.garbage (.cells #[.int .i64 0, .int .i64 0, .slice none 0 0, .bool false] 31)
  have HR := Lib.hid hR
  clear hR
  go_enter Try.func10, Try.ntmps10
  go_wp2_with (go_at_call 17; refine (at_nil _ _).mono ?_; rintro e w' ⟨rfl, rfl⟩)
  refine bodyPost_ret (v := .tuple #[.agg #[.int .i64 0, .int .i64 0, .slice none 0 0, .bool false], .int .i64 2]) (by simp [results, Try.results10, go_sem]) rfl (HR.out _ hs1)

theorem peek_nil {R : Ending → World → Prop} {W w : World} {g : Hl} {H : List HP} {i : Int} (hs : Sat W w g H)
    (hR : ∀ w', Sat W w' g H → R (.returned (.tuple #[.agg #[.int .i64 0, .int .i64 0, .slice none 0 0, .bool false], .int .i64 2])) w') :
    Calls Try.prog 11 #[.pointer none, .int .i64 i] w R := by
  have hs1 := hs.garbage (.cells #[.int .i64 0, .int .i64 0, .slice none 0 0, .bool false] 31)
  have HR := Lib.hid hR
  clear hR
  go_enter Try.func11, Try.ntmps11
  go_wp2_with (go_at_call 17; refine (at_nil _ _).mono ?_; rintro e w' ⟨rfl, rfl⟩)
  refine bodyPost_ret (v := .tuple #[.agg #[.int .i64 0, .int .i64 0, .slice none 0 0, .bool false], .int .i64 2]) (by simp [results, Try.results11, go_sem]) rfl (HR.out _ hs1)

theorem double_nil {R : Ending → World → Prop} {w : World} {i : Int} (hR : R (.returned (.int .i64 2)) w) :
    Calls Try.prog 9 #[.pointer none, .int .i64 i] w R := by
  have HR := Lib.hid hR
  clear hR
  go_enter Try.func9, Try.ntmps9
  go_wp2_with (go_at_call 17; refine (at_nil _ _).mono ?_; rintro e w' ⟨rfl, rfl⟩)
  exact HR.out

theorem bend_nil {R : Ending → World → Prop} {w : World} {i j k : Int} (hR : R (.returned (.int .i64 2)) w) :
    Calls Try.prog 13 #[.pointer none, .int .i64 i, .int .i64 j, .int .i64 k] w R := by
  have HR := Lib.hid hR
  clear hR
  go_enter Try.func13, Try.ntmps13
  go_wp2_with (go_at_call 17; refine (at_nil _ _).mono ?_; rintro e w' ⟨rfl, rfl⟩)
  exact HR.out

theorem post_new {W w : World} {g : Hl} {H : List HP} {b : Nat} (hs : Sat W w g (blk b [.slice none 0 0] 27 :: H)) : Sat W w g (post b [] :: H) :=
  post_close [] (fun x hx => by cases hx) ((hs.nilOwn (E := 31) (size := 4)).swap)

/-- The packet of a number. -/
def pk (k : Nat) : Pk := ⟨k, k + 1, [UInt8.ofNat k, 9], false⟩
@[simp] theorem pk_frm (k : Nat) : (pk k).frm = k := rfl
@[simp] theorem pk_dst (k : Nat) : (pk k).dst = k + 1 := rfl
@[simp] theorem pk_len (k : Nat) : (pk k).p.length = 2 := rfl
@[simp] theorem pk_bent (k : Nat) : (pk k).bent = false := rfl

set_option maxRecDepth 100000 in
theorem awake_any {R : Ending → World → Prop} {W w : World} {g : Hl} {H : List HP} (hs : Sat W w g H) (hR : ∀ w' g', Hl.le g g' → Sat W w' g' H → R (.returned (.bool true)) w') :
    Calls Try.prog 6 #[] w R := by
  have HR := Lib.hid hR
  clear hR
  have hs1 := post_new (hs.allocAt w.heap.size [.slice none 0 0] 27 rfl)
  go_enter Try.func6, Try.ntmps6
  go_wp2_with fail
  refine packet_any 1 (by rfl) hs1 (by decide) ?_
  intro w2 g2 v2 hg2 hs2 hv2
  go_wp2_with fail
  refine send_any (x := pk 1) hs2 (by decide) (hv2.row hs2) (by decide) ?_
  intro w3 g3 hg3 hs3
  go_wp2_with fail
  refine packet_any 2 (by rfl) hs3 (by decide) ?_
  intro w4 g4 v4 hg4 hs4 hv4
  go_wp2_with fail
  refine send_any (x := pk 2) hs4 (by decide) (hv4.row hs4) (by decide) ?_
  intro w5 g5 hg5 hs5
  go_wp2_with fail
  refine take_some (k := 1) (x := pk 2) hs5 (by decide) (by rfl) (by decide) ?_
  intro w6 a6 c6 hs6 hv6
  go_wp2_with (go_at_call 14; refine len_any (hs6.garbage _) ?_)
  exact HR.out _ g5 (((hg2.trans hg3).trans hg4).trans hg5) (hs6.garbage _).drop

end Go.Proofs.Ytpnfckdjggigpaa
