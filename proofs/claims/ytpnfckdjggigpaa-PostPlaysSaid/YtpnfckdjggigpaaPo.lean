/-
  Layer 19 (post): PostPlays of more acts than are looked at.
-/
import Derived.Test.YtpnfckdjggigpaaPn
namespace Go.Proofs.Ytpnfckdjggigpaa
open Go.RowKit

set_option maxHeartbeats 1600000 in
set_option maxRecDepth 100000 in
theorem plays_long {R : Ending → World → Prop} {W w : World} {g : Hl} {H : List HP} {a0 a1 a2 : Option Addr} {n0 n1 n2 c0 c1 c2 : Nat} (hs : Sat W w g H) (hn : 150 < n0) (hm : n0 ≤ 9223372036854775807)
    (hR : ∀ w' g', Hl.le g g' → Sat W w' g' H → R (.returned (.bool true)) w') :
    Calls Try.prog 4 #[.slice a0 n0 c0, .slice a1 n1 c1, .slice a2 n2 c2] w R := by
  have HR := Lib.hid hR
  clear hR
  refine C.calls (args := [.slice a0 n0 c0, .slice a1 n1 c1, .slice a2 n2 c2]) Try.func4 rfl rfl rfl ?_
  repeat (first
    | (apply E.pv; (first | (apply Pv.auto; exact rfl) | ((first | apply Pv.add | apply Pv.sub | apply Pv.rem | apply Pv.quo) <;> first | exact rfl | omega) | (apply Pv.conv; exact rfl; (intro w; go_simp <;> first | exact rfl | exact ⟨rfl, rfl⟩); (first | exact wrapu64_id (by omega) (by omega) | exact wrap64_id (by omega) (by omega) | exact wrapu8_id (by omega) (by omega) | exact wrapu32_id (by omega) (by omega) | exact wrapu16_id (by omega) (by omega) | exact rfl)) | ((first | apply Pv.beq | apply Pv.bne); exact rfl; exact rfl; kernel_rfl) | ((first | apply Pv.fieldAddr | apply Pv.len | apply Pv.indexAddr | apply Pv.build | apply Pv.field | apply Pv.convert | apply Pv.addw | apply Pv.subw | apply Pv.mulw | apply Pv.binOp) <;> first | exact rfl | (intro w; go_simp <;> first | exact rfl | exact ⟨rfl, rfl⟩))))
    | (first | apply C.region_seq | apply E.nil | apply A.next | apply A.ret_then | apply A.exit_then | apply A.block_end | apply A.block_ret | apply A.block_exit | apply C.seq | apply C.region | apply C.skip | apply C.ret | apply C.exit)
    | (apply E.guard; exact rfl; exact rfl)
    | (apply E.passed; exact rfl; exact rfl; exact rfl)
    | ((first | apply A.block_other | apply C.cond_true); exact rfl)
    | (apply C.cond_false; exact rfl)
    | apply C.block
    | ((first | (apply E.cons; apply St.load hs) | apply St.load hs); exact rfl; (repeat (first | exact Fd.here | refine Fd.there ?_)); exact rfl; go_simp))
  apply E.call Try.func6 rfl rfl
  · exact rfl
  refine awake_any hs ?_
  intro w1 g1 hg1 hs
  repeat (first
    | (apply E.pv; (first | (apply Pv.auto; exact rfl) | ((first | apply Pv.add | apply Pv.sub | apply Pv.rem | apply Pv.quo) <;> first | exact rfl | omega) | (apply Pv.conv; exact rfl; (intro w; go_simp <;> first | exact rfl | exact ⟨rfl, rfl⟩); (first | exact wrapu64_id (by omega) (by omega) | exact wrap64_id (by omega) (by omega) | exact wrapu8_id (by omega) (by omega) | exact wrapu32_id (by omega) (by omega) | exact wrapu16_id (by omega) (by omega) | exact rfl)) | ((first | apply Pv.beq | apply Pv.bne); exact rfl; exact rfl; kernel_rfl) | ((first | apply Pv.fieldAddr | apply Pv.len | apply Pv.indexAddr | apply Pv.build | apply Pv.field | apply Pv.convert | apply Pv.addw | apply Pv.subw | apply Pv.mulw | apply Pv.binOp) <;> first | exact rfl | (intro w; go_simp <;> first | exact rfl | exact ⟨rfl, rfl⟩))))
    | (first | apply C.region_seq | apply E.nil | apply A.next | apply A.ret_then | apply A.exit_then | apply A.block_end | apply A.block_ret | apply A.block_exit | apply C.seq | apply C.region | apply C.skip | apply C.ret | apply C.exit)
    | (apply E.guard; exact rfl; exact rfl)
    | (apply E.passed; exact rfl; exact rfl; exact rfl)
    | ((first | apply A.block_other | apply C.cond_true); exact rfl)
    | (apply C.cond_false; exact rfl)
    | apply C.block
    | ((first | (apply E.cons; apply St.load hs) | apply St.load hs); exact rfl; (repeat (first | exact Fd.here | refine Fd.there ?_)); exact rfl; go_simp))
  refine C.cond_dec (p := (150 : Int) < n0) rfl (fun _ => ?_) (fun h => by omega)
  repeat (first
    | (apply E.pv; (first | (apply Pv.auto; exact rfl) | ((first | apply Pv.add | apply Pv.sub | apply Pv.rem | apply Pv.quo) <;> first | exact rfl | omega) | (apply Pv.conv; exact rfl; (intro w; go_simp <;> first | exact rfl | exact ⟨rfl, rfl⟩); (first | exact wrapu64_id (by omega) (by omega) | exact wrap64_id (by omega) (by omega) | exact wrapu8_id (by omega) (by omega) | exact wrapu32_id (by omega) (by omega) | exact wrapu16_id (by omega) (by omega) | exact rfl)) | ((first | apply Pv.beq | apply Pv.bne); exact rfl; exact rfl; kernel_rfl) | ((first | apply Pv.fieldAddr | apply Pv.len | apply Pv.indexAddr | apply Pv.build | apply Pv.field | apply Pv.convert | apply Pv.addw | apply Pv.subw | apply Pv.mulw | apply Pv.binOp) <;> first | exact rfl | (intro w; go_simp <;> first | exact rfl | exact ⟨rfl, rfl⟩))))
    | (first | apply C.region_seq | apply E.nil | apply A.next | apply A.ret_then | apply A.exit_then | apply A.block_end | apply A.block_ret | apply A.block_exit | apply C.seq | apply C.region | apply C.skip | apply C.ret | apply C.exit)
    | (apply E.guard; exact rfl; exact rfl)
    | (apply E.passed; exact rfl; exact rfl; exact rfl)
    | ((first | apply A.block_other | apply C.cond_true); exact rfl)
    | (apply C.cond_false; exact rfl)
    | apply C.block
    | ((first | (apply E.cons; apply St.load hs) | apply St.load hs); exact rfl; (repeat (first | exact Fd.here | refine Fd.there ?_)); exact rfl; go_simp))
  apply E.call Try.func6 rfl rfl
  · exact rfl
  refine awake_any hs ?_
  intro w2 g2 hg2 hs
  repeat (first
    | (apply E.pv; (first | (apply Pv.auto; exact rfl) | ((first | apply Pv.add | apply Pv.sub | apply Pv.rem | apply Pv.quo) <;> first | exact rfl | omega) | (apply Pv.conv; exact rfl; (intro w; go_simp <;> first | exact rfl | exact ⟨rfl, rfl⟩); (first | exact wrapu64_id (by omega) (by omega) | exact wrap64_id (by omega) (by omega) | exact wrapu8_id (by omega) (by omega) | exact wrapu32_id (by omega) (by omega) | exact wrapu16_id (by omega) (by omega) | exact rfl)) | ((first | apply Pv.beq | apply Pv.bne); exact rfl; exact rfl; kernel_rfl) | ((first | apply Pv.fieldAddr | apply Pv.len | apply Pv.indexAddr | apply Pv.build | apply Pv.field | apply Pv.convert | apply Pv.addw | apply Pv.subw | apply Pv.mulw | apply Pv.binOp) <;> first | exact rfl | (intro w; go_simp <;> first | exact rfl | exact ⟨rfl, rfl⟩))))
    | (first | apply C.region_seq | apply E.nil | apply A.next | apply A.ret_then | apply A.exit_then | apply A.block_end | apply A.block_ret | apply A.block_exit | apply C.seq | apply C.region | apply C.skip | apply C.ret | apply C.exit)
    | (apply E.guard; exact rfl; exact rfl)
    | (apply E.passed; exact rfl; exact rfl; exact rfl)
    | ((first | apply A.block_other | apply C.cond_true); exact rfl)
    | (apply C.cond_false; exact rfl)
    | apply C.block
    | ((first | (apply E.cons; apply St.load hs) | apply St.load hs); exact rfl; (repeat (first | exact Fd.here | refine Fd.there ?_)); exact rfl; go_simp))
  apply A.ret1
  · exact rfl
  · exact rfl
  exact HR.out _ _ (hg1.trans hg2) hs

end Go.Proofs.Ytpnfckdjggigpaa
