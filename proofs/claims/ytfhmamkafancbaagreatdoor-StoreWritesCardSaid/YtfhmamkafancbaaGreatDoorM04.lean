/-
  Layer 2 (digits): the text ahead.
-/
import Derived.Test.YtfhmamkafancbaaGreatDoorM03
import Derived.Recover
import Derived.Test.YtfhmamkafancbaaGreatDoorProg
import Derived.Test.YtfhmamkafancbaaGreatDoorM02
namespace Go.Proofs.YtfhmamkafancbaaGreatDoor
open Go.RowKit
set_option linter.unusedVariables false
set_option linter.unusedSimpArgs false
set_option maxHeartbeats 1600000 in
set_option maxRecDepth 100000 in
theorem takeText_any {R : Ending → World → Prop} {W w : World} {g : Hl} {H : List HP} {a : Option Addr} {n c : Nat} {l : List UInt8} (most : Nat) {mi : Int} (hmi : mi = most) (hmost : most ≤ 1000000000) (hs : Sat W w g H) (hp : Pr 1 g (.slice a n c) n (bs l)) (hl : l.length = n) (hn : n ≤ 140737488355328)
    (hOK : ∀ v k b' o' c' a2 c2 w', takeGo 0 0 l = (v, k, 0) → 0 < k → k + v ≤ n → v ≤ most → Sat W w' g (own 5 1 (.slice a2 v c2) v (bs ((l.drop k).take v)) :: H) → Pr 1 g (.slice (some ⟨b', o', none⟩) (n - k - v) c') (n - k - v) (bs (l.drop (k + v))) → R (.returned (.tuple #[.slice a2 v c2, .slice (some ⟨b', o', none⟩) (n - k - v) c', .int .i64 0])) w')
    (hErr : ∀ e w', (takeGo 0 0 l = (0, 0, e) ∧ (e = 4 ∨ e = 5) ∨ ∃ v k, takeGo 0 0 l = (v, k, 0) ∧ (e = 6 ∧ most < v ∨ e = 5 ∧ v ≤ most ∧ n < k + v)) → Sat W w' g H → R (.returned (.tuple #[.slice none 0 0, .slice a n c, .int .i64 e])) w') :
    Calls Tryz.prog 223 #[.slice a n c, .int .i64 mi] w R := by
  subst hmi
  have HOK := Lib.hid hOK
  have HErr := Lib.hid hErr
  clear hOK hErr
  refine C.calls (args := [.slice a n c, .int .i64 most]) Tryz.func223 rfl rfl rfl ?_
  refine go ?_
  refine E.callf Tryz.func221 rfl ?_
  refine take_any hs hp hl ?_ ?_
  · intro v k b1 o1 c1 w1 ht hk hkn hv hs hp1
    obtain ⟨_, _, e, hnc1, hcm1⟩ := hp1.len
    simp only [Value.slice.injEq] at e
    obtain ⟨_, -, rfl⟩ := e
    refine go ?_
    refine C.cond_dec (p := (most : Int) < v) rfl (fun hlt => ?_) (fun hlt => ?_)
    · refine go ?_
      refine A.r3 ?_
      exact HErr.out 6 _ (.inr ⟨v, k, ht, .inl ⟨rfl, by omega⟩⟩) hs
    refine go ?_
    refine C.cond_dec (p := ((n - k : Nat) : Int) < v) rfl (fun hlt2 => ?_) (fun hlt2 => ?_)
    · refine go ?_
      refine A.r3 ?_
      exact HErr.out 5 _ (.inr ⟨v, k, ht, .inr ⟨rfl, by omega, by omega⟩⟩) hs
    refine go ?_
    obtain ⟨o2, ho, ho2⟩ := run_slice_l_at (kd := .u64) (o0 := o1) (b := b1) (c := c1) el_u8 (show v ≤ n - k by omega)
    apply C.any hs
    · kernel_rfl
    intro w2 hs
    repeat (first
      | (apply EA.take 0; decide +kernel; exact rfl; kernel_rfl; decide +kernel; exact fun _ _ _ _ h => h; (first | (apply Pg.off; exact rfl) | (apply Pg.any; exact rfl; (first | (apply Pv.auto; exact rfl) | ((first | apply Pv.add | apply Pv.sub | apply Pv.mul64 | apply Pv.rem | apply Pv.quo) <;> first | exact rfl | omega) | (apply Pv.conv; exact rfl; (intro w; go_simp <;> first | exact rfl | exact ⟨rfl, rfl⟩); (first | exact wrapu64_id (by omega) (by omega) | exact wrap64_id (by omega) (by omega) | exact wrapu8_id (by omega) (by omega) | exact wrapu32_id (by omega) (by omega) | exact wrapu16_id (by omega) (by omega) | exact u8_mod _ | exact u32_mod _ | exact u64_mod _ | exact rfl)) | ((first | apply Pv.beq | apply Pv.bne); exact rfl; exact rfl; kernel_rfl) | ((first | apply Pv.xor | apply Pv.and | apply Pv.or | apply Pv.shr | apply Pv.shl) <;> first | exact rfl | (simp only [IntKind.bits, Nat.and_one_is_mod]; omega)) | ((first | apply Pv.muln | apply Pv.notn) <;> first | exact rfl | (simp only [IntKind.bits, Nat.and_one_is_mod]; omega)) | ((first | apply Pv.fieldAddr | apply Pv.len | apply Pv.indexAddr | apply Pv.build | apply Pv.field | apply Pv.convert | apply Pv.addw | apply Pv.subw | apply Pv.mulw | apply Pv.binOp) <;> first | exact rfl | (intro w; go_simp <;> first | exact rfl | exact ⟨rfl, rfl⟩))))))
      | (apply EA.take 1; decide +kernel; exact rfl; kernel_rfl; decide +kernel; exact fun _ _ _ _ h => h; (first | (apply Pg.off; exact rfl) | (apply Pg.any; exact rfl; (first | (apply Pv.auto; exact rfl) | ((first | apply Pv.add | apply Pv.sub | apply Pv.mul64 | apply Pv.rem | apply Pv.quo) <;> first | exact rfl | omega) | (apply Pv.conv; exact rfl; (intro w; go_simp <;> first | exact rfl | exact ⟨rfl, rfl⟩); (first | exact wrapu64_id (by omega) (by omega) | exact wrap64_id (by omega) (by omega) | exact wrapu8_id (by omega) (by omega) | exact wrapu32_id (by omega) (by omega) | exact wrapu16_id (by omega) (by omega) | exact u8_mod _ | exact u32_mod _ | exact u64_mod _ | exact rfl)) | ((first | apply Pv.beq | apply Pv.bne); exact rfl; exact rfl; kernel_rfl) | ((first | apply Pv.xor | apply Pv.and | apply Pv.or | apply Pv.shr | apply Pv.shl) <;> first | exact rfl | (simp only [IntKind.bits, Nat.and_one_is_mod]; omega)) | ((first | apply Pv.muln | apply Pv.notn) <;> first | exact rfl | (simp only [IntKind.bits, Nat.and_one_is_mod]; omega)) | ((first | apply Pv.fieldAddr | apply Pv.len | apply Pv.indexAddr | apply Pv.build | apply Pv.field | apply Pv.convert | apply Pv.addw | apply Pv.subw | apply Pv.mulw | apply Pv.binOp) <;> first | exact rfl | (intro w; go_simp <;> first | exact rfl | exact ⟨rfl, rfl⟩))))))
      | (apply EA.take 2; decide +kernel; exact rfl; kernel_rfl; decide +kernel; exact fun _ _ _ _ h => h; (first | (apply Pg.off; exact rfl) | (apply Pg.any; exact rfl; (first | (apply Pv.auto; exact rfl) | ((first | apply Pv.add | apply Pv.sub | apply Pv.mul64 | apply Pv.rem | apply Pv.quo) <;> first | exact rfl | omega) | (apply Pv.conv; exact rfl; (intro w; go_simp <;> first | exact rfl | exact ⟨rfl, rfl⟩); (first | exact wrapu64_id (by omega) (by omega) | exact wrap64_id (by omega) (by omega) | exact wrapu8_id (by omega) (by omega) | exact wrapu32_id (by omega) (by omega) | exact wrapu16_id (by omega) (by omega) | exact u8_mod _ | exact u32_mod _ | exact u64_mod _ | exact rfl)) | ((first | apply Pv.beq | apply Pv.bne); exact rfl; exact rfl; kernel_rfl) | ((first | apply Pv.xor | apply Pv.and | apply Pv.or | apply Pv.shr | apply Pv.shl) <;> first | exact rfl | (simp only [IntKind.bits, Nat.and_one_is_mod]; omega)) | ((first | apply Pv.muln | apply Pv.notn) <;> first | exact rfl | (simp only [IntKind.bits, Nat.and_one_is_mod]; omega)) | ((first | apply Pv.fieldAddr | apply Pv.len | apply Pv.indexAddr | apply Pv.build | apply Pv.field | apply Pv.convert | apply Pv.addw | apply Pv.subw | apply Pv.mulw | apply Pv.binOp) <;> first | exact rfl | (intro w; go_simp <;> first | exact rfl | exact ⟨rfl, rfl⟩))))))
      | (apply EA.take 3; decide +kernel; exact rfl; kernel_rfl; decide +kernel; exact fun _ _ _ _ h => h; (first | (apply Pg.off; exact rfl) | (apply Pg.any; exact rfl; (first | (apply Pv.auto; exact rfl) | ((first | apply Pv.add | apply Pv.sub | apply Pv.mul64 | apply Pv.rem | apply Pv.quo) <;> first | exact rfl | omega) | (apply Pv.conv; exact rfl; (intro w; go_simp <;> first | exact rfl | exact ⟨rfl, rfl⟩); (first | exact wrapu64_id (by omega) (by omega) | exact wrap64_id (by omega) (by omega) | exact wrapu8_id (by omega) (by omega) | exact wrapu32_id (by omega) (by omega) | exact wrapu16_id (by omega) (by omega) | exact u8_mod _ | exact u32_mod _ | exact u64_mod _ | exact rfl)) | ((first | apply Pv.beq | apply Pv.bne); exact rfl; exact rfl; kernel_rfl) | ((first | apply Pv.xor | apply Pv.and | apply Pv.or | apply Pv.shr | apply Pv.shl) <;> first | exact rfl | (simp only [IntKind.bits, Nat.and_one_is_mod]; omega)) | ((first | apply Pv.muln | apply Pv.notn) <;> first | exact rfl | (simp only [IntKind.bits, Nat.and_one_is_mod]; omega)) | ((first | apply Pv.fieldAddr | apply Pv.len | apply Pv.indexAddr | apply Pv.build | apply Pv.field | apply Pv.convert | apply Pv.addw | apply Pv.subw | apply Pv.mulw | apply Pv.binOp) <;> first | exact rfl | (intro w; go_simp <;> first | exact rfl | exact ⟨rfl, rfl⟩))))))
      | (apply EA.take 4; decide +kernel; exact rfl; kernel_rfl; decide +kernel; exact fun _ _ _ _ h => h; (first | (apply Pg.off; exact rfl) | (apply Pg.any; exact rfl; (first | (apply Pv.auto; exact rfl) | ((first | apply Pv.add | apply Pv.sub | apply Pv.mul64 | apply Pv.rem | apply Pv.quo) <;> first | exact rfl | omega) | (apply Pv.conv; exact rfl; (intro w; go_simp <;> first | exact rfl | exact ⟨rfl, rfl⟩); (first | exact wrapu64_id (by omega) (by omega) | exact wrap64_id (by omega) (by omega) | exact wrapu8_id (by omega) (by omega) | exact wrapu32_id (by omega) (by omega) | exact wrapu16_id (by omega) (by omega) | exact u8_mod _ | exact u32_mod _ | exact u64_mod _ | exact rfl)) | ((first | apply Pv.beq | apply Pv.bne); exact rfl; exact rfl; kernel_rfl) | ((first | apply Pv.xor | apply Pv.and | apply Pv.or | apply Pv.shr | apply Pv.shl) <;> first | exact rfl | (simp only [IntKind.bits, Nat.and_one_is_mod]; omega)) | ((first | apply Pv.muln | apply Pv.notn) <;> first | exact rfl | (simp only [IntKind.bits, Nat.and_one_is_mod]; omega)) | ((first | apply Pv.fieldAddr | apply Pv.len | apply Pv.indexAddr | apply Pv.build | apply Pv.field | apply Pv.convert | apply Pv.addw | apply Pv.subw | apply Pv.mulw | apply Pv.binOp) <;> first | exact rfl | (intro w; go_simp <;> first | exact rfl | exact ⟨rfl, rfl⟩))))))
      | (apply EA.take 5; decide +kernel; exact rfl; kernel_rfl; decide +kernel; exact fun _ _ _ _ h => h; (first | (apply Pg.off; exact rfl) | (apply Pg.any; exact rfl; (first | (apply Pv.auto; exact rfl) | ((first | apply Pv.add | apply Pv.sub | apply Pv.mul64 | apply Pv.rem | apply Pv.quo) <;> first | exact rfl | omega) | (apply Pv.conv; exact rfl; (intro w; go_simp <;> first | exact rfl | exact ⟨rfl, rfl⟩); (first | exact wrapu64_id (by omega) (by omega) | exact wrap64_id (by omega) (by omega) | exact wrapu8_id (by omega) (by omega) | exact wrapu32_id (by omega) (by omega) | exact wrapu16_id (by omega) (by omega) | exact u8_mod _ | exact u32_mod _ | exact u64_mod _ | exact rfl)) | ((first | apply Pv.beq | apply Pv.bne); exact rfl; exact rfl; kernel_rfl) | ((first | apply Pv.xor | apply Pv.and | apply Pv.or | apply Pv.shr | apply Pv.shl) <;> first | exact rfl | (simp only [IntKind.bits, Nat.and_one_is_mod]; omega)) | ((first | apply Pv.muln | apply Pv.notn) <;> first | exact rfl | (simp only [IntKind.bits, Nat.and_one_is_mod]; omega)) | ((first | apply Pv.fieldAddr | apply Pv.len | apply Pv.indexAddr | apply Pv.build | apply Pv.field | apply Pv.convert | apply Pv.addw | apply Pv.subw | apply Pv.mulw | apply Pv.binOp) <;> first | exact rfl | (intro w; go_simp <;> first | exact rfl | exact ⟨rfl, rfl⟩))))))
      | (apply EA.take 6; decide +kernel; exact rfl; kernel_rfl; decide +kernel; exact fun _ _ _ _ h => h; (first | (apply Pg.off; exact rfl) | (apply Pg.any; exact rfl; (first | (apply Pv.auto; exact rfl) | ((first | apply Pv.add | apply Pv.sub | apply Pv.mul64 | apply Pv.rem | apply Pv.quo) <;> first | exact rfl | omega) | (apply Pv.conv; exact rfl; (intro w; go_simp <;> first | exact rfl | exact ⟨rfl, rfl⟩); (first | exact wrapu64_id (by omega) (by omega) | exact wrap64_id (by omega) (by omega) | exact wrapu8_id (by omega) (by omega) | exact wrapu32_id (by omega) (by omega) | exact wrapu16_id (by omega) (by omega) | exact u8_mod _ | exact u32_mod _ | exact u64_mod _ | exact rfl)) | ((first | apply Pv.beq | apply Pv.bne); exact rfl; exact rfl; kernel_rfl) | ((first | apply Pv.xor | apply Pv.and | apply Pv.or | apply Pv.shr | apply Pv.shl) <;> first | exact rfl | (simp only [IntKind.bits, Nat.and_one_is_mod]; omega)) | ((first | apply Pv.muln | apply Pv.notn) <;> first | exact rfl | (simp only [IntKind.bits, Nat.and_one_is_mod]; omega)) | ((first | apply Pv.fieldAddr | apply Pv.len | apply Pv.indexAddr | apply Pv.build | apply Pv.field | apply Pv.convert | apply Pv.addw | apply Pv.subw | apply Pv.mulw | apply Pv.binOp) <;> first | exact rfl | (intro w; go_simp <;> first | exact rfl | exact ⟨rfl, rfl⟩))))))
      | (apply EA.take 7; decide +kernel; exact rfl; kernel_rfl; decide +kernel; exact fun _ _ _ _ h => h; (first | (apply Pg.off; exact rfl) | (apply Pg.any; exact rfl; (first | (apply Pv.auto; exact rfl) | ((first | apply Pv.add | apply Pv.sub | apply Pv.mul64 | apply Pv.rem | apply Pv.quo) <;> first | exact rfl | omega) | (apply Pv.conv; exact rfl; (intro w; go_simp <;> first | exact rfl | exact ⟨rfl, rfl⟩); (first | exact wrapu64_id (by omega) (by omega) | exact wrap64_id (by omega) (by omega) | exact wrapu8_id (by omega) (by omega) | exact wrapu32_id (by omega) (by omega) | exact wrapu16_id (by omega) (by omega) | exact u8_mod _ | exact u32_mod _ | exact u64_mod _ | exact rfl)) | ((first | apply Pv.beq | apply Pv.bne); exact rfl; exact rfl; kernel_rfl) | ((first | apply Pv.xor | apply Pv.and | apply Pv.or | apply Pv.shr | apply Pv.shl) <;> first | exact rfl | (simp only [IntKind.bits, Nat.and_one_is_mod]; omega)) | ((first | apply Pv.muln | apply Pv.notn) <;> first | exact rfl | (simp only [IntKind.bits, Nat.and_one_is_mod]; omega)) | ((first | apply Pv.fieldAddr | apply Pv.len | apply Pv.indexAddr | apply Pv.build | apply Pv.field | apply Pv.convert | apply Pv.addw | apply Pv.subw | apply Pv.mulw | apply Pv.binOp) <;> first | exact rfl | (intro w; go_simp <;> first | exact rfl | exact ⟨rfl, rfl⟩))))))
      | (apply EA.take 8; decide +kernel; exact rfl; kernel_rfl; decide +kernel; exact fun _ _ _ _ h => h; (first | (apply Pg.off; exact rfl) | (apply Pg.any; exact rfl; (first | (apply Pv.auto; exact rfl) | ((first | apply Pv.add | apply Pv.sub | apply Pv.mul64 | apply Pv.rem | apply Pv.quo) <;> first | exact rfl | omega) | (apply Pv.conv; exact rfl; (intro w; go_simp <;> first | exact rfl | exact ⟨rfl, rfl⟩); (first | exact wrapu64_id (by omega) (by omega) | exact wrap64_id (by omega) (by omega) | exact wrapu8_id (by omega) (by omega) | exact wrapu32_id (by omega) (by omega) | exact wrapu16_id (by omega) (by omega) | exact u8_mod _ | exact u32_mod _ | exact u64_mod _ | exact rfl)) | ((first | apply Pv.beq | apply Pv.bne); exact rfl; exact rfl; kernel_rfl) | ((first | apply Pv.xor | apply Pv.and | apply Pv.or | apply Pv.shr | apply Pv.shl) <;> first | exact rfl | (simp only [IntKind.bits, Nat.and_one_is_mod]; omega)) | ((first | apply Pv.muln | apply Pv.notn) <;> first | exact rfl | (simp only [IntKind.bits, Nat.and_one_is_mod]; omega)) | ((first | apply Pv.fieldAddr | apply Pv.len | apply Pv.indexAddr | apply Pv.build | apply Pv.field | apply Pv.convert | apply Pv.addw | apply Pv.subw | apply Pv.mulw | apply Pv.binOp) <;> first | exact rfl | (intro w; go_simp <;> first | exact rfl | exact ⟨rfl, rfl⟩))))))
      | (apply EA.take 9; decide +kernel; exact rfl; kernel_rfl; decide +kernel; exact fun _ _ _ _ h => h; (first | (apply Pg.off; exact rfl) | (apply Pg.any; exact rfl; (first | (apply Pv.auto; exact rfl) | ((first | apply Pv.add | apply Pv.sub | apply Pv.mul64 | apply Pv.rem | apply Pv.quo) <;> first | exact rfl | omega) | (apply Pv.conv; exact rfl; (intro w; go_simp <;> first | exact rfl | exact ⟨rfl, rfl⟩); (first | exact wrapu64_id (by omega) (by omega) | exact wrap64_id (by omega) (by omega) | exact wrapu8_id (by omega) (by omega) | exact wrapu32_id (by omega) (by omega) | exact wrapu16_id (by omega) (by omega) | exact u8_mod _ | exact u32_mod _ | exact u64_mod _ | exact rfl)) | ((first | apply Pv.beq | apply Pv.bne); exact rfl; exact rfl; kernel_rfl) | ((first | apply Pv.xor | apply Pv.and | apply Pv.or | apply Pv.shr | apply Pv.shl) <;> first | exact rfl | (simp only [IntKind.bits, Nat.and_one_is_mod]; omega)) | ((first | apply Pv.muln | apply Pv.notn) <;> first | exact rfl | (simp only [IntKind.bits, Nat.and_one_is_mod]; omega)) | ((first | apply Pv.fieldAddr | apply Pv.len | apply Pv.indexAddr | apply Pv.build | apply Pv.field | apply Pv.convert | apply Pv.addw | apply Pv.subw | apply Pv.mulw | apply Pv.binOp) <;> first | exact rfl | (intro w; go_simp <;> first | exact rfl | exact ⟨rfl, rfl⟩))))))
      | (apply EA.take 10; decide +kernel; exact rfl; kernel_rfl; decide +kernel; exact fun _ _ _ _ h => h; (first | (apply Pg.off; exact rfl) | (apply Pg.any; exact rfl; (first | (apply Pv.auto; exact rfl) | ((first | apply Pv.add | apply Pv.sub | apply Pv.mul64 | apply Pv.rem | apply Pv.quo) <;> first | exact rfl | omega) | (apply Pv.conv; exact rfl; (intro w; go_simp <;> first | exact rfl | exact ⟨rfl, rfl⟩); (first | exact wrapu64_id (by omega) (by omega) | exact wrap64_id (by omega) (by omega) | exact wrapu8_id (by omega) (by omega) | exact wrapu32_id (by omega) (by omega) | exact wrapu16_id (by omega) (by omega) | exact u8_mod _ | exact u32_mod _ | exact u64_mod _ | exact rfl)) | ((first | apply Pv.beq | apply Pv.bne); exact rfl; exact rfl; kernel_rfl) | ((first | apply Pv.xor | apply Pv.and | apply Pv.or | apply Pv.shr | apply Pv.shl) <;> first | exact rfl | (simp only [IntKind.bits, Nat.and_one_is_mod]; omega)) | ((first | apply Pv.muln | apply Pv.notn) <;> first | exact rfl | (simp only [IntKind.bits, Nat.and_one_is_mod]; omega)) | ((first | apply Pv.fieldAddr | apply Pv.len | apply Pv.indexAddr | apply Pv.build | apply Pv.field | apply Pv.convert | apply Pv.addw | apply Pv.subw | apply Pv.mulw | apply Pv.binOp) <;> first | exact rfl | (intro w; go_simp <;> first | exact rfl | exact ⟨rfl, rfl⟩))))))
      | (apply EA.take 11; decide +kernel; exact rfl; kernel_rfl; decide +kernel; exact fun _ _ _ _ h => h; (first | (apply Pg.off; exact rfl) | (apply Pg.any; exact rfl; (first | (apply Pv.auto; exact rfl) | ((first | apply Pv.add | apply Pv.sub | apply Pv.mul64 | apply Pv.rem | apply Pv.quo) <;> first | exact rfl | omega) | (apply Pv.conv; exact rfl; (intro w; go_simp <;> first | exact rfl | exact ⟨rfl, rfl⟩); (first | exact wrapu64_id (by omega) (by omega) | exact wrap64_id (by omega) (by omega) | exact wrapu8_id (by omega) (by omega) | exact wrapu32_id (by omega) (by omega) | exact wrapu16_id (by omega) (by omega) | exact u8_mod _ | exact u32_mod _ | exact u64_mod _ | exact rfl)) | ((first | apply Pv.beq | apply Pv.bne); exact rfl; exact rfl; kernel_rfl) | ((first | apply Pv.xor | apply Pv.and | apply Pv.or | apply Pv.shr | apply Pv.shl) <;> first | exact rfl | (simp only [IntKind.bits, Nat.and_one_is_mod]; omega)) | ((first | apply Pv.muln | apply Pv.notn) <;> first | exact rfl | (simp only [IntKind.bits, Nat.and_one_is_mod]; omega)) | ((first | apply Pv.fieldAddr | apply Pv.len | apply Pv.indexAddr | apply Pv.build | apply Pv.field | apply Pv.convert | apply Pv.addw | apply Pv.subw | apply Pv.mulw | apply Pv.binOp) <;> first | exact rfl | (intro w; go_simp <;> first | exact rfl | exact ⟨rfl, rfl⟩)))))))
    apply EA.take 2
    · decide +kernel
    · exact rfl
    · kernel_rfl
    · decide +kernel
    · exact fun _ _ _ _ h => h
    · apply Pg.any
      · exact rfl
      apply Pv.slice
      · exact rfl
      · exact rfl
      · exact rfl
      · exact rfl
      · exact run_slice_h_at el_u8 (by omega)
    repeat (first
      | (apply EA.take 0; decide +kernel; exact rfl; kernel_rfl; decide +kernel; exact fun _ _ _ _ h => h; (first | (apply Pg.off; exact rfl) | (apply Pg.any; exact rfl; (first | (apply Pv.auto; exact rfl) | ((first | apply Pv.add | apply Pv.sub | apply Pv.mul64 | apply Pv.rem | apply Pv.quo) <;> first | exact rfl | omega) | (apply Pv.conv; exact rfl; (intro w; go_simp <;> first | exact rfl | exact ⟨rfl, rfl⟩); (first | exact wrapu64_id (by omega) (by omega) | exact wrap64_id (by omega) (by omega) | exact wrapu8_id (by omega) (by omega) | exact wrapu32_id (by omega) (by omega) | exact wrapu16_id (by omega) (by omega) | exact u8_mod _ | exact u32_mod _ | exact u64_mod _ | exact rfl)) | ((first | apply Pv.beq | apply Pv.bne); exact rfl; exact rfl; kernel_rfl) | ((first | apply Pv.xor | apply Pv.and | apply Pv.or | apply Pv.shr | apply Pv.shl) <;> first | exact rfl | (simp only [IntKind.bits, Nat.and_one_is_mod]; omega)) | ((first | apply Pv.muln | apply Pv.notn) <;> first | exact rfl | (simp only [IntKind.bits, Nat.and_one_is_mod]; omega)) | ((first | apply Pv.fieldAddr | apply Pv.len | apply Pv.indexAddr | apply Pv.build | apply Pv.field | apply Pv.convert | apply Pv.addw | apply Pv.subw | apply Pv.mulw | apply Pv.binOp) <;> first | exact rfl | (intro w; go_simp <;> first | exact rfl | exact ⟨rfl, rfl⟩))))))
      | (apply EA.take 1; decide +kernel; exact rfl; kernel_rfl; decide +kernel; exact fun _ _ _ _ h => h; (first | (apply Pg.off; exact rfl) | (apply Pg.any; exact rfl; (first | (apply Pv.auto; exact rfl) | ((first | apply Pv.add | apply Pv.sub | apply Pv.mul64 | apply Pv.rem | apply Pv.quo) <;> first | exact rfl | omega) | (apply Pv.conv; exact rfl; (intro w; go_simp <;> first | exact rfl | exact ⟨rfl, rfl⟩); (first | exact wrapu64_id (by omega) (by omega) | exact wrap64_id (by omega) (by omega) | exact wrapu8_id (by omega) (by omega) | exact wrapu32_id (by omega) (by omega) | exact wrapu16_id (by omega) (by omega) | exact u8_mod _ | exact u32_mod _ | exact u64_mod _ | exact rfl)) | ((first | apply Pv.beq | apply Pv.bne); exact rfl; exact rfl; kernel_rfl) | ((first | apply Pv.xor | apply Pv.and | apply Pv.or | apply Pv.shr | apply Pv.shl) <;> first | exact rfl | (simp only [IntKind.bits, Nat.and_one_is_mod]; omega)) | ((first | apply Pv.muln | apply Pv.notn) <;> first | exact rfl | (simp only [IntKind.bits, Nat.and_one_is_mod]; omega)) | ((first | apply Pv.fieldAddr | apply Pv.len | apply Pv.indexAddr | apply Pv.build | apply Pv.field | apply Pv.convert | apply Pv.addw | apply Pv.subw | apply Pv.mulw | apply Pv.binOp) <;> first | exact rfl | (intro w; go_simp <;> first | exact rfl | exact ⟨rfl, rfl⟩))))))
      | (apply EA.take 2; decide +kernel; exact rfl; kernel_rfl; decide +kernel; exact fun _ _ _ _ h => h; (first | (apply Pg.off; exact rfl) | (apply Pg.any; exact rfl; (first | (apply Pv.auto; exact rfl) | ((first | apply Pv.add | apply Pv.sub | apply Pv.mul64 | apply Pv.rem | apply Pv.quo) <;> first | exact rfl | omega) | (apply Pv.conv; exact rfl; (intro w; go_simp <;> first | exact rfl | exact ⟨rfl, rfl⟩); (first | exact wrapu64_id (by omega) (by omega) | exact wrap64_id (by omega) (by omega) | exact wrapu8_id (by omega) (by omega) | exact wrapu32_id (by omega) (by omega) | exact wrapu16_id (by omega) (by omega) | exact u8_mod _ | exact u32_mod _ | exact u64_mod _ | exact rfl)) | ((first | apply Pv.beq | apply Pv.bne); exact rfl; exact rfl; kernel_rfl) | ((first | apply Pv.xor | apply Pv.and | apply Pv.or | apply Pv.shr | apply Pv.shl) <;> first | exact rfl | (simp only [IntKind.bits, Nat.and_one_is_mod]; omega)) | ((first | apply Pv.muln | apply Pv.notn) <;> first | exact rfl | (simp only [IntKind.bits, Nat.and_one_is_mod]; omega)) | ((first | apply Pv.fieldAddr | apply Pv.len | apply Pv.indexAddr | apply Pv.build | apply Pv.field | apply Pv.convert | apply Pv.addw | apply Pv.subw | apply Pv.mulw | apply Pv.binOp) <;> first | exact rfl | (intro w; go_simp <;> first | exact rfl | exact ⟨rfl, rfl⟩))))))
      | (apply EA.take 3; decide +kernel; exact rfl; kernel_rfl; decide +kernel; exact fun _ _ _ _ h => h; (first | (apply Pg.off; exact rfl) | (apply Pg.any; exact rfl; (first | (apply Pv.auto; exact rfl) | ((first | apply Pv.add | apply Pv.sub | apply Pv.mul64 | apply Pv.rem | apply Pv.quo) <;> first | exact rfl | omega) | (apply Pv.conv; exact rfl; (intro w; go_simp <;> first | exact rfl | exact ⟨rfl, rfl⟩); (first | exact wrapu64_id (by omega) (by omega) | exact wrap64_id (by omega) (by omega) | exact wrapu8_id (by omega) (by omega) | exact wrapu32_id (by omega) (by omega) | exact wrapu16_id (by omega) (by omega) | exact u8_mod _ | exact u32_mod _ | exact u64_mod _ | exact rfl)) | ((first | apply Pv.beq | apply Pv.bne); exact rfl; exact rfl; kernel_rfl) | ((first | apply Pv.xor | apply Pv.and | apply Pv.or | apply Pv.shr | apply Pv.shl) <;> first | exact rfl | (simp only [IntKind.bits, Nat.and_one_is_mod]; omega)) | ((first | apply Pv.muln | apply Pv.notn) <;> first | exact rfl | (simp only [IntKind.bits, Nat.and_one_is_mod]; omega)) | ((first | apply Pv.fieldAddr | apply Pv.len | apply Pv.indexAddr | apply Pv.build | apply Pv.field | apply Pv.convert | apply Pv.addw | apply Pv.subw | apply Pv.mulw | apply Pv.binOp) <;> first | exact rfl | (intro w; go_simp <;> first | exact rfl | exact ⟨rfl, rfl⟩))))))
      | (apply EA.take 4; decide +kernel; exact rfl; kernel_rfl; decide +kernel; exact fun _ _ _ _ h => h; (first | (apply Pg.off; exact rfl) | (apply Pg.any; exact rfl; (first | (apply Pv.auto; exact rfl) | ((first | apply Pv.add | apply Pv.sub | apply Pv.mul64 | apply Pv.rem | apply Pv.quo) <;> first | exact rfl | omega) | (apply Pv.conv; exact rfl; (intro w; go_simp <;> first | exact rfl | exact ⟨rfl, rfl⟩); (first | exact wrapu64_id (by omega) (by omega) | exact wrap64_id (by omega) (by omega) | exact wrapu8_id (by omega) (by omega) | exact wrapu32_id (by omega) (by omega) | exact wrapu16_id (by omega) (by omega) | exact u8_mod _ | exact u32_mod _ | exact u64_mod _ | exact rfl)) | ((first | apply Pv.beq | apply Pv.bne); exact rfl; exact rfl; kernel_rfl) | ((first | apply Pv.xor | apply Pv.and | apply Pv.or | apply Pv.shr | apply Pv.shl) <;> first | exact rfl | (simp only [IntKind.bits, Nat.and_one_is_mod]; omega)) | ((first | apply Pv.muln | apply Pv.notn) <;> first | exact rfl | (simp only [IntKind.bits, Nat.and_one_is_mod]; omega)) | ((first | apply Pv.fieldAddr | apply Pv.len | apply Pv.indexAddr | apply Pv.build | apply Pv.field | apply Pv.convert | apply Pv.addw | apply Pv.subw | apply Pv.mulw | apply Pv.binOp) <;> first | exact rfl | (intro w; go_simp <;> first | exact rfl | exact ⟨rfl, rfl⟩))))))
      | (apply EA.take 5; decide +kernel; exact rfl; kernel_rfl; decide +kernel; exact fun _ _ _ _ h => h; (first | (apply Pg.off; exact rfl) | (apply Pg.any; exact rfl; (first | (apply Pv.auto; exact rfl) | ((first | apply Pv.add | apply Pv.sub | apply Pv.mul64 | apply Pv.rem | apply Pv.quo) <;> first | exact rfl | omega) | (apply Pv.conv; exact rfl; (intro w; go_simp <;> first | exact rfl | exact ⟨rfl, rfl⟩); (first | exact wrapu64_id (by omega) (by omega) | exact wrap64_id (by omega) (by omega) | exact wrapu8_id (by omega) (by omega) | exact wrapu32_id (by omega) (by omega) | exact wrapu16_id (by omega) (by omega) | exact u8_mod _ | exact u32_mod _ | exact u64_mod _ | exact rfl)) | ((first | apply Pv.beq | apply Pv.bne); exact rfl; exact rfl; kernel_rfl) | ((first | apply Pv.xor | apply Pv.and | apply Pv.or | apply Pv.shr | apply Pv.shl) <;> first | exact rfl | (simp only [IntKind.bits, Nat.and_one_is_mod]; omega)) | ((first | apply Pv.muln | apply Pv.notn) <;> first | exact rfl | (simp only [IntKind.bits, Nat.and_one_is_mod]; omega)) | ((first | apply Pv.fieldAddr | apply Pv.len | apply Pv.indexAddr | apply Pv.build | apply Pv.field | apply Pv.convert | apply Pv.addw | apply Pv.subw | apply Pv.mulw | apply Pv.binOp) <;> first | exact rfl | (intro w; go_simp <;> first | exact rfl | exact ⟨rfl, rfl⟩))))))
      | (apply EA.take 6; decide +kernel; exact rfl; kernel_rfl; decide +kernel; exact fun _ _ _ _ h => h; (first | (apply Pg.off; exact rfl) | (apply Pg.any; exact rfl; (first | (apply Pv.auto; exact rfl) | ((first | apply Pv.add | apply Pv.sub | apply Pv.mul64 | apply Pv.rem | apply Pv.quo) <;> first | exact rfl | omega) | (apply Pv.conv; exact rfl; (intro w; go_simp <;> first | exact rfl | exact ⟨rfl, rfl⟩); (first | exact wrapu64_id (by omega) (by omega) | exact wrap64_id (by omega) (by omega) | exact wrapu8_id (by omega) (by omega) | exact wrapu32_id (by omega) (by omega) | exact wrapu16_id (by omega) (by omega) | exact u8_mod _ | exact u32_mod _ | exact u64_mod _ | exact rfl)) | ((first | apply Pv.beq | apply Pv.bne); exact rfl; exact rfl; kernel_rfl) | ((first | apply Pv.xor | apply Pv.and | apply Pv.or | apply Pv.shr | apply Pv.shl) <;> first | exact rfl | (simp only [IntKind.bits, Nat.and_one_is_mod]; omega)) | ((first | apply Pv.muln | apply Pv.notn) <;> first | exact rfl | (simp only [IntKind.bits, Nat.and_one_is_mod]; omega)) | ((first | apply Pv.fieldAddr | apply Pv.len | apply Pv.indexAddr | apply Pv.build | apply Pv.field | apply Pv.convert | apply Pv.addw | apply Pv.subw | apply Pv.mulw | apply Pv.binOp) <;> first | exact rfl | (intro w; go_simp <;> first | exact rfl | exact ⟨rfl, rfl⟩))))))
      | (apply EA.take 7; decide +kernel; exact rfl; kernel_rfl; decide +kernel; exact fun _ _ _ _ h => h; (first | (apply Pg.off; exact rfl) | (apply Pg.any; exact rfl; (first | (apply Pv.auto; exact rfl) | ((first | apply Pv.add | apply Pv.sub | apply Pv.mul64 | apply Pv.rem | apply Pv.quo) <;> first | exact rfl | omega) | (apply Pv.conv; exact rfl; (intro w; go_simp <;> first | exact rfl | exact ⟨rfl, rfl⟩); (first | exact wrapu64_id (by omega) (by omega) | exact wrap64_id (by omega) (by omega) | exact wrapu8_id (by omega) (by omega) | exact wrapu32_id (by omega) (by omega) | exact wrapu16_id (by omega) (by omega) | exact u8_mod _ | exact u32_mod _ | exact u64_mod _ | exact rfl)) | ((first | apply Pv.beq | apply Pv.bne); exact rfl; exact rfl; kernel_rfl) | ((first | apply Pv.xor | apply Pv.and | apply Pv.or | apply Pv.shr | apply Pv.shl) <;> first | exact rfl | (simp only [IntKind.bits, Nat.and_one_is_mod]; omega)) | ((first | apply Pv.muln | apply Pv.notn) <;> first | exact rfl | (simp only [IntKind.bits, Nat.and_one_is_mod]; omega)) | ((first | apply Pv.fieldAddr | apply Pv.len | apply Pv.indexAddr | apply Pv.build | apply Pv.field | apply Pv.convert | apply Pv.addw | apply Pv.subw | apply Pv.mulw | apply Pv.binOp) <;> first | exact rfl | (intro w; go_simp <;> first | exact rfl | exact ⟨rfl, rfl⟩))))))
      | (apply EA.take 8; decide +kernel; exact rfl; kernel_rfl; decide +kernel; exact fun _ _ _ _ h => h; (first | (apply Pg.off; exact rfl) | (apply Pg.any; exact rfl; (first | (apply Pv.auto; exact rfl) | ((first | apply Pv.add | apply Pv.sub | apply Pv.mul64 | apply Pv.rem | apply Pv.quo) <;> first | exact rfl | omega) | (apply Pv.conv; exact rfl; (intro w; go_simp <;> first | exact rfl | exact ⟨rfl, rfl⟩); (first | exact wrapu64_id (by omega) (by omega) | exact wrap64_id (by omega) (by omega) | exact wrapu8_id (by omega) (by omega) | exact wrapu32_id (by omega) (by omega) | exact wrapu16_id (by omega) (by omega) | exact u8_mod _ | exact u32_mod _ | exact u64_mod _ | exact rfl)) | ((first | apply Pv.beq | apply Pv.bne); exact rfl; exact rfl; kernel_rfl) | ((first | apply Pv.xor | apply Pv.and | apply Pv.or | apply Pv.shr | apply Pv.shl) <;> first | exact rfl | (simp only [IntKind.bits, Nat.and_one_is_mod]; omega)) | ((first | apply Pv.muln | apply Pv.notn) <;> first | exact rfl | (simp only [IntKind.bits, Nat.and_one_is_mod]; omega)) | ((first | apply Pv.fieldAddr | apply Pv.len | apply Pv.indexAddr | apply Pv.build | apply Pv.field | apply Pv.convert | apply Pv.addw | apply Pv.subw | apply Pv.mulw | apply Pv.binOp) <;> first | exact rfl | (intro w; go_simp <;> first | exact rfl | exact ⟨rfl, rfl⟩))))))
      | (apply EA.take 9; decide +kernel; exact rfl; kernel_rfl; decide +kernel; exact fun _ _ _ _ h => h; (first | (apply Pg.off; exact rfl) | (apply Pg.any; exact rfl; (first | (apply Pv.auto; exact rfl) | ((first | apply Pv.add | apply Pv.sub | apply Pv.mul64 | apply Pv.rem | apply Pv.quo) <;> first | exact rfl | omega) | (apply Pv.conv; exact rfl; (intro w; go_simp <;> first | exact rfl | exact ⟨rfl, rfl⟩); (first | exact wrapu64_id (by omega) (by omega) | exact wrap64_id (by omega) (by omega) | exact wrapu8_id (by omega) (by omega) | exact wrapu32_id (by omega) (by omega) | exact wrapu16_id (by omega) (by omega) | exact u8_mod _ | exact u32_mod _ | exact u64_mod _ | exact rfl)) | ((first | apply Pv.beq | apply Pv.bne); exact rfl; exact rfl; kernel_rfl) | ((first | apply Pv.xor | apply Pv.and | apply Pv.or | apply Pv.shr | apply Pv.shl) <;> first | exact rfl | (simp only [IntKind.bits, Nat.and_one_is_mod]; omega)) | ((first | apply Pv.muln | apply Pv.notn) <;> first | exact rfl | (simp only [IntKind.bits, Nat.and_one_is_mod]; omega)) | ((first | apply Pv.fieldAddr | apply Pv.len | apply Pv.indexAddr | apply Pv.build | apply Pv.field | apply Pv.convert | apply Pv.addw | apply Pv.subw | apply Pv.mulw | apply Pv.binOp) <;> first | exact rfl | (intro w; go_simp <;> first | exact rfl | exact ⟨rfl, rfl⟩))))))
      | (apply EA.take 10; decide +kernel; exact rfl; kernel_rfl; decide +kernel; exact fun _ _ _ _ h => h; (first | (apply Pg.off; exact rfl) | (apply Pg.any; exact rfl; (first | (apply Pv.auto; exact rfl) | ((first | apply Pv.add | apply Pv.sub | apply Pv.mul64 | apply Pv.rem | apply Pv.quo) <;> first | exact rfl | omega) | (apply Pv.conv; exact rfl; (intro w; go_simp <;> first | exact rfl | exact ⟨rfl, rfl⟩); (first | exact wrapu64_id (by omega) (by omega) | exact wrap64_id (by omega) (by omega) | exact wrapu8_id (by omega) (by omega) | exact wrapu32_id (by omega) (by omega) | exact wrapu16_id (by omega) (by omega) | exact u8_mod _ | exact u32_mod _ | exact u64_mod _ | exact rfl)) | ((first | apply Pv.beq | apply Pv.bne); exact rfl; exact rfl; kernel_rfl) | ((first | apply Pv.xor | apply Pv.and | apply Pv.or | apply Pv.shr | apply Pv.shl) <;> first | exact rfl | (simp only [IntKind.bits, Nat.and_one_is_mod]; omega)) | ((first | apply Pv.muln | apply Pv.notn) <;> first | exact rfl | (simp only [IntKind.bits, Nat.and_one_is_mod]; omega)) | ((first | apply Pv.fieldAddr | apply Pv.len | apply Pv.indexAddr | apply Pv.build | apply Pv.field | apply Pv.convert | apply Pv.addw | apply Pv.subw | apply Pv.mulw | apply Pv.binOp) <;> first | exact rfl | (intro w; go_simp <;> first | exact rfl | exact ⟨rfl, rfl⟩))))))
      | (apply EA.take 11; decide +kernel; exact rfl; kernel_rfl; decide +kernel; exact fun _ _ _ _ h => h; (first | (apply Pg.off; exact rfl) | (apply Pg.any; exact rfl; (first | (apply Pv.auto; exact rfl) | ((first | apply Pv.add | apply Pv.sub | apply Pv.mul64 | apply Pv.rem | apply Pv.quo) <;> first | exact rfl | omega) | (apply Pv.conv; exact rfl; (intro w; go_simp <;> first | exact rfl | exact ⟨rfl, rfl⟩); (first | exact wrapu64_id (by omega) (by omega) | exact wrap64_id (by omega) (by omega) | exact wrapu8_id (by omega) (by omega) | exact wrapu32_id (by omega) (by omega) | exact wrapu16_id (by omega) (by omega) | exact u8_mod _ | exact u32_mod _ | exact u64_mod _ | exact rfl)) | ((first | apply Pv.beq | apply Pv.bne); exact rfl; exact rfl; kernel_rfl) | ((first | apply Pv.xor | apply Pv.and | apply Pv.or | apply Pv.shr | apply Pv.shl) <;> first | exact rfl | (simp only [IntKind.bits, Nat.and_one_is_mod]; omega)) | ((first | apply Pv.muln | apply Pv.notn) <;> first | exact rfl | (simp only [IntKind.bits, Nat.and_one_is_mod]; omega)) | ((first | apply Pv.fieldAddr | apply Pv.len | apply Pv.indexAddr | apply Pv.build | apply Pv.field | apply Pv.convert | apply Pv.addw | apply Pv.subw | apply Pv.mulw | apply Pv.binOp) <;> first | exact rfl | (intro w; go_simp <;> first | exact rfl | exact ⟨rfl, rfl⟩)))))))
    apply EA.take 6
    · decide +kernel
    · exact rfl
    · kernel_rfl
    · decide +kernel
    · exact fun _ _ _ _ h => h
    · apply Pg.any
      · exact rfl
      apply Pv.slice
      · exact rfl
      · exact rfl
      · exact rfl
      · exact rfl
      · exact ho
    repeat (first
      | (apply EA.take 0; decide +kernel; exact rfl; kernel_rfl; decide +kernel; exact fun _ _ _ _ h => h; (first | (apply Pg.off; exact rfl) | (apply Pg.any; exact rfl; (first | (apply Pv.auto; exact rfl) | ((first | apply Pv.add | apply Pv.sub | apply Pv.mul64 | apply Pv.rem | apply Pv.quo) <;> first | exact rfl | omega) | (apply Pv.conv; exact rfl; (intro w; go_simp <;> first | exact rfl | exact ⟨rfl, rfl⟩); (first | exact wrapu64_id (by omega) (by omega) | exact wrap64_id (by omega) (by omega) | exact wrapu8_id (by omega) (by omega) | exact wrapu32_id (by omega) (by omega) | exact wrapu16_id (by omega) (by omega) | exact u8_mod _ | exact u32_mod _ | exact u64_mod _ | exact rfl)) | ((first | apply Pv.beq | apply Pv.bne); exact rfl; exact rfl; kernel_rfl) | ((first | apply Pv.xor | apply Pv.and | apply Pv.or | apply Pv.shr | apply Pv.shl) <;> first | exact rfl | (simp only [IntKind.bits, Nat.and_one_is_mod]; omega)) | ((first | apply Pv.muln | apply Pv.notn) <;> first | exact rfl | (simp only [IntKind.bits, Nat.and_one_is_mod]; omega)) | ((first | apply Pv.fieldAddr | apply Pv.len | apply Pv.indexAddr | apply Pv.build | apply Pv.field | apply Pv.convert | apply Pv.addw | apply Pv.subw | apply Pv.mulw | apply Pv.binOp) <;> first | exact rfl | (intro w; go_simp <;> first | exact rfl | exact ⟨rfl, rfl⟩))))))
      | (apply EA.take 1; decide +kernel; exact rfl; kernel_rfl; decide +kernel; exact fun _ _ _ _ h => h; (first | (apply Pg.off; exact rfl) | (apply Pg.any; exact rfl; (first | (apply Pv.auto; exact rfl) | ((first | apply Pv.add | apply Pv.sub | apply Pv.mul64 | apply Pv.rem | apply Pv.quo) <;> first | exact rfl | omega) | (apply Pv.conv; exact rfl; (intro w; go_simp <;> first | exact rfl | exact ⟨rfl, rfl⟩); (first | exact wrapu64_id (by omega) (by omega) | exact wrap64_id (by omega) (by omega) | exact wrapu8_id (by omega) (by omega) | exact wrapu32_id (by omega) (by omega) | exact wrapu16_id (by omega) (by omega) | exact u8_mod _ | exact u32_mod _ | exact u64_mod _ | exact rfl)) | ((first | apply Pv.beq | apply Pv.bne); exact rfl; exact rfl; kernel_rfl) | ((first | apply Pv.xor | apply Pv.and | apply Pv.or | apply Pv.shr | apply Pv.shl) <;> first | exact rfl | (simp only [IntKind.bits, Nat.and_one_is_mod]; omega)) | ((first | apply Pv.muln | apply Pv.notn) <;> first | exact rfl | (simp only [IntKind.bits, Nat.and_one_is_mod]; omega)) | ((first | apply Pv.fieldAddr | apply Pv.len | apply Pv.indexAddr | apply Pv.build | apply Pv.field | apply Pv.convert | apply Pv.addw | apply Pv.subw | apply Pv.mulw | apply Pv.binOp) <;> first | exact rfl | (intro w; go_simp <;> first | exact rfl | exact ⟨rfl, rfl⟩))))))
      | (apply EA.take 2; decide +kernel; exact rfl; kernel_rfl; decide +kernel; exact fun _ _ _ _ h => h; (first | (apply Pg.off; exact rfl) | (apply Pg.any; exact rfl; (first | (apply Pv.auto; exact rfl) | ((first | apply Pv.add | apply Pv.sub | apply Pv.mul64 | apply Pv.rem | apply Pv.quo) <;> first | exact rfl | omega) | (apply Pv.conv; exact rfl; (intro w; go_simp <;> first | exact rfl | exact ⟨rfl, rfl⟩); (first | exact wrapu64_id (by omega) (by omega) | exact wrap64_id (by omega) (by omega) | exact wrapu8_id (by omega) (by omega) | exact wrapu32_id (by omega) (by omega) | exact wrapu16_id (by omega) (by omega) | exact u8_mod _ | exact u32_mod _ | exact u64_mod _ | exact rfl)) | ((first | apply Pv.beq | apply Pv.bne); exact rfl; exact rfl; kernel_rfl) | ((first | apply Pv.xor | apply Pv.and | apply Pv.or | apply Pv.shr | apply Pv.shl) <;> first | exact rfl | (simp only [IntKind.bits, Nat.and_one_is_mod]; omega)) | ((first | apply Pv.muln | apply Pv.notn) <;> first | exact rfl | (simp only [IntKind.bits, Nat.and_one_is_mod]; omega)) | ((first | apply Pv.fieldAddr | apply Pv.len | apply Pv.indexAddr | apply Pv.build | apply Pv.field | apply Pv.convert | apply Pv.addw | apply Pv.subw | apply Pv.mulw | apply Pv.binOp) <;> first | exact rfl | (intro w; go_simp <;> first | exact rfl | exact ⟨rfl, rfl⟩))))))
      | (apply EA.take 3; decide +kernel; exact rfl; kernel_rfl; decide +kernel; exact fun _ _ _ _ h => h; (first | (apply Pg.off; exact rfl) | (apply Pg.any; exact rfl; (first | (apply Pv.auto; exact rfl) | ((first | apply Pv.add | apply Pv.sub | apply Pv.mul64 | apply Pv.rem | apply Pv.quo) <;> first | exact rfl | omega) | (apply Pv.conv; exact rfl; (intro w; go_simp <;> first | exact rfl | exact ⟨rfl, rfl⟩); (first | exact wrapu64_id (by omega) (by omega) | exact wrap64_id (by omega) (by omega) | exact wrapu8_id (by omega) (by omega) | exact wrapu32_id (by omega) (by omega) | exact wrapu16_id (by omega) (by omega) | exact u8_mod _ | exact u32_mod _ | exact u64_mod _ | exact rfl)) | ((first | apply Pv.beq | apply Pv.bne); exact rfl; exact rfl; kernel_rfl) | ((first | apply Pv.xor | apply Pv.and | apply Pv.or | apply Pv.shr | apply Pv.shl) <;> first | exact rfl | (simp only [IntKind.bits, Nat.and_one_is_mod]; omega)) | ((first | apply Pv.muln | apply Pv.notn) <;> first | exact rfl | (simp only [IntKind.bits, Nat.and_one_is_mod]; omega)) | ((first | apply Pv.fieldAddr | apply Pv.len | apply Pv.indexAddr | apply Pv.build | apply Pv.field | apply Pv.convert | apply Pv.addw | apply Pv.subw | apply Pv.mulw | apply Pv.binOp) <;> first | exact rfl | (intro w; go_simp <;> first | exact rfl | exact ⟨rfl, rfl⟩))))))
      | (apply EA.take 4; decide +kernel; exact rfl; kernel_rfl; decide +kernel; exact fun _ _ _ _ h => h; (first | (apply Pg.off; exact rfl) | (apply Pg.any; exact rfl; (first | (apply Pv.auto; exact rfl) | ((first | apply Pv.add | apply Pv.sub | apply Pv.mul64 | apply Pv.rem | apply Pv.quo) <;> first | exact rfl | omega) | (apply Pv.conv; exact rfl; (intro w; go_simp <;> first | exact rfl | exact ⟨rfl, rfl⟩); (first | exact wrapu64_id (by omega) (by omega) | exact wrap64_id (by omega) (by omega) | exact wrapu8_id (by omega) (by omega) | exact wrapu32_id (by omega) (by omega) | exact wrapu16_id (by omega) (by omega) | exact u8_mod _ | exact u32_mod _ | exact u64_mod _ | exact rfl)) | ((first | apply Pv.beq | apply Pv.bne); exact rfl; exact rfl; kernel_rfl) | ((first | apply Pv.xor | apply Pv.and | apply Pv.or | apply Pv.shr | apply Pv.shl) <;> first | exact rfl | (simp only [IntKind.bits, Nat.and_one_is_mod]; omega)) | ((first | apply Pv.muln | apply Pv.notn) <;> first | exact rfl | (simp only [IntKind.bits, Nat.and_one_is_mod]; omega)) | ((first | apply Pv.fieldAddr | apply Pv.len | apply Pv.indexAddr | apply Pv.build | apply Pv.field | apply Pv.convert | apply Pv.addw | apply Pv.subw | apply Pv.mulw | apply Pv.binOp) <;> first | exact rfl | (intro w; go_simp <;> first | exact rfl | exact ⟨rfl, rfl⟩))))))
      | (apply EA.take 5; decide +kernel; exact rfl; kernel_rfl; decide +kernel; exact fun _ _ _ _ h => h; (first | (apply Pg.off; exact rfl) | (apply Pg.any; exact rfl; (first | (apply Pv.auto; exact rfl) | ((first | apply Pv.add | apply Pv.sub | apply Pv.mul64 | apply Pv.rem | apply Pv.quo) <;> first | exact rfl | omega) | (apply Pv.conv; exact rfl; (intro w; go_simp <;> first | exact rfl | exact ⟨rfl, rfl⟩); (first | exact wrapu64_id (by omega) (by omega) | exact wrap64_id (by omega) (by omega) | exact wrapu8_id (by omega) (by omega) | exact wrapu32_id (by omega) (by omega) | exact wrapu16_id (by omega) (by omega) | exact u8_mod _ | exact u32_mod _ | exact u64_mod _ | exact rfl)) | ((first | apply Pv.beq | apply Pv.bne); exact rfl; exact rfl; kernel_rfl) | ((first | apply Pv.xor | apply Pv.and | apply Pv.or | apply Pv.shr | apply Pv.shl) <;> first | exact rfl | (simp only [IntKind.bits, Nat.and_one_is_mod]; omega)) | ((first | apply Pv.muln | apply Pv.notn) <;> first | exact rfl | (simp only [IntKind.bits, Nat.and_one_is_mod]; omega)) | ((first | apply Pv.fieldAddr | apply Pv.len | apply Pv.indexAddr | apply Pv.build | apply Pv.field | apply Pv.convert | apply Pv.addw | apply Pv.subw | apply Pv.mulw | apply Pv.binOp) <;> first | exact rfl | (intro w; go_simp <;> first | exact rfl | exact ⟨rfl, rfl⟩))))))
      | (apply EA.take 6; decide +kernel; exact rfl; kernel_rfl; decide +kernel; exact fun _ _ _ _ h => h; (first | (apply Pg.off; exact rfl) | (apply Pg.any; exact rfl; (first | (apply Pv.auto; exact rfl) | ((first | apply Pv.add | apply Pv.sub | apply Pv.mul64 | apply Pv.rem | apply Pv.quo) <;> first | exact rfl | omega) | (apply Pv.conv; exact rfl; (intro w; go_simp <;> first | exact rfl | exact ⟨rfl, rfl⟩); (first | exact wrapu64_id (by omega) (by omega) | exact wrap64_id (by omega) (by omega) | exact wrapu8_id (by omega) (by omega) | exact wrapu32_id (by omega) (by omega) | exact wrapu16_id (by omega) (by omega) | exact u8_mod _ | exact u32_mod _ | exact u64_mod _ | exact rfl)) | ((first | apply Pv.beq | apply Pv.bne); exact rfl; exact rfl; kernel_rfl) | ((first | apply Pv.xor | apply Pv.and | apply Pv.or | apply Pv.shr | apply Pv.shl) <;> first | exact rfl | (simp only [IntKind.bits, Nat.and_one_is_mod]; omega)) | ((first | apply Pv.muln | apply Pv.notn) <;> first | exact rfl | (simp only [IntKind.bits, Nat.and_one_is_mod]; omega)) | ((first | apply Pv.fieldAddr | apply Pv.len | apply Pv.indexAddr | apply Pv.build | apply Pv.field | apply Pv.convert | apply Pv.addw | apply Pv.subw | apply Pv.mulw | apply Pv.binOp) <;> first | exact rfl | (intro w; go_simp <;> first | exact rfl | exact ⟨rfl, rfl⟩))))))
      | (apply EA.take 7; decide +kernel; exact rfl; kernel_rfl; decide +kernel; exact fun _ _ _ _ h => h; (first | (apply Pg.off; exact rfl) | (apply Pg.any; exact rfl; (first | (apply Pv.auto; exact rfl) | ((first | apply Pv.add | apply Pv.sub | apply Pv.mul64 | apply Pv.rem | apply Pv.quo) <;> first | exact rfl | omega) | (apply Pv.conv; exact rfl; (intro w; go_simp <;> first | exact rfl | exact ⟨rfl, rfl⟩); (first | exact wrapu64_id (by omega) (by omega) | exact wrap64_id (by omega) (by omega) | exact wrapu8_id (by omega) (by omega) | exact wrapu32_id (by omega) (by omega) | exact wrapu16_id (by omega) (by omega) | exact u8_mod _ | exact u32_mod _ | exact u64_mod _ | exact rfl)) | ((first | apply Pv.beq | apply Pv.bne); exact rfl; exact rfl; kernel_rfl) | ((first | apply Pv.xor | apply Pv.and | apply Pv.or | apply Pv.shr | apply Pv.shl) <;> first | exact rfl | (simp only [IntKind.bits, Nat.and_one_is_mod]; omega)) | ((first | apply Pv.muln | apply Pv.notn) <;> first | exact rfl | (simp only [IntKind.bits, Nat.and_one_is_mod]; omega)) | ((first | apply Pv.fieldAddr | apply Pv.len | apply Pv.indexAddr | apply Pv.build | apply Pv.field | apply Pv.convert | apply Pv.addw | apply Pv.subw | apply Pv.mulw | apply Pv.binOp) <;> first | exact rfl | (intro w; go_simp <;> first | exact rfl | exact ⟨rfl, rfl⟩))))))
      | (apply EA.take 8; decide +kernel; exact rfl; kernel_rfl; decide +kernel; exact fun _ _ _ _ h => h; (first | (apply Pg.off; exact rfl) | (apply Pg.any; exact rfl; (first | (apply Pv.auto; exact rfl) | ((first | apply Pv.add | apply Pv.sub | apply Pv.mul64 | apply Pv.rem | apply Pv.quo) <;> first | exact rfl | omega) | (apply Pv.conv; exact rfl; (intro w; go_simp <;> first | exact rfl | exact ⟨rfl, rfl⟩); (first | exact wrapu64_id (by omega) (by omega) | exact wrap64_id (by omega) (by omega) | exact wrapu8_id (by omega) (by omega) | exact wrapu32_id (by omega) (by omega) | exact wrapu16_id (by omega) (by omega) | exact u8_mod _ | exact u32_mod _ | exact u64_mod _ | exact rfl)) | ((first | apply Pv.beq | apply Pv.bne); exact rfl; exact rfl; kernel_rfl) | ((first | apply Pv.xor | apply Pv.and | apply Pv.or | apply Pv.shr | apply Pv.shl) <;> first | exact rfl | (simp only [IntKind.bits, Nat.and_one_is_mod]; omega)) | ((first | apply Pv.muln | apply Pv.notn) <;> first | exact rfl | (simp only [IntKind.bits, Nat.and_one_is_mod]; omega)) | ((first | apply Pv.fieldAddr | apply Pv.len | apply Pv.indexAddr | apply Pv.build | apply Pv.field | apply Pv.convert | apply Pv.addw | apply Pv.subw | apply Pv.mulw | apply Pv.binOp) <;> first | exact rfl | (intro w; go_simp <;> first | exact rfl | exact ⟨rfl, rfl⟩))))))
      | (apply EA.take 9; decide +kernel; exact rfl; kernel_rfl; decide +kernel; exact fun _ _ _ _ h => h; (first | (apply Pg.off; exact rfl) | (apply Pg.any; exact rfl; (first | (apply Pv.auto; exact rfl) | ((first | apply Pv.add | apply Pv.sub | apply Pv.mul64 | apply Pv.rem | apply Pv.quo) <;> first | exact rfl | omega) | (apply Pv.conv; exact rfl; (intro w; go_simp <;> first | exact rfl | exact ⟨rfl, rfl⟩); (first | exact wrapu64_id (by omega) (by omega) | exact wrap64_id (by omega) (by omega) | exact wrapu8_id (by omega) (by omega) | exact wrapu32_id (by omega) (by omega) | exact wrapu16_id (by omega) (by omega) | exact u8_mod _ | exact u32_mod _ | exact u64_mod _ | exact rfl)) | ((first | apply Pv.beq | apply Pv.bne); exact rfl; exact rfl; kernel_rfl) | ((first | apply Pv.xor | apply Pv.and | apply Pv.or | apply Pv.shr | apply Pv.shl) <;> first | exact rfl | (simp only [IntKind.bits, Nat.and_one_is_mod]; omega)) | ((first | apply Pv.muln | apply Pv.notn) <;> first | exact rfl | (simp only [IntKind.bits, Nat.and_one_is_mod]; omega)) | ((first | apply Pv.fieldAddr | apply Pv.len | apply Pv.indexAddr | apply Pv.build | apply Pv.field | apply Pv.convert | apply Pv.addw | apply Pv.subw | apply Pv.mulw | apply Pv.binOp) <;> first | exact rfl | (intro w; go_simp <;> first | exact rfl | exact ⟨rfl, rfl⟩))))))
      | (apply EA.take 10; decide +kernel; exact rfl; kernel_rfl; decide +kernel; exact fun _ _ _ _ h => h; (first | (apply Pg.off; exact rfl) | (apply Pg.any; exact rfl; (first | (apply Pv.auto; exact rfl) | ((first | apply Pv.add | apply Pv.sub | apply Pv.mul64 | apply Pv.rem | apply Pv.quo) <;> first | exact rfl | omega) | (apply Pv.conv; exact rfl; (intro w; go_simp <;> first | exact rfl | exact ⟨rfl, rfl⟩); (first | exact wrapu64_id (by omega) (by omega) | exact wrap64_id (by omega) (by omega) | exact wrapu8_id (by omega) (by omega) | exact wrapu32_id (by omega) (by omega) | exact wrapu16_id (by omega) (by omega) | exact u8_mod _ | exact u32_mod _ | exact u64_mod _ | exact rfl)) | ((first | apply Pv.beq | apply Pv.bne); exact rfl; exact rfl; kernel_rfl) | ((first | apply Pv.xor | apply Pv.and | apply Pv.or | apply Pv.shr | apply Pv.shl) <;> first | exact rfl | (simp only [IntKind.bits, Nat.and_one_is_mod]; omega)) | ((first | apply Pv.muln | apply Pv.notn) <;> first | exact rfl | (simp only [IntKind.bits, Nat.and_one_is_mod]; omega)) | ((first | apply Pv.fieldAddr | apply Pv.len | apply Pv.indexAddr | apply Pv.build | apply Pv.field | apply Pv.convert | apply Pv.addw | apply Pv.subw | apply Pv.mulw | apply Pv.binOp) <;> first | exact rfl | (intro w; go_simp <;> first | exact rfl | exact ⟨rfl, rfl⟩))))))
      | (apply EA.take 11; decide +kernel; exact rfl; kernel_rfl; decide +kernel; exact fun _ _ _ _ h => h; (first | (apply Pg.off; exact rfl) | (apply Pg.any; exact rfl; (first | (apply Pv.auto; exact rfl) | ((first | apply Pv.add | apply Pv.sub | apply Pv.mul64 | apply Pv.rem | apply Pv.quo) <;> first | exact rfl | omega) | (apply Pv.conv; exact rfl; (intro w; go_simp <;> first | exact rfl | exact ⟨rfl, rfl⟩); (first | exact wrapu64_id (by omega) (by omega) | exact wrap64_id (by omega) (by omega) | exact wrapu8_id (by omega) (by omega) | exact wrapu32_id (by omega) (by omega) | exact wrapu16_id (by omega) (by omega) | exact u8_mod _ | exact u32_mod _ | exact u64_mod _ | exact rfl)) | ((first | apply Pv.beq | apply Pv.bne); exact rfl; exact rfl; kernel_rfl) | ((first | apply Pv.xor | apply Pv.and | apply Pv.or | apply Pv.shr | apply Pv.shl) <;> first | exact rfl | (simp only [IntKind.bits, Nat.and_one_is_mod]; omega)) | ((first | apply Pv.muln | apply Pv.notn) <;> first | exact rfl | (simp only [IntKind.bits, Nat.and_one_is_mod]; omega)) | ((first | apply Pv.fieldAddr | apply Pv.len | apply Pv.indexAddr | apply Pv.build | apply Pv.field | apply Pv.convert | apply Pv.addw | apply Pv.subw | apply Pv.mulw | apply Pv.binOp) <;> first | exact rfl | (intro w; go_simp <;> first | exact rfl | exact ⟨rfl, rfl⟩)))))))
    have hs := hs.nilOwn (E := 5) (size := 1)
    have hpt := pr_take hp1 (k := v) (by omega)
    rw [← bs_take] at hpt
    apply EA.one 3
    · decide +kernel
    · exact rfl
    apply St.append el_u8 hs (hpt.row hs) (bs_one _) (by omega) (by omega)
    · exact rfl
    · exact rfl
    intro a2 c2 w3 _ _ hs
    rw [List.nil_append] at hs
    rw [Nat.zero_add] at hs ⊢
    repeat (first
      | (apply EA.take 0; decide +kernel; exact rfl; kernel_rfl; decide +kernel; exact fun _ _ _ _ h => h; (first | (apply Pg.off; exact rfl) | (apply Pg.any; exact rfl; (first | (apply Pv.auto; exact rfl) | ((first | apply Pv.add | apply Pv.sub | apply Pv.mul64 | apply Pv.rem | apply Pv.quo) <;> first | exact rfl | omega) | (apply Pv.conv; exact rfl; (intro w; go_simp <;> first | exact rfl | exact ⟨rfl, rfl⟩); (first | exact wrapu64_id (by omega) (by omega) | exact wrap64_id (by omega) (by omega) | exact wrapu8_id (by omega) (by omega) | exact wrapu32_id (by omega) (by omega) | exact wrapu16_id (by omega) (by omega) | exact u8_mod _ | exact u32_mod _ | exact u64_mod _ | exact rfl)) | ((first | apply Pv.beq | apply Pv.bne); exact rfl; exact rfl; kernel_rfl) | ((first | apply Pv.xor | apply Pv.and | apply Pv.or | apply Pv.shr | apply Pv.shl) <;> first | exact rfl | (simp only [IntKind.bits, Nat.and_one_is_mod]; omega)) | ((first | apply Pv.muln | apply Pv.notn) <;> first | exact rfl | (simp only [IntKind.bits, Nat.and_one_is_mod]; omega)) | ((first | apply Pv.fieldAddr | apply Pv.len | apply Pv.indexAddr | apply Pv.build | apply Pv.field | apply Pv.convert | apply Pv.addw | apply Pv.subw | apply Pv.mulw | apply Pv.binOp) <;> first | exact rfl | (intro w; go_simp <;> first | exact rfl | exact ⟨rfl, rfl⟩))))))
      | (apply EA.take 1; decide +kernel; exact rfl; kernel_rfl; decide +kernel; exact fun _ _ _ _ h => h; (first | (apply Pg.off; exact rfl) | (apply Pg.any; exact rfl; (first | (apply Pv.auto; exact rfl) | ((first | apply Pv.add | apply Pv.sub | apply Pv.mul64 | apply Pv.rem | apply Pv.quo) <;> first | exact rfl | omega) | (apply Pv.conv; exact rfl; (intro w; go_simp <;> first | exact rfl | exact ⟨rfl, rfl⟩); (first | exact wrapu64_id (by omega) (by omega) | exact wrap64_id (by omega) (by omega) | exact wrapu8_id (by omega) (by omega) | exact wrapu32_id (by omega) (by omega) | exact wrapu16_id (by omega) (by omega) | exact u8_mod _ | exact u32_mod _ | exact u64_mod _ | exact rfl)) | ((first | apply Pv.beq | apply Pv.bne); exact rfl; exact rfl; kernel_rfl) | ((first | apply Pv.xor | apply Pv.and | apply Pv.or | apply Pv.shr | apply Pv.shl) <;> first | exact rfl | (simp only [IntKind.bits, Nat.and_one_is_mod]; omega)) | ((first | apply Pv.muln | apply Pv.notn) <;> first | exact rfl | (simp only [IntKind.bits, Nat.and_one_is_mod]; omega)) | ((first | apply Pv.fieldAddr | apply Pv.len | apply Pv.indexAddr | apply Pv.build | apply Pv.field | apply Pv.convert | apply Pv.addw | apply Pv.subw | apply Pv.mulw | apply Pv.binOp) <;> first | exact rfl | (intro w; go_simp <;> first | exact rfl | exact ⟨rfl, rfl⟩))))))
      | (apply EA.take 2; decide +kernel; exact rfl; kernel_rfl; decide +kernel; exact fun _ _ _ _ h => h; (first | (apply Pg.off; exact rfl) | (apply Pg.any; exact rfl; (first | (apply Pv.auto; exact rfl) | ((first | apply Pv.add | apply Pv.sub | apply Pv.mul64 | apply Pv.rem | apply Pv.quo) <;> first | exact rfl | omega) | (apply Pv.conv; exact rfl; (intro w; go_simp <;> first | exact rfl | exact ⟨rfl, rfl⟩); (first | exact wrapu64_id (by omega) (by omega) | exact wrap64_id (by omega) (by omega) | exact wrapu8_id (by omega) (by omega) | exact wrapu32_id (by omega) (by omega) | exact wrapu16_id (by omega) (by omega) | exact u8_mod _ | exact u32_mod _ | exact u64_mod _ | exact rfl)) | ((first | apply Pv.beq | apply Pv.bne); exact rfl; exact rfl; kernel_rfl) | ((first | apply Pv.xor | apply Pv.and | apply Pv.or | apply Pv.shr | apply Pv.shl) <;> first | exact rfl | (simp only [IntKind.bits, Nat.and_one_is_mod]; omega)) | ((first | apply Pv.muln | apply Pv.notn) <;> first | exact rfl | (simp only [IntKind.bits, Nat.and_one_is_mod]; omega)) | ((first | apply Pv.fieldAddr | apply Pv.len | apply Pv.indexAddr | apply Pv.build | apply Pv.field | apply Pv.convert | apply Pv.addw | apply Pv.subw | apply Pv.mulw | apply Pv.binOp) <;> first | exact rfl | (intro w; go_simp <;> first | exact rfl | exact ⟨rfl, rfl⟩))))))
      | (apply EA.take 3; decide +kernel; exact rfl; kernel_rfl; decide +kernel; exact fun _ _ _ _ h => h; (first | (apply Pg.off; exact rfl) | (apply Pg.any; exact rfl; (first | (apply Pv.auto; exact rfl) | ((first | apply Pv.add | apply Pv.sub | apply Pv.mul64 | apply Pv.rem | apply Pv.quo) <;> first | exact rfl | omega) | (apply Pv.conv; exact rfl; (intro w; go_simp <;> first | exact rfl | exact ⟨rfl, rfl⟩); (first | exact wrapu64_id (by omega) (by omega) | exact wrap64_id (by omega) (by omega) | exact wrapu8_id (by omega) (by omega) | exact wrapu32_id (by omega) (by omega) | exact wrapu16_id (by omega) (by omega) | exact u8_mod _ | exact u32_mod _ | exact u64_mod _ | exact rfl)) | ((first | apply Pv.beq | apply Pv.bne); exact rfl; exact rfl; kernel_rfl) | ((first | apply Pv.xor | apply Pv.and | apply Pv.or | apply Pv.shr | apply Pv.shl) <;> first | exact rfl | (simp only [IntKind.bits, Nat.and_one_is_mod]; omega)) | ((first | apply Pv.muln | apply Pv.notn) <;> first | exact rfl | (simp only [IntKind.bits, Nat.and_one_is_mod]; omega)) | ((first | apply Pv.fieldAddr | apply Pv.len | apply Pv.indexAddr | apply Pv.build | apply Pv.field | apply Pv.convert | apply Pv.addw | apply Pv.subw | apply Pv.mulw | apply Pv.binOp) <;> first | exact rfl | (intro w; go_simp <;> first | exact rfl | exact ⟨rfl, rfl⟩))))))
      | (apply EA.take 4; decide +kernel; exact rfl; kernel_rfl; decide +kernel; exact fun _ _ _ _ h => h; (first | (apply Pg.off; exact rfl) | (apply Pg.any; exact rfl; (first | (apply Pv.auto; exact rfl) | ((first | apply Pv.add | apply Pv.sub | apply Pv.mul64 | apply Pv.rem | apply Pv.quo) <;> first | exact rfl | omega) | (apply Pv.conv; exact rfl; (intro w; go_simp <;> first | exact rfl | exact ⟨rfl, rfl⟩); (first | exact wrapu64_id (by omega) (by omega) | exact wrap64_id (by omega) (by omega) | exact wrapu8_id (by omega) (by omega) | exact wrapu32_id (by omega) (by omega) | exact wrapu16_id (by omega) (by omega) | exact u8_mod _ | exact u32_mod _ | exact u64_mod _ | exact rfl)) | ((first | apply Pv.beq | apply Pv.bne); exact rfl; exact rfl; kernel_rfl) | ((first | apply Pv.xor | apply Pv.and | apply Pv.or | apply Pv.shr | apply Pv.shl) <;> first | exact rfl | (simp only [IntKind.bits, Nat.and_one_is_mod]; omega)) | ((first | apply Pv.muln | apply Pv.notn) <;> first | exact rfl | (simp only [IntKind.bits, Nat.and_one_is_mod]; omega)) | ((first | apply Pv.fieldAddr | apply Pv.len | apply Pv.indexAddr | apply Pv.build | apply Pv.field | apply Pv.convert | apply Pv.addw | apply Pv.subw | apply Pv.mulw | apply Pv.binOp) <;> first | exact rfl | (intro w; go_simp <;> first | exact rfl | exact ⟨rfl, rfl⟩))))))
      | (apply EA.take 5; decide +kernel; exact rfl; kernel_rfl; decide +kernel; exact fun _ _ _ _ h => h; (first | (apply Pg.off; exact rfl) | (apply Pg.any; exact rfl; (first | (apply Pv.auto; exact rfl) | ((first | apply Pv.add | apply Pv.sub | apply Pv.mul64 | apply Pv.rem | apply Pv.quo) <;> first | exact rfl | omega) | (apply Pv.conv; exact rfl; (intro w; go_simp <;> first | exact rfl | exact ⟨rfl, rfl⟩); (first | exact wrapu64_id (by omega) (by omega) | exact wrap64_id (by omega) (by omega) | exact wrapu8_id (by omega) (by omega) | exact wrapu32_id (by omega) (by omega) | exact wrapu16_id (by omega) (by omega) | exact u8_mod _ | exact u32_mod _ | exact u64_mod _ | exact rfl)) | ((first | apply Pv.beq | apply Pv.bne); exact rfl; exact rfl; kernel_rfl) | ((first | apply Pv.xor | apply Pv.and | apply Pv.or | apply Pv.shr | apply Pv.shl) <;> first | exact rfl | (simp only [IntKind.bits, Nat.and_one_is_mod]; omega)) | ((first | apply Pv.muln | apply Pv.notn) <;> first | exact rfl | (simp only [IntKind.bits, Nat.and_one_is_mod]; omega)) | ((first | apply Pv.fieldAddr | apply Pv.len | apply Pv.indexAddr | apply Pv.build | apply Pv.field | apply Pv.convert | apply Pv.addw | apply Pv.subw | apply Pv.mulw | apply Pv.binOp) <;> first | exact rfl | (intro w; go_simp <;> first | exact rfl | exact ⟨rfl, rfl⟩))))))
      | (apply EA.take 6; decide +kernel; exact rfl; kernel_rfl; decide +kernel; exact fun _ _ _ _ h => h; (first | (apply Pg.off; exact rfl) | (apply Pg.any; exact rfl; (first | (apply Pv.auto; exact rfl) | ((first | apply Pv.add | apply Pv.sub | apply Pv.mul64 | apply Pv.rem | apply Pv.quo) <;> first | exact rfl | omega) | (apply Pv.conv; exact rfl; (intro w; go_simp <;> first | exact rfl | exact ⟨rfl, rfl⟩); (first | exact wrapu64_id (by omega) (by omega) | exact wrap64_id (by omega) (by omega) | exact wrapu8_id (by omega) (by omega) | exact wrapu32_id (by omega) (by omega) | exact wrapu16_id (by omega) (by omega) | exact u8_mod _ | exact u32_mod _ | exact u64_mod _ | exact rfl)) | ((first | apply Pv.beq | apply Pv.bne); exact rfl; exact rfl; kernel_rfl) | ((first | apply Pv.xor | apply Pv.and | apply Pv.or | apply Pv.shr | apply Pv.shl) <;> first | exact rfl | (simp only [IntKind.bits, Nat.and_one_is_mod]; omega)) | ((first | apply Pv.muln | apply Pv.notn) <;> first | exact rfl | (simp only [IntKind.bits, Nat.and_one_is_mod]; omega)) | ((first | apply Pv.fieldAddr | apply Pv.len | apply Pv.indexAddr | apply Pv.build | apply Pv.field | apply Pv.convert | apply Pv.addw | apply Pv.subw | apply Pv.mulw | apply Pv.binOp) <;> first | exact rfl | (intro w; go_simp <;> first | exact rfl | exact ⟨rfl, rfl⟩))))))
      | (apply EA.take 7; decide +kernel; exact rfl; kernel_rfl; decide +kernel; exact fun _ _ _ _ h => h; (first | (apply Pg.off; exact rfl) | (apply Pg.any; exact rfl; (first | (apply Pv.auto; exact rfl) | ((first | apply Pv.add | apply Pv.sub | apply Pv.mul64 | apply Pv.rem | apply Pv.quo) <;> first | exact rfl | omega) | (apply Pv.conv; exact rfl; (intro w; go_simp <;> first | exact rfl | exact ⟨rfl, rfl⟩); (first | exact wrapu64_id (by omega) (by omega) | exact wrap64_id (by omega) (by omega) | exact wrapu8_id (by omega) (by omega) | exact wrapu32_id (by omega) (by omega) | exact wrapu16_id (by omega) (by omega) | exact u8_mod _ | exact u32_mod _ | exact u64_mod _ | exact rfl)) | ((first | apply Pv.beq | apply Pv.bne); exact rfl; exact rfl; kernel_rfl) | ((first | apply Pv.xor | apply Pv.and | apply Pv.or | apply Pv.shr | apply Pv.shl) <;> first | exact rfl | (simp only [IntKind.bits, Nat.and_one_is_mod]; omega)) | ((first | apply Pv.muln | apply Pv.notn) <;> first | exact rfl | (simp only [IntKind.bits, Nat.and_one_is_mod]; omega)) | ((first | apply Pv.fieldAddr | apply Pv.len | apply Pv.indexAddr | apply Pv.build | apply Pv.field | apply Pv.convert | apply Pv.addw | apply Pv.subw | apply Pv.mulw | apply Pv.binOp) <;> first | exact rfl | (intro w; go_simp <;> first | exact rfl | exact ⟨rfl, rfl⟩))))))
      | (apply EA.take 8; decide +kernel; exact rfl; kernel_rfl; decide +kernel; exact fun _ _ _ _ h => h; (first | (apply Pg.off; exact rfl) | (apply Pg.any; exact rfl; (first | (apply Pv.auto; exact rfl) | ((first | apply Pv.add | apply Pv.sub | apply Pv.mul64 | apply Pv.rem | apply Pv.quo) <;> first | exact rfl | omega) | (apply Pv.conv; exact rfl; (intro w; go_simp <;> first | exact rfl | exact ⟨rfl, rfl⟩); (first | exact wrapu64_id (by omega) (by omega) | exact wrap64_id (by omega) (by omega) | exact wrapu8_id (by omega) (by omega) | exact wrapu32_id (by omega) (by omega) | exact wrapu16_id (by omega) (by omega) | exact u8_mod _ | exact u32_mod _ | exact u64_mod _ | exact rfl)) | ((first | apply Pv.beq | apply Pv.bne); exact rfl; exact rfl; kernel_rfl) | ((first | apply Pv.xor | apply Pv.and | apply Pv.or | apply Pv.shr | apply Pv.shl) <;> first | exact rfl | (simp only [IntKind.bits, Nat.and_one_is_mod]; omega)) | ((first | apply Pv.muln | apply Pv.notn) <;> first | exact rfl | (simp only [IntKind.bits, Nat.and_one_is_mod]; omega)) | ((first | apply Pv.fieldAddr | apply Pv.len | apply Pv.indexAddr | apply Pv.build | apply Pv.field | apply Pv.convert | apply Pv.addw | apply Pv.subw | apply Pv.mulw | apply Pv.binOp) <;> first | exact rfl | (intro w; go_simp <;> first | exact rfl | exact ⟨rfl, rfl⟩))))))
      | (apply EA.take 9; decide +kernel; exact rfl; kernel_rfl; decide +kernel; exact fun _ _ _ _ h => h; (first | (apply Pg.off; exact rfl) | (apply Pg.any; exact rfl; (first | (apply Pv.auto; exact rfl) | ((first | apply Pv.add | apply Pv.sub | apply Pv.mul64 | apply Pv.rem | apply Pv.quo) <;> first | exact rfl | omega) | (apply Pv.conv; exact rfl; (intro w; go_simp <;> first | exact rfl | exact ⟨rfl, rfl⟩); (first | exact wrapu64_id (by omega) (by omega) | exact wrap64_id (by omega) (by omega) | exact wrapu8_id (by omega) (by omega) | exact wrapu32_id (by omega) (by omega) | exact wrapu16_id (by omega) (by omega) | exact u8_mod _ | exact u32_mod _ | exact u64_mod _ | exact rfl)) | ((first | apply Pv.beq | apply Pv.bne); exact rfl; exact rfl; kernel_rfl) | ((first | apply Pv.xor | apply Pv.and | apply Pv.or | apply Pv.shr | apply Pv.shl) <;> first | exact rfl | (simp only [IntKind.bits, Nat.and_one_is_mod]; omega)) | ((first | apply Pv.muln | apply Pv.notn) <;> first | exact rfl | (simp only [IntKind.bits, Nat.and_one_is_mod]; omega)) | ((first | apply Pv.fieldAddr | apply Pv.len | apply Pv.indexAddr | apply Pv.build | apply Pv.field | apply Pv.convert | apply Pv.addw | apply Pv.subw | apply Pv.mulw | apply Pv.binOp) <;> first | exact rfl | (intro w; go_simp <;> first | exact rfl | exact ⟨rfl, rfl⟩))))))
      | (apply EA.take 10; decide +kernel; exact rfl; kernel_rfl; decide +kernel; exact fun _ _ _ _ h => h; (first | (apply Pg.off; exact rfl) | (apply Pg.any; exact rfl; (first | (apply Pv.auto; exact rfl) | ((first | apply Pv.add | apply Pv.sub | apply Pv.mul64 | apply Pv.rem | apply Pv.quo) <;> first | exact rfl | omega) | (apply Pv.conv; exact rfl; (intro w; go_simp <;> first | exact rfl | exact ⟨rfl, rfl⟩); (first | exact wrapu64_id (by omega) (by omega) | exact wrap64_id (by omega) (by omega) | exact wrapu8_id (by omega) (by omega) | exact wrapu32_id (by omega) (by omega) | exact wrapu16_id (by omega) (by omega) | exact u8_mod _ | exact u32_mod _ | exact u64_mod _ | exact rfl)) | ((first | apply Pv.beq | apply Pv.bne); exact rfl; exact rfl; kernel_rfl) | ((first | apply Pv.xor | apply Pv.and | apply Pv.or | apply Pv.shr | apply Pv.shl) <;> first | exact rfl | (simp only [IntKind.bits, Nat.and_one_is_mod]; omega)) | ((first | apply Pv.muln | apply Pv.notn) <;> first | exact rfl | (simp only [IntKind.bits, Nat.and_one_is_mod]; omega)) | ((first | apply Pv.fieldAddr | apply Pv.len | apply Pv.indexAddr | apply Pv.build | apply Pv.field | apply Pv.convert | apply Pv.addw | apply Pv.subw | apply Pv.mulw | apply Pv.binOp) <;> first | exact rfl | (intro w; go_simp <;> first | exact rfl | exact ⟨rfl, rfl⟩))))))
      | (apply EA.take 11; decide +kernel; exact rfl; kernel_rfl; decide +kernel; exact fun _ _ _ _ h => h; (first | (apply Pg.off; exact rfl) | (apply Pg.any; exact rfl; (first | (apply Pv.auto; exact rfl) | ((first | apply Pv.add | apply Pv.sub | apply Pv.mul64 | apply Pv.rem | apply Pv.quo) <;> first | exact rfl | omega) | (apply Pv.conv; exact rfl; (intro w; go_simp <;> first | exact rfl | exact ⟨rfl, rfl⟩); (first | exact wrapu64_id (by omega) (by omega) | exact wrap64_id (by omega) (by omega) | exact wrapu8_id (by omega) (by omega) | exact wrapu32_id (by omega) (by omega) | exact wrapu16_id (by omega) (by omega) | exact u8_mod _ | exact u32_mod _ | exact u64_mod _ | exact rfl)) | ((first | apply Pv.beq | apply Pv.bne); exact rfl; exact rfl; kernel_rfl) | ((first | apply Pv.xor | apply Pv.and | apply Pv.or | apply Pv.shr | apply Pv.shl) <;> first | exact rfl | (simp only [IntKind.bits, Nat.and_one_is_mod]; omega)) | ((first | apply Pv.muln | apply Pv.notn) <;> first | exact rfl | (simp only [IntKind.bits, Nat.and_one_is_mod]; omega)) | ((first | apply Pv.fieldAddr | apply Pv.len | apply Pv.indexAddr | apply Pv.build | apply Pv.field | apply Pv.convert | apply Pv.addw | apply Pv.subw | apply Pv.mulw | apply Pv.binOp) <;> first | exact rfl | (intro w; go_simp <;> first | exact rfl | exact ⟨rfl, rfl⟩)))))))
    apply EA.done
    · decide +kernel
    refine go ?_
    refine A.r3 ?_
    have hp2 := pr_drop hp1 (k := v) (o' := o2) (by omega) (ho2.imp id (by omega))
    rw [← bs_drop, List.drop_drop] at hp2
    exact HOK.out v k _ _ _ _ _ _ ht hk (by omega) (by omega) hs hp2
  · intro e w1 ht he hs
    rcases he with rfl | rfl
    all_goals
      refine go ?_
      refine A.r3 ?_
      exact HErr.out _ _ (.inl ⟨ht, by omega⟩) hs
end Go.Proofs.YtfhmamkafancbaaGreatDoor

/-
  Layer 2 (digits): a tape: bytes that are read from the front; at a fault it panics.
-/
namespace Go.Proofs.YtfhmamkafancbaaGreatDoor
open Go.RowKit
set_option linter.unusedVariables false
set_option linter.unusedSimpArgs false
/-- A tape: a block that holds a row of the pool's. -/
def tape (b : Nat) (l : List UInt8) : HP :=
  exs fun q : Option Addr × Nat => wit (fun g => Pr 1 g (.slice q.1 l.length q.2) l.length (bs l)) (fun _ _ hg h => h.mono hg) (blk b [.slice q.1 l.length q.2] 269)
theorem tape_open {W w : World} {g : Hl} {H : List HP} {b : Nat} {l : List UInt8} (hs : Sat W w g (tape b l :: H)) : ∃ a c, Pr 1 g (.slice a l.length c) l.length (bs l) ∧ Sat W w g (blk b [.slice a l.length c] 269 :: H) := by
  obtain ⟨⟨a, c⟩, h⟩ := hs.unexs
  exact ⟨a, c, h.unwit.1, h.unwit.2⟩
theorem tape_close {W w : World} {g : Hl} {H : List HP} {b c n : Nat} {a : Option Addr} {l : List UInt8} (hn : l.length = n) (hp : Pr 1 g (.slice a n c) n (bs l)) (hs : Sat W w g (blk b [.slice a n c] 269 :: H)) : Sat W w g (tape b l :: H) := by
  subst hn
  exact Sat.mkexs (a, c) (Sat.mkwit hp hs)
/-- A fault, as it is raised. -/
def flt (e : Int) : List PanicEntry := [{ v := .iface 267 (.agg #[.int .i64 e]), recovered := false }]
def rdByte : List UInt8 → Except Int (UInt8 × List UInt8)
  | [] => .error 5
  | u :: l => .ok (u, l)
def rdNum (most : Nat) (l : List UInt8) : Except Int (Nat × List UInt8) :=
  match takeGo 0 0 l with
  | (v, k, e) => if e ≠ 0 then .error e else if most < v then .error 6 else .ok (v, l.drop k)
def rdText (most : Nat) (l : List UInt8) : Except Int (List UInt8 × List UInt8) :=
  match takeGo 0 0 l with
  | (v, k, e) => if e ≠ 0 then .error e else if most < v then .error 6 else if l.length < k + v then .error 5 else .ok ((l.drop k).take v, l.drop (k + v))
set_option maxHeartbeats 1600000 in
set_option maxRecDepth 100000 in
theorem newTape_any {R : Ending → World → Prop} {W w : World} {g : Hl} {H : List HP} {a : Option Addr} {c n : Nat} {l : List UInt8} (hn : l.length = n) (hs : Sat W w g H) (hp : Pr 1 g (.slice a n c) n (bs l))
    (hR : ∀ b w', Sat W w' g (tape b l :: H) → R (.returned (.pointer (some ⟨b, 0, none⟩))) w') : Calls Tryz.prog 179 #[.slice a n c] w R := by
  have HR := Lib.hid hR
  clear hR
  refine C.calls (args := [.slice a n c]) Tryz.func179 rfl rfl rfl ?_
  refine go ?_
  refine E.bx hs ?_
  intro b w1 hs
  refine go ?_
  refine A.r1 ?_
  exact HR.out _ _ (tape_close hn hp hs)
set_option maxHeartbeats 1600000 in
set_option maxRecDepth 100000 in
theorem must_any {R : Ending → World → Prop} {w : World} (e : Int) (h0 : e = 0 → R (.returned (.tuple #[])) w) (h1 : e ≠ 0 → R (.panicked (flt e)) w) : Calls Tryz.prog 222 #[.int .i64 e] w R := by
  refine C.calls (args := [.int .i64 e]) Tryz.func222 rfl rfl rfl ?_
  refine go ?_
  by_cases h : e = 0
  · refine C.cond rfl (fun hh => by simp [h] at hh) (fun _ => ?_)
    refine go ?_
    exact A.e0 (h0 h)
  · refine C.cond rfl (fun _ => ?_) (fun hh => by simp [h] at hh)
    refine go ?_
    refine E.panic ?_
    refine go ?_
    exact h1 h
set_option maxHeartbeats 1600000 in
set_option maxRecDepth 100000 in
theorem done_any {R : Ending → World → Prop} {W w : World} {g : Hl} {H : List HP} {b : Nat} {l : List UInt8} (hs : Sat W w g (tape b l :: H)) (hR : l = [] → R (.returned (.tuple #[])) w) (hE : l ≠ [] → R (.panicked (flt 4)) w) : Calls Tryz.prog 187 #[.pointer (some ⟨b, 0, none⟩)] w R := by
  obtain ⟨a, c, hp, hs⟩ := tape_open hs
  refine C.calls (args := [.pointer (some ⟨b, 0, none⟩)]) Tryz.func187 rfl rfl rfl ?_
  refine go ?_
  by_cases h : l = []
  · subst h
    refine C.cond rfl (fun hh => by simp at hh) (fun _ => ?_)
    refine go ?_
    exact A.e0 (hR rfl)
  · have hpos : 0 < l.length := List.length_pos_iff.2 h
    refine C.cond_dec rfl (fun _ => ?_) (fun hh => by omega)
    refine go ?_
    refine E.callf Tryz.func222 rfl ?_
    refine must_any 4 (fun h => by cases h) (fun _ => ?_)
    refine go ?_
    exact hE h
set_option maxHeartbeats 1600000 in
set_option maxRecDepth 100000 in
theorem byte_any {R : Ending → World → Prop} {W w : World} {g : Hl} {H : List HP} {b : Nat} {l : List UInt8} (hs : Sat W w g (tape b l :: H)) (hR : ∀ u r w', l = u :: r → Sat W w' g (tape b r :: H) → R (.returned (.int .u8 u.toNat)) w') (hE : l = [] → R (.panicked (flt 5)) w) :
    Calls Tryz.prog 185 #[.pointer (some ⟨b, 0, none⟩)] w R := by
  have HR := Lib.hid hR
  have HE := Lib.hid hE
  clear hR hE
  obtain ⟨a, c, hp, hs⟩ := tape_open hs
  cases l with
  | nil =>
    refine C.calls (args := [.pointer (some ⟨b, 0, none⟩)]) Tryz.func185 rfl rfl rfl ?_
    refine go ?_
    refine E.callf Tryz.func222 rfl ?_
    refine must_any 5 (fun h => by cases h) (fun _ => ?_)
    refine go ?_
    exact HE.out rfl
  | cons u l =>
    rw [List.length_cons] at hp hs
    have hne : ¬ ((l.length : Int) + 1 = 0) := by omega
    refine C.calls (args := [.pointer (some ⟨b, 0, none⟩)]) Tryz.func185 rfl rfl rfl ?_
    refine go ?_
    refine E.ix el_u8 hs hp 0 (v := .int .u8 u.toNat) rfl ?_
    intro b1 o1 hc
    refine go ?_
    refine E.slb el_u8 hp 1 (l.length + 1) ?_
    intro a2 c2 hp2
    refine go ?_
    refine E.sto hs ?_
    intro w3 hs
    refine go ?_
    refine A.r1 ?_
    refine HR.out _ _ _ rfl (tape_close ?_ ?_ hs)
    · simp
    · simpa using hp2
set_option maxHeartbeats 1600000 in
set_option maxRecDepth 100000 in
theorem num_any {R : Ending → World → Prop} {W w : World} {g : Hl} {H : List HP} {b : Nat} {l : List UInt8} (most : Nat) {mi : Int} (hmi : mi = most) (hs : Sat W w g (tape b l :: H)) (hR : ∀ v r w', rdNum most l = .ok (v, r) → v ≤ most → v < 18446744073709551616 → Sat W w' g (tape b r :: H) → R (.returned (.int .u64 v)) w') (hE : ∀ e w', rdNum most l = .error e → e ≠ 0 → Sat W w' g H → R (.panicked (flt e)) w') :
    Calls Tryz.prog 181 #[.pointer (some ⟨b, 0, none⟩), .int .u64 mi] w R := by
  have HR := Lib.hid hR
  have HE := Lib.hid hE
  clear hR hE
  subst hmi
  obtain ⟨a, c, hp, hs⟩ := tape_open hs
  refine C.calls (args := [.pointer (some ⟨b, 0, none⟩), .int .u64 most]) Tryz.func181 rfl rfl rfl ?_
  refine go ?_
  refine E.callf Tryz.func221 rfl ?_
  refine take_any hs hp rfl ?_ ?_
  · intro v k b' o' c' w1 ht hk hkn hv hs hp2
    refine go ?_
    refine E.callf Tryz.func222 rfl ?_
    refine must_any 0 (fun _ => ?_) (fun h => absurd rfl h)
    refine go ?_
    refine C.cond_dec (p := (most : Int) < v) rfl (fun h => ?_) (fun h => ?_)
    · refine go ?_
      refine E.callf Tryz.func222 rfl ?_
      refine must_any 6 (fun h => by cases h) (fun _ => ?_)
      refine go ?_
      refine HE.out 6 _ ?_ (by decide) hs.drop
      simp only [rdNum, ht]
      rw [if_neg (by simp), if_pos (by omega)]
    · refine go ?_
      refine E.sto hs ?_
      intro w3 hs
      refine go ?_
      refine A.r1 ?_
      refine HR.out v (l.drop k) _ ?_ (by omega) hv (tape_close ?_ hp2 hs)
      · simp only [rdNum, ht]
        rw [if_neg (by simp), if_neg (by omega)]
      · simp
  · intro e w1 ht he hs
    have hne : e ≠ 0 := by omega
    refine go ?_
    refine E.callf Tryz.func222 rfl ?_
    refine must_any e (fun h => absurd h hne) (fun _ => ?_)
    refine go ?_
    refine HE.out e _ ?_ hne hs.drop
    simp only [rdNum, ht]
    rw [if_pos hne]
end Go.Proofs.YtfhmamkafancbaaGreatDoor

/-
  Layer 2 (digits): Caught, where nothing was raised, and where a fault was.
-/
namespace Go.Proofs.YtfhmamkafancbaaGreatDoor
open Go.RowKit
set_option linter.unusedVariables false
set_option linter.unusedSimpArgs false
set_option maxHeartbeats 1600000 in
set_option maxRecDepth 100000 in
theorem caught_none {w : World} {b : Nat} {R : Ending → FrameMode → World → Prop} (hR : R (.returned (.tuple #[])) .returning w) :
    CallsD Tryz.prog 178 #[.pointer (some ⟨b, 0, none⟩)] .returning w R := by
  refine callsD_of_wpS Tryz.func178 rfl fun c₀ cs hu => ?_
  apply wpS_seq
  apply wpS_region
  simp [wpOpsS, go_sem, recoverD, hu, Exit.thenS]
  refine wpS_of_wp ?_
  refine C.use (n := ⟨Tryz.f178.ntmps, []⟩) (ρ := [(5, .nilIface)]) ?_ ⟨rfl, rfl, fun t v h ht => ?_⟩
  · refine go ?_
    refine A.mk fun a ha => ⟨ha.defers, .returning, ?_, .tuple #[], ?_, hR⟩
    · rw [← hu]
    · exact results_none Tryz.results178 _ _ _
  · simp only [lk] at h
    split at h
    · rename_i hb
      have : 5 = t := Nat.eq_of_beq_eq_true hb
      subst this
      simpa using h
    · cases h
set_option maxHeartbeats 1600000 in
set_option maxRecDepth 100000 in
theorem caught_fault {W w : World} {g : Hl} {H H' : List HP} {b : Nat} {e : Int} {old : Value} {R : Ending → FrameMode → World → Prop} (hs : Sat W w g H) (hu : Up b [old] [.int .i64 e] 32 H H')
    (hR : ∀ w', Sat W w' g H' → R (.returned (.tuple #[])) (.panicking [{ v := .iface 267 (.agg #[.int .i64 e]), recovered := true }]) w') :
    CallsD Tryz.prog 178 #[.pointer (some ⟨b, 0, none⟩)] (.panicking (flt e)) w R := by
  have HU := Lib.hid hu
  clear hu
  have HR := Lib.hid hR
  clear hR
  refine callsD_of_wpS Tryz.func178 rfl fun c₀ cs hu => ?_
  apply wpS_seq
  apply wpS_region
  simp [wpOpsS, go_sem, recoverD, hu, Exit.thenS, flt]
  refine wpS_of_wp ?_
  refine C.use (n := ⟨Tryz.f178.ntmps, []⟩) (ρ := [(5, .iface 267 (.agg #[.int .i64 e])), (0, .pointer (some ⟨b, 0, none⟩))]) ?_ ⟨rfl, rfl, fun t v h ht => ?_⟩
  · refine go ?_
    refine E.al hs ?_
    intro b2 w2 hs
    refine go ?_
    refine E.sto hs ?_
    intro w3 hs
    refine go ?_
    obtain ⟨L, R', rfl, rfl⟩ := HU.out.sat
    have hs := hs.drop.toFront
    refine E.sto hs ?_
    intro w4 hs
    refine go ?_
    refine A.mk fun a ha => ⟨ha.defers, .panicking [{ v := .iface 267 (.agg #[.int .i64 e]), recovered := true }], ?_, .tuple #[], ?_, HR.out _ hs.toBack⟩
    · simp
    · exact results_none Tryz.results178 _ _ _
  · simp only [lk] at h
    split at h
    · rename_i hb
      have : 5 = t := Nat.eq_of_beq_eq_true hb
      subst this
      simpa using h
    · split at h
      · rename_i hb
        have : 0 = t := Nat.eq_of_beq_eq_true hb
        subst this
        simpa using h
      · cases h
end Go.Proofs.YtfhmamkafancbaaGreatDoor

/-
  Layer 3 (check): the sum of some bytes.
-/
namespace Go.Proofs.YtfhmamkafancbaaGreatDoor
open Go.RowKit
set_option linter.unusedVariables false
set_option linter.unusedSimpArgs false
def crcBit (s : Nat) : Nat := (s / 2 ^ 1) ^^^ (2197175160 * (s &&& 1))
def crcN : Nat → Nat → Nat
  | 0, s => s
  | k + 1, s => crcN k (crcBit s)
def crcByte (s : Nat) (b : UInt8) : Nat := crcN 8 (s ^^^ b.toNat)
def crc (l : List UInt8) : Nat := (2 ^ 32 - 1) ^^^ l.foldl crcByte 4294967295
theorem crcBit_lt {s : Nat} (h : s < 4294967296) : crcBit s < 4294967296 := by
  unfold crcBit
  have h1 : s / 2 ^ 1 < 2 ^ 32 := by omega
  have h2 : 2197175160 * (s &&& 1) < 2 ^ 32 := by rw [Nat.and_one_is_mod]; omega
  exact Nat.xor_lt_two_pow h1 h2
theorem crcN_lt : ∀ (k : Nat) {s : Nat}, s < 4294967296 → crcN k s < 4294967296
  | 0, _, h => h
  | k + 1, _, h => crcN_lt k (crcBit_lt h)
theorem crcByte_lt {s : Nat} (h : s < 4294967296) (b : UInt8) : crcByte s b < 4294967296 := by
  have hb := b.toNat_lt
  exact crcN_lt 8 (Nat.xor_lt_two_pow (n := 32) h (by omega))
theorem crcFold_lt : ∀ (l : List UInt8) {s : Nat}, s < 4294967296 → l.foldl crcByte s < 4294967296
  | [], _, h => h
  | b :: r, _, h => crcFold_lt r (crcByte_lt h b)
theorem crc_lt (l : List UInt8) : crc l < 4294967296 := Nat.xor_lt_two_pow (n := 32) (by decide) (crcFold_lt l (by decide))
set_option maxHeartbeats 1600000 in
set_option maxRecDepth 100000 in
theorem sum_any {R : Ending → World → Prop} {D : Nat → Prop} {w : World} {a : Option Addr} {n c : Nat} {l : List UInt8} (h : Row 1 w D (.slice a n c) n (bs l)) (hl : l.length = n)
    (hR : R (.returned (.int .u32 (crc l : Nat))) w) : Calls Tryz.prog 232 #[.slice a n c] w R := by
  have HR := Lib.hid hR
  clear hR
  obtain ⟨_, _, e, hnc, hcm⟩ := h.len
  simp only [Value.slice.injEq] at e
  obtain ⟨rfl, -, rfl⟩ := e
  unfold maxLen at hcm
  refine C.calls (args := [.slice a n c]) Tryz.func232 rfl rfl rfl ?_
  refine go ?_
  refine C.loop (fun x : Nat × Nat => [(3, .int .u32 x.2), (7, .slice a n c), (8, .int .i64 n), (9, .int .i64 x.1)]) (fun gk x w' => w' = w ∧ gk = n - x.1 ∧ x.1 ≤ n ∧ x.2 < 4294967296 ∧ (l.drop x.1).foldl crcByte x.2 = l.foldl crcByte 4294967295) n (0, 4294967295) wk_ ⟨rfl, rfl, by omega, by simp only; omega, rfl⟩ ?_
  rintro gk ⟨i, s⟩ w' ⟨rfl, rfl, hi, hs, hf⟩
  simp only at hi hs hf ⊢
  refine go ?_
  refine C.cond_dec (p := (i : Int) < n) rfl (fun hlt => ?_) (fun hlt => ?_)
  · have hin : i < l.length := by omega
    obtain ⟨b, o, rfl, hc⟩ : ∃ b o, a = some ⟨b, o, none⟩ ∧ w'.cell? ⟨b, o + i, none⟩ = some (.int .u8 (l[i].toNat : Int)) := by
      obtain ⟨_, a', c', e, _, _, _, h0 | ⟨b, o, cur, t, fz, e2, _⟩⟩ := id h
      · omega
      · simp only [Value.slice.injEq] at e
        obtain ⟨rfl, _, rfl⟩ := e
        subst e2
        exact ⟨b, o, rfl, (h.cellAt rfl (bs_get hin)).2⟩
    have hb := l[i].toNat_lt
    refine gob ?_
    refine C.block ?_
    refine gob ?_
    have hs2 : s ^^^ l[i].toNat < 4294967296 := Nat.xor_lt_two_pow (n := 32) hs (by omega)
    refine C.cutQ (fun s' : Nat => [(3, .int .u32 s'), (7, .slice (some ⟨b, o, none⟩) n c), (8, .int .i64 n), (9, .int .i64 i)]) (fun s' w => w = w' ∧ s' = crcByte s l[i]) ?_ ?_
    · refine C.block ?_
      refine C.loop (fun x : Nat × Nat => [(3, .int .u32 x.2), (7, .slice (some ⟨b, o, none⟩) n c), (8, .int .i64 n), (9, .int .i64 i), (17, .int .i64 x.1)]) (fun gk x w => w = w' ∧ gk = 8 - x.1 ∧ x.1 ≤ 8 ∧ x.2 < 4294967296 ∧ crcN (8 - x.1) x.2 = crcByte s l[i]) 8 (0, s ^^^ l[i].toNat) wk_ ⟨rfl, rfl, by omega, hs2, rfl⟩ ?_
      rintro gk ⟨k, s1⟩ w2 ⟨rfl, rfl, hk, hs1, hf1⟩
      simp only at hk hs1 hf1 ⊢
      refine go ?_
      refine C.cond_dec (p := (k : Int) < 8) rfl (fun hlt => ?_) (fun hlt => ?_)
      · refine go ?_
        exact A.round (8 - (k + 1)) (k + 1, crcBit s1) (by omega) wk_ ⟨rfl, rfl, by simp only; omega, crcBit_lt hs1, by
          rw [← hf1]
          simp only
          rw [show 8 - k = (8 - (k + 1)) + 1 by omega]
          rfl⟩
      · refine go ?_
        refine A.meet s1 wk_ ⟨rfl, ?_⟩
        rw [← hf1, show 8 - k = 0 by omega]
        rfl
    rintro s' w' ⟨rfl, rfl⟩
    refine go ?_
    exact A.round (n - (i + 1)) (i + 1, crcByte s l[i]) (by omega) wk_ ⟨rfl, rfl, by simp only; omega, crcByte_lt hs _, by
      rw [← hf]
      simp only
      rw [List.drop_eq_getElem_cons hin, List.foldl_cons]⟩
  · refine go ?_
    have e : i = n := by omega
    refine A.r1 ?_
    have : crc l = (2 ^ 32 - 1) ^^^ s := by
      unfold crc
      rw [← hf, e, ← hl, List.drop_length]
      rfl
    rw [this] at HR
    exact HR.out
end Go.Proofs.YtfhmamkafancbaaGreatDoor

/-
  Layers 2 and 3: a text behind some bytes; a record.
-/
namespace Go.Proofs.YtfhmamkafancbaaGreatDoor
open Go.RowKit
set_option linter.unusedVariables false
set_option linter.unusedSimpArgs false
def fourB (n : Nat) : List UInt8 := [UInt8.ofNat (n / 2 ^ 24), UInt8.ofNat (n / 2 ^ 16), UInt8.ofNat (n / 2 ^ 8), UInt8.ofNat n]
def wrapB (t : List UInt8) : List UInt8 := textB t ++ fourB (crc (textB t))
theorem wrapB_len (t : List UInt8) (h : t.length < 18446744073709551616) : (wrapB t).length ≤ t.length + 14 := by
  have := textB_len t h
  unfold wrapB
  rw [List.length_append]
  simp only [fourB, List.length_cons, List.length_nil]
  omega
set_option maxHeartbeats 1600000 in
set_option maxRecDepth 100000 in
theorem four_any {R : Ending → World → Prop} {W w : World} {g : Hl} {H : List HP} {n : Nat} (hs : Sat W w g H) (hn : n < 4294967296)
    (hR : ∀ b w', Sat W w' g (own 5 1 (.slice (some ⟨b, 0, none⟩) 4 4) 4 (bs (fourB n)) :: H) → R (.returned (.slice (some ⟨b, 0, none⟩) 4 4)) w') :
    Calls Tryz.prog 231 #[.int .u32 n] w R := by
  have HR := Lib.hid hR
  clear hR
  refine C.calls (args := [.int .u32 n]) Tryz.func231 rfl rfl rfl ?_
  refine go ?_
  refine E.bsl hs ?_
  intro b2 w2 hs
  refine go ?_
  refine A.r1 ?_
  refine HR.out _ _ ?_
  have := hs.blkOwn (size := 1) 4 rfl (by decide)
  have e : [Value.int .u8 ((n : Int) / 16777216), .int .u8 ((n : Int) / 65536 % 256), .int .u8 ((n : Int) / 256 % 256), .int .u8 ((n : Int) % 256)] = bs (fourB n) := by
    have h1 : n / 16777216 % 256 = n / 16777216 := by omega
    simp [fourB, bs, h1]
  rw [← e]
  exact this
set_option maxHeartbeats 1600000 in
set_option maxRecDepth 100000 in
theorem wrap_any {R : Ending → World → Prop} {W w : World} {g : Hl} {H : List HP} {u : Value} {m : Nat} {t : List UInt8} (hs : Sat W w g H) (hp : Pr 1 g u m (bs t)) (ht : t.length = m) (hm : m ≤ 1000000000)
    (hR : ∀ a' c' w', Sat W w' g (own 5 1 (.slice a' (wrapB t).length c') (wrapB t).length (bs (wrapB t)) :: H) → R (.returned (.slice a' (wrapB t).length c')) w') :
    Calls Tryz.prog 193 #[u] w R := by
  have HR := Lib.hid hR
  clear hR
  obtain ⟨a1, c1, rfl, _, _⟩ := hp.len
  have hl := textB_len t (by omega)
  refine C.calls (args := [.slice a1 m c1]) Tryz.func193 rfl rfl rfl ?_
  refine go ?_
  refine E.callf Tryz.func130 rfl ?_
  refine layText_any (hs.nilOwn (E := 5) (size := 1)) hp ht hm (by omega) ?_
  intro a2 c2 w2 hs
  rw [List.nil_append] at hs
  rw [Nat.zero_add] at hs ⊢
  refine go ?_
  refine E.callf Tryz.func232 rfl ?_
  refine sum_any (Row.of_owns (D := fun _ => True) hs.owns (fun _ _ => trivial)) rfl ?_
  refine go ?_
  refine E.callf Tryz.func231 rfl ?_
  refine four_any hs (crc_lt _) ?_
  intro b3 w3 hs
  refine go ?_
  apply E.cons
  apply St.append el_u8 hs.swap (Row.of_owns (D := fun _ => True) hs.owns (fun _ _ => trivial)) (one_bs _) (by omega) (by omega)
  · exact rfl
  · exact rfl
  intro a4 c4 w4 _ _ hs
  refine go ?_
  refine A.r1 ?_
  have e1 : (textB t).length + 4 = (wrapB t).length := by simp [wrapB, fourB]
  have e2 : bs (textB t) ++ bs (fourB (crc (textB t))) = bs (wrapB t) := by simp [wrapB, bs_append]
  have hs := hs.swap.drop
  rw [e1, e2] at hs
  rw [e1]
  exact HR.out _ _ _ hs
end Go.Proofs.YtfhmamkafancbaaGreatDoor
