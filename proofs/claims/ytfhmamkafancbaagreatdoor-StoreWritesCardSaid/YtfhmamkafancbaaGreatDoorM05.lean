/-
  Layer 3 (check): the record ahead.
-/
import Derived.Test.YtfhmamkafancbaaGreatDoorM04
namespace Go.Proofs.YtfhmamkafancbaaGreatDoor
open Go.RowKit
set_option linter.unusedVariables false
set_option linter.unusedSimpArgs false
/-- What 'Open' tells of some bytes: the record's length and its text's place, or an error's number. -/
def openB (l : List UInt8) (most : Nat) : Except Int (Nat × Nat) :=
  match takeGo 0 0 l with
  | (v, k, e) => if e ≠ 0 then .error e else if most < v then .error 6 else if l.length < k + v then .error 5 else if l.length < k + v + 4 then .error 5
    else if fourB (crc (l.take (k + v))) = (l.drop (k + v)).take 4 then .ok (k, v) else .error 4
set_option maxHeartbeats 1600000 in
set_option maxRecDepth 100000 in
theorem open_any {R : Ending → World → Prop} {W w : World} {g : Hl} {H : List HP} {a : Option Addr} {n c : Nat} {l : List UInt8} (most : Nat) {mi : Int} (hmi : mi = most) (hmost : most ≤ 1000000000) (hs : Sat W w g H) (hp : Pr 1 g (.slice a n c) n (bs l)) (hl : l.length = n) (hn : n ≤ 140737488355328)
    (hOK : ∀ v k b' o' c' a2 c2 w', openB l most = .ok (k, v) → 0 < k → k + v + 4 ≤ n → v ≤ most → Sat W w' g (own 5 1 (.slice a2 v c2) v (bs ((l.drop k).take v)) :: H) → Pr 1 g (.slice (some ⟨b', o', none⟩) (n - (k + v + 4)) c') (n - (k + v + 4)) (bs (l.drop (k + v + 4))) → R (.returned (.tuple #[.slice a2 v c2, .slice (some ⟨b', o', none⟩) (n - (k + v + 4)) c', .int .i64 0])) w')
    (hErr : ∀ e w', openB l most = .error e → (e = 4 ∨ e = 5 ∨ e = 6) → Sat W w' g H → R (.returned (.tuple #[.slice none 0 0, .slice a n c, .int .i64 e])) w') :
    Calls Tryz.prog 237 #[.slice a n c, .int .i64 mi] w R := by
  subst hmi
  have HOK := Lib.hid hOK
  have HErr := Lib.hid hErr
  clear hOK hErr
  refine C.calls (args := [.slice a n c, .int .i64 most]) Tryz.func237 rfl rfl rfl ?_
  refine go ?_
  refine E.callf Tryz.func223 rfl ?_
  refine takeText_any most rfl hmost hs hp hl hn ?_ ?_
  · intro v k b1 o1 c1 a2 c2 w1 ht hk hkn hv hs hp1
    obtain ⟨_, _, e, hnc1, hcm1⟩ := hp1.len
    simp only [Value.slice.injEq] at e
    obtain ⟨_, -, rfl⟩ := e
    refine go ?_
    refine C.cond_dec (p := ((n - k - v : Nat) : Int) < 4) rfl (fun hlt => ?_) (fun hlt => ?_)
    · refine go ?_
      refine A.r3 ?_
      exact HErr.out 5 _ (by
        simp only [openB, ht, hl]
        rw [if_neg (by simp), if_neg (by omega), if_neg (by omega), if_pos (by omega)]) (by omega) hs.drop
    refine go ?_
    obtain ⟨b0, o0, rfl⟩ := pr_addr hp (by omega)
    obtain ⟨_, _, e0, hnc0, hcm0⟩ := hp.len
    simp only [Value.slice.injEq] at e0
    obtain ⟨_, -, rfl⟩ := e0
    have hps := pr_take hp (k := k + v) (by omega)
    rw [← bs_take] at hps
    have hp4 := pr_take hp1 (k := 4) (by omega)
    rw [← bs_take] at hp4
    refine C.cutQ (fun _ : Unit => [(0, .slice (some ⟨b0, o0, none⟩) n c), (7, .slice a2 v c2), (8, .slice (some ⟨b1, o1, none⟩) (n - k - v) c1), (27, .bool (!decide (fourB (crc (l.take (k + v))) = (l.drop (k + v)).take 4)))]) (fun _ w => Sat W w g (own 5 1 (.slice a2 v c2) v (bs ((l.drop k).take v)) :: H)) ?_ ?_
    · apply C.any hs
      · kernel_rfl
      intro w2 hs
      repeat (first
        | (apply EA.take 0; decide +kernel; exact rfl; kernel_rfl; decide +kernel; exact fun _ _ _ _ h => h; (first | (apply Pg.off; exact rfl) | (apply Pg.any; exact rfl; (first | (apply Pv.auto; exact rfl) | ((first | apply Pv.add | apply Pv.sub | apply Pv.mul64 | apply Pv.rem | apply Pv.quo) <;> first | exact rfl | omega) | (apply Pv.conv; exact rfl; (intro w; go_simp <;> first | exact rfl | exact ⟨rfl, rfl⟩); (first | exact wrapu64_id (by omega) (by omega) | exact wrap64_id (by omega) (by omega) | exact wrapu8_id (by omega) (by omega) | exact wrapu32_id (by omega) (by omega) | exact wrapu16_id (by omega) (by omega) | exact u8_mod _ | exact u32_mod _ | exact u64_mod _ | exact rfl)) | ((first | apply Pv.beq | apply Pv.bne); exact rfl; exact rfl; kernel_rfl) | ((first | apply Pv.xor | apply Pv.and | apply Pv.or | apply Pv.shr | apply Pv.shl) <;> first | exact rfl | (simp only [IntKind.bits, Nat.and_one_is_mod]; omega)) | ((first | apply Pv.muln | apply Pv.notn) <;> first | exact rfl | (simp only [IntKind.bits, Nat.and_one_is_mod]; omega)) | ((first | apply Pv.fieldAddr | apply Pv.len | apply Pv.indexAddr | apply Pv.build | apply Pv.field | apply Pv.convert | apply Pv.addw | apply Pv.subw | apply Pv.mulw | apply Pv.binOp) <;> first | exact rfl | (intro w; go_simp <;> first | exact rfl | exact ⟨rfl, rfl⟩))))))
        | (apply EA.take 1; decide +kernel; exact rfl; kernel_rfl; decide +kernel; exact fun _ _ _ _ h => h; (first | (apply Pg.off; exact rfl) | (apply Pg.any; exact rfl; (first | (apply Pv.auto; exact rfl) | ((first | apply Pv.add | apply Pv.sub | apply Pv.mul64 | apply Pv.rem | apply Pv.quo) <;> first | exact rfl | omega) | (apply Pv.conv; exact rfl; (intro w; go_simp <;> first | exact rfl | exact ⟨rfl, rfl⟩); (first | exact wrapu64_id (by omega) (by omega) | exact wrap64_id (by omega) (by omega) | exact wrapu8_id (by omega) (by omega) | exact wrapu32_id (by omega) (by omega) | exact wrapu16_id (by omega) (by omega) | exact u8_mod _ | exact u32_mod _ | exact u64_mod _ | exact rfl)) | ((first | apply Pv.beq | apply Pv.bne); exact rfl; exact rfl; kernel_rfl) | ((first | apply Pv.xor | apply Pv.and | apply Pv.or | apply Pv.shr | apply Pv.shl) <;> first | exact rfl | (simp only [IntKind.bits, Nat.and_one_is_mod]; omega)) | ((first | apply Pv.muln | apply Pv.notn) <;> first | exact rfl | (simp only [IntKind.bits, Nat.and_one_is_mod]; omega)) | ((first | apply Pv.fieldAddr | apply Pv.len | apply Pv.indexAddr | apply Pv.build | apply Pv.field | apply Pv.convert | apply Pv.addw | apply Pv.subw | apply Pv.mulw | apply Pv.binOp) <;> first | exact rfl | (intro w; go_simp <;> first | exact rfl | exact ⟨rfl, rfl⟩))))))
        | (apply EA.take 2; decide +kernel; exact rfl; kernel_rfl; decide +kernel; exact fun _ _ _ _ h => h; (first | (apply Pg.off; exact rfl) | (apply Pg.any; exact rfl; (first | (apply Pv.auto; exact rfl) | ((first | apply Pv.add | apply Pv.sub | apply Pv.mul64 | apply Pv.rem | apply Pv.quo) <;> first | exact rfl | omega) | (apply Pv.conv; exact rfl; (intro w; go_simp <;> first | exact rfl | exact ⟨rfl, rfl⟩); (first | exact wrapu64_id (by omega) (by omega) | exact wrap64_id (by omega) (by omega) | exact wrapu8_id (by omega) (by omega) | exact wrapu32_id (by omega) (by omega) | exact wrapu16_id (by omega) (by omega) | exact u8_mod _ | exact u32_mod _ | exact u64_mod _ | exact rfl)) | ((first | apply Pv.beq | apply Pv.bne); exact rfl; exact rfl; kernel_rfl) | ((first | apply Pv.xor | apply Pv.and | apply Pv.or | apply Pv.shr | apply Pv.shl) <;> first | exact rfl | (simp only [IntKind.bits, Nat.and_one_is_mod]; omega)) | ((first | apply Pv.muln | apply Pv.notn) <;> first | exact rfl | (simp only [IntKind.bits, Nat.and_one_is_mod]; omega)) | ((first | apply Pv.fieldAddr | apply Pv.len | apply Pv.indexAddr | apply Pv.build | apply Pv.field | apply Pv.convert | apply Pv.addw | apply Pv.subw | apply Pv.mulw | apply Pv.binOp) <;> first | exact rfl | (intro w; go_simp <;> first | exact rfl | exact ⟨rfl, rfl⟩))))))
        | (apply EA.take 3; decide +kernel; exact rfl; kernel_rfl; decide +kernel; exact fun _ _ _ _ h => h; (first | (apply Pg.off; exact rfl) | (apply Pg.any; exact rfl; (first | (apply Pv.auto; exact rfl) | ((first | apply Pv.add | apply Pv.sub | apply Pv.mul64 | apply Pv.rem | apply Pv.quo) <;> first | exact rfl | omega) | (apply Pv.conv; exact rfl; (intro w; go_simp <;> first | exact rfl | exact ⟨rfl, rfl⟩); (first | exact wrapu64_id (by omega) (by omega) | exact wrap64_id (by omega) (by omega) | exact wrapu8_id (by omega) (by omega) | exact wrapu32_id (by omega) (by omega) | exact wrapu16_id (by omega) (by omega) | exact u8_mod _ | exact u32_mod _ | exact u64_mod _ | exact rfl)) | ((first | apply Pv.beq | apply Pv.bne); exact rfl; exact rfl; kernel_rfl) | ((first | apply Pv.xor | apply Pv.and | apply Pv.or | apply Pv.shr | apply Pv.shl) <;> first | exact rfl | (simp only [IntKind.bits, Nat.and_one_is_mod]; omega)) | ((first | apply Pv.muln | apply Pv.notn) <;> first | exact rfl | (simp only [IntKind.bits, Nat.and_one_is_mod]; omega)) | ((first | apply Pv.fieldAddr | apply Pv.len | apply Pv.indexAddr | apply Pv.build | apply Pv.field | apply Pv.convert | apply Pv.addw | apply Pv.subw | apply Pv.mulw | apply Pv.binOp) <;> first | exact rfl | (intro w; go_simp <;> first | exact rfl | exact ⟨rfl, rfl⟩))))))
        | (apply EA.take 4; decide +kernel; exact rfl; kernel_rfl; decide +kernel; exact fun _ _ _ _ h => h; (first | (apply Pg.off; exact rfl) | (apply Pg.any; exact rfl; (first | (apply Pv.auto; exact rfl) | ((first | apply Pv.add | apply Pv.sub | apply Pv.mul64 | apply Pv.rem | apply Pv.quo) <;> first | exact rfl | omega) | (apply Pv.conv; exact rfl; (intro w; go_simp <;> first | exact rfl | exact ⟨rfl, rfl⟩); (first | exact wrapu64_id (by omega) (by omega) | exact wrap64_id (by omega) (by omega) | exact wrapu8_id (by omega) (by omega) | exact wrapu32_id (by omega) (by omega) | exact wrapu16_id (by omega) (by omega) | exact u8_mod _ | exact u32_mod _ | exact u64_mod _ | exact rfl)) | ((first | apply Pv.beq | apply Pv.bne); exact rfl; exact rfl; kernel_rfl) | ((first | apply Pv.xor | apply Pv.and | apply Pv.or | apply Pv.shr | apply Pv.shl) <;> first | exact rfl | (simp only [IntKind.bits, Nat.and_one_is_mod]; omega)) | ((first | apply Pv.muln | apply Pv.notn) <;> first | exact rfl | (simp only [IntKind.bits, Nat.and_one_is_mod]; omega)) | ((first | apply Pv.fieldAddr | apply Pv.len | apply Pv.indexAddr | apply Pv.build | apply Pv.field | apply Pv.convert | apply Pv.addw | apply Pv.subw | apply Pv.mulw | apply Pv.binOp) <;> first | exact rfl | (intro w; go_simp <;> first | exact rfl | exact ⟨rfl, rfl⟩))))))
        | (apply EA.take 5; decide +kernel; exact rfl; kernel_rfl; decide +kernel; exact fun _ _ _ _ h => h; (first | (apply Pg.off; exact rfl) | (apply Pg.any; exact rfl; (first | (apply Pv.auto; exact rfl) | ((first | apply Pv.add | apply Pv.sub | apply Pv.mul64 | apply Pv.rem | apply Pv.quo) <;> first | exact rfl | omega) | (apply Pv.conv; exact rfl; (intro w; go_simp <;> first | exact rfl | exact ⟨rfl, rfl⟩); (first | exact wrapu64_id (by omega) (by omega) | exact wrap64_id (by omega) (by omega) | exact wrapu8_id (by omega) (by omega) | exact wrapu32_id (by omega) (by omega) | exact wrapu16_id (by omega) (by omega) | exact u8_mod _ | exact u32_mod _ | exact u64_mod _ | exact rfl)) | ((first | apply Pv.beq | apply Pv.bne); exact rfl; exact rfl; kernel_rfl) | ((first | apply Pv.xor | apply Pv.and | apply Pv.or | apply Pv.shr | apply Pv.shl) <;> first | exact rfl | (simp only [IntKind.bits, Nat.and_one_is_mod]; omega)) | ((first | apply Pv.muln | apply Pv.notn) <;> first | exact rfl | (simp only [IntKind.bits, Nat.and_one_is_mod]; omega)) | ((first | apply Pv.fieldAddr | apply Pv.len | apply Pv.indexAddr | apply Pv.build | apply Pv.field | apply Pv.convert | apply Pv.addw | apply Pv.subw | apply Pv.mulw | apply Pv.binOp) <;> first | exact rfl | (intro w; go_simp <;> first | exact rfl | exact ⟨rfl, rfl⟩))))))
        | (apply EA.take 6; decide +kernel; exact rfl; kernel_rfl; decide +kernel; exact fun _ _ _ _ h => h; (first | (apply Pg.off; exact rfl) | (apply Pg.any; exact rfl; (first | (apply Pv.auto; exact rfl) | ((first | apply Pv.add | apply Pv.sub | apply Pv.mul64 | apply Pv.rem | apply Pv.quo) <;> first | exact rfl | omega) | (apply Pv.conv; exact rfl; (intro w; go_simp <;> first | exact rfl | exact ⟨rfl, rfl⟩); (first | exact wrapu64_id (by omega) (by omega) | exact wrap64_id (by omega) (by omega) | exact wrapu8_id (by omega) (by omega) | exact wrapu32_id (by omega) (by omega) | exact wrapu16_id (by omega) (by omega) | exact u8_mod _ | exact u32_mod _ | exact u64_mod _ | exact rfl)) | ((first | apply Pv.beq | apply Pv.bne); exact rfl; exact rfl; kernel_rfl) | ((first | apply Pv.xor | apply Pv.and | apply Pv.or | apply Pv.shr | apply Pv.shl) <;> first | exact rfl | (simp only [IntKind.bits, Nat.and_one_is_mod]; omega)) | ((first | apply Pv.muln | apply Pv.notn) <;> first | exact rfl | (simp only [IntKind.bits, Nat.and_one_is_mod]; omega)) | ((first | apply Pv.fieldAddr | apply Pv.len | apply Pv.indexAddr | apply Pv.build | apply Pv.field | apply Pv.convert | apply Pv.addw | apply Pv.subw | apply Pv.mulw | apply Pv.binOp) <;> first | exact rfl | (intro w; go_simp <;> first | exact rfl | exact ⟨rfl, rfl⟩))))))
        | (apply EA.take 7; decide +kernel; exact rfl; kernel_rfl; decide +kernel; exact fun _ _ _ _ h => h; (first | (apply Pg.off; exact rfl) | (apply Pg.any; exact rfl; (first | (apply Pv.auto; exact rfl) | ((first | apply Pv.add | apply Pv.sub | apply Pv.mul64 | apply Pv.rem | apply Pv.quo) <;> first | exact rfl | omega) | (apply Pv.conv; exact rfl; (intro w; go_simp <;> first | exact rfl | exact ⟨rfl, rfl⟩); (first | exact wrapu64_id (by omega) (by omega) | exact wrap64_id (by omega) (by omega) | exact wrapu8_id (by omega) (by omega) | exact wrapu32_id (by omega) (by omega) | exact wrapu16_id (by omega) (by omega) | exact u8_mod _ | exact u32_mod _ | exact u64_mod _ | exact rfl)) | ((first | apply Pv.beq | apply Pv.bne); exact rfl; exact rfl; kernel_rfl) | ((first | apply Pv.xor | apply Pv.and | apply Pv.or | apply Pv.shr | apply Pv.shl) <;> first | exact rfl | (simp only [IntKind.bits, Nat.and_one_is_mod]; omega)) | ((first | apply Pv.muln | apply Pv.notn) <;> first | exact rfl | (simp only [IntKind.bits, Nat.and_one_is_mod]; omega)) | ((first | apply Pv.fieldAddr | apply Pv.len | apply Pv.indexAddr | apply Pv.build | apply Pv.field | apply Pv.convert | apply Pv.addw | apply Pv.subw | apply Pv.mulw | apply Pv.binOp) <;> first | exact rfl | (intro w; go_simp <;> first | exact rfl | exact ⟨rfl, rfl⟩))))))
        | (apply EA.take 8; decide +kernel; exact rfl; kernel_rfl; decide +kernel; exact fun _ _ _ _ h => h; (first | (apply Pg.off; exact rfl) | (apply Pg.any; exact rfl; (first | (apply Pv.auto; exact rfl) | ((first | apply Pv.add | apply Pv.sub | apply Pv.mul64 | apply Pv.rem | apply Pv.quo) <;> first | exact rfl | omega) | (apply Pv.conv; exact rfl; (intro w; go_simp <;> first | exact rfl | exact ⟨rfl, rfl⟩); (first | exact wrapu64_id (by omega) (by omega) | exact wrap64_id (by omega) (by omega) | exact wrapu8_id (by omega) (by omega) | exact wrapu32_id (by omega) (by omega) | exact wrapu16_id (by omega) (by omega) | exact u8_mod _ | exact u32_mod _ | exact u64_mod _ | exact rfl)) | ((first | apply Pv.beq | apply Pv.bne); exact rfl; exact rfl; kernel_rfl) | ((first | apply Pv.xor | apply Pv.and | apply Pv.or | apply Pv.shr | apply Pv.shl) <;> first | exact rfl | (simp only [IntKind.bits, Nat.and_one_is_mod]; omega)) | ((first | apply Pv.muln | apply Pv.notn) <;> first | exact rfl | (simp only [IntKind.bits, Nat.and_one_is_mod]; omega)) | ((first | apply Pv.fieldAddr | apply Pv.len | apply Pv.indexAddr | apply Pv.build | apply Pv.field | apply Pv.convert | apply Pv.addw | apply Pv.subw | apply Pv.mulw | apply Pv.binOp) <;> first | exact rfl | (intro w; go_simp <;> first | exact rfl | exact ⟨rfl, rfl⟩))))))
        | (apply EA.take 9; decide +kernel; exact rfl; kernel_rfl; decide +kernel; exact fun _ _ _ _ h => h; (first | (apply Pg.off; exact rfl) | (apply Pg.any; exact rfl; (first | (apply Pv.auto; exact rfl) | ((first | apply Pv.add | apply Pv.sub | apply Pv.mul64 | apply Pv.rem | apply Pv.quo) <;> first | exact rfl | omega) | (apply Pv.conv; exact rfl; (intro w; go_simp <;> first | exact rfl | exact ⟨rfl, rfl⟩); (first | exact wrapu64_id (by omega) (by omega) | exact wrap64_id (by omega) (by omega) | exact wrapu8_id (by omega) (by omega) | exact wrapu32_id (by omega) (by omega) | exact wrapu16_id (by omega) (by omega) | exact u8_mod _ | exact u32_mod _ | exact u64_mod _ | exact rfl)) | ((first | apply Pv.beq | apply Pv.bne); exact rfl; exact rfl; kernel_rfl) | ((first | apply Pv.xor | apply Pv.and | apply Pv.or | apply Pv.shr | apply Pv.shl) <;> first | exact rfl | (simp only [IntKind.bits, Nat.and_one_is_mod]; omega)) | ((first | apply Pv.muln | apply Pv.notn) <;> first | exact rfl | (simp only [IntKind.bits, Nat.and_one_is_mod]; omega)) | ((first | apply Pv.fieldAddr | apply Pv.len | apply Pv.indexAddr | apply Pv.build | apply Pv.field | apply Pv.convert | apply Pv.addw | apply Pv.subw | apply Pv.mulw | apply Pv.binOp) <;> first | exact rfl | (intro w; go_simp <;> first | exact rfl | exact ⟨rfl, rfl⟩))))))
        | (apply EA.take 10; decide +kernel; exact rfl; kernel_rfl; decide +kernel; exact fun _ _ _ _ h => h; (first | (apply Pg.off; exact rfl) | (apply Pg.any; exact rfl; (first | (apply Pv.auto; exact rfl) | ((first | apply Pv.add | apply Pv.sub | apply Pv.mul64 | apply Pv.rem | apply Pv.quo) <;> first | exact rfl | omega) | (apply Pv.conv; exact rfl; (intro w; go_simp <;> first | exact rfl | exact ⟨rfl, rfl⟩); (first | exact wrapu64_id (by omega) (by omega) | exact wrap64_id (by omega) (by omega) | exact wrapu8_id (by omega) (by omega) | exact wrapu32_id (by omega) (by omega) | exact wrapu16_id (by omega) (by omega) | exact u8_mod _ | exact u32_mod _ | exact u64_mod _ | exact rfl)) | ((first | apply Pv.beq | apply Pv.bne); exact rfl; exact rfl; kernel_rfl) | ((first | apply Pv.xor | apply Pv.and | apply Pv.or | apply Pv.shr | apply Pv.shl) <;> first | exact rfl | (simp only [IntKind.bits, Nat.and_one_is_mod]; omega)) | ((first | apply Pv.muln | apply Pv.notn) <;> first | exact rfl | (simp only [IntKind.bits, Nat.and_one_is_mod]; omega)) | ((first | apply Pv.fieldAddr | apply Pv.len | apply Pv.indexAddr | apply Pv.build | apply Pv.field | apply Pv.convert | apply Pv.addw | apply Pv.subw | apply Pv.mulw | apply Pv.binOp) <;> first | exact rfl | (intro w; go_simp <;> first | exact rfl | exact ⟨rfl, rfl⟩))))))
        | (apply EA.take 11; decide +kernel; exact rfl; kernel_rfl; decide +kernel; exact fun _ _ _ _ h => h; (first | (apply Pg.off; exact rfl) | (apply Pg.any; exact rfl; (first | (apply Pv.auto; exact rfl) | ((first | apply Pv.add | apply Pv.sub | apply Pv.mul64 | apply Pv.rem | apply Pv.quo) <;> first | exact rfl | omega) | (apply Pv.conv; exact rfl; (intro w; go_simp <;> first | exact rfl | exact ⟨rfl, rfl⟩); (first | exact wrapu64_id (by omega) (by omega) | exact wrap64_id (by omega) (by omega) | exact wrapu8_id (by omega) (by omega) | exact wrapu32_id (by omega) (by omega) | exact wrapu16_id (by omega) (by omega) | exact u8_mod _ | exact u32_mod _ | exact u64_mod _ | exact rfl)) | ((first | apply Pv.beq | apply Pv.bne); exact rfl; exact rfl; kernel_rfl) | ((first | apply Pv.xor | apply Pv.and | apply Pv.or | apply Pv.shr | apply Pv.shl) <;> first | exact rfl | (simp only [IntKind.bits, Nat.and_one_is_mod]; omega)) | ((first | apply Pv.muln | apply Pv.notn) <;> first | exact rfl | (simp only [IntKind.bits, Nat.and_one_is_mod]; omega)) | ((first | apply Pv.fieldAddr | apply Pv.len | apply Pv.indexAddr | apply Pv.build | apply Pv.field | apply Pv.convert | apply Pv.addw | apply Pv.subw | apply Pv.mulw | apply Pv.binOp) <;> first | exact rfl | (intro w; go_simp <;> first | exact rfl | exact ⟨rfl, rfl⟩)))))))
      apply EA.take 6
      · decide +kernel
      · exact rfl
      · kernel_rfl
      · decide +kernel
      · exact fun _ _ _ _ h => h
      · apply Pg.any
        · exact rfl
        apply Pv.slice
        · exact rfl
        · exact rfl
        · exact rfl
        · exact rfl
        · exact (fun w => by rw [show ((n : Int) - ((n - k - v : Nat) : Int)) = ((k + v : Nat) : Int) by omega]; exact run_slice_h_at (kd' := .i64) (h := k + v) el_u8 (by omega) w)
      apply EA.take 11
      · decide +kernel
      · exact rfl
      · kernel_rfl
      · decide +kernel
      · exact fun _ _ _ _ h => h
      · apply Pg.any
        · exact rfl
        apply Pv.slice
        · exact rfl
        · exact rfl
        · exact rfl
        · exact rfl
        · exact run_slice_h_at (h := 4) el_u8 (by omega)
      repeat (first
        | (apply EA.take 0; decide +kernel; exact rfl; kernel_rfl; decide +kernel; exact fun _ _ _ _ h => h; (first | (apply Pg.off; exact rfl) | (apply Pg.any; exact rfl; (first | (apply Pv.auto; exact rfl) | ((first | apply Pv.add | apply Pv.sub | apply Pv.mul64 | apply Pv.rem | apply Pv.quo) <;> first | exact rfl | omega) | (apply Pv.conv; exact rfl; (intro w; go_simp <;> first | exact rfl | exact ⟨rfl, rfl⟩); (first | exact wrapu64_id (by omega) (by omega) | exact wrap64_id (by omega) (by omega) | exact wrapu8_id (by omega) (by omega) | exact wrapu32_id (by omega) (by omega) | exact wrapu16_id (by omega) (by omega) | exact u8_mod _ | exact u32_mod _ | exact u64_mod _ | exact rfl)) | ((first | apply Pv.beq | apply Pv.bne); exact rfl; exact rfl; kernel_rfl) | ((first | apply Pv.xor | apply Pv.and | apply Pv.or | apply Pv.shr | apply Pv.shl) <;> first | exact rfl | (simp only [IntKind.bits, Nat.and_one_is_mod]; omega)) | ((first | apply Pv.muln | apply Pv.notn) <;> first | exact rfl | (simp only [IntKind.bits, Nat.and_one_is_mod]; omega)) | ((first | apply Pv.fieldAddr | apply Pv.len | apply Pv.indexAddr | apply Pv.build | apply Pv.field | apply Pv.convert | apply Pv.addw | apply Pv.subw | apply Pv.mulw | apply Pv.binOp) <;> first | exact rfl | (intro w; go_simp <;> first | exact rfl | exact ⟨rfl, rfl⟩))))))
        | (apply EA.take 1; decide +kernel; exact rfl; kernel_rfl; decide +kernel; exact fun _ _ _ _ h => h; (first | (apply Pg.off; exact rfl) | (apply Pg.any; exact rfl; (first | (apply Pv.auto; exact rfl) | ((first | apply Pv.add | apply Pv.sub | apply Pv.mul64 | apply Pv.rem | apply Pv.quo) <;> first | exact rfl | omega) | (apply Pv.conv; exact rfl; (intro w; go_simp <;> first | exact rfl | exact ⟨rfl, rfl⟩); (first | exact wrapu64_id (by omega) (by omega) | exact wrap64_id (by omega) (by omega) | exact wrapu8_id (by omega) (by omega) | exact wrapu32_id (by omega) (by omega) | exact wrapu16_id (by omega) (by omega) | exact u8_mod _ | exact u32_mod _ | exact u64_mod _ | exact rfl)) | ((first | apply Pv.beq | apply Pv.bne); exact rfl; exact rfl; kernel_rfl) | ((first | apply Pv.xor | apply Pv.and | apply Pv.or | apply Pv.shr | apply Pv.shl) <;> first | exact rfl | (simp only [IntKind.bits, Nat.and_one_is_mod]; omega)) | ((first | apply Pv.muln | apply Pv.notn) <;> first | exact rfl | (simp only [IntKind.bits, Nat.and_one_is_mod]; omega)) | ((first | apply Pv.fieldAddr | apply Pv.len | apply Pv.indexAddr | apply Pv.build | apply Pv.field | apply Pv.convert | apply Pv.addw | apply Pv.subw | apply Pv.mulw | apply Pv.binOp) <;> first | exact rfl | (intro w; go_simp <;> first | exact rfl | exact ⟨rfl, rfl⟩))))))
        | (apply EA.take 2; decide +kernel; exact rfl; kernel_rfl; decide +kernel; exact fun _ _ _ _ h => h; (first | (apply Pg.off; exact rfl) | (apply Pg.any; exact rfl; (first | (apply Pv.auto; exact rfl) | ((first | apply Pv.add | apply Pv.sub | apply Pv.mul64 | apply Pv.rem | apply Pv.quo) <;> first | exact rfl | omega) | (apply Pv.conv; exact rfl; (intro w; go_simp <;> first | exact rfl | exact ⟨rfl, rfl⟩); (first | exact wrapu64_id (by omega) (by omega) | exact wrap64_id (by omega) (by omega) | exact wrapu8_id (by omega) (by omega) | exact wrapu32_id (by omega) (by omega) | exact wrapu16_id (by omega) (by omega) | exact u8_mod _ | exact u32_mod _ | exact u64_mod _ | exact rfl)) | ((first | apply Pv.beq | apply Pv.bne); exact rfl; exact rfl; kernel_rfl) | ((first | apply Pv.xor | apply Pv.and | apply Pv.or | apply Pv.shr | apply Pv.shl) <;> first | exact rfl | (simp only [IntKind.bits, Nat.and_one_is_mod]; omega)) | ((first | apply Pv.muln | apply Pv.notn) <;> first | exact rfl | (simp only [IntKind.bits, Nat.and_one_is_mod]; omega)) | ((first | apply Pv.fieldAddr | apply Pv.len | apply Pv.indexAddr | apply Pv.build | apply Pv.field | apply Pv.convert | apply Pv.addw | apply Pv.subw | apply Pv.mulw | apply Pv.binOp) <;> first | exact rfl | (intro w; go_simp <;> first | exact rfl | exact ⟨rfl, rfl⟩))))))
        | (apply EA.take 3; decide +kernel; exact rfl; kernel_rfl; decide +kernel; exact fun _ _ _ _ h => h; (first | (apply Pg.off; exact rfl) | (apply Pg.any; exact rfl; (first | (apply Pv.auto; exact rfl) | ((first | apply Pv.add | apply Pv.sub | apply Pv.mul64 | apply Pv.rem | apply Pv.quo) <;> first | exact rfl | omega) | (apply Pv.conv; exact rfl; (intro w; go_simp <;> first | exact rfl | exact ⟨rfl, rfl⟩); (first | exact wrapu64_id (by omega) (by omega) | exact wrap64_id (by omega) (by omega) | exact wrapu8_id (by omega) (by omega) | exact wrapu32_id (by omega) (by omega) | exact wrapu16_id (by omega) (by omega) | exact u8_mod _ | exact u32_mod _ | exact u64_mod _ | exact rfl)) | ((first | apply Pv.beq | apply Pv.bne); exact rfl; exact rfl; kernel_rfl) | ((first | apply Pv.xor | apply Pv.and | apply Pv.or | apply Pv.shr | apply Pv.shl) <;> first | exact rfl | (simp only [IntKind.bits, Nat.and_one_is_mod]; omega)) | ((first | apply Pv.muln | apply Pv.notn) <;> first | exact rfl | (simp only [IntKind.bits, Nat.and_one_is_mod]; omega)) | ((first | apply Pv.fieldAddr | apply Pv.len | apply Pv.indexAddr | apply Pv.build | apply Pv.field | apply Pv.convert | apply Pv.addw | apply Pv.subw | apply Pv.mulw | apply Pv.binOp) <;> first | exact rfl | (intro w; go_simp <;> first | exact rfl | exact ⟨rfl, rfl⟩))))))
        | (apply EA.take 4; decide +kernel; exact rfl; kernel_rfl; decide +kernel; exact fun _ _ _ _ h => h; (first | (apply Pg.off; exact rfl) | (apply Pg.any; exact rfl; (first | (apply Pv.auto; exact rfl) | ((first | apply Pv.add | apply Pv.sub | apply Pv.mul64 | apply Pv.rem | apply Pv.quo) <;> first | exact rfl | omega) | (apply Pv.conv; exact rfl; (intro w; go_simp <;> first | exact rfl | exact ⟨rfl, rfl⟩); (first | exact wrapu64_id (by omega) (by omega) | exact wrap64_id (by omega) (by omega) | exact wrapu8_id (by omega) (by omega) | exact wrapu32_id (by omega) (by omega) | exact wrapu16_id (by omega) (by omega) | exact u8_mod _ | exact u32_mod _ | exact u64_mod _ | exact rfl)) | ((first | apply Pv.beq | apply Pv.bne); exact rfl; exact rfl; kernel_rfl) | ((first | apply Pv.xor | apply Pv.and | apply Pv.or | apply Pv.shr | apply Pv.shl) <;> first | exact rfl | (simp only [IntKind.bits, Nat.and_one_is_mod]; omega)) | ((first | apply Pv.muln | apply Pv.notn) <;> first | exact rfl | (simp only [IntKind.bits, Nat.and_one_is_mod]; omega)) | ((first | apply Pv.fieldAddr | apply Pv.len | apply Pv.indexAddr | apply Pv.build | apply Pv.field | apply Pv.convert | apply Pv.addw | apply Pv.subw | apply Pv.mulw | apply Pv.binOp) <;> first | exact rfl | (intro w; go_simp <;> first | exact rfl | exact ⟨rfl, rfl⟩))))))
        | (apply EA.take 5; decide +kernel; exact rfl; kernel_rfl; decide +kernel; exact fun _ _ _ _ h => h; (first | (apply Pg.off; exact rfl) | (apply Pg.any; exact rfl; (first | (apply Pv.auto; exact rfl) | ((first | apply Pv.add | apply Pv.sub | apply Pv.mul64 | apply Pv.rem | apply Pv.quo) <;> first | exact rfl | omega) | (apply Pv.conv; exact rfl; (intro w; go_simp <;> first | exact rfl | exact ⟨rfl, rfl⟩); (first | exact wrapu64_id (by omega) (by omega) | exact wrap64_id (by omega) (by omega) | exact wrapu8_id (by omega) (by omega) | exact wrapu32_id (by omega) (by omega) | exact wrapu16_id (by omega) (by omega) | exact u8_mod _ | exact u32_mod _ | exact u64_mod _ | exact rfl)) | ((first | apply Pv.beq | apply Pv.bne); exact rfl; exact rfl; kernel_rfl) | ((first | apply Pv.xor | apply Pv.and | apply Pv.or | apply Pv.shr | apply Pv.shl) <;> first | exact rfl | (simp only [IntKind.bits, Nat.and_one_is_mod]; omega)) | ((first | apply Pv.muln | apply Pv.notn) <;> first | exact rfl | (simp only [IntKind.bits, Nat.and_one_is_mod]; omega)) | ((first | apply Pv.fieldAddr | apply Pv.len | apply Pv.indexAddr | apply Pv.build | apply Pv.field | apply Pv.convert | apply Pv.addw | apply Pv.subw | apply Pv.mulw | apply Pv.binOp) <;> first | exact rfl | (intro w; go_simp <;> first | exact rfl | exact ⟨rfl, rfl⟩))))))
        | (apply EA.take 6; decide +kernel; exact rfl; kernel_rfl; decide +kernel; exact fun _ _ _ _ h => h; (first | (apply Pg.off; exact rfl) | (apply Pg.any; exact rfl; (first | (apply Pv.auto; exact rfl) | ((first | apply Pv.add | apply Pv.sub | apply Pv.mul64 | apply Pv.rem | apply Pv.quo) <;> first | exact rfl | omega) | (apply Pv.conv; exact rfl; (intro w; go_simp <;> first | exact rfl | exact ⟨rfl, rfl⟩); (first | exact wrapu64_id (by omega) (by omega) | exact wrap64_id (by omega) (by omega) | exact wrapu8_id (by omega) (by omega) | exact wrapu32_id (by omega) (by omega) | exact wrapu16_id (by omega) (by omega) | exact u8_mod _ | exact u32_mod _ | exact u64_mod _ | exact rfl)) | ((first | apply Pv.beq | apply Pv.bne); exact rfl; exact rfl; kernel_rfl) | ((first | apply Pv.xor | apply Pv.and | apply Pv.or | apply Pv.shr | apply Pv.shl) <;> first | exact rfl | (simp only [IntKind.bits, Nat.and_one_is_mod]; omega)) | ((first | apply Pv.muln | apply Pv.notn) <;> first | exact rfl | (simp only [IntKind.bits, Nat.and_one_is_mod]; omega)) | ((first | apply Pv.fieldAddr | apply Pv.len | apply Pv.indexAddr | apply Pv.build | apply Pv.field | apply Pv.convert | apply Pv.addw | apply Pv.subw | apply Pv.mulw | apply Pv.binOp) <;> first | exact rfl | (intro w; go_simp <;> first | exact rfl | exact ⟨rfl, rfl⟩))))))
        | (apply EA.take 7; decide +kernel; exact rfl; kernel_rfl; decide +kernel; exact fun _ _ _ _ h => h; (first | (apply Pg.off; exact rfl) | (apply Pg.any; exact rfl; (first | (apply Pv.auto; exact rfl) | ((first | apply Pv.add | apply Pv.sub | apply Pv.mul64 | apply Pv.rem | apply Pv.quo) <;> first | exact rfl | omega) | (apply Pv.conv; exact rfl; (intro w; go_simp <;> first | exact rfl | exact ⟨rfl, rfl⟩); (first | exact wrapu64_id (by omega) (by omega) | exact wrap64_id (by omega) (by omega) | exact wrapu8_id (by omega) (by omega) | exact wrapu32_id (by omega) (by omega) | exact wrapu16_id (by omega) (by omega) | exact u8_mod _ | exact u32_mod _ | exact u64_mod _ | exact rfl)) | ((first | apply Pv.beq | apply Pv.bne); exact rfl; exact rfl; kernel_rfl) | ((first | apply Pv.xor | apply Pv.and | apply Pv.or | apply Pv.shr | apply Pv.shl) <;> first | exact rfl | (simp only [IntKind.bits, Nat.and_one_is_mod]; omega)) | ((first | apply Pv.muln | apply Pv.notn) <;> first | exact rfl | (simp only [IntKind.bits, Nat.and_one_is_mod]; omega)) | ((first | apply Pv.fieldAddr | apply Pv.len | apply Pv.indexAddr | apply Pv.build | apply Pv.field | apply Pv.convert | apply Pv.addw | apply Pv.subw | apply Pv.mulw | apply Pv.binOp) <;> first | exact rfl | (intro w; go_simp <;> first | exact rfl | exact ⟨rfl, rfl⟩))))))
        | (apply EA.take 8; decide +kernel; exact rfl; kernel_rfl; decide +kernel; exact fun _ _ _ _ h => h; (first | (apply Pg.off; exact rfl) | (apply Pg.any; exact rfl; (first | (apply Pv.auto; exact rfl) | ((first | apply Pv.add | apply Pv.sub | apply Pv.mul64 | apply Pv.rem | apply Pv.quo) <;> first | exact rfl | omega) | (apply Pv.conv; exact rfl; (intro w; go_simp <;> first | exact rfl | exact ⟨rfl, rfl⟩); (first | exact wrapu64_id (by omega) (by omega) | exact wrap64_id (by omega) (by omega) | exact wrapu8_id (by omega) (by omega) | exact wrapu32_id (by omega) (by omega) | exact wrapu16_id (by omega) (by omega) | exact u8_mod _ | exact u32_mod _ | exact u64_mod _ | exact rfl)) | ((first | apply Pv.beq | apply Pv.bne); exact rfl; exact rfl; kernel_rfl) | ((first | apply Pv.xor | apply Pv.and | apply Pv.or | apply Pv.shr | apply Pv.shl) <;> first | exact rfl | (simp only [IntKind.bits, Nat.and_one_is_mod]; omega)) | ((first | apply Pv.muln | apply Pv.notn) <;> first | exact rfl | (simp only [IntKind.bits, Nat.and_one_is_mod]; omega)) | ((first | apply Pv.fieldAddr | apply Pv.len | apply Pv.indexAddr | apply Pv.build | apply Pv.field | apply Pv.convert | apply Pv.addw | apply Pv.subw | apply Pv.mulw | apply Pv.binOp) <;> first | exact rfl | (intro w; go_simp <;> first | exact rfl | exact ⟨rfl, rfl⟩))))))
        | (apply EA.take 9; decide +kernel; exact rfl; kernel_rfl; decide +kernel; exact fun _ _ _ _ h => h; (first | (apply Pg.off; exact rfl) | (apply Pg.any; exact rfl; (first | (apply Pv.auto; exact rfl) | ((first | apply Pv.add | apply Pv.sub | apply Pv.mul64 | apply Pv.rem | apply Pv.quo) <;> first | exact rfl | omega) | (apply Pv.conv; exact rfl; (intro w; go_simp <;> first | exact rfl | exact ⟨rfl, rfl⟩); (first | exact wrapu64_id (by omega) (by omega) | exact wrap64_id (by omega) (by omega) | exact wrapu8_id (by omega) (by omega) | exact wrapu32_id (by omega) (by omega) | exact wrapu16_id (by omega) (by omega) | exact u8_mod _ | exact u32_mod _ | exact u64_mod _ | exact rfl)) | ((first | apply Pv.beq | apply Pv.bne); exact rfl; exact rfl; kernel_rfl) | ((first | apply Pv.xor | apply Pv.and | apply Pv.or | apply Pv.shr | apply Pv.shl) <;> first | exact rfl | (simp only [IntKind.bits, Nat.and_one_is_mod]; omega)) | ((first | apply Pv.muln | apply Pv.notn) <;> first | exact rfl | (simp only [IntKind.bits, Nat.and_one_is_mod]; omega)) | ((first | apply Pv.fieldAddr | apply Pv.len | apply Pv.indexAddr | apply Pv.build | apply Pv.field | apply Pv.convert | apply Pv.addw | apply Pv.subw | apply Pv.mulw | apply Pv.binOp) <;> first | exact rfl | (intro w; go_simp <;> first | exact rfl | exact ⟨rfl, rfl⟩))))))
        | (apply EA.take 10; decide +kernel; exact rfl; kernel_rfl; decide +kernel; exact fun _ _ _ _ h => h; (first | (apply Pg.off; exact rfl) | (apply Pg.any; exact rfl; (first | (apply Pv.auto; exact rfl) | ((first | apply Pv.add | apply Pv.sub | apply Pv.mul64 | apply Pv.rem | apply Pv.quo) <;> first | exact rfl | omega) | (apply Pv.conv; exact rfl; (intro w; go_simp <;> first | exact rfl | exact ⟨rfl, rfl⟩); (first | exact wrapu64_id (by omega) (by omega) | exact wrap64_id (by omega) (by omega) | exact wrapu8_id (by omega) (by omega) | exact wrapu32_id (by omega) (by omega) | exact wrapu16_id (by omega) (by omega) | exact u8_mod _ | exact u32_mod _ | exact u64_mod _ | exact rfl)) | ((first | apply Pv.beq | apply Pv.bne); exact rfl; exact rfl; kernel_rfl) | ((first | apply Pv.xor | apply Pv.and | apply Pv.or | apply Pv.shr | apply Pv.shl) <;> first | exact rfl | (simp only [IntKind.bits, Nat.and_one_is_mod]; omega)) | ((first | apply Pv.muln | apply Pv.notn) <;> first | exact rfl | (simp only [IntKind.bits, Nat.and_one_is_mod]; omega)) | ((first | apply Pv.fieldAddr | apply Pv.len | apply Pv.indexAddr | apply Pv.build | apply Pv.field | apply Pv.convert | apply Pv.addw | apply Pv.subw | apply Pv.mulw | apply Pv.binOp) <;> first | exact rfl | (intro w; go_simp <;> first | exact rfl | exact ⟨rfl, rfl⟩))))))
        | (apply EA.take 11; decide +kernel; exact rfl; kernel_rfl; decide +kernel; exact fun _ _ _ _ h => h; (first | (apply Pg.off; exact rfl) | (apply Pg.any; exact rfl; (first | (apply Pv.auto; exact rfl) | ((first | apply Pv.add | apply Pv.sub | apply Pv.mul64 | apply Pv.rem | apply Pv.quo) <;> first | exact rfl | omega) | (apply Pv.conv; exact rfl; (intro w; go_simp <;> first | exact rfl | exact ⟨rfl, rfl⟩); (first | exact wrapu64_id (by omega) (by omega) | exact wrap64_id (by omega) (by omega) | exact wrapu8_id (by omega) (by omega) | exact wrapu32_id (by omega) (by omega) | exact wrapu16_id (by omega) (by omega) | exact u8_mod _ | exact u32_mod _ | exact u64_mod _ | exact rfl)) | ((first | apply Pv.beq | apply Pv.bne); exact rfl; exact rfl; kernel_rfl) | ((first | apply Pv.xor | apply Pv.and | apply Pv.or | apply Pv.shr | apply Pv.shl) <;> first | exact rfl | (simp only [IntKind.bits, Nat.and_one_is_mod]; omega)) | ((first | apply Pv.muln | apply Pv.notn) <;> first | exact rfl | (simp only [IntKind.bits, Nat.and_one_is_mod]; omega)) | ((first | apply Pv.fieldAddr | apply Pv.len | apply Pv.indexAddr | apply Pv.build | apply Pv.field | apply Pv.convert | apply Pv.addw | apply Pv.subw | apply Pv.mulw | apply Pv.binOp) <;> first | exact rfl | (intro w; go_simp <;> first | exact rfl | exact ⟨rfl, rfl⟩)))))))
      apply EA.two 7 12
      · decide +kernel
      · exact rfl
      · exact rfl
      · refine St.callf Tryz.func232 rfl ?_
        refine sum_any (hps.row hs) (by rw [List.length_take]; omega) ?_
        apply EA.two 8 12
        · decide +kernel
        · exact rfl
        · exact rfl
        · refine St.callf Tryz.func231 rfl ?_
          refine four_any hs (crc_lt _) ?_
          intro b3 w3 hs
          apply EA.two 9 12
          · decide +kernel
          · exact rfl
          · exact rfl
          · apply St.string
            · exact rfl
            · exact Tryz.underlying23
            · exact Tryz.underlying5
            · exact Tryz.underlying9
            · exact (Row.of_owns (D := fun _ => True) hs.owns (fun _ _ => trivial))
            apply EA.one 12
            · decide +kernel
            · exact rfl
            apply St.string
            · exact rfl
            · exact Tryz.underlying23
            · exact Tryz.underlying5
            · exact Tryz.underlying9
            · exact (hp4.row hs)
            apply EA.take 13
            · decide +kernel
            · exact rfl
            · kernel_rfl
            · decide +kernel
            · exact fun _ _ _ _ h => h
            · apply Pg.any
              · exact rfl
              exact Pv.sne rfl rfl
            apply EA.take 14; decide +kernel; exact rfl; kernel_rfl; decide +kernel; exact fun _ _ _ _ h => h; (first | (apply Pg.off; exact rfl) | (apply Pg.any; exact rfl; (first | (apply Pv.auto; exact rfl) | ((first | apply Pv.add | apply Pv.sub | apply Pv.mul64 | apply Pv.rem | apply Pv.quo) <;> first | exact rfl | omega) | (apply Pv.conv; exact rfl; (intro w; go_simp <;> first | exact rfl | exact ⟨rfl, rfl⟩); (first | exact wrapu64_id (by omega) (by omega) | exact wrap64_id (by omega) (by omega) | exact wrapu8_id (by omega) (by omega) | exact wrapu32_id (by omega) (by omega) | exact wrapu16_id (by omega) (by omega) | exact u8_mod _ | exact u32_mod _ | exact u64_mod _ | exact rfl)) | ((first | apply Pv.beq | apply Pv.bne); exact rfl; exact rfl; kernel_rfl) | ((first | apply Pv.xor | apply Pv.and | apply Pv.or | apply Pv.shr | apply Pv.shl) <;> first | exact rfl | (simp only [IntKind.bits, Nat.and_one_is_mod]; omega)) | ((first | apply Pv.muln | apply Pv.notn) <;> first | exact rfl | (simp only [IntKind.bits, Nat.and_one_is_mod]; omega)) | ((first | apply Pv.fieldAddr | apply Pv.len | apply Pv.indexAddr | apply Pv.build | apply Pv.field | apply Pv.convert | apply Pv.addw | apply Pv.subw | apply Pv.mulw | apply Pv.binOp) <;> first | exact rfl | (intro w; go_simp <;> first | exact rfl | exact ⟨rfl, rfl⟩)))))
            apply EA.done
            · decide +kernel
            exact A.meet () wk_ hs.drop
          · apply St.string
            · exact rfl
            · exact Tryz.underlying23
            · exact Tryz.underlying5
            · exact Tryz.underlying9
            · exact (hp4.row hs)
            apply EA.one 9
            · decide +kernel
            · exact rfl
            apply St.string
            · exact rfl
            · exact Tryz.underlying23
            · exact Tryz.underlying5
            · exact Tryz.underlying9
            · exact (Row.of_owns (D := fun _ => True) hs.owns (fun _ _ => trivial))
            apply EA.take 13
            · decide +kernel
            · exact rfl
            · kernel_rfl
            · decide +kernel
            · exact fun _ _ _ _ h => h
            · apply Pg.any
              · exact rfl
              exact Pv.sne rfl rfl
            apply EA.take 14; decide +kernel; exact rfl; kernel_rfl; decide +kernel; exact fun _ _ _ _ h => h; (first | (apply Pg.off; exact rfl) | (apply Pg.any; exact rfl; (first | (apply Pv.auto; exact rfl) | ((first | apply Pv.add | apply Pv.sub | apply Pv.mul64 | apply Pv.rem | apply Pv.quo) <;> first | exact rfl | omega) | (apply Pv.conv; exact rfl; (intro w; go_simp <;> first | exact rfl | exact ⟨rfl, rfl⟩); (first | exact wrapu64_id (by omega) (by omega) | exact wrap64_id (by omega) (by omega) | exact wrapu8_id (by omega) (by omega) | exact wrapu32_id (by omega) (by omega) | exact wrapu16_id (by omega) (by omega) | exact u8_mod _ | exact u32_mod _ | exact u64_mod _ | exact rfl)) | ((first | apply Pv.beq | apply Pv.bne); exact rfl; exact rfl; kernel_rfl) | ((first | apply Pv.xor | apply Pv.and | apply Pv.or | apply Pv.shr | apply Pv.shl) <;> first | exact rfl | (simp only [IntKind.bits, Nat.and_one_is_mod]; omega)) | ((first | apply Pv.muln | apply Pv.notn) <;> first | exact rfl | (simp only [IntKind.bits, Nat.and_one_is_mod]; omega)) | ((first | apply Pv.fieldAddr | apply Pv.len | apply Pv.indexAddr | apply Pv.build | apply Pv.field | apply Pv.convert | apply Pv.addw | apply Pv.subw | apply Pv.mulw | apply Pv.binOp) <;> first | exact rfl | (intro w; go_simp <;> first | exact rfl | exact ⟨rfl, rfl⟩)))))
            apply EA.done
            · decide +kernel
            exact A.meet () wk_ hs.drop
        · apply St.string
          · exact rfl
          · exact Tryz.underlying23
          · exact Tryz.underlying5
          · exact Tryz.underlying9
          · exact (hp4.row hs)
          apply EA.one 8
          · decide +kernel
          · exact rfl
          refine St.callf Tryz.func231 rfl ?_
          refine four_any hs (crc_lt _) ?_
          intro b3 w3 hs
          apply EA.one 9
          · decide +kernel
          · exact rfl
          apply St.string
          · exact rfl
          · exact Tryz.underlying23
          · exact Tryz.underlying5
          · exact Tryz.underlying9
          · exact (Row.of_owns (D := fun _ => True) hs.owns (fun _ _ => trivial))
          apply EA.take 13
          · decide +kernel
          · exact rfl
          · kernel_rfl
          · decide +kernel
          · exact fun _ _ _ _ h => h
          · apply Pg.any
            · exact rfl
            exact Pv.sne rfl rfl
          apply EA.take 14; decide +kernel; exact rfl; kernel_rfl; decide +kernel; exact fun _ _ _ _ h => h; (first | (apply Pg.off; exact rfl) | (apply Pg.any; exact rfl; (first | (apply Pv.auto; exact rfl) | ((first | apply Pv.add | apply Pv.sub | apply Pv.mul64 | apply Pv.rem | apply Pv.quo) <;> first | exact rfl | omega) | (apply Pv.conv; exact rfl; (intro w; go_simp <;> first | exact rfl | exact ⟨rfl, rfl⟩); (first | exact wrapu64_id (by omega) (by omega) | exact wrap64_id (by omega) (by omega) | exact wrapu8_id (by omega) (by omega) | exact wrapu32_id (by omega) (by omega) | exact wrapu16_id (by omega) (by omega) | exact u8_mod _ | exact u32_mod _ | exact u64_mod _ | exact rfl)) | ((first | apply Pv.beq | apply Pv.bne); exact rfl; exact rfl; kernel_rfl) | ((first | apply Pv.xor | apply Pv.and | apply Pv.or | apply Pv.shr | apply Pv.shl) <;> first | exact rfl | (simp only [IntKind.bits, Nat.and_one_is_mod]; omega)) | ((first | apply Pv.muln | apply Pv.notn) <;> first | exact rfl | (simp only [IntKind.bits, Nat.and_one_is_mod]; omega)) | ((first | apply Pv.fieldAddr | apply Pv.len | apply Pv.indexAddr | apply Pv.build | apply Pv.field | apply Pv.convert | apply Pv.addw | apply Pv.subw | apply Pv.mulw | apply Pv.binOp) <;> first | exact rfl | (intro w; go_simp <;> first | exact rfl | exact ⟨rfl, rfl⟩)))))
          apply EA.done
          · decide +kernel
          exact A.meet () wk_ hs.drop
      · apply St.string
        · exact rfl
        · exact Tryz.underlying23
        · exact Tryz.underlying5
        · exact Tryz.underlying9
        · exact (hp4.row hs)
        apply EA.one 7
        · decide +kernel
        · exact rfl
        refine St.callf Tryz.func232 rfl ?_
        refine sum_any (hps.row hs) (by rw [List.length_take]; omega) ?_
        apply EA.one 8
        · decide +kernel
        · exact rfl
        refine St.callf Tryz.func231 rfl ?_
        refine four_any hs (crc_lt _) ?_
        intro b3 w3 hs
        apply EA.one 9
        · decide +kernel
        · exact rfl
        apply St.string
        · exact rfl
        · exact Tryz.underlying23
        · exact Tryz.underlying5
        · exact Tryz.underlying9
        · exact (Row.of_owns (D := fun _ => True) hs.owns (fun _ _ => trivial))
        apply EA.take 13
        · decide +kernel
        · exact rfl
        · kernel_rfl
        · decide +kernel
        · exact fun _ _ _ _ h => h
        · apply Pg.any
          · exact rfl
          exact Pv.sne rfl rfl
        apply EA.take 14; decide +kernel; exact rfl; kernel_rfl; decide +kernel; exact fun _ _ _ _ h => h; (first | (apply Pg.off; exact rfl) | (apply Pg.any; exact rfl; (first | (apply Pv.auto; exact rfl) | ((first | apply Pv.add | apply Pv.sub | apply Pv.mul64 | apply Pv.rem | apply Pv.quo) <;> first | exact rfl | omega) | (apply Pv.conv; exact rfl; (intro w; go_simp <;> first | exact rfl | exact ⟨rfl, rfl⟩); (first | exact wrapu64_id (by omega) (by omega) | exact wrap64_id (by omega) (by omega) | exact wrapu8_id (by omega) (by omega) | exact wrapu32_id (by omega) (by omega) | exact wrapu16_id (by omega) (by omega) | exact u8_mod _ | exact u32_mod _ | exact u64_mod _ | exact rfl)) | ((first | apply Pv.beq | apply Pv.bne); exact rfl; exact rfl; kernel_rfl) | ((first | apply Pv.xor | apply Pv.and | apply Pv.or | apply Pv.shr | apply Pv.shl) <;> first | exact rfl | (simp only [IntKind.bits, Nat.and_one_is_mod]; omega)) | ((first | apply Pv.muln | apply Pv.notn) <;> first | exact rfl | (simp only [IntKind.bits, Nat.and_one_is_mod]; omega)) | ((first | apply Pv.fieldAddr | apply Pv.len | apply Pv.indexAddr | apply Pv.build | apply Pv.field | apply Pv.convert | apply Pv.addw | apply Pv.subw | apply Pv.mulw | apply Pv.binOp) <;> first | exact rfl | (intro w; go_simp <;> first | exact rfl | exact ⟨rfl, rfl⟩)))))
        apply EA.done
        · decide +kernel
        exact A.meet () wk_ hs.drop
    clear hs
    rintro _ w2 hs
    refine go ?_
    by_cases heq : fourB (crc (l.take (k + v))) = (l.drop (k + v)).take 4
    · refine C.cond rfl (fun h => by simp [heq] at h) (fun _ => ?_)
      obtain ⟨o2, ho, ho2⟩ := run_slice_l_at (kd := .i64) (o0 := o1) (b := b1) (c := c1) (l := 4) el_u8 (show 4 ≤ n - k - v by omega)
      refine go ?_
      apply C.any hs
      · kernel_rfl
      intro w3 hs
      repeat (first
        | (apply EA.take 0; decide +kernel; exact rfl; kernel_rfl; decide +kernel; exact fun _ _ _ _ h => h; (first | (apply Pg.off; exact rfl) | (apply Pg.any; exact rfl; (first | (apply Pv.auto; exact rfl) | ((first | apply Pv.add | apply Pv.sub | apply Pv.mul64 | apply Pv.rem | apply Pv.quo) <;> first | exact rfl | omega) | (apply Pv.conv; exact rfl; (intro w; go_simp <;> first | exact rfl | exact ⟨rfl, rfl⟩); (first | exact wrapu64_id (by omega) (by omega) | exact wrap64_id (by omega) (by omega) | exact wrapu8_id (by omega) (by omega) | exact wrapu32_id (by omega) (by omega) | exact wrapu16_id (by omega) (by omega) | exact u8_mod _ | exact u32_mod _ | exact u64_mod _ | exact rfl)) | ((first | apply Pv.beq | apply Pv.bne); exact rfl; exact rfl; kernel_rfl) | ((first | apply Pv.xor | apply Pv.and | apply Pv.or | apply Pv.shr | apply Pv.shl) <;> first | exact rfl | (simp only [IntKind.bits, Nat.and_one_is_mod]; omega)) | ((first | apply Pv.muln | apply Pv.notn) <;> first | exact rfl | (simp only [IntKind.bits, Nat.and_one_is_mod]; omega)) | ((first | apply Pv.fieldAddr | apply Pv.len | apply Pv.indexAddr | apply Pv.build | apply Pv.field | apply Pv.convert | apply Pv.addw | apply Pv.subw | apply Pv.mulw | apply Pv.binOp) <;> first | exact rfl | (intro w; go_simp <;> first | exact rfl | exact ⟨rfl, rfl⟩))))))
        | (apply EA.take 1; decide +kernel; exact rfl; kernel_rfl; decide +kernel; exact fun _ _ _ _ h => h; (first | (apply Pg.off; exact rfl) | (apply Pg.any; exact rfl; (first | (apply Pv.auto; exact rfl) | ((first | apply Pv.add | apply Pv.sub | apply Pv.mul64 | apply Pv.rem | apply Pv.quo) <;> first | exact rfl | omega) | (apply Pv.conv; exact rfl; (intro w; go_simp <;> first | exact rfl | exact ⟨rfl, rfl⟩); (first | exact wrapu64_id (by omega) (by omega) | exact wrap64_id (by omega) (by omega) | exact wrapu8_id (by omega) (by omega) | exact wrapu32_id (by omega) (by omega) | exact wrapu16_id (by omega) (by omega) | exact u8_mod _ | exact u32_mod _ | exact u64_mod _ | exact rfl)) | ((first | apply Pv.beq | apply Pv.bne); exact rfl; exact rfl; kernel_rfl) | ((first | apply Pv.xor | apply Pv.and | apply Pv.or | apply Pv.shr | apply Pv.shl) <;> first | exact rfl | (simp only [IntKind.bits, Nat.and_one_is_mod]; omega)) | ((first | apply Pv.muln | apply Pv.notn) <;> first | exact rfl | (simp only [IntKind.bits, Nat.and_one_is_mod]; omega)) | ((first | apply Pv.fieldAddr | apply Pv.len | apply Pv.indexAddr | apply Pv.build | apply Pv.field | apply Pv.convert | apply Pv.addw | apply Pv.subw | apply Pv.mulw | apply Pv.binOp) <;> first | exact rfl | (intro w; go_simp <;> first | exact rfl | exact ⟨rfl, rfl⟩))))))
        | (apply EA.take 2; decide +kernel; exact rfl; kernel_rfl; decide +kernel; exact fun _ _ _ _ h => h; (first | (apply Pg.off; exact rfl) | (apply Pg.any; exact rfl; (first | (apply Pv.auto; exact rfl) | ((first | apply Pv.add | apply Pv.sub | apply Pv.mul64 | apply Pv.rem | apply Pv.quo) <;> first | exact rfl | omega) | (apply Pv.conv; exact rfl; (intro w; go_simp <;> first | exact rfl | exact ⟨rfl, rfl⟩); (first | exact wrapu64_id (by omega) (by omega) | exact wrap64_id (by omega) (by omega) | exact wrapu8_id (by omega) (by omega) | exact wrapu32_id (by omega) (by omega) | exact wrapu16_id (by omega) (by omega) | exact u8_mod _ | exact u32_mod _ | exact u64_mod _ | exact rfl)) | ((first | apply Pv.beq | apply Pv.bne); exact rfl; exact rfl; kernel_rfl) | ((first | apply Pv.xor | apply Pv.and | apply Pv.or | apply Pv.shr | apply Pv.shl) <;> first | exact rfl | (simp only [IntKind.bits, Nat.and_one_is_mod]; omega)) | ((first | apply Pv.muln | apply Pv.notn) <;> first | exact rfl | (simp only [IntKind.bits, Nat.and_one_is_mod]; omega)) | ((first | apply Pv.fieldAddr | apply Pv.len | apply Pv.indexAddr | apply Pv.build | apply Pv.field | apply Pv.convert | apply Pv.addw | apply Pv.subw | apply Pv.mulw | apply Pv.binOp) <;> first | exact rfl | (intro w; go_simp <;> first | exact rfl | exact ⟨rfl, rfl⟩))))))
        | (apply EA.take 3; decide +kernel; exact rfl; kernel_rfl; decide +kernel; exact fun _ _ _ _ h => h; (first | (apply Pg.off; exact rfl) | (apply Pg.any; exact rfl; (first | (apply Pv.auto; exact rfl) | ((first | apply Pv.add | apply Pv.sub | apply Pv.mul64 | apply Pv.rem | apply Pv.quo) <;> first | exact rfl | omega) | (apply Pv.conv; exact rfl; (intro w; go_simp <;> first | exact rfl | exact ⟨rfl, rfl⟩); (first | exact wrapu64_id (by omega) (by omega) | exact wrap64_id (by omega) (by omega) | exact wrapu8_id (by omega) (by omega) | exact wrapu32_id (by omega) (by omega) | exact wrapu16_id (by omega) (by omega) | exact u8_mod _ | exact u32_mod _ | exact u64_mod _ | exact rfl)) | ((first | apply Pv.beq | apply Pv.bne); exact rfl; exact rfl; kernel_rfl) | ((first | apply Pv.xor | apply Pv.and | apply Pv.or | apply Pv.shr | apply Pv.shl) <;> first | exact rfl | (simp only [IntKind.bits, Nat.and_one_is_mod]; omega)) | ((first | apply Pv.muln | apply Pv.notn) <;> first | exact rfl | (simp only [IntKind.bits, Nat.and_one_is_mod]; omega)) | ((first | apply Pv.fieldAddr | apply Pv.len | apply Pv.indexAddr | apply Pv.build | apply Pv.field | apply Pv.convert | apply Pv.addw | apply Pv.subw | apply Pv.mulw | apply Pv.binOp) <;> first | exact rfl | (intro w; go_simp <;> first | exact rfl | exact ⟨rfl, rfl⟩))))))
        | (apply EA.take 4; decide +kernel; exact rfl; kernel_rfl; decide +kernel; exact fun _ _ _ _ h => h; (first | (apply Pg.off; exact rfl) | (apply Pg.any; exact rfl; (first | (apply Pv.auto; exact rfl) | ((first | apply Pv.add | apply Pv.sub | apply Pv.mul64 | apply Pv.rem | apply Pv.quo) <;> first | exact rfl | omega) | (apply Pv.conv; exact rfl; (intro w; go_simp <;> first | exact rfl | exact ⟨rfl, rfl⟩); (first | exact wrapu64_id (by omega) (by omega) | exact wrap64_id (by omega) (by omega) | exact wrapu8_id (by omega) (by omega) | exact wrapu32_id (by omega) (by omega) | exact wrapu16_id (by omega) (by omega) | exact u8_mod _ | exact u32_mod _ | exact u64_mod _ | exact rfl)) | ((first | apply Pv.beq | apply Pv.bne); exact rfl; exact rfl; kernel_rfl) | ((first | apply Pv.xor | apply Pv.and | apply Pv.or | apply Pv.shr | apply Pv.shl) <;> first | exact rfl | (simp only [IntKind.bits, Nat.and_one_is_mod]; omega)) | ((first | apply Pv.muln | apply Pv.notn) <;> first | exact rfl | (simp only [IntKind.bits, Nat.and_one_is_mod]; omega)) | ((first | apply Pv.fieldAddr | apply Pv.len | apply Pv.indexAddr | apply Pv.build | apply Pv.field | apply Pv.convert | apply Pv.addw | apply Pv.subw | apply Pv.mulw | apply Pv.binOp) <;> first | exact rfl | (intro w; go_simp <;> first | exact rfl | exact ⟨rfl, rfl⟩))))))
        | (apply EA.take 5; decide +kernel; exact rfl; kernel_rfl; decide +kernel; exact fun _ _ _ _ h => h; (first | (apply Pg.off; exact rfl) | (apply Pg.any; exact rfl; (first | (apply Pv.auto; exact rfl) | ((first | apply Pv.add | apply Pv.sub | apply Pv.mul64 | apply Pv.rem | apply Pv.quo) <;> first | exact rfl | omega) | (apply Pv.conv; exact rfl; (intro w; go_simp <;> first | exact rfl | exact ⟨rfl, rfl⟩); (first | exact wrapu64_id (by omega) (by omega) | exact wrap64_id (by omega) (by omega) | exact wrapu8_id (by omega) (by omega) | exact wrapu32_id (by omega) (by omega) | exact wrapu16_id (by omega) (by omega) | exact u8_mod _ | exact u32_mod _ | exact u64_mod _ | exact rfl)) | ((first | apply Pv.beq | apply Pv.bne); exact rfl; exact rfl; kernel_rfl) | ((first | apply Pv.xor | apply Pv.and | apply Pv.or | apply Pv.shr | apply Pv.shl) <;> first | exact rfl | (simp only [IntKind.bits, Nat.and_one_is_mod]; omega)) | ((first | apply Pv.muln | apply Pv.notn) <;> first | exact rfl | (simp only [IntKind.bits, Nat.and_one_is_mod]; omega)) | ((first | apply Pv.fieldAddr | apply Pv.len | apply Pv.indexAddr | apply Pv.build | apply Pv.field | apply Pv.convert | apply Pv.addw | apply Pv.subw | apply Pv.mulw | apply Pv.binOp) <;> first | exact rfl | (intro w; go_simp <;> first | exact rfl | exact ⟨rfl, rfl⟩))))))
        | (apply EA.take 6; decide +kernel; exact rfl; kernel_rfl; decide +kernel; exact fun _ _ _ _ h => h; (first | (apply Pg.off; exact rfl) | (apply Pg.any; exact rfl; (first | (apply Pv.auto; exact rfl) | ((first | apply Pv.add | apply Pv.sub | apply Pv.mul64 | apply Pv.rem | apply Pv.quo) <;> first | exact rfl | omega) | (apply Pv.conv; exact rfl; (intro w; go_simp <;> first | exact rfl | exact ⟨rfl, rfl⟩); (first | exact wrapu64_id (by omega) (by omega) | exact wrap64_id (by omega) (by omega) | exact wrapu8_id (by omega) (by omega) | exact wrapu32_id (by omega) (by omega) | exact wrapu16_id (by omega) (by omega) | exact u8_mod _ | exact u32_mod _ | exact u64_mod _ | exact rfl)) | ((first | apply Pv.beq | apply Pv.bne); exact rfl; exact rfl; kernel_rfl) | ((first | apply Pv.xor | apply Pv.and | apply Pv.or | apply Pv.shr | apply Pv.shl) <;> first | exact rfl | (simp only [IntKind.bits, Nat.and_one_is_mod]; omega)) | ((first | apply Pv.muln | apply Pv.notn) <;> first | exact rfl | (simp only [IntKind.bits, Nat.and_one_is_mod]; omega)) | ((first | apply Pv.fieldAddr | apply Pv.len | apply Pv.indexAddr | apply Pv.build | apply Pv.field | apply Pv.convert | apply Pv.addw | apply Pv.subw | apply Pv.mulw | apply Pv.binOp) <;> first | exact rfl | (intro w; go_simp <;> first | exact rfl | exact ⟨rfl, rfl⟩))))))
        | (apply EA.take 7; decide +kernel; exact rfl; kernel_rfl; decide +kernel; exact fun _ _ _ _ h => h; (first | (apply Pg.off; exact rfl) | (apply Pg.any; exact rfl; (first | (apply Pv.auto; exact rfl) | ((first | apply Pv.add | apply Pv.sub | apply Pv.mul64 | apply Pv.rem | apply Pv.quo) <;> first | exact rfl | omega) | (apply Pv.conv; exact rfl; (intro w; go_simp <;> first | exact rfl | exact ⟨rfl, rfl⟩); (first | exact wrapu64_id (by omega) (by omega) | exact wrap64_id (by omega) (by omega) | exact wrapu8_id (by omega) (by omega) | exact wrapu32_id (by omega) (by omega) | exact wrapu16_id (by omega) (by omega) | exact u8_mod _ | exact u32_mod _ | exact u64_mod _ | exact rfl)) | ((first | apply Pv.beq | apply Pv.bne); exact rfl; exact rfl; kernel_rfl) | ((first | apply Pv.xor | apply Pv.and | apply Pv.or | apply Pv.shr | apply Pv.shl) <;> first | exact rfl | (simp only [IntKind.bits, Nat.and_one_is_mod]; omega)) | ((first | apply Pv.muln | apply Pv.notn) <;> first | exact rfl | (simp only [IntKind.bits, Nat.and_one_is_mod]; omega)) | ((first | apply Pv.fieldAddr | apply Pv.len | apply Pv.indexAddr | apply Pv.build | apply Pv.field | apply Pv.convert | apply Pv.addw | apply Pv.subw | apply Pv.mulw | apply Pv.binOp) <;> first | exact rfl | (intro w; go_simp <;> first | exact rfl | exact ⟨rfl, rfl⟩))))))
        | (apply EA.take 8; decide +kernel; exact rfl; kernel_rfl; decide +kernel; exact fun _ _ _ _ h => h; (first | (apply Pg.off; exact rfl) | (apply Pg.any; exact rfl; (first | (apply Pv.auto; exact rfl) | ((first | apply Pv.add | apply Pv.sub | apply Pv.mul64 | apply Pv.rem | apply Pv.quo) <;> first | exact rfl | omega) | (apply Pv.conv; exact rfl; (intro w; go_simp <;> first | exact rfl | exact ⟨rfl, rfl⟩); (first | exact wrapu64_id (by omega) (by omega) | exact wrap64_id (by omega) (by omega) | exact wrapu8_id (by omega) (by omega) | exact wrapu32_id (by omega) (by omega) | exact wrapu16_id (by omega) (by omega) | exact u8_mod _ | exact u32_mod _ | exact u64_mod _ | exact rfl)) | ((first | apply Pv.beq | apply Pv.bne); exact rfl; exact rfl; kernel_rfl) | ((first | apply Pv.xor | apply Pv.and | apply Pv.or | apply Pv.shr | apply Pv.shl) <;> first | exact rfl | (simp only [IntKind.bits, Nat.and_one_is_mod]; omega)) | ((first | apply Pv.muln | apply Pv.notn) <;> first | exact rfl | (simp only [IntKind.bits, Nat.and_one_is_mod]; omega)) | ((first | apply Pv.fieldAddr | apply Pv.len | apply Pv.indexAddr | apply Pv.build | apply Pv.field | apply Pv.convert | apply Pv.addw | apply Pv.subw | apply Pv.mulw | apply Pv.binOp) <;> first | exact rfl | (intro w; go_simp <;> first | exact rfl | exact ⟨rfl, rfl⟩))))))
        | (apply EA.take 9; decide +kernel; exact rfl; kernel_rfl; decide +kernel; exact fun _ _ _ _ h => h; (first | (apply Pg.off; exact rfl) | (apply Pg.any; exact rfl; (first | (apply Pv.auto; exact rfl) | ((first | apply Pv.add | apply Pv.sub | apply Pv.mul64 | apply Pv.rem | apply Pv.quo) <;> first | exact rfl | omega) | (apply Pv.conv; exact rfl; (intro w; go_simp <;> first | exact rfl | exact ⟨rfl, rfl⟩); (first | exact wrapu64_id (by omega) (by omega) | exact wrap64_id (by omega) (by omega) | exact wrapu8_id (by omega) (by omega) | exact wrapu32_id (by omega) (by omega) | exact wrapu16_id (by omega) (by omega) | exact u8_mod _ | exact u32_mod _ | exact u64_mod _ | exact rfl)) | ((first | apply Pv.beq | apply Pv.bne); exact rfl; exact rfl; kernel_rfl) | ((first | apply Pv.xor | apply Pv.and | apply Pv.or | apply Pv.shr | apply Pv.shl) <;> first | exact rfl | (simp only [IntKind.bits, Nat.and_one_is_mod]; omega)) | ((first | apply Pv.muln | apply Pv.notn) <;> first | exact rfl | (simp only [IntKind.bits, Nat.and_one_is_mod]; omega)) | ((first | apply Pv.fieldAddr | apply Pv.len | apply Pv.indexAddr | apply Pv.build | apply Pv.field | apply Pv.convert | apply Pv.addw | apply Pv.subw | apply Pv.mulw | apply Pv.binOp) <;> first | exact rfl | (intro w; go_simp <;> first | exact rfl | exact ⟨rfl, rfl⟩))))))
        | (apply EA.take 10; decide +kernel; exact rfl; kernel_rfl; decide +kernel; exact fun _ _ _ _ h => h; (first | (apply Pg.off; exact rfl) | (apply Pg.any; exact rfl; (first | (apply Pv.auto; exact rfl) | ((first | apply Pv.add | apply Pv.sub | apply Pv.mul64 | apply Pv.rem | apply Pv.quo) <;> first | exact rfl | omega) | (apply Pv.conv; exact rfl; (intro w; go_simp <;> first | exact rfl | exact ⟨rfl, rfl⟩); (first | exact wrapu64_id (by omega) (by omega) | exact wrap64_id (by omega) (by omega) | exact wrapu8_id (by omega) (by omega) | exact wrapu32_id (by omega) (by omega) | exact wrapu16_id (by omega) (by omega) | exact u8_mod _ | exact u32_mod _ | exact u64_mod _ | exact rfl)) | ((first | apply Pv.beq | apply Pv.bne); exact rfl; exact rfl; kernel_rfl) | ((first | apply Pv.xor | apply Pv.and | apply Pv.or | apply Pv.shr | apply Pv.shl) <;> first | exact rfl | (simp only [IntKind.bits, Nat.and_one_is_mod]; omega)) | ((first | apply Pv.muln | apply Pv.notn) <;> first | exact rfl | (simp only [IntKind.bits, Nat.and_one_is_mod]; omega)) | ((first | apply Pv.fieldAddr | apply Pv.len | apply Pv.indexAddr | apply Pv.build | apply Pv.field | apply Pv.convert | apply Pv.addw | apply Pv.subw | apply Pv.mulw | apply Pv.binOp) <;> first | exact rfl | (intro w; go_simp <;> first | exact rfl | exact ⟨rfl, rfl⟩))))))
        | (apply EA.take 11; decide +kernel; exact rfl; kernel_rfl; decide +kernel; exact fun _ _ _ _ h => h; (first | (apply Pg.off; exact rfl) | (apply Pg.any; exact rfl; (first | (apply Pv.auto; exact rfl) | ((first | apply Pv.add | apply Pv.sub | apply Pv.mul64 | apply Pv.rem | apply Pv.quo) <;> first | exact rfl | omega) | (apply Pv.conv; exact rfl; (intro w; go_simp <;> first | exact rfl | exact ⟨rfl, rfl⟩); (first | exact wrapu64_id (by omega) (by omega) | exact wrap64_id (by omega) (by omega) | exact wrapu8_id (by omega) (by omega) | exact wrapu32_id (by omega) (by omega) | exact wrapu16_id (by omega) (by omega) | exact u8_mod _ | exact u32_mod _ | exact u64_mod _ | exact rfl)) | ((first | apply Pv.beq | apply Pv.bne); exact rfl; exact rfl; kernel_rfl) | ((first | apply Pv.xor | apply Pv.and | apply Pv.or | apply Pv.shr | apply Pv.shl) <;> first | exact rfl | (simp only [IntKind.bits, Nat.and_one_is_mod]; omega)) | ((first | apply Pv.muln | apply Pv.notn) <;> first | exact rfl | (simp only [IntKind.bits, Nat.and_one_is_mod]; omega)) | ((first | apply Pv.fieldAddr | apply Pv.len | apply Pv.indexAddr | apply Pv.build | apply Pv.field | apply Pv.convert | apply Pv.addw | apply Pv.subw | apply Pv.mulw | apply Pv.binOp) <;> first | exact rfl | (intro w; go_simp <;> first | exact rfl | exact ⟨rfl, rfl⟩)))))))
      apply EA.take 2
      · decide +kernel
      · exact rfl
      · kernel_rfl
      · decide +kernel
      · exact fun _ _ _ _ h => h
      · apply Pg.any
        · exact rfl
        apply Pv.slice
        · exact rfl
        · exact rfl
        · exact rfl
        · exact rfl
        · exact ho
      repeat (first
        | (apply EA.take 0; decide +kernel; exact rfl; kernel_rfl; decide +kernel; exact fun _ _ _ _ h => h; (first | (apply Pg.off; exact rfl) | (apply Pg.any; exact rfl; (first | (apply Pv.auto; exact rfl) | ((first | apply Pv.add | apply Pv.sub | apply Pv.mul64 | apply Pv.rem | apply Pv.quo) <;> first | exact rfl | omega) | (apply Pv.conv; exact rfl; (intro w; go_simp <;> first | exact rfl | exact ⟨rfl, rfl⟩); (first | exact wrapu64_id (by omega) (by omega) | exact wrap64_id (by omega) (by omega) | exact wrapu8_id (by omega) (by omega) | exact wrapu32_id (by omega) (by omega) | exact wrapu16_id (by omega) (by omega) | exact u8_mod _ | exact u32_mod _ | exact u64_mod _ | exact rfl)) | ((first | apply Pv.beq | apply Pv.bne); exact rfl; exact rfl; kernel_rfl) | ((first | apply Pv.xor | apply Pv.and | apply Pv.or | apply Pv.shr | apply Pv.shl) <;> first | exact rfl | (simp only [IntKind.bits, Nat.and_one_is_mod]; omega)) | ((first | apply Pv.muln | apply Pv.notn) <;> first | exact rfl | (simp only [IntKind.bits, Nat.and_one_is_mod]; omega)) | ((first | apply Pv.fieldAddr | apply Pv.len | apply Pv.indexAddr | apply Pv.build | apply Pv.field | apply Pv.convert | apply Pv.addw | apply Pv.subw | apply Pv.mulw | apply Pv.binOp) <;> first | exact rfl | (intro w; go_simp <;> first | exact rfl | exact ⟨rfl, rfl⟩))))))
        | (apply EA.take 1; decide +kernel; exact rfl; kernel_rfl; decide +kernel; exact fun _ _ _ _ h => h; (first | (apply Pg.off; exact rfl) | (apply Pg.any; exact rfl; (first | (apply Pv.auto; exact rfl) | ((first | apply Pv.add | apply Pv.sub | apply Pv.mul64 | apply Pv.rem | apply Pv.quo) <;> first | exact rfl | omega) | (apply Pv.conv; exact rfl; (intro w; go_simp <;> first | exact rfl | exact ⟨rfl, rfl⟩); (first | exact wrapu64_id (by omega) (by omega) | exact wrap64_id (by omega) (by omega) | exact wrapu8_id (by omega) (by omega) | exact wrapu32_id (by omega) (by omega) | exact wrapu16_id (by omega) (by omega) | exact u8_mod _ | exact u32_mod _ | exact u64_mod _ | exact rfl)) | ((first | apply Pv.beq | apply Pv.bne); exact rfl; exact rfl; kernel_rfl) | ((first | apply Pv.xor | apply Pv.and | apply Pv.or | apply Pv.shr | apply Pv.shl) <;> first | exact rfl | (simp only [IntKind.bits, Nat.and_one_is_mod]; omega)) | ((first | apply Pv.muln | apply Pv.notn) <;> first | exact rfl | (simp only [IntKind.bits, Nat.and_one_is_mod]; omega)) | ((first | apply Pv.fieldAddr | apply Pv.len | apply Pv.indexAddr | apply Pv.build | apply Pv.field | apply Pv.convert | apply Pv.addw | apply Pv.subw | apply Pv.mulw | apply Pv.binOp) <;> first | exact rfl | (intro w; go_simp <;> first | exact rfl | exact ⟨rfl, rfl⟩))))))
        | (apply EA.take 2; decide +kernel; exact rfl; kernel_rfl; decide +kernel; exact fun _ _ _ _ h => h; (first | (apply Pg.off; exact rfl) | (apply Pg.any; exact rfl; (first | (apply Pv.auto; exact rfl) | ((first | apply Pv.add | apply Pv.sub | apply Pv.mul64 | apply Pv.rem | apply Pv.quo) <;> first | exact rfl | omega) | (apply Pv.conv; exact rfl; (intro w; go_simp <;> first | exact rfl | exact ⟨rfl, rfl⟩); (first | exact wrapu64_id (by omega) (by omega) | exact wrap64_id (by omega) (by omega) | exact wrapu8_id (by omega) (by omega) | exact wrapu32_id (by omega) (by omega) | exact wrapu16_id (by omega) (by omega) | exact u8_mod _ | exact u32_mod _ | exact u64_mod _ | exact rfl)) | ((first | apply Pv.beq | apply Pv.bne); exact rfl; exact rfl; kernel_rfl) | ((first | apply Pv.xor | apply Pv.and | apply Pv.or | apply Pv.shr | apply Pv.shl) <;> first | exact rfl | (simp only [IntKind.bits, Nat.and_one_is_mod]; omega)) | ((first | apply Pv.muln | apply Pv.notn) <;> first | exact rfl | (simp only [IntKind.bits, Nat.and_one_is_mod]; omega)) | ((first | apply Pv.fieldAddr | apply Pv.len | apply Pv.indexAddr | apply Pv.build | apply Pv.field | apply Pv.convert | apply Pv.addw | apply Pv.subw | apply Pv.mulw | apply Pv.binOp) <;> first | exact rfl | (intro w; go_simp <;> first | exact rfl | exact ⟨rfl, rfl⟩))))))
        | (apply EA.take 3; decide +kernel; exact rfl; kernel_rfl; decide +kernel; exact fun _ _ _ _ h => h; (first | (apply Pg.off; exact rfl) | (apply Pg.any; exact rfl; (first | (apply Pv.auto; exact rfl) | ((first | apply Pv.add | apply Pv.sub | apply Pv.mul64 | apply Pv.rem | apply Pv.quo) <;> first | exact rfl | omega) | (apply Pv.conv; exact rfl; (intro w; go_simp <;> first | exact rfl | exact ⟨rfl, rfl⟩); (first | exact wrapu64_id (by omega) (by omega) | exact wrap64_id (by omega) (by omega) | exact wrapu8_id (by omega) (by omega) | exact wrapu32_id (by omega) (by omega) | exact wrapu16_id (by omega) (by omega) | exact u8_mod _ | exact u32_mod _ | exact u64_mod _ | exact rfl)) | ((first | apply Pv.beq | apply Pv.bne); exact rfl; exact rfl; kernel_rfl) | ((first | apply Pv.xor | apply Pv.and | apply Pv.or | apply Pv.shr | apply Pv.shl) <;> first | exact rfl | (simp only [IntKind.bits, Nat.and_one_is_mod]; omega)) | ((first | apply Pv.muln | apply Pv.notn) <;> first | exact rfl | (simp only [IntKind.bits, Nat.and_one_is_mod]; omega)) | ((first | apply Pv.fieldAddr | apply Pv.len | apply Pv.indexAddr | apply Pv.build | apply Pv.field | apply Pv.convert | apply Pv.addw | apply Pv.subw | apply Pv.mulw | apply Pv.binOp) <;> first | exact rfl | (intro w; go_simp <;> first | exact rfl | exact ⟨rfl, rfl⟩))))))
        | (apply EA.take 4; decide +kernel; exact rfl; kernel_rfl; decide +kernel; exact fun _ _ _ _ h => h; (first | (apply Pg.off; exact rfl) | (apply Pg.any; exact rfl; (first | (apply Pv.auto; exact rfl) | ((first | apply Pv.add | apply Pv.sub | apply Pv.mul64 | apply Pv.rem | apply Pv.quo) <;> first | exact rfl | omega) | (apply Pv.conv; exact rfl; (intro w; go_simp <;> first | exact rfl | exact ⟨rfl, rfl⟩); (first | exact wrapu64_id (by omega) (by omega) | exact wrap64_id (by omega) (by omega) | exact wrapu8_id (by omega) (by omega) | exact wrapu32_id (by omega) (by omega) | exact wrapu16_id (by omega) (by omega) | exact u8_mod _ | exact u32_mod _ | exact u64_mod _ | exact rfl)) | ((first | apply Pv.beq | apply Pv.bne); exact rfl; exact rfl; kernel_rfl) | ((first | apply Pv.xor | apply Pv.and | apply Pv.or | apply Pv.shr | apply Pv.shl) <;> first | exact rfl | (simp only [IntKind.bits, Nat.and_one_is_mod]; omega)) | ((first | apply Pv.muln | apply Pv.notn) <;> first | exact rfl | (simp only [IntKind.bits, Nat.and_one_is_mod]; omega)) | ((first | apply Pv.fieldAddr | apply Pv.len | apply Pv.indexAddr | apply Pv.build | apply Pv.field | apply Pv.convert | apply Pv.addw | apply Pv.subw | apply Pv.mulw | apply Pv.binOp) <;> first | exact rfl | (intro w; go_simp <;> first | exact rfl | exact ⟨rfl, rfl⟩))))))
        | (apply EA.take 5; decide +kernel; exact rfl; kernel_rfl; decide +kernel; exact fun _ _ _ _ h => h; (first | (apply Pg.off; exact rfl) | (apply Pg.any; exact rfl; (first | (apply Pv.auto; exact rfl) | ((first | apply Pv.add | apply Pv.sub | apply Pv.mul64 | apply Pv.rem | apply Pv.quo) <;> first | exact rfl | omega) | (apply Pv.conv; exact rfl; (intro w; go_simp <;> first | exact rfl | exact ⟨rfl, rfl⟩); (first | exact wrapu64_id (by omega) (by omega) | exact wrap64_id (by omega) (by omega) | exact wrapu8_id (by omega) (by omega) | exact wrapu32_id (by omega) (by omega) | exact wrapu16_id (by omega) (by omega) | exact u8_mod _ | exact u32_mod _ | exact u64_mod _ | exact rfl)) | ((first | apply Pv.beq | apply Pv.bne); exact rfl; exact rfl; kernel_rfl) | ((first | apply Pv.xor | apply Pv.and | apply Pv.or | apply Pv.shr | apply Pv.shl) <;> first | exact rfl | (simp only [IntKind.bits, Nat.and_one_is_mod]; omega)) | ((first | apply Pv.muln | apply Pv.notn) <;> first | exact rfl | (simp only [IntKind.bits, Nat.and_one_is_mod]; omega)) | ((first | apply Pv.fieldAddr | apply Pv.len | apply Pv.indexAddr | apply Pv.build | apply Pv.field | apply Pv.convert | apply Pv.addw | apply Pv.subw | apply Pv.mulw | apply Pv.binOp) <;> first | exact rfl | (intro w; go_simp <;> first | exact rfl | exact ⟨rfl, rfl⟩))))))
        | (apply EA.take 6; decide +kernel; exact rfl; kernel_rfl; decide +kernel; exact fun _ _ _ _ h => h; (first | (apply Pg.off; exact rfl) | (apply Pg.any; exact rfl; (first | (apply Pv.auto; exact rfl) | ((first | apply Pv.add | apply Pv.sub | apply Pv.mul64 | apply Pv.rem | apply Pv.quo) <;> first | exact rfl | omega) | (apply Pv.conv; exact rfl; (intro w; go_simp <;> first | exact rfl | exact ⟨rfl, rfl⟩); (first | exact wrapu64_id (by omega) (by omega) | exact wrap64_id (by omega) (by omega) | exact wrapu8_id (by omega) (by omega) | exact wrapu32_id (by omega) (by omega) | exact wrapu16_id (by omega) (by omega) | exact u8_mod _ | exact u32_mod _ | exact u64_mod _ | exact rfl)) | ((first | apply Pv.beq | apply Pv.bne); exact rfl; exact rfl; kernel_rfl) | ((first | apply Pv.xor | apply Pv.and | apply Pv.or | apply Pv.shr | apply Pv.shl) <;> first | exact rfl | (simp only [IntKind.bits, Nat.and_one_is_mod]; omega)) | ((first | apply Pv.muln | apply Pv.notn) <;> first | exact rfl | (simp only [IntKind.bits, Nat.and_one_is_mod]; omega)) | ((first | apply Pv.fieldAddr | apply Pv.len | apply Pv.indexAddr | apply Pv.build | apply Pv.field | apply Pv.convert | apply Pv.addw | apply Pv.subw | apply Pv.mulw | apply Pv.binOp) <;> first | exact rfl | (intro w; go_simp <;> first | exact rfl | exact ⟨rfl, rfl⟩))))))
        | (apply EA.take 7; decide +kernel; exact rfl; kernel_rfl; decide +kernel; exact fun _ _ _ _ h => h; (first | (apply Pg.off; exact rfl) | (apply Pg.any; exact rfl; (first | (apply Pv.auto; exact rfl) | ((first | apply Pv.add | apply Pv.sub | apply Pv.mul64 | apply Pv.rem | apply Pv.quo) <;> first | exact rfl | omega) | (apply Pv.conv; exact rfl; (intro w; go_simp <;> first | exact rfl | exact ⟨rfl, rfl⟩); (first | exact wrapu64_id (by omega) (by omega) | exact wrap64_id (by omega) (by omega) | exact wrapu8_id (by omega) (by omega) | exact wrapu32_id (by omega) (by omega) | exact wrapu16_id (by omega) (by omega) | exact u8_mod _ | exact u32_mod _ | exact u64_mod _ | exact rfl)) | ((first | apply Pv.beq | apply Pv.bne); exact rfl; exact rfl; kernel_rfl) | ((first | apply Pv.xor | apply Pv.and | apply Pv.or | apply Pv.shr | apply Pv.shl) <;> first | exact rfl | (simp only [IntKind.bits, Nat.and_one_is_mod]; omega)) | ((first | apply Pv.muln | apply Pv.notn) <;> first | exact rfl | (simp only [IntKind.bits, Nat.and_one_is_mod]; omega)) | ((first | apply Pv.fieldAddr | apply Pv.len | apply Pv.indexAddr | apply Pv.build | apply Pv.field | apply Pv.convert | apply Pv.addw | apply Pv.subw | apply Pv.mulw | apply Pv.binOp) <;> first | exact rfl | (intro w; go_simp <;> first | exact rfl | exact ⟨rfl, rfl⟩))))))
        | (apply EA.take 8; decide +kernel; exact rfl; kernel_rfl; decide +kernel; exact fun _ _ _ _ h => h; (first | (apply Pg.off; exact rfl) | (apply Pg.any; exact rfl; (first | (apply Pv.auto; exact rfl) | ((first | apply Pv.add | apply Pv.sub | apply Pv.mul64 | apply Pv.rem | apply Pv.quo) <;> first | exact rfl | omega) | (apply Pv.conv; exact rfl; (intro w; go_simp <;> first | exact rfl | exact ⟨rfl, rfl⟩); (first | exact wrapu64_id (by omega) (by omega) | exact wrap64_id (by omega) (by omega) | exact wrapu8_id (by omega) (by omega) | exact wrapu32_id (by omega) (by omega) | exact wrapu16_id (by omega) (by omega) | exact u8_mod _ | exact u32_mod _ | exact u64_mod _ | exact rfl)) | ((first | apply Pv.beq | apply Pv.bne); exact rfl; exact rfl; kernel_rfl) | ((first | apply Pv.xor | apply Pv.and | apply Pv.or | apply Pv.shr | apply Pv.shl) <;> first | exact rfl | (simp only [IntKind.bits, Nat.and_one_is_mod]; omega)) | ((first | apply Pv.muln | apply Pv.notn) <;> first | exact rfl | (simp only [IntKind.bits, Nat.and_one_is_mod]; omega)) | ((first | apply Pv.fieldAddr | apply Pv.len | apply Pv.indexAddr | apply Pv.build | apply Pv.field | apply Pv.convert | apply Pv.addw | apply Pv.subw | apply Pv.mulw | apply Pv.binOp) <;> first | exact rfl | (intro w; go_simp <;> first | exact rfl | exact ⟨rfl, rfl⟩))))))
        | (apply EA.take 9; decide +kernel; exact rfl; kernel_rfl; decide +kernel; exact fun _ _ _ _ h => h; (first | (apply Pg.off; exact rfl) | (apply Pg.any; exact rfl; (first | (apply Pv.auto; exact rfl) | ((first | apply Pv.add | apply Pv.sub | apply Pv.mul64 | apply Pv.rem | apply Pv.quo) <;> first | exact rfl | omega) | (apply Pv.conv; exact rfl; (intro w; go_simp <;> first | exact rfl | exact ⟨rfl, rfl⟩); (first | exact wrapu64_id (by omega) (by omega) | exact wrap64_id (by omega) (by omega) | exact wrapu8_id (by omega) (by omega) | exact wrapu32_id (by omega) (by omega) | exact wrapu16_id (by omega) (by omega) | exact u8_mod _ | exact u32_mod _ | exact u64_mod _ | exact rfl)) | ((first | apply Pv.beq | apply Pv.bne); exact rfl; exact rfl; kernel_rfl) | ((first | apply Pv.xor | apply Pv.and | apply Pv.or | apply Pv.shr | apply Pv.shl) <;> first | exact rfl | (simp only [IntKind.bits, Nat.and_one_is_mod]; omega)) | ((first | apply Pv.muln | apply Pv.notn) <;> first | exact rfl | (simp only [IntKind.bits, Nat.and_one_is_mod]; omega)) | ((first | apply Pv.fieldAddr | apply Pv.len | apply Pv.indexAddr | apply Pv.build | apply Pv.field | apply Pv.convert | apply Pv.addw | apply Pv.subw | apply Pv.mulw | apply Pv.binOp) <;> first | exact rfl | (intro w; go_simp <;> first | exact rfl | exact ⟨rfl, rfl⟩))))))
        | (apply EA.take 10; decide +kernel; exact rfl; kernel_rfl; decide +kernel; exact fun _ _ _ _ h => h; (first | (apply Pg.off; exact rfl) | (apply Pg.any; exact rfl; (first | (apply Pv.auto; exact rfl) | ((first | apply Pv.add | apply Pv.sub | apply Pv.mul64 | apply Pv.rem | apply Pv.quo) <;> first | exact rfl | omega) | (apply Pv.conv; exact rfl; (intro w; go_simp <;> first | exact rfl | exact ⟨rfl, rfl⟩); (first | exact wrapu64_id (by omega) (by omega) | exact wrap64_id (by omega) (by omega) | exact wrapu8_id (by omega) (by omega) | exact wrapu32_id (by omega) (by omega) | exact wrapu16_id (by omega) (by omega) | exact u8_mod _ | exact u32_mod _ | exact u64_mod _ | exact rfl)) | ((first | apply Pv.beq | apply Pv.bne); exact rfl; exact rfl; kernel_rfl) | ((first | apply Pv.xor | apply Pv.and | apply Pv.or | apply Pv.shr | apply Pv.shl) <;> first | exact rfl | (simp only [IntKind.bits, Nat.and_one_is_mod]; omega)) | ((first | apply Pv.muln | apply Pv.notn) <;> first | exact rfl | (simp only [IntKind.bits, Nat.and_one_is_mod]; omega)) | ((first | apply Pv.fieldAddr | apply Pv.len | apply Pv.indexAddr | apply Pv.build | apply Pv.field | apply Pv.convert | apply Pv.addw | apply Pv.subw | apply Pv.mulw | apply Pv.binOp) <;> first | exact rfl | (intro w; go_simp <;> first | exact rfl | exact ⟨rfl, rfl⟩))))))
        | (apply EA.take 11; decide +kernel; exact rfl; kernel_rfl; decide +kernel; exact fun _ _ _ _ h => h; (first | (apply Pg.off; exact rfl) | (apply Pg.any; exact rfl; (first | (apply Pv.auto; exact rfl) | ((first | apply Pv.add | apply Pv.sub | apply Pv.mul64 | apply Pv.rem | apply Pv.quo) <;> first | exact rfl | omega) | (apply Pv.conv; exact rfl; (intro w; go_simp <;> first | exact rfl | exact ⟨rfl, rfl⟩); (first | exact wrapu64_id (by omega) (by omega) | exact wrap64_id (by omega) (by omega) | exact wrapu8_id (by omega) (by omega) | exact wrapu32_id (by omega) (by omega) | exact wrapu16_id (by omega) (by omega) | exact u8_mod _ | exact u32_mod _ | exact u64_mod _ | exact rfl)) | ((first | apply Pv.beq | apply Pv.bne); exact rfl; exact rfl; kernel_rfl) | ((first | apply Pv.xor | apply Pv.and | apply Pv.or | apply Pv.shr | apply Pv.shl) <;> first | exact rfl | (simp only [IntKind.bits, Nat.and_one_is_mod]; omega)) | ((first | apply Pv.muln | apply Pv.notn) <;> first | exact rfl | (simp only [IntKind.bits, Nat.and_one_is_mod]; omega)) | ((first | apply Pv.fieldAddr | apply Pv.len | apply Pv.indexAddr | apply Pv.build | apply Pv.field | apply Pv.convert | apply Pv.addw | apply Pv.subw | apply Pv.mulw | apply Pv.binOp) <;> first | exact rfl | (intro w; go_simp <;> first | exact rfl | exact ⟨rfl, rfl⟩)))))))
      apply EA.done
      · decide +kernel
      refine go ?_
      refine A.r3 ?_
      have hp2 := pr_drop hp1 (k := 4) (o' := o2) (by omega) (ho2.imp id (by omega))
      rw [← bs_drop, List.drop_drop, show n - k - v - 4 = n - (k + v + 4) by omega] at hp2
      rw [show n - k - v - 4 = n - (k + v + 4) by omega]
      refine HOK.out v k _ _ _ _ _ _ ?_ hk (by omega) hv hs hp2
      simp only [openB, ht, hl]
      rw [if_neg (by simp), if_neg (by omega), if_neg (by omega), if_neg (by omega), if_pos heq]
    · refine C.cond rfl (fun _ => ?_) (fun h => by simp [heq] at h)
      refine go ?_
      refine A.r3 ?_
      refine HErr.out 4 _ ?_ (by omega) hs.drop
      simp only [openB, ht, hl]
      rw [if_neg (by simp), if_neg (by omega), if_neg (by omega), if_neg (by omega), if_neg heq]
  · intro e w1 ht hs
    rcases ht with ⟨ht, he⟩ | ⟨v, k, ht, he⟩
    · rcases he with rfl | rfl
      all_goals
        refine go ?_
        refine A.r3 ?_
        exact HErr.out _ _ (by simp [openB, ht]) (by omega) hs
    · rcases he with ⟨rfl, he⟩ | ⟨rfl, he, he2⟩
      all_goals
        refine go ?_
        refine A.r3 ?_
        refine HErr.out _ _ ?_ (by omega) hs
        simp only [openB, ht, hl]
      · rw [if_neg (by simp), if_pos he]
      · rw [if_neg (by simp), if_neg (by omega), if_pos he2]
end Go.Proofs.YtfhmamkafancbaaGreatDoor

/-
  Layer 3 (check): the records ahead.
-/
namespace Go.Proofs.YtfhmamkafancbaaGreatDoor
open Go.RowKit
set_option linter.unusedVariables false
set_option linter.unusedSimpArgs false
theorem el_row : ElemOf Tryz.prog 186 23 (.slice none 0 0) 1 24 := .of Tryz.underlying186 (by kernel_rfl) rfl (by decide)
/-- The texts of the records ahead, how many bytes these have, and why no more are. -/
def allB (most : Nat) : Nat → List UInt8 → List (List UInt8) × Nat × Int
  | 0, _ => ([], 0, 0)
  | fuel + 1, l => if l = [] then ([], 0, 0) else match openB l most with
    | .error e => ([], 0, e)
    | .ok (k, v) => match allB most fuel (l.drop (k + v + 4)) with
      | (r, n, e) => ((l.drop k).take v :: r, k + v + 4 + n, e)
/-- Rows of bytes that are the pool's. -/
def Rws (g : Hl) (ps : List (Value × List UInt8)) : Prop := ∀ p ∈ ps, Pr 1 g p.1 p.2.length (bs p.2)
theorem Rws.mono {g g' : Hl} {ps : List (Value × List UInt8)} (h : Rws g ps) (hg : Hl.le g g') : Rws g' ps := fun p hp => (h p hp).mono hg
theorem Rws.one {g : Hl} {ps : List (Value × List UInt8)} (h : Rws g ps) : ∀ u ∈ ps.map Prod.fst, u.oneCell' = true := by
  intro u hu
  obtain ⟨p, hp, rfl⟩ := List.mem_map.1 hu
  obtain ⟨a, c, e, _⟩ := (h p hp).len
  rw [e]; rfl
theorem openB_ok {l : List UInt8} {most k v : Nat} (h : openB l most = .ok (k, v)) : k + v + 4 ≤ l.length := by
  unfold openB at h
  split at h
  rename_i v' k' e _
  split at h
  · cases h
  split at h
  · cases h
  split at h
  · cases h
  split at h
  · cases h
  split at h
  · simp only [Except.ok.injEq, Prod.mk.injEq] at h
    omega
  · cases h
theorem allB_fuel (most : Nat) : ∀ (f f' : Nat) (l : List UInt8), l.length < f → l.length < f' → allB most f l = allB most f' l
  | 0, _, _, h, _ => by omega
  | _ + 1, 0, _, _, h => by omega
  | f + 1, f' + 1, l, h, h' => by
    simp only [allB]
    split
    · rfl
    · rename_i hne
      cases ho : openB l most with
      | error e => rfl
      | ok p =>
        obtain ⟨k, v⟩ := p
        have hk := openB_ok ho
        have : (l.drop (k + v + 4)).length < l.length := by
          have : l.length ≠ 0 := fun e => hne (List.eq_nil_of_length_eq_zero e)
          rw [List.length_drop]; omega
        simp only
        rw [allB_fuel most f f' (l.drop (k + v + 4)) (by omega) (by omega)]
end Go.Proofs.YtfhmamkafancbaaGreatDoor

/-
  Layers 2 and 3: what is laid is taken again (lists of bytes alone).
-/
namespace Go.Proofs.YtfhmamkafancbaaGreatDoor
theorem and127 (n : Nat) : n &&& 127 = n % 128 := by
  have := Nat.and_two_pow_sub_one_eq_mod n 7
  simpa using this
theorem or_mul (n a i : Nat) (h : n < 2 ^ i) : n ||| (a * 2 ^ i) = n + a * 2 ^ i := by
  have := Nat.two_pow_add_eq_or_of_lt h a
  rw [Nat.mul_comm] at this
  rw [Nat.or_comm, Nat.add_comm]
  exact this.symm
theorem or128 (m : Nat) (h : m < 256) : (m ||| 128) < 256 ∧ 128 ≤ (m ||| 128) ∧ (m ||| 128) % 128 = m % 128 := by
  have : ∀ m : Fin 256, ((m.val ||| 128) < 256 ∧ 128 ≤ (m.val ||| 128) ∧ (m.val ||| 128) % 128 = m.val % 128) := by decide +kernel
  exact this ⟨m, h⟩
/-- Taking what was laid: the general step. -/
theorem takeGo_lay (r : List UInt8) : ∀ (k i s n : Nat), n < 128 ^ k → 1 ≤ k → i + k ≤ 10 → (i = 0 ∨ 0 < n) → (k + i = 10 → n < 2 * 128 ^ (k - 1)) → s < 2 ^ (7 * i) →
    takeGo i s (layN n ++ r) = (s + n * 2 ^ (7 * i), i + (layN n).length, 0)
  | 0, _, _, _, _, hk, _, _, _, _ => by omega
  | k + 1, i, s, n, hn, _, hik, hi0, h10, hs => by
    by_cases h : n < 128
    · rw [layN_small h]
      have h8 : (UInt8.ofNat n).toNat = n := by simp; omega
      have hbad : ¬ ((i = 9 ∧ 1 < n) ∨ (0 < i ∧ n = 0)) := by
        rintro (⟨rfl, h1⟩ | ⟨h1, rfl⟩)
        · have : k = 0 := by omega
          subst this
          have := h10 (by omega)
          omega
        · omega
      simp only [List.cons_append, List.nil_append, takeGo, h8]
      rw [if_neg hbad, if_pos h, and127, Nat.mod_eq_of_lt h, or_mul _ _ _ hs]
      simp
    · rw [layN_big h]
      obtain ⟨o1, o2, o3⟩ := or128 (n % 256) (Nat.mod_lt _ (by decide))
      have h8 : (UInt8.ofNat ((n % 256) ||| 128)).toNat = (n % 256) ||| 128 := by rw [UInt8.toNat_ofNat', Nat.mod_eq_of_lt (by simpa using o1)]
      have hk1 : 1 ≤ k := by
        rcases Nat.eq_zero_or_pos k with rfl | h'
        · simp at hn; omega
        · exact h'
      have hbad : ¬ ((i = 9 ∧ 1 < ((n % 256) ||| 128)) ∨ (0 < i ∧ ((n % 256) ||| 128) = 0)) := by omega
      simp only [List.cons_append, takeGo, h8]
      rw [if_neg hbad, if_neg (by omega), and127, o3, or_mul _ _ _ hs]
      have hm : n % 256 % 128 = n % 128 := Nat.mod_mod_of_dvd n (by decide)
      rw [hm]
      have hp : (2 : Nat) ^ (7 * (i + 1)) = 128 * 2 ^ (7 * i) := by rw [Nat.mul_add, Nat.pow_add, Nat.mul_comm]
      have hdiv := Nat.div_add_mod n 128
      have e7 : (2 : Nat) ^ 7 = 128 := rfl
      rw [e7]
      rw [takeGo_lay r k (i + 1) _ (n / 128) ?_ hk1 (by omega) (.inr (by omega)) ?_ ?_]
      · simp only [List.length_cons, Prod.mk.injEq, and_true]
        refine ⟨?_, by omega⟩
        rw [hp]
        have : n / 128 * (128 * 2 ^ (7 * i)) = 128 * (n / 128) * 2 ^ (7 * i) := by
          rw [← Nat.mul_assoc, Nat.mul_comm (n / 128) 128]
        rw [this, Nat.add_assoc, ← Nat.add_mul, Nat.add_comm (n % 128), hdiv]
      · rw [Nat.div_lt_iff_lt_mul (by decide)]
        rw [Nat.pow_succ] at hn; exact hn
      · intro h'
        have := h10 (by omega)
        obtain ⟨k', rfl⟩ : ∃ k', k = k' + 1 := ⟨k - 1, by omega⟩
        simp only [Nat.add_sub_cancel] at this ⊢
        rw [Nat.div_lt_iff_lt_mul (by decide)]
        rw [Nat.pow_succ] at this; omega
      · rw [hp]
        have : n % 128 * 2 ^ (7 * i) ≤ 127 * 2 ^ (7 * i) := Nat.mul_le_mul_right _ (by omega)
        omega
theorem takeGo_layN (n : Nat) (hn : n < 18446744073709551616) (r : List UInt8) : takeGo 0 0 (layN n ++ r) = (n, (layN n).length, 0) := by
  have := takeGo_lay r 10 0 0 n (by omega) (by decide) (by decide) (.inl rfl) (fun _ => by omega) (by decide)
  simpa using this
theorem rdNum_lay (most n : Nat) (hn : n < 18446744073709551616) (hm : n ≤ most) (r : List UInt8) : rdNum most (layN n ++ r) = .ok (n, r) := by
  simp [rdNum, takeGo_layN n hn r]; omega
end Go.Proofs.YtfhmamkafancbaaGreatDoor
