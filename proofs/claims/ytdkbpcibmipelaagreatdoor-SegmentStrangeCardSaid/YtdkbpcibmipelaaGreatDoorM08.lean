/-
  Layer 5 (sheet): the record with which a sheet begins.
-/
import Derived.Test.YtdkbpcibmipelaaGreatDoorM06
import Derived.Test.YtdkbpcibmipelaaGreatDoorM07
import Derived.Test.YtdkbpcibmipelaaGreatDoorM04
namespace Go.Proofs.YtdkbpcibmipelaaGreatDoor
open Go.RowKit
set_option linter.unusedVariables false
set_option linter.unusedSimpArgs false

structure Ti where
  kind : UInt8
  a : Nat
  b : Nat
def Ti.ok (t : Ti) : Prop := t.a < 18446744073709551616 ∧ t.b < 18446744073709551616
def Ti.val (t : Ti) : Value := .agg #[.int .u8 t.kind.toNat, .int .u64 t.a, .int .u64 t.b]
def titleB (t : Ti) : List UInt8 := [97, 110, 97, 49, t.kind] ++ layN t.a ++ layN t.b
def headB (t : Ti) : List UInt8 := wrapB (titleB t)

set_option maxHeartbeats 1600000 in
set_option maxRecDepth 100000 in
theorem head_any {R : Ending → World → Prop} {W w : World} {g : Hl} {H : List HP} {t : Ti} (hs : Sat W w g H) (ht : t.ok)
    (hR : ∀ a' c' w' g', Hl.le g g' → Sat W w' g' (own 5 1 (.slice a' (headB t).length c') (headB t).length (bs (headB t)) :: H) → R (.returned (.slice a' (headB t).length c')) w') :
    Calls Tryz.prog 21 #[t.val] w R := by
  have HR := Lib.hid hR
  clear hR
  obtain ⟨hta, htb⟩ := ht
  have hla := layN_ten hta
  have hlb := layN_ten htb
  have hkb := t.kind.toNat_lt
  refine C.calls (args := [t.val]) Tryz.func21 rfl rfl rfl ?_
  refine go ?_
  refine E.bx hs ?_
  intro b1 w1 hs
  refine go ?_
  refine E.bsl hs ?_
  intro b2 w2 hs
  refine go ?_
  apply E.cons
  apply St.markBytes hs
  · exact rfl
  · exact Tryz.underlying33
  · exact Tryz.underlying5
  · exact rfl
  · decide
  intro w3 g3 hg3 hs hp
  refine go ?_
  refine E.bsl hs ?_
  intro b3 w4 hs
  refine E.appendFull el_u8 hs (hp.row hs) (hs.rowOf (size := 1) 1 rfl (by decide)) ?_ (by decide) (by decide) (by decide) rfl rfl ?_
  · intro u hu
    simp only [List.mem_singleton] at hu
    subst hu
    rfl
  intro a4 c4 w5 _ _ hs
  refine go ?_
  have htl : (titleB t).length ≤ 25 := by simp [titleB]; omega
  apply C.any hs
  · kernel_rfl
  intro w6 hs
  repeat (first
    | (apply EA.take 0; decide +kernel; exact rfl; kernel_rfl; decide +kernel; exact fun _ _ _ _ h => h; (first | (apply Pg.off; exact rfl) | (apply Pg.any; exact rfl; (first | (apply Pv.auto; exact rfl) | ((first | apply Pv.add | apply Pv.sub | apply Pv.mul64 | apply Pv.rem | apply Pv.quo) <;> first | exact rfl | omega) | (apply Pv.conv; exact rfl; (intro w; go_simp <;> first | exact rfl | exact ⟨rfl, rfl⟩); (first | exact wrapu64_id (by omega) (by omega) | exact wrap64_id (by omega) (by omega) | exact wrapu8_id (by omega) (by omega) | exact wrapu32_id (by omega) (by omega) | exact wrapu16_id (by omega) (by omega) | exact u8_mod _ | exact u32_mod _ | exact u64_mod _ | exact rfl)) | ((first | apply Pv.beq | apply Pv.bne); exact rfl; exact rfl; kernel_rfl) | ((first | apply Pv.xor | apply Pv.and | apply Pv.or | apply Pv.shr | apply Pv.shl) <;> first | exact rfl | (simp only [IntKind.bits, Nat.and_one_is_mod]; omega)) | ((first | apply Pv.muln | apply Pv.notn) <;> first | exact rfl | (simp only [IntKind.bits, Nat.and_one_is_mod]; omega)) | ((first | apply Pv.fieldAddr | apply Pv.len | apply Pv.indexAddr | apply Pv.build | apply Pv.field | apply Pv.convert | apply Pv.addw | apply Pv.subw | apply Pv.mulw | apply Pv.binOp) <;> first | exact rfl | (intro w; go_simp <;> first | exact rfl | exact ⟨rfl, rfl⟩))))))
    | (apply EA.take 1; decide +kernel; exact rfl; kernel_rfl; decide +kernel; exact fun _ _ _ _ h => h; (first | (apply Pg.off; exact rfl) | (apply Pg.any; exact rfl; (first | (apply Pv.auto; exact rfl) | ((first | apply Pv.add | apply Pv.sub | apply Pv.mul64 | apply Pv.rem | apply Pv.quo) <;> first | exact rfl | omega) | (apply Pv.conv; exact rfl; (intro w; go_simp <;> first | exact rfl | exact ⟨rfl, rfl⟩); (first | exact wrapu64_id (by omega) (by omega) | exact wrap64_id (by omega) (by omega) | exact wrapu8_id (by omega) (by omega) | exact wrapu32_id (by omega) (by omega) | exact wrapu16_id (by omega) (by omega) | exact u8_mod _ | exact u32_mod _ | exact u64_mod _ | exact rfl)) | ((first | apply Pv.beq | apply Pv.bne); exact rfl; exact rfl; kernel_rfl) | ((first | apply Pv.xor | apply Pv.and | apply Pv.or | apply Pv.shr | apply Pv.shl) <;> first | exact rfl | (simp only [IntKind.bits, Nat.and_one_is_mod]; omega)) | ((first | apply Pv.muln | apply Pv.notn) <;> first | exact rfl | (simp only [IntKind.bits, Nat.and_one_is_mod]; omega)) | ((first | apply Pv.fieldAddr | apply Pv.len | apply Pv.indexAddr | apply Pv.build | apply Pv.field | apply Pv.convert | apply Pv.addw | apply Pv.subw | apply Pv.mulw | apply Pv.binOp) <;> first | exact rfl | (intro w; go_simp <;> first | exact rfl | exact ⟨rfl, rfl⟩))))))
    | (apply EA.take 2; decide +kernel; exact rfl; kernel_rfl; decide +kernel; exact fun _ _ _ _ h => h; (first | (apply Pg.off; exact rfl) | (apply Pg.any; exact rfl; (first | (apply Pv.auto; exact rfl) | ((first | apply Pv.add | apply Pv.sub | apply Pv.mul64 | apply Pv.rem | apply Pv.quo) <;> first | exact rfl | omega) | (apply Pv.conv; exact rfl; (intro w; go_simp <;> first | exact rfl | exact ⟨rfl, rfl⟩); (first | exact wrapu64_id (by omega) (by omega) | exact wrap64_id (by omega) (by omega) | exact wrapu8_id (by omega) (by omega) | exact wrapu32_id (by omega) (by omega) | exact wrapu16_id (by omega) (by omega) | exact u8_mod _ | exact u32_mod _ | exact u64_mod _ | exact rfl)) | ((first | apply Pv.beq | apply Pv.bne); exact rfl; exact rfl; kernel_rfl) | ((first | apply Pv.xor | apply Pv.and | apply Pv.or | apply Pv.shr | apply Pv.shl) <;> first | exact rfl | (simp only [IntKind.bits, Nat.and_one_is_mod]; omega)) | ((first | apply Pv.muln | apply Pv.notn) <;> first | exact rfl | (simp only [IntKind.bits, Nat.and_one_is_mod]; omega)) | ((first | apply Pv.fieldAddr | apply Pv.len | apply Pv.indexAddr | apply Pv.build | apply Pv.field | apply Pv.convert | apply Pv.addw | apply Pv.subw | apply Pv.mulw | apply Pv.binOp) <;> first | exact rfl | (intro w; go_simp <;> first | exact rfl | exact ⟨rfl, rfl⟩))))))
    | (apply EA.take 3; decide +kernel; exact rfl; kernel_rfl; decide +kernel; exact fun _ _ _ _ h => h; (first | (apply Pg.off; exact rfl) | (apply Pg.any; exact rfl; (first | (apply Pv.auto; exact rfl) | ((first | apply Pv.add | apply Pv.sub | apply Pv.mul64 | apply Pv.rem | apply Pv.quo) <;> first | exact rfl | omega) | (apply Pv.conv; exact rfl; (intro w; go_simp <;> first | exact rfl | exact ⟨rfl, rfl⟩); (first | exact wrapu64_id (by omega) (by omega) | exact wrap64_id (by omega) (by omega) | exact wrapu8_id (by omega) (by omega) | exact wrapu32_id (by omega) (by omega) | exact wrapu16_id (by omega) (by omega) | exact u8_mod _ | exact u32_mod _ | exact u64_mod _ | exact rfl)) | ((first | apply Pv.beq | apply Pv.bne); exact rfl; exact rfl; kernel_rfl) | ((first | apply Pv.xor | apply Pv.and | apply Pv.or | apply Pv.shr | apply Pv.shl) <;> first | exact rfl | (simp only [IntKind.bits, Nat.and_one_is_mod]; omega)) | ((first | apply Pv.muln | apply Pv.notn) <;> first | exact rfl | (simp only [IntKind.bits, Nat.and_one_is_mod]; omega)) | ((first | apply Pv.fieldAddr | apply Pv.len | apply Pv.indexAddr | apply Pv.build | apply Pv.field | apply Pv.convert | apply Pv.addw | apply Pv.subw | apply Pv.mulw | apply Pv.binOp) <;> first | exact rfl | (intro w; go_simp <;> first | exact rfl | exact ⟨rfl, rfl⟩))))))
    | (apply EA.take 4; decide +kernel; exact rfl; kernel_rfl; decide +kernel; exact fun _ _ _ _ h => h; (first | (apply Pg.off; exact rfl) | (apply Pg.any; exact rfl; (first | (apply Pv.auto; exact rfl) | ((first | apply Pv.add | apply Pv.sub | apply Pv.mul64 | apply Pv.rem | apply Pv.quo) <;> first | exact rfl | omega) | (apply Pv.conv; exact rfl; (intro w; go_simp <;> first | exact rfl | exact ⟨rfl, rfl⟩); (first | exact wrapu64_id (by omega) (by omega) | exact wrap64_id (by omega) (by omega) | exact wrapu8_id (by omega) (by omega) | exact wrapu32_id (by omega) (by omega) | exact wrapu16_id (by omega) (by omega) | exact u8_mod _ | exact u32_mod _ | exact u64_mod _ | exact rfl)) | ((first | apply Pv.beq | apply Pv.bne); exact rfl; exact rfl; kernel_rfl) | ((first | apply Pv.xor | apply Pv.and | apply Pv.or | apply Pv.shr | apply Pv.shl) <;> first | exact rfl | (simp only [IntKind.bits, Nat.and_one_is_mod]; omega)) | ((first | apply Pv.muln | apply Pv.notn) <;> first | exact rfl | (simp only [IntKind.bits, Nat.and_one_is_mod]; omega)) | ((first | apply Pv.fieldAddr | apply Pv.len | apply Pv.indexAddr | apply Pv.build | apply Pv.field | apply Pv.convert | apply Pv.addw | apply Pv.subw | apply Pv.mulw | apply Pv.binOp) <;> first | exact rfl | (intro w; go_simp <;> first | exact rfl | exact ⟨rfl, rfl⟩))))))
    | (apply EA.take 5; decide +kernel; exact rfl; kernel_rfl; decide +kernel; exact fun _ _ _ _ h => h; (first | (apply Pg.off; exact rfl) | (apply Pg.any; exact rfl; (first | (apply Pv.auto; exact rfl) | ((first | apply Pv.add | apply Pv.sub | apply Pv.mul64 | apply Pv.rem | apply Pv.quo) <;> first | exact rfl | omega) | (apply Pv.conv; exact rfl; (intro w; go_simp <;> first | exact rfl | exact ⟨rfl, rfl⟩); (first | exact wrapu64_id (by omega) (by omega) | exact wrap64_id (by omega) (by omega) | exact wrapu8_id (by omega) (by omega) | exact wrapu32_id (by omega) (by omega) | exact wrapu16_id (by omega) (by omega) | exact u8_mod _ | exact u32_mod _ | exact u64_mod _ | exact rfl)) | ((first | apply Pv.beq | apply Pv.bne); exact rfl; exact rfl; kernel_rfl) | ((first | apply Pv.xor | apply Pv.and | apply Pv.or | apply Pv.shr | apply Pv.shl) <;> first | exact rfl | (simp only [IntKind.bits, Nat.and_one_is_mod]; omega)) | ((first | apply Pv.muln | apply Pv.notn) <;> first | exact rfl | (simp only [IntKind.bits, Nat.and_one_is_mod]; omega)) | ((first | apply Pv.fieldAddr | apply Pv.len | apply Pv.indexAddr | apply Pv.build | apply Pv.field | apply Pv.convert | apply Pv.addw | apply Pv.subw | apply Pv.mulw | apply Pv.binOp) <;> first | exact rfl | (intro w; go_simp <;> first | exact rfl | exact ⟨rfl, rfl⟩))))))
    | (apply EA.take 6; decide +kernel; exact rfl; kernel_rfl; decide +kernel; exact fun _ _ _ _ h => h; (first | (apply Pg.off; exact rfl) | (apply Pg.any; exact rfl; (first | (apply Pv.auto; exact rfl) | ((first | apply Pv.add | apply Pv.sub | apply Pv.mul64 | apply Pv.rem | apply Pv.quo) <;> first | exact rfl | omega) | (apply Pv.conv; exact rfl; (intro w; go_simp <;> first | exact rfl | exact ⟨rfl, rfl⟩); (first | exact wrapu64_id (by omega) (by omega) | exact wrap64_id (by omega) (by omega) | exact wrapu8_id (by omega) (by omega) | exact wrapu32_id (by omega) (by omega) | exact wrapu16_id (by omega) (by omega) | exact u8_mod _ | exact u32_mod _ | exact u64_mod _ | exact rfl)) | ((first | apply Pv.beq | apply Pv.bne); exact rfl; exact rfl; kernel_rfl) | ((first | apply Pv.xor | apply Pv.and | apply Pv.or | apply Pv.shr | apply Pv.shl) <;> first | exact rfl | (simp only [IntKind.bits, Nat.and_one_is_mod]; omega)) | ((first | apply Pv.muln | apply Pv.notn) <;> first | exact rfl | (simp only [IntKind.bits, Nat.and_one_is_mod]; omega)) | ((first | apply Pv.fieldAddr | apply Pv.len | apply Pv.indexAddr | apply Pv.build | apply Pv.field | apply Pv.convert | apply Pv.addw | apply Pv.subw | apply Pv.mulw | apply Pv.binOp) <;> first | exact rfl | (intro w; go_simp <;> first | exact rfl | exact ⟨rfl, rfl⟩))))))
    | (apply EA.take 7; decide +kernel; exact rfl; kernel_rfl; decide +kernel; exact fun _ _ _ _ h => h; (first | (apply Pg.off; exact rfl) | (apply Pg.any; exact rfl; (first | (apply Pv.auto; exact rfl) | ((first | apply Pv.add | apply Pv.sub | apply Pv.mul64 | apply Pv.rem | apply Pv.quo) <;> first | exact rfl | omega) | (apply Pv.conv; exact rfl; (intro w; go_simp <;> first | exact rfl | exact ⟨rfl, rfl⟩); (first | exact wrapu64_id (by omega) (by omega) | exact wrap64_id (by omega) (by omega) | exact wrapu8_id (by omega) (by omega) | exact wrapu32_id (by omega) (by omega) | exact wrapu16_id (by omega) (by omega) | exact u8_mod _ | exact u32_mod _ | exact u64_mod _ | exact rfl)) | ((first | apply Pv.beq | apply Pv.bne); exact rfl; exact rfl; kernel_rfl) | ((first | apply Pv.xor | apply Pv.and | apply Pv.or | apply Pv.shr | apply Pv.shl) <;> first | exact rfl | (simp only [IntKind.bits, Nat.and_one_is_mod]; omega)) | ((first | apply Pv.muln | apply Pv.notn) <;> first | exact rfl | (simp only [IntKind.bits, Nat.and_one_is_mod]; omega)) | ((first | apply Pv.fieldAddr | apply Pv.len | apply Pv.indexAddr | apply Pv.build | apply Pv.field | apply Pv.convert | apply Pv.addw | apply Pv.subw | apply Pv.mulw | apply Pv.binOp) <;> first | exact rfl | (intro w; go_simp <;> first | exact rfl | exact ⟨rfl, rfl⟩))))))
    | (apply EA.take 8; decide +kernel; exact rfl; kernel_rfl; decide +kernel; exact fun _ _ _ _ h => h; (first | (apply Pg.off; exact rfl) | (apply Pg.any; exact rfl; (first | (apply Pv.auto; exact rfl) | ((first | apply Pv.add | apply Pv.sub | apply Pv.mul64 | apply Pv.rem | apply Pv.quo) <;> first | exact rfl | omega) | (apply Pv.conv; exact rfl; (intro w; go_simp <;> first | exact rfl | exact ⟨rfl, rfl⟩); (first | exact wrapu64_id (by omega) (by omega) | exact wrap64_id (by omega) (by omega) | exact wrapu8_id (by omega) (by omega) | exact wrapu32_id (by omega) (by omega) | exact wrapu16_id (by omega) (by omega) | exact u8_mod _ | exact u32_mod _ | exact u64_mod _ | exact rfl)) | ((first | apply Pv.beq | apply Pv.bne); exact rfl; exact rfl; kernel_rfl) | ((first | apply Pv.xor | apply Pv.and | apply Pv.or | apply Pv.shr | apply Pv.shl) <;> first | exact rfl | (simp only [IntKind.bits, Nat.and_one_is_mod]; omega)) | ((first | apply Pv.muln | apply Pv.notn) <;> first | exact rfl | (simp only [IntKind.bits, Nat.and_one_is_mod]; omega)) | ((first | apply Pv.fieldAddr | apply Pv.len | apply Pv.indexAddr | apply Pv.build | apply Pv.field | apply Pv.convert | apply Pv.addw | apply Pv.subw | apply Pv.mulw | apply Pv.binOp) <;> first | exact rfl | (intro w; go_simp <;> first | exact rfl | exact ⟨rfl, rfl⟩))))))
    | (apply EA.take 9; decide +kernel; exact rfl; kernel_rfl; decide +kernel; exact fun _ _ _ _ h => h; (first | (apply Pg.off; exact rfl) | (apply Pg.any; exact rfl; (first | (apply Pv.auto; exact rfl) | ((first | apply Pv.add | apply Pv.sub | apply Pv.mul64 | apply Pv.rem | apply Pv.quo) <;> first | exact rfl | omega) | (apply Pv.conv; exact rfl; (intro w; go_simp <;> first | exact rfl | exact ⟨rfl, rfl⟩); (first | exact wrapu64_id (by omega) (by omega) | exact wrap64_id (by omega) (by omega) | exact wrapu8_id (by omega) (by omega) | exact wrapu32_id (by omega) (by omega) | exact wrapu16_id (by omega) (by omega) | exact u8_mod _ | exact u32_mod _ | exact u64_mod _ | exact rfl)) | ((first | apply Pv.beq | apply Pv.bne); exact rfl; exact rfl; kernel_rfl) | ((first | apply Pv.xor | apply Pv.and | apply Pv.or | apply Pv.shr | apply Pv.shl) <;> first | exact rfl | (simp only [IntKind.bits, Nat.and_one_is_mod]; omega)) | ((first | apply Pv.muln | apply Pv.notn) <;> first | exact rfl | (simp only [IntKind.bits, Nat.and_one_is_mod]; omega)) | ((first | apply Pv.fieldAddr | apply Pv.len | apply Pv.indexAddr | apply Pv.build | apply Pv.field | apply Pv.convert | apply Pv.addw | apply Pv.subw | apply Pv.mulw | apply Pv.binOp) <;> first | exact rfl | (intro w; go_simp <;> first | exact rfl | exact ⟨rfl, rfl⟩))))))
    | (apply EA.take 10; decide +kernel; exact rfl; kernel_rfl; decide +kernel; exact fun _ _ _ _ h => h; (first | (apply Pg.off; exact rfl) | (apply Pg.any; exact rfl; (first | (apply Pv.auto; exact rfl) | ((first | apply Pv.add | apply Pv.sub | apply Pv.mul64 | apply Pv.rem | apply Pv.quo) <;> first | exact rfl | omega) | (apply Pv.conv; exact rfl; (intro w; go_simp <;> first | exact rfl | exact ⟨rfl, rfl⟩); (first | exact wrapu64_id (by omega) (by omega) | exact wrap64_id (by omega) (by omega) | exact wrapu8_id (by omega) (by omega) | exact wrapu32_id (by omega) (by omega) | exact wrapu16_id (by omega) (by omega) | exact u8_mod _ | exact u32_mod _ | exact u64_mod _ | exact rfl)) | ((first | apply Pv.beq | apply Pv.bne); exact rfl; exact rfl; kernel_rfl) | ((first | apply Pv.xor | apply Pv.and | apply Pv.or | apply Pv.shr | apply Pv.shl) <;> first | exact rfl | (simp only [IntKind.bits, Nat.and_one_is_mod]; omega)) | ((first | apply Pv.muln | apply Pv.notn) <;> first | exact rfl | (simp only [IntKind.bits, Nat.and_one_is_mod]; omega)) | ((first | apply Pv.fieldAddr | apply Pv.len | apply Pv.indexAddr | apply Pv.build | apply Pv.field | apply Pv.convert | apply Pv.addw | apply Pv.subw | apply Pv.mulw | apply Pv.binOp) <;> first | exact rfl | (intro w; go_simp <;> first | exact rfl | exact ⟨rfl, rfl⟩))))))
    | (apply EA.take 11; decide +kernel; exact rfl; kernel_rfl; decide +kernel; exact fun _ _ _ _ h => h; (first | (apply Pg.off; exact rfl) | (apply Pg.any; exact rfl; (first | (apply Pv.auto; exact rfl) | ((first | apply Pv.add | apply Pv.sub | apply Pv.mul64 | apply Pv.rem | apply Pv.quo) <;> first | exact rfl | omega) | (apply Pv.conv; exact rfl; (intro w; go_simp <;> first | exact rfl | exact ⟨rfl, rfl⟩); (first | exact wrapu64_id (by omega) (by omega) | exact wrap64_id (by omega) (by omega) | exact wrapu8_id (by omega) (by omega) | exact wrapu32_id (by omega) (by omega) | exact wrapu16_id (by omega) (by omega) | exact u8_mod _ | exact u32_mod _ | exact u64_mod _ | exact rfl)) | ((first | apply Pv.beq | apply Pv.bne); exact rfl; exact rfl; kernel_rfl) | ((first | apply Pv.xor | apply Pv.and | apply Pv.or | apply Pv.shr | apply Pv.shl) <;> first | exact rfl | (simp only [IntKind.bits, Nat.and_one_is_mod]; omega)) | ((first | apply Pv.muln | apply Pv.notn) <;> first | exact rfl | (simp only [IntKind.bits, Nat.and_one_is_mod]; omega)) | ((first | apply Pv.fieldAddr | apply Pv.len | apply Pv.indexAddr | apply Pv.build | apply Pv.field | apply Pv.convert | apply Pv.addw | apply Pv.subw | apply Pv.mulw | apply Pv.binOp) <;> first | exact rfl | (intro w; go_simp <;> first | exact rfl | exact ⟨rfl, rfl⟩)))))))
  apply EA.two 2 5
  · decide +kernel
  · exact rfl
  · exact rfl
  · apply St.load hs
    · exact rfl
    · repeat (first | exact Fd.here | apply Fd.there)
    · exact rfl
    · go_simp
    apply EA.two 3 5
    · decide +kernel
    · exact rfl
    · exact rfl
    · refine St.callf Tryz.func94 rfl ?_
      refine lay_any hs hta (by omega) ?_
      intro a5 c5 w7 hs
      apply EA.one 5
      · decide +kernel
      · exact rfl
      apply St.load hs
      · exact rfl
      · repeat (first | exact Fd.here | apply Fd.there)
      · exact rfl
      · go_simp
      apply EA.one 6
      · decide +kernel
      · exact rfl
      refine St.callf Tryz.func94 rfl ?_
      refine lay_any hs htb (by omega) ?_
      intro a6 c6 w8 hs
      apply EA.one 7
      · decide +kernel
      · exact rfl
      have e1 : 4 + 1 + (layN t.a).length + (layN t.b).length = (titleB t).length := by simp [titleB]; omega
      have e2 : [Value.int .u8 97, .int .u8 110, .int .u8 97, .int .u8 49] ++ [.int .u8 (t.kind.toNat : Int)] ++ bs (layN t.a) ++ bs (layN t.b) = bs (titleB t) := by simp [titleB, bs]
      rw [e1, e2] at hs
      rw [e1]
      obtain ⟨g4, hg4, hp4, hs⟩ := hs.publishOwn
      refine St.callf Tryz.func93 rfl ?_
      refine wrap_any hs hp4 rfl (by omega) ?_
      intro a7 c7 w9 hs
      repeat (first
        | (apply EA.take 0; decide +kernel; exact rfl; kernel_rfl; decide +kernel; exact fun _ _ _ _ h => h; (first | (apply Pg.off; exact rfl) | (apply Pg.any; exact rfl; (first | (apply Pv.auto; exact rfl) | ((first | apply Pv.add | apply Pv.sub | apply Pv.mul64 | apply Pv.rem | apply Pv.quo) <;> first | exact rfl | omega) | (apply Pv.conv; exact rfl; (intro w; go_simp <;> first | exact rfl | exact ⟨rfl, rfl⟩); (first | exact wrapu64_id (by omega) (by omega) | exact wrap64_id (by omega) (by omega) | exact wrapu8_id (by omega) (by omega) | exact wrapu32_id (by omega) (by omega) | exact wrapu16_id (by omega) (by omega) | exact u8_mod _ | exact u32_mod _ | exact u64_mod _ | exact rfl)) | ((first | apply Pv.beq | apply Pv.bne); exact rfl; exact rfl; kernel_rfl) | ((first | apply Pv.xor | apply Pv.and | apply Pv.or | apply Pv.shr | apply Pv.shl) <;> first | exact rfl | (simp only [IntKind.bits, Nat.and_one_is_mod]; omega)) | ((first | apply Pv.muln | apply Pv.notn) <;> first | exact rfl | (simp only [IntKind.bits, Nat.and_one_is_mod]; omega)) | ((first | apply Pv.fieldAddr | apply Pv.len | apply Pv.indexAddr | apply Pv.build | apply Pv.field | apply Pv.convert | apply Pv.addw | apply Pv.subw | apply Pv.mulw | apply Pv.binOp) <;> first | exact rfl | (intro w; go_simp <;> first | exact rfl | exact ⟨rfl, rfl⟩))))))
        | (apply EA.take 1; decide +kernel; exact rfl; kernel_rfl; decide +kernel; exact fun _ _ _ _ h => h; (first | (apply Pg.off; exact rfl) | (apply Pg.any; exact rfl; (first | (apply Pv.auto; exact rfl) | ((first | apply Pv.add | apply Pv.sub | apply Pv.mul64 | apply Pv.rem | apply Pv.quo) <;> first | exact rfl | omega) | (apply Pv.conv; exact rfl; (intro w; go_simp <;> first | exact rfl | exact ⟨rfl, rfl⟩); (first | exact wrapu64_id (by omega) (by omega) | exact wrap64_id (by omega) (by omega) | exact wrapu8_id (by omega) (by omega) | exact wrapu32_id (by omega) (by omega) | exact wrapu16_id (by omega) (by omega) | exact u8_mod _ | exact u32_mod _ | exact u64_mod _ | exact rfl)) | ((first | apply Pv.beq | apply Pv.bne); exact rfl; exact rfl; kernel_rfl) | ((first | apply Pv.xor | apply Pv.and | apply Pv.or | apply Pv.shr | apply Pv.shl) <;> first | exact rfl | (simp only [IntKind.bits, Nat.and_one_is_mod]; omega)) | ((first | apply Pv.muln | apply Pv.notn) <;> first | exact rfl | (simp only [IntKind.bits, Nat.and_one_is_mod]; omega)) | ((first | apply Pv.fieldAddr | apply Pv.len | apply Pv.indexAddr | apply Pv.build | apply Pv.field | apply Pv.convert | apply Pv.addw | apply Pv.subw | apply Pv.mulw | apply Pv.binOp) <;> first | exact rfl | (intro w; go_simp <;> first | exact rfl | exact ⟨rfl, rfl⟩))))))
        | (apply EA.take 2; decide +kernel; exact rfl; kernel_rfl; decide +kernel; exact fun _ _ _ _ h => h; (first | (apply Pg.off; exact rfl) | (apply Pg.any; exact rfl; (first | (apply Pv.auto; exact rfl) | ((first | apply Pv.add | apply Pv.sub | apply Pv.mul64 | apply Pv.rem | apply Pv.quo) <;> first | exact rfl | omega) | (apply Pv.conv; exact rfl; (intro w; go_simp <;> first | exact rfl | exact ⟨rfl, rfl⟩); (first | exact wrapu64_id (by omega) (by omega) | exact wrap64_id (by omega) (by omega) | exact wrapu8_id (by omega) (by omega) | exact wrapu32_id (by omega) (by omega) | exact wrapu16_id (by omega) (by omega) | exact u8_mod _ | exact u32_mod _ | exact u64_mod _ | exact rfl)) | ((first | apply Pv.beq | apply Pv.bne); exact rfl; exact rfl; kernel_rfl) | ((first | apply Pv.xor | apply Pv.and | apply Pv.or | apply Pv.shr | apply Pv.shl) <;> first | exact rfl | (simp only [IntKind.bits, Nat.and_one_is_mod]; omega)) | ((first | apply Pv.muln | apply Pv.notn) <;> first | exact rfl | (simp only [IntKind.bits, Nat.and_one_is_mod]; omega)) | ((first | apply Pv.fieldAddr | apply Pv.len | apply Pv.indexAddr | apply Pv.build | apply Pv.field | apply Pv.convert | apply Pv.addw | apply Pv.subw | apply Pv.mulw | apply Pv.binOp) <;> first | exact rfl | (intro w; go_simp <;> first | exact rfl | exact ⟨rfl, rfl⟩))))))
        | (apply EA.take 3; decide +kernel; exact rfl; kernel_rfl; decide +kernel; exact fun _ _ _ _ h => h; (first | (apply Pg.off; exact rfl) | (apply Pg.any; exact rfl; (first | (apply Pv.auto; exact rfl) | ((first | apply Pv.add | apply Pv.sub | apply Pv.mul64 | apply Pv.rem | apply Pv.quo) <;> first | exact rfl | omega) | (apply Pv.conv; exact rfl; (intro w; go_simp <;> first | exact rfl | exact ⟨rfl, rfl⟩); (first | exact wrapu64_id (by omega) (by omega) | exact wrap64_id (by omega) (by omega) | exact wrapu8_id (by omega) (by omega) | exact wrapu32_id (by omega) (by omega) | exact wrapu16_id (by omega) (by omega) | exact u8_mod _ | exact u32_mod _ | exact u64_mod _ | exact rfl)) | ((first | apply Pv.beq | apply Pv.bne); exact rfl; exact rfl; kernel_rfl) | ((first | apply Pv.xor | apply Pv.and | apply Pv.or | apply Pv.shr | apply Pv.shl) <;> first | exact rfl | (simp only [IntKind.bits, Nat.and_one_is_mod]; omega)) | ((first | apply Pv.muln | apply Pv.notn) <;> first | exact rfl | (simp only [IntKind.bits, Nat.and_one_is_mod]; omega)) | ((first | apply Pv.fieldAddr | apply Pv.len | apply Pv.indexAddr | apply Pv.build | apply Pv.field | apply Pv.convert | apply Pv.addw | apply Pv.subw | apply Pv.mulw | apply Pv.binOp) <;> first | exact rfl | (intro w; go_simp <;> first | exact rfl | exact ⟨rfl, rfl⟩))))))
        | (apply EA.take 4; decide +kernel; exact rfl; kernel_rfl; decide +kernel; exact fun _ _ _ _ h => h; (first | (apply Pg.off; exact rfl) | (apply Pg.any; exact rfl; (first | (apply Pv.auto; exact rfl) | ((first | apply Pv.add | apply Pv.sub | apply Pv.mul64 | apply Pv.rem | apply Pv.quo) <;> first | exact rfl | omega) | (apply Pv.conv; exact rfl; (intro w; go_simp <;> first | exact rfl | exact ⟨rfl, rfl⟩); (first | exact wrapu64_id (by omega) (by omega) | exact wrap64_id (by omega) (by omega) | exact wrapu8_id (by omega) (by omega) | exact wrapu32_id (by omega) (by omega) | exact wrapu16_id (by omega) (by omega) | exact u8_mod _ | exact u32_mod _ | exact u64_mod _ | exact rfl)) | ((first | apply Pv.beq | apply Pv.bne); exact rfl; exact rfl; kernel_rfl) | ((first | apply Pv.xor | apply Pv.and | apply Pv.or | apply Pv.shr | apply Pv.shl) <;> first | exact rfl | (simp only [IntKind.bits, Nat.and_one_is_mod]; omega)) | ((first | apply Pv.muln | apply Pv.notn) <;> first | exact rfl | (simp only [IntKind.bits, Nat.and_one_is_mod]; omega)) | ((first | apply Pv.fieldAddr | apply Pv.len | apply Pv.indexAddr | apply Pv.build | apply Pv.field | apply Pv.convert | apply Pv.addw | apply Pv.subw | apply Pv.mulw | apply Pv.binOp) <;> first | exact rfl | (intro w; go_simp <;> first | exact rfl | exact ⟨rfl, rfl⟩))))))
        | (apply EA.take 5; decide +kernel; exact rfl; kernel_rfl; decide +kernel; exact fun _ _ _ _ h => h; (first | (apply Pg.off; exact rfl) | (apply Pg.any; exact rfl; (first | (apply Pv.auto; exact rfl) | ((first | apply Pv.add | apply Pv.sub | apply Pv.mul64 | apply Pv.rem | apply Pv.quo) <;> first | exact rfl | omega) | (apply Pv.conv; exact rfl; (intro w; go_simp <;> first | exact rfl | exact ⟨rfl, rfl⟩); (first | exact wrapu64_id (by omega) (by omega) | exact wrap64_id (by omega) (by omega) | exact wrapu8_id (by omega) (by omega) | exact wrapu32_id (by omega) (by omega) | exact wrapu16_id (by omega) (by omega) | exact u8_mod _ | exact u32_mod _ | exact u64_mod _ | exact rfl)) | ((first | apply Pv.beq | apply Pv.bne); exact rfl; exact rfl; kernel_rfl) | ((first | apply Pv.xor | apply Pv.and | apply Pv.or | apply Pv.shr | apply Pv.shl) <;> first | exact rfl | (simp only [IntKind.bits, Nat.and_one_is_mod]; omega)) | ((first | apply Pv.muln | apply Pv.notn) <;> first | exact rfl | (simp only [IntKind.bits, Nat.and_one_is_mod]; omega)) | ((first | apply Pv.fieldAddr | apply Pv.len | apply Pv.indexAddr | apply Pv.build | apply Pv.field | apply Pv.convert | apply Pv.addw | apply Pv.subw | apply Pv.mulw | apply Pv.binOp) <;> first | exact rfl | (intro w; go_simp <;> first | exact rfl | exact ⟨rfl, rfl⟩))))))
        | (apply EA.take 6; decide +kernel; exact rfl; kernel_rfl; decide +kernel; exact fun _ _ _ _ h => h; (first | (apply Pg.off; exact rfl) | (apply Pg.any; exact rfl; (first | (apply Pv.auto; exact rfl) | ((first | apply Pv.add | apply Pv.sub | apply Pv.mul64 | apply Pv.rem | apply Pv.quo) <;> first | exact rfl | omega) | (apply Pv.conv; exact rfl; (intro w; go_simp <;> first | exact rfl | exact ⟨rfl, rfl⟩); (first | exact wrapu64_id (by omega) (by omega) | exact wrap64_id (by omega) (by omega) | exact wrapu8_id (by omega) (by omega) | exact wrapu32_id (by omega) (by omega) | exact wrapu16_id (by omega) (by omega) | exact u8_mod _ | exact u32_mod _ | exact u64_mod _ | exact rfl)) | ((first | apply Pv.beq | apply Pv.bne); exact rfl; exact rfl; kernel_rfl) | ((first | apply Pv.xor | apply Pv.and | apply Pv.or | apply Pv.shr | apply Pv.shl) <;> first | exact rfl | (simp only [IntKind.bits, Nat.and_one_is_mod]; omega)) | ((first | apply Pv.muln | apply Pv.notn) <;> first | exact rfl | (simp only [IntKind.bits, Nat.and_one_is_mod]; omega)) | ((first | apply Pv.fieldAddr | apply Pv.len | apply Pv.indexAddr | apply Pv.build | apply Pv.field | apply Pv.convert | apply Pv.addw | apply Pv.subw | apply Pv.mulw | apply Pv.binOp) <;> first | exact rfl | (intro w; go_simp <;> first | exact rfl | exact ⟨rfl, rfl⟩))))))
        | (apply EA.take 7; decide +kernel; exact rfl; kernel_rfl; decide +kernel; exact fun _ _ _ _ h => h; (first | (apply Pg.off; exact rfl) | (apply Pg.any; exact rfl; (first | (apply Pv.auto; exact rfl) | ((first | apply Pv.add | apply Pv.sub | apply Pv.mul64 | apply Pv.rem | apply Pv.quo) <;> first | exact rfl | omega) | (apply Pv.conv; exact rfl; (intro w; go_simp <;> first | exact rfl | exact ⟨rfl, rfl⟩); (first | exact wrapu64_id (by omega) (by omega) | exact wrap64_id (by omega) (by omega) | exact wrapu8_id (by omega) (by omega) | exact wrapu32_id (by omega) (by omega) | exact wrapu16_id (by omega) (by omega) | exact u8_mod _ | exact u32_mod _ | exact u64_mod _ | exact rfl)) | ((first | apply Pv.beq | apply Pv.bne); exact rfl; exact rfl; kernel_rfl) | ((first | apply Pv.xor | apply Pv.and | apply Pv.or | apply Pv.shr | apply Pv.shl) <;> first | exact rfl | (simp only [IntKind.bits, Nat.and_one_is_mod]; omega)) | ((first | apply Pv.muln | apply Pv.notn) <;> first | exact rfl | (simp only [IntKind.bits, Nat.and_one_is_mod]; omega)) | ((first | apply Pv.fieldAddr | apply Pv.len | apply Pv.indexAddr | apply Pv.build | apply Pv.field | apply Pv.convert | apply Pv.addw | apply Pv.subw | apply Pv.mulw | apply Pv.binOp) <;> first | exact rfl | (intro w; go_simp <;> first | exact rfl | exact ⟨rfl, rfl⟩))))))
        | (apply EA.take 8; decide +kernel; exact rfl; kernel_rfl; decide +kernel; exact fun _ _ _ _ h => h; (first | (apply Pg.off; exact rfl) | (apply Pg.any; exact rfl; (first | (apply Pv.auto; exact rfl) | ((first | apply Pv.add | apply Pv.sub | apply Pv.mul64 | apply Pv.rem | apply Pv.quo) <;> first | exact rfl | omega) | (apply Pv.conv; exact rfl; (intro w; go_simp <;> first | exact rfl | exact ⟨rfl, rfl⟩); (first | exact wrapu64_id (by omega) (by omega) | exact wrap64_id (by omega) (by omega) | exact wrapu8_id (by omega) (by omega) | exact wrapu32_id (by omega) (by omega) | exact wrapu16_id (by omega) (by omega) | exact u8_mod _ | exact u32_mod _ | exact u64_mod _ | exact rfl)) | ((first | apply Pv.beq | apply Pv.bne); exact rfl; exact rfl; kernel_rfl) | ((first | apply Pv.xor | apply Pv.and | apply Pv.or | apply Pv.shr | apply Pv.shl) <;> first | exact rfl | (simp only [IntKind.bits, Nat.and_one_is_mod]; omega)) | ((first | apply Pv.muln | apply Pv.notn) <;> first | exact rfl | (simp only [IntKind.bits, Nat.and_one_is_mod]; omega)) | ((first | apply Pv.fieldAddr | apply Pv.len | apply Pv.indexAddr | apply Pv.build | apply Pv.field | apply Pv.convert | apply Pv.addw | apply Pv.subw | apply Pv.mulw | apply Pv.binOp) <;> first | exact rfl | (intro w; go_simp <;> first | exact rfl | exact ⟨rfl, rfl⟩))))))
        | (apply EA.take 9; decide +kernel; exact rfl; kernel_rfl; decide +kernel; exact fun _ _ _ _ h => h; (first | (apply Pg.off; exact rfl) | (apply Pg.any; exact rfl; (first | (apply Pv.auto; exact rfl) | ((first | apply Pv.add | apply Pv.sub | apply Pv.mul64 | apply Pv.rem | apply Pv.quo) <;> first | exact rfl | omega) | (apply Pv.conv; exact rfl; (intro w; go_simp <;> first | exact rfl | exact ⟨rfl, rfl⟩); (first | exact wrapu64_id (by omega) (by omega) | exact wrap64_id (by omega) (by omega) | exact wrapu8_id (by omega) (by omega) | exact wrapu32_id (by omega) (by omega) | exact wrapu16_id (by omega) (by omega) | exact u8_mod _ | exact u32_mod _ | exact u64_mod _ | exact rfl)) | ((first | apply Pv.beq | apply Pv.bne); exact rfl; exact rfl; kernel_rfl) | ((first | apply Pv.xor | apply Pv.and | apply Pv.or | apply Pv.shr | apply Pv.shl) <;> first | exact rfl | (simp only [IntKind.bits, Nat.and_one_is_mod]; omega)) | ((first | apply Pv.muln | apply Pv.notn) <;> first | exact rfl | (simp only [IntKind.bits, Nat.and_one_is_mod]; omega)) | ((first | apply Pv.fieldAddr | apply Pv.len | apply Pv.indexAddr | apply Pv.build | apply Pv.field | apply Pv.convert | apply Pv.addw | apply Pv.subw | apply Pv.mulw | apply Pv.binOp) <;> first | exact rfl | (intro w; go_simp <;> first | exact rfl | exact ⟨rfl, rfl⟩))))))
        | (apply EA.take 10; decide +kernel; exact rfl; kernel_rfl; decide +kernel; exact fun _ _ _ _ h => h; (first | (apply Pg.off; exact rfl) | (apply Pg.any; exact rfl; (first | (apply Pv.auto; exact rfl) | ((first | apply Pv.add | apply Pv.sub | apply Pv.mul64 | apply Pv.rem | apply Pv.quo) <;> first | exact rfl | omega) | (apply Pv.conv; exact rfl; (intro w; go_simp <;> first | exact rfl | exact ⟨rfl, rfl⟩); (first | exact wrapu64_id (by omega) (by omega) | exact wrap64_id (by omega) (by omega) | exact wrapu8_id (by omega) (by omega) | exact wrapu32_id (by omega) (by omega) | exact wrapu16_id (by omega) (by omega) | exact u8_mod _ | exact u32_mod _ | exact u64_mod _ | exact rfl)) | ((first | apply Pv.beq | apply Pv.bne); exact rfl; exact rfl; kernel_rfl) | ((first | apply Pv.xor | apply Pv.and | apply Pv.or | apply Pv.shr | apply Pv.shl) <;> first | exact rfl | (simp only [IntKind.bits, Nat.and_one_is_mod]; omega)) | ((first | apply Pv.muln | apply Pv.notn) <;> first | exact rfl | (simp only [IntKind.bits, Nat.and_one_is_mod]; omega)) | ((first | apply Pv.fieldAddr | apply Pv.len | apply Pv.indexAddr | apply Pv.build | apply Pv.field | apply Pv.convert | apply Pv.addw | apply Pv.subw | apply Pv.mulw | apply Pv.binOp) <;> first | exact rfl | (intro w; go_simp <;> first | exact rfl | exact ⟨rfl, rfl⟩))))))
        | (apply EA.take 11; decide +kernel; exact rfl; kernel_rfl; decide +kernel; exact fun _ _ _ _ h => h; (first | (apply Pg.off; exact rfl) | (apply Pg.any; exact rfl; (first | (apply Pv.auto; exact rfl) | ((first | apply Pv.add | apply Pv.sub | apply Pv.mul64 | apply Pv.rem | apply Pv.quo) <;> first | exact rfl | omega) | (apply Pv.conv; exact rfl; (intro w; go_simp <;> first | exact rfl | exact ⟨rfl, rfl⟩); (first | exact wrapu64_id (by omega) (by omega) | exact wrap64_id (by omega) (by omega) | exact wrapu8_id (by omega) (by omega) | exact wrapu32_id (by omega) (by omega) | exact wrapu16_id (by omega) (by omega) | exact u8_mod _ | exact u32_mod _ | exact u64_mod _ | exact rfl)) | ((first | apply Pv.beq | apply Pv.bne); exact rfl; exact rfl; kernel_rfl) | ((first | apply Pv.xor | apply Pv.and | apply Pv.or | apply Pv.shr | apply Pv.shl) <;> first | exact rfl | (simp only [IntKind.bits, Nat.and_one_is_mod]; omega)) | ((first | apply Pv.muln | apply Pv.notn) <;> first | exact rfl | (simp only [IntKind.bits, Nat.and_one_is_mod]; omega)) | ((first | apply Pv.fieldAddr | apply Pv.len | apply Pv.indexAddr | apply Pv.build | apply Pv.field | apply Pv.convert | apply Pv.addw | apply Pv.subw | apply Pv.mulw | apply Pv.binOp) <;> first | exact rfl | (intro w; go_simp <;> first | exact rfl | exact ⟨rfl, rfl⟩)))))))
      apply EA.done
      · decide +kernel
      refine go ?_
      refine A.r1 ?_
      exact HR.out _ _ _ g4 (hg3.trans hg4) hs.swap.drop.swap.drop
    · apply St.load hs
      · exact rfl
      · repeat (first | exact Fd.here | apply Fd.there)
      · exact rfl
      · go_simp
      apply EA.one 3
      · decide +kernel
      · exact rfl
      refine St.callf Tryz.func94 rfl ?_
      refine lay_any hs hta (by omega) ?_
      intro a5 c5 w7 hs
      apply EA.one 6
      · decide +kernel
      · exact rfl
      refine St.callf Tryz.func94 rfl ?_
      refine lay_any hs htb (by omega) ?_
      intro a6 c6 w8 hs
      apply EA.one 7
      · decide +kernel
      · exact rfl
      have e1 : 4 + 1 + (layN t.a).length + (layN t.b).length = (titleB t).length := by simp [titleB]; omega
      have e2 : [Value.int .u8 97, .int .u8 110, .int .u8 97, .int .u8 49] ++ [.int .u8 (t.kind.toNat : Int)] ++ bs (layN t.a) ++ bs (layN t.b) = bs (titleB t) := by simp [titleB, bs]
      rw [e1, e2] at hs
      rw [e1]
      obtain ⟨g4, hg4, hp4, hs⟩ := hs.publishOwn
      refine St.callf Tryz.func93 rfl ?_
      refine wrap_any hs hp4 rfl (by omega) ?_
      intro a7 c7 w9 hs
      repeat (first
        | (apply EA.take 0; decide +kernel; exact rfl; kernel_rfl; decide +kernel; exact fun _ _ _ _ h => h; (first | (apply Pg.off; exact rfl) | (apply Pg.any; exact rfl; (first | (apply Pv.auto; exact rfl) | ((first | apply Pv.add | apply Pv.sub | apply Pv.mul64 | apply Pv.rem | apply Pv.quo) <;> first | exact rfl | omega) | (apply Pv.conv; exact rfl; (intro w; go_simp <;> first | exact rfl | exact ⟨rfl, rfl⟩); (first | exact wrapu64_id (by omega) (by omega) | exact wrap64_id (by omega) (by omega) | exact wrapu8_id (by omega) (by omega) | exact wrapu32_id (by omega) (by omega) | exact wrapu16_id (by omega) (by omega) | exact u8_mod _ | exact u32_mod _ | exact u64_mod _ | exact rfl)) | ((first | apply Pv.beq | apply Pv.bne); exact rfl; exact rfl; kernel_rfl) | ((first | apply Pv.xor | apply Pv.and | apply Pv.or | apply Pv.shr | apply Pv.shl) <;> first | exact rfl | (simp only [IntKind.bits, Nat.and_one_is_mod]; omega)) | ((first | apply Pv.muln | apply Pv.notn) <;> first | exact rfl | (simp only [IntKind.bits, Nat.and_one_is_mod]; omega)) | ((first | apply Pv.fieldAddr | apply Pv.len | apply Pv.indexAddr | apply Pv.build | apply Pv.field | apply Pv.convert | apply Pv.addw | apply Pv.subw | apply Pv.mulw | apply Pv.binOp) <;> first | exact rfl | (intro w; go_simp <;> first | exact rfl | exact ⟨rfl, rfl⟩))))))
        | (apply EA.take 1; decide +kernel; exact rfl; kernel_rfl; decide +kernel; exact fun _ _ _ _ h => h; (first | (apply Pg.off; exact rfl) | (apply Pg.any; exact rfl; (first | (apply Pv.auto; exact rfl) | ((first | apply Pv.add | apply Pv.sub | apply Pv.mul64 | apply Pv.rem | apply Pv.quo) <;> first | exact rfl | omega) | (apply Pv.conv; exact rfl; (intro w; go_simp <;> first | exact rfl | exact ⟨rfl, rfl⟩); (first | exact wrapu64_id (by omega) (by omega) | exact wrap64_id (by omega) (by omega) | exact wrapu8_id (by omega) (by omega) | exact wrapu32_id (by omega) (by omega) | exact wrapu16_id (by omega) (by omega) | exact u8_mod _ | exact u32_mod _ | exact u64_mod _ | exact rfl)) | ((first | apply Pv.beq | apply Pv.bne); exact rfl; exact rfl; kernel_rfl) | ((first | apply Pv.xor | apply Pv.and | apply Pv.or | apply Pv.shr | apply Pv.shl) <;> first | exact rfl | (simp only [IntKind.bits, Nat.and_one_is_mod]; omega)) | ((first | apply Pv.muln | apply Pv.notn) <;> first | exact rfl | (simp only [IntKind.bits, Nat.and_one_is_mod]; omega)) | ((first | apply Pv.fieldAddr | apply Pv.len | apply Pv.indexAddr | apply Pv.build | apply Pv.field | apply Pv.convert | apply Pv.addw | apply Pv.subw | apply Pv.mulw | apply Pv.binOp) <;> first | exact rfl | (intro w; go_simp <;> first | exact rfl | exact ⟨rfl, rfl⟩))))))
        | (apply EA.take 2; decide +kernel; exact rfl; kernel_rfl; decide +kernel; exact fun _ _ _ _ h => h; (first | (apply Pg.off; exact rfl) | (apply Pg.any; exact rfl; (first | (apply Pv.auto; exact rfl) | ((first | apply Pv.add | apply Pv.sub | apply Pv.mul64 | apply Pv.rem | apply Pv.quo) <;> first | exact rfl | omega) | (apply Pv.conv; exact rfl; (intro w; go_simp <;> first | exact rfl | exact ⟨rfl, rfl⟩); (first | exact wrapu64_id (by omega) (by omega) | exact wrap64_id (by omega) (by omega) | exact wrapu8_id (by omega) (by omega) | exact wrapu32_id (by omega) (by omega) | exact wrapu16_id (by omega) (by omega) | exact u8_mod _ | exact u32_mod _ | exact u64_mod _ | exact rfl)) | ((first | apply Pv.beq | apply Pv.bne); exact rfl; exact rfl; kernel_rfl) | ((first | apply Pv.xor | apply Pv.and | apply Pv.or | apply Pv.shr | apply Pv.shl) <;> first | exact rfl | (simp only [IntKind.bits, Nat.and_one_is_mod]; omega)) | ((first | apply Pv.muln | apply Pv.notn) <;> first | exact rfl | (simp only [IntKind.bits, Nat.and_one_is_mod]; omega)) | ((first | apply Pv.fieldAddr | apply Pv.len | apply Pv.indexAddr | apply Pv.build | apply Pv.field | apply Pv.convert | apply Pv.addw | apply Pv.subw | apply Pv.mulw | apply Pv.binOp) <;> first | exact rfl | (intro w; go_simp <;> first | exact rfl | exact ⟨rfl, rfl⟩))))))
        | (apply EA.take 3; decide +kernel; exact rfl; kernel_rfl; decide +kernel; exact fun _ _ _ _ h => h; (first | (apply Pg.off; exact rfl) | (apply Pg.any; exact rfl; (first | (apply Pv.auto; exact rfl) | ((first | apply Pv.add | apply Pv.sub | apply Pv.mul64 | apply Pv.rem | apply Pv.quo) <;> first | exact rfl | omega) | (apply Pv.conv; exact rfl; (intro w; go_simp <;> first | exact rfl | exact ⟨rfl, rfl⟩); (first | exact wrapu64_id (by omega) (by omega) | exact wrap64_id (by omega) (by omega) | exact wrapu8_id (by omega) (by omega) | exact wrapu32_id (by omega) (by omega) | exact wrapu16_id (by omega) (by omega) | exact u8_mod _ | exact u32_mod _ | exact u64_mod _ | exact rfl)) | ((first | apply Pv.beq | apply Pv.bne); exact rfl; exact rfl; kernel_rfl) | ((first | apply Pv.xor | apply Pv.and | apply Pv.or | apply Pv.shr | apply Pv.shl) <;> first | exact rfl | (simp only [IntKind.bits, Nat.and_one_is_mod]; omega)) | ((first | apply Pv.muln | apply Pv.notn) <;> first | exact rfl | (simp only [IntKind.bits, Nat.and_one_is_mod]; omega)) | ((first | apply Pv.fieldAddr | apply Pv.len | apply Pv.indexAddr | apply Pv.build | apply Pv.field | apply Pv.convert | apply Pv.addw | apply Pv.subw | apply Pv.mulw | apply Pv.binOp) <;> first | exact rfl | (intro w; go_simp <;> first | exact rfl | exact ⟨rfl, rfl⟩))))))
        | (apply EA.take 4; decide +kernel; exact rfl; kernel_rfl; decide +kernel; exact fun _ _ _ _ h => h; (first | (apply Pg.off; exact rfl) | (apply Pg.any; exact rfl; (first | (apply Pv.auto; exact rfl) | ((first | apply Pv.add | apply Pv.sub | apply Pv.mul64 | apply Pv.rem | apply Pv.quo) <;> first | exact rfl | omega) | (apply Pv.conv; exact rfl; (intro w; go_simp <;> first | exact rfl | exact ⟨rfl, rfl⟩); (first | exact wrapu64_id (by omega) (by omega) | exact wrap64_id (by omega) (by omega) | exact wrapu8_id (by omega) (by omega) | exact wrapu32_id (by omega) (by omega) | exact wrapu16_id (by omega) (by omega) | exact u8_mod _ | exact u32_mod _ | exact u64_mod _ | exact rfl)) | ((first | apply Pv.beq | apply Pv.bne); exact rfl; exact rfl; kernel_rfl) | ((first | apply Pv.xor | apply Pv.and | apply Pv.or | apply Pv.shr | apply Pv.shl) <;> first | exact rfl | (simp only [IntKind.bits, Nat.and_one_is_mod]; omega)) | ((first | apply Pv.muln | apply Pv.notn) <;> first | exact rfl | (simp only [IntKind.bits, Nat.and_one_is_mod]; omega)) | ((first | apply Pv.fieldAddr | apply Pv.len | apply Pv.indexAddr | apply Pv.build | apply Pv.field | apply Pv.convert | apply Pv.addw | apply Pv.subw | apply Pv.mulw | apply Pv.binOp) <;> first | exact rfl | (intro w; go_simp <;> first | exact rfl | exact ⟨rfl, rfl⟩))))))
        | (apply EA.take 5; decide +kernel; exact rfl; kernel_rfl; decide +kernel; exact fun _ _ _ _ h => h; (first | (apply Pg.off; exact rfl) | (apply Pg.any; exact rfl; (first | (apply Pv.auto; exact rfl) | ((first | apply Pv.add | apply Pv.sub | apply Pv.mul64 | apply Pv.rem | apply Pv.quo) <;> first | exact rfl | omega) | (apply Pv.conv; exact rfl; (intro w; go_simp <;> first | exact rfl | exact ⟨rfl, rfl⟩); (first | exact wrapu64_id (by omega) (by omega) | exact wrap64_id (by omega) (by omega) | exact wrapu8_id (by omega) (by omega) | exact wrapu32_id (by omega) (by omega) | exact wrapu16_id (by omega) (by omega) | exact u8_mod _ | exact u32_mod _ | exact u64_mod _ | exact rfl)) | ((first | apply Pv.beq | apply Pv.bne); exact rfl; exact rfl; kernel_rfl) | ((first | apply Pv.xor | apply Pv.and | apply Pv.or | apply Pv.shr | apply Pv.shl) <;> first | exact rfl | (simp only [IntKind.bits, Nat.and_one_is_mod]; omega)) | ((first | apply Pv.muln | apply Pv.notn) <;> first | exact rfl | (simp only [IntKind.bits, Nat.and_one_is_mod]; omega)) | ((first | apply Pv.fieldAddr | apply Pv.len | apply Pv.indexAddr | apply Pv.build | apply Pv.field | apply Pv.convert | apply Pv.addw | apply Pv.subw | apply Pv.mulw | apply Pv.binOp) <;> first | exact rfl | (intro w; go_simp <;> first | exact rfl | exact ⟨rfl, rfl⟩))))))
        | (apply EA.take 6; decide +kernel; exact rfl; kernel_rfl; decide +kernel; exact fun _ _ _ _ h => h; (first | (apply Pg.off; exact rfl) | (apply Pg.any; exact rfl; (first | (apply Pv.auto; exact rfl) | ((first | apply Pv.add | apply Pv.sub | apply Pv.mul64 | apply Pv.rem | apply Pv.quo) <;> first | exact rfl | omega) | (apply Pv.conv; exact rfl; (intro w; go_simp <;> first | exact rfl | exact ⟨rfl, rfl⟩); (first | exact wrapu64_id (by omega) (by omega) | exact wrap64_id (by omega) (by omega) | exact wrapu8_id (by omega) (by omega) | exact wrapu32_id (by omega) (by omega) | exact wrapu16_id (by omega) (by omega) | exact u8_mod _ | exact u32_mod _ | exact u64_mod _ | exact rfl)) | ((first | apply Pv.beq | apply Pv.bne); exact rfl; exact rfl; kernel_rfl) | ((first | apply Pv.xor | apply Pv.and | apply Pv.or | apply Pv.shr | apply Pv.shl) <;> first | exact rfl | (simp only [IntKind.bits, Nat.and_one_is_mod]; omega)) | ((first | apply Pv.muln | apply Pv.notn) <;> first | exact rfl | (simp only [IntKind.bits, Nat.and_one_is_mod]; omega)) | ((first | apply Pv.fieldAddr | apply Pv.len | apply Pv.indexAddr | apply Pv.build | apply Pv.field | apply Pv.convert | apply Pv.addw | apply Pv.subw | apply Pv.mulw | apply Pv.binOp) <;> first | exact rfl | (intro w; go_simp <;> first | exact rfl | exact ⟨rfl, rfl⟩))))))
        | (apply EA.take 7; decide +kernel; exact rfl; kernel_rfl; decide +kernel; exact fun _ _ _ _ h => h; (first | (apply Pg.off; exact rfl) | (apply Pg.any; exact rfl; (first | (apply Pv.auto; exact rfl) | ((first | apply Pv.add | apply Pv.sub | apply Pv.mul64 | apply Pv.rem | apply Pv.quo) <;> first | exact rfl | omega) | (apply Pv.conv; exact rfl; (intro w; go_simp <;> first | exact rfl | exact ⟨rfl, rfl⟩); (first | exact wrapu64_id (by omega) (by omega) | exact wrap64_id (by omega) (by omega) | exact wrapu8_id (by omega) (by omega) | exact wrapu32_id (by omega) (by omega) | exact wrapu16_id (by omega) (by omega) | exact u8_mod _ | exact u32_mod _ | exact u64_mod _ | exact rfl)) | ((first | apply Pv.beq | apply Pv.bne); exact rfl; exact rfl; kernel_rfl) | ((first | apply Pv.xor | apply Pv.and | apply Pv.or | apply Pv.shr | apply Pv.shl) <;> first | exact rfl | (simp only [IntKind.bits, Nat.and_one_is_mod]; omega)) | ((first | apply Pv.muln | apply Pv.notn) <;> first | exact rfl | (simp only [IntKind.bits, Nat.and_one_is_mod]; omega)) | ((first | apply Pv.fieldAddr | apply Pv.len | apply Pv.indexAddr | apply Pv.build | apply Pv.field | apply Pv.convert | apply Pv.addw | apply Pv.subw | apply Pv.mulw | apply Pv.binOp) <;> first | exact rfl | (intro w; go_simp <;> first | exact rfl | exact ⟨rfl, rfl⟩))))))
        | (apply EA.take 8; decide +kernel; exact rfl; kernel_rfl; decide +kernel; exact fun _ _ _ _ h => h; (first | (apply Pg.off; exact rfl) | (apply Pg.any; exact rfl; (first | (apply Pv.auto; exact rfl) | ((first | apply Pv.add | apply Pv.sub | apply Pv.mul64 | apply Pv.rem | apply Pv.quo) <;> first | exact rfl | omega) | (apply Pv.conv; exact rfl; (intro w; go_simp <;> first | exact rfl | exact ⟨rfl, rfl⟩); (first | exact wrapu64_id (by omega) (by omega) | exact wrap64_id (by omega) (by omega) | exact wrapu8_id (by omega) (by omega) | exact wrapu32_id (by omega) (by omega) | exact wrapu16_id (by omega) (by omega) | exact u8_mod _ | exact u32_mod _ | exact u64_mod _ | exact rfl)) | ((first | apply Pv.beq | apply Pv.bne); exact rfl; exact rfl; kernel_rfl) | ((first | apply Pv.xor | apply Pv.and | apply Pv.or | apply Pv.shr | apply Pv.shl) <;> first | exact rfl | (simp only [IntKind.bits, Nat.and_one_is_mod]; omega)) | ((first | apply Pv.muln | apply Pv.notn) <;> first | exact rfl | (simp only [IntKind.bits, Nat.and_one_is_mod]; omega)) | ((first | apply Pv.fieldAddr | apply Pv.len | apply Pv.indexAddr | apply Pv.build | apply Pv.field | apply Pv.convert | apply Pv.addw | apply Pv.subw | apply Pv.mulw | apply Pv.binOp) <;> first | exact rfl | (intro w; go_simp <;> first | exact rfl | exact ⟨rfl, rfl⟩))))))
        | (apply EA.take 9; decide +kernel; exact rfl; kernel_rfl; decide +kernel; exact fun _ _ _ _ h => h; (first | (apply Pg.off; exact rfl) | (apply Pg.any; exact rfl; (first | (apply Pv.auto; exact rfl) | ((first | apply Pv.add | apply Pv.sub | apply Pv.mul64 | apply Pv.rem | apply Pv.quo) <;> first | exact rfl | omega) | (apply Pv.conv; exact rfl; (intro w; go_simp <;> first | exact rfl | exact ⟨rfl, rfl⟩); (first | exact wrapu64_id (by omega) (by omega) | exact wrap64_id (by omega) (by omega) | exact wrapu8_id (by omega) (by omega) | exact wrapu32_id (by omega) (by omega) | exact wrapu16_id (by omega) (by omega) | exact u8_mod _ | exact u32_mod _ | exact u64_mod _ | exact rfl)) | ((first | apply Pv.beq | apply Pv.bne); exact rfl; exact rfl; kernel_rfl) | ((first | apply Pv.xor | apply Pv.and | apply Pv.or | apply Pv.shr | apply Pv.shl) <;> first | exact rfl | (simp only [IntKind.bits, Nat.and_one_is_mod]; omega)) | ((first | apply Pv.muln | apply Pv.notn) <;> first | exact rfl | (simp only [IntKind.bits, Nat.and_one_is_mod]; omega)) | ((first | apply Pv.fieldAddr | apply Pv.len | apply Pv.indexAddr | apply Pv.build | apply Pv.field | apply Pv.convert | apply Pv.addw | apply Pv.subw | apply Pv.mulw | apply Pv.binOp) <;> first | exact rfl | (intro w; go_simp <;> first | exact rfl | exact ⟨rfl, rfl⟩))))))
        | (apply EA.take 10; decide +kernel; exact rfl; kernel_rfl; decide +kernel; exact fun _ _ _ _ h => h; (first | (apply Pg.off; exact rfl) | (apply Pg.any; exact rfl; (first | (apply Pv.auto; exact rfl) | ((first | apply Pv.add | apply Pv.sub | apply Pv.mul64 | apply Pv.rem | apply Pv.quo) <;> first | exact rfl | omega) | (apply Pv.conv; exact rfl; (intro w; go_simp <;> first | exact rfl | exact ⟨rfl, rfl⟩); (first | exact wrapu64_id (by omega) (by omega) | exact wrap64_id (by omega) (by omega) | exact wrapu8_id (by omega) (by omega) | exact wrapu32_id (by omega) (by omega) | exact wrapu16_id (by omega) (by omega) | exact u8_mod _ | exact u32_mod _ | exact u64_mod _ | exact rfl)) | ((first | apply Pv.beq | apply Pv.bne); exact rfl; exact rfl; kernel_rfl) | ((first | apply Pv.xor | apply Pv.and | apply Pv.or | apply Pv.shr | apply Pv.shl) <;> first | exact rfl | (simp only [IntKind.bits, Nat.and_one_is_mod]; omega)) | ((first | apply Pv.muln | apply Pv.notn) <;> first | exact rfl | (simp only [IntKind.bits, Nat.and_one_is_mod]; omega)) | ((first | apply Pv.fieldAddr | apply Pv.len | apply Pv.indexAddr | apply Pv.build | apply Pv.field | apply Pv.convert | apply Pv.addw | apply Pv.subw | apply Pv.mulw | apply Pv.binOp) <;> first | exact rfl | (intro w; go_simp <;> first | exact rfl | exact ⟨rfl, rfl⟩))))))
        | (apply EA.take 11; decide +kernel; exact rfl; kernel_rfl; decide +kernel; exact fun _ _ _ _ h => h; (first | (apply Pg.off; exact rfl) | (apply Pg.any; exact rfl; (first | (apply Pv.auto; exact rfl) | ((first | apply Pv.add | apply Pv.sub | apply Pv.mul64 | apply Pv.rem | apply Pv.quo) <;> first | exact rfl | omega) | (apply Pv.conv; exact rfl; (intro w; go_simp <;> first | exact rfl | exact ⟨rfl, rfl⟩); (first | exact wrapu64_id (by omega) (by omega) | exact wrap64_id (by omega) (by omega) | exact wrapu8_id (by omega) (by omega) | exact wrapu32_id (by omega) (by omega) | exact wrapu16_id (by omega) (by omega) | exact u8_mod _ | exact u32_mod _ | exact u64_mod _ | exact rfl)) | ((first | apply Pv.beq | apply Pv.bne); exact rfl; exact rfl; kernel_rfl) | ((first | apply Pv.xor | apply Pv.and | apply Pv.or | apply Pv.shr | apply Pv.shl) <;> first | exact rfl | (simp only [IntKind.bits, Nat.and_one_is_mod]; omega)) | ((first | apply Pv.muln | apply Pv.notn) <;> first | exact rfl | (simp only [IntKind.bits, Nat.and_one_is_mod]; omega)) | ((first | apply Pv.fieldAddr | apply Pv.len | apply Pv.indexAddr | apply Pv.build | apply Pv.field | apply Pv.convert | apply Pv.addw | apply Pv.subw | apply Pv.mulw | apply Pv.binOp) <;> first | exact rfl | (intro w; go_simp <;> first | exact rfl | exact ⟨rfl, rfl⟩)))))))
      apply EA.done
      · decide +kernel
      refine go ?_
      refine A.r1 ?_
      exact HR.out _ _ _ g4 (hg3.trans hg4) hs.swap.drop.swap.drop
  · apply St.load hs
    · exact rfl
    · repeat (first | exact Fd.here | apply Fd.there)
    · exact rfl
    · go_simp
    apply EA.one 2
    · decide +kernel
    · exact rfl
    apply St.load hs
    · exact rfl
    · repeat (first | exact Fd.here | apply Fd.there)
    · exact rfl
    · go_simp
    apply EA.one 3
    · decide +kernel
    · exact rfl
    refine St.callf Tryz.func94 rfl ?_
    refine lay_any hs hta (by omega) ?_
    intro a5 c5 w7 hs
    apply EA.one 6
    · decide +kernel
    · exact rfl
    refine St.callf Tryz.func94 rfl ?_
    refine lay_any hs htb (by omega) ?_
    intro a6 c6 w8 hs
    apply EA.one 7
    · decide +kernel
    · exact rfl
    have e1 : 4 + 1 + (layN t.a).length + (layN t.b).length = (titleB t).length := by simp [titleB]; omega
    have e2 : [Value.int .u8 97, .int .u8 110, .int .u8 97, .int .u8 49] ++ [.int .u8 (t.kind.toNat : Int)] ++ bs (layN t.a) ++ bs (layN t.b) = bs (titleB t) := by simp [titleB, bs]
    rw [e1, e2] at hs
    rw [e1]
    obtain ⟨g4, hg4, hp4, hs⟩ := hs.publishOwn
    refine St.callf Tryz.func93 rfl ?_
    refine wrap_any hs hp4 rfl (by omega) ?_
    intro a7 c7 w9 hs
    repeat (first
      | (apply EA.take 0; decide +kernel; exact rfl; kernel_rfl; decide +kernel; exact fun _ _ _ _ h => h; (first | (apply Pg.off; exact rfl) | (apply Pg.any; exact rfl; (first | (apply Pv.auto; exact rfl) | ((first | apply Pv.add | apply Pv.sub | apply Pv.mul64 | apply Pv.rem | apply Pv.quo) <;> first | exact rfl | omega) | (apply Pv.conv; exact rfl; (intro w; go_simp <;> first | exact rfl | exact ⟨rfl, rfl⟩); (first | exact wrapu64_id (by omega) (by omega) | exact wrap64_id (by omega) (by omega) | exact wrapu8_id (by omega) (by omega) | exact wrapu32_id (by omega) (by omega) | exact wrapu16_id (by omega) (by omega) | exact u8_mod _ | exact u32_mod _ | exact u64_mod _ | exact rfl)) | ((first | apply Pv.beq | apply Pv.bne); exact rfl; exact rfl; kernel_rfl) | ((first | apply Pv.xor | apply Pv.and | apply Pv.or | apply Pv.shr | apply Pv.shl) <;> first | exact rfl | (simp only [IntKind.bits, Nat.and_one_is_mod]; omega)) | ((first | apply Pv.muln | apply Pv.notn) <;> first | exact rfl | (simp only [IntKind.bits, Nat.and_one_is_mod]; omega)) | ((first | apply Pv.fieldAddr | apply Pv.len | apply Pv.indexAddr | apply Pv.build | apply Pv.field | apply Pv.convert | apply Pv.addw | apply Pv.subw | apply Pv.mulw | apply Pv.binOp) <;> first | exact rfl | (intro w; go_simp <;> first | exact rfl | exact ⟨rfl, rfl⟩))))))
      | (apply EA.take 1; decide +kernel; exact rfl; kernel_rfl; decide +kernel; exact fun _ _ _ _ h => h; (first | (apply Pg.off; exact rfl) | (apply Pg.any; exact rfl; (first | (apply Pv.auto; exact rfl) | ((first | apply Pv.add | apply Pv.sub | apply Pv.mul64 | apply Pv.rem | apply Pv.quo) <;> first | exact rfl | omega) | (apply Pv.conv; exact rfl; (intro w; go_simp <;> first | exact rfl | exact ⟨rfl, rfl⟩); (first | exact wrapu64_id (by omega) (by omega) | exact wrap64_id (by omega) (by omega) | exact wrapu8_id (by omega) (by omega) | exact wrapu32_id (by omega) (by omega) | exact wrapu16_id (by omega) (by omega) | exact u8_mod _ | exact u32_mod _ | exact u64_mod _ | exact rfl)) | ((first | apply Pv.beq | apply Pv.bne); exact rfl; exact rfl; kernel_rfl) | ((first | apply Pv.xor | apply Pv.and | apply Pv.or | apply Pv.shr | apply Pv.shl) <;> first | exact rfl | (simp only [IntKind.bits, Nat.and_one_is_mod]; omega)) | ((first | apply Pv.muln | apply Pv.notn) <;> first | exact rfl | (simp only [IntKind.bits, Nat.and_one_is_mod]; omega)) | ((first | apply Pv.fieldAddr | apply Pv.len | apply Pv.indexAddr | apply Pv.build | apply Pv.field | apply Pv.convert | apply Pv.addw | apply Pv.subw | apply Pv.mulw | apply Pv.binOp) <;> first | exact rfl | (intro w; go_simp <;> first | exact rfl | exact ⟨rfl, rfl⟩))))))
      | (apply EA.take 2; decide +kernel; exact rfl; kernel_rfl; decide +kernel; exact fun _ _ _ _ h => h; (first | (apply Pg.off; exact rfl) | (apply Pg.any; exact rfl; (first | (apply Pv.auto; exact rfl) | ((first | apply Pv.add | apply Pv.sub | apply Pv.mul64 | apply Pv.rem | apply Pv.quo) <;> first | exact rfl | omega) | (apply Pv.conv; exact rfl; (intro w; go_simp <;> first | exact rfl | exact ⟨rfl, rfl⟩); (first | exact wrapu64_id (by omega) (by omega) | exact wrap64_id (by omega) (by omega) | exact wrapu8_id (by omega) (by omega) | exact wrapu32_id (by omega) (by omega) | exact wrapu16_id (by omega) (by omega) | exact u8_mod _ | exact u32_mod _ | exact u64_mod _ | exact rfl)) | ((first | apply Pv.beq | apply Pv.bne); exact rfl; exact rfl; kernel_rfl) | ((first | apply Pv.xor | apply Pv.and | apply Pv.or | apply Pv.shr | apply Pv.shl) <;> first | exact rfl | (simp only [IntKind.bits, Nat.and_one_is_mod]; omega)) | ((first | apply Pv.muln | apply Pv.notn) <;> first | exact rfl | (simp only [IntKind.bits, Nat.and_one_is_mod]; omega)) | ((first | apply Pv.fieldAddr | apply Pv.len | apply Pv.indexAddr | apply Pv.build | apply Pv.field | apply Pv.convert | apply Pv.addw | apply Pv.subw | apply Pv.mulw | apply Pv.binOp) <;> first | exact rfl | (intro w; go_simp <;> first | exact rfl | exact ⟨rfl, rfl⟩))))))
      | (apply EA.take 3; decide +kernel; exact rfl; kernel_rfl; decide +kernel; exact fun _ _ _ _ h => h; (first | (apply Pg.off; exact rfl) | (apply Pg.any; exact rfl; (first | (apply Pv.auto; exact rfl) | ((first | apply Pv.add | apply Pv.sub | apply Pv.mul64 | apply Pv.rem | apply Pv.quo) <;> first | exact rfl | omega) | (apply Pv.conv; exact rfl; (intro w; go_simp <;> first | exact rfl | exact ⟨rfl, rfl⟩); (first | exact wrapu64_id (by omega) (by omega) | exact wrap64_id (by omega) (by omega) | exact wrapu8_id (by omega) (by omega) | exact wrapu32_id (by omega) (by omega) | exact wrapu16_id (by omega) (by omega) | exact u8_mod _ | exact u32_mod _ | exact u64_mod _ | exact rfl)) | ((first | apply Pv.beq | apply Pv.bne); exact rfl; exact rfl; kernel_rfl) | ((first | apply Pv.xor | apply Pv.and | apply Pv.or | apply Pv.shr | apply Pv.shl) <;> first | exact rfl | (simp only [IntKind.bits, Nat.and_one_is_mod]; omega)) | ((first | apply Pv.muln | apply Pv.notn) <;> first | exact rfl | (simp only [IntKind.bits, Nat.and_one_is_mod]; omega)) | ((first | apply Pv.fieldAddr | apply Pv.len | apply Pv.indexAddr | apply Pv.build | apply Pv.field | apply Pv.convert | apply Pv.addw | apply Pv.subw | apply Pv.mulw | apply Pv.binOp) <;> first | exact rfl | (intro w; go_simp <;> first | exact rfl | exact ⟨rfl, rfl⟩))))))
      | (apply EA.take 4; decide +kernel; exact rfl; kernel_rfl; decide +kernel; exact fun _ _ _ _ h => h; (first | (apply Pg.off; exact rfl) | (apply Pg.any; exact rfl; (first | (apply Pv.auto; exact rfl) | ((first | apply Pv.add | apply Pv.sub | apply Pv.mul64 | apply Pv.rem | apply Pv.quo) <;> first | exact rfl | omega) | (apply Pv.conv; exact rfl; (intro w; go_simp <;> first | exact rfl | exact ⟨rfl, rfl⟩); (first | exact wrapu64_id (by omega) (by omega) | exact wrap64_id (by omega) (by omega) | exact wrapu8_id (by omega) (by omega) | exact wrapu32_id (by omega) (by omega) | exact wrapu16_id (by omega) (by omega) | exact u8_mod _ | exact u32_mod _ | exact u64_mod _ | exact rfl)) | ((first | apply Pv.beq | apply Pv.bne); exact rfl; exact rfl; kernel_rfl) | ((first | apply Pv.xor | apply Pv.and | apply Pv.or | apply Pv.shr | apply Pv.shl) <;> first | exact rfl | (simp only [IntKind.bits, Nat.and_one_is_mod]; omega)) | ((first | apply Pv.muln | apply Pv.notn) <;> first | exact rfl | (simp only [IntKind.bits, Nat.and_one_is_mod]; omega)) | ((first | apply Pv.fieldAddr | apply Pv.len | apply Pv.indexAddr | apply Pv.build | apply Pv.field | apply Pv.convert | apply Pv.addw | apply Pv.subw | apply Pv.mulw | apply Pv.binOp) <;> first | exact rfl | (intro w; go_simp <;> first | exact rfl | exact ⟨rfl, rfl⟩))))))
      | (apply EA.take 5; decide +kernel; exact rfl; kernel_rfl; decide +kernel; exact fun _ _ _ _ h => h; (first | (apply Pg.off; exact rfl) | (apply Pg.any; exact rfl; (first | (apply Pv.auto; exact rfl) | ((first | apply Pv.add | apply Pv.sub | apply Pv.mul64 | apply Pv.rem | apply Pv.quo) <;> first | exact rfl | omega) | (apply Pv.conv; exact rfl; (intro w; go_simp <;> first | exact rfl | exact ⟨rfl, rfl⟩); (first | exact wrapu64_id (by omega) (by omega) | exact wrap64_id (by omega) (by omega) | exact wrapu8_id (by omega) (by omega) | exact wrapu32_id (by omega) (by omega) | exact wrapu16_id (by omega) (by omega) | exact u8_mod _ | exact u32_mod _ | exact u64_mod _ | exact rfl)) | ((first | apply Pv.beq | apply Pv.bne); exact rfl; exact rfl; kernel_rfl) | ((first | apply Pv.xor | apply Pv.and | apply Pv.or | apply Pv.shr | apply Pv.shl) <;> first | exact rfl | (simp only [IntKind.bits, Nat.and_one_is_mod]; omega)) | ((first | apply Pv.muln | apply Pv.notn) <;> first | exact rfl | (simp only [IntKind.bits, Nat.and_one_is_mod]; omega)) | ((first | apply Pv.fieldAddr | apply Pv.len | apply Pv.indexAddr | apply Pv.build | apply Pv.field | apply Pv.convert | apply Pv.addw | apply Pv.subw | apply Pv.mulw | apply Pv.binOp) <;> first | exact rfl | (intro w; go_simp <;> first | exact rfl | exact ⟨rfl, rfl⟩))))))
      | (apply EA.take 6; decide +kernel; exact rfl; kernel_rfl; decide +kernel; exact fun _ _ _ _ h => h; (first | (apply Pg.off; exact rfl) | (apply Pg.any; exact rfl; (first | (apply Pv.auto; exact rfl) | ((first | apply Pv.add | apply Pv.sub | apply Pv.mul64 | apply Pv.rem | apply Pv.quo) <;> first | exact rfl | omega) | (apply Pv.conv; exact rfl; (intro w; go_simp <;> first | exact rfl | exact ⟨rfl, rfl⟩); (first | exact wrapu64_id (by omega) (by omega) | exact wrap64_id (by omega) (by omega) | exact wrapu8_id (by omega) (by omega) | exact wrapu32_id (by omega) (by omega) | exact wrapu16_id (by omega) (by omega) | exact u8_mod _ | exact u32_mod _ | exact u64_mod _ | exact rfl)) | ((first | apply Pv.beq | apply Pv.bne); exact rfl; exact rfl; kernel_rfl) | ((first | apply Pv.xor | apply Pv.and | apply Pv.or | apply Pv.shr | apply Pv.shl) <;> first | exact rfl | (simp only [IntKind.bits, Nat.and_one_is_mod]; omega)) | ((first | apply Pv.muln | apply Pv.notn) <;> first | exact rfl | (simp only [IntKind.bits, Nat.and_one_is_mod]; omega)) | ((first | apply Pv.fieldAddr | apply Pv.len | apply Pv.indexAddr | apply Pv.build | apply Pv.field | apply Pv.convert | apply Pv.addw | apply Pv.subw | apply Pv.mulw | apply Pv.binOp) <;> first | exact rfl | (intro w; go_simp <;> first | exact rfl | exact ⟨rfl, rfl⟩))))))
      | (apply EA.take 7; decide +kernel; exact rfl; kernel_rfl; decide +kernel; exact fun _ _ _ _ h => h; (first | (apply Pg.off; exact rfl) | (apply Pg.any; exact rfl; (first | (apply Pv.auto; exact rfl) | ((first | apply Pv.add | apply Pv.sub | apply Pv.mul64 | apply Pv.rem | apply Pv.quo) <;> first | exact rfl | omega) | (apply Pv.conv; exact rfl; (intro w; go_simp <;> first | exact rfl | exact ⟨rfl, rfl⟩); (first | exact wrapu64_id (by omega) (by omega) | exact wrap64_id (by omega) (by omega) | exact wrapu8_id (by omega) (by omega) | exact wrapu32_id (by omega) (by omega) | exact wrapu16_id (by omega) (by omega) | exact u8_mod _ | exact u32_mod _ | exact u64_mod _ | exact rfl)) | ((first | apply Pv.beq | apply Pv.bne); exact rfl; exact rfl; kernel_rfl) | ((first | apply Pv.xor | apply Pv.and | apply Pv.or | apply Pv.shr | apply Pv.shl) <;> first | exact rfl | (simp only [IntKind.bits, Nat.and_one_is_mod]; omega)) | ((first | apply Pv.muln | apply Pv.notn) <;> first | exact rfl | (simp only [IntKind.bits, Nat.and_one_is_mod]; omega)) | ((first | apply Pv.fieldAddr | apply Pv.len | apply Pv.indexAddr | apply Pv.build | apply Pv.field | apply Pv.convert | apply Pv.addw | apply Pv.subw | apply Pv.mulw | apply Pv.binOp) <;> first | exact rfl | (intro w; go_simp <;> first | exact rfl | exact ⟨rfl, rfl⟩))))))
      | (apply EA.take 8; decide +kernel; exact rfl; kernel_rfl; decide +kernel; exact fun _ _ _ _ h => h; (first | (apply Pg.off; exact rfl) | (apply Pg.any; exact rfl; (first | (apply Pv.auto; exact rfl) | ((first | apply Pv.add | apply Pv.sub | apply Pv.mul64 | apply Pv.rem | apply Pv.quo) <;> first | exact rfl | omega) | (apply Pv.conv; exact rfl; (intro w; go_simp <;> first | exact rfl | exact ⟨rfl, rfl⟩); (first | exact wrapu64_id (by omega) (by omega) | exact wrap64_id (by omega) (by omega) | exact wrapu8_id (by omega) (by omega) | exact wrapu32_id (by omega) (by omega) | exact wrapu16_id (by omega) (by omega) | exact u8_mod _ | exact u32_mod _ | exact u64_mod _ | exact rfl)) | ((first | apply Pv.beq | apply Pv.bne); exact rfl; exact rfl; kernel_rfl) | ((first | apply Pv.xor | apply Pv.and | apply Pv.or | apply Pv.shr | apply Pv.shl) <;> first | exact rfl | (simp only [IntKind.bits, Nat.and_one_is_mod]; omega)) | ((first | apply Pv.muln | apply Pv.notn) <;> first | exact rfl | (simp only [IntKind.bits, Nat.and_one_is_mod]; omega)) | ((first | apply Pv.fieldAddr | apply Pv.len | apply Pv.indexAddr | apply Pv.build | apply Pv.field | apply Pv.convert | apply Pv.addw | apply Pv.subw | apply Pv.mulw | apply Pv.binOp) <;> first | exact rfl | (intro w; go_simp <;> first | exact rfl | exact ⟨rfl, rfl⟩))))))
      | (apply EA.take 9; decide +kernel; exact rfl; kernel_rfl; decide +kernel; exact fun _ _ _ _ h => h; (first | (apply Pg.off; exact rfl) | (apply Pg.any; exact rfl; (first | (apply Pv.auto; exact rfl) | ((first | apply Pv.add | apply Pv.sub | apply Pv.mul64 | apply Pv.rem | apply Pv.quo) <;> first | exact rfl | omega) | (apply Pv.conv; exact rfl; (intro w; go_simp <;> first | exact rfl | exact ⟨rfl, rfl⟩); (first | exact wrapu64_id (by omega) (by omega) | exact wrap64_id (by omega) (by omega) | exact wrapu8_id (by omega) (by omega) | exact wrapu32_id (by omega) (by omega) | exact wrapu16_id (by omega) (by omega) | exact u8_mod _ | exact u32_mod _ | exact u64_mod _ | exact rfl)) | ((first | apply Pv.beq | apply Pv.bne); exact rfl; exact rfl; kernel_rfl) | ((first | apply Pv.xor | apply Pv.and | apply Pv.or | apply Pv.shr | apply Pv.shl) <;> first | exact rfl | (simp only [IntKind.bits, Nat.and_one_is_mod]; omega)) | ((first | apply Pv.muln | apply Pv.notn) <;> first | exact rfl | (simp only [IntKind.bits, Nat.and_one_is_mod]; omega)) | ((first | apply Pv.fieldAddr | apply Pv.len | apply Pv.indexAddr | apply Pv.build | apply Pv.field | apply Pv.convert | apply Pv.addw | apply Pv.subw | apply Pv.mulw | apply Pv.binOp) <;> first | exact rfl | (intro w; go_simp <;> first | exact rfl | exact ⟨rfl, rfl⟩))))))
      | (apply EA.take 10; decide +kernel; exact rfl; kernel_rfl; decide +kernel; exact fun _ _ _ _ h => h; (first | (apply Pg.off; exact rfl) | (apply Pg.any; exact rfl; (first | (apply Pv.auto; exact rfl) | ((first | apply Pv.add | apply Pv.sub | apply Pv.mul64 | apply Pv.rem | apply Pv.quo) <;> first | exact rfl | omega) | (apply Pv.conv; exact rfl; (intro w; go_simp <;> first | exact rfl | exact ⟨rfl, rfl⟩); (first | exact wrapu64_id (by omega) (by omega) | exact wrap64_id (by omega) (by omega) | exact wrapu8_id (by omega) (by omega) | exact wrapu32_id (by omega) (by omega) | exact wrapu16_id (by omega) (by omega) | exact u8_mod _ | exact u32_mod _ | exact u64_mod _ | exact rfl)) | ((first | apply Pv.beq | apply Pv.bne); exact rfl; exact rfl; kernel_rfl) | ((first | apply Pv.xor | apply Pv.and | apply Pv.or | apply Pv.shr | apply Pv.shl) <;> first | exact rfl | (simp only [IntKind.bits, Nat.and_one_is_mod]; omega)) | ((first | apply Pv.muln | apply Pv.notn) <;> first | exact rfl | (simp only [IntKind.bits, Nat.and_one_is_mod]; omega)) | ((first | apply Pv.fieldAddr | apply Pv.len | apply Pv.indexAddr | apply Pv.build | apply Pv.field | apply Pv.convert | apply Pv.addw | apply Pv.subw | apply Pv.mulw | apply Pv.binOp) <;> first | exact rfl | (intro w; go_simp <;> first | exact rfl | exact ⟨rfl, rfl⟩))))))
      | (apply EA.take 11; decide +kernel; exact rfl; kernel_rfl; decide +kernel; exact fun _ _ _ _ h => h; (first | (apply Pg.off; exact rfl) | (apply Pg.any; exact rfl; (first | (apply Pv.auto; exact rfl) | ((first | apply Pv.add | apply Pv.sub | apply Pv.mul64 | apply Pv.rem | apply Pv.quo) <;> first | exact rfl | omega) | (apply Pv.conv; exact rfl; (intro w; go_simp <;> first | exact rfl | exact ⟨rfl, rfl⟩); (first | exact wrapu64_id (by omega) (by omega) | exact wrap64_id (by omega) (by omega) | exact wrapu8_id (by omega) (by omega) | exact wrapu32_id (by omega) (by omega) | exact wrapu16_id (by omega) (by omega) | exact u8_mod _ | exact u32_mod _ | exact u64_mod _ | exact rfl)) | ((first | apply Pv.beq | apply Pv.bne); exact rfl; exact rfl; kernel_rfl) | ((first | apply Pv.xor | apply Pv.and | apply Pv.or | apply Pv.shr | apply Pv.shl) <;> first | exact rfl | (simp only [IntKind.bits, Nat.and_one_is_mod]; omega)) | ((first | apply Pv.muln | apply Pv.notn) <;> first | exact rfl | (simp only [IntKind.bits, Nat.and_one_is_mod]; omega)) | ((first | apply Pv.fieldAddr | apply Pv.len | apply Pv.indexAddr | apply Pv.build | apply Pv.field | apply Pv.convert | apply Pv.addw | apply Pv.subw | apply Pv.mulw | apply Pv.binOp) <;> first | exact rfl | (intro w; go_simp <;> first | exact rfl | exact ⟨rfl, rfl⟩)))))))
    apply EA.done
    · decide +kernel
    refine go ?_
    refine A.r1 ?_
    exact HR.out _ _ _ g4 (hg3.trans hg4) hs.swap.drop.swap.drop

end Go.Proofs.YtdkbpcibmipelaaGreatDoor

/-
  Layer 5 (sheet): a title, of any bytes.
-/
namespace Go.Proofs.YtdkbpcibmipelaaGreatDoor
open Go.RowKit
set_option linter.unusedVariables false
set_option linter.unusedSimpArgs false

theorem ag_title : AggOf Tryz.prog 41 3 := ⟨_, Tryz.underlying41, rfl, by kernel_rfl⟩

/-- The bytes ahead are these. -/
def rdThese : List UInt8 → List UInt8 → Except Int (List UInt8)
  | [], l => .ok l
  | c :: cs, l => match rdByte l with
    | .error e => .error e
    | .ok (u, r) => if u = c then rdThese cs r else .error 4
def rdTitle (l : List UInt8) : Except Int Ti :=
  match rdThese [97, 110, 97, 49] l with
  | .error e => .error e
  | .ok l => match rdByte l with
    | .error e => .error e
    | .ok (k, l) => match rdNum 18446744073709551615 l with
      | .error e => .error e
      | .ok (a, l) => match rdNum 18446744073709551615 l with
        | .error e => .error e
        | .ok (b, l) => if l = [] then .ok ⟨k, a, b⟩ else .error 4

set_option maxHeartbeats 1600000 in
set_option maxRecDepth 100000 in
theorem title_any {R : Ending → World → Prop} {W w : World} {g : Hl} {H : List HP} {a : Option Addr} {n c : Nat} {l : List UInt8} (hs : Sat W w g H) (hp : Pr 1 g (.slice a n c) n (bs l)) (hl : l.length = n)
    (hOK : ∀ t w' g', Hl.le g g' → rdTitle l = .ok t → t.ok → Sat W w' g' H → R (.returned (.tuple #[t.val, .int .i64 0])) w')
    (hE : ∀ e (x y z : Int) w' g', Hl.le g g' → rdTitle l = .error e → e ≠ 0 → Sat W w' g' H → R (.returned (.tuple #[.agg #[.int .u8 x, .int .u64 y, .int .u64 z], .int .i64 e])) w') :
    Calls Tryz.prog 281 #[.slice a n c] w R := by
  have HOK := Lib.hid hOK
  have HE := Lib.hid hE
  clear hOK hE
  refine C.callsD (args := [.slice a n c]) Tryz.func281 rfl rfl rfl ?_
  refine go ?_
  refine E.al hs ?_
  intro b1 w1 hs
  refine go ?_
  refine E.al hs ?_
  intro b2 w2 hs
  refine go ?_
  refine E.callf Tryz.func236 rfl ?_
  refine newTape_any hl hs hp ?_
  intro b3 w3 hs
  refine go ?_
  refine E.bsl hs ?_
  intro b4 w4 hs
  refine go ?_
  apply E.cons
  apply St.markBytes hs
  · exact rfl
  · exact Tryz.underlying33
  · exact Tryz.underlying5
  · exact rfl
  · decide
  intro w5 g5 hg5 hs hp5
  generalize (some ⟨b4, 0, none⟩ : Option Addr) = a5 at hp5 ⊢
  refine gob ?_
  refine C.block ?_
  have hana : ∀ i < 4, ∃ u, ([97, 110, 97, 49] : List UInt8)[i]? = some u ∧ [Value.int .u8 97, .int .u8 110, .int .u8 97, .int .u8 49][i]? = some (.int .u8 u.toNat) ∧ ([97, 110, 97, 49] : List UInt8).drop i = u :: ([97, 110, 97, 49] : List UInt8).drop (i + 1) := by
    intro i hi
    match i, hi with
    | 0, _ => exact ⟨_, rfl, rfl, rfl⟩
    | 1, _ => exact ⟨_, rfl, rfl, rfl⟩
    | 2, _ => exact ⟨_, rfl, rfl, rfl⟩
    | 3, _ => exact ⟨_, rfl, rfl, rfl⟩
  have HA := Lib.hid hana
  clear hana
  refine C.lp (fun x : Nat × List UInt8 => [(2, .pointer (some ⟨b1, 0, none⟩)), (3, .pointer (some ⟨b2, 0, none⟩)), (4, .pointer (some ⟨b3, 0, none⟩)), (10, .slice a5 4 4), (11, .int .i64 4), (12, .int .i64 x.1)])
    (fun gk x w => gk = 4 - x.1 ∧ x.1 ≤ 4 ∧ rdThese (([97, 110, 97, 49] : List UInt8).drop x.1) x.2 = rdThese [97, 110, 97, 49] l ∧ Sat W w g5 (tape b3 x.2 :: blk b2 [.int .i64 0] 34 :: blk b1 [.int .u8 0, .int .u64 0, .int .u64 0] 41 :: H)) 4 (0, l) ⟨rfl, by simp only; omega, rfl, hs⟩ ?_
  clear hs
  rintro gk ⟨i, r⟩ w6 ⟨rfl, hi, ht, hs⟩
  simp only at hi ht hs ⊢
  refine go ?_
  refine C.cond_dec (p := (i : Int) < 4) rfl (fun hlt => ?_) (fun hlt => ?_)
  · obtain ⟨u, hu1, hu2, hu3⟩ := HA.out i (by omega)
    rw [hu3, rdThese] at ht
    refine go ?_
    refine E.ix el_u8 hs hp5 i hu2 ?_
    intro b5 o5 hc5
    refine go ?_
    refine E.callf Tryz.func238 rfl ?_
    refine byte_any hs ?_ ?_
    · intro u' r' w7 he hs
      rw [he] at ht
      simp only [rdByte] at ht
      refine go ?_
      by_cases hu : u' = u
      · subst hu
        refine C.cond rfl (fun h => by simp at h) (fun _ => ?_)
        refine go ?_
        rw [if_pos rfl] at ht
        exact A.rd (4 - (i + 1)) (i + 1, r') ⟨rfl, by simp only; omega, ht, hs⟩
      · have hne : ¬ ((u'.toNat : Int) = u.toNat) := fun h => hu (UInt8.toNat_inj.1 (by omega))
        refine C.cond rfl (fun _ => ?_) (fun h => by simp [hne] at h)
        rw [if_neg hu] at ht
        refine go ?_
        refine E.sto hs ?_
        intro w8 hs
        refine go ?_
        refine E.sto hs ?_
        intro w9 hs
        refine go ?_
        refine L.callf Tryz.func235 (caught_none ?_)
        refine L.c2 rfl rfl rfl (run_lda hs ag_title) (run_ld hs) ?_
        exact HE.out 4 _ _ _ _ _ hg5 (by simp only [rdTitle, ← ht]) (by decide) hs.drop.drop.drop
    · intro he
      rw [he] at ht
      simp only [rdByte] at ht
      refine go ?_
      refine L.callf Tryz.func235 (caught_fault hs up_ ?_)
      intro w7 hs
      refine L.c2 rfl rfl rfl (run_lda hs ag_title) (run_ld hs) ?_
      exact HE.out 5 _ _ _ _ _ hg5 (by simp only [rdTitle, ← ht]) (by decide) hs.drop.drop.drop
  · have h4 : i = 4 := by omega
    subst h4
    have ht : rdThese [97, 110, 97, 49] l = .ok r := ht.symm
    clear hi hlt
    refine go ?_
    refine E.callf Tryz.func238 rfl ?_
    refine byte_any hs ?_ ?_
    rotate_left
    · intro he
      subst he
      refine go ?_
      refine L.callf Tryz.func235 (caught_fault hs up_ ?_)
      intro w7 hs
      refine L.c2 rfl rfl rfl (run_lda hs ag_title) (run_ld hs) ?_
      exact HE.out 5 _ _ _ _ _ hg5 (by simp [rdTitle, ht, rdByte]) (by decide) hs.drop.drop.drop
    intro k r2 w7 he hs
    rw [he] at ht
    refine go ?_
    refine E.callf Tryz.func237 rfl ?_
    refine num_any 18446744073709551615 rfl hs ?_ ?_
    rotate_left
    · intro e w8 h1 hne hs
      refine go ?_
      refine L.callf Tryz.func235 (caught_fault hs up_ ?_)
      intro w7 hs
      refine L.c2 rfl rfl rfl (run_lda hs ag_title) (run_ld hs) ?_
      exact HE.out e _ _ _ _ _ hg5 (by simp [rdTitle, ht, rdByte, h1]) hne hs.drop.drop
    intro x r3 w8 h1 _ hx hs
    refine go ?_
    refine E.callf Tryz.func237 rfl ?_
    refine num_any 18446744073709551615 rfl hs ?_ ?_
    rotate_left
    · intro e w8 h2 hne hs
      refine go ?_
      refine L.callf Tryz.func235 (caught_fault hs up_ ?_)
      intro w7 hs
      refine L.c2 rfl rfl rfl (run_lda hs ag_title) (run_ld hs) ?_
      exact HE.out e _ _ _ _ _ hg5 (by simp [rdTitle, ht, rdByte, h1, h2]) hne hs.drop.drop
    intro y r4 w9 h2 _ hy hs
    refine go ?_
    refine E.sto hs ?_
    intro w10 hs
    refine go ?_
    refine E.callf Tryz.func242 rfl ?_
    refine done_any hs ?_ ?_
    rotate_left
    · intro hne
      refine go ?_
      refine L.callf Tryz.func235 (caught_fault hs up_ ?_)
      intro w7 hs
      refine L.c2 rfl rfl rfl (run_lda hs ag_title) (run_ld hs) ?_
      exact HE.out 4 _ _ _ _ _ hg5 (by simp [rdTitle, ht, rdByte, h1, h2, hne]) (by decide) hs.drop.drop.drop
    intro he
    rw [he] at h2
    refine go ?_
    refine E.lda hs ag_title ?_
    refine go ?_
    refine E.sto hs ?_
    intro w11 hs
    refine go ?_
    refine E.sto hs ?_
    intro w12 hs
    refine go ?_
    refine L.callf Tryz.func235 (caught_none ?_)
    refine L.c2 rfl rfl rfl (run_lda hs ag_title) (run_ld hs) ?_
    exact HOK.out ⟨k, x, y⟩ _ _ hg5 (by simp [rdTitle, ht, rdByte, h1, h2]) ⟨hx, hy⟩ hs.drop.drop.drop

theorem rdTitle_titleB (t : Ti) (ht : t.ok) : rdTitle (titleB t) = .ok t := by
  obtain ⟨h1, h2⟩ := ht
  have e1 := rdNum_lay 18446744073709551615 t.a h1 (by omega) (layN t.b)
  have e2 := rdNum_lay 18446744073709551615 t.b h2 (by omega) []
  simp only [List.append_nil] at e2
  simp [rdTitle, titleB, rdThese, rdByte, e1, e2]

end Go.Proofs.YtdkbpcibmipelaaGreatDoor

/-
  Layer 3 (check): the walk of the records ahead.
-/
namespace Go.Proofs.YtdkbpcibmipelaaGreatDoor
open Go.RowKit
set_option linter.unusedVariables false
set_option linter.unusedSimpArgs false

structure AS where
  ps : List (Value × List UInt8)
  la : Option Addr
  lc : Nat
  ra : Option Addr
  rn : Nat
  rc : Nat
  g : Hl

set_option maxHeartbeats 1600000 in
set_option maxRecDepth 100000 in
theorem all_any {R : Ending → World → Prop} {W w : World} {g : Hl} {H : List HP} {a : Option Addr} {n c : Nat} {l : List UInt8} (most : Nat) {mi : Int} (hmi : mi = most) (hmost : most ≤ 1000000000) (hs : Sat W w g H) (hp : Pr 1 g (.slice a n c) n (bs l)) (hl : l.length = n) (hn : n ≤ 1000000000)
    (hR : ∀ ps k e a' c' g' w', Hl.le g g' → Rws g' ps → allB most (n + 1) l = (ps.map Prod.snd, k, e) → k ≤ n → (e = 0 ∨ e = 4 ∨ e = 5 ∨ e = 6) → Sat W w' g' (own 33 1 (.slice a' ps.length c') ps.length (ps.map Prod.fst) :: H) → R (.returned (.tuple #[.slice a' ps.length c', .int .i64 (k : Nat), .int .i64 e])) w') :
    Calls Tryz.prog 282 #[.slice a n c, .int .i64 mi] w R := by
  subst hmi
  have HR := Lib.hid hR
  clear hR
  refine C.calls (args := [.slice a n c, .int .i64 most]) Tryz.func282 rfl rfl rfl ?_
  refine go ?_
  have rw0 : Rws g ([] : List (Value × List UInt8)) := fun p hp => by simp at hp
  have al0 : ∀ r k e, allB most (n + 1) (l.drop (n - n)) = (r, k, e) → allB most (n + 1) l = (([] : List (Value × List UInt8)).map Prod.snd ++ r, n - n + k, e) := fun r k e h => by simpa using h
  refine C.loop (fun x : AS => [(0, .slice a n c), (1, .int .i64 most), (7, .slice x.la x.ps.length x.lc), (8, .slice x.ra x.rn x.rc)])
    (fun gk x w => gk = x.rn ∧ Hl.le g x.g ∧ Rws x.g x.ps ∧ x.rn + x.ps.length ≤ n ∧ Pr 1 x.g (.slice x.ra x.rn x.rc) x.rn (bs (l.drop (n - x.rn))) ∧ Sat W w x.g (own 33 1 (.slice x.la x.ps.length x.lc) x.ps.length (x.ps.map Prod.fst) :: H) ∧
      (∀ r k e, allB most (x.rn + 1) (l.drop (n - x.rn)) = (r, k, e) → allB most (n + 1) l = (x.ps.map Prod.snd ++ r, n - x.rn + k, e))) n ⟨[], none, 0, a, n, c, g⟩ wk_ ⟨rfl, Hl.le_refl g, rw0, by simp, by simpa using hp, hs.nilOwn, al0⟩ ?_
  clear hs
  rintro rn ⟨ps, la, lc, ra, rn, rc, g1⟩ w1 ⟨rfl, hg1, hps, hrl, hpr, hs, hall⟩
  simp only at hg1 hps hrl hpr hs hall ⊢
  refine go ?_
  refine C.cond_dec (p := (0 : Int) < rn) rfl (fun hlt => ?_) (fun hlt => ?_)
  · have hrl2 : (l.drop (n - rn)).length = rn := by rw [List.length_drop]; omega
    have hne : l.drop (n - rn) ≠ [] := fun e => by rw [e] at hrl2; simp at hrl2; omega
    refine go ?_
    refine E.callf Tryz.func280 rfl ?_
    refine open_any most rfl hmost hs hpr hrl2 (by omega) ?_ ?_
    · intro v k b' o' c' a2 c2 w2 ho hk hkv hv hs hp2
      obtain ⟨g2, hg2, hpb, hs⟩ := hs.publishOwn
      refine go ?_
      refine E.bsl hs ?_
      intro b3 w3 hs
      apply E.cons
      apply St.append el_row hs.swap (hs.rowOf (size := 1) 1 rfl (by decide)) (by intro u hu; simp only [List.mem_singleton] at hu; subst hu; rfl) (by omega) (by omega)
      · exact rfl
      · exact rfl
      intro a4 c4 w4 _ _ hs
      refine go ?_
      have hv2 : ((l.drop (n - rn)).drop k).take v = (l.drop (n - rn + k)).take v := by rw [List.drop_drop]
      have hd2 : (l.drop (n - rn)).drop (k + v + 4) = l.drop (n - (rn - (k + v + 4))) := by
        rw [List.drop_drop]
        congr 1
        omega
      have hbl : (((l.drop (n - rn)).drop k).take v).length = v := by rw [List.length_take, List.length_drop, hrl2]; omega
      have e3 : ps.length + 1 = (ps ++ [(Value.slice a2 v c2, ((l.drop (n - rn)).drop k).take v)]).length := by simp
      have e1 : ps.map Prod.fst ++ [Value.slice a2 v c2] = (ps ++ [(Value.slice a2 v c2, ((l.drop (n - rn)).drop k).take v)]).map Prod.fst := by simp
      have hs := hs.swap.drop
      rw [e1, e3] at hs
      rw [e3]
      rw [hd2] at hp2
      refine A.round (rn - (k + v + 4)) ⟨_, a4, c4, _, rn - (k + v + 4), _, g2⟩ (by omega) wk_ ⟨rfl, hg1.trans hg2, ?_, ?_, hp2.mono hg2, hs, ?_⟩
      · intro p hp
        rcases List.mem_append.1 hp with hp | hp
        · exact (hps p hp).mono hg2
        · simp only [List.mem_singleton] at hp
          subst hp
          simp only [hbl]
          exact hpb
      · simp only [List.length_append, List.length_cons, List.length_nil]
        omega
      · intro r k2 e2 h2
        simp only at h2 ⊢
        have h3 : allB most rn (l.drop (n - (rn - (k + v + 4)))) = (r, k2, e2) := by
          rw [← h2]
          refine allB_fuel most _ _ _ ?_ ?_ <;> (rw [List.length_drop]; omega)
        have := hall ((((l.drop (n - rn)).drop k).take v) :: r) (k + v + 4 + k2) e2 (by
          simp only [allB]
          rw [if_neg hne, ho]
          simp only
          rw [hd2, h3])
        rw [this]
        simp only [List.map_append, List.map_cons, List.map_nil, List.append_assoc, List.singleton_append, Prod.mk.injEq, true_and, and_true]
        omega
    · intro e w2 ho he hs
      have hall' := hall [] 0 e (by simp only [allB]; rw [if_neg hne, ho])
      rcases he with rfl | rfl | rfl
      all_goals
        refine go ?_
        refine A.r3 ?_
        rw [show (n : Int) - rn = ((n - rn + 0 : Nat) : Int) by omega]
        refine HR.out ps (n - rn + 0) _ _ _ g1 _ hg1 hps ?_ (by omega) (by omega) hs
        simpa using hall'
  · refine go ?_
    refine A.r3 ?_
    have h0 : rn = 0 := by omega
    have hd : l.drop (n - rn) = [] := List.drop_eq_nil_of_le (by omega)
    have hall' := hall [] 0 0 (by simp only [allB]; rw [if_pos hd])
    refine HR.out ps n _ _ _ g1 _ hg1 hps ?_ (by omega) (by omega) hs
    rw [hall', h0]
    simp

end Go.Proofs.YtdkbpcibmipelaaGreatDoor

/-
  Layer 5 (sheet): Scan, Begin, Add, Read, Mend.
-/
namespace Go.Proofs.YtdkbpcibmipelaaGreatDoor
open Go.RowKit
set_option linter.unusedVariables false
set_option linter.unusedSimpArgs false

theorem ag_sheet : AggOf Tryz.prog 151 6 := ⟨_, Tryz.underlying151, rfl, by kernel_rfl⟩

structure Sh where
  t : Ti
  l : List (List UInt8)
  good : Nat
  e : Int
/-- A row of rows of bytes, the pool's. -/
def LB (g : Hl) (a : Option Addr) (n c : Nat) (ls : List (List UInt8)) : Prop := ∃ ps : List (Value × List UInt8), ps.map Prod.snd = ls ∧ ps.length = n ∧ Rws g ps ∧ Pr 1 g (.slice a n c) n (ps.map Prod.fst)
theorem LB.mono {g g' : Hl} {a : Option Addr} {n c : Nat} {ls : List (List UInt8)} (h : LB g a n c ls) (hg : Hl.le g g') : LB g' a n c ls := by
  obtain ⟨ps, h1, h2, h3, h4⟩ := h
  exact ⟨ps, h1, h2, h3.mono hg, h4.mono hg⟩
theorem LB.len {g : Hl} {a : Option Addr} {n c : Nat} {ls : List (List UInt8)} (h : LB g a n c ls) : ls.length = n := by
  obtain ⟨ps, h1, h2, h3, h4⟩ := h
  rw [← h1]; simpa using h2
def Ti.cs (t : Ti) : List Value := [.int .u8 t.kind.toNat, .int .u64 t.a, .int .u64 t.b]
/-- A sheet's cells. -/
def Sh.cs (s : Sh) (a : Option Addr) (c : Nat) : List Value := [.int .u8 s.t.kind.toNat, .int .u64 s.t.a, .int .u64 s.t.b, .slice a s.l.length c, .int .i64 s.good, .int .i64 s.e]
def noSh : Value := .agg #[.int .u8 0, .int .u64 0, .int .u64 0, .slice none 0 0, .int .i64 0, .int .i64 0]

def allC (l : List UInt8) : List (List UInt8) × Nat × Int := allB 2097152 (l.length + 1) l
def scanB (l : List UInt8) : Except Int Sh :=
  match openB l 2097152 with
  | .error e => .error e
  | .ok (k, v) => match rdTitle ((l.drop k).take v) with
    | .error e => .error e
    | .ok t => .ok ⟨t, (allC (l.drop (k + v + 4))).1, k + v + 4 + (allC (l.drop (k + v + 4))).2.1, (allC (l.drop (k + v + 4))).2.2⟩

set_option maxHeartbeats 1600000 in
set_option maxRecDepth 100000 in
theorem scan_any {R : Ending → World → Prop} {W w : World} {g : Hl} {H : List HP} {a : Option Addr} {n c : Nat} {l : List UInt8} (hs : Sat W w g H) (hp : Pr 1 g (.slice a n c) n (bs l)) (hl : l.length = n) (hn : n ≤ 1000000000)
    (hOK : ∀ s a' c' w' g', scanB l = .ok s → s.t.ok → (s.e = 0 ∨ s.e = 4 ∨ s.e = 5 ∨ s.e = 6) → s.good ≤ n → Hl.le g g' → LB g' a' s.l.length c' s.l → Sat W w' g' H → R (.returned (.tuple #[.agg (s.cs a' c').toArray, .int .i64 0])) w')
    (hE : ∀ e w' g', scanB l = .error e → e ≠ 0 → Hl.le g g' → Sat W w' g' H → R (.returned (.tuple #[noSh, .int .i64 e])) w') :
    Calls Tryz.prog 234 #[.slice a n c] w R := by
  have HOK := Lib.hid hOK
  have HE := Lib.hid hE
  clear hOK hE
  refine C.calls (args := [.slice a n c]) Tryz.func234 rfl rfl rfl ?_
  refine go ?_
  refine E.al hs ?_
  intro b1 w1 hs
  refine go ?_
  refine E.callf Tryz.func280 rfl ?_
  refine open_any 2097152 rfl (by decide) hs hp hl (by omega) ?_ ?_
  rotate_left
  · intro e w2 ho he hs
    have hne : e ≠ 0 := by omega
    have hd : (!decide (e = 0)) = true := by simp [hne]
    refine go ?_
    refine C.cond rfl (fun _ => ?_) (fun h => by rw [hd] at h; cases h)
    refine go ?_
    refine E.sto hs ?_
    intro w3 hs
    refine go ?_
    refine A.c1t1 rfl rfl rfl (run_lda hs ag_sheet) ?_
    exact HE.out e _ _ (by simp only [scanB, ho]) hne (Hl.le_refl _) hs.drop
  intro v k b' o' c' a2 c2 w2 ho hk hkv hv hs hp2
  obtain ⟨g2, hg2, hpb, hs⟩ := hs.publishOwn
  have hbl : ((l.drop k).take v).length = v := by rw [List.length_take, List.length_drop]; omega
  refine go ?_
  refine E.callf Tryz.func281 rfl ?_
  refine title_any hs hpb hbl ?_ ?_
  rotate_left
  · intro e x y z w3 g3 hg3 ht hne hs
    have hd : (!decide (e = 0)) = true := by simp [hne]
    refine go ?_
    refine E.al hs ?_
    intro b2 w4 hs
    refine go ?_
    refine E.sto hs ?_
    intro w5 hs
    refine go ?_
    refine C.cond rfl (fun _ => ?_) (fun h => by rw [hd] at h; cases h)
    refine go ?_
    refine E.sto hs ?_
    intro w6 hs
    refine go ?_
    refine A.c1t1 rfl rfl rfl (run_lda hs ag_sheet) ?_
    exact HE.out e _ _ (by simp only [scanB, ho, ht]) hne (hg2.trans hg3) hs.drop.drop
  intro t w3 g3 hg3 ht htok hs
  obtain ⟨kd, ta, tb⟩ := t
  simp only [Ti.val]
  refine go ?_
  refine E.al hs ?_
  intro b2 w4 hs
  refine go ?_
  refine E.sto hs ?_
  intro w5 hs
  refine go ?_
  have hp3 := (hp2.mono (hg2.trans hg3))
  have hl3 : (l.drop (k + v + 4)).length = n - (k + v + 4) := by rw [List.length_drop, hl]
  refine E.callf Tryz.func282 rfl ?_
  refine all_any 2097152 rfl (by decide) hs hp3 hl3 (by omega) ?_
  intro ps m e a' c'' g4 w6 hg4 hrw hall hmn he hs
  obtain ⟨g5, hg5, hpl, hs⟩ := hs.publishOwn
  refine go ?_
  refine E.lda hs ag_title ?_
  refine go ?_
  refine E.sto hs ?_
  intro w7 hs
  refine go ?_
  refine A.c1t1 rfl rfl rfl (run_lda hs ag_sheet) ?_
  have hall' : allC (l.drop (k + v + 4)) = (ps.map Prod.snd, m, e) := by
    unfold allC; rw [hl3]; exact hall
  have e1 : ps.length = (ps.map Prod.snd).length := by simp
  have key := HOK.out ⟨⟨kd, ta, tb⟩, ps.map Prod.snd, k + v + 4 + m, e⟩ a' c'' w7 g5 (by simp only [scanB, ho, ht, hall']) htok he (by simp only; omega) (((hg2.trans hg3).trans hg4).trans hg5) ⟨ps, rfl, by simp, hrw.mono hg5, by rw [← e1]; exact hpl⟩ hs.drop.drop
  have e2 : ((n : Int) - ((n - (k + v + 4) : Nat) : Int)) + m = ((k + v + 4 + m : Nat) : Int) := by omega
  simp only [Sh.cs, ← e1, ← e2] at key
  exact key

theorem titleB_len {t : Ti} (ht : t.ok) : (titleB t).length ≤ 25 := by
  have h1 := layN_ten ht.1
  have h2 := layN_ten ht.2
  simp [titleB]; omega
theorem headB_len {t : Ti} (ht : t.ok) : (headB t).length ≤ 39 := by
  have := titleB_len ht
  have := wrapB_len (titleB t) (by omega)
  unfold headB; omega

/-- How 'Begin' goes. -/
def Dk.begin (d : Dk) (name : List UInt8) (t : Ti) : Int × Dk :=
  match d.read name with
  | .ok _ => (10, d)
  | .error _ => if (d.append name (headB t)).1 = 0 then (d.append name (headB t)).2.sync name else d.append name (headB t)
/-- How 'Add' goes. -/
def Dk.add (d : Dk) (name p : List UInt8) : Int × Dk := if 2097152 < p.length then (6, d) else d.append name (wrapB p)

set_option maxHeartbeats 1600000 in
set_option maxRecDepth 100000 in
theorem begin_any {R : Ending → World → Prop} {W w : World} {g : Hl} {H : List HP} {b : Nat} {d : Dk} {name : List UInt8} {t : Ti} (ht : t.ok) (hs : Sat W w g (disk b d :: H))
    (hR : ∀ w' g', Hl.le g g' → Sat W w' g' (disk b (d.begin name t).2 :: H) → R (.returned (.int .i64 (d.begin name t).1)) w') :
    Calls Tryz.prog 154 #[ptr b, str name, t.val] w R := by
  have HR := Lib.hid hR
  clear hR
  refine C.calls (args := [ptr b, str name, t.val]) Tryz.func154 rfl rfl rfl ?_
  refine go ?_
  refine E.bx hs ?_
  intro b1 w1 hs
  have hs : Sat W w1 g (blk b1 t.cs 41 :: disk b d :: H) := hs
  refine go ?_
  refine E.callf Tryz.func19 rfl ?_
  refine read_any hs.swap ?_ ?_
  · intro p a c w2 g2 hrd hpl hg2 hp hs
    refine go ?_
    refine A.r1 ?_
    have key := HR.out w2 g2 hg2
    simp only [Dk.begin, hrd] at key
    exact key (hs.swap.drop)
  · intro e w2 hrd hne hs
    have key := HR.out
    simp only [Dk.begin, hrd] at key
    have hd : decide (e = 0) = false := by simp [hne]
    refine go ?_
    refine C.cond rfl (fun h => by rw [hd] at h; cases h) (fun _ => ?_)
    refine go ?_
    refine E.lda hs ag_title ?_
    refine go ?_
    refine E.callf Tryz.func21 rfl ?_
    refine head_any hs ht ?_
    intro a c w3 g3 hg3 hs
    obtain ⟨g4, hg4, hp, hs⟩ := hs.publishOwn
    refine go ?_
    have hhl := headB_len ht
    refine E.callf Tryz.func32 rfl ?_
    refine append_any hs hp rfl (by omega) ?_
    intro w4 hs
    refine go ?_
    by_cases h0 : (d.append name (headB t)).1 = 0
    · rw [h0]
      simp only [h0, if_true] at key
      refine go ?_
      refine E.callf Tryz.func108 rfl ?_
      refine sync_any hs ?_
      intro w5 hs
      refine go ?_
      refine A.r1 ?_
      exact key _ _ (hg3.trans hg4) hs.swap.drop
    · have hd : (!decide ((d.append name (headB t)).1 = 0)) = true := by simp [h0]
      simp only [h0, if_false] at key
      refine C.cond rfl (fun _ => ?_) (fun h => by rw [hd] at h; cases h)
      refine go ?_
      refine A.r1 ?_
      exact key _ _ (hg3.trans hg4) hs.swap.drop

set_option maxHeartbeats 1600000 in
set_option maxRecDepth 100000 in
theorem add_any {R : Ending → World → Prop} {W w : World} {g : Hl} {H : List HP} {b n c : Nat} {a : Option Addr} {d : Dk} {name p : List UInt8} (hs : Sat W w g (disk b d :: H)) (hp : Pr 1 g (.slice a n c) n (bs p)) (hn : p.length = n)
    (hR : ∀ w' g', Hl.le g g' → Sat W w' g' (disk b (d.add name p).2 :: H) → R (.returned (.int .i64 (d.add name p).1)) w') :
    Calls Tryz.prog 30 #[ptr b, str name, .slice a n c] w R := by
  have HR := Lib.hid hR
  clear hR
  refine C.calls (args := [ptr b, str name, .slice a n c]) Tryz.func30 rfl rfl rfl ?_
  refine go ?_
  have key := HR.out
  simp only [Dk.add, hn] at key
  refine C.cond_dec (p := (2097152 : Int) < n) rfl (fun h => ?_) (fun h => ?_)
  · refine go ?_
    refine A.r1 ?_
    rw [if_pos (by omega)] at key
    exact key _ _ (Hl.le_refl _) hs
  · rw [if_neg (by omega)] at key
    refine go ?_
    refine E.callf Tryz.func93 rfl ?_
    refine wrap_any hs hp hn (by omega) ?_
    intro a2 c2 w2 hs
    obtain ⟨g4, hg4, hp4, hs⟩ := hs.publishOwn
    have hwl := wrapB_len p (by omega)
    refine go ?_
    refine E.callf Tryz.func32 rfl ?_
    refine append_any hs hp4 rfl (by omega) ?_
    intro w4 hs
    refine go ?_
    refine A.r1 ?_
    exact key _ _ hg4 hs

/-- How 'Read' goes. -/
def Dk.sheet (d : Dk) (name : List UInt8) : Except Int Sh :=
  match d.read name with
  | .error e => .error e
  | .ok p => scanB p

set_option maxHeartbeats 1600000 in
set_option maxRecDepth 100000 in
theorem sread_any {R : Ending → World → Prop} {W w : World} {g : Hl} {H : List HP} {b : Nat} {d : Dk} {name : List UInt8} (hs : Sat W w g (disk b d :: H))
    (hOK : ∀ s a' c' w' g', d.sheet name = .ok s → s.t.ok → (s.e = 0 ∨ s.e = 4 ∨ s.e = 5 ∨ s.e = 6) → s.good ≤ 1000000000 → Hl.le g g' → LB g' a' s.l.length c' s.l → Sat W w' g' (disk b d :: H) → R (.returned (.tuple #[.agg (s.cs a' c').toArray, .int .i64 0])) w')
    (hE : ∀ e w' g', d.sheet name = .error e → e ≠ 0 → Hl.le g g' → Sat W w' g' (disk b d :: H) → R (.returned (.tuple #[noSh, .int .i64 e])) w') :
    Calls Tryz.prog 166 #[ptr b, str name] w R := by
  have HOK := Lib.hid hOK
  have HE := Lib.hid hE
  clear hOK hE
  refine C.calls (args := [ptr b, str name]) Tryz.func166 rfl rfl rfl ?_
  refine go ?_
  refine E.al hs ?_
  intro b1 w1 hs
  refine go ?_
  refine E.callf Tryz.func19 rfl ?_
  refine read_any hs.swap ?_ ?_
  rotate_left
  · intro e w2 hrd hne hs
    have hd : (!decide (e = 0)) = true := by simp [hne]
    refine go ?_
    refine C.cond rfl (fun _ => ?_) (fun h => by rw [hd] at h; cases h)
    refine go ?_
    refine E.sto hs ?_
    intro w3 hs
    refine go ?_
    refine A.c1t1 rfl rfl rfl (run_lda hs ag_sheet) ?_
    exact HE.out e _ _ (by simp only [Dk.sheet, hrd]) hne (Hl.le_refl _) hs.swap.drop
  intro p a c w2 g2 hrd hpl hg2 hp hs
  refine go ?_
  refine E.callf Tryz.func234 rfl ?_
  refine scan_any hs hp rfl (by omega) ?_ ?_
  rotate_left
  · intro e w3 g3 hsc hne hg3 hs
    simp only [noSh]
    refine go ?_
    refine E.sto hs ?_
    intro w4 hs
    refine go ?_
    refine A.c1t1 rfl rfl rfl (run_lda hs ag_sheet) ?_
    exact HE.out e _ _ (by simp only [Dk.sheet, hrd, hsc]) hne (hg2.trans hg3) hs.swap.drop
  intro s a3 c3 w3 g3 hsc htok he hgd hg3 hlb hs
  refine go ?_
  refine E.sto (vs := s.cs a3 c3) hs ?_
  intro w4 hs
  have hs : Sat W w4 g3 (disk b d :: blk b1 (s.cs a3 c3) 151 :: H) := hs
  refine go ?_
  refine A.c1t1 rfl rfl rfl (run_lda hs ag_sheet) ?_
  exact HOK.out s a3 c3 _ _ (by simp only [Dk.sheet, hrd, hsc]) htok he (by omega) (hg2.trans hg3) hlb hs.swap.drop

/-- How 'Mend' goes. -/
def Dk.mend (d : Dk) (name : List UInt8) : Except Int Sh × Dk :=
  match d.sheet name with
  | .error e => (.error e, d)
  | .ok s => if s.e = 0 then (.ok s, d) else
    if (d.cut name s.good).1 = 0 then (.ok { s with e := 0 }, (d.cut name s.good).2) else (.error (d.cut name s.good).1, (d.cut name s.good).2)

set_option maxHeartbeats 1600000 in
set_option maxRecDepth 100000 in
theorem mend_any {R : Ending → World → Prop} {W w : World} {g : Hl} {H : List HP} {b : Nat} {d : Dk} {name : List UInt8} (hs : Sat W w g (disk b d :: H))
    (hOK : ∀ s a' c' w' g', (d.mend name).1 = .ok s → s.t.ok → s.e = 0 → s.good ≤ 1000000000 → Hl.le g g' → LB g' a' s.l.length c' s.l → Sat W w' g' (disk b (d.mend name).2 :: H) → R (.returned (.tuple #[.agg (s.cs a' c').toArray, .int .i64 0])) w')
    (hE : ∀ e w' g', (d.mend name).1 = .error e → e ≠ 0 → Hl.le g g' → Sat W w' g' (disk b (d.mend name).2 :: H) → R (.returned (.tuple #[noSh, .int .i64 e])) w') :
    Calls Tryz.prog 90 #[ptr b, str name] w R := by
  have HOK := Lib.hid hOK
  have HE := Lib.hid hE
  clear hOK hE
  refine C.calls (args := [ptr b, str name]) Tryz.func90 rfl rfl rfl ?_
  refine go ?_
  refine E.al hs ?_
  intro b1 w1 hs
  refine go ?_
  refine E.callf Tryz.func166 rfl ?_
  refine sread_any hs.swap ?_ ?_
  rotate_left
  · intro e w2 g2 hsh hne hg2 hs
    have hd : (!decide (e = 0)) = true := by simp [hne]
    simp only [noSh]
    refine go ?_
    refine E.al hs ?_
    intro b2 w3 hs
    refine go ?_
    refine E.sto hs ?_
    intro w4 hs
    refine go ?_
    rw [hd]
    refine go ?_
    refine E.lda hs ag_sheet ?_
    refine go ?_
    refine E.sto hs ?_
    intro w5 hs
    refine go ?_
    refine A.c1t1 rfl rfl rfl (run_lda hs ag_sheet) ?_
    have key := HE.out e w5 g2
    simp only [Dk.mend, hsh] at key
    exact key trivial hne hg2 hs.drop.swap.drop
  intro s a3 c3 w3 g3 hsc htok he hgd hg3 hlb hs
  obtain ⟨⟨kd, ta, tb⟩, l, good, er⟩ := s
  simp only [Sh.cs] at hs htok he hgd hlb ⊢
  have kOK := HOK.out
  have kE := HE.out
  simp only [Dk.mend, hsc] at kOK kE
  refine go ?_
  refine E.al hs ?_
  intro b2 w4 hs
  refine go ?_
  refine E.sto hs ?_
  intro w5 hs
  refine go ?_
  by_cases h0 : er = 0
  · subst h0
    refine go ?_
    refine E.lda hs ag_sheet ?_
    refine go ?_
    refine E.sto hs ?_
    intro w6 hs
    refine go ?_
    refine A.c1t1 rfl rfl rfl (run_lda hs ag_sheet) ?_
    simp only [if_true] at kOK
    exact kOK _ a3 c3 w6 g3 rfl htok rfl hgd hg3 hlb hs.drop.swap.drop
  · have hd : decide (er = 0) = false := by simp [h0]
    refine C.cond rfl (fun h => by rw [hd] at h; cases h) (fun _ => ?_)
    refine go ?_
    simp only [h0, if_false] at kOK kE
    refine E.callf Tryz.func27 rfl ?_
    refine cut_any hs.swap ?_
    intro w6 hs
    refine go ?_
    by_cases hc : (d.cut name good).1 = 0
    · rw [hc]
      simp only [hc, if_true] at kOK
      refine go ?_
      refine E.sto hs ?_
      intro w7 hs
      refine go ?_
      refine E.lda hs ag_sheet ?_
      refine go ?_
      refine E.sto hs ?_
      intro w8 hs
      refine go ?_
      refine A.c1t1 rfl rfl rfl (run_lda hs ag_sheet) ?_
      exact kOK _ a3 c3 w8 g3 rfl htok rfl hgd hg3 hlb hs.swap.drop.swap.drop
    · have hd : (!decide ((d.cut name good).1 = 0)) = true := by simp [hc]
      simp only [hc, if_false] at kE
      refine C.cond rfl (fun _ => ?_) (fun h => by rw [hd] at h; cases h)
      refine go ?_
      refine E.sto hs ?_
      intro w7 hs
      refine go ?_
      refine A.c1t1 rfl rfl rfl (run_lda hs ag_sheet) ?_
      exact kE _ w7 g3 rfl hc hg3 hs.swap.drop.swap.drop
end Go.Proofs.YtdkbpcibmipelaaGreatDoor
