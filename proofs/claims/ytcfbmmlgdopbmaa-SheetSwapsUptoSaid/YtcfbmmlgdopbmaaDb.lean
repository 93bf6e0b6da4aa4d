/-
  Layer 4 (disk): which names a file may have.
-/
import Derived.Test.YtcfbmmlgdopbmaaDa
namespace Go.Proofs.Ytcfbmmlgdopbmaa
open Go.RowKit
set_option linter.unusedVariables false
set_option linter.unusedSimpArgs false

/-- May a name have that byte? -/
def okB (b : UInt8) : Bool := (97 ≤ b.toNat && b.toNat ≤ 122) || (48 ≤ b.toNat && b.toNat ≤ 57) || b.toNat == 46 || b.toNat == 45
def namedB (l : List UInt8) : Bool := !l.isEmpty && decide (l.length ≤ 48) && l.all okB
/-- A character that no name has. -/
def badR (c : Int) : Bool := (decide (c < 97) || decide (122 < c)) && (decide (c < 48) || decide (57 < c)) && !decide (c = 46) && !decide (c = 45)
theorem badR_okB (b : UInt8) : badR b.toNat = !okB b := by
  have : ∀ n : Fin 256, badR (n.val : Nat) = !((97 ≤ n.val && n.val ≤ 122) || (48 ≤ n.val && n.val ≤ 57) || n.val == 46 || n.val == 45) := by decide +kernel
  exact this ⟨b.toNat, b.toNat_lt⟩
theorem badR_big {c : Nat} (h : 128 ≤ c) : badR c = true := by
  have h1 : decide ((122 : Int) < c) = true := by simp; omega
  have h2 : decide ((57 : Int) < c) = true := by simp; omega
  have h3 : decide ((c : Int) = 46) = false := by simp; omega
  have h4 : decide ((c : Int) = 45) = false := by simp; omega
  simp [badR, h1, h2, h3, h4]

set_option maxHeartbeats 1600000 in
set_option maxRecDepth 100000 in
theorem badR_any {R : Ending → World → Prop} {w : World} (c : Int) (hR : R (.returned (.bool (badR c))) w) : Calls Try.prog 55 #[.int .i32 c] w R := by
  have HR := Lib.hid hR
  clear hR
  refine C.calls (args := [.int .i32 c]) Try.func55 rfl rfl rfl ?_
  refine go ?_
  cases h1 : decide (c < 97)
  · refine go ?_
    cases h2 : decide (122 < c)
    · refine go ?_
      refine A.r1 ?_
      have := HR.out
      simpa [badR, h1, h2] using this
    · refine go ?_
      have h3 : decide (c < 48) = false := by simp at h2 ⊢; omega
      rw [h3]
      refine go ?_
      have h4 : decide (57 < c) = true := by simp at h2 ⊢; omega
      rw [h4]
      refine go ?_
      have h5 : decide (c = 46) = false := by simp at h2 ⊢; omega
      rw [h5]
      refine go ?_
      have h6 : decide (c = 45) = false := by simp at h2 ⊢; omega
      rw [h6]
      refine go ?_
      refine A.r1 ?_
      have := HR.out
      simpa [badR, h1, h2, h3, h4, h5, h6] using this
  · refine go ?_
    cases h3 : decide (c < 48)
    · refine go ?_
      cases h4 : decide (57 < c)
      · refine go ?_
        refine A.r1 ?_
        have := HR.out
        simpa [badR, h1, h3, h4] using this
      · refine go ?_
        have h5 : decide (c = 46) = false := by simp at h4 ⊢; omega
        rw [h5]
        refine go ?_
        have h6 : decide (c = 45) = false := by simp at h4 ⊢; omega
        rw [h6]
        refine go ?_
        refine A.r1 ?_
        have := HR.out
        simpa [badR, h1, h3, h4, h5, h6] using this
    · refine go ?_
      cases h5 : decide (c = 46)
      · refine go ?_
        cases h6 : decide (c = 45)
        · refine go ?_
          refine A.r1 ?_
          have := HR.out
          simpa [badR, h1, h3, h5, h6] using this
        · refine go ?_
          refine A.r1 ?_
          have := HR.out
          simpa [badR, h1, h3, h5, h6] using this
      · refine go ?_
        refine A.r1 ?_
        have := HR.out
        simpa [badR, h1, h3, h5] using this

theorem get_str (l : List UInt8) (i : Nat) (h : i < l.length) : (ByteArray.mk l.toArray).get! i = l[i] := by
  simp [ByteArray.get!, h]
theorem decode_ascii (l : List UInt8) (i : Nat) (h : i < l.length) (hb : l[i].toNat < 128) : Utf8.decode ⟨l.toArray⟩ i = (l[i].toNat, 1) := by
  simp only [Utf8.decode, Nat.add_zero, get_str l i h]
  rw [if_pos hb]
theorem decode_big (l : List UInt8) (i : Nat) (h : i < l.length) (hb : ¬ l[i].toNat < 128) : 128 ≤ (Utf8.decode ⟨l.toArray⟩ i).1 := by
  simp only [Utf8.decode, Nat.add_zero, get_str l i h]
  rw [if_neg hb]
  have hr : 128 ≤ Utf8.runeError := by decide
  repeat' split
  all_goals (first | exact hr | (rename_i h; simp only [ge_iff_le, Bool.and_eq_true, decide_eq_true_eq] at h; simp only; omega))
/-- The first place whose character no name has. -/
def badAt : List UInt8 → Nat → Option Nat
  | [], _ => none
  | b :: r, i => if okB b then badAt r (i + 1) else some i
theorem badAt_all : ∀ (l : List UInt8) (i : Nat), (badAt l i = none ↔ l.all okB = true)
  | [], _ => by simp [badAt]
  | b :: r, i => by
    simp only [badAt]
    split
    · rename_i h; rw [badAt_all r (i + 1)]; simp [h]
    · rename_i h; simp [h]
theorem okB_lt {b : UInt8} (h : okB b = true) : b.toNat < 128 := by
  simp only [okB, Bool.or_eq_true, Bool.and_eq_true, decide_eq_true_eq, beq_iff_eq] at h
  omega

set_option maxHeartbeats 1600000 in
set_option maxRecDepth 100000 in
theorem indexFunc_bad {R : Ending → World → Prop} {W w : World} {g : Hl} {H : List HP} (l : List UInt8) (hl : l.length ≤ 1000) (hs : Sat W w g H)
    (hR : ∀ w' i, Sat W w' g H → (0 ≤ i ↔ l.all okB = false) → R (.returned (.int .i64 i)) w') : Calls Try.prog 73 #[str l, .func (.func 55) #[] #[], .bool true] w R := by
  have HR := Lib.hid hR
  clear hR
  refine C.calls (args := [str l, .func (.func 55) #[] #[], .bool true]) Try.func73 rfl rfl rfl ?_
  refine go ?_
  refine E.ranges hs ?_
  intro r w1 hs
  refine gob ?_
  refine C.block ?_
  refine C.lp (fun i : Nat => [(0, str l), (1, .func (.func 55) #[] #[]), (2, .bool true), (10, .pointer (some ⟨r, 0, none⟩))])
    (fun gk i w => gk = l.length - i ∧ i ≤ l.length ∧ (l.take i).all okB = true ∧ Sat W w g (obj r (.stringIter ⟨l.toArray⟩ i) :: H)) l.length 0 ⟨rfl, by omega, by simp, hs⟩ ?_
  clear hs
  rintro gk i w2 ⟨rfl, hi, hall, hs⟩
  refine go ?_
  have hsz : (ByteArray.mk l.toArray).size = l.length := by simp [ByteArray.size]
  refine E.nexts hs (fun h0 => ?_) (fun w3 h1 hs => ?_)
  · rw [hsz] at h0
    refine go ?_
    refine A.r1 ?_
    have hil : i = l.length := by omega
    rw [hil, List.take_length] at hall
    exact HR.out _ _ hs.drop (by simp [hall])
  · rw [hsz] at h1
    have hall2 : (l.take (i + 1)).all okB = ((l.take i).all okB && okB l[i]) := by
      rw [List.take_succ_eq_append_getElem h1, List.all_append]; simp
    refine go ?_
    refine E.callv Try.func55 rfl rfl rfl ?_
    refine badR_any _ ?_
    by_cases hb : l[i].toNat < 128
    · rw [decode_ascii l i h1 hb] at hs ⊢
      simp only at hs ⊢
      cases hk : okB l[i] with
      | true =>
        have hbr : badR (l[i].toNat : Nat) = false := by rw [badR_okB, hk]; rfl
        rw [hbr]
        refine go ?_
        exact A.rd (l.length - (i + 1)) (i + 1) ⟨rfl, by omega, by rw [hall2, hall, hk]; rfl, hs⟩
      | false =>
        have hbr : badR (l[i].toNat : Nat) = true := by rw [badR_okB, hk]; rfl
        rw [hbr]
        refine go ?_
        refine A.r1 ?_
        refine HR.out _ _ hs.drop ⟨fun _ => ?_, fun _ => by omega⟩
        cases hA : l.all okB with
        | false => rfl
        | true => rw [List.all_eq_true.1 hA _ (List.getElem_mem h1)] at hk; cases hk
    · have hbr := badR_big (decode_big l i h1 hb)
      rw [hbr]
      refine go ?_
      refine A.r1 ?_
      refine HR.out _ _ hs.drop ⟨fun _ => ?_, fun _ => by omega⟩
      cases hA : l.all okB with
      | false => rfl
      | true => exact absurd (okB_lt (List.all_eq_true.1 hA _ (List.getElem_mem h1))) hb

set_option maxHeartbeats 1600000 in
set_option maxRecDepth 100000 in
theorem named_any {R : Ending → World → Prop} {W w : World} {g : Hl} {H : List HP} (l : List UInt8) (hs : Sat W w g H)
    (hR : ∀ w', Sat W w' g H → R (.returned (.bool (namedB l))) w') : Calls Try.prog 33 #[str l] w R := by
  have HR := Lib.hid hR
  clear hR
  refine C.calls (args := [str l]) Try.func33 rfl rfl rfl ?_
  refine go ?_
  cases h0 : decide (l = [])
  · refine go ?_
    cases h1 : decide ((l.length : Int) ≤ 48)
    · refine go ?_
      refine A.r1 ?_
      have h1' : ¬ l.length ≤ 48 := by simp at h1; omega
      have := HR.out _ hs
      rw [show namedB l = false by simp [namedB, h1']] at this
      exact this
    · have h1' : l.length ≤ 48 := by simp at h1; omega
      have h0' : l ≠ [] := by simpa using h0
      refine go ?_
      refine E.callf Try.func54 rfl ?_
      refine ?_
      refine C.calls (args := [str l, .func (.func 55) #[] #[]]) Try.func54 rfl rfl rfl ?_
      refine go ?_
      refine E.callf Try.func67 rfl ?_
      refine ?_
      refine C.calls (args := [str l, .func (.func 55) #[] #[]]) Try.func67 rfl rfl rfl ?_
      refine go ?_
      refine E.callf Try.func73 rfl ?_
      refine indexFunc_bad l (by omega) hs ?_
      intro w1 i hs hi
      refine go ?_
      refine A.r1 ?_
      refine go ?_
      refine A.r1 ?_
      refine go ?_
      refine A.r1 ?_
      have := HR.out _ hs
      have e : (!decide (0 ≤ i)) = namedB l := by
        have : l.isEmpty = false := by cases l <;> simp_all
        simp only [namedB, this, h1']
        cases hA : l.all okB with
        | false => simp [hi.2 hA]
        | true =>
          have : ¬ 0 ≤ i := fun h => by rw [hi.1 h] at hA; cases hA
          simp [this]
      rw [e]
      exact this
  · have h0' : l = [] := by simpa using h0
    subst h0'
    refine go ?_
    refine A.r1 ?_
    exact HR.out _ hs
end Go.Proofs.Ytcfbmmlgdopbmaa
