/-
  Layers 1, 2 (quantity, digits): a quantity's bits; a number in eight bytes; bytes copied.
-/
import Derived.Test.YtfhmamkafancbaaGreatDoorM03
import Derived.Test.YtfhmamkafancbaaGreatDoorM04
import Derived.Test.YtfhmamkafancbaaGreatDoorM05
namespace Go.Proofs.YtfhmamkafancbaaGreatDoor
open Go.RowKit
set_option linter.unusedVariables false
set_option linter.unusedSimpArgs false
/-- A quantity's bits. -/
def bitsF (b : Nat) : Nat := if nanF b = true then 9221120237041090561 else b
theorem bitsF_lt {b : Nat} (h : b < 18446744073709551616) : bitsF b < 18446744073709551616 := by unfold bitsF; split <;> omega
set_option maxHeartbeats 1600000 in
set_option maxRecDepth 100000 in
theorem isNaN_any {R : Ending → World → Prop} {w : World} {b : Nat} (hR : R (.returned (.bool (nanF b))) w) : Calls Tryz.prog 177 #[.float .f64 b] w R := by
  have HR := Lib.hid hR
  clear hR
  refine C.calls (args := [.float .f64 b]) Tryz.func177 rfl rfl rfl ?_
  refine go ?_
  refine A.r1 ?_
  exact HR.out
set_option maxHeartbeats 1600000 in
set_option maxRecDepth 100000 in
theorem bits_any {R : Ending → World → Prop} {w : World} {b : Nat} (hR : R (.returned (.int .u64 (bitsF b))) w) : Calls Tryz.prog 131 #[.float .f64 b] w R := by
  have HR := Lib.hid hR
  clear hR
  refine C.calls (args := [.float .f64 b]) Tryz.func131 rfl rfl rfl ?_
  refine go ?_
  refine E.callf Tryz.func177 rfl ?_
  refine isNaN_any ?_
  refine go ?_
  cases hn : nanF b with
  | true =>
    refine go ?_
    refine A.r1 ?_
    simpa [bitsF, hn] using HR.out
  | false =>
    refine go ?_
    refine E.ext (v := .int .u64 b) (w' := w) Tryz.func133 (ex := Extern.MathFloatBits.float64bits) rfl ?_
    refine go ?_
    refine A.r1 ?_
    simpa [bitsF, hn] using HR.out
set_option maxHeartbeats 1600000 in
set_option maxRecDepth 100000 in
theorem plain_any {R : Ending → World → Prop} {w : World} {b : Nat} (hR : R (.returned (.float .f64 (bitsF b))) w) : Calls Tryz.prog 82 #[.float .f64 b] w R := by
  have HR := Lib.hid hR
  clear hR
  refine C.calls (args := [.float .f64 b]) Tryz.func82 rfl rfl rfl ?_
  refine go ?_
  refine E.callf Tryz.func131 rfl ?_
  refine bits_any ?_
  refine E.ext (v := .float .f64 (bitsF b)) (w' := w) Tryz.func147 (ex := Extern.MathFloatBits.float64frombits) rfl ?_
  refine go ?_
  refine A.r1 ?_
  exact HR.out
/-- A number's k lowest bytes, the highest first. -/
def fixG : Nat → Nat → List UInt8
  | 0, _ => []
  | k + 1, n => UInt8.ofNat (n / 2 ^ (8 * k)) :: fixG k n
def fixB (n : Nat) : List UInt8 := fixG 8 n
theorem fixG_len : ∀ (k n : Nat), (fixG k n).length = k
  | 0, _ => rfl
  | k + 1, n => by simp [fixG, fixG_len k n]
theorem fixB_len (n : Nat) : (fixB n).length = 8 := fixG_len 8 n
set_option maxHeartbeats 1600000 in
set_option maxRecDepth 100000 in
theorem fixed_any {R : Ending → World → Prop} {W w : World} {g : Hl} {H : List HP} {v : Value} {k n : Nat} {xs : List Value} (hs : Sat W w g (own 5 1 v k xs :: H)) (hn : n < 18446744073709551616) (hk : k ≤ 1000000000)
    (hR : ∀ a' c' w', Sat W w' g (own 5 1 (.slice a' (k + 8) c') (k + 8) (xs ++ bs (fixB n)) :: H) → R (.returned (.slice a' (k + 8) c')) w') :
    Calls Tryz.prog 127 #[v, .int .u64 n] w R := by
  have HR := Lib.hid hR
  clear hR
  obtain ⟨a, c, rfl, hkc, hcm, _⟩ := hs.ownLen
  refine C.calls (args := [.slice a k c, .int .u64 n]) Tryz.func127 rfl rfl rfl ?_
  refine gob ?_
  refine C.block ?_
  refine C.lp (fun x : Nat × Nat × Option Addr × Nat × List Value => [(0, .slice x.2.2.1 x.2.1 x.2.2.2.1), (1, .int .u64 n), (5, .int .i64 ((x.1 : Int) - 1))])
    (fun gk x w => gk = x.1 ∧ x.1 ≤ 8 ∧ x.2.1 + x.1 = k + 8 ∧ x.2.2.2.2 ++ bs (fixG x.1 n) = xs ++ bs (fixB n) ∧ Sat W w g (own 5 1 (.slice x.2.2.1 x.2.1 x.2.2.2.1) x.2.1 x.2.2.2.2 :: H)) 8 (8, k, a, c, xs) ⟨rfl, by omega, rfl, rfl, hs⟩ ?_
  clear hs
  rintro gk ⟨i, k1, a1, c1, ys⟩ w1 ⟨hgk, hi, hk1, hy, hs⟩
  simp only at hgk hi hk1 hy hs ⊢
  replace hgk := hgk.symm
  subst hgk
  refine go ?_
  refine C.cond_dec (p := (0 : Int) ≤ (i : Int) - 1) rfl (fun h => ?_) (fun h => ?_)
  · obtain ⟨j, rfl⟩ : ∃ j, i = j + 1 := ⟨i - 1, by omega⟩
    have ej : ((j + 1 : Nat) : Int) - 1 = j := by omega
    rw [ej]
    refine go ?_
    refine E.bsl hs ?_
    intro b2 w2 hs
    refine E.app el_u8 hs.swap (hs.rowOf (size := 1) 1 rfl (by decide)) ?_
    intro a3 c3 w3 _ _ hs
    refine go ?_
    refine A.rd j (j, k1 + 1, a3, c3, ys ++ [.int .u8 ((n / 2 ^ (8 * j) % 256 : Nat))]) ⟨rfl, by omega, by simp only; omega, ?_, hs.swap.drop⟩
    simp only
    rw [← hy]
    simp [fixG, bs]
  · refine go ?_
    refine A.r1 ?_
    have hi0 : i = 0 := by omega
    subst hi0
    simp only [fixG, bs, List.map_nil, List.append_nil] at hy
    subst hy
    obtain rfl : k1 = k + 8 := by omega
    exact HR.out _ _ _ hs
/-- An event as bytes. -/
def Ev.keyB (e : Ev) : List UInt8 := if 1 ≤ e.kd ∧ e.kd ≤ 4 then textB e.key else []
def Ev.restB (e : Ev) : List UInt8 := if e.kd = 1 then textB e.text else if e.kd = 2 ∨ e.kd = 3 then fixB (bitsF e.num) else if e.kd = 5 then layN e.nd.toNat else []
def Ev.enc (e : Ev) : List UInt8 := layN e.wr.toNat ++ layN e.sq ++ layN e.tm ++ [UInt8.ofNat e.kd] ++ e.keyB ++ e.restB
theorem Ev.enc_len (e : Ev) (h1 : e.wr.toNat < 18446744073709551616) (h2 : e.sq < 18446744073709551616) (h3 : e.tm < 18446744073709551616) (h4 : e.key.length < 18446744073709551616) (h5 : e.text.length < 18446744073709551616) (h6 : e.nd.toNat < 18446744073709551616) : e.enc.length ≤ 61 + e.key.length + e.text.length := by
  have := layN_ten h1
  have := layN_ten h2
  have := layN_ten h3
  have k1 : e.keyB.length ≤ e.key.length + 10 := by
    unfold Ev.keyB
    split
    · exact textB_len _ h4
    · simp
  have k2 : e.restB.length ≤ e.text.length + 20 := by
    unfold Ev.restB
    repeat' split
    · have := textB_len _ h5; omega
    · rw [fixB_len]; omega
    · have := layN_ten h6; omega
    · simp
  simp only [Ev.enc, List.length_append, List.length_cons, List.length_nil]
  omega
set_option maxHeartbeats 3200000 in
set_option maxRecDepth 100000 in
theorem encode_any {R : Ending → World → Prop} {W w : World} {g : Hl} {H : List HP} {e : Ev} (ho : e.ok g) (hwr : 0 ≤ e.wr) (hnd : e.kd = 5 → 0 ≤ e.nd) (hs : Sat W w g H)
    (hR : ∀ a' c' w' g', Hl.le g g' → Sat W w' g' (own 5 1 (.slice a' e.enc.length c') e.enc.length (bs e.enc) :: H) → R (.returned (.slice a' e.enc.length c')) w') :
    Calls Tryz.prog 144 #[e.val] w R := by
  have HR := Lib.hid hR
  clear hR
  obtain ⟨a, c, etv, hnc, _⟩ := ho.tv.len
  have hkd := ho.kd
  have hsq := ho.sq
  have htm := ho.tm
  have h1 := ho.wr
  have h2 := ho.nd
  have h3 := ho.key
  have h4 := ho.text
  have h5 := ho.tv
  have h6 := ho.num
  clear ho
  obtain ⟨wr, sq, tm, kd, key, text, num, nd, tv⟩ := e
  simp only at etv hkd hsq htm h1 h2 h3 h4 h5 h6 hwr hnd
  simp only [Ev.val, Ev.cs]
  subst etv
  obtain ⟨wr, rfl⟩ := Int.eq_ofNat_of_zero_le hwr
  have l1 := layN_ten (n := wr) (by omega)
  have l2 := layN_ten (n := sq) (by omega)
  have l3 := layN_ten (n := tm) (by omega)
  refine C.calls (args := [.agg #[.int .i64 wr, .int .u64 sq, .int .u64 tm, .int .u8 kd, .string ⟨key.toArray⟩, .slice a text.length c, .float .f64 num, .int .i64 nd]]) Tryz.func144 rfl rfl rfl ?_
  refine go ?_
  refine E.bx hs ?_
  intro b1 w1 hs
  refine go ?_
  refine E.callf Tryz.func126 rfl ?_
  refine lay_any hs.nilOwn (by omega) (by omega) ?_
  intro a2 c2 w2 hs
  simp only [Nat.zero_add, List.nil_append] at hs ⊢
  refine gob ?_
  have e8 : (UInt8.ofNat kd).toNat = kd := by simp; omega
  refine C.cut (fun x : Option Addr × Nat => [(1, .pointer (some ⟨b1, 0, none⟩)), (3, .slice x.1 (layN wr ++ layN sq ++ layN tm ++ [UInt8.ofNat kd]).length x.2)])
    (fun x w => Sat W w g (own 5 1 (.slice x.1 (layN wr ++ layN sq ++ layN tm ++ [UInt8.ofNat kd]).length x.2) (layN wr ++ layN sq ++ layN tm ++ [UInt8.ofNat kd]).length (bs (layN wr ++ layN sq ++ layN tm ++ [UInt8.ofNat kd])) :: blk b1 [.int .i64 wr, .int .u64 sq, .int .u64 tm, .int .u8 kd, .string ⟨key.toArray⟩, .slice a text.length c, .float .f64 num, .int .i64 nd] 26 :: H)) ?_ ?_
  · refine C.held1 b1 hs ?_
    intro w hk hs
    refine goh ?_
    refine EH.orb hs (St.callf Tryz.func126 rfl ?_) ?_
    · refine lay_any hs (by omega) (by omega) ?_
      intro a3 c3 w hs
      refine kept1 hs (fun hk => ?_)
      refine goh ?_
      refine EH.orb hs (St.callf Tryz.func126 rfl ?_) ?_
      · refine lay_any hs (by omega) (by omega) ?_
        intro a4 c4 w hs
        refine kept1 hs (fun hk => ?_)
        refine goh ?_
        refine EH.bsl hs ?_
        intro b5 w hs
        refine kept1 hs (fun hk => ?_)
        refine goh ?_
        refine EH.app el_u8 hs.swap (hs.rowOf (size := 1) 1 rfl (by decide)) ?_
        intro a9 c9 w _ _ hs
        refine kept1 hs (fun hk => ?_)
        refine goh ?_
        refine EH.done ?_
        refine A.mt (a9, c9) ?_ ?_
        · have := hs.swap.drop
          simpa [bs_append, bs, e8, Nat.add_assoc] using this
        · simp only [List.length_append, List.length_cons, List.length_nil, Nat.add_assoc]
          exact wk_
      · intro b5 w hs
        refine kept1 hs (fun hk => ?_)
        refine goh ?_
        refine EH.one (St.callf Tryz.func126 rfl ?_)
        refine lay_any hs.swap (by omega) (by omega) ?_
        intro a4 c4 w hs
        refine kept1 hs (fun hk => ?_)
        refine goh ?_
        refine EH.app el_u8 hs (hs.swap.rowOf (size := 1) 1 rfl (by decide)) ?_
        intro a9 c9 w _ _ hs
        refine kept1 hs (fun hk => ?_)
        refine goh ?_
        refine EH.done ?_
        refine A.mt (a9, c9) ?_ ?_
        · have := hs.swap.drop
          simpa [bs_append, bs, e8, Nat.add_assoc] using this
        · simp only [List.length_append, List.length_cons, List.length_nil, Nat.add_assoc]
          exact wk_
    · intro b5 w hs
      refine kept1 hs (fun hk => ?_)
      refine goh ?_
      refine EH.one (St.callf Tryz.func126 rfl ?_)
      refine lay_any hs.swap (by omega) (by omega) ?_
      intro a3 c3 w hs
      refine kept1 hs (fun hk => ?_)
      refine goh ?_
      refine EH.one (St.callf Tryz.func126 rfl ?_)
      refine lay_any hs (by omega) (by omega) ?_
      intro a4 c4 w hs
      refine kept1 hs (fun hk => ?_)
      refine goh ?_
      refine EH.app el_u8 hs (hs.swap.rowOf (size := 1) 1 rfl (by decide)) ?_
      intro a9 c9 w _ _ hs
      refine kept1 hs (fun hk => ?_)
      refine goh ?_
      refine EH.done ?_
      refine A.mt (a9, c9) ?_ ?_
      · have := hs.swap.drop
        simpa [bs_append, bs, e8, Nat.add_assoc] using this
      · simp only [List.length_append, List.length_cons, List.length_nil, Nat.add_assoc]
        exact wk_
  clear hs
  have lA : (layN wr ++ layN sq ++ layN tm ++ [UInt8.ofNat kd]).length ≤ 31 := by
    simp only [List.length_append, List.length_cons, List.length_nil]; omega
  have hR2 : ∀ (B : List UInt8) (n' : Nat), layN wr ++ layN sq ++ layN tm ++ [UInt8.ofNat kd] ++ B = Ev.enc ⟨wr, sq, tm, kd, key, text, num, nd, .slice a text.length c⟩ → n' = (layN wr ++ layN sq ++ layN tm ++ [UInt8.ofNat kd]).length + B.length → ∀ a' c' w' g', Hl.le g g' → Sat W w' g' (own 5 1 (.slice a' n' c') n' (bs (layN wr ++ layN sq ++ layN tm ++ [UInt8.ofNat kd]) ++ bs B) :: H) → R (.returned (.slice a' n' c')) w' := fun B n' hB hn' a' c' w' g' hg' hs' => by
    rw [← bs_append, hB] at hs'
    rw [← List.length_append, hB] at hn'
    subst hn'
    exact HR.out _ _ _ _ hg' hs'
  clear HR
  simp only [Ev.enc, Ev.keyB, Ev.restB, Int.toNat_natCast] at hR2
  generalize hAA : layN wr ++ layN sq ++ layN tm ++ [UInt8.ofNat kd] = A1 at lA hR2 ⊢
  clear hAA
  rintro ⟨a2, c2⟩ w2 hs
  simp only at hs ⊢
  have h3b : key.length ≤ 1000000000 := by omega
  have hkey := textB_len key (by omega)
  have htext := textB_len text (by omega)
  have hcases : kd = 1 ∨ kd = 2 ∨ kd = 3 ∨ kd = 4 ∨ kd = 5 ∨ kd = 0 ∨ 5 < kd := by omega
  rcases hcases with hq | hq | hq | hq | hq | hq | hq
  · subst hq
    simp only [show (1 ≤ 1 ∧ 1 ≤ 4) = True by simp, if_true] at hR2
    have HR2 := Lib.hid hR2
    clear hR2
    refine go ?_
    refine E.bytes Tryz.underlying9 Tryz.underlying23 Tryz.underlying5 hs h3b ?_
    intro b5 c5 w3 g3 hg3 hs hp5
    refine go ?_
    refine E.callf Tryz.func130 rfl ?_
    refine layText_any hs hp5 rfl (by omega) (by omega) ?_
    intro a4 c4 w4 hs
    refine go ?_
    refine E.callf Tryz.func130 rfl ?_
    refine layText_any hs (h5.mono hg3) rfl (by omega) (by omega) ?_
    intro a6 c6 w6 hs
    refine go ?_
    refine A.r1 ?_
    refine HR2.out (textB key ++ textB text) _ (by simp) (by simp; omega) _ _ _ _ hg3 ?_
    simp only [bs_append, ← List.append_assoc] at hs ⊢
    exact hs.swap.drop
  · subst hq
    simp only [show (1 ≤ 2 ∧ 2 ≤ 4) = True by simp, if_true] at hR2
    have HR2 := Lib.hid hR2
    clear hR2
    refine go ?_
    refine E.bytes Tryz.underlying9 Tryz.underlying23 Tryz.underlying5 hs h3b ?_
    intro b5 c5 w3 g3 hg3 hs hp5
    refine go ?_
    refine E.callf Tryz.func130 rfl ?_
    refine layText_any hs hp5 rfl (by omega) (by omega) ?_
    intro a4 c4 w4 hs
    refine go ?_
    refine E.callf Tryz.func131 rfl ?_
    refine bits_any ?_
    refine E.callf Tryz.func127 rfl ?_
    refine fixed_any hs (bitsF_lt h6) (by omega) ?_
    intro a6 c6 w6 hs
    refine go ?_
    refine A.r1 ?_
    refine HR2.out (textB key ++ fixB (bitsF num)) _ (by simp) (by simp [fixB_len]; omega) _ _ _ _ hg3 ?_
    simp only [bs_append, ← List.append_assoc] at hs ⊢
    exact hs.swap.drop
  · subst hq
    simp only [show (1 ≤ 3 ∧ 3 ≤ 4) = True by simp, if_true] at hR2
    have HR2 := Lib.hid hR2
    clear hR2
    refine go ?_
    refine E.bytes Tryz.underlying9 Tryz.underlying23 Tryz.underlying5 hs h3b ?_
    intro b5 c5 w3 g3 hg3 hs hp5
    refine go ?_
    refine E.callf Tryz.func130 rfl ?_
    refine layText_any hs hp5 rfl (by omega) (by omega) ?_
    intro a4 c4 w4 hs
    refine go ?_
    refine E.callf Tryz.func131 rfl ?_
    refine bits_any ?_
    refine E.callf Tryz.func127 rfl ?_
    refine fixed_any hs (bitsF_lt h6) (by omega) ?_
    intro a6 c6 w6 hs
    refine go ?_
    refine A.r1 ?_
    refine HR2.out (textB key ++ fixB (bitsF num)) _ (by simp) (by simp [fixB_len]; omega) _ _ _ _ hg3 ?_
    simp only [bs_append, ← List.append_assoc] at hs ⊢
    exact hs.swap.drop
  · subst hq
    simp only [show (1 ≤ 4 ∧ 4 ≤ 4) = True by simp, if_true] at hR2
    have HR2 := Lib.hid hR2
    clear hR2
    refine go ?_
    refine E.bytes Tryz.underlying9 Tryz.underlying23 Tryz.underlying5 hs h3b ?_
    intro b5 c5 w3 g3 hg3 hs hp5
    refine go ?_
    refine E.callf Tryz.func130 rfl ?_
    refine layText_any hs hp5 rfl (by omega) (by omega) ?_
    intro a4 c4 w4 hs
    refine go ?_
    refine A.r1 ?_
    refine HR2.out (textB key) _ (by simp) (by simp) _ _ _ _ hg3 ?_
    exact hs.swap.drop
  · subst hq
    obtain ⟨nd, rfl⟩ := Int.eq_ofNat_of_zero_le (hnd rfl)
    simp only [show (1 ≤ 5 ∧ 5 ≤ 4) = False by simp, if_false, Int.toNat_natCast] at hR2
    have HR2 := Lib.hid hR2
    clear hR2
    refine go ?_
    refine E.callf Tryz.func126 rfl ?_
    refine lay_any hs (by omega) (by omega) ?_
    intro a6 c6 w6 hs
    refine go ?_
    refine A.r1 ?_
    refine HR2.out (layN nd) _ (by simp) (by simp) _ _ _ _ (Hl.le_refl _) ?_
    exact hs.swap.drop
  · subst hq
    simp only [show (1 ≤ 0 ∧ 0 ≤ 4) = False by simp, if_false] at hR2
    have HR2 := Lib.hid hR2
    clear hR2
    refine go ?_
    refine A.r1 ?_
    refine HR2.out [] _ (by simp) (by simp) _ _ _ _ (Hl.le_refl _) ?_
    simpa [bs] using hs.swap.drop
  · refine go ?_
    rw [show decide ((1 : Int) ≤ kd) = true from decide_eq_true (by omega)]
    refine go ?_
    rw [show decide ((kd : Int) ≤ 4) = false from decide_eq_false (by omega)]
    refine go ?_
    rw [show decide ((kd : Int) = 1) = false from decide_eq_false (by omega)]
    refine go ?_
    rw [show decide ((kd : Int) = 2) = false from decide_eq_false (by omega)]
    refine go ?_
    rw [show decide ((kd : Int) = 3) = false from decide_eq_false (by omega)]
    refine go ?_
    rw [show decide ((kd : Int) = 5) = false from decide_eq_false (by omega)]
    refine go ?_
    refine A.r1 ?_
    have k1 : ¬ (1 ≤ kd ∧ kd ≤ 4) := by omega
    have k2 : ¬ kd = 1 := by omega
    have k3 : ¬ (kd = 2 ∨ kd = 3) := by omega
    have k4 : ¬ kd = 5 := by omega
    simp only [k1, k2, k3, k4, if_false] at hR2
    refine hR2 [] _ (by simp) (by simp) _ _ _ _ (Hl.le_refl _) ?_
    simpa [bs] using hs.swap.drop
end Go.Proofs.YtfhmamkafancbaaGreatDoor

/-
  Layer 2 (digits): a tape's next text; its next eight bytes.
-/
namespace Go.Proofs.YtfhmamkafancbaaGreatDoor
open Go.RowKit
set_option linter.unusedVariables false
set_option linter.unusedSimpArgs false
set_option maxHeartbeats 1600000 in
set_option maxRecDepth 100000 in
theorem text_any {R : Ending → World → Prop} {W w : World} {g : Hl} {H : List HP} {b : Nat} {l : List UInt8} (most : Nat) {mi : Int} (hmi : mi = most) (hmost : most ≤ 1000000000) (hll : l.length ≤ 140737488355328) (hs : Sat W w g (tape b l :: H))
    (hR : ∀ v r a c w' g', Hl.le g g' → rdText most l = .ok (v, r) → v.length ≤ most → Pr 1 g' (.slice a v.length c) v.length (bs v) → Sat W w' g' (tape b r :: H) → R (.returned (.slice a v.length c)) w') (hE : ∀ e w', rdText most l = .error e → e ≠ 0 → Sat W w' g H → R (.panicked (flt e)) w') :
    Calls Tryz.prog 184 #[.pointer (some ⟨b, 0, none⟩), .int .i64 mi] w R := by
  have HR := Lib.hid hR
  have HE := Lib.hid hE
  clear hR hE
  subst hmi
  obtain ⟨a, c, hp, hs⟩ := tape_open hs
  refine C.calls (args := [.pointer (some ⟨b, 0, none⟩), .int .i64 most]) Tryz.func184 rfl rfl rfl ?_
  refine go ?_
  refine E.callf Tryz.func223 rfl ?_
  refine takeText_any most rfl hmost hs hp rfl hll ?_ ?_
  · intro v k b' o' c' a2 c2 w1 ht hk hkn hv hs hp2
    have hvl : ((l.drop k).take v).length = v := by rw [List.length_take, List.length_drop]; omega
    refine go ?_
    refine E.callf Tryz.func222 rfl ?_
    refine must_any 0 (fun _ => ?_) (fun h => absurd rfl h)
    refine go ?_
    refine E.sto (vs := [.slice (some ⟨b', o', none⟩) (l.length - k - v) c']) (ys := [.slice (some ⟨b', o', none⟩) (l.length - k - v) c']) hs ?_ (hv := rfl) (hsp := rfl)
    intro w3 hs
    refine go ?_
    obtain ⟨g4, hg4, hp4, hs⟩ := hs.publishOwn
    refine A.r1 ?_
    have h1 : rdText most l = .ok ((l.drop k).take v, l.drop (k + v)) := by
      simp only [rdText, ht]
      rw [if_neg (by simp), if_neg (by omega), if_neg (by omega)]
    have := HR.out ((l.drop k).take v) (l.drop (k + v)) a2 c2 _ g4 hg4 h1 (by omega) (by rw [hvl]; exact hp4) (tape_close (by rw [List.length_drop]; omega) (hp2.mono hg4) hs)
    rw [hvl] at this
    exact this
  · intro e w1 hc hs
    have hne : e ≠ 0 := by
      rcases hc with ⟨_, h⟩ | ⟨_, _, _, h⟩ <;> omega
    have h1 : rdText most l = .error e := by
      rcases hc with ⟨h, _⟩ | ⟨v, k, h, h2⟩
      · simp only [rdText, h]
        rw [if_pos hne]
      · simp only [rdText, h]
        rcases h2 with ⟨rfl, h2⟩ | ⟨rfl, h2, h3⟩
        · rw [if_neg (by simp), if_pos h2]
        · rw [if_neg (by simp), if_neg (by omega), if_pos h3]
    refine go ?_
    refine E.callf Tryz.func222 rfl ?_
    refine must_any e (fun h => absurd h hne) (fun _ => ?_)
    refine go ?_
    exact HE.out e _ h1 hne hs.drop
/-- Eight bytes as a number, the highest first. -/
def fixV : Nat → List UInt8 → Nat := fun a l => l.foldl (fun a b => (a * 256 + b.toNat) % 18446744073709551616) a
def rdFix (l : List UInt8) : Except Int (Nat × List UInt8) := if l.length < 8 then .error 5 else .ok (fixV 0 (l.take 8), l.drop 8)
theorem fixV_fixG : ∀ (k n a : Nat), (a + 1) * 2 ^ (8 * k) ≤ 18446744073709551616 → fixV a (fixG k n) = a * 2 ^ (8 * k) + n % 2 ^ (8 * k)
  | 0, n, a, _ => by simp [fixG, fixV, Nat.mod_one]
  | k + 1, n, a, h => by
    have hp : 0 < 2 ^ (8 * k) := Nat.pow_pos (by decide)
    have e1 : 2 ^ (8 * (k + 1)) = 2 ^ (8 * k) * 256 := by rw [Nat.mul_add, Nat.pow_add]
    rw [e1] at h ⊢
    have hq : n / 2 ^ (8 * k) % 256 < 256 := Nat.mod_lt _ (by decide)
    have hb : (UInt8.ofNat (n / 2 ^ (8 * k))).toNat = n / 2 ^ (8 * k) % 256 := by simp
    have h2 : (a + 1) * 256 ≤ (a + 1) * (2 ^ (8 * k) * 256) := Nat.mul_le_mul_left _ (Nat.le_mul_of_pos_left _ hp)
    have h3 : (a * 256 + n / 2 ^ (8 * k) % 256) % 18446744073709551616 = a * 256 + n / 2 ^ (8 * k) % 256 := Nat.mod_eq_of_lt (by omega)
    show fixV ((a * 256 + (UInt8.ofNat (n / 2 ^ (8 * k))).toNat) % 18446744073709551616) (fixG k n) = _
    rw [hb, h3, fixV_fixG k n _ ?_, Nat.mod_mul, Nat.add_mul]
    · have : a * 256 * 2 ^ (8 * k) = a * (2 ^ (8 * k) * 256) := by rw [Nat.mul_assoc, Nat.mul_comm 256]
      rw [this, Nat.mul_comm (2 ^ (8 * k)) (n / 2 ^ (8 * k) % 256)]
      omega
    · refine Nat.le_trans (Nat.mul_le_mul_right _ (show a * 256 + n / 2 ^ (8 * k) % 256 + 1 ≤ (a + 1) * 256 by omega)) ?_
      rw [Nat.mul_assoc, Nat.mul_comm 256]
      exact h
theorem fixV_fixB {n : Nat} (h : n < 18446744073709551616) : fixV 0 (fixB n) = n := by
  have := fixV_fixG 8 n 0 (by decide)
  rw [fixB, this, Nat.zero_mul, Nat.zero_add]
  exact Nat.mod_eq_of_lt h
theorem rdFix_fixB {n : Nat} (h : n < 18446744073709551616) (r : List UInt8) : rdFix (fixB n ++ r) = .ok (n, r) := by
  have hl := fixB_len n
  unfold rdFix
  rw [if_neg (by rw [List.length_append]; omega), List.take_append_of_le_length (by omega), List.take_of_length_le (by omega), fixV_fixB h, List.drop_append_of_le_length (by omega), List.drop_eq_nil_of_le (by omega), List.nil_append]
theorem shl_or (a b : Nat) (hb : b < 256) : (a * 2 ^ 8 % 18446744073709551616) ||| b = (a * 256 + b) % 18446744073709551616 := by
  have e1 : a * 2 ^ 8 % 18446744073709551616 = (a % 72057594037927936) * 2 ^ 8 := by omega
  rw [e1, Nat.or_comm, or_mul b _ 8 (by simpa using hb)]
  omega
set_option maxHeartbeats 1600000 in
set_option maxRecDepth 100000 in
theorem tfixed_any {R : Ending → World → Prop} {W w : World} {g : Hl} {H : List HP} {b : Nat} {l : List UInt8} (hs : Sat W w g (tape b l :: H))
    (hR : ∀ v r w', rdFix l = .ok (v, r) → v < 18446744073709551616 → Sat W w' g (tape b r :: H) → R (.returned (.int .u64 v)) w') (hE : ∀ w', rdFix l = .error 5 → Sat W w' g H → R (.panicked (flt 5)) w') :
    Calls Tryz.prog 183 #[.pointer (some ⟨b, 0, none⟩)] w R := by
  have HR := Lib.hid hR
  have HE := Lib.hid hE
  clear hR hE
  refine C.calls (args := [.pointer (some ⟨b, 0, none⟩)]) Tryz.func183 rfl rfl rfl ?_
  refine gob ?_
  refine C.block ?_
  refine C.lp (fun x : Nat × Nat × List UInt8 => [(0, .pointer (some ⟨b, 0, none⟩)), (3, .int .u64 x.2.1), (4, .int .i64 x.1)])
    (fun gk x w => gk = 8 - x.1 ∧ x.1 ≤ 8 ∧ x.2.1 < 18446744073709551616 ∧ x.2.1 = fixV 0 (l.take x.1) ∧ x.2.2 = l.drop x.1 ∧ x.1 ≤ l.length ∧ Sat W w g (tape b x.2.2 :: H)) 8 (0, 0, l) ⟨rfl, by simp, by simp, rfl, rfl, Nat.zero_le _, hs⟩ ?_
  clear hs
  rintro gk ⟨i, v, r⟩ w1 ⟨rfl, hi, hv, hve, hr, hil, hs⟩
  simp only at hi hv hve hr hil hs ⊢
  refine go ?_
  refine C.cond_dec (p := (i : Int) < 8) rfl (fun h => ?_) (fun h => ?_)
  · refine go ?_
    refine E.callf Tryz.func185 rfl ?_
    refine byte_any hs ?_ ?_
    · intro u r2 w2 he hs
      have hil2 : i < l.length := by
        rcases Nat.lt_or_ge i l.length with h1 | h1
        · exact h1
        · rw [hr, List.drop_eq_nil_of_le h1] at he
          cases he
      have hd := List.drop_eq_getElem_cons hil2
      rw [← hr, he] at hd
      simp only [List.cons.injEq] at hd
      have hu : u.toNat < 256 := u.toNat_lt
      replace hd := Lib.hid hd
      replace he := Lib.hid he
      refine go ?_
      rw [show ((v * 2 ^ 8 % 2 ^ IntKind.u64.bits ||| u.toNat : Nat) : Int) = (((v * 256 + u.toNat) % 18446744073709551616 : Nat) : Int) from congrArg _ (shl_or v u.toNat (by omega))]
      refine A.rd (8 - (i + 1)) (i + 1, (v * 256 + u.toNat) % 18446744073709551616, r2) ⟨rfl, by simp only; omega, Nat.mod_lt _ (by decide), ?_, hd.out.2, by simp only; omega, hs⟩
      simp only
      rw [List.take_succ_eq_append_getElem hil2, fixV, List.foldl_append, hd.out.1, hve]
      rfl
    · intro he
      have hil2 : l.length ≤ i := by
        rw [hr] at he
        have := congrArg List.length he
        simp only [List.length_drop, List.length_nil] at this
        omega
      refine go ?_
      refine HE.out _ ?_ hs.drop
      unfold rdFix
      rw [if_pos (by omega)]
  · obtain rfl : i = 8 := by omega
    refine go ?_
    refine A.r1 ?_
    refine HR.out v r _ ?_ hv hs
    unfold rdFix
    rw [if_neg (by omega), hve, hr]
end Go.Proofs.YtfhmamkafancbaaGreatDoor

/-
  Layer 6 (event): At, Compare, Right.
-/
namespace Go.Proofs.YtfhmamkafancbaaGreatDoor
open Go.RowKit
set_option linter.unusedVariables false
set_option linter.unusedSimpArgs false
set_option maxHeartbeats 1600000 in
set_option maxRecDepth 100000 in
theorem node_any {R : Ending → World → Prop} {w : World} {a : Int} (hR : R (.returned (.bool (decide (0 ≤ a ∧ a < 64)))) w) :
    Calls Tryz.prog 106 #[.int .i64 a] w R := by
  have HR := Lib.hid hR
  clear hR
  refine C.calls (args := [.int .i64 a]) Tryz.func106 rfl rfl rfl ?_
  refine go ?_
  cases h1 : decide (0 ≤ a) with
  | true =>
    refine go ?_
    refine A.r1 ?_
    have := of_decide_eq_true h1
    simpa [this] using HR.out
  | false =>
    refine go ?_
    refine A.r1 ?_
    have := of_decide_eq_false h1
    simpa [this] using HR.out
/-- What may not be told of an event: the error's number. -/
def Ev.right (e : Ev) : Int :=
  if ¬ (0 ≤ e.wr ∧ e.wr < 64) ∨ e.sq = 0 ∨ e.tm = 0 ∨ e.kd < 1 ∨ 6 < e.kd ∨ (e.kd = 5 ∧ ¬ (0 ≤ e.nd ∧ e.nd < 64)) then 1
  else if (1 ≤ e.kd ∧ e.kd ≤ 4 ∧ (e.key.length = 0 ∨ 64 < e.key.length)) ∨ (e.kd = 1 ∧ 1048576 < e.text.length) then 6
  else if 9223372036854775807 < e.sq ∨ 9223372036854775807 < e.tm then 8 else 0
set_option maxHeartbeats 1600000 in
set_option maxRecDepth 100000 in
theorem right_any {R : Ending → World → Prop} {W w : World} {g : Hl} {H : List HP} {e : Ev} (ho : e.ok g) (hs : Sat W w g H) (hR : ∀ w', Sat W w' g H → R (.returned (.int .i64 e.right)) w') :
    Calls Tryz.prog 51 #[e.val] w R := by
  have HR := Lib.hid hR
  clear hR
  obtain ⟨a, c, etv, _, _⟩ := ho.tv.len
  have hkd := ho.kd
  have e1 : e.right = e.right := rfl
  obtain ⟨wr, sq, tm, kd, key, text, num, nd, tv⟩ := e
  simp only [Ev.val, Ev.cs] at etv hkd ⊢
  subst etv
  refine C.calls (args := [.agg #[.int .i64 wr, .int .u64 sq, .int .u64 tm, .int .u8 kd, .string ⟨key.toArray⟩, .slice a text.length c, .float .f64 num, .int .i64 nd]]) Tryz.func51 rfl rfl rfl ?_
  refine go ?_
  refine E.bx hs ?_
  intro b1 w1 hs
  refine E.pv pvt ?_
  refine E.nil ?_
  refine A.next ?_
  refine C.seq (C.cut (fun _ : Unit => [(1, .pointer (some ⟨b1, 0, none⟩)), (2, .int .i64 0), (3, .bool (decide (1 ≤ kd ∧ kd ≤ 4)))]) (fun _ w => Sat W w g (blk b1 [.int .i64 wr, .int .u64 sq, .int .u64 tm, .int .u8 kd, .string ⟨key.toArray⟩, .slice a text.length c, .float .f64 num, .int .i64 nd] 26 :: H)) ?_ ?_)
  · refine go ?_
    cases h1 : decide ((1 : Int) ≤ kd) with
    | false =>
      refine go ?_
      refine A.mt () hs ?_
      have h1' := of_decide_eq_false h1
      rw [show decide (1 ≤ kd ∧ kd ≤ 4) = false from decide_eq_false (by omega)]
      exact wk_
    | true =>
      refine go ?_
      refine A.mt () hs ?_
      have h1' := of_decide_eq_true h1
      rw [show decide (1 ≤ kd ∧ kd ≤ 4) = decide ((kd : Int) ≤ 4) from decide_eq_decide.2 (by omega)]
      exact wk_
  clear hs
  rintro _ w2 hs
  refine go ?_
  refine E.callf Tryz.func106 rfl ?_
  refine node_any ?_
  have one : ¬ (0 ≤ wr ∧ wr < 64) ∨ sq = 0 ∨ tm = 0 ∨ kd < 1 ∨ 6 < kd ∨ (kd = 5 ∧ ¬ (0 ≤ nd ∧ nd < 64)) → ∀ w', Sat W w' g H → R (.returned (.int .i64 1)) w' := fun h w' hs => by
    have := HR.out w' hs
    simp only [Ev.right] at this
    rw [if_pos h] at this
    exact this
  cases h1 : decide (0 ≤ wr ∧ wr < 64) with
  | false =>
    refine go ?_
    refine A.r1 ?_
    exact one (.inl (of_decide_eq_false h1)) _ hs.drop
  | true =>
  refine go ?_
  cases h2 : decide ((sq : Int) = 0) with
  | true =>
    refine go ?_
    refine A.r1 ?_
    exact one (.inr (.inl (by have := of_decide_eq_true h2; omega))) _ hs.drop
  | false =>
  refine go ?_
  cases h3 : decide ((tm : Int) = 0) with
  | true =>
    refine go ?_
    refine A.r1 ?_
    exact one (.inr (.inr (.inl (by have := of_decide_eq_true h3; omega)))) _ hs.drop
  | false =>
  refine go ?_
  cases h4 : decide ((kd : Int) < 1) with
  | true =>
    refine go ?_
    refine A.r1 ?_
    exact one (.inr (.inr (.inr (.inl (by have := of_decide_eq_true h4; omega))))) _ hs.drop
  | false =>
  refine go ?_
  cases h5 : decide (6 < (kd : Int)) with
  | true =>
    refine go ?_
    refine A.r1 ?_
    exact one (.inr (.inr (.inr (.inr (.inl (by have := of_decide_eq_true h5; omega)))))) _ hs.drop
  | false =>
  refine go ?_
  have h1 := of_decide_eq_true h1
  have h2 := of_decide_eq_false h2
  have h3 := of_decide_eq_false h3
  have h4 := of_decide_eq_false h4
  have h5 := of_decide_eq_false h5
  clear one
  have six : ¬ (kd = 5 ∧ ¬ (0 ≤ nd ∧ nd < 64)) → (1 ≤ kd ∧ kd ≤ 4 ∧ (key.length = 0 ∨ 64 < key.length)) ∨ (kd = 1 ∧ 1048576 < text.length) → ∀ w', Sat W w' g H → R (.returned (.int .i64 6)) w' := fun h h6 w' hs => by
    have := HR.out w' hs
    simp only [Ev.right] at this
    rw [if_neg (by omega), if_pos h6] at this
    exact this
  have fin : ¬ (kd = 5 ∧ ¬ (0 ≤ nd ∧ nd < 64)) → ¬ ((1 ≤ kd ∧ kd ≤ 4 ∧ (key.length = 0 ∨ 64 < key.length)) ∨ (kd = 1 ∧ 1048576 < text.length)) → ∀ w', Sat W w' g H → R (.returned (.int .i64 (if 9223372036854775807 < sq ∨ 9223372036854775807 < tm then 8 else 0))) w' := fun h h6 w' hs => by
    have := HR.out w' hs
    simp only [Ev.right] at this
    rw [if_neg (by omega), if_neg h6] at this
    exact this
  have one : kd = 5 ∧ ¬ (0 ≤ nd ∧ nd < 64) → ∀ w', Sat W w' g H → R (.returned (.int .i64 1)) w' := fun h w' hs => by
    have := HR.out w' hs
    simp only [Ev.right] at this
    rw [if_pos (by omega)] at this
    exact this
  clear HR e1
  cases h6 : decide ((kd : Int) = 5) with
  | true =>
    have h6 := of_decide_eq_true h6
    rw [show decide (1 ≤ kd ∧ kd ≤ 4) = false from decide_eq_false (by omega)]
    refine go ?_
    refine E.callf Tryz.func106 rfl ?_
    refine node_any ?_
    cases h7 : decide (0 ≤ nd ∧ nd < 64) with
    | false =>
      refine go ?_
      refine A.r1 ?_
      exact one ⟨by omega, of_decide_eq_false h7⟩ _ hs.drop
    | true =>
    have h7 := of_decide_eq_true h7
    refine go ?_
    rw [show decide ((kd : Int) = 1) = false from decide_eq_false (by omega)]
    refine go ?_
    have fin := fin (by omega) (by omega)
    cases h8 : decide ((9223372036854775807 : Int) < sq) with
    | true =>
      refine go ?_
      refine A.r1 ?_
      have h8 := of_decide_eq_true h8
      rw [if_pos (by omega)] at fin
      exact fin _ hs.drop
    | false =>
    refine go ?_
    cases h9 : decide ((9223372036854775807 : Int) < tm) with
    | true =>
      refine go ?_
      refine A.r1 ?_
      have h9 := of_decide_eq_true h9
      rw [if_pos (by omega)] at fin
      exact fin _ hs.drop
    | false =>
    refine go ?_
    refine A.r1 ?_
    have h8 := of_decide_eq_false h8
    have h9 := of_decide_eq_false h9
    rw [if_neg (by omega)] at fin
    exact fin _ hs.drop
  | false =>
  have h6 := of_decide_eq_false h6
  refine go ?_
  cases hk : decide (1 ≤ kd ∧ kd ≤ 4) with
  | true =>
    have hk := of_decide_eq_true hk
    refine go ?_
    cases ha : decide ((key.length : Int) = 0) with
    | true =>
      have ha := of_decide_eq_true ha
      refine go ?_
      refine A.r1 ?_
      exact six (by omega) (by omega) _ hs.drop
    | false =>
    have ha := of_decide_eq_false ha
    refine go ?_
    cases hb : decide ((64 : Int) < key.length) with
    | true =>
      have hb := of_decide_eq_true hb
      refine go ?_
      refine A.r1 ?_
      exact six (by omega) (by omega) _ hs.drop
    | false =>
    have hb := of_decide_eq_false hb
    refine go ?_
    cases hc : decide ((kd : Int) = 1) with
    | true =>
      have hc := of_decide_eq_true hc
      refine go ?_
      cases hd : decide ((1048576 : Int) < text.length) with
      | true =>
        have hd := of_decide_eq_true hd
        refine go ?_
        refine A.r1 ?_
        exact six (by omega) (by omega) _ hs.drop
      | false =>
      have hd := of_decide_eq_false hd
      refine go ?_
      have fin := fin (by omega) (by omega)
      cases h8 : decide ((9223372036854775807 : Int) < sq) with
      | true =>
        refine go ?_
        refine A.r1 ?_
        have h8 := of_decide_eq_true h8
        rw [if_pos (by omega)] at fin
        exact fin _ hs.drop
      | false =>
      refine go ?_
      cases h9 : decide ((9223372036854775807 : Int) < tm) with
      | true =>
        refine go ?_
        refine A.r1 ?_
        have h9 := of_decide_eq_true h9
        rw [if_pos (by omega)] at fin
        exact fin _ hs.drop
      | false =>
      refine go ?_
      refine A.r1 ?_
      have h8 := of_decide_eq_false h8
      have h9 := of_decide_eq_false h9
      rw [if_neg (by omega)] at fin
      exact fin _ hs.drop
    | false =>
      have hc := of_decide_eq_false hc
      refine go ?_
      have fin := fin (by omega) (by omega)
      cases h8 : decide ((9223372036854775807 : Int) < sq) with
      | true =>
        refine go ?_
        refine A.r1 ?_
        have h8 := of_decide_eq_true h8
        rw [if_pos (by omega)] at fin
        exact fin _ hs.drop
      | false =>
      refine go ?_
      cases h9 : decide ((9223372036854775807 : Int) < tm) with
      | true =>
        refine go ?_
        refine A.r1 ?_
        have h9 := of_decide_eq_true h9
        rw [if_pos (by omega)] at fin
        exact fin _ hs.drop
      | false =>
      refine go ?_
      refine A.r1 ?_
      have h8 := of_decide_eq_false h8
      have h9 := of_decide_eq_false h9
      rw [if_neg (by omega)] at fin
      exact fin _ hs.drop
  | false =>
    have hk := of_decide_eq_false hk
    refine go ?_
    rw [show decide ((kd : Int) = 1) = false from decide_eq_false (by omega)]
    refine go ?_
    have fin := fin (by omega) (by omega)
    cases h8 : decide ((9223372036854775807 : Int) < sq) with
    | true =>
      refine go ?_
      refine A.r1 ?_
      have h8 := of_decide_eq_true h8
      rw [if_pos (by omega)] at fin
      exact fin _ hs.drop
    | false =>
    refine go ?_
    cases h9 : decide ((9223372036854775807 : Int) < tm) with
    | true =>
      refine go ?_
      refine A.r1 ?_
      have h9 := of_decide_eq_true h9
      rw [if_pos (by omega)] at fin
      exact fin _ hs.drop
    | false =>
    refine go ?_
    refine A.r1 ?_
    have h8 := of_decide_eq_false h8
    have h9 := of_decide_eq_false h9
    rw [if_neg (by omega)] at fin
    exact fin _ hs.drop
end Go.Proofs.YtfhmamkafancbaaGreatDoor

/-
  Layer 6 (event): an event out of any bytes; Decode.
-/
namespace Go.Proofs.YtfhmamkafancbaaGreatDoor
open Go.RowKit
set_option linter.unusedVariables false
set_option linter.unusedSimpArgs false
/-- What is read, without the place of the text. -/
structure Ep where
  wr : Nat
  sq : Nat
  tm : Nat
  kd : Nat
  key : List UInt8
  text : List UInt8
  num : Nat
  nd : Nat
def Ep.ev (p : Ep) (tv : Value) : Ev := ⟨p.wr, p.sq, p.tm, p.kd, p.key, p.text, p.num, p.nd, tv⟩
/-- The parts. -/
def rdKey (kd : Nat) (l : List UInt8) : Except Int (List UInt8 × List UInt8) := if 1 ≤ kd ∧ kd ≤ 4 then rdText 64 l else .ok ([], l)
def rdRest (kd : Nat) (l : List UInt8) : Except Int ((List UInt8 × Nat × Nat) × List UInt8) :=
  if kd = 1 then match rdText 1048576 l with
    | .error e => .error e
    | .ok (t, l) => .ok ((t, 0, 0), l)
  else if kd = 2 ∨ kd = 3 then match rdFix l with
    | .error e => .error e
    | .ok (n, l) => if bitsF n = n then .ok (([], n, 0), l) else .error 4
  else if kd = 5 then match rdNum 63 l with
    | .error e => .error e
    | .ok (n, l) => .ok (([], 0, n), l)
  else .ok (([], 0, 0), l)
def rdEv (l : List UInt8) : Except Int Ep :=
  match rdNum 63 l with
  | .error e => .error e
  | .ok (wr, l) => match rdNum 18446744073709551615 l with
    | .error e => .error e
    | .ok (sq, l) => match rdNum 18446744073709551615 l with
      | .error e => .error e
      | .ok (tm, l) => match rdByte l with
        | .error e => .error e
        | .ok (kd, l) => match rdKey kd.toNat l with
          | .error e => .error e
          | .ok (key, l) => match rdRest kd.toNat l with
            | .error e => .error e
            | .ok ((t, n, d), l) => if l = [] then .ok ⟨wr, sq, tm, kd.toNat, key, t, n, d⟩ else .error 4
theorem rdText_text (most : Nat) (t : List UInt8) (ht : t.length ≤ most) (hm : most < 18446744073709551616) (r : List UInt8) : rdText most (textB t ++ r) = .ok (t, r) := by
  have h1 := takeGo_layN t.length (by omega) (t ++ r)
  simp only [rdText, textB, List.append_assoc, h1]
  rw [if_neg (by simp), if_neg (by omega), if_neg (by simp only [List.length_append]; omega)]
  have e1 : (layN t.length ++ (t ++ r)).drop (layN t.length).length = t ++ r := List.drop_left
  rw [e1, List.take_left, ← List.drop_drop, e1, List.drop_left]
theorem rdNum_len {most : Nat} {l r : List UInt8} {v : Nat} (h : rdNum most l = .ok (v, r)) : r.length ≤ l.length := by
  unfold rdNum at h
  split at h
  split at h
  · cases h
  · split at h
    · cases h
    · simp only [Except.ok.injEq, Prod.mk.injEq] at h
      rw [← h.2, List.length_drop]
      omega
theorem rdText_len {most : Nat} {l r : List UInt8} {v : List UInt8} (h : rdText most l = .ok (v, r)) : r.length ≤ l.length := by
  unfold rdText at h
  split at h
  split at h
  · cases h
  · split at h
    · cases h
    · split at h
      · cases h
      · simp only [Except.ok.injEq, Prod.mk.injEq] at h
        rw [← h.2, List.length_drop]
        omega
/-- An event, as it is kept. -/
def Ev.ep (e : Ev) : Ep := ⟨e.wr.toNat, e.sq, e.tm, e.kd, if 1 ≤ e.kd ∧ e.kd ≤ 4 then e.key else [], if e.kd = 1 then e.text else [], if e.kd = 2 ∨ e.kd = 3 then bitsF e.num else 0, if e.kd = 5 then e.nd.toNat else 0⟩
theorem bitsF_twice (b : Nat) : bitsF (bitsF b) = bitsF b := by
  unfold bitsF
  split
  · decide +kernel
  · rfl
theorem rdEv_enc {e : Ev} (h1 : e.wr.toNat ≤ 63) (h2 : e.sq < 18446744073709551616) (h3 : e.tm < 18446744073709551616) (h4 : e.kd < 256) (h5 : e.key.length ≤ 64) (h6 : e.text.length ≤ 1048576) (h7 : e.num < 18446744073709551616) (h8 : e.nd.toNat ≤ 63) : rdEv e.enc = .ok e.ep := by
  have q1 := rdNum_lay 63 e.wr.toNat (by omega) h1 (layN e.sq ++ layN e.tm ++ [UInt8.ofNat e.kd] ++ e.keyB ++ e.restB)
  have q2 := rdNum_lay 18446744073709551615 e.sq h2 (by omega) (layN e.tm ++ [UInt8.ofNat e.kd] ++ e.keyB ++ e.restB)
  have q3 := rdNum_lay 18446744073709551615 e.tm h3 (by omega) ([UInt8.ofNat e.kd] ++ e.keyB ++ e.restB)
  simp only [List.append_assoc, List.cons_append, List.nil_append] at q1 q2 q3
  have hk : (UInt8.ofNat e.kd).toNat = e.kd := by simp; omega
  have q4 : rdKey e.kd (e.keyB ++ e.restB) = .ok (if 1 ≤ e.kd ∧ e.kd ≤ 4 then e.key else [], e.restB) := by
    unfold rdKey Ev.keyB
    split
    · exact rdText_text 64 e.key h5 (by decide) _
    · simp
  have q5 : rdRest e.kd e.restB = .ok ((if e.kd = 1 then e.text else [], if e.kd = 2 ∨ e.kd = 3 then bitsF e.num else 0, if e.kd = 5 then e.nd.toNat else 0), []) := by
    unfold rdRest Ev.restB
    by_cases k1 : e.kd = 1
    · have := rdText_text 1048576 e.text h6 (by decide) []
      rw [List.append_nil] at this
      simp [k1, this]
    · by_cases k2 : e.kd = 2 ∨ e.kd = 3
      · have := rdFix_fixB (bitsF_lt h7) []
        rw [List.append_nil] at this
        have k5 : e.kd ≠ 5 := by omega
        simp [k1, k2, k5, this, bitsF_twice]
      · by_cases k5 : e.kd = 5
        · have := rdNum_lay 63 e.nd.toNat (by omega) h8 []
          rw [List.append_nil] at this
          simp [k5, this]
        · simp [k1, k2, k5]
  unfold rdEv Ev.enc Ev.ep
  simp only [List.append_assoc, q1, q2, q3, List.cons_append, List.nil_append, rdByte, hk, q4, q5, if_true]
end Go.Proofs.YtfhmamkafancbaaGreatDoor

/-
  Layer 4 (disk): what a disk is; New, act, On, Room.
-/
namespace Go.Proofs.YtfhmamkafancbaaGreatDoor
open Go.RowKit
set_option linter.unusedVariables false
set_option linter.unusedSimpArgs false
structure Fl where
  p : List UInt8
  safe : Nat
structure Dk where
  fs : List (List UInt8 × Fl)
  room : Int
  fuse : Int
  torn : Int
  acts : Int
  off : Bool
/-- How many bytes all files have. -/
def tk (l : List (List UInt8 × Fl)) : Nat := (l.map fun p => p.2.p.length).sum
structure Dk.ok (d : Dk) : Prop where
  total : tk d.fs ≤ 1000000000
  room : -1000000000 ≤ d.room ∧ d.room ≤ 1000000000
  fuse : -9223372036854775808 ≤ d.fuse ∧ d.fuse ≤ 9223372036854775807
  torn : 0 ≤ d.torn ∧ d.torn ≤ 9223372036854775807
  safe : ∀ p ∈ d.fs, p.2.safe ≤ p.2.p.length
  keys : (d.fs.map Prod.fst).Nodup
/-- A file's block. -/
def file (fb : Nat) (f : Fl) : HP :=
  exs fun q : Option Addr × Nat => sep (blk fb [.slice q.1 f.p.length q.2, .int .i64 f.safe] 132) (ownw 5 1 (.slice q.1 f.p.length q.2) f.p.length (bs f.p))
theorem file_open {W w : World} {g : Hl} {H : List HP} {fb : Nat} {f : Fl} (hs : Sat W w g (file fb f :: H)) : ∃ a c, Sat W w g (blk fb [.slice a f.p.length c, .int .i64 f.safe] 132 :: ownw 5 1 (.slice a f.p.length c) f.p.length (bs f.p) :: H) := by
  obtain ⟨⟨a, c⟩, h⟩ := hs.unexs
  exact ⟨a, c, h.split⟩
theorem file_close {W w : World} {g : Hl} {H : List HP} {fb n c : Nat} {a : Option Addr} {l : List UInt8} {s : Nat} {i : Int} (hn : l.length = n) (hi : i = (s : Int)) (hs : Sat W w g (blk fb [.slice a n c, .int .i64 i] 132 :: ownw 5 1 (.slice a n c) n (bs l) :: H)) : Sat W w g (file fb ⟨l, s⟩ :: H) := by
  subst hn hi
  exact Sat.mkexs (a, c) hs.join
abbrev Fs := List (List UInt8 × (Nat × Fl))
/-- A disk without its files' blocks. -/
def dsk (b mb : Nat) (d : Dk) : HP := blk b [.map (some mb), .int .i64 d.room, .int .i64 d.fuse, .int .i64 d.torn, .int .i64 d.acts, .bool d.off] 97
def dmap (mb : Nat) (L : Fs) : HP := mp str mb (L.map fun p => (p.1, ptr p.2.1))
def dfiles (L : Fs) : List HP := L.map fun p => file p.2.1 p.2.2
def Fs.plain (L : Fs) : List (List UInt8 × Fl) := L.map fun p => (p.1, p.2.2)
/-- A disk. -/
def disk (b : Nat) (d : Dk) : HP :=
  exs fun q : Nat × Fs => wit (fun _ => Fs.plain q.2 = d.fs ∧ d.ok) (fun _ _ _ h => h) (sep (dsk b q.1 d) (sep (dmap q.1 q.2) (bsep (dfiles q.2))))
theorem disk_open {W w : World} {g : Hl} {H : List HP} {b : Nat} {d : Dk} (hs : Sat W w g (disk b d :: H)) : ∃ mb L, Fs.plain L = d.fs ∧ d.ok ∧ Sat W w g (dsk b mb d :: dmap mb L :: bsep (dfiles L) :: H) := by
  obtain ⟨⟨mb, L⟩, h⟩ := hs.unexs
  obtain ⟨⟨h1, h2⟩, h3⟩ := h.unwit
  exact ⟨mb, L, h1, h2, h3.split.swap.split.pull2⟩
theorem disk_close {W w : World} {g : Hl} {H : List HP} {b mb : Nat} {d : Dk} {L : Fs} (h1 : Fs.plain L = d.fs) (h2 : d.ok) (hs : Sat W w g (dsk b mb d :: dmap mb L :: bsep (dfiles L) :: H)) : Sat W w g (disk b d :: H) :=
  Sat.mkexs (mb, L) (Sat.mkwit ⟨h1, h2⟩ (hs.push2.join.swap.join))
set_option maxHeartbeats 1600000 in
set_option maxRecDepth 100000 in
theorem new_any {R : Ending → World → Prop} {W w : World} {g : Hl} {H : List HP} {room : Int} (hr : -1000000000 ≤ room ∧ room ≤ 1000000000) (hs : Sat W w g H)
    (hR : ∀ b w', Sat W w' g (disk b ⟨[], room, -1, 0, 0, false⟩ :: H) → R (.returned (ptr b)) w') : Calls Tryz.prog 12 #[.int .i64 room] w R := by
  have HR := Lib.hid hR
  clear hR
  refine C.calls (args := [.int .i64 room]) Tryz.func12 rfl rfl rfl ?_
  refine go ?_
  apply E.cons
  apply St.makeMap (List UInt8) str hs
  intro mb w1 hs
  refine go ?_
  refine E.bx hs ?_
  intro b w2 hs
  refine go ?_
  refine A.r1 ?_
  refine HR.out b _ (disk_close (mb := mb) (L := []) rfl ?_ ?_)
  · exact ⟨by simp [tk], hr, ⟨by simp, by simp⟩, ⟨by simp, by simp⟩, by simp, by simp⟩
  · exact Sat.push2 hs.mknothing
/-- How an act goes. -/
def Dk.act (d : Dk) : Int × Dk :=
  if d.off then (7, d) else
  if d.fuse = 0 then (7, { d with acts := IntKind.i64.wrap (d.acts + 1), off := true }) else
  if 0 < d.fuse then (0, { d with acts := IntKind.i64.wrap (d.acts + 1), fuse := d.fuse - 1 }) else (0, { d with acts := IntKind.i64.wrap (d.acts + 1) })
theorem Dk.act_ok {d : Dk} (h : d.ok) : d.act.2.ok ∧ d.act.2.fs = d.fs ∧ d.act.2.room = d.room ∧ d.act.2.torn = d.torn := by
  have := h.fuse
  unfold Dk.act
  split
  · exact ⟨h, rfl, rfl, rfl⟩
  split
  · exact ⟨⟨h.total, h.room, h.fuse, h.torn, h.safe, h.keys⟩, rfl, rfl, rfl⟩
  split
  · exact ⟨⟨h.total, h.room, by simp only; omega, h.torn, h.safe, h.keys⟩, rfl, rfl, rfl⟩
  · exact ⟨⟨h.total, h.room, h.fuse, h.torn, h.safe, h.keys⟩, rfl, rfl, rfl⟩
set_option maxHeartbeats 1600000 in
set_option maxRecDepth 100000 in
/-- 'act', of the disk's own block alone. -/
theorem act_dsk {R : Ending → World → Prop} {W w : World} {g : Hl} {H : List HP} {b mb : Nat} {d : Dk} (hs : Sat W w g (dsk b mb d :: H)) (h2 : d.ok)
    (hR : ∀ w', Sat W w' g (dsk b mb d.act.2 :: H) → R (.returned (.int .i64 d.act.1)) w') : Calls Tryz.prog 93 #[ptr b] w R := by
  have HR := Lib.hid hR
  clear hR
  obtain ⟨fs, room, fuse, torn, acts, off⟩ := d
  have hfu := h2.fuse
  simp only [dsk] at hs hfu
  cases off with
  | true =>
    refine C.calls (args := [ptr b]) Tryz.func93 rfl rfl rfl ?_
    refine go ?_
    refine A.r1 ?_
    exact HR.out _ hs
  | false =>
    refine C.calls (args := [ptr b]) Tryz.func93 rfl rfl rfl ?_
    refine go ?_
    refine E.sto hs ?_
    intro w1 hs
    refine go ?_
    refine C.cond_dec (p := fuse = 0) rfl (fun h0 => ?_) (fun h0 => ?_)
    · refine go ?_
      refine E.sto hs ?_
      intro w2 hs
      refine go ?_
      refine A.r1 ?_
      have := HR.out w2
      simp only [Dk.act, Bool.false_eq_true, if_false, h0, if_true, dsk] at this
      subst h0
      exact this hs
    · refine go ?_
      refine C.cond_dec (p := 0 < fuse) rfl (fun h1 => ?_) (fun h1 => ?_)
      · refine go ?_
        refine E.sto hs ?_
        intro w2 hs
        refine go ?_
        refine A.r1 ?_
        have := HR.out w2
        simp only [Dk.act, Bool.false_eq_true, if_false, h0, h1, if_true, dsk] at this
        exact this hs
      · refine go ?_
        refine A.r1 ?_
        have := HR.out w1
        simp only [Dk.act, Bool.false_eq_true, if_false, h0, h1, dsk] at this
        exact this hs
set_option maxHeartbeats 1600000 in
set_option maxRecDepth 100000 in
theorem on_dsk {R : Ending → World → Prop} {W w : World} {g : Hl} {H : List HP} {b mb : Nat} {d : Dk} (hs : Sat W w g (dsk b mb d :: H)) (hR : R (.returned (.bool (!d.off))) w) : Calls Tryz.prog 32 #[ptr b] w R := by
  have HR := Lib.hid hR
  clear hR
  simp only [dsk] at hs
  refine C.calls (args := [ptr b]) Tryz.func32 rfl rfl rfl ?_
  refine go ?_
  refine A.r1 ?_
  exact HR.out
theorem tk_append (a b : List (List UInt8 × Fl)) : tk (a ++ b) = tk a + tk b := by simp [tk]
theorem tk_cons (p : List UInt8 × Fl) (b : List (List UInt8 × Fl)) : tk (p :: b) = p.2.p.length + tk b := by simp [tk]
/-- Some files are still to come, as the map tells them. -/
theorem todo_split {todo : List (List UInt8 × Value)} : ∀ {L' : Fs}, todo = L'.map (fun p => (p.1, ptr p.2.1)) → ∀ {t1 t2 : List (List UInt8 × Value)} {p : List UInt8 × Value}, todo = t1 ++ p :: t2 → ∃ l1 q l2, L' = l1 ++ q :: l2 ∧ p = (q.1, ptr q.2.1) ∧ t1 ++ t2 = (l1 ++ l2).map (fun p => (p.1, ptr p.2.1)) := by
  intro L' h t1 t2 p ht
  rw [ht] at h
  obtain ⟨l1, l2, rfl, h1, h2⟩ := List.map_eq_append_iff.1 h.symm
  obtain ⟨q, l3, rfl, h3, h4⟩ := List.map_eq_cons_iff.1 h2
  exact ⟨l1, q, l3, rfl, h3.symm, by rw [List.map_append, h1, h4]⟩
theorem files_out {W w : World} {g : Hl} {H : List HP} {L1 L2 : Fs} {q : List UInt8 × (Nat × Fl)} (hs : Sat W w g (bsep (dfiles (L1 ++ q :: L2)) :: H)) : Sat W w g (file q.2.1 q.2.2 :: bsep (dfiles (L1 ++ L2)) :: H) := by
  have h1 := hs.bopen
  simp only [dfiles, List.map_append, List.map_cons, List.append_assoc, List.cons_append] at h1
  have h2 := h1.toFront
  rw [← List.append_assoc, ← List.map_append] at h2
  exact (Sat.bclose (l := dfiles (L1 ++ L2)) (h2.toBack)).swap
theorem files_in {W w : World} {g : Hl} {H : List HP} {L1 L2 : Fs} {q : List UInt8 × (Nat × Fl)} (hs : Sat W w g (file q.2.1 q.2.2 :: bsep (dfiles (L1 ++ L2)) :: H)) : Sat W w g (bsep (dfiles (L1 ++ q :: L2)) :: H) := by
  have h1 := hs.swap.bopen
  simp only [dfiles, List.map_append, List.append_assoc] at h1
  apply Sat.bclose
  simp only [dfiles, List.map_append, List.map_cons, List.append_assoc, List.cons_append]
  refine h1.perm ?_
  refine List.Perm.append_left _ ?_
  exact List.perm_middle
set_option maxHeartbeats 1600000 in
set_option maxRecDepth 100000 in
/-- 'Room': how much there is, and how much is taken. -/
theorem room_any {R : Ending → World → Prop} {W w : World} {g : Hl} {H : List HP} {b mb : Nat} {d : Dk} {L : Fs} (hs : Sat W w g (dsk b mb d :: dmap mb L :: bsep (dfiles L) :: H)) (hL : tk (Fs.plain L) ≤ 1000000000)
    (hR : ∀ w', Sat W w' g (dsk b mb d :: dmap mb L :: bsep (dfiles L) :: H) → R (.returned (.tuple #[.int .i64 d.room, .int .i64 (tk (Fs.plain L) : Nat)])) w') : Calls Tryz.prog 27 #[ptr b] w R := by
  have HR := Lib.hid hR
  clear hR
  simp only [dsk, dmap] at hs
  refine C.calls (args := [ptr b]) Tryz.func27 rfl rfl rfl ?_
  refine go ?_
  refine E.range Tryz.underlying95 hs.swap ?_
  intro r w1 hs
  refine gob ?_
  refine C.block ?_
  refine C.lp (fun x : Nat × Fs × Option (List UInt8 × Value) => [(0, ptr b), (4, .int .i64 x.1), (13, .pointer (some ⟨r, 0, none⟩))])
    (fun gk x w => gk = x.2.1.length ∧ x.1 + tk (Fs.plain x.2.1) = tk (Fs.plain L) ∧ (∀ q ∈ x.2.1, q ∈ L) ∧ Sat W w g (iter str mb r (L.map fun p => (p.1, ptr p.2.1)) (x.2.1.map fun p => (p.1, ptr p.2.1)) x.2.2 :: dsk b mb d :: bsep (dfiles L) :: H)) L.length (0, L, none) ⟨rfl, by simp, fun q h => h, hs⟩ ?_
  clear hs
  rintro gk ⟨acc, T, cur⟩ w2 ⟨rfl, hacc, hT, hs⟩
  simp only at hacc hT hs ⊢
  refine go ?_
  refine E.next hs (fun h0 => ?_) (fun t1 p t2 w3 ht hs => ?_)
  · have hT0 : T = [] := by simpa using h0
    subst hT0
    simp only [dsk] at hs
    have hs := (iter_end hs).swap
    refine go ?_
    refine A.r2 ?_
    have e : (acc : Int) = (tk (Fs.plain L) : Nat) := by
      rw [← hacc]; simp [Fs.plain, tk]
    rw [e]
    exact HR.out _ hs
  · obtain ⟨l1, q, l2, rfl, rfl, h2⟩ := todo_split rfl ht
    refine go ?_
    refine E.entry hs ?_
    refine go ?_
    obtain ⟨L1, L2, hL12⟩ := List.append_of_mem (hT q (by simp))
    have ho := hs.pull2
    rw [hL12] at ho
    obtain ⟨a, c, ho⟩ := file_open (files_out ho)
    refine E.ld ho ?_
    have e1 : tk (Fs.plain (l1 ++ q :: l2)) = q.2.2.p.length + tk (Fs.plain (l1 ++ l2)) := by
      simp only [Fs.plain, List.map_append, List.map_cons, tk_append, tk_cons]; omega
    have e2 : acc + q.2.2.p.length ≤ 1000000000 := by omega
    refine go ?_
    rw [h2] at hs
    refine A.rd (l1 ++ l2).length (acc + q.2.2.p.length, l1 ++ l2, some (q.1, ptr q.2.1)) ⟨rfl, ?_, ?_, hs⟩
    · simp only; omega
    · intro q' hq'
      exact hT q' (by simp only [List.mem_append, List.mem_cons] at hq' ⊢; rcases hq' with h | h <;> simp [h])
end Go.Proofs.YtfhmamkafancbaaGreatDoor

/-
  The stepping engine: a slice of one struct.
-/
namespace Go.Proofs.YtfhmamkafancbaaGreatDoor
open Go.RowKit
set_option linter.unusedVariables false
set_option linter.unusedSimpArgs false
set_option linter.unusedSectionVars false
theorem foldl_fill : ∀ (vs : List Value) (k : Nat) (pre xs : List Value), pre.length = k → xs.length = vs.length →
    (vs.zipIdx k).foldl (fun (cs : Array Value) (p : Value × Nat) => cs.setIfInBounds (0 + p.2) p.1) (pre ++ xs).toArray = (pre ++ vs).toArray
  | [], k, pre, xs, _, h => by
    obtain rfl : xs = [] := List.eq_nil_of_length_eq_zero (by simpa using h)
    rfl
  | v :: r, k, pre, x :: xs, hk, h => by
    subst hk
    simp only [List.zipIdx_cons, List.foldl_cons, Nat.zero_add]
    have e : (pre ++ x :: xs).toArray.setIfInBounds pre.length v = ((pre ++ [v]) ++ xs).toArray := by
      apply Array.ext'
      simp
    rw [e]
    have := foldl_fill r (pre.length + 1) (pre ++ [v]) xs (by simp) (by simpa using h)
    simp only [Nat.zero_add] at this
    rw [this]
    simp
section
variable {P : Program} {n : Fm} {ρ : List (Nat × Value)} {W w w' : World} {g : Hl} {H : List HP} {Q : Exit → Act → World → Prop} {ops : Array Oper} {rest : List Oper} {d : Option Tmp} {ty : TypeId} {ps : String} {af : Array Edge} {t e : TypeId} {z : Value} {s bytes : Nat} {cs : List Value}
theorem run_bsl_agg (he : ElemOf P t e z s bytes) (hc : cs.length = s) (hs : s ≤ 16777216) (w : World) : (Instr.buildSlice t 1 #[(0, .agg cs.toArray)]).run P w = .ok (.slice (some ⟨w.heap.size, 0, none⟩) 1 1) (w.alloc (.cells cs.toArray e)) := by
  obtain ⟨ht, ⟨inf, hin, hz, hsz, hby⟩, hzs, hpos⟩ := he
  have h1 : ¬ (1 * s > 2 ^ 24) := by omega
  have h2 : ¬ (1 * s = 0) := by omega
  have hzv : (zeroValue e).run P w = .ok z w := by simp [zeroValue, typeInfo, hin, hz, Result.andThen]
  have hl : (((Array.range (1 * s)).map (z.cells[· % z.cells.size]!)).toList).length = cs.length := by simp [hc]
  have hf : Instr.fill (fun i => some (i * s, s)) ((Array.range (1 * s)).map (z.cells[· % z.cells.size]!)) [(0, Value.agg cs.toArray)] = some cs.toArray := by
    have h3 : ¬ ((Value.agg cs.toArray).cells.size ≠ s || decide (0 * s + (Value.agg cs.toArray).cells.size > ((Array.range (1 * s)).map (z.cells[· % z.cells.size]!)).size)) = true := by
      simp [Value.cells, hc]
    simp only [Instr.fill]
    rw [if_neg h3]
    have := foldl_fill cs 0 [] ((Array.range (1 * s)).map (z.cells[· % z.cells.size]!)).toList rfl hl
    simp only [List.nil_append, Array.toArray_toList] at this
    refine congrArg some (Eq.trans ?_ this)
    simp only [Value.cells, Nat.zero_mul]
    rw [← Array.foldl_toList]
    simp
  unfold Instr.buildSlice
  simp only [Sem.run_bind, run_underlying ht, Result.andThen_ok, sizeOf, run_typeInfo_some hin, Sem.run_pure, hsz, if_neg h1, if_neg h2, hzv, hf]
  simp [newRow]
theorem E.bsle (he : ElemOf P t e z s bytes) (hs : Sat W w g H) (hc : cs.length = s) (h : ∀ b w', Sat W w' g (blk b cs e :: H) → E P n ops rest (pushv d (.slice (some ⟨b, 0, none⟩) 1 1) ρ) w' Q) {x : Operand} (hx : evo n ρ x = some (.agg cs.toArray) := by exact rfl) (hsm : s ≤ 16777216 := by decide) :
    E P n ops (⟨d, .buildSlice t 1 #[(0, x)], ty, ps, af, none⟩ :: rest) ρ w Q :=
  E.cons (St.buildSlice hs (xs := [(0, .agg cs.toArray)]) (by simp only [evp, hx]) (run_bsl_agg he hc hsm w) h)
theorem EH.bsle {l : List Oper} {S : World → Prop} {fuel m i : Nat} (he : ElemOf P t e z s bytes) (hs : Sat W w g H) (hc : cs.length = s) (h : ∀ b w', Sat W w' g (blk b cs e :: H) → S w' ∧ EH P n l S fuel (bset m i) (pushv d (.slice (some ⟨b, 0, none⟩) 1 1) ρ) w' Q) {x : Operand} (hr : rdy m l.length 0 l = [i] := by exact rfl) (hi : nth l i = some ⟨d, .buildSlice t 1 #[(0, x)], ty, ps, af, none⟩ := by exact rfl) (hx : evo n ρ x = some (.agg cs.toArray) := by exact rfl) (hsm : s ≤ 16777216 := by decide) :
    EH P n l S (fuel + 1) m ρ w Q := EH.one (St.buildSlice hs (xs := [(0, .agg cs.toArray)]) (by simp only [evp, hx]) (run_bsl_agg he hc hsm w) h) hr hi
end
end Go.Proofs.YtfhmamkafancbaaGreatDoor

/-
  s[l:h] of a row of structs in a drawn region; a rest within a region that is walked once.
-/
namespace Go.Proofs.YtfhmamkafancbaaGreatDoor
open Go.RowKit
set_option linter.unusedVariables false
set_option linter.unusedSimpArgs false
section
variable {P : Program} {n : Fm} {ρ : List (Nat × Value)} {W w w' : World} {g g' : Hl} {H H' : List HP} {Q : Exit → Act → World → Prop} {l : List Oper} {S : World → Prop} {fuel m : Nat} {d : Option Tmp} {ty : TypeId} {ps : String} {af : Array Edge} {gd : Option (Nat × Bool)} {v u : Value} {x y : Operand} {o : Op} {F : List (Nat × List Value × TypeId)} {i b k s : Nat} {rs : List Nat} {t e : TypeId} {z : Value} {bytes : Nat} {a : Option Addr} {len c : Nat} {lo hi mx : Option Operand} {vl vh vm : Option Value}
end
section
variable {P : Program} {n : Fm} {ρ : List (Nat × Value)} {W w w' : World} {g g' : Hl} {H H' : List HP} {N : List (Nat × Value) → World → Prop} {Q : Exit → Act → World → Prop} {ops : Array Oper} {rest : List Oper} {d : Option Tmp} {ty : TypeId} {ps : String} {af : Array Edge} {v u : Value} {x y : Operand} {e t : TypeId}
/-- []byte(s): the bytes are the pool's. -/
theorem St.bytes {l : List UInt8} {dt : TypeId} (h1 : P.underlying t = some .string) (h2 : P.underlying dt = some (.slice e)) (h3 : P.underlying e = some (.int .u8)) (hs : Sat W w g H) (hl : l.length ≤ 1000000000)
    (h : ∀ b c w' g', Hl.le g g' → Sat W w' g' H → Pr 1 g' (.slice (some ⟨b, 0, none⟩) l.length c) l.length (bs l) → N (pushv d (.slice (some ⟨b, 0, none⟩) l.length c) ρ) w') (hx : evo n ρ x = some (.string ⟨l.toArray⟩) := by exact rfl) :
    St P n ops ⟨d, .convert t dt x, ty, ps, af, none⟩ ρ w N Q := by
  have hr := Go.Lib.run_convert_string_bytes w t dt e ⟨l.toArray⟩ h1 h2 h3
  have hsz : (⟨l.toArray⟩ : ByteArray).size = l.length := by simp [ByteArray.size]
  rw [hsz] at hr
  have hn : Sat W (Go.Lib.bytesWorld w e ⟨l.toArray⟩) g (obj w.heap.size (.cells (Go.Lib.bytesCells w e ⟨l.toArray⟩) e ((Go.Lib.bytesCells w e ⟨l.toArray⟩).size, (Go.Lib.bytesCells w e ⟨l.toArray⟩).size + 1)) :: H) := by
    refine hs.new (Nat.le_refl _) ?_ ?_ ?_ (fun k hk => Go.Lib.bytesWorld_at_old w e _ k hk) (Go.Lib.bytesWorld_at_new w e _)
    · simp [Go.Lib.bytesWorld, World.freeze, World.alloc, World.drew, -World.alloc_eq, -World.drew_eq]
    · simp [Go.Lib.bytesWorld, World.freeze, World.alloc, World.drew, -World.alloc_eq, -World.drew_eq]
    · simp [Go.Lib.bytesWorld, World.freeze, World.alloc, World.drew, -World.alloc_eq, -World.drew_eq]
  obtain ⟨h1, e1, e2, e3, hs2⟩ := hn.publish
  have e1' : h1 = Hl.one w.heap.size (.cells (Go.Lib.bytesCells w e ⟨l.toArray⟩) e ((Go.Lib.bytesCells w e ⟨l.toArray⟩).size, (Go.Lib.bytesCells w e ⟨l.toArray⟩).size + 1)) := e1
  have hcap : l.length ≤ grownCap w l.length 0 e ∧ grownCap w l.length 0 e ≤ 9223372036854775807 := by
    unfold grownCap
    simp only [Question.cut]
    have h0 : 0 < 2 ^ 63 - l.length := by omega
    generalize w.tape w.drawn (Question.appendCap l.length 0 e) = T
    have h1 := Nat.mod_lt T h0
    generalize T % (2 ^ 63 - l.length) = T' at h1 ⊢
    constructor <;> omega
  refine (St.val (v := .slice (some ⟨w.heap.size, 0, none⟩) l.length (grownCap w l.length 0 e)) (w' := Go.Lib.bytesWorld w e ⟨l.toArray⟩) (fun a ha => by simp [execOp, ha.eval hx, hr]) (h _ _ _ _ e2 hs2 ?_))
  refine ⟨by simp, some ⟨w.heap.size, 0, none⟩, grownCap w l.length 0 e, rfl, hcap.1, by unfold maxLen; omega, fun q => by simp at q, Or.inr ⟨w.heap.size, 0, _, _, _, rfl, e3 _ _ (show h1 w.heap.size = some _ from by rw [e1']; simp only [Hl.one, if_true]; rfl), ?_⟩⟩
  simp only [Go.Lib.bytesCells, List.drop_zero, Nat.mul_one, Array.toList_append, Array.toList_map, List.map_toArray]
  rw [List.take_append_of_le_length (by simp), List.take_of_length_le (by simp)]
  simp [bs]
end
theorem E.forget {P : Program} {n : Fm} {ρ ρ' : List (Nat × Value)} {w : World} {Q : Exit → Act → World → Prop} {ops : Array Oper} {rest : List Oper} (hw : Weak ρ ρ') (h : E P n ops rest ρ' w Q) : E P n ops rest ρ w Q := by
  unfold E at *
  exact fun a ha => h a (ha.weak hw)
/-- The same as 'later' within a region. -/
theorem laterE {α : Type} {P : Program} {n : Fm} {ops : Array Oper} {rest : List Oper} {Q : Exit → Act → World → Prop} {f : α → List (Nat × Value)} {M : α → World → Prop} {G : Prop} (main : (∀ x w, M x w → E P n ops rest (f x) w Q) → G) (key : ∀ x w, M x w → E P n ops rest (f x) w Q) : G := main key
theorem EH.forget {P : Program} {n : Fm} {l : List Oper} {S : World → Prop} {fuel m : Nat} {ρ ρ' : List (Nat × Value)} {w : World} {Q : Exit → Act → World → Prop} (hw : Weak ρ ρ') (h : EH P n l S fuel m ρ' w Q) : EH P n l S fuel m ρ w Q := by
  unfold EH at *
  exact fun a ha => h a (ha.weak hw)
/-- The same as 'later' within a drawn region. -/
theorem laterH {α : Type} {P : Program} {n : Fm} {l : List Oper} {S : World → Prop} {fuel m : Nat} {Q : Exit → Act → World → Prop} {f : α → List (Nat × Value)} {M : α → World → Prop} {G : Prop} (main : (∀ x w, M x w → EH P n l S fuel m (f x) w Q) → G) (key : ∀ x w, M x w → EH P n l S fuel m (f x) w Q) : G := main key
end Go.Proofs.YtfhmamkafancbaaGreatDoor

/-
  Layer 4 (disk): which names a file may have.
-/
namespace Go.Proofs.YtfhmamkafancbaaGreatDoor
open Go.RowKit
set_option linter.unusedVariables false
set_option linter.unusedSimpArgs false
/-- May a name have that byte? -/
def okB (b : UInt8) : Bool := (97 ≤ b.toNat && b.toNat ≤ 122) || (48 ≤ b.toNat && b.toNat ≤ 57) || b.toNat == 46 || b.toNat == 45
def namedB (l : List UInt8) : Bool := !l.isEmpty && decide (l.length ≤ 48) && l.all okB
/-- A character that no name has. -/
def badR (c : Int) : Bool := (decide (c < 97) || decide (122 < c)) && (decide (c < 48) || decide (57 < c)) && !decide (c = 46) && !decide (c = 45)
theorem badR_okB (b : UInt8) : badR b.toNat = !okB b := by
  have : ∀ n : Fin 256, badR (n.val : Nat) = !((97 ≤ n.val && n.val ≤ 122) || (48 ≤ n.val && n.val ≤ 57) || n.val == 46 || n.val == 45) := by decide +kernel
  exact this ⟨b.toNat, b.toNat_lt⟩
theorem badR_big {c : Nat} (h : 128 ≤ c) : badR c = true := by
  have h1 : decide ((122 : Int) < c) = true := by simp; omega
  have h2 : decide ((57 : Int) < c) = true := by simp; omega
  have h3 : decide ((c : Int) = 46) = false := by simp; omega
  have h4 : decide ((c : Int) = 45) = false := by simp; omega
  simp [badR, h1, h2, h3, h4]
set_option maxHeartbeats 1600000 in
set_option maxRecDepth 100000 in
theorem badR_any {R : Ending → World → Prop} {w : World} (c : Int) (hR : R (.returned (.bool (badR c))) w) : Calls Tryz.prog 164 #[.int .i32 c] w R := by
  have HR := Lib.hid hR
  clear hR
  refine C.calls (args := [.int .i32 c]) Tryz.func164 rfl rfl rfl ?_
  refine go ?_
  cases h1 : decide (c < 97)
  · refine go ?_
    cases h2 : decide (122 < c)
    · refine go ?_
      refine A.r1 ?_
      have := HR.out
      simpa [badR, h1, h2] using this
    · refine go ?_
      have h3 : decide (c < 48) = false := by simp at h2 ⊢; omega
      rw [h3]
      refine go ?_
      have h4 : decide (57 < c) = true := by simp at h2 ⊢; omega
      rw [h4]
      refine go ?_
      have h5 : decide (c = 46) = false := by simp at h2 ⊢; omega
      rw [h5]
      refine go ?_
      have h6 : decide (c = 45) = false := by simp at h2 ⊢; omega
      rw [h6]
      refine go ?_
      refine A.r1 ?_
      have := HR.out
      simpa [badR, h1, h2, h3, h4, h5, h6] using this
  · refine go ?_
    cases h3 : decide (c < 48)
    · refine go ?_
      cases h4 : decide (57 < c)
      · refine go ?_
        refine A.r1 ?_
        have := HR.out
        simpa [badR, h1, h3, h4] using this
      · refine go ?_
        have h5 : decide (c = 46) = false := by simp at h4 ⊢; omega
        rw [h5]
        refine go ?_
        have h6 : decide (c = 45) = false := by simp at h4 ⊢; omega
        rw [h6]
        refine go ?_
        refine A.r1 ?_
        have := HR.out
        simpa [badR, h1, h3, h4, h5, h6] using this
    · refine go ?_
      cases h5 : decide (c = 46)
      · refine go ?_
        cases h6 : decide (c = 45)
        · refine go ?_
          refine A.r1 ?_
          have := HR.out
          simpa [badR, h1, h3, h5, h6] using this
        · refine go ?_
          refine A.r1 ?_
          have := HR.out
          simpa [badR, h1, h3, h5, h6] using this
      · refine go ?_
        refine A.r1 ?_
        have := HR.out
        simpa [badR, h1, h3, h5] using this
theorem get_str (l : List UInt8) (i : Nat) (h : i < l.length) : (ByteArray.mk l.toArray).get! i = l[i] := by
  simp [ByteArray.get!, h]
theorem decode_ascii (l : List UInt8) (i : Nat) (h : i < l.length) (hb : l[i].toNat < 128) : Utf8.decode ⟨l.toArray⟩ i = (l[i].toNat, 1) := by
  simp only [Utf8.decode, Nat.add_zero, get_str l i h]
  rw [if_pos hb]
theorem decode_big (l : List UInt8) (i : Nat) (h : i < l.length) (hb : ¬ l[i].toNat < 128) : 128 ≤ (Utf8.decode ⟨l.toArray⟩ i).1 := by
  simp only [Utf8.decode, Nat.add_zero, get_str l i h]
  rw [if_neg hb]
  have hr : 128 ≤ Utf8.runeError := by decide
  repeat' split
  all_goals (first | exact hr | (rename_i h; simp only [ge_iff_le, Bool.and_eq_true, decide_eq_true_eq] at h; simp only; omega))
theorem okB_lt {b : UInt8} (h : okB b = true) : b.toNat < 128 := by
  simp only [okB, Bool.or_eq_true, Bool.and_eq_true, decide_eq_true_eq, beq_iff_eq] at h
  omega
set_option maxHeartbeats 1600000 in
set_option maxRecDepth 100000 in
theorem indexFunc_bad {R : Ending → World → Prop} {W w : World} {g : Hl} {H : List HP} (l : List UInt8) (hl : l.length ≤ 1000) (hs : Sat W w g H)
    (hR : ∀ w' i, Sat W w' g H → (0 ≤ i ↔ l.all okB = false) → R (.returned (.int .i64 i)) w') : Calls Tryz.prog 244 #[str l, .func (.func 164) #[] #[], .bool true] w R := by
  have HR := Lib.hid hR
  clear hR
  refine C.calls (args := [str l, .func (.func 164) #[] #[], .bool true]) Tryz.func244 rfl rfl rfl ?_
  refine go ?_
  refine E.ranges hs ?_
  intro r w1 hs
  refine gob ?_
  refine C.block ?_
  refine C.lp (fun i : Nat => [(0, str l), (1, .func (.func 164) #[] #[]), (2, .bool true), (10, .pointer (some ⟨r, 0, none⟩))])
    (fun gk i w => gk = l.length - i ∧ i ≤ l.length ∧ (l.take i).all okB = true ∧ Sat W w g (obj r (.stringIter ⟨l.toArray⟩ i) :: H)) l.length 0 ⟨rfl, by omega, by simp, hs⟩ ?_
  clear hs
  rintro gk i w2 ⟨rfl, hi, hall, hs⟩
  refine go ?_
  have hsz : (ByteArray.mk l.toArray).size = l.length := by simp [ByteArray.size]
  refine E.nexts hs (fun h0 => ?_) (fun w3 h1 hs => ?_)
  · rw [hsz] at h0
    refine go ?_
    refine A.r1 ?_
    have hil : i = l.length := by omega
    rw [hil, List.take_length] at hall
    exact HR.out _ _ hs.drop (by simp [hall])
  · rw [hsz] at h1
    have hall2 : (l.take (i + 1)).all okB = ((l.take i).all okB && okB l[i]) := by
      rw [List.take_succ_eq_append_getElem h1, List.all_append]; simp
    refine go ?_
    refine E.callv Tryz.func164 rfl rfl rfl ?_
    refine badR_any _ ?_
    by_cases hb : l[i].toNat < 128
    · rw [decode_ascii l i h1 hb] at hs ⊢
      simp only at hs ⊢
      cases hk : okB l[i] with
      | true =>
        have hbr : badR (l[i].toNat : Nat) = false := by rw [badR_okB, hk]; rfl
        rw [hbr]
        refine go ?_
        exact A.rd (l.length - (i + 1)) (i + 1) ⟨rfl, by omega, by rw [hall2, hall, hk]; rfl, hs⟩
      | false =>
        have hbr : badR (l[i].toNat : Nat) = true := by rw [badR_okB, hk]; rfl
        rw [hbr]
        refine go ?_
        refine A.r1 ?_
        refine HR.out _ _ hs.drop ⟨fun _ => ?_, fun _ => by omega⟩
        cases hA : l.all okB with
        | false => rfl
        | true => rw [List.all_eq_true.1 hA _ (List.getElem_mem h1)] at hk; cases hk
    · have hbr := badR_big (decode_big l i h1 hb)
      rw [hbr]
      refine go ?_
      refine A.r1 ?_
      refine HR.out _ _ hs.drop ⟨fun _ => ?_, fun _ => by omega⟩
      cases hA : l.all okB with
      | false => rfl
      | true => exact absurd (okB_lt (List.all_eq_true.1 hA _ (List.getElem_mem h1))) hb
set_option maxHeartbeats 1600000 in
set_option maxRecDepth 100000 in
theorem named_any {R : Ending → World → Prop} {W w : World} {g : Hl} {H : List HP} (l : List UInt8) (hs : Sat W w g H)
    (hR : ∀ w', Sat W w' g H → R (.returned (.bool (namedB l))) w') : Calls Tryz.prog 92 #[str l] w R := by
  have HR := Lib.hid hR
  clear hR
  refine C.calls (args := [str l]) Tryz.func92 rfl rfl rfl ?_
  refine go ?_
  cases h0 : decide (l = [])
  · refine go ?_
    cases h1 : decide ((l.length : Int) ≤ 48)
    · refine go ?_
      refine A.r1 ?_
      have h1' : ¬ l.length ≤ 48 := by simp at h1; omega
      have := HR.out _ hs
      rw [show namedB l = false by simp [namedB, h1']] at this
      exact this
    · have h1' : l.length ≤ 48 := by simp at h1; omega
      have h0' : l ≠ [] := by simpa using h0
      refine go ?_
      refine E.callf Tryz.func163 rfl ?_
      refine ?_
      refine C.calls (args := [str l, .func (.func 164) #[] #[]]) Tryz.func163 rfl rfl rfl ?_
      refine go ?_
      refine E.callf Tryz.func208 rfl ?_
      refine ?_
      refine C.calls (args := [str l, .func (.func 164) #[] #[]]) Tryz.func208 rfl rfl rfl ?_
      refine go ?_
      refine E.callf Tryz.func244 rfl ?_
      refine indexFunc_bad l (by omega) hs ?_
      intro w1 i hs hi
      refine go ?_
      refine A.r1 ?_
      refine go ?_
      refine A.r1 ?_
      refine go ?_
      refine A.r1 ?_
      have := HR.out _ hs
      have e : (!decide (0 ≤ i)) = namedB l := by
        have : l.isEmpty = false := by cases l <;> simp_all
        simp only [namedB, this, h1']
        cases hA : l.all okB with
        | false => simp [hi.2 hA]
        | true =>
          have : ¬ 0 ≤ i := fun h => by rw [hi.1 h] at hA; cases hA
          simp [this]
      rw [e]
      exact this
  · have h0' : l = [] := by simpa using h0
    subst h0'
    refine go ?_
    refine A.r1 ?_
    exact HR.out _ hs
end Go.Proofs.YtfhmamkafancbaaGreatDoor

/-
  Layer 4 (disk): bytes are written behind a file's.
-/
namespace Go.Proofs.YtfhmamkafancbaaGreatDoor
open Go.RowKit
set_option linter.unusedVariables false
set_option linter.unusedSimpArgs false
section
variable {P : Program} {n : Fm} {ρ : List (Nat × Value)} {W w w' : World} {g g' : Hl} {H H' : List HP} {Q : Exit → Act → World → Prop} {ops : Array Oper} {rest : List Oper} {d : Option Tmp} {ty : TypeId} {ps : String} {af : Array Edge} {x y z : Operand} {mb : Nat} {L : Fs} {name : List UInt8}
/-- A file by its name. -/
theorem E.lookd (hs : Sat W w g H) (hf : Has (dmap mb L) H) (h0 : aget name L = none → E Tryz.prog n ops rest (pushv d (.tuple #[.pointer none, .bool false]) ρ) w Q) (h1 : ∀ fb f, aget name L = some (fb, f) → E Tryz.prog n ops rest (pushv d (.tuple #[ptr fb, .bool true]) ρ) w Q)
    (hx : evo n ρ x = some (.map (some mb)) := by exact rfl) (hy : evo n ρ y = some (str name) := by exact rfl) :
    E Tryz.prog n ops (⟨d, .lookup 95 x y true, ty, ps, af, none⟩ :: rest) ρ w Q := by
  refine E.cons (St.lookup (z := .pointer none) ky_str Tryz.underlying95 (by go_simp) hs hf hx hy ?_)
  have e := alook_map (fun q : Nat × Fl => ptr q.1) name L
  rw [e]
  cases ha : aget name L with
  | none => simpa using h0 ha
  | some q =>
    obtain ⟨fb, f⟩ := q
    simpa using h1 fb f ha
theorem E.setd {fb : Nat} {f : Fl} (hs : Sat W w g H) (hf : Re (dmap mb L) [dmap mb (aput name (fb, f) L)] H H') (h : ∀ w', Sat W w' g H' → E Tryz.prog n ops rest ρ w' Q)
    (hx : evo n ρ x = some (.map (some mb)) := by exact rfl) (hy : evo n ρ y = some (str name) := by exact rfl) (hz : evo n ρ z = some (ptr fb) := by exact rfl) :
    E Tryz.prog n ops (⟨none, .mapUpdate 95 x y z, ty, ps, af, none⟩ :: rest) ρ w Q := by
  have e := aset_map (fun q : Nat × Fl => ptr q.1) name (fb, f) L
  refine E.cons (St.mapUpdate ky_str Tryz.underlying95 hs hx hy hz (l := L.map fun p => (p.1, ptr p.2.1)) ?_ h)
  have : (mp str mb (aset name (ptr fb) (L.map fun p => (p.1, ptr p.2.1)))) = dmap mb (aput name (fb, f) L) := by
    simp only [dmap]; rw [← e]
  rw [this]
  exact hf
theorem E.deld {kt : TypeId} (hs : Sat W w g H) (hf : Re (dmap mb L) [dmap mb (adrop name L)] H H') (h : ∀ w', Sat W w' g H' → E Tryz.prog n ops rest (pushv d (.tuple #[]) ρ) w' Q)
    (hx : evo n ρ x = some (.map (some mb)) := by exact rfl) (hy : evo n ρ y = some (str name) := by exact rfl) :
    E Tryz.prog n ops (⟨d, .call ⟨.builtin .delete, #[x, y], #[95, kt]⟩, ty, ps, af, none⟩ :: rest) ρ w Q := by
  have e := adel_map (fun q : Nat × Fl => ptr q.1) name L
  refine E.cons (St.delete ky_str Tryz.underlying95 hs hx hy (l := L.map fun p => (p.1, ptr p.2.1)) ?_ h)
  have : (mp str mb (adel name (L.map fun p => (p.1, ptr p.2.1)))) = dmap mb (adrop name L) := by
    simp only [dmap]; rw [← e]
  rw [this]
  exact hf
end
def put (name p : List UInt8) (fs : List (List UInt8 × Fl)) : List (List UInt8 × Fl) := aput name ⟨((aget name fs).getD ⟨[], 0⟩).p ++ p, ((aget name fs).getD ⟨[], 0⟩).safe⟩ fs
theorem al_plain (name : List UInt8) (L : Fs) : aget name (Fs.plain L) = (aget name L).map Prod.snd := al_map (fun q : Nat × Fl => q.2) name L
theorem as_plain (name : List UInt8) (q : Nat × Fl) (L : Fs) : aput name q.2 (Fs.plain L) = Fs.plain (aput name q L) := as_map (fun q : Nat × Fl => q.2) name q L
theorem ad_plain (name : List UInt8) (L : Fs) : adrop name (Fs.plain L) = Fs.plain (adrop name L) := ad_map (fun q : Nat × Fl => q.2) name L
theorem Sat.under2 {W w : World} {g : Hl} {A B C D : HP} {H : List HP} (hs : Sat W w g (A :: B :: C :: D :: H)) : Sat W w g (A :: D :: B :: C :: H) := hs.perm (.cons _ ((List.Perm.cons _ (.swap _ _ _)).trans (.swap _ _ _)))
theorem dmap_mid {mb fb : Nat} {f f' : Fl} {name : List UInt8} {L1 L2 : Fs} : dmap mb (L1 ++ (name, (fb, f)) :: L2) = dmap mb (L1 ++ (name, (fb, f')) :: L2) := by simp [dmap]
set_option maxHeartbeats 1600000 in
set_option maxRecDepth 100000 in
theorem write_any {R : Ending → World → Prop} {W w : World} {g : Hl} {H : List HP} {b mb m : Nat} {d : Dk} {L : Fs} {name p : List UInt8} {u : Value} (hs : Sat W w g (dsk b mb d :: dmap mb L :: bsep (dfiles L) :: H)) (hp : Pr 1 g u m (bs p)) (hm : p.length = m) (hL : tk (Fs.plain L) + m ≤ 1000000000)
    (hR : ∀ w' L', Fs.plain L' = put name p (Fs.plain L) → Sat W w' g (dsk b mb d :: dmap mb L' :: bsep (dfiles L') :: H) → R (.returned (.tuple #[])) w') : Calls Tryz.prog 94 #[ptr b, str name, u] w R := by
  have HR := Lib.hid hR
  clear hR
  simp only [dsk] at hs
  refine C.calls (args := [ptr b, str name, u]) Tryz.func94 rfl rfl rfl ?_
  refine go ?_
  refine E.lookd hs (.there .here) (fun h0 => ?_) (fun fb f h1 => ?_)
  · refine go ?_
    refine E.bx hs ?_
    intro fb w1 hs
    refine go ?_
    refine E.setd (f := ⟨p, 0⟩) hs (.there (.there .here)) ?_
    intro w2 hs
    refine go ?_
    refine E.appw el_u8 hs.wnil (hp.row hs) ?_
    intro a c w3 hs
    refine go ?_
    refine E.sto hs ?_
    intro w4 hs
    refine go ?_
    refine A.e0 ?_
    obtain ⟨h2, -⟩ := as_none (v := (fb, (⟨p, 0⟩ : Fl))) h0
    refine HR.out _ (L ++ [(name, (fb, ⟨p, 0⟩))]) ?_ ?_
    · have h3 : aget name (Fs.plain L) = none := by rw [al_plain, h0]; rfl
      simp only [put, h3]
      rw [show (none : Option Fl).getD ⟨[], 0⟩ = ⟨[], 0⟩ from rfl]
      simp only [List.nil_append]
      rw [(as_none h3).1]
      simp [Fs.plain]
    · rw [h2] at hs
      simp only [Nat.zero_add, List.nil_append] at hs
      have hs1 := file_close (s := 0) hm rfl hs.swap
      have hs2 := hs1.under2
      have e0 : dfiles L = dfiles (L ++ []) := by simp
      rw [e0] at hs2
      exact (files_in (q := (name, (fb, ⟨p, 0⟩))) hs2).push2
  · obtain ⟨L1, L2, rfl, h2, -⟩ := al_split h1
    obtain ⟨a, c, hs⟩ := file_open (files_out (q := (name, (fb, f))) hs.pull2)
    simp only at hs
    have hb : f.p.length + m ≤ 1000000000 := by
      have : tk (Fs.plain (L1 ++ (name, (fb, f)) :: L2)) = f.p.length + tk (Fs.plain (L1 ++ L2)) := by
        simp only [Fs.plain, List.map_append, List.map_cons, tk_append, tk_cons]; omega
      omega
    refine go ?_
    refine E.appw el_u8 hs.swap (hp.row hs) ?_
    intro a c w3 hs
    refine go ?_
    refine E.sto hs ?_
    intro w4 hs
    refine go ?_
    refine A.e0 ?_
    rw [← bs_append] at hs
    refine HR.out _ (L1 ++ (name, (fb, ⟨f.p ++ p, f.safe⟩)) :: L2) ?_ ?_
    · simp only [put, al_plain, h1, Option.map_some, Option.getD_some]
      rw [as_plain name (fb, ⟨f.p ++ p, f.safe⟩), h2]
    · rw [dmap_mid (f' := ⟨f.p ++ p, f.safe⟩)] at hs
      have hs1 := file_close (l := f.p ++ p) (by rw [List.length_append, hm]) rfl hs.swap
      exact (files_in (q := (name, (fb, ⟨f.p ++ p, f.safe⟩))) hs1).push2
end Go.Proofs.YtfhmamkafancbaaGreatDoor

/-
  Layer 4 (disk): Append, Sync, Remove, Cut, Move, Read, Widen, Arm.
-/
namespace Go.Proofs.YtfhmamkafancbaaGreatDoor
open Go.RowKit
set_option linter.unusedVariables false
set_option linter.unusedSimpArgs false
theorem take_put_len (name p : List UInt8) : ∀ (fs : List (List UInt8 × Fl)), tk (put name p fs) = tk fs + p.length := by
  intro fs
  unfold put
  cases h : aget name fs with
  | none => rw [(as_none h).1, tk_append]; simp [tk]
  | some f =>
    obtain ⟨l1, l2, rfl, h2, -⟩ := al_split h
    rw [h2]
    simp [tk_append, tk_cons]
    omega
theorem put_keys {β : Type} {name : List UInt8} {v : β} : ∀ {fs : List (List UInt8 × β)}, (fs.map Prod.fst).Nodup → ((aput name v fs).map Prod.fst).Nodup := by
  intro fs hn
  cases h : aget name fs with
  | none =>
    rw [(as_none h).1, List.map_append]
    have : name ∉ fs.map Prod.fst := by
      clear hn
      induction fs with
      | nil => simp
      | cons q r ih =>
        obtain ⟨a, u⟩ := q
        simp only [aget] at h
        split at h
        · cases h
        · rename_i hne
          simp only [List.map_cons, List.mem_cons, not_or]
          exact ⟨hne, ih h⟩
    exact List.nodup_append.2 ⟨hn, by simp, fun a ha c hc => by simp at hc; subst hc; intro e; subst e; exact this ha⟩
  | some f =>
    obtain ⟨l1, l2, rfl, h2, -⟩ := al_split h
    rw [h2]
    simpa using hn
theorem adrop_none {β : Type} {name : List UInt8} : ∀ {fs : List (List UInt8 × β)}, aget name fs = none → adrop name fs = fs
  | [], _ => rfl
  | (a, u) :: r, h => by
    simp only [aget] at h
    split at h
    · cases h
    · rename_i hne
      simp [adrop, hne, adrop_none h]
theorem drop_keys {β : Type} {name : List UInt8} {fs : List (List UInt8 × β)} (hn : (fs.map Prod.fst).Nodup) : ((adrop name fs).map Prod.fst).Nodup := by
  cases h : aget name fs with
  | none => rw [adrop_none h]; exact hn
  | some f =>
    obtain ⟨l1, l2, rfl, -, h2⟩ := al_split h
    rw [h2]
    refine hn.sublist ?_
    rw [List.map_append, List.map_append, List.map_cons]
    exact List.Sublist.append_left (List.sublist_cons_self _ _) _
theorem aget_last {β : Type} {name : List UInt8} {v : β} : ∀ {fs : List (List UInt8 × β)}, aget name fs = none → aget name (fs ++ [(name, v)]) = some v
  | [], _ => by simp [aget]
  | (a, u) :: r, h => by
    simp only [aget] at h
    split at h
    · cases h
    · rename_i hne
      simp only [List.cons_append, aget, hne, if_false]
      exact aget_last h
theorem aput_last {β : Type} {name : List UInt8} {v v' : β} : ∀ {fs : List (List UInt8 × β)}, aget name fs = none → aput name v' (fs ++ [(name, v)]) = fs ++ [(name, v')]
  | [], _ => by simp [aput]
  | (a, u) :: r, h => by
    simp only [aget] at h
    split at h
    · cases h
    · rename_i hne
      simp only [List.cons_append, aput, hne, if_false, aput_last h]
theorem put_ok {d : Dk} {name p : List UInt8} (h : d.ok) (hp : tk d.fs + p.length ≤ 1000000000) : ({ d with fs := put name p d.fs } : Dk).ok := by
  refine ⟨by simp only [take_put_len]; exact hp, h.room, h.fuse, h.torn, ?_, put_keys h.keys⟩
  intro q hq
  simp only [put] at hq
  cases ha : aget name d.fs with
  | none =>
    rw [ha, (as_none ha).1] at hq
    rcases List.mem_append.1 hq with hq | hq
    · exact h.safe q hq
    · simp only [List.mem_singleton] at hq; subst hq; simp
  | some f =>
    obtain ⟨l1, l2, e, h2, -⟩ := al_split ha
    rw [ha, h2] at hq
    simp only [List.mem_append, List.mem_cons] at hq
    rcases hq with hq | rfl | hq
    · exact h.safe q (by rw [e]; simp [hq])
    · have := h.safe (name, f) (by rw [e]; simp)
      simp only [Option.getD_some, List.length_append] at this ⊢
      omega
    · exact h.safe q (by rw [e]; simp [hq])
/-- How 'Append' goes. -/
def Dk.append (d : Dk) (name p : List UInt8) : Int × Dk :=
  if namedB name = false then (1, d) else
  if d.act.1 = 0 then (if d.room - tk d.fs < p.length then (3, d.act.2) else (0, { d.act.2 with fs := put name p d.fs }))
  else (d.act.1, if d.off = false ∧ 0 < d.torn ∧ tk d.fs + min d.torn p.length ≤ d.room then { d.act.2 with fs := put name (p.take (min d.torn p.length).toNat) d.fs } else d.act.2)
set_option maxHeartbeats 1600000 in
set_option maxRecDepth 100000 in
theorem append_any {R : Ending → World → Prop} {W w : World} {g : Hl} {H : List HP} {b n c : Nat} {a : Option Addr} {d : Dk} {name p : List UInt8} (hs : Sat W w g (disk b d :: H)) (hp : Pr 1 g (.slice a n c) n (bs p)) (hn : p.length = n) (hnb : n ≤ 140737488355328)
    (hR : ∀ w', Sat W w' g (disk b (d.append name p).2 :: H) → R (.returned (.int .i64 (d.append name p).1)) w') : Calls Tryz.prog 38 #[ptr b, str name, .slice a n c] w R := by
  have HR := Lib.hid hR
  clear hR
  refine C.calls (args := [ptr b, str name, .slice a n c]) Tryz.func38 rfl rfl rfl ?_
  refine go ?_
  refine E.callf Tryz.func92 rfl ?_
  refine named_any name hs ?_
  intro w1 hs
  cases hN : namedB name with
  | false =>
    refine go ?_
    refine A.r1 ?_
    have := HR.out w1
    simp only [Dk.append, hN, if_true] at this
    exact this hs
  | true =>
    refine go ?_
    obtain ⟨mb, L, hL, hok, hs⟩ := disk_open hs
    have htk := hok.total
    have hrm := hok.room
    rw [← hL] at htk
    refine E.callf Tryz.func27 rfl ?_
    refine room_any hs htk ?_
    intro w2 hs
    refine go ?_
    refine E.callf Tryz.func32 rfl ?_
    refine on_dsk hs ?_
    refine go ?_
    refine E.callf Tryz.func93 rfl ?_
    refine act_dsk hs hok ?_
    intro w3 hs
    obtain ⟨ok1, e1, e2, e3⟩ := Dk.act_ok hok
    have hto := ok1.torn
    have key := HR.out
    simp only [Dk.append, hN, Bool.true_eq_false, if_false, ← hL] at key
    rw [← e3] at key
    generalize d.act = q at hs ok1 e1 e2 e3 hto key ⊢
    obtain ⟨er, d1⟩ := q
    simp only at hs ok1 e1 e2 e3 hto key ⊢
    refine go ?_
    by_cases her : er = 0
    · subst her
      simp only [if_true] at key
      refine go ?_
      refine C.cond_dec (p := d.room - (tk (Fs.plain L) : Nat) < n) rfl (fun hf => ?_) (fun hf => ?_)
      · refine go ?_
        refine A.r1 ?_
        rw [← hn] at hf
        simp only [hf, if_true] at key
        exact key _ (disk_close (hL.trans e1.symm) ok1 hs)
      · refine go ?_
        refine E.callf Tryz.func94 rfl ?_
        refine write_any hs hp hn (by omega) ?_
        intro w4 L' hL' hs
        refine go ?_
        refine A.r1 ?_
        rw [← hn] at hf
        simp only [hf, if_false] at key
        refine key _ (disk_close (L := L') (mb := mb) ?_ ?_ ?_)
        · exact hL'
        · have := put_ok (name := name) (p := p) ok1 (by rw [e1, ← hL]; omega)
          rw [e1, ← hL] at this
          exact this
        · exact hs
    · have hd : (!decide (er = 0)) = true := by simp [her]
      refine C.cond rfl (fun _ => ?_) (fun h => by rw [hd] at h; cases h)
      simp only [her, if_false] at key
      have hs0 := hs
      simp only [dsk] at hs
      have fin : d.off = true ∨ ¬ 0 < d1.torn ∨ ¬ (tk (Fs.plain L) : Nat) + min d1.torn n ≤ d.room → R (.returned (.int .i64 er)) w3 := fun h => by
        have h2 : ¬ (d.off = false ∧ 0 < d1.torn ∧ (tk (Fs.plain L) : Nat) + min d1.torn p.length ≤ d.room) := by
          rintro ⟨a1, a2, a3⟩
          rw [hn] at a3
          rcases h with h | h | h
          · rw [a1] at h; cases h
          · exact h a2
          · exact h a3
        have := key w3
        rw [if_neg h2] at this
        exact this (disk_close (hL.trans e1.symm) ok1 hs0)
      cases hoff : d.off with
      | true =>
        refine go ?_
        refine A.r1 ?_
        exact fin (.inl hoff)
      | false =>
        refine go ?_
        cases h1 : decide (0 < d1.torn)
        · refine go ?_
          refine A.r1 ?_
          exact fin (.inr (.inl (by simpa using h1)))
        · refine go ?_
          have h1' : 0 < d1.torn := by simpa using h1
          refine C.cond_dec (p := (tk (Fs.plain L) : Nat) + min d1.torn n ≤ d.room) rfl (fun h2 => ?_) (fun h2 => ?_)
          · refine go ?_
            have hmn : ∃ k : Nat, min d1.torn (n : Int) = k ∧ k ≤ n := ⟨(min d1.torn (n : Int)).toNat, by omega, by omega⟩
            obtain ⟨k, hk, hkn⟩ := hmn
            rw [hk] at h2 ⊢
            refine E.slb el_u8 hp 0 k ?_
            intro a' c' hp'
            simp only [Nat.sub_zero, List.drop_zero] at hp' ⊢
            refine go ?_
            have hkl : (p.take k).length = k := by rw [List.length_take]; omega
            refine E.callf Tryz.func94 rfl ?_
            refine write_any (d := d1) hs0 hp' hkl (by omega) ?_
            intro w4 L' hL' hs
            refine go ?_
            refine A.r1 ?_
            have := key w4
            rw [if_pos ⟨hoff, h1', by rw [hn, hk]; exact h2⟩, hn, hk] at this
            refine this (disk_close (L := L') (mb := mb) ?_ ?_ ?_)
            · simpa using hL'
            · have := put_ok (name := name) (p := p.take k) ok1 (by rw [e1, ← hL, hkl]; omega)
              rw [e1, ← hL] at this
              simpa using this
            · exact hs
          · refine go ?_
            refine A.r1 ?_
            exact fin (.inr (.inr h2))
end Go.Proofs.YtfhmamkafancbaaGreatDoor

/-
  Layer 4 (disk): Sync, Remove, Cut, Move, Read, Widen.
-/
namespace Go.Proofs.YtfhmamkafancbaaGreatDoor
open Go.RowKit
set_option linter.unusedVariables false
set_option linter.unusedSimpArgs false
def Dk.sync (d : Dk) (name : List UInt8) : Int × Dk :=
  if d.act.1 = 0 then (match aget name d.fs with
    | none => (2, d.act.2)
    | some f => (0, { d.act.2 with fs := aput name ⟨f.p, f.p.length⟩ d.fs }))
  else d.act
def Dk.remove (d : Dk) (name : List UInt8) : Int × Dk :=
  if d.act.1 = 0 then (match aget name d.fs with
    | none => (2, d.act.2)
    | some f => (0, { d.act.2 with fs := adrop name d.fs }))
  else d.act
def Dk.cut (d : Dk) (name : List UInt8) (n : Int) : Int × Dk :=
  if d.act.1 = 0 then (match aget name d.fs with
    | none => (2, d.act.2)
    | some f => if n < 0 ∨ f.p.length < n then (1, d.act.2) else (0, { d.act.2 with fs := aput name ⟨f.p.take n.toNat, n.toNat⟩ d.fs }))
  else d.act
def Dk.move (d : Dk) (src dst : List UInt8) : Int × Dk :=
  if namedB dst = false then (1, d) else
  if d.act.1 = 0 then (match aget src d.fs with
    | none => (2, d.act.2)
    | some f => (0, { d.act.2 with fs := aput dst f (adrop src d.fs) }))
  else d.act
def Dk.read (d : Dk) (name : List UInt8) : Except Int (List UInt8) :=
  if d.off then .error 7 else match aget name d.fs with
    | none => .error 2
    | some f => .ok f.p
theorem upd_ok {d d1 : Dk} {name : List UInt8} {f f' : Fl} (h : d.ok) (h1 : d1.ok) (ha : aget name d.fs = some f) (hl : f'.p.length ≤ f.p.length) (hsf : f'.safe ≤ f'.p.length) : ({ d1 with fs := aput name f' d.fs } : Dk).ok := by
  obtain ⟨l1, l2, e, h2, -⟩ := al_split ha
  refine ⟨?_, h1.room, h1.fuse, h1.torn, ?_, put_keys h.keys⟩
  · have := h.total
    simp only [h2]
    rw [e] at this
    simp only [tk_append, tk_cons] at this ⊢
    omega
  · intro q hq
    simp only [h2, List.mem_append, List.mem_cons] at hq
    rcases hq with hq | rfl | hq
    · exact h.safe q (by rw [e]; simp [hq])
    · exact hsf
    · exact h.safe q (by rw [e]; simp [hq])
theorem drop_ok {d d1 : Dk} {name : List UInt8} (h : d.ok) (h1 : d1.ok) : ({ d1 with fs := adrop name d.fs } : Dk).ok := by
  cases ha : aget name d.fs with
  | none => rw [adrop_none ha]; exact ⟨h.total, h1.room, h1.fuse, h1.torn, h.safe, h.keys⟩
  | some f =>
    obtain ⟨l1, l2, e, -, h2⟩ := al_split ha
    refine ⟨?_, h1.room, h1.fuse, h1.torn, ?_, drop_keys h.keys⟩
    · have := h.total
      simp only [h2]
      rw [e] at this
      simp only [tk_append, tk_cons] at this ⊢
      omega
    · intro q hq
      simp only [h2, List.mem_append] at hq
      exact h.safe q (by rw [e]; rcases hq with hq | hq <;> simp [hq])
set_option maxHeartbeats 1600000 in
set_option maxRecDepth 100000 in
theorem sync_any {R : Ending → World → Prop} {W w : World} {g : Hl} {H : List HP} {b : Nat} {d : Dk} {name : List UInt8} (hs : Sat W w g (disk b d :: H))
    (hR : ∀ w', Sat W w' g (disk b (d.sync name).2 :: H) → R (.returned (.int .i64 (d.sync name).1)) w') : Calls Tryz.prog 111 #[ptr b, str name] w R := by
  have HR := Lib.hid hR
  clear hR
  refine C.calls (args := [ptr b, str name]) Tryz.func111 rfl rfl rfl ?_
  refine go ?_
  obtain ⟨mb, L, hL, hok, hs⟩ := disk_open hs
  refine E.callf Tryz.func93 rfl ?_
  refine act_dsk hs hok ?_
  intro w1 hs
  obtain ⟨ok1, e1, -, -⟩ := Dk.act_ok hok
  have key := HR.out
  simp only [Dk.sync, ← hL] at key
  generalize d.act = q at hs ok1 e1 key ⊢
  obtain ⟨er, d1⟩ := q
  simp only at hs ok1 e1 key ⊢
  by_cases her : er = 0
  · subst her
    simp only [if_true, al_plain] at key
    refine go ?_
    have hs0 := hs
    simp only [dsk] at hs
    refine go ?_
    refine E.lookd hs (.there .here) (fun h0 => ?_) (fun fb f h1 => ?_)
    · refine go ?_
      refine A.r1 ?_
      simp only [h0, Option.map_none] at key
      exact key _ (disk_close (hL.trans e1.symm) ok1 hs0)
    · simp only [h1, Option.map_some] at key
      obtain ⟨L1, L2, rfl, h2, -⟩ := al_split h1
      obtain ⟨a, c, hs⟩ := file_open (files_out (q := (name, (fb, f))) hs.pull2)
      simp only at hs
      refine go ?_
      refine E.sto hs ?_
      intro w2 hs
      refine go ?_
      refine A.r1 ?_
      have h3 := as_plain name (fb, ⟨f.p, f.p.length⟩) (L1 ++ (name, (fb, f)) :: L2)
      rw [h2] at h3
      refine key _ (disk_close (L := L1 ++ (name, (fb, ⟨f.p, f.p.length⟩)) :: L2) (mb := mb) h3.symm ?_ ?_)
      · have := upd_ok (f' := ⟨f.p, f.p.length⟩) hok ok1 (name := name) (f := f) (by rw [← hL, al_plain, h1]; rfl) (by simp) (by simp)
        rw [← hL] at this
        exact this
      · rw [dmap_mid (f' := ⟨f.p, f.p.length⟩)] at hs
        exact (files_in (q := (name, (fb, ⟨f.p, f.p.length⟩))) (file_close (l := f.p) rfl rfl hs)).push2
  · have hd : (!decide (er = 0)) = true := by simp [her]
    simp only [her, if_false] at key
    refine go ?_
    refine C.cond rfl (fun _ => ?_) (fun h => by rw [hd] at h; cases h)
    refine go ?_
    refine A.r1 ?_
    exact key _ (disk_close (hL.trans e1.symm) ok1 hs)
set_option maxHeartbeats 1600000 in
set_option maxRecDepth 100000 in
theorem remove_any {R : Ending → World → Prop} {W w : World} {g : Hl} {H : List HP} {b : Nat} {d : Dk} {name : List UInt8} (hs : Sat W w g (disk b d :: H))
    (hR : ∀ w', Sat W w' g (disk b (d.remove name).2 :: H) → R (.returned (.int .i64 (d.remove name).1)) w') : Calls Tryz.prog 158 #[ptr b, str name] w R := by
  have HR := Lib.hid hR
  clear hR
  refine C.calls (args := [ptr b, str name]) Tryz.func158 rfl rfl rfl ?_
  refine go ?_
  obtain ⟨mb, L, hL, hok, hs⟩ := disk_open hs
  refine E.callf Tryz.func93 rfl ?_
  refine act_dsk hs hok ?_
  intro w1 hs
  obtain ⟨ok1, e1, -, -⟩ := Dk.act_ok hok
  have key := HR.out
  simp only [Dk.remove, ← hL] at key
  generalize d.act = q at hs ok1 e1 key ⊢
  obtain ⟨er, d1⟩ := q
  simp only at hs ok1 e1 key ⊢
  by_cases her : er = 0
  · subst her
    simp only [if_true, al_plain] at key
    have hs0 := hs
    simp only [dsk] at hs
    refine go ?_
    refine E.lookd hs (.there .here) (fun h0 => ?_) (fun fb f h1 => ?_)
    · refine go ?_
      refine A.r1 ?_
      simp only [h0, Option.map_none] at key
      exact key _ (disk_close (hL.trans e1.symm) ok1 hs0)
    · simp only [h1, Option.map_some] at key
      refine go ?_
      refine E.deld hs (.there .here) ?_
      intro w2 hs
      refine go ?_
      refine A.r1 ?_
      obtain ⟨L1, L2, rfl, -, h2⟩ := al_split h1
      rw [h2] at hs
      refine key _ (disk_close (L := L1 ++ L2) (mb := mb) ?_ ?_ ?_)
      · rw [ad_plain, h2]
      · have := drop_ok (name := name) hok ok1
        rw [← hL] at this
        exact this
      · have h5 := (files_out (q := (name, (fb, f))) hs.pull2).drop
        exact h5.push2
  · have hd : (!decide (er = 0)) = true := by simp [her]
    simp only [her, if_false] at key
    refine go ?_
    refine C.cond rfl (fun _ => ?_) (fun h => by rw [hd] at h; cases h)
    refine go ?_
    refine A.r1 ?_
    exact key _ (disk_close (hL.trans e1.symm) ok1 hs)
end Go.Proofs.YtfhmamkafancbaaGreatDoor
