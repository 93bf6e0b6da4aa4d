/-
  Layers 1, 2 (quantity, digits): a quantity's bits; a number in eight bytes; bytes copied.
-/
import Derived.Test.YtkolnecahlkndaaVa
namespace Go.Proofs.Ytkolnecahlkndaa
open Go.RowKit
set_option linter.unusedVariables false
set_option linter.unusedSimpArgs false

/-- A quantity's bits. -/
def bitsF (b : Nat) : Nat := if nanF b = true then 9221120237041090561 else b
/-- A quantity and some more, as it is kept. -/
def sumF (a b : Nat) : Nat := match Ieee.double.add a b with
  | some r => bitsF r
  | none => 9221120237041090561
theorem bitsF_lt {b : Nat} (h : b < 18446744073709551616) : bitsF b < 18446744073709551616 := by unfold bitsF; split <;> omega

set_option maxHeartbeats 1600000 in
set_option maxRecDepth 100000 in
theorem isNaN_any {R : Ending → World → Prop} {w : World} {b : Nat} (hR : R (.returned (.bool (nanF b))) w) : Calls Try.prog 56 #[.float .f64 b] w R := by
  have HR := Lib.hid hR
  clear hR
  refine C.calls (args := [.float .f64 b]) Try.func56 rfl rfl rfl ?_
  refine go ?_
  refine A.r1 ?_
  exact HR.out

set_option maxHeartbeats 1600000 in
set_option maxRecDepth 100000 in
theorem bits_any {R : Ending → World → Prop} {w : World} {b : Nat} (hR : R (.returned (.int .u64 (bitsF b))) w) : Calls Try.prog 35 #[.float .f64 b] w R := by
  have HR := Lib.hid hR
  clear hR
  refine C.calls (args := [.float .f64 b]) Try.func35 rfl rfl rfl ?_
  refine go ?_
  refine E.callf Try.func56 rfl ?_
  refine isNaN_any ?_
  refine go ?_
  cases hn : nanF b with
  | true =>
    refine go ?_
    refine A.r1 ?_
    simpa [bitsF, hn] using HR.out
  | false =>
    refine go ?_
    refine E.ext (v := .int .u64 b) (w' := w) Try.func57 (ex := Extern.MathFloatBits.float64bits) rfl ?_
    refine go ?_
    refine A.r1 ?_
    simpa [bitsF, hn] using HR.out

set_option maxHeartbeats 1600000 in
set_option maxRecDepth 100000 in
theorem plain_any {R : Ending → World → Prop} {w : World} {b : Nat} (hR : R (.returned (.float .f64 (bitsF b))) w) : Calls Try.prog 44 #[.float .f64 b] w R := by
  have HR := Lib.hid hR
  clear hR
  refine C.calls (args := [.float .f64 b]) Try.func44 rfl rfl rfl ?_
  refine go ?_
  refine E.callf Try.func35 rfl ?_
  refine bits_any ?_
  refine E.ext (v := .float .f64 (bitsF b)) (w' := w) Try.func62 (ex := Extern.MathFloatBits.float64frombits) rfl ?_
  refine go ?_
  refine A.r1 ?_
  exact HR.out

set_option maxHeartbeats 1600000 in
set_option maxRecDepth 100000 in
theorem qsum_any {R : Ending → World → Prop} {W w : World} {g : Hl} {H : List HP} {a b : Nat} (hs : Sat W w g H) (hR : ∀ w', Sat W w' g H → R (.returned (.float .f64 (sumF a b))) w') : Calls Try.prog 45 #[.float .f64 a, .float .f64 b] w R := by
  have HR := Lib.hid hR
  clear hR
  refine C.calls (args := [.float .f64 a, .float .f64 b]) Try.func45 rfl rfl rfl ?_
  refine go ?_
  refine E.fadd hs ?_
  intro r w1 hs hr
  refine E.callf Try.func44 rfl ?_
  refine plain_any ?_
  refine go ?_
  refine A.r1 ?_
  have := HR.out _ hs
  rcases hr with hr | ⟨hr, h2, h3⟩
  · simpa [sumF, hr] using this
  · simpa [sumF, hr, bitsF, nan_rung h2] using this

/-- A number's k lowest bytes, the highest first. -/
def fixG : Nat → Nat → List UInt8
  | 0, _ => []
  | k + 1, n => UInt8.ofNat (n / 2 ^ (8 * k)) :: fixG k n
def fixB (n : Nat) : List UInt8 := fixG 8 n
theorem fixG_len : ∀ (k n : Nat), (fixG k n).length = k
  | 0, _ => rfl
  | k + 1, n => by simp [fixG, fixG_len k n]
theorem fixB_len (n : Nat) : (fixB n).length = 8 := fixG_len 8 n

set_option maxHeartbeats 1600000 in
set_option maxRecDepth 100000 in
theorem fixed_any {R : Ending → World → Prop} {W w : World} {g : Hl} {H : List HP} {v : Value} {k n : Nat} {xs : List Value} (hs : Sat W w g (own 5 1 v k xs :: H)) (hn : n < 18446744073709551616) (hk : k ≤ 1000000000)
    (hR : ∀ a' c' w', Sat W w' g (own 5 1 (.slice a' (k + 8) c') (k + 8) (xs ++ bs (fixB n)) :: H) → R (.returned (.slice a' (k + 8) c')) w') :
    Calls Try.prog 31 #[v, .int .u64 n] w R := by
  have HR := Lib.hid hR
  clear hR
  obtain ⟨a, c, rfl, hkc, hcm, _⟩ := hs.ownLen
  refine C.calls (args := [.slice a k c, .int .u64 n]) Try.func31 rfl rfl rfl ?_
  refine gob ?_
  refine C.block ?_
  refine C.lp (fun x : Nat × Nat × Option Addr × Nat × List Value => [(0, .slice x.2.2.1 x.2.1 x.2.2.2.1), (1, .int .u64 n), (5, .int .i64 ((x.1 : Int) - 1))])
    (fun gk x w => gk = x.1 ∧ x.1 ≤ 8 ∧ x.2.1 + x.1 = k + 8 ∧ x.2.2.2.2 ++ bs (fixG x.1 n) = xs ++ bs (fixB n) ∧ Sat W w g (own 5 1 (.slice x.2.2.1 x.2.1 x.2.2.2.1) x.2.1 x.2.2.2.2 :: H)) 8 (8, k, a, c, xs) ⟨rfl, by omega, rfl, rfl, hs⟩ ?_
  clear hs
  rintro gk ⟨i, k1, a1, c1, ys⟩ w1 ⟨hgk, hi, hk1, hy, hs⟩
  simp only at hgk hi hk1 hy hs ⊢
  replace hgk := hgk.symm
  subst hgk
  refine go ?_
  refine C.cond_dec (p := (0 : Int) ≤ (i : Int) - 1) rfl (fun h => ?_) (fun h => ?_)
  · obtain ⟨j, rfl⟩ : ∃ j, i = j + 1 := ⟨i - 1, by omega⟩
    have ej : ((j + 1 : Nat) : Int) - 1 = j := by omega
    rw [ej]
    refine go ?_
    refine E.bsl hs ?_
    intro b2 w2 hs
    refine E.app el_u8 hs.swap (hs.rowOf (size := 1) 1 rfl (by decide)) ?_
    intro a3 c3 w3 _ _ hs
    refine go ?_
    refine A.rd j (j, k1 + 1, a3, c3, ys ++ [.int .u8 ((n / 2 ^ (8 * j) % 256 : Nat))]) ⟨rfl, by omega, by simp only; omega, ?_, hs.swap.drop⟩
    simp only
    rw [← hy]
    simp [fixG, bs]
  · refine go ?_
    refine A.r1 ?_
    have hi0 : i = 0 := by omega
    subst hi0
    simp only [fixG, bs, List.map_nil, List.append_nil] at hy
    subst hy
    obtain rfl : k1 = k + 8 := by omega
    exact HR.out _ _ _ hs

set_option maxHeartbeats 1600000 in
set_option maxRecDepth 100000 in
/-- bytes.Clone. -/
theorem bclone_any {R : Ending → World → Prop} {W w : World} {g : Hl} {H : List HP} {a : Option Addr} {n c : Nat} {l : List UInt8} (hs : Sat W w g H) (hp : Pr 1 g (.slice a n c) n (bs l)) (hn : n ≤ 1000000000)
    (hR : ∀ a' c' w' g', Hl.le g g' → Pr 1 g' (.slice a' n c') n (bs l) → Sat W w' g' H → R (.returned (.slice a' n c')) w') :
    Calls Try.prog 43 #[.slice a n c] w R := by
  have HR := Lib.hid hR
  clear hR
  cases a with
  | none =>
    obtain ⟨_, a0, c0, e, _, _, h0, _⟩ := id hp
    simp only [Value.slice.injEq] at e
    obtain ⟨rfl, _, rfl⟩ := e
    obtain ⟨rfl, rfl⟩ := h0 rfl
    refine C.calls (args := [.slice none 0 0]) Try.func43 rfl rfl rfl ?_
    refine go ?_
    refine A.r1 ?_
    exact HR.out _ _ _ _ (Hl.le_refl _) hp hs
  | some ad =>
    refine C.calls (args := [.slice (some ad) n c]) Try.func43 rfl rfl rfl ?_
    refine go ?_
    refine E.bsl hs ?_
    intro b1 w1 hs
    have hs := hs.blkOwn (size := 1) 0 rfl (by decide)
    refine go ?_
    refine E.app el_u8 hs (hp.row hs) ?_
    intro a2 c2 w2 _ _ hs
    obtain ⟨g2, hg2, hp2, hs⟩ := hs.publishOwn
    simp only [Nat.zero_add, List.nil_append] at hp2 ⊢
    refine go ?_
    refine A.r1 ?_
    exact HR.out _ _ _ _ hg2 hp2 hs

/-- An event as bytes. -/
def Ev.keyB (e : Ev) : List UInt8 := if 1 ≤ e.kd ∧ e.kd ≤ 4 then textB e.key else []
def Ev.restB (e : Ev) : List UInt8 := if e.kd = 1 then textB e.text else if e.kd = 2 ∨ e.kd = 3 then fixB (bitsF e.num) else if e.kd = 5 then layN e.nd.toNat else []
def Ev.enc (e : Ev) : List UInt8 := layN e.wr.toNat ++ layN e.sq ++ layN e.tm ++ [UInt8.ofNat e.kd] ++ e.keyB ++ e.restB
theorem Ev.enc_len (e : Ev) (h1 : e.wr.toNat < 18446744073709551616) (h2 : e.sq < 18446744073709551616) (h3 : e.tm < 18446744073709551616) (h4 : e.key.length < 18446744073709551616) (h5 : e.text.length < 18446744073709551616) (h6 : e.nd.toNat < 18446744073709551616) : e.enc.length ≤ 61 + e.key.length + e.text.length := by
  have := layN_ten h1
  have := layN_ten h2
  have := layN_ten h3
  have k1 : e.keyB.length ≤ e.key.length + 10 := by
    unfold Ev.keyB
    split
    · exact textB_len _ h4
    · simp
  have k2 : e.restB.length ≤ e.text.length + 20 := by
    unfold Ev.restB
    repeat' split
    · have := textB_len _ h5; omega
    · rw [fixB_len]; omega
    · have := layN_ten h6; omega
    · simp
  simp only [Ev.enc, List.length_append, List.length_cons, List.length_nil]
  omega

set_option maxHeartbeats 3200000 in
set_option maxRecDepth 100000 in
theorem encode_any {R : Ending → World → Prop} {W w : World} {g : Hl} {H : List HP} {e : Ev} (ho : e.ok g) (hwr : 0 ≤ e.wr) (hnd : e.kd = 5 → 0 ≤ e.nd) (hs : Sat W w g H)
    (hR : ∀ a' c' w' g', Hl.le g g' → Sat W w' g' (own 5 1 (.slice a' e.enc.length c') e.enc.length (bs e.enc) :: H) → R (.returned (.slice a' e.enc.length c')) w') :
    Calls Try.prog 42 #[e.val] w R := by
  have HR := Lib.hid hR
  clear hR
  obtain ⟨a, c, etv, hnc, _⟩ := ho.tv.len
  have hkd := ho.kd
  have hsq := ho.sq
  have htm := ho.tm
  have h1 := ho.wr
  have h2 := ho.nd
  have h3 := ho.key
  have h4 := ho.text
  have h5 := ho.tv
  have h6 := ho.num
  clear ho
  obtain ⟨wr, sq, tm, kd, key, text, num, nd, tv⟩ := e
  simp only at etv hkd hsq htm h1 h2 h3 h4 h5 h6 hwr hnd
  simp only [Ev.val, Ev.cs]
  subst etv
  obtain ⟨wr, rfl⟩ := Int.eq_ofNat_of_zero_le hwr
  have l1 := layN_ten (n := wr) (by omega)
  have l2 := layN_ten (n := sq) (by omega)
  have l3 := layN_ten (n := tm) (by omega)
  refine C.calls (args := [.agg #[.int .i64 wr, .int .u64 sq, .int .u64 tm, .int .u8 kd, .string ⟨key.toArray⟩, .slice a text.length c, .float .f64 num, .int .i64 nd]]) Try.func42 rfl rfl rfl ?_
  refine go ?_
  refine E.bx hs ?_
  intro b1 w1 hs
  refine go ?_
  refine E.callf Try.func30 rfl ?_
  refine lay_any hs.nilOwn (by omega) (by omega) ?_
  intro a2 c2 w2 hs
  simp only [Nat.zero_add, List.nil_append] at hs ⊢
  refine gob ?_
  have e8 : (UInt8.ofNat kd).toNat = kd := by simp; omega
  refine C.cut (fun x : Option Addr × Nat => [(1, .pointer (some ⟨b1, 0, none⟩)), (3, .slice x.1 (layN wr ++ layN sq ++ layN tm ++ [UInt8.ofNat kd]).length x.2)])
    (fun x w => Sat W w g (own 5 1 (.slice x.1 (layN wr ++ layN sq ++ layN tm ++ [UInt8.ofNat kd]).length x.2) (layN wr ++ layN sq ++ layN tm ++ [UInt8.ofNat kd]).length (bs (layN wr ++ layN sq ++ layN tm ++ [UInt8.ofNat kd])) :: blk b1 [.int .i64 wr, .int .u64 sq, .int .u64 tm, .int .u8 kd, .string ⟨key.toArray⟩, .slice a text.length c, .float .f64 num, .int .i64 nd] 43 :: H)) ?_ ?_
  · refine C.held1 b1 hs ?_
    intro w hk hs
    refine goh ?_
    refine EH.orb hs (St.callf Try.func30 rfl ?_) ?_
    · refine lay_any hs (by omega) (by omega) ?_
      intro a3 c3 w hs
      refine kept1 hs (fun hk => ?_)
      refine goh ?_
      refine EH.orb hs (St.callf Try.func30 rfl ?_) ?_
      · refine lay_any hs (by omega) (by omega) ?_
        intro a4 c4 w hs
        refine kept1 hs (fun hk => ?_)
        refine goh ?_
        refine EH.bsl hs ?_
        intro b5 w hs
        refine kept1 hs (fun hk => ?_)
        refine goh ?_
        refine EH.app el_u8 hs.swap (hs.rowOf (size := 1) 1 rfl (by decide)) ?_
        intro a9 c9 w _ _ hs
        refine kept1 hs (fun hk => ?_)
        refine goh ?_
        refine EH.done ?_
        refine A.mt (a9, c9) ?_ ?_
        · have := hs.swap.drop
          simpa [bs_append, bs, e8, Nat.add_assoc] using this
        · simp only [List.length_append, List.length_cons, List.length_nil, Nat.add_assoc]
          exact wk_
      · intro b5 w hs
        refine kept1 hs (fun hk => ?_)
        refine goh ?_
        refine EH.one (St.callf Try.func30 rfl ?_)
        refine lay_any hs.swap (by omega) (by omega) ?_
        intro a4 c4 w hs
        refine kept1 hs (fun hk => ?_)
        refine goh ?_
        refine EH.app el_u8 hs (hs.swap.rowOf (size := 1) 1 rfl (by decide)) ?_
        intro a9 c9 w _ _ hs
        refine kept1 hs (fun hk => ?_)
        refine goh ?_
        refine EH.done ?_
        refine A.mt (a9, c9) ?_ ?_
        · have := hs.swap.drop
          simpa [bs_append, bs, e8, Nat.add_assoc] using this
        · simp only [List.length_append, List.length_cons, List.length_nil, Nat.add_assoc]
          exact wk_
    · intro b5 w hs
      refine kept1 hs (fun hk => ?_)
      refine goh ?_
      refine EH.one (St.callf Try.func30 rfl ?_)
      refine lay_any hs.swap (by omega) (by omega) ?_
      intro a3 c3 w hs
      refine kept1 hs (fun hk => ?_)
      refine goh ?_
      refine EH.one (St.callf Try.func30 rfl ?_)
      refine lay_any hs (by omega) (by omega) ?_
      intro a4 c4 w hs
      refine kept1 hs (fun hk => ?_)
      refine goh ?_
      refine EH.app el_u8 hs (hs.swap.rowOf (size := 1) 1 rfl (by decide)) ?_
      intro a9 c9 w _ _ hs
      refine kept1 hs (fun hk => ?_)
      refine goh ?_
      refine EH.done ?_
      refine A.mt (a9, c9) ?_ ?_
      · have := hs.swap.drop
        simpa [bs_append, bs, e8, Nat.add_assoc] using this
      · simp only [List.length_append, List.length_cons, List.length_nil, Nat.add_assoc]
        exact wk_
  clear hs
  have lA : (layN wr ++ layN sq ++ layN tm ++ [UInt8.ofNat kd]).length ≤ 31 := by
    simp only [List.length_append, List.length_cons, List.length_nil]; omega
  have hR2 : ∀ (B : List UInt8) (n' : Nat), layN wr ++ layN sq ++ layN tm ++ [UInt8.ofNat kd] ++ B = Ev.enc ⟨wr, sq, tm, kd, key, text, num, nd, .slice a text.length c⟩ → n' = (layN wr ++ layN sq ++ layN tm ++ [UInt8.ofNat kd]).length + B.length → ∀ a' c' w' g', Hl.le g g' → Sat W w' g' (own 5 1 (.slice a' n' c') n' (bs (layN wr ++ layN sq ++ layN tm ++ [UInt8.ofNat kd]) ++ bs B) :: H) → R (.returned (.slice a' n' c')) w' := fun B n' hB hn' a' c' w' g' hg' hs' => by
    rw [← bs_append, hB] at hs'
    rw [← List.length_append, hB] at hn'
    subst hn'
    exact HR.out _ _ _ _ hg' hs'
  clear HR
  simp only [Ev.enc, Ev.keyB, Ev.restB, Int.toNat_natCast] at hR2
  generalize hAA : layN wr ++ layN sq ++ layN tm ++ [UInt8.ofNat kd] = A1 at lA hR2 ⊢
  clear hAA
  rintro ⟨a2, c2⟩ w2 hs
  simp only at hs ⊢
  have h3b : key.length ≤ 1000000000 := by omega
  have hkey := textB_len key (by omega)
  have htext := textB_len text (by omega)
  have hcases : kd = 1 ∨ kd = 2 ∨ kd = 3 ∨ kd = 4 ∨ kd = 5 ∨ kd = 0 ∨ 5 < kd := by omega
  rcases hcases with hq | hq | hq | hq | hq | hq | hq
  · subst hq
    simp only [show (1 ≤ 1 ∧ 1 ≤ 4) = True by simp, if_true] at hR2
    have HR2 := Lib.hid hR2
    clear hR2
    refine go ?_
    refine E.bytes Try.underlying9 Try.underlying40 Try.underlying5 hs h3b ?_
    intro b5 c5 w3 g3 hg3 hs hp5
    refine go ?_
    refine E.callf Try.func34 rfl ?_
    refine layText_any hs hp5 rfl (by omega) (by omega) ?_
    intro a4 c4 w4 hs
    refine go ?_
    refine E.callf Try.func34 rfl ?_
    refine layText_any hs (h5.mono hg3) rfl (by omega) (by omega) ?_
    intro a6 c6 w6 hs
    refine go ?_
    refine A.r1 ?_
    refine HR2.out (textB key ++ textB text) _ (by simp) (by simp; omega) _ _ _ _ hg3 ?_
    simp only [bs_append, ← List.append_assoc] at hs ⊢
    exact hs.swap.drop
  · subst hq
    simp only [show (1 ≤ 2 ∧ 2 ≤ 4) = True by simp, if_true] at hR2
    have HR2 := Lib.hid hR2
    clear hR2
    refine go ?_
    refine E.bytes Try.underlying9 Try.underlying40 Try.underlying5 hs h3b ?_
    intro b5 c5 w3 g3 hg3 hs hp5
    refine go ?_
    refine E.callf Try.func34 rfl ?_
    refine layText_any hs hp5 rfl (by omega) (by omega) ?_
    intro a4 c4 w4 hs
    refine go ?_
    refine E.callf Try.func35 rfl ?_
    refine bits_any ?_
    refine E.callf Try.func31 rfl ?_
    refine fixed_any hs (bitsF_lt h6) (by omega) ?_
    intro a6 c6 w6 hs
    refine go ?_
    refine A.r1 ?_
    refine HR2.out (textB key ++ fixB (bitsF num)) _ (by simp) (by simp [fixB_len]; omega) _ _ _ _ hg3 ?_
    simp only [bs_append, ← List.append_assoc] at hs ⊢
    exact hs.swap.drop
  · subst hq
    simp only [show (1 ≤ 3 ∧ 3 ≤ 4) = True by simp, if_true] at hR2
    have HR2 := Lib.hid hR2
    clear hR2
    refine go ?_
    refine E.bytes Try.underlying9 Try.underlying40 Try.underlying5 hs h3b ?_
    intro b5 c5 w3 g3 hg3 hs hp5
    refine go ?_
    refine E.callf Try.func34 rfl ?_
    refine layText_any hs hp5 rfl (by omega) (by omega) ?_
    intro a4 c4 w4 hs
    refine go ?_
    refine E.callf Try.func35 rfl ?_
    refine bits_any ?_
    refine E.callf Try.func31 rfl ?_
    refine fixed_any hs (bitsF_lt h6) (by omega) ?_
    intro a6 c6 w6 hs
    refine go ?_
    refine A.r1 ?_
    refine HR2.out (textB key ++ fixB (bitsF num)) _ (by simp) (by simp [fixB_len]; omega) _ _ _ _ hg3 ?_
    simp only [bs_append, ← List.append_assoc] at hs ⊢
    exact hs.swap.drop
  · subst hq
    simp only [show (1 ≤ 4 ∧ 4 ≤ 4) = True by simp, if_true] at hR2
    have HR2 := Lib.hid hR2
    clear hR2
    refine go ?_
    refine E.bytes Try.underlying9 Try.underlying40 Try.underlying5 hs h3b ?_
    intro b5 c5 w3 g3 hg3 hs hp5
    refine go ?_
    refine E.callf Try.func34 rfl ?_
    refine layText_any hs hp5 rfl (by omega) (by omega) ?_
    intro a4 c4 w4 hs
    refine go ?_
    refine A.r1 ?_
    refine HR2.out (textB key) _ (by simp) (by simp) _ _ _ _ hg3 ?_
    exact hs.swap.drop
  · subst hq
    obtain ⟨nd, rfl⟩ := Int.eq_ofNat_of_zero_le (hnd rfl)
    simp only [show (1 ≤ 5 ∧ 5 ≤ 4) = False by simp, if_false, Int.toNat_natCast] at hR2
    have HR2 := Lib.hid hR2
    clear hR2
    refine go ?_
    refine E.callf Try.func30 rfl ?_
    refine lay_any hs (by omega) (by omega) ?_
    intro a6 c6 w6 hs
    refine go ?_
    refine A.r1 ?_
    refine HR2.out (layN nd) _ (by simp) (by simp) _ _ _ _ (Hl.le_refl _) ?_
    exact hs.swap.drop
  · subst hq
    simp only [show (1 ≤ 0 ∧ 0 ≤ 4) = False by simp, if_false] at hR2
    have HR2 := Lib.hid hR2
    clear hR2
    refine go ?_
    refine A.r1 ?_
    refine HR2.out [] _ (by simp) (by simp) _ _ _ _ (Hl.le_refl _) ?_
    simpa [bs] using hs.swap.drop
  · refine go ?_
    rw [show decide ((1 : Int) ≤ kd) = true from decide_eq_true (by omega)]
    refine go ?_
    rw [show decide ((kd : Int) ≤ 4) = false from decide_eq_false (by omega)]
    refine go ?_
    rw [show decide ((kd : Int) = 1) = false from decide_eq_false (by omega)]
    refine go ?_
    rw [show decide ((kd : Int) = 2) = false from decide_eq_false (by omega)]
    refine go ?_
    rw [show decide ((kd : Int) = 3) = false from decide_eq_false (by omega)]
    refine go ?_
    rw [show decide ((kd : Int) = 5) = false from decide_eq_false (by omega)]
    refine go ?_
    refine A.r1 ?_
    have k1 : ¬ (1 ≤ kd ∧ kd ≤ 4) := by omega
    have k2 : ¬ kd = 1 := by omega
    have k3 : ¬ (kd = 2 ∨ kd = 3) := by omega
    have k4 : ¬ kd = 5 := by omega
    simp only [k1, k2, k3, k4, if_false] at hR2
    refine hR2 [] _ (by simp) (by simp) _ _ _ _ (Hl.le_refl _) ?_
    simpa [bs] using hs.swap.drop
end Go.Proofs.Ytkolnecahlkndaa
