/-
  Layer 6 (event): what an event is; places, and how they stand; which events may be.
-/
import Derived.Test.YtdkbpcibmipelaaGreatDoorProg
import Derived.Test.YtdkbpcibmipelaaGreatDoorM03
import Derived.Test.YtdkbpcibmipelaaGreatDoorM06
import Derived.Test.YtdkbpcibmipelaaGreatDoorM07
import Derived.Test.YtdkbpcibmipelaaGreatDoorM08
import Derived.WalkKit
namespace Go.Proofs.YtdkbpcibmipelaaGreatDoor
open Go.RowKit
set_option linter.unusedVariables false
set_option linter.unusedSimpArgs false

/-- An event; 'tv' is its text's slice. -/
structure Ev where
  wr : Int
  sq : Nat
  tm : Nat
  kd : Nat
  key : List UInt8
  text : List UInt8
  num : Nat
  nd : Int
  tv : Value
/-- Its cells. -/
def Ev.cs (e : Ev) : List Value := [.int .i64 e.wr, .int .u64 e.sq, .int .u64 e.tm, .int .u8 e.kd, .string ⟨e.key.toArray⟩, e.tv, .float .f64 e.num, .int .i64 e.nd]
def Ev.val (e : Ev) : Value := .agg e.cs.toArray
/-- Its parts are of their kinds, and its text lies in the pool. -/
structure Ev.ok (e : Ev) (g : Hl) : Prop where
  wr : -9223372036854775808 ≤ e.wr ∧ e.wr ≤ 9223372036854775807
  sq : e.sq < 18446744073709551616
  tm : e.tm < 18446744073709551616
  kd : e.kd < 256
  num : e.num < 18446744073709551616
  nd : -9223372036854775808 ≤ e.nd ∧ e.nd ≤ 9223372036854775807
  key : e.key.length ≤ 100000000
  text : e.text.length ≤ 100000000
  tv : Pr 1 g e.tv e.text.length (bs e.text)
theorem Ev.cs_one {e : Ev} {g : Hl} (h : e.ok g) : e.cs.all Value.oneCell' = true := by
  obtain ⟨a, c, he, _, _⟩ := h.tv.len
  simp only [Ev.cs, he, List.all_cons, List.all_nil]
  rfl
theorem Ev.ok.mono {e : Ev} {g g' : Hl} (h : e.ok g) (hg : Hl.le g g') : e.ok g' := ⟨h.wr, h.sq, h.tm, h.kd, h.num, h.nd, h.key, h.text, h.tv.mono hg⟩

theorem spl_go : ∀ (vs pre xs : List Value), xs.length = vs.length → spl (pre ++ xs) pre.length vs = pre ++ vs
  | [], pre, xs, h => by
    obtain rfl : xs = [] := List.eq_nil_of_length_eq_zero (by simpa using h)
    rfl
  | v :: r, pre, x :: xs, h => by
    simp only [spl]
    rw [List.set_append_right _ _ (Nat.le_refl _), Nat.sub_self, List.set_cons_zero]
    have := spl_go r (pre ++ [v]) xs (by simpa using h)
    simp only [List.append_assoc, List.cons_append, List.nil_append, List.length_append, List.length_cons, List.length_nil] at this
    exact this
theorem spl_all {xs vs : List Value} (h : xs.length = vs.length) : spl xs 0 vs = vs := spl_go vs [] xs h

/-- How two numbers stand to one another. -/
def cmpI (a b : Int) : Int := if a < b then -1 else if b < a then 1 else 0
/-- How two places stand. -/
def cmpS (t1 : Nat) (w1 : Int) (t2 : Nat) (w2 : Int) : Int := if cmpI t1 t2 ≠ 0 then cmpI t1 t2 else cmpI w1 w2
theorem cmpI_lt {a b : Int} : cmpI a b < 0 ↔ a < b := by unfold cmpI; repeat' split; all_goals omega
theorem cmpI_range (a b : Int) : -1 ≤ cmpI a b ∧ cmpI a b ≤ 1 := by unfold cmpI; repeat' split; all_goals omega
theorem cmpS_lt {t1 t2 : Nat} {w1 w2 : Int} : cmpS t1 w1 t2 w2 < 0 ↔ t1 < t2 ∨ t1 = t2 ∧ w1 < w2 := by unfold cmpS cmpI; repeat' split; all_goals omega
theorem cmpS_le {t1 t2 : Nat} {w1 w2 : Int} : cmpS t1 w1 t2 w2 ≤ 0 ↔ t1 < t2 ∨ t1 = t2 ∧ w1 ≤ w2 := by unfold cmpS cmpI; repeat' split; all_goals omega

set_option maxHeartbeats 1600000 in
set_option maxRecDepth 100000 in
theorem nanU_any {R : Ending → World → Prop} {w : World} {a : Int} (hR : R (.returned (.bool false)) w) : Calls Tryz.prog 297 #[.int .u64 a] w R := by
  have HR := Lib.hid hR
  clear hR
  refine C.calls (args := [.int .u64 a]) Tryz.func297 rfl rfl rfl ?_
  refine go ?_
  refine A.r1 ?_
  simpa using HR.out
set_option maxHeartbeats 1600000 in
set_option maxRecDepth 100000 in
theorem nanI_any {R : Ending → World → Prop} {w : World} {a : Int} (hR : R (.returned (.bool false)) w) : Calls Tryz.prog 298 #[.int .i64 a] w R := by
  have HR := Lib.hid hR
  clear hR
  refine C.calls (args := [.int .i64 a]) Tryz.func298 rfl rfl rfl ?_
  refine go ?_
  refine A.r1 ?_
  simpa using HR.out
set_option maxHeartbeats 1600000 in
set_option maxRecDepth 100000 in
theorem cmpU_any {R : Ending → World → Prop} {w : World} {a b : Int} (hR : R (.returned (.int .i64 (cmpI a b))) w) : Calls Tryz.prog 250 #[.int .u64 a, .int .u64 b] w R := by
  have HR := Lib.hid hR
  clear hR
  refine C.calls (args := [.int .u64 a, .int .u64 b]) Tryz.func250 rfl rfl rfl ?_
  refine go ?_
  refine E.callf Tryz.func297 rfl ?_
  refine nanU_any ?_
  refine go ?_
  refine E.callf Tryz.func297 rfl ?_
  refine nanU_any ?_
  refine go ?_
  refine C.cond_dec (p := a < b) rfl (fun h => ?_) (fun h => ?_)
  · refine go ?_
    refine A.r1 ?_
    simpa [cmpI, h] using HR.out
  · refine go ?_
    refine C.cond_dec (p := b < a) rfl (fun h2 => ?_) (fun h2 => ?_)
    · refine go ?_
      refine A.r1 ?_
      simpa [cmpI, h, h2] using HR.out
    · refine go ?_
      refine A.r1 ?_
      simpa [cmpI, h, h2] using HR.out
set_option maxHeartbeats 1600000 in
set_option maxRecDepth 100000 in
theorem cmpI_any {R : Ending → World → Prop} {w : World} {a b : Int} (hR : R (.returned (.int .i64 (cmpI a b))) w) : Calls Tryz.prog 251 #[.int .i64 a, .int .i64 b] w R := by
  have HR := Lib.hid hR
  clear hR
  refine C.calls (args := [.int .i64 a, .int .i64 b]) Tryz.func251 rfl rfl rfl ?_
  refine go ?_
  refine E.callf Tryz.func298 rfl ?_
  refine nanI_any ?_
  refine go ?_
  refine E.callf Tryz.func298 rfl ?_
  refine nanI_any ?_
  refine go ?_
  refine C.cond_dec (p := a < b) rfl (fun h => ?_) (fun h => ?_)
  · refine go ?_
    refine A.r1 ?_
    simpa [cmpI, h] using HR.out
  · refine go ?_
    refine C.cond_dec (p := b < a) rfl (fun h2 => ?_) (fun h2 => ?_)
    · refine go ?_
      refine A.r1 ?_
      simpa [cmpI, h, h2] using HR.out
    · refine go ?_
      refine A.r1 ?_
      simpa [cmpI, h, h2] using HR.out

theorem el_int : ElemOf Tryz.prog 128 3 (.int .i64 0) 1 8 := .of Tryz.underlying128 (by kernel_rfl) rfl (by decide)

set_option maxHeartbeats 1600000 in
set_option maxRecDepth 100000 in
/-- cmp.Or of two. -/
theorem or_any {R : Ending → World → Prop} {W w : World} {g : Hl} {H : List HP} {b : Nat} {x y : Int} (hs : Sat W w g (blk b [.int .i64 x, .int .i64 y] 3 :: H)) (hR : R (.returned (.int .i64 (if x ≠ 0 then x else y))) w) : Calls Tryz.prog 249 #[.slice (some ⟨b, 0, none⟩) 2 2] w R := by
  have HR := Lib.hid hR
  clear hR
  refine C.calls (args := [.slice (some ⟨b, 0, none⟩) 2 2]) Tryz.func249 rfl rfl rfl ?_
  refine gob ?_
  refine C.block ?_
  refine C.lp (fun i : Nat => [(0, .slice (some ⟨b, 0, none⟩) 2 2), (3, .int .i64 0), (6, .slice (some ⟨b, 0, none⟩) 2 2), (7, .int .i64 2), (8, .int .i64 i)]) (fun gk i w' => gk = 2 - i ∧ i ≤ 2 ∧ (0 < i → x = 0) ∧ (1 < i → y = 0) ∧ w' = w) 2 0 ⟨rfl, by omega, by omega, by omega, rfl⟩ ?_
  rintro gk i w' ⟨rfl, hi, h1, h2, rfl⟩
  obtain rfl | rfl | rfl : i = 0 ∨ i = 1 ∨ i = 2 := by omega
  · refine go ?_
    cases hx : decide (x = 0) with
    | true =>
      refine go ?_
      have : x = 0 := of_decide_eq_true hx
      exact A.rd 1 1 ⟨rfl, by omega, fun _ => this, by omega, rfl⟩
    | false =>
      refine go ?_
      refine A.r1 ?_
      have : x ≠ 0 := of_decide_eq_false hx
      simpa [this] using HR.out
  · have h1 := h1 (by omega)
    refine go ?_
    cases hx : decide (y = 0) with
    | true =>
      refine go ?_
      have : y = 0 := of_decide_eq_true hx
      exact A.rd 0 2 ⟨rfl, by omega, fun _ => h1, fun _ => this, rfl⟩
    | false =>
      refine go ?_
      refine A.r1 ?_
      simpa [h1] using HR.out
  · have h1 := h1 (by omega)
    have h2 := h2 (by omega)
    refine go ?_
    refine A.r1 ?_
    simpa [h1, h2] using HR.out
end Go.Proofs.YtdkbpcibmipelaaGreatDoor

/-
  Layers 1, 2 (quantity, digits): a quantity's bits; a number in eight bytes; bytes copied.
-/
namespace Go.Proofs.YtdkbpcibmipelaaGreatDoor
open Go.RowKit
set_option linter.unusedVariables false
set_option linter.unusedSimpArgs false

/-- A quantity's bits. -/
def bitsF (b : Nat) : Nat := if nanF b = true then 9221120237041090561 else b
/-- A quantity and some more, as it is kept. -/
def sumF (a b : Nat) : Nat := match Ieee.double.add a b with
  | some r => bitsF r
  | none => 9221120237041090561
theorem bitsF_lt {b : Nat} (h : b < 18446744073709551616) : bitsF b < 18446744073709551616 := by unfold bitsF; split <;> omega

set_option maxHeartbeats 1600000 in
set_option maxRecDepth 100000 in
theorem isNaN_any {R : Ending → World → Prop} {w : World} {b : Nat} (hR : R (.returned (.bool (nanF b))) w) : Calls Tryz.prog 243 #[.float .f64 b] w R := by
  have HR := Lib.hid hR
  clear hR
  refine C.calls (args := [.float .f64 b]) Tryz.func243 rfl rfl rfl ?_
  refine go ?_
  refine A.r1 ?_
  exact HR.out

set_option maxHeartbeats 1600000 in
set_option maxRecDepth 100000 in
theorem bits_any {R : Ending → World → Prop} {w : World} {b : Nat} (hR : R (.returned (.int .u64 (bitsF b))) w) : Calls Tryz.prog 176 #[.float .f64 b] w R := by
  have HR := Lib.hid hR
  clear hR
  refine C.calls (args := [.float .f64 b]) Tryz.func176 rfl rfl rfl ?_
  refine go ?_
  refine E.callf Tryz.func243 rfl ?_
  refine isNaN_any ?_
  refine go ?_
  cases hn : nanF b with
  | true =>
    refine go ?_
    refine A.r1 ?_
    simpa [bitsF, hn] using HR.out
  | false =>
    refine go ?_
    refine E.ext (v := .int .u64 b) (w' := w) Tryz.func173 (ex := Extern.MathFloatBits.float64bits) rfl ?_
    refine go ?_
    refine A.r1 ?_
    simpa [bitsF, hn] using HR.out

set_option maxHeartbeats 1600000 in
set_option maxRecDepth 100000 in
theorem plain_any {R : Ending → World → Prop} {w : World} {b : Nat} (hR : R (.returned (.float .f64 (bitsF b))) w) : Calls Tryz.prog 177 #[.float .f64 b] w R := by
  have HR := Lib.hid hR
  clear hR
  refine C.calls (args := [.float .f64 b]) Tryz.func177 rfl rfl rfl ?_
  refine go ?_
  refine E.callf Tryz.func176 rfl ?_
  refine bits_any ?_
  refine E.ext (v := .float .f64 (bitsF b)) (w' := w) Tryz.func244 (ex := Extern.MathFloatBits.float64frombits) rfl ?_
  refine go ?_
  refine A.r1 ?_
  exact HR.out

set_option maxHeartbeats 1600000 in
set_option maxRecDepth 100000 in
theorem qsum_any {R : Ending → World → Prop} {W w : World} {g : Hl} {H : List HP} {a b : Nat} (hs : Sat W w g H) (hR : ∀ w', Sat W w' g H → R (.returned (.float .f64 (sumF a b))) w') : Calls Tryz.prog 210 #[.float .f64 a, .float .f64 b] w R := by
  have HR := Lib.hid hR
  clear hR
  refine C.calls (args := [.float .f64 a, .float .f64 b]) Tryz.func210 rfl rfl rfl ?_
  refine go ?_
  refine E.fadd hs ?_
  intro r w1 hs hr
  refine E.callf Tryz.func177 rfl ?_
  refine plain_any ?_
  refine go ?_
  refine A.r1 ?_
  have := HR.out _ hs
  rcases hr with hr | ⟨hr, h2, h3⟩
  · simpa [sumF, hr] using this
  · simpa [sumF, hr, bitsF, nan_rung h2] using this

/-- A number's k lowest bytes, the highest first. -/
def fixG : Nat → Nat → List UInt8
  | 0, _ => []
  | k + 1, n => UInt8.ofNat (n / 2 ^ (8 * k)) :: fixG k n
def fixB (n : Nat) : List UInt8 := fixG 8 n
theorem fixG_len : ∀ (k n : Nat), (fixG k n).length = k
  | 0, _ => rfl
  | k + 1, n => by simp [fixG, fixG_len k n]
theorem fixB_len (n : Nat) : (fixB n).length = 8 := fixG_len 8 n

set_option maxHeartbeats 1600000 in
set_option maxRecDepth 100000 in
theorem fixed_any {R : Ending → World → Prop} {W w : World} {g : Hl} {H : List HP} {v : Value} {k n : Nat} {xs : List Value} (hs : Sat W w g (own 5 1 v k xs :: H)) (hn : n < 18446744073709551616) (hk : k ≤ 1000000000)
    (hR : ∀ a' c' w', Sat W w' g (own 5 1 (.slice a' (k + 8) c') (k + 8) (xs ++ bs (fixB n)) :: H) → R (.returned (.slice a' (k + 8) c')) w') :
    Calls Tryz.prog 175 #[v, .int .u64 n] w R := by
  have HR := Lib.hid hR
  clear hR
  obtain ⟨a, c, rfl, hkc, hcm, _⟩ := hs.ownLen
  refine C.calls (args := [.slice a k c, .int .u64 n]) Tryz.func175 rfl rfl rfl ?_
  refine gob ?_
  refine C.block ?_
  refine C.lp (fun x : Nat × Nat × Option Addr × Nat × List Value => [(0, .slice x.2.2.1 x.2.1 x.2.2.2.1), (1, .int .u64 n), (5, .int .i64 ((x.1 : Int) - 1))])
    (fun gk x w => gk = x.1 ∧ x.1 ≤ 8 ∧ x.2.1 + x.1 = k + 8 ∧ x.2.2.2.2 ++ bs (fixG x.1 n) = xs ++ bs (fixB n) ∧ Sat W w g (own 5 1 (.slice x.2.2.1 x.2.1 x.2.2.2.1) x.2.1 x.2.2.2.2 :: H)) 8 (8, k, a, c, xs) ⟨rfl, by omega, rfl, rfl, hs⟩ ?_
  clear hs
  rintro gk ⟨i, k1, a1, c1, ys⟩ w1 ⟨hgk, hi, hk1, hy, hs⟩
  simp only at hgk hi hk1 hy hs ⊢
  replace hgk := hgk.symm
  subst hgk
  refine go ?_
  refine C.cond_dec (p := (0 : Int) ≤ (i : Int) - 1) rfl (fun h => ?_) (fun h => ?_)
  · obtain ⟨j, rfl⟩ : ∃ j, i = j + 1 := ⟨i - 1, by omega⟩
    have ej : ((j + 1 : Nat) : Int) - 1 = j := by omega
    rw [ej]
    refine go ?_
    refine E.bsl hs ?_
    intro b2 w2 hs
    refine E.app el_u8 hs.swap (hs.rowOf (size := 1) 1 rfl (by decide)) ?_
    intro a3 c3 w3 _ _ hs
    refine go ?_
    refine A.rd j (j, k1 + 1, a3, c3, ys ++ [.int .u8 ((n / 2 ^ (8 * j) % 256 : Nat))]) ⟨rfl, by omega, by simp only; omega, ?_, hs.swap.drop⟩
    simp only
    rw [← hy]
    simp [fixG, bs]
  · refine go ?_
    refine A.r1 ?_
    have hi0 : i = 0 := by omega
    subst hi0
    simp only [fixG, bs, List.map_nil, List.append_nil] at hy
    subst hy
    obtain rfl : k1 = k + 8 := by omega
    exact HR.out _ _ _ hs

set_option maxHeartbeats 1600000 in
set_option maxRecDepth 100000 in
/-- bytes.Clone. -/
theorem bclone_any {R : Ending → World → Prop} {W w : World} {g : Hl} {H : List HP} {a : Option Addr} {n c : Nat} {l : List UInt8} (hs : Sat W w g H) (hp : Pr 1 g (.slice a n c) n (bs l)) (hn : n ≤ 1000000000)
    (hR : ∀ a' c' w' g', Hl.le g g' → Pr 1 g' (.slice a' n c') n (bs l) → Sat W w' g' H → R (.returned (.slice a' n c')) w') :
    Calls Tryz.prog 209 #[.slice a n c] w R := by
  have HR := Lib.hid hR
  clear hR
  cases a with
  | none =>
    obtain ⟨_, a0, c0, e, _, _, h0, _⟩ := id hp
    simp only [Value.slice.injEq] at e
    obtain ⟨rfl, _, rfl⟩ := e
    obtain ⟨rfl, rfl⟩ := h0 rfl
    refine C.calls (args := [.slice none 0 0]) Tryz.func209 rfl rfl rfl ?_
    refine go ?_
    refine A.r1 ?_
    exact HR.out _ _ _ _ (Hl.le_refl _) hp hs
  | some ad =>
    refine C.calls (args := [.slice (some ad) n c]) Tryz.func209 rfl rfl rfl ?_
    refine go ?_
    refine E.bsl hs ?_
    intro b1 w1 hs
    have hs := hs.blkOwn (size := 1) 0 rfl (by decide)
    refine go ?_
    refine E.app el_u8 hs (hp.row hs) ?_
    intro a2 c2 w2 _ _ hs
    obtain ⟨g2, hg2, hp2, hs⟩ := hs.publishOwn
    simp only [Nat.zero_add, List.nil_append] at hp2 ⊢
    refine go ?_
    refine A.r1 ?_
    exact HR.out _ _ _ _ hg2 hp2 hs

/-- An event as bytes. -/
def Ev.keyB (e : Ev) : List UInt8 := if 1 ≤ e.kd ∧ e.kd ≤ 4 then textB e.key else []
def Ev.restB (e : Ev) : List UInt8 := if e.kd = 1 then textB e.text else if e.kd = 2 ∨ e.kd = 3 then fixB (bitsF e.num) else if e.kd = 5 then layN e.nd.toNat else []
def Ev.enc (e : Ev) : List UInt8 := layN e.wr.toNat ++ layN e.sq ++ layN e.tm ++ [UInt8.ofNat e.kd] ++ e.keyB ++ e.restB
theorem Ev.enc_len (e : Ev) (h1 : e.wr.toNat < 18446744073709551616) (h2 : e.sq < 18446744073709551616) (h3 : e.tm < 18446744073709551616) (h4 : e.key.length < 18446744073709551616) (h5 : e.text.length < 18446744073709551616) (h6 : e.nd.toNat < 18446744073709551616) : e.enc.length ≤ 61 + e.key.length + e.text.length := by
  have := layN_ten h1
  have := layN_ten h2
  have := layN_ten h3
  have k1 : e.keyB.length ≤ e.key.length + 10 := by
    unfold Ev.keyB
    split
    · exact textB_len _ h4
    · simp
  have k2 : e.restB.length ≤ e.text.length + 20 := by
    unfold Ev.restB
    repeat' split
    · have := textB_len _ h5; omega
    · rw [fixB_len]; omega
    · have := layN_ten h6; omega
    · simp
  simp only [Ev.enc, List.length_append, List.length_cons, List.length_nil]
  omega

set_option maxHeartbeats 3200000 in
set_option maxRecDepth 100000 in
theorem encode_any {R : Ending → World → Prop} {W w : World} {g : Hl} {H : List HP} {e : Ev} (ho : e.ok g) (hwr : 0 ≤ e.wr) (hnd : e.kd = 5 → 0 ≤ e.nd) (hs : Sat W w g H)
    (hR : ∀ a' c' w' g', Hl.le g g' → Sat W w' g' (own 5 1 (.slice a' e.enc.length c') e.enc.length (bs e.enc) :: H) → R (.returned (.slice a' e.enc.length c')) w') :
    Calls Tryz.prog 102 #[e.val] w R := by
  have HR := Lib.hid hR
  clear hR
  obtain ⟨a, c, etv, hnc, _⟩ := ho.tv.len
  have hkd := ho.kd
  have hsq := ho.sq
  have htm := ho.tm
  have h1 := ho.wr
  have h2 := ho.nd
  have h3 := ho.key
  have h4 := ho.text
  have h5 := ho.tv
  have h6 := ho.num
  clear ho
  obtain ⟨wr, sq, tm, kd, key, text, num, nd, tv⟩ := e
  simp only at etv hkd hsq htm h1 h2 h3 h4 h5 h6 hwr hnd
  simp only [Ev.val, Ev.cs]
  subst etv
  obtain ⟨wr, rfl⟩ := Int.eq_ofNat_of_zero_le hwr
  have l1 := layN_ten (n := wr) (by omega)
  have l2 := layN_ten (n := sq) (by omega)
  have l3 := layN_ten (n := tm) (by omega)
  refine C.calls (args := [.agg #[.int .i64 wr, .int .u64 sq, .int .u64 tm, .int .u8 kd, .string ⟨key.toArray⟩, .slice a text.length c, .float .f64 num, .int .i64 nd]]) Tryz.func102 rfl rfl rfl ?_
  refine go ?_
  refine E.bx hs ?_
  intro b1 w1 hs
  refine go ?_
  refine E.callf Tryz.func94 rfl ?_
  refine lay_any hs.nilOwn (by omega) (by omega) ?_
  intro a2 c2 w2 hs
  simp only [Nat.zero_add, List.nil_append] at hs ⊢
  refine gob ?_
  have e8 : (UInt8.ofNat kd).toNat = kd := by simp; omega
  refine C.cut (fun x : Option Addr × Nat => [(1, .pointer (some ⟨b1, 0, none⟩)), (3, .slice x.1 (layN wr ++ layN sq ++ layN tm ++ [UInt8.ofNat kd]).length x.2)])
    (fun x w => Sat W w g (own 5 1 (.slice x.1 (layN wr ++ layN sq ++ layN tm ++ [UInt8.ofNat kd]).length x.2) (layN wr ++ layN sq ++ layN tm ++ [UInt8.ofNat kd]).length (bs (layN wr ++ layN sq ++ layN tm ++ [UInt8.ofNat kd])) :: blk b1 [.int .i64 wr, .int .u64 sq, .int .u64 tm, .int .u8 kd, .string ⟨key.toArray⟩, .slice a text.length c, .float .f64 num, .int .i64 nd] 46 :: H)) ?_ ?_
  · refine C.held1 b1 hs ?_
    intro w hk hs
    refine goh ?_
    refine EH.orb hs (St.callf Tryz.func94 rfl ?_) ?_
    · refine lay_any hs (by omega) (by omega) ?_
      intro a3 c3 w hs
      refine kept1 hs (fun hk => ?_)
      refine goh ?_
      refine EH.orb hs (St.callf Tryz.func94 rfl ?_) ?_
      · refine lay_any hs (by omega) (by omega) ?_
        intro a4 c4 w hs
        refine kept1 hs (fun hk => ?_)
        refine goh ?_
        refine EH.bsl hs ?_
        intro b5 w hs
        refine kept1 hs (fun hk => ?_)
        refine goh ?_
        refine EH.app el_u8 hs.swap (hs.rowOf (size := 1) 1 rfl (by decide)) ?_
        intro a9 c9 w _ _ hs
        refine kept1 hs (fun hk => ?_)
        refine goh ?_
        refine EH.done ?_
        refine A.mt (a9, c9) ?_ ?_
        · have := hs.swap.drop
          simpa [bs_append, bs, e8, Nat.add_assoc] using this
        · simp only [List.length_append, List.length_cons, List.length_nil, Nat.add_assoc]
          exact wk_
      · intro b5 w hs
        refine kept1 hs (fun hk => ?_)
        refine goh ?_
        refine EH.one (St.callf Tryz.func94 rfl ?_)
        refine lay_any hs.swap (by omega) (by omega) ?_
        intro a4 c4 w hs
        refine kept1 hs (fun hk => ?_)
        refine goh ?_
        refine EH.app el_u8 hs (hs.swap.rowOf (size := 1) 1 rfl (by decide)) ?_
        intro a9 c9 w _ _ hs
        refine kept1 hs (fun hk => ?_)
        refine goh ?_
        refine EH.done ?_
        refine A.mt (a9, c9) ?_ ?_
        · have := hs.swap.drop
          simpa [bs_append, bs, e8, Nat.add_assoc] using this
        · simp only [List.length_append, List.length_cons, List.length_nil, Nat.add_assoc]
          exact wk_
    · intro b5 w hs
      refine kept1 hs (fun hk => ?_)
      refine goh ?_
      refine EH.one (St.callf Tryz.func94 rfl ?_)
      refine lay_any hs.swap (by omega) (by omega) ?_
      intro a3 c3 w hs
      refine kept1 hs (fun hk => ?_)
      refine goh ?_
      refine EH.one (St.callf Tryz.func94 rfl ?_)
      refine lay_any hs (by omega) (by omega) ?_
      intro a4 c4 w hs
      refine kept1 hs (fun hk => ?_)
      refine goh ?_
      refine EH.app el_u8 hs (hs.swap.rowOf (size := 1) 1 rfl (by decide)) ?_
      intro a9 c9 w _ _ hs
      refine kept1 hs (fun hk => ?_)
      refine goh ?_
      refine EH.done ?_
      refine A.mt (a9, c9) ?_ ?_
      · have := hs.swap.drop
        simpa [bs_append, bs, e8, Nat.add_assoc] using this
      · simp only [List.length_append, List.length_cons, List.length_nil, Nat.add_assoc]
        exact wk_
  clear hs
  have lA : (layN wr ++ layN sq ++ layN tm ++ [UInt8.ofNat kd]).length ≤ 31 := by
    simp only [List.length_append, List.length_cons, List.length_nil]; omega
  have hR2 : ∀ (B : List UInt8) (n' : Nat), layN wr ++ layN sq ++ layN tm ++ [UInt8.ofNat kd] ++ B = Ev.enc ⟨wr, sq, tm, kd, key, text, num, nd, .slice a text.length c⟩ → n' = (layN wr ++ layN sq ++ layN tm ++ [UInt8.ofNat kd]).length + B.length → ∀ a' c' w' g', Hl.le g g' → Sat W w' g' (own 5 1 (.slice a' n' c') n' (bs (layN wr ++ layN sq ++ layN tm ++ [UInt8.ofNat kd]) ++ bs B) :: H) → R (.returned (.slice a' n' c')) w' := fun B n' hB hn' a' c' w' g' hg' hs' => by
    rw [← bs_append, hB] at hs'
    rw [← List.length_append, hB] at hn'
    subst hn'
    exact HR.out _ _ _ _ hg' hs'
  clear HR
  simp only [Ev.enc, Ev.keyB, Ev.restB, Int.toNat_natCast] at hR2
  generalize hAA : layN wr ++ layN sq ++ layN tm ++ [UInt8.ofNat kd] = A1 at lA hR2 ⊢
  clear hAA
  rintro ⟨a2, c2⟩ w2 hs
  simp only at hs ⊢
  have h3b : key.length ≤ 1000000000 := by omega
  have hkey := textB_len key (by omega)
  have htext := textB_len text (by omega)
  have hcases : kd = 1 ∨ kd = 2 ∨ kd = 3 ∨ kd = 4 ∨ kd = 5 ∨ kd = 0 ∨ 5 < kd := by omega
  rcases hcases with hq | hq | hq | hq | hq | hq | hq
  · subst hq
    simp only [show (1 ≤ 1 ∧ 1 ≤ 4) = True by simp, if_true] at hR2
    have HR2 := Lib.hid hR2
    clear hR2
    refine go ?_
    refine E.bytes Tryz.underlying9 Tryz.underlying33 Tryz.underlying5 hs h3b ?_
    intro b5 c5 w3 g3 hg3 hs hp5
    refine go ?_
    refine E.callf Tryz.func169 rfl ?_
    refine layText_any hs hp5 rfl (by omega) (by omega) ?_
    intro a4 c4 w4 hs
    refine go ?_
    refine E.callf Tryz.func169 rfl ?_
    refine layText_any hs (h5.mono hg3) rfl (by omega) (by omega) ?_
    intro a6 c6 w6 hs
    refine go ?_
    refine A.r1 ?_
    refine HR2.out (textB key ++ textB text) _ (by simp) (by simp; omega) _ _ _ _ hg3 ?_
    simp only [bs_append, ← List.append_assoc] at hs ⊢
    exact hs.swap.drop
  · subst hq
    simp only [show (1 ≤ 2 ∧ 2 ≤ 4) = True by simp, if_true] at hR2
    have HR2 := Lib.hid hR2
    clear hR2
    refine go ?_
    refine E.bytes Tryz.underlying9 Tryz.underlying33 Tryz.underlying5 hs h3b ?_
    intro b5 c5 w3 g3 hg3 hs hp5
    refine go ?_
    refine E.callf Tryz.func169 rfl ?_
    refine layText_any hs hp5 rfl (by omega) (by omega) ?_
    intro a4 c4 w4 hs
    refine go ?_
    refine E.callf Tryz.func176 rfl ?_
    refine bits_any ?_
    refine E.callf Tryz.func175 rfl ?_
    refine fixed_any hs (bitsF_lt h6) (by omega) ?_
    intro a6 c6 w6 hs
    refine go ?_
    refine A.r1 ?_
    refine HR2.out (textB key ++ fixB (bitsF num)) _ (by simp) (by simp [fixB_len]; omega) _ _ _ _ hg3 ?_
    simp only [bs_append, ← List.append_assoc] at hs ⊢
    exact hs.swap.drop
  · subst hq
    simp only [show (1 ≤ 3 ∧ 3 ≤ 4) = True by simp, if_true] at hR2
    have HR2 := Lib.hid hR2
    clear hR2
    refine go ?_
    refine E.bytes Tryz.underlying9 Tryz.underlying33 Tryz.underlying5 hs h3b ?_
    intro b5 c5 w3 g3 hg3 hs hp5
    refine go ?_
    refine E.callf Tryz.func169 rfl ?_
    refine layText_any hs hp5 rfl (by omega) (by omega) ?_
    intro a4 c4 w4 hs
    refine go ?_
    refine E.callf Tryz.func176 rfl ?_
    refine bits_any ?_
    refine E.callf Tryz.func175 rfl ?_
    refine fixed_any hs (bitsF_lt h6) (by omega) ?_
    intro a6 c6 w6 hs
    refine go ?_
    refine A.r1 ?_
    refine HR2.out (textB key ++ fixB (bitsF num)) _ (by simp) (by simp [fixB_len]; omega) _ _ _ _ hg3 ?_
    simp only [bs_append, ← List.append_assoc] at hs ⊢
    exact hs.swap.drop
  · subst hq
    simp only [show (1 ≤ 4 ∧ 4 ≤ 4) = True by simp, if_true] at hR2
    have HR2 := Lib.hid hR2
    clear hR2
    refine go ?_
    refine E.bytes Tryz.underlying9 Tryz.underlying33 Tryz.underlying5 hs h3b ?_
    intro b5 c5 w3 g3 hg3 hs hp5
    refine go ?_
    refine E.callf Tryz.func169 rfl ?_
    refine layText_any hs hp5 rfl (by omega) (by omega) ?_
    intro a4 c4 w4 hs
    refine go ?_
    refine A.r1 ?_
    refine HR2.out (textB key) _ (by simp) (by simp) _ _ _ _ hg3 ?_
    exact hs.swap.drop
  · subst hq
    obtain ⟨nd, rfl⟩ := Int.eq_ofNat_of_zero_le (hnd rfl)
    simp only [show (1 ≤ 5 ∧ 5 ≤ 4) = False by simp, if_false, Int.toNat_natCast] at hR2
    have HR2 := Lib.hid hR2
    clear hR2
    refine go ?_
    refine E.callf Tryz.func94 rfl ?_
    refine lay_any hs (by omega) (by omega) ?_
    intro a6 c6 w6 hs
    refine go ?_
    refine A.r1 ?_
    refine HR2.out (layN nd) _ (by simp) (by simp) _ _ _ _ (Hl.le_refl _) ?_
    exact hs.swap.drop
  · subst hq
    simp only [show (1 ≤ 0 ∧ 0 ≤ 4) = False by simp, if_false] at hR2
    have HR2 := Lib.hid hR2
    clear hR2
    refine go ?_
    refine A.r1 ?_
    refine HR2.out [] _ (by simp) (by simp) _ _ _ _ (Hl.le_refl _) ?_
    simpa [bs] using hs.swap.drop
  · refine go ?_
    rw [show decide ((1 : Int) ≤ kd) = true from decide_eq_true (by omega)]
    refine go ?_
    rw [show decide ((kd : Int) ≤ 4) = false from decide_eq_false (by omega)]
    refine go ?_
    rw [show decide ((kd : Int) = 1) = false from decide_eq_false (by omega)]
    refine go ?_
    rw [show decide ((kd : Int) = 2) = false from decide_eq_false (by omega)]
    refine go ?_
    rw [show decide ((kd : Int) = 3) = false from decide_eq_false (by omega)]
    refine go ?_
    rw [show decide ((kd : Int) = 5) = false from decide_eq_false (by omega)]
    refine go ?_
    refine A.r1 ?_
    have k1 : ¬ (1 ≤ kd ∧ kd ≤ 4) := by omega
    have k2 : ¬ kd = 1 := by omega
    have k3 : ¬ (kd = 2 ∨ kd = 3) := by omega
    have k4 : ¬ kd = 5 := by omega
    simp only [k1, k2, k3, k4, if_false] at hR2
    refine hR2 [] _ (by simp) (by simp) _ _ _ _ (Hl.le_refl _) ?_
    simpa [bs] using hs.swap.drop
end Go.Proofs.YtdkbpcibmipelaaGreatDoor

/-
  Layer 2 (digits): a tape's next text; its next eight bytes.
-/
namespace Go.Proofs.YtdkbpcibmipelaaGreatDoor
open Go.RowKit
set_option linter.unusedVariables false
set_option linter.unusedSimpArgs false

set_option maxHeartbeats 1600000 in
set_option maxRecDepth 100000 in
theorem text_any {R : Ending → World → Prop} {W w : World} {g : Hl} {H : List HP} {b : Nat} {l : List UInt8} (most : Nat) {mi : Int} (hmi : mi = most) (hmost : most ≤ 1000000000) (hll : l.length ≤ 140737488355328) (hs : Sat W w g (tape b l :: H))
    (hR : ∀ v r a c w' g', Hl.le g g' → rdText most l = .ok (v, r) → v.length ≤ most → Pr 1 g' (.slice a v.length c) v.length (bs v) → Sat W w' g' (tape b r :: H) → R (.returned (.slice a v.length c)) w') (hE : ∀ e w', rdText most l = .error e → e ≠ 0 → Sat W w' g H → R (.panicked (flt e)) w') :
    Calls Tryz.prog 239 #[.pointer (some ⟨b, 0, none⟩), .int .i64 mi] w R := by
  have HR := Lib.hid hR
  have HE := Lib.hid hE
  clear hR hE
  subst hmi
  obtain ⟨a, c, hp, hs⟩ := tape_open hs
  refine C.calls (args := [.pointer (some ⟨b, 0, none⟩), .int .i64 most]) Tryz.func239 rfl rfl rfl ?_
  refine go ?_
  refine E.callf Tryz.func285 rfl ?_
  refine takeText_any most rfl hmost hs hp rfl hll ?_ ?_
  · intro v k b' o' c' a2 c2 w1 ht hk hkn hv hs hp2
    have hvl : ((l.drop k).take v).length = v := by rw [List.length_take, List.length_drop]; omega
    refine go ?_
    refine E.callf Tryz.func284 rfl ?_
    refine must_any 0 (fun _ => ?_) (fun h => absurd rfl h)
    refine go ?_
    refine E.sto (vs := [.slice (some ⟨b', o', none⟩) (l.length - k - v) c']) (ys := [.slice (some ⟨b', o', none⟩) (l.length - k - v) c']) hs ?_ (hv := rfl) (hsp := rfl)
    intro w3 hs
    refine go ?_
    obtain ⟨g4, hg4, hp4, hs⟩ := hs.publishOwn
    refine A.r1 ?_
    have h1 : rdText most l = .ok ((l.drop k).take v, l.drop (k + v)) := by
      simp only [rdText, ht]
      rw [if_neg (by simp), if_neg (by omega), if_neg (by omega)]
    have := HR.out ((l.drop k).take v) (l.drop (k + v)) a2 c2 _ g4 hg4 h1 (by omega) (by rw [hvl]; exact hp4) (tape_close (by rw [List.length_drop]; omega) (hp2.mono hg4) hs)
    rw [hvl] at this
    exact this
  · intro e w1 hc hs
    have hne : e ≠ 0 := by
      rcases hc with ⟨_, h⟩ | ⟨_, _, _, h⟩ <;> omega
    have h1 : rdText most l = .error e := by
      rcases hc with ⟨h, _⟩ | ⟨v, k, h, h2⟩
      · simp only [rdText, h]
        rw [if_pos hne]
      · simp only [rdText, h]
        rcases h2 with ⟨rfl, h2⟩ | ⟨rfl, h2, h3⟩
        · rw [if_neg (by simp), if_pos h2]
        · rw [if_neg (by simp), if_neg (by omega), if_pos h3]
    refine go ?_
    refine E.callf Tryz.func284 rfl ?_
    refine must_any e (fun h => absurd h hne) (fun _ => ?_)
    refine go ?_
    exact HE.out e _ h1 hne hs.drop

/-- Eight bytes as a number, the highest first. -/
def fixV : Nat → List UInt8 → Nat := fun a l => l.foldl (fun a b => (a * 256 + b.toNat) % 18446744073709551616) a
def rdFix (l : List UInt8) : Except Int (Nat × List UInt8) := if l.length < 8 then .error 5 else .ok (fixV 0 (l.take 8), l.drop 8)
theorem fixV_lt : ∀ (l : List UInt8) (a : Nat), a < 18446744073709551616 → fixV a l < 18446744073709551616
  | [], _, h => h
  | _ :: l, a, _ => fixV_lt l _ (Nat.mod_lt _ (by decide))
theorem fixV_fixG : ∀ (k n a : Nat), (a + 1) * 2 ^ (8 * k) ≤ 18446744073709551616 → fixV a (fixG k n) = a * 2 ^ (8 * k) + n % 2 ^ (8 * k)
  | 0, n, a, _ => by simp [fixG, fixV, Nat.mod_one]
  | k + 1, n, a, h => by
    have hp : 0 < 2 ^ (8 * k) := Nat.pow_pos (by decide)
    have e1 : 2 ^ (8 * (k + 1)) = 2 ^ (8 * k) * 256 := by rw [Nat.mul_add, Nat.pow_add]
    rw [e1] at h ⊢
    have hq : n / 2 ^ (8 * k) % 256 < 256 := Nat.mod_lt _ (by decide)
    have hb : (UInt8.ofNat (n / 2 ^ (8 * k))).toNat = n / 2 ^ (8 * k) % 256 := by simp
    have h2 : (a + 1) * 256 ≤ (a + 1) * (2 ^ (8 * k) * 256) := Nat.mul_le_mul_left _ (Nat.le_mul_of_pos_left _ hp)
    have h3 : (a * 256 + n / 2 ^ (8 * k) % 256) % 18446744073709551616 = a * 256 + n / 2 ^ (8 * k) % 256 := Nat.mod_eq_of_lt (by omega)
    show fixV ((a * 256 + (UInt8.ofNat (n / 2 ^ (8 * k))).toNat) % 18446744073709551616) (fixG k n) = _
    rw [hb, h3, fixV_fixG k n _ ?_, Nat.mod_mul, Nat.add_mul]
    · have : a * 256 * 2 ^ (8 * k) = a * (2 ^ (8 * k) * 256) := by rw [Nat.mul_assoc, Nat.mul_comm 256]
      rw [this, Nat.mul_comm (2 ^ (8 * k)) (n / 2 ^ (8 * k) % 256)]
      omega
    · refine Nat.le_trans (Nat.mul_le_mul_right _ (show a * 256 + n / 2 ^ (8 * k) % 256 + 1 ≤ (a + 1) * 256 by omega)) ?_
      rw [Nat.mul_assoc, Nat.mul_comm 256]
      exact h
theorem fixV_fixB {n : Nat} (h : n < 18446744073709551616) : fixV 0 (fixB n) = n := by
  have := fixV_fixG 8 n 0 (by decide)
  rw [fixB, this, Nat.zero_mul, Nat.zero_add]
  exact Nat.mod_eq_of_lt h
theorem rdFix_fixB {n : Nat} (h : n < 18446744073709551616) (r : List UInt8) : rdFix (fixB n ++ r) = .ok (n, r) := by
  have hl := fixB_len n
  unfold rdFix
  rw [if_neg (by rw [List.length_append]; omega), List.take_append_of_le_length (by omega), List.take_of_length_le (by omega), fixV_fixB h, List.drop_append_of_le_length (by omega), List.drop_eq_nil_of_le (by omega), List.nil_append]
theorem shl_or (a b : Nat) (hb : b < 256) : (a * 2 ^ 8 % 18446744073709551616) ||| b = (a * 256 + b) % 18446744073709551616 := by
  have e1 : a * 2 ^ 8 % 18446744073709551616 = (a % 72057594037927936) * 2 ^ 8 := by omega
  rw [e1, Nat.or_comm, or_mul b _ 8 (by simpa using hb)]
  omega

set_option maxHeartbeats 1600000 in
set_option maxRecDepth 100000 in
theorem tfixed_any {R : Ending → World → Prop} {W w : World} {g : Hl} {H : List HP} {b : Nat} {l : List UInt8} (hs : Sat W w g (tape b l :: H))
    (hR : ∀ v r w', rdFix l = .ok (v, r) → v < 18446744073709551616 → Sat W w' g (tape b r :: H) → R (.returned (.int .u64 v)) w') (hE : ∀ w', rdFix l = .error 5 → Sat W w' g H → R (.panicked (flt 5)) w') :
    Calls Tryz.prog 241 #[.pointer (some ⟨b, 0, none⟩)] w R := by
  have HR := Lib.hid hR
  have HE := Lib.hid hE
  clear hR hE
  refine C.calls (args := [.pointer (some ⟨b, 0, none⟩)]) Tryz.func241 rfl rfl rfl ?_
  refine gob ?_
  refine C.block ?_
  refine C.lp (fun x : Nat × Nat × List UInt8 => [(0, .pointer (some ⟨b, 0, none⟩)), (3, .int .u64 x.2.1), (4, .int .i64 x.1)])
    (fun gk x w => gk = 8 - x.1 ∧ x.1 ≤ 8 ∧ x.2.1 < 18446744073709551616 ∧ x.2.1 = fixV 0 (l.take x.1) ∧ x.2.2 = l.drop x.1 ∧ x.1 ≤ l.length ∧ Sat W w g (tape b x.2.2 :: H)) 8 (0, 0, l) ⟨rfl, by simp, by simp, rfl, rfl, Nat.zero_le _, hs⟩ ?_
  clear hs
  rintro gk ⟨i, v, r⟩ w1 ⟨rfl, hi, hv, hve, hr, hil, hs⟩
  simp only at hi hv hve hr hil hs ⊢
  refine go ?_
  refine C.cond_dec (p := (i : Int) < 8) rfl (fun h => ?_) (fun h => ?_)
  · refine go ?_
    refine E.callf Tryz.func238 rfl ?_
    refine byte_any hs ?_ ?_
    · intro u r2 w2 he hs
      have hil2 : i < l.length := by
        rcases Nat.lt_or_ge i l.length with h1 | h1
        · exact h1
        · rw [hr, List.drop_eq_nil_of_le h1] at he
          cases he
      have hd := List.drop_eq_getElem_cons hil2
      rw [← hr, he] at hd
      simp only [List.cons.injEq] at hd
      have hu : u.toNat < 256 := u.toNat_lt
      replace hd := Lib.hid hd
      replace he := Lib.hid he
      refine go ?_
      rw [show ((v * 2 ^ 8 % 2 ^ IntKind.u64.bits ||| u.toNat : Nat) : Int) = (((v * 256 + u.toNat) % 18446744073709551616 : Nat) : Int) from congrArg _ (shl_or v u.toNat (by omega))]
      refine A.rd (8 - (i + 1)) (i + 1, (v * 256 + u.toNat) % 18446744073709551616, r2) ⟨rfl, by simp only; omega, Nat.mod_lt _ (by decide), ?_, hd.out.2, by simp only; omega, hs⟩
      simp only
      rw [List.take_succ_eq_append_getElem hil2, fixV, List.foldl_append, hd.out.1, hve]
      rfl
    · intro he
      have hil2 : l.length ≤ i := by
        rw [hr] at he
        have := congrArg List.length he
        simp only [List.length_drop, List.length_nil] at this
        omega
      refine go ?_
      refine HE.out _ ?_ hs.drop
      unfold rdFix
      rw [if_pos (by omega)]
  · obtain rfl : i = 8 := by omega
    refine go ?_
    refine A.r1 ?_
    refine HR.out v r _ ?_ hv hs
    unfold rdFix
    rw [if_neg (by omega), hve, hr]
end Go.Proofs.YtdkbpcibmipelaaGreatDoor

/-
  Layer 6 (event): At, Compare, Right.
-/
namespace Go.Proofs.YtdkbpcibmipelaaGreatDoor
open Go.RowKit
set_option linter.unusedVariables false
set_option linter.unusedSimpArgs false

/-- A place, as a value. -/
def spot (t : Nat) (wr : Int) : Value := .agg #[.int .u64 t, .int .i64 wr]

theorem ag_spot : AggOf Tryz.prog 105 2 := ⟨_, Tryz.underlying105, rfl, by kernel_rfl⟩
theorem ag_ev : AggOf Tryz.prog 46 8 := ⟨_, Tryz.underlying46, rfl, by kernel_rfl⟩

set_option maxHeartbeats 1600000 in
set_option maxRecDepth 100000 in
theorem compare_any {R : Ending → World → Prop} {W w : World} {g : Hl} {H : List HP} {t1 t2 : Nat} {w1 w2 : Int} (hs : Sat W w g H) (hR : ∀ w', Sat W w' g H → R (.returned (.int .i64 (cmpS t1 w1 t2 w2))) w') :
    Calls Tryz.prog 189 #[spot t1 w1, spot t2 w2] w R := by
  have HR := Lib.hid hR
  clear hR
  simp only [spot]
  refine C.calls (args := [.agg #[.int .u64 t1, .int .i64 w1], .agg #[.int .u64 t2, .int .i64 w2]]) Tryz.func189 rfl rfl rfl ?_
  refine go ?_
  refine E.bx hs ?_
  intro b1 w1 hs
  refine go ?_
  refine E.bx hs ?_
  intro b2 w2 hs
  refine go ?_
  refine C.held2 b1 b2 hs ?_
  intro w hk hs
  refine goh ?_
  refine EH.one (St.callf Tryz.func250 rfl ?_)
  refine cmpU_any ?_
  refine kept2 hs (fun hk => ?_)
  refine goh ?_
  refine EH.one (St.callf Tryz.func251 rfl ?_)
  refine cmpI_any ?_
  refine kept2 hs (fun hk => ?_)
  refine goh ?_
  refine EH.bsl hs ?_
  intro b3 w3 hs
  refine kept2 hs (fun hk => ?_)
  refine EH.one (St.callf Tryz.func249 rfl ?_)
  refine or_any hs ?_
  refine kept2 hs (fun hk => ?_)
  refine goh ?_
  refine EH.done ?_
  refine go ?_
  refine A.r1 ?_
  exact HR.out _ hs.drop.drop.drop

set_option maxHeartbeats 1600000 in
set_option maxRecDepth 100000 in
theorem at_any {R : Ending → World → Prop} {W w : World} {g : Hl} {H : List HP} {e : Ev} (hs : Sat W w g H) (hR : ∀ w', Sat W w' g H → R (.returned (spot e.tm e.wr)) w') :
    Calls Tryz.prog 190 #[e.val] w R := by
  have HR := Lib.hid hR
  clear hR
  simp only [Ev.val, Ev.cs]
  refine C.calls (args := [.agg #[.int .i64 e.wr, .int .u64 e.sq, .int .u64 e.tm, .int .u8 e.kd, .string ⟨e.key.toArray⟩, e.tv, .float .f64 e.num, .int .i64 e.nd]]) Tryz.func190 rfl rfl rfl ?_
  refine go ?_
  refine E.bx hs ?_
  intro b1 w1 hs
  refine go ?_
  refine E.al hs ?_
  intro b2 w2 hs
  refine go ?_
  refine E.sto hs ?_
  intro w3 hs
  refine go ?_
  refine A.c1 rfl rfl (run_lda hs ag_spot) ?_
  exact HR.out _ hs.drop.drop

set_option maxHeartbeats 1600000 in
set_option maxRecDepth 100000 in
theorem node_any {R : Ending → World → Prop} {w : World} {a : Int} (hR : R (.returned (.bool (decide (0 ≤ a ∧ a < 64)))) w) :
    Calls Tryz.prog 174 #[.int .i64 a] w R := by
  have HR := Lib.hid hR
  clear hR
  refine C.calls (args := [.int .i64 a]) Tryz.func174 rfl rfl rfl ?_
  refine go ?_
  cases h1 : decide (0 ≤ a) with
  | true =>
    refine go ?_
    refine A.r1 ?_
    have := of_decide_eq_true h1
    simpa [this] using HR.out
  | false =>
    refine go ?_
    refine A.r1 ?_
    have := of_decide_eq_false h1
    simpa [this] using HR.out

/-- What may not be told of an event: the error's number. -/
def Ev.right (e : Ev) : Int :=
  if ¬ (0 ≤ e.wr ∧ e.wr < 64) ∨ e.sq = 0 ∨ e.tm = 0 ∨ e.kd < 1 ∨ 6 < e.kd ∨ (e.kd = 5 ∧ ¬ (0 ≤ e.nd ∧ e.nd < 64)) then 1
  else if (1 ≤ e.kd ∧ e.kd ≤ 4 ∧ (e.key.length = 0 ∨ 64 < e.key.length)) ∨ (e.kd = 1 ∧ 1048576 < e.text.length) then 6
  else if 9223372036854775807 < e.sq ∨ 9223372036854775807 < e.tm then 8 else 0

set_option maxHeartbeats 1600000 in
set_option maxRecDepth 100000 in
theorem right_any {R : Ending → World → Prop} {W w : World} {g : Hl} {H : List HP} {e : Ev} (ho : e.ok g) (hs : Sat W w g H) (hR : ∀ w', Sat W w' g H → R (.returned (.int .i64 e.right)) w') :
    Calls Tryz.prog 101 #[e.val] w R := by
  have HR := Lib.hid hR
  clear hR
  obtain ⟨a, c, etv, _, _⟩ := ho.tv.len
  have hkd := ho.kd
  have e1 : e.right = e.right := rfl
  obtain ⟨wr, sq, tm, kd, key, text, num, nd, tv⟩ := e
  simp only [Ev.val, Ev.cs] at etv hkd ⊢
  subst etv
  refine C.calls (args := [.agg #[.int .i64 wr, .int .u64 sq, .int .u64 tm, .int .u8 kd, .string ⟨key.toArray⟩, .slice a text.length c, .float .f64 num, .int .i64 nd]]) Tryz.func101 rfl rfl rfl ?_
  refine go ?_
  refine E.bx hs ?_
  intro b1 w1 hs
  refine E.pv pvt ?_
  refine E.nil ?_
  refine A.next ?_
  refine C.seq (C.cut (fun _ : Unit => [(1, .pointer (some ⟨b1, 0, none⟩)), (2, .int .i64 0), (3, .bool (decide (1 ≤ kd ∧ kd ≤ 4)))]) (fun _ w => Sat W w g (blk b1 [.int .i64 wr, .int .u64 sq, .int .u64 tm, .int .u8 kd, .string ⟨key.toArray⟩, .slice a text.length c, .float .f64 num, .int .i64 nd] 46 :: H)) ?_ ?_)
  · refine go ?_
    cases h1 : decide ((1 : Int) ≤ kd) with
    | false =>
      refine go ?_
      refine A.mt () hs ?_
      have h1' := of_decide_eq_false h1
      rw [show decide (1 ≤ kd ∧ kd ≤ 4) = false from decide_eq_false (by omega)]
      exact wk_
    | true =>
      refine go ?_
      refine A.mt () hs ?_
      have h1' := of_decide_eq_true h1
      rw [show decide (1 ≤ kd ∧ kd ≤ 4) = decide ((kd : Int) ≤ 4) from decide_eq_decide.2 (by omega)]
      exact wk_
  clear hs
  rintro _ w2 hs
  refine go ?_
  refine E.callf Tryz.func174 rfl ?_
  refine node_any ?_
  have one : ¬ (0 ≤ wr ∧ wr < 64) ∨ sq = 0 ∨ tm = 0 ∨ kd < 1 ∨ 6 < kd ∨ (kd = 5 ∧ ¬ (0 ≤ nd ∧ nd < 64)) → ∀ w', Sat W w' g H → R (.returned (.int .i64 1)) w' := fun h w' hs => by
    have := HR.out w' hs
    simp only [Ev.right] at this
    rw [if_pos h] at this
    exact this
  cases h1 : decide (0 ≤ wr ∧ wr < 64) with
  | false =>
    refine go ?_
    refine A.r1 ?_
    exact one (.inl (of_decide_eq_false h1)) _ hs.drop
  | true =>
  refine go ?_
  cases h2 : decide ((sq : Int) = 0) with
  | true =>
    refine go ?_
    refine A.r1 ?_
    exact one (.inr (.inl (by have := of_decide_eq_true h2; omega))) _ hs.drop
  | false =>
  refine go ?_
  cases h3 : decide ((tm : Int) = 0) with
  | true =>
    refine go ?_
    refine A.r1 ?_
    exact one (.inr (.inr (.inl (by have := of_decide_eq_true h3; omega)))) _ hs.drop
  | false =>
  refine go ?_
  cases h4 : decide ((kd : Int) < 1) with
  | true =>
    refine go ?_
    refine A.r1 ?_
    exact one (.inr (.inr (.inr (.inl (by have := of_decide_eq_true h4; omega))))) _ hs.drop
  | false =>
  refine go ?_
  cases h5 : decide (6 < (kd : Int)) with
  | true =>
    refine go ?_
    refine A.r1 ?_
    exact one (.inr (.inr (.inr (.inr (.inl (by have := of_decide_eq_true h5; omega)))))) _ hs.drop
  | false =>
  refine go ?_
  have h1 := of_decide_eq_true h1
  have h2 := of_decide_eq_false h2
  have h3 := of_decide_eq_false h3
  have h4 := of_decide_eq_false h4
  have h5 := of_decide_eq_false h5
  clear one
  have six : ¬ (kd = 5 ∧ ¬ (0 ≤ nd ∧ nd < 64)) → (1 ≤ kd ∧ kd ≤ 4 ∧ (key.length = 0 ∨ 64 < key.length)) ∨ (kd = 1 ∧ 1048576 < text.length) → ∀ w', Sat W w' g H → R (.returned (.int .i64 6)) w' := fun h h6 w' hs => by
    have := HR.out w' hs
    simp only [Ev.right] at this
    rw [if_neg (by omega), if_pos h6] at this
    exact this
  have fin : ¬ (kd = 5 ∧ ¬ (0 ≤ nd ∧ nd < 64)) → ¬ ((1 ≤ kd ∧ kd ≤ 4 ∧ (key.length = 0 ∨ 64 < key.length)) ∨ (kd = 1 ∧ 1048576 < text.length)) → ∀ w', Sat W w' g H → R (.returned (.int .i64 (if 9223372036854775807 < sq ∨ 9223372036854775807 < tm then 8 else 0))) w' := fun h h6 w' hs => by
    have := HR.out w' hs
    simp only [Ev.right] at this
    rw [if_neg (by omega), if_neg h6] at this
    exact this
  have one : kd = 5 ∧ ¬ (0 ≤ nd ∧ nd < 64) → ∀ w', Sat W w' g H → R (.returned (.int .i64 1)) w' := fun h w' hs => by
    have := HR.out w' hs
    simp only [Ev.right] at this
    rw [if_pos (by omega)] at this
    exact this
  clear HR e1
  cases h6 : decide ((kd : Int) = 5) with
  | true =>
    have h6 := of_decide_eq_true h6
    rw [show decide (1 ≤ kd ∧ kd ≤ 4) = false from decide_eq_false (by omega)]
    refine go ?_
    refine E.callf Tryz.func174 rfl ?_
    refine node_any ?_
    cases h7 : decide (0 ≤ nd ∧ nd < 64) with
    | false =>
      refine go ?_
      refine A.r1 ?_
      exact one ⟨by omega, of_decide_eq_false h7⟩ _ hs.drop
    | true =>
    have h7 := of_decide_eq_true h7
    refine go ?_
    rw [show decide ((kd : Int) = 1) = false from decide_eq_false (by omega)]
    refine go ?_
    have fin := fin (by omega) (by omega)
    cases h8 : decide ((9223372036854775807 : Int) < sq) with
    | true =>
      refine go ?_
      refine A.r1 ?_
      have h8 := of_decide_eq_true h8
      rw [if_pos (by omega)] at fin
      exact fin _ hs.drop
    | false =>
    refine go ?_
    cases h9 : decide ((9223372036854775807 : Int) < tm) with
    | true =>
      refine go ?_
      refine A.r1 ?_
      have h9 := of_decide_eq_true h9
      rw [if_pos (by omega)] at fin
      exact fin _ hs.drop
    | false =>
    refine go ?_
    refine A.r1 ?_
    have h8 := of_decide_eq_false h8
    have h9 := of_decide_eq_false h9
    rw [if_neg (by omega)] at fin
    exact fin _ hs.drop
  | false =>
  have h6 := of_decide_eq_false h6
  refine go ?_
  cases hk : decide (1 ≤ kd ∧ kd ≤ 4) with
  | true =>
    have hk := of_decide_eq_true hk
    refine go ?_
    cases ha : decide ((key.length : Int) = 0) with
    | true =>
      have ha := of_decide_eq_true ha
      refine go ?_
      refine A.r1 ?_
      exact six (by omega) (by omega) _ hs.drop
    | false =>
    have ha := of_decide_eq_false ha
    refine go ?_
    cases hb : decide ((64 : Int) < key.length) with
    | true =>
      have hb := of_decide_eq_true hb
      refine go ?_
      refine A.r1 ?_
      exact six (by omega) (by omega) _ hs.drop
    | false =>
    have hb := of_decide_eq_false hb
    refine go ?_
    cases hc : decide ((kd : Int) = 1) with
    | true =>
      have hc := of_decide_eq_true hc
      refine go ?_
      cases hd : decide ((1048576 : Int) < text.length) with
      | true =>
        have hd := of_decide_eq_true hd
        refine go ?_
        refine A.r1 ?_
        exact six (by omega) (by omega) _ hs.drop
      | false =>
      have hd := of_decide_eq_false hd
      refine go ?_
      have fin := fin (by omega) (by omega)
      cases h8 : decide ((9223372036854775807 : Int) < sq) with
      | true =>
        refine go ?_
        refine A.r1 ?_
        have h8 := of_decide_eq_true h8
        rw [if_pos (by omega)] at fin
        exact fin _ hs.drop
      | false =>
      refine go ?_
      cases h9 : decide ((9223372036854775807 : Int) < tm) with
      | true =>
        refine go ?_
        refine A.r1 ?_
        have h9 := of_decide_eq_true h9
        rw [if_pos (by omega)] at fin
        exact fin _ hs.drop
      | false =>
      refine go ?_
      refine A.r1 ?_
      have h8 := of_decide_eq_false h8
      have h9 := of_decide_eq_false h9
      rw [if_neg (by omega)] at fin
      exact fin _ hs.drop
    | false =>
      have hc := of_decide_eq_false hc
      refine go ?_
      have fin := fin (by omega) (by omega)
      cases h8 : decide ((9223372036854775807 : Int) < sq) with
      | true =>
        refine go ?_
        refine A.r1 ?_
        have h8 := of_decide_eq_true h8
        rw [if_pos (by omega)] at fin
        exact fin _ hs.drop
      | false =>
      refine go ?_
      cases h9 : decide ((9223372036854775807 : Int) < tm) with
      | true =>
        refine go ?_
        refine A.r1 ?_
        have h9 := of_decide_eq_true h9
        rw [if_pos (by omega)] at fin
        exact fin _ hs.drop
      | false =>
      refine go ?_
      refine A.r1 ?_
      have h8 := of_decide_eq_false h8
      have h9 := of_decide_eq_false h9
      rw [if_neg (by omega)] at fin
      exact fin _ hs.drop
  | false =>
    have hk := of_decide_eq_false hk
    refine go ?_
    rw [show decide ((kd : Int) = 1) = false from decide_eq_false (by omega)]
    refine go ?_
    have fin := fin (by omega) (by omega)
    cases h8 : decide ((9223372036854775807 : Int) < sq) with
    | true =>
      refine go ?_
      refine A.r1 ?_
      have h8 := of_decide_eq_true h8
      rw [if_pos (by omega)] at fin
      exact fin _ hs.drop
    | false =>
    refine go ?_
    cases h9 : decide ((9223372036854775807 : Int) < tm) with
    | true =>
      refine go ?_
      refine A.r1 ?_
      have h9 := of_decide_eq_true h9
      rw [if_pos (by omega)] at fin
      exact fin _ hs.drop
    | false =>
    refine go ?_
    refine A.r1 ?_
    have h8 := of_decide_eq_false h8
    have h9 := of_decide_eq_false h9
    rw [if_neg (by omega)] at fin
    exact fin _ hs.drop
end Go.Proofs.YtdkbpcibmipelaaGreatDoor

/-
  Layer 6 (event): an event out of any bytes; Decode.
-/
namespace Go.Proofs.YtdkbpcibmipelaaGreatDoor
open Go.RowKit
set_option linter.unusedVariables false
set_option linter.unusedSimpArgs false

/-- What is read, without the place of the text. -/
structure Ep where
  wr : Nat
  sq : Nat
  tm : Nat
  kd : Nat
  key : List UInt8
  text : List UInt8
  num : Nat
  nd : Nat
def Ep.ev (p : Ep) (tv : Value) : Ev := ⟨p.wr, p.sq, p.tm, p.kd, p.key, p.text, p.num, p.nd, tv⟩
/-- The parts. -/
def rdKey (kd : Nat) (l : List UInt8) : Except Int (List UInt8 × List UInt8) := if 1 ≤ kd ∧ kd ≤ 4 then rdText 64 l else .ok ([], l)
def rdRest (kd : Nat) (l : List UInt8) : Except Int ((List UInt8 × Nat × Nat) × List UInt8) :=
  if kd = 1 then match rdText 1048576 l with
    | .error e => .error e
    | .ok (t, l) => .ok ((t, 0, 0), l)
  else if kd = 2 ∨ kd = 3 then match rdFix l with
    | .error e => .error e
    | .ok (n, l) => if bitsF n = n then .ok (([], n, 0), l) else .error 4
  else if kd = 5 then match rdNum 63 l with
    | .error e => .error e
    | .ok (n, l) => .ok (([], 0, n), l)
  else .ok (([], 0, 0), l)
def rdEv (l : List UInt8) : Except Int Ep :=
  match rdNum 63 l with
  | .error e => .error e
  | .ok (wr, l) => match rdNum 18446744073709551615 l with
    | .error e => .error e
    | .ok (sq, l) => match rdNum 18446744073709551615 l with
      | .error e => .error e
      | .ok (tm, l) => match rdByte l with
        | .error e => .error e
        | .ok (kd, l) => match rdKey kd.toNat l with
          | .error e => .error e
          | .ok (key, l) => match rdRest kd.toNat l with
            | .error e => .error e
            | .ok ((t, n, d), l) => if l = [] then .ok ⟨wr, sq, tm, kd.toNat, key, t, n, d⟩ else .error 4
theorem rdText_text (most : Nat) (t : List UInt8) (ht : t.length ≤ most) (hm : most < 18446744073709551616) (r : List UInt8) : rdText most (textB t ++ r) = .ok (t, r) := by
  have h1 := takeGo_layN t.length (by omega) (t ++ r)
  simp only [rdText, textB, List.append_assoc, h1]
  rw [if_neg (by simp), if_neg (by omega), if_neg (by simp only [List.length_append]; omega)]
  have e1 : (layN t.length ++ (t ++ r)).drop (layN t.length).length = t ++ r := List.drop_left
  rw [e1, List.take_left, ← List.drop_drop, e1, List.drop_left]
theorem rdNum_len {most : Nat} {l r : List UInt8} {v : Nat} (h : rdNum most l = .ok (v, r)) : r.length ≤ l.length := by
  unfold rdNum at h
  split at h
  split at h
  · cases h
  · split at h
    · cases h
    · simp only [Except.ok.injEq, Prod.mk.injEq] at h
      rw [← h.2, List.length_drop]
      omega
theorem rdText_len {most : Nat} {l r : List UInt8} {v : List UInt8} (h : rdText most l = .ok (v, r)) : r.length ≤ l.length := by
  unfold rdText at h
  split at h
  split at h
  · cases h
  · split at h
    · cases h
    · split at h
      · cases h
      · simp only [Except.ok.injEq, Prod.mk.injEq] at h
        rw [← h.2, List.length_drop]
        omega
theorem rdKey_len {kd : Nat} {l r : List UInt8} {v : List UInt8} (h : rdKey kd l = .ok (v, r)) : r.length ≤ l.length := by
  unfold rdKey at h
  split at h
  · exact rdText_len h
  · simp only [Except.ok.injEq, Prod.mk.injEq] at h
    rw [← h.2]
    exact Nat.le_refl _
/-- An event, as it is kept. -/
def Ev.ep (e : Ev) : Ep := ⟨e.wr.toNat, e.sq, e.tm, e.kd, if 1 ≤ e.kd ∧ e.kd ≤ 4 then e.key else [], if e.kd = 1 then e.text else [], if e.kd = 2 ∨ e.kd = 3 then bitsF e.num else 0, if e.kd = 5 then e.nd.toNat else 0⟩
theorem bitsF_twice (b : Nat) : bitsF (bitsF b) = bitsF b := by
  unfold bitsF
  split
  · decide +kernel
  · rfl
theorem rdEv_enc {e : Ev} (h1 : e.wr.toNat ≤ 63) (h2 : e.sq < 18446744073709551616) (h3 : e.tm < 18446744073709551616) (h4 : e.kd < 256) (h5 : e.key.length ≤ 64) (h6 : e.text.length ≤ 1048576) (h7 : e.num < 18446744073709551616) (h8 : e.nd.toNat ≤ 63) : rdEv e.enc = .ok e.ep := by
  have q1 := rdNum_lay 63 e.wr.toNat (by omega) h1 (layN e.sq ++ layN e.tm ++ [UInt8.ofNat e.kd] ++ e.keyB ++ e.restB)
  have q2 := rdNum_lay 18446744073709551615 e.sq h2 (by omega) (layN e.tm ++ [UInt8.ofNat e.kd] ++ e.keyB ++ e.restB)
  have q3 := rdNum_lay 18446744073709551615 e.tm h3 (by omega) ([UInt8.ofNat e.kd] ++ e.keyB ++ e.restB)
  simp only [List.append_assoc, List.cons_append, List.nil_append] at q1 q2 q3
  have hk : (UInt8.ofNat e.kd).toNat = e.kd := by simp; omega
  have q4 : rdKey e.kd (e.keyB ++ e.restB) = .ok (if 1 ≤ e.kd ∧ e.kd ≤ 4 then e.key else [], e.restB) := by
    unfold rdKey Ev.keyB
    split
    · exact rdText_text 64 e.key h5 (by decide) _
    · simp
  have q5 : rdRest e.kd e.restB = .ok ((if e.kd = 1 then e.text else [], if e.kd = 2 ∨ e.kd = 3 then bitsF e.num else 0, if e.kd = 5 then e.nd.toNat else 0), []) := by
    unfold rdRest Ev.restB
    by_cases k1 : e.kd = 1
    · have := rdText_text 1048576 e.text h6 (by decide) []
      rw [List.append_nil] at this
      simp [k1, this]
    · by_cases k2 : e.kd = 2 ∨ e.kd = 3
      · have := rdFix_fixB (bitsF_lt h7) []
        rw [List.append_nil] at this
        have k5 : e.kd ≠ 5 := by omega
        simp [k1, k2, k5, this, bitsF_twice]
      · by_cases k5 : e.kd = 5
        · have := rdNum_lay 63 e.nd.toNat (by omega) h8 []
          rw [List.append_nil] at this
          simp [k5, this]
        · simp [k1, k2, k5]
  unfold rdEv Ev.enc Ev.ep
  simp only [List.append_assoc, q1, q2, q3, List.cons_append, List.nil_append, rdByte, hk, q4, q5, if_true]
end Go.Proofs.YtdkbpcibmipelaaGreatDoor

/-
  Layer 6 (event): an event out of any bytes (read), walked.
-/
namespace Go.Proofs.YtdkbpcibmipelaaGreatDoor
open Go.RowKit
set_option linter.unusedVariables false
set_option linter.unusedSimpArgs false

set_option maxHeartbeats 1600000 in
set_option maxRecDepth 100000 in
theorem qof_any {R : Ending → World → Prop} {w : World} {n : Nat} (hn : n < 18446744073709551616) (hR : R (.returned (.tuple #[.float .f64 n, .bool (decide (bitsF n = n))])) w) : Calls Tryz.prog 240 #[.int .u64 n] w R := by
  have HR := Lib.hid hR
  clear hR
  refine C.calls (args := [.int .u64 n]) Tryz.func240 rfl rfl rfl ?_
  refine go ?_
  refine E.ext (v := .float .f64 n) (w' := w) Tryz.func244 (ex := Extern.MathFloatBits.float64frombits) rfl ?_
  refine go ?_
  refine E.callf Tryz.func176 rfl ?_
  refine bits_any ?_
  refine go ?_
  rw [show decide ((bitsF n : Int) = (n : Int)) = decide (bitsF n = n) from decide_eq_decide.2 (by omega)]
  refine A.r2 ?_
  exact HR.out

set_option maxHeartbeats 6400000 in
set_option maxRecDepth 100000 in
theorem eread_any {R : Ending → World → Prop} {W w : World} {g : Hl} {H : List HP} {a : Option Addr} {n c : Nat} {l : List UInt8} (hs : Sat W w g H) (hp : Pr 1 g (.slice a n c) n (bs l)) (hl : l.length = n) (hn : n ≤ 100000000)
    (hOK : ∀ p tv w' g', Hl.le g g' → rdEv l = .ok p → (p.ev tv).ok g' → Sat W w' g' H → R (.returned (.tuple #[(p.ev tv).val, .int .i64 0])) w')
    (hE : ∀ e (cs : List Value) w' g', Hl.le g g' → rdEv l = .error e → e ≠ 0 → cs.length = 8 → cs.all Value.oneCell' = true → Sat W w' g' H → R (.returned (.tuple #[.agg cs.toArray, .int .i64 e])) w') :
    Calls Tryz.prog 167 #[.slice a n c] w R := by
  have HOK := Lib.hid hOK
  have HE := Lib.hid hE
  clear hOK hE
  have ag1 := ag_ev
  refine C.callsD (args := [.slice a n c]) Tryz.func167 rfl rfl rfl ?_
  refine go ?_
  refine E.al hs ?_
  intro b1 w1 hs
  refine go ?_
  refine E.al hs ?_
  intro b2 w2 hs
  refine go ?_
  refine E.callf Tryz.func236 rfl ?_
  refine newTape_any hl hs hp ?_
  intro b3 w3 hs
  refine go ?_
  refine E.callf Tryz.func237 rfl ?_
  refine num_any 63 rfl hs ?_ ?_
  rotate_left
  · intro e w4 h1 hne hs
    refine go ?_
    refine L.callf Tryz.func235 (caught_fault hs up_ ?_)
    intro w5 hs
    refine L.c2 rfl rfl rfl (run_lda hs ag_ev) (run_ld hs) ?_
    exact HE.out e _ _ g (Hl.le_refl _) (by simp only [rdEv, h1]) hne rfl rfl hs.drop.drop
  intro wr l1 w4 h1 hwr _ hs
  refine go ?_
  refine E.callf Tryz.func237 rfl ?_
  refine num_any 18446744073709551615 rfl hs ?_ ?_
  rotate_left
  · intro e w5 h2 hne hs
    refine go ?_
    refine L.callf Tryz.func235 (caught_fault hs up_ ?_)
    intro w6 hs
    refine L.c2 rfl rfl rfl (run_lda hs ag_ev) (run_ld hs) ?_
    exact HE.out e _ _ g (Hl.le_refl _) (by simp only [rdEv, h1, h2]) hne rfl rfl hs.drop.drop
  intro sq l2 w5 h2 _ hsq hs
  refine go ?_
  refine E.callf Tryz.func237 rfl ?_
  refine num_any 18446744073709551615 rfl hs ?_ ?_
  rotate_left
  · intro e w6 h3 hne hs
    refine go ?_
    refine L.callf Tryz.func235 (caught_fault hs up_ ?_)
    intro w7 hs
    refine L.c2 rfl rfl rfl (run_lda hs ag_ev) (run_ld hs) ?_
    exact HE.out e _ _ g (Hl.le_refl _) (by simp only [rdEv, h1, h2, h3]) hne rfl rfl hs.drop.drop
  intro tm l3 w6 h3 _ htm hs
  refine go ?_
  refine E.callf Tryz.func238 rfl ?_
  refine byte_any hs ?_ ?_
  rotate_left
  · intro he
    have h4 : rdByte l3 = .error 5 := by rw [he]; rfl
    refine go ?_
    refine L.callf Tryz.func235 (caught_fault hs up_ ?_)
    intro w7 hs
    refine L.c2 rfl rfl rfl (run_lda hs ag_ev) (run_ld hs) ?_
    exact HE.out 5 _ _ g (Hl.le_refl _) (by simp only [rdEv, h1, h2, h3, h4]) (by decide) rfl rfl hs.drop.drop.drop
  intro u l4 w7 he hs
  have h4 : rdByte l3 = .ok (u, l4) := by rw [he]; rfl
  have hu := u.toNat_lt
  have hkd : u.toNat < 256 := hu
  have hlen : l4.length ≤ 100000000 := by
    have q1 := rdNum_len h1
    have q2 := rdNum_len h2
    have q3 := rdNum_len h3
    rw [he, List.length_cons] at q3
    omega
  clear he hu
  generalize hk : u.toNat = kd at hkd
  refine go ?_
  refine E.sto (vs := [.int .i64 wr, .int .u64 sq, .int .u64 tm, .int .u8 kd, .string ⟨#[]⟩, .slice none 0 0, .float .f64 0, .int .i64 0]) (ys := [.int .i64 wr, .int .u64 sq, .int .u64 tm, .int .u8 kd, .string ⟨#[]⟩, .slice none 0 0, .float .f64 0, .int .i64 0]) hs ?_ (hv := rfl) (hsp := rfl)
  intro w8 hs
  apply later (α := List UInt8 × List UInt8 × Hl) (f := fun x => [(2, .pointer (some ⟨b1, 0, none⟩)), (3, .pointer (some ⟨b2, 0, none⟩)), (4, .pointer (some ⟨b3, 0, none⟩)), (32, .int .u8 kd), (33, .bool (decide ((kd : Int) = 1)))])
    (M := fun x w => Hl.le g x.2.2 ∧ rdKey kd l4 = .ok (x.1, x.2.1) ∧ x.1.length ≤ 64 ∧ x.2.1.length ≤ 100000000 ∧ Sat W w x.2.2 (tape b3 x.2.1 :: blk b2 [.int .i64 0] 34 :: blk b1 [.int .i64 wr, .int .u64 sq, .int .u64 tm, .int .u8 kd, .string ⟨x.1.toArray⟩, .slice none 0 0, .float .f64 0, .int .i64 0] 46 :: H))
  · intro ky
    have hno : ¬ (1 ≤ kd ∧ kd ≤ 4) → rdKey kd l4 = .ok ([], l4) := fun h => by unfold rdKey; rw [if_neg h]
    refine go ?_
    cases c1 : decide ((1 : Int) ≤ kd) with
    | false =>
      have c1 := of_decide_eq_false c1
      refine go ?_
      exact C.forget wk_ (ky ([], l4, g) _ ⟨Hl.le_refl _, hno (by omega), by simp, hlen, hs⟩)
    | true =>
      have c1 := of_decide_eq_true c1
      refine go ?_
      cases c2 : decide ((kd : Int) ≤ 4) with
      | false =>
        have c2 := of_decide_eq_false c2
        refine go ?_
        exact C.forget wk_ (ky ([], l4, g) _ ⟨Hl.le_refl _, hno (by omega), by simp, hlen, hs⟩)
      | true =>
        have c2 := of_decide_eq_true c2
        have hyes : rdKey kd l4 = rdText 64 l4 := by unfold rdKey; rw [if_pos (by omega)]
        refine go ?_
        refine E.callf Tryz.func239 rfl ?_
        refine text_any 64 rfl (by decide) (by omega) hs ?_ ?_
        · intro v r a5 c5 w9 g9 hg9 h5 hvl hp5 hs
          refine go ?_
          refine E.strc (hp5.row hs) Tryz.underlying33 Tryz.underlying5 Tryz.underlying9 ?_
          refine go ?_
          refine E.sto (vs := [.string ⟨v.toArray⟩]) (ys := [.int .i64 wr, .int .u64 sq, .int .u64 tm, .int .u8 kd, .string ⟨v.toArray⟩, .slice none 0 0, .float .f64 0, .int .i64 0]) hs ?_ (hv := rfl) (hsp := rfl)
          intro w10 hs
          refine go ?_
          have := rdText_len h5
          exact C.forget wk_ (ky (v, r, g9) _ ⟨hg9, hyes.trans h5, hvl, by simp only; omega, hs⟩)
        · intro e w9 h5 hne hs
          refine go ?_
          refine L.callf Tryz.func235 (caught_fault hs up_ ?_)
          intro w10 hs
          refine L.c2 rfl rfl rfl (run_lda hs ag_ev) (run_ld hs) ?_
          exact HE.out e _ _ g (Hl.le_refl _) (by simp only [rdEv, h1, h2, h3, h4, hk, hyes, h5]) hne rfl rfl hs.drop.drop
  clear hs hlen
  rintro ⟨key, l5, g5⟩ w11 ⟨hg5, h5, hkl, hlen, hs⟩
  simp only at hg5 h5 hkl hlen hs ⊢
  have hErr : ∀ e, rdRest kd l5 = .error e → rdEv l = .error e := fun e h => by simp only [rdEv, h1, h2, h3, h4, hk, h5, h]
  apply laterE (α := Option Addr × Nat × List UInt8 × Nat × Nat × List UInt8 × Hl) (f := fun x => [(2, .pointer (some ⟨b1, 0, none⟩)), (3, .pointer (some ⟨b2, 0, none⟩)), (4, .pointer (some ⟨b3, 0, none⟩)), (58, .pointer (some ⟨b3, 0, none⟩))])
    (M := fun x w => Hl.le g5 x.2.2.2.2.2.2 ∧ rdRest kd l5 = .ok ((x.2.2.1, x.2.2.2.1, x.2.2.2.2.1), x.2.2.2.2.2.1) ∧ x.2.2.1.length ≤ 1048576 ∧ x.2.2.2.1 < 18446744073709551616 ∧ x.2.2.2.2.1 ≤ 63 ∧ Pr 1 x.2.2.2.2.2.2 (.slice x.1 x.2.2.1.length x.2.1) x.2.2.1.length (bs x.2.2.1) ∧ Sat W w x.2.2.2.2.2.2 (tape b3 x.2.2.2.2.2.1 :: blk b2 [.int .i64 0] 34 :: blk b1 [.int .i64 wr, .int .u64 sq, .int .u64 tm, .int .u8 kd, .string ⟨key.toArray⟩, .slice x.1 x.2.2.1.length x.2.1, .float .f64 x.2.2.2.1, .int .i64 x.2.2.2.2.1] 46 :: H))
  · intro ky
    by_cases k1 : kd = 1
    · rw [show decide ((kd : Int) = 1) = true from decide_eq_true (by omega)]
      refine go ?_
      refine E.callf Tryz.func239 rfl ?_
      refine text_any 1048576 rfl (by decide) (by omega) hs ?_ ?_
      · intro v r a6 c6 w12 g6 hg6 h6 hvl hp6 hs
        refine go ?_
        refine E.sto (vs := [.slice a6 v.length c6]) (ys := [.int .i64 wr, .int .u64 sq, .int .u64 tm, .int .u8 kd, .string ⟨key.toArray⟩, .slice a6 v.length c6, .float .f64 0, .int .i64 0]) hs ?_ (hv := rfl) (hsp := rfl)
        intro w13 hs
        refine go ?_
        exact E.forget wk_ (ky (a6, c6, v, 0, 0, r, g6) _ ⟨hg6, by unfold rdRest; simp only [if_pos k1, h6], hvl, by simp, by simp, hp6, hs⟩)
      · intro e w12 h6 hne hs
        refine go ?_
        refine L.callf Tryz.func235 (caught_fault hs up_ ?_)
        intro w13 hs
        refine L.c2 rfl rfl rfl (run_lda hs ag_ev) (run_ld hs) ?_
        exact HE.out e _ _ g5 hg5 (hErr e (by unfold rdRest; simp only [if_pos k1, h6])) hne rfl rfl hs.drop.drop
    · rw [show decide ((kd : Int) = 1) = false from decide_eq_false (by omega)]
      refine go ?_
      by_cases k2 : kd = 2 ∨ kd = 3
      · have k2' := k2
        apply laterE (α := Unit) (f := fun _ => [(2, .pointer (some ⟨b1, 0, none⟩)), (3, .pointer (some ⟨b2, 0, none⟩)), (4, .pointer (some ⟨b3, 0, none⟩)), (42, .pointer (some ⟨b3, 0, none⟩))]) (M := fun _ w => Sat W w g5 (tape b3 l5 :: blk b2 [.int .i64 0] 34 :: blk b1 [.int .i64 wr, .int .u64 sq, .int .u64 tm, .int .u8 kd, .string ⟨key.toArray⟩, .slice none 0 0, .float .f64 0, .int .i64 0] 46 :: H))
        · intro kf
          rcases k2 with k2 | k2
          · rw [show decide ((kd : Int) = 2) = true from decide_eq_true (by omega)]
            refine go ?_
            exact E.forget wk_ (kf () _ hs)
          · rw [show decide ((kd : Int) = 2) = false from decide_eq_false (by omega)]
            refine go ?_
            rw [show decide ((kd : Int) = 3) = true from decide_eq_true (by omega)]
            refine go ?_
            exact E.forget wk_ (kf () _ hs)
        · clear hs
          rintro _ w12 hs
          refine E.callf Tryz.func241 rfl ?_
          refine tfixed_any hs ?_ ?_
          · intro v r w13 h6 hv hs
            refine go ?_
            refine E.callf Tryz.func240 rfl ?_
            refine qof_any hv ?_
            refine go ?_
            cases hb : decide (bitsF v = v) with
            | false =>
              have hb := of_decide_eq_false hb
              refine go ?_
              refine E.sto (vs := [.int .i64 0, .int .u64 0, .int .u64 0, .int .u8 0, .string ⟨#[]⟩, .slice none 0 0, .float .f64 0, .int .i64 0]) (ys := [.int .i64 0, .int .u64 0, .int .u64 0, .int .u8 0, .string ⟨#[]⟩, .slice none 0 0, .float .f64 0, .int .i64 0]) hs ?_ (hv := rfl) (hsp := rfl)
              intro w14 hs
              refine go ?_
              refine E.sto hs ?_
              intro w15 hs
              refine go ?_
              refine L.callf Tryz.func235 (caught_none ?_)
              refine L.c2 rfl rfl rfl (run_lda hs ag_ev) (run_ld hs) ?_
              exact HE.out 4 _ _ g5 hg5 (hErr 4 (by unfold rdRest; simp only [if_neg k1, if_pos k2', h6, if_neg hb])) (by decide) rfl rfl hs.drop.drop.drop
            | true =>
              have hb := of_decide_eq_true hb
              refine go ?_
              refine E.sto (vs := [.float .f64 v]) (ys := [.int .i64 wr, .int .u64 sq, .int .u64 tm, .int .u8 kd, .string ⟨key.toArray⟩, .slice none 0 0, .float .f64 v, .int .i64 0]) hs ?_ (hv := rfl) (hsp := rfl)
              intro w14 hs
              refine go ?_
              exact E.forget wk_ (ky (none, 0, [], v, 0, r, g5) _ ⟨Hl.le_refl _, by unfold rdRest; simp only [if_neg k1, if_pos k2', h6, if_pos hb], by simp, hv, by simp, Pr.nil, hs⟩)
          · intro w13 h6 hs
            refine go ?_
            refine L.callf Tryz.func235 (caught_fault hs up_ ?_)
            intro w14 hs
            refine L.c2 rfl rfl rfl (run_lda hs ag_ev) (run_ld hs) ?_
            exact HE.out 5 _ _ g5 hg5 (hErr 5 (by unfold rdRest; simp only [if_neg k1, if_pos k2', h6])) (by decide) rfl rfl hs.drop.drop
      · rw [show decide ((kd : Int) = 2) = false from decide_eq_false (by omega)]
        refine go ?_
        rw [show decide ((kd : Int) = 3) = false from decide_eq_false (by omega)]
        refine go ?_
        by_cases k5 : kd = 5
        · rw [show decide ((kd : Int) = 5) = true from decide_eq_true (by omega)]
          refine go ?_
          refine E.callf Tryz.func237 rfl ?_
          refine num_any 63 rfl hs ?_ ?_
          · intro v r w12 h6 hv63 hv hs
            refine go ?_
            refine E.sto (vs := [.int .i64 v]) (ys := [.int .i64 wr, .int .u64 sq, .int .u64 tm, .int .u8 kd, .string ⟨key.toArray⟩, .slice none 0 0, .float .f64 0, .int .i64 v]) hs ?_ (hv := rfl) (hsp := rfl)
            intro w13 hs
            refine go ?_
            exact E.forget wk_ (ky (none, 0, [], 0, v, r, g5) _ ⟨Hl.le_refl _, by unfold rdRest; simp only [if_neg k1, if_neg k2, if_pos k5, h6], by simp, by simp, hv63, Pr.nil, hs⟩)
          · intro e w12 h6 hne hs
            refine go ?_
            refine L.callf Tryz.func235 (caught_fault hs up_ ?_)
            intro w13 hs
            refine L.c2 rfl rfl rfl (run_lda hs ag_ev) (run_ld hs) ?_
            exact HE.out e _ _ g5 hg5 (hErr e (by unfold rdRest; simp only [if_neg k1, if_neg k2, if_pos k5, h6])) hne rfl rfl hs.drop.drop
        · have hrr : rdRest kd l5 = .ok (([], 0, 0), l5) := by unfold rdRest; rw [if_neg k1, if_neg k2, if_neg k5]
          rw [show decide ((kd : Int) = 5) = false from decide_eq_false (by omega)]
          refine go ?_
          exact E.forget wk_ (ky (none, 0, [], 0, 0, l5, g5) _ ⟨Hl.le_refl _, hrr, by simp, by simp, by simp, Pr.nil, hs⟩)
  clear hs
  rintro ⟨a6, c6, t, num, nd, r, g6⟩ w16 ⟨hg6, h6, htl, hnum, hnd, hp6, hs⟩
  simp only at hg6 h6 htl hnum hnd hp6 hs ⊢
  refine E.callf Tryz.func242 rfl ?_
  refine done_any hs ?_ ?_
  rotate_left
  · intro hne
    refine go ?_
    refine L.callf Tryz.func235 (caught_fault hs up_ ?_)
    intro w7 hs
    refine L.c2 rfl rfl rfl (run_lda hs ag_ev) (run_ld hs) ?_
    exact HE.out 4 _ _ g6 (hg5.trans hg6) (by simp only [rdEv, h1, h2, h3, h4, hk, h5, h6, if_neg hne]) (by decide) rfl rfl hs.drop.drop.drop
  intro he
  refine go ?_
  refine E.sto (vs := [.int .i64 wr, .int .u64 sq, .int .u64 tm, .int .u8 kd, .string ⟨key.toArray⟩, .slice a6 t.length c6, .float .f64 num, .int .i64 nd]) (ys := [.int .i64 wr, .int .u64 sq, .int .u64 tm, .int .u8 kd, .string ⟨key.toArray⟩, .slice a6 t.length c6, .float .f64 num, .int .i64 nd]) hs ?_ (hv := rfl) (hsp := rfl)
  intro w17 hs
  refine go ?_
  refine E.sto hs ?_
  intro w18 hs
  refine go ?_
  refine L.callf Tryz.func235 (caught_none ?_)
  refine L.c2 rfl rfl rfl (run_lda hs ag_ev) (run_ld hs) ?_
  refine HOK.out ⟨wr, sq, tm, kd, key, t, num, nd⟩ (.slice a6 t.length c6) _ g6 (hg5.trans hg6) (by simp only [rdEv, h1, h2, h3, h4, hk, h5, h6, if_pos he]) ?_ hs.drop.drop.drop
  simp only [Ep.ev]
  exact ⟨by simp only; omega, hsq, htm, hkd, hnum, by simp only; omega, by simp only; omega, by simp only; omega, hp6⟩
end Go.Proofs.YtdkbpcibmipelaaGreatDoor

/-
  Layer 6 (event): Decode; an event as it is kept.
-/
namespace Go.Proofs.YtdkbpcibmipelaaGreatDoor
open Go.RowKit
set_option linter.unusedVariables false
set_option linter.unusedSimpArgs false

def Ep.right (p : Ep) : Int := (p.ev (.slice none 0 0)).right
theorem Ep.right_ev (p : Ep) (tv : Value) : (p.ev tv).right = p.right := rfl
/-- Decode, plain. -/
def decE (l : List UInt8) : Except Int Ep :=
  match rdEv l with
  | .error e => .error e
  | .ok p => if p.right = 0 then .ok p else .error p.right
/-- No event. -/
def noEv : Value := .agg #[.int .i64 0, .int .u64 0, .int .u64 0, .int .u8 0, .string ⟨#[]⟩, .slice none 0 0, .float .f64 0, .int .i64 0]

set_option maxHeartbeats 3200000 in
set_option maxRecDepth 100000 in
theorem decode_any {R : Ending → World → Prop} {W w : World} {g : Hl} {H : List HP} {a : Option Addr} {n c : Nat} {l : List UInt8} (hs : Sat W w g H) (hp : Pr 1 g (.slice a n c) n (bs l)) (hl : l.length = n) (hn : n ≤ 100000000)
    (hOK : ∀ p tv w' g', Hl.le g g' → decE l = .ok p → (p.ev tv).ok g' → Sat W w' g' H → R (.returned (.tuple #[(p.ev tv).val, .int .i64 0])) w')
    (hE : ∀ e w' g', Hl.le g g' → decE l = .error e → e ≠ 0 → Sat W w' g' H → R (.returned (.tuple #[noEv, .int .i64 e])) w') :
    Calls Tryz.prog 91 #[.slice a n c] w R := by
  have HOK := Lib.hid hOK
  have HE := Lib.hid hE
  clear hOK hE
  have ag1 := ag_ev
  refine C.calls (args := [.slice a n c]) Tryz.func91 rfl rfl rfl ?_
  refine go ?_
  refine E.al hs ?_
  intro b2 w2 hs
  refine go ?_
  refine E.callf Tryz.func167 rfl ?_
  refine eread_any hs hp hl hn ?_ ?_
  · intro p tv w3 g3 hg3 hr ho hs
    refine go ?_
    refine E.al hs ?_
    intro b4 w4 hs
    refine E.sto (vs := (p.ev tv).cs) (ys := (p.ev tv).cs) hs ?_ (hv := rfl) (hsp := spl_all (by rfl)) (h1 := Ev.cs_one ho)
    intro w5 hs
    refine go ?_
    refine E.callf Tryz.func101 rfl ?_
    refine right_any (e := p.ev tv) ho hs ?_
    intro w6 hs
    rw [Ep.right_ev]
    refine go ?_
    cases hd : decide (p.right = 0) with
    | true =>
      have hd := of_decide_eq_true hd
      refine go ?_
      refine E.sto (vs := (p.ev tv).cs) (ys := (p.ev tv).cs) hs ?_ (hv := rfl) (hsp := spl_all (by rfl)) (h1 := Ev.cs_one ho)
      intro w7 hs
      refine go ?_
      refine A.c1t1 rfl rfl rfl (run_lda hs ag_ev) ?_
      exact HOK.out p tv _ g3 hg3 (by simp only [decE, hr, if_pos hd]) ho hs.drop.drop
    | false =>
      have hd := of_decide_eq_false hd
      refine go ?_
      refine E.sto (vs := [.int .i64 0, .int .u64 0, .int .u64 0, .int .u8 0, .string ⟨#[]⟩, .slice none 0 0, .float .f64 0, .int .i64 0]) (ys := [.int .i64 0, .int .u64 0, .int .u64 0, .int .u8 0, .string ⟨#[]⟩, .slice none 0 0, .float .f64 0, .int .i64 0]) hs ?_ (hv := rfl) (hsp := rfl)
      intro w7 hs
      refine go ?_
      refine A.c1t1 rfl rfl rfl (run_lda hs ag_ev) ?_
      exact HE.out _ _ g3 hg3 (by simp only [decE, hr, if_neg hd]) hd hs.drop.drop
  · intro e cs w3 g3 hg3 hr hne hcl hc1 hs
    have hde : decide (e = 0) = false := decide_eq_false hne
    refine go ?_
    refine E.al hs ?_
    intro b4 w4 hs
    refine E.sto (vs := cs) (ys := cs) hs ?_ (hv := rfl) (hsp := spl_all (by rw [hcl]; rfl)) (h1 := hc1) (hj := by rw [hcl]; rfl) (ht := by rw [hcl]; exact sz_)
    intro w5 hs
    refine go ?_
    rw [hde]
    refine go ?_
    rw [hde]
    refine go ?_
    refine E.sto (vs := [.int .i64 0, .int .u64 0, .int .u64 0, .int .u8 0, .string ⟨#[]⟩, .slice none 0 0, .float .f64 0, .int .i64 0]) (ys := [.int .i64 0, .int .u64 0, .int .u64 0, .int .u8 0, .string ⟨#[]⟩, .slice none 0 0, .float .f64 0, .int .i64 0]) hs ?_ (hv := rfl) (hsp := rfl)
    intro w7 hs
    refine go ?_
    refine A.c1t1 rfl rfl rfl (run_lda hs ag_ev) ?_
    exact HE.out _ _ g3 hg3 (by simp only [decE, hr]) hne hs.drop.drop

set_option maxHeartbeats 3200000 in
set_option maxRecDepth 100000 in
theorem eplain_any {R : Ending → World → Prop} {W w : World} {g : Hl} {H : List HP} {e : Ev} (ho : e.ok g) (hw : 0 ≤ e.wr) (hnd : e.kd = 5 → 0 ≤ e.nd) (hs : Sat W w g H)
    (hR : ∀ tv w' g', Hl.le g g' → (e.ep.ev tv).ok g' → Sat W w' g' H → R (.returned (e.ep.ev tv).val) w') : Calls Tryz.prog 103 #[e.val] w R := by
  have HR := Lib.hid hR
  clear hR
  obtain ⟨a, c, etv, hnc, _⟩ := ho.tv.len
  have htv := ho.tv
  rw [etv] at htv
  have hko := ho.kd
  have hsqo := ho.sq
  have htmo := ho.tm
  have hkeyo := ho.key
  have htxo := ho.text
  have hnumo := ho.num
  have hndo := ho.nd
  have hwro := ho.wr
  have ag1 := ag_ev
  refine C.calls (args := [e.val]) Tryz.func103 rfl rfl rfl ?_
  refine go ?_
  refine E.bx hs (xs := e.cs) ?_ (hx := rfl)
  intro b1 w1 hs
  refine go ?_
  refine E.al hs ?_
  intro b2 w2 hs
  refine go ?_
  refine E.al hs ?_
  intro b3 w3 hs
  refine E.sto (vs := [.int .i64 e.wr, .int .u64 e.sq, .int .u64 e.tm, .int .u8 e.kd, .string ⟨#[]⟩, .slice none 0 0, .float .f64 0, .int .i64 0]) (ys := [.int .i64 e.wr, .int .u64 e.sq, .int .u64 e.tm, .int .u8 e.kd, .string ⟨#[]⟩, .slice none 0 0, .float .f64 0, .int .i64 0]) hs ?_ (hv := rfl) (hsp := rfl)
  intro w4 hs
  apply later (α := Unit) (f := fun _ => [(1, .pointer (some ⟨b1, 0, none⟩)), (2, .pointer (some ⟨b2, 0, none⟩)), (3, .pointer (some ⟨b3, 0, none⟩)), (25, .int .u8 e.kd), (26, .bool (decide ((e.kd : Int) = 1)))])
    (M := fun _ w => Sat W w g (blk b3 [.int .i64 e.wr, .int .u64 e.sq, .int .u64 e.tm, .int .u8 e.kd, .string ⟨(e.ep.key).toArray⟩, .slice none 0 0, .float .f64 0, .int .i64 0] 46 :: blk b2 [.int .i64 0, .int .u64 0, .int .u64 0, .int .u8 0, .string ⟨#[]⟩, .slice none 0 0, .float .f64 0, .int .i64 0] 46 :: blk b1 e.cs 46 :: H))
  · intro ky
    have hno : ¬ (1 ≤ e.kd ∧ e.kd ≤ 4) → e.ep.key = [] := fun h => by simp only [Ev.ep, if_neg h]
    have hyes : (1 ≤ e.kd ∧ e.kd ≤ 4) → e.ep.key = e.key := fun h => by simp only [Ev.ep, if_pos h]
    refine go ?_
    cases c1 : decide ((1 : Int) ≤ e.kd) with
    | false =>
      have c1 := of_decide_eq_false c1
      rw [hno (by omega)] at ky
      refine go ?_
      exact C.forget wk_ (ky () _ hs)
    | true =>
      have c1 := of_decide_eq_true c1
      refine go ?_
      cases c2 : decide ((e.kd : Int) ≤ 4) with
      | false =>
        have c2 := of_decide_eq_false c2
        rw [hno (by omega)] at ky
        refine go ?_
        exact C.forget wk_ (ky () _ hs)
      | true =>
        have c2 := of_decide_eq_true c2
        rw [hyes (by omega)] at ky
        refine go ?_
        refine E.sto (vs := [.string ⟨e.key.toArray⟩]) (ys := [.int .i64 e.wr, .int .u64 e.sq, .int .u64 e.tm, .int .u8 e.kd, .string ⟨e.key.toArray⟩, .slice none 0 0, .float .f64 0, .int .i64 0]) hs ?_ (hv := rfl) (hsp := rfl)
        intro w5 hs
        refine go ?_
        exact C.forget wk_ (ky () _ hs)
  clear hs
  rintro _ w6 hs
  have hkl : e.ep.key.length ≤ 100000000 := by
    simp only [Ev.ep]
    split
    · exact hkeyo
    · simp
  have fin : ∀ (tv : Value) w' g', Hl.le g g' → Pr 1 g' tv e.ep.text.length (bs e.ep.text) → Sat W w' g' (blk b3 [.int .i64 e.wr, .int .u64 e.sq, .int .u64 e.tm, .int .u8 e.kd, .string ⟨(e.ep.key).toArray⟩, tv, .float .f64 e.ep.num, .int .i64 e.ep.nd] 46 :: H) → R (.returned (.agg #[.int .i64 e.wr, .int .u64 e.sq, .int .u64 e.tm, .int .u8 e.kd, .string ⟨(e.ep.key).toArray⟩, tv, .float .f64 e.ep.num, .int .i64 e.ep.nd])) w' := by
    intro tv w' g' hg' hp hs
    have := HR.out tv w' g' hg' ?_ hs.drop
    · rw [show (e.ep.ev tv).val = .agg #[.int .i64 e.wr, .int .u64 e.sq, .int .u64 e.tm, .int .u8 e.kd, .string ⟨(e.ep.key).toArray⟩, tv, .float .f64 e.ep.num, .int .i64 e.ep.nd] by
        simp only [Ev.val, Ev.cs, Ep.ev]
        rw [show ((e.ep.wr : Nat) : Int) = e.wr by simp only [Ev.ep]; omega]
        rfl] at this
      exact this
    · simp only [Ep.ev]
      refine ⟨?_, hsqo, htmo, hko, ?_, ?_, hkl, ?_, hp⟩
      · simp only [Ev.ep]; omega
      · simp only [Ev.ep]
        split
        · exact bitsF_lt hnumo
        · omega
      · simp only [Ev.ep]; split <;> omega
      · simp only [Ev.ep]
        split
        · exact htxo
        · simp
  clear HR
  have HR := Lib.hid fin
  clear fin
  apply laterE (α := (Option Addr × Nat) × Nat × Int × Hl) (f := fun x => [(2, .pointer (some ⟨b2, 0, none⟩)), (44, .agg #[.int .i64 e.wr, .int .u64 e.sq, .int .u64 e.tm, .int .u8 e.kd, .string ⟨(e.ep.key).toArray⟩, .slice x.1.1 e.ep.text.length x.1.2, .float .f64 x.2.1, .int .i64 x.2.2.1])])
    (M := fun x w => x.2.1 = e.ep.num ∧ x.2.2.1 = e.ep.nd ∧ Hl.le g x.2.2.2 ∧ Pr 1 x.2.2.2 (.slice x.1.1 e.ep.text.length x.1.2) e.ep.text.length (bs e.ep.text) ∧ Sat W w x.2.2.2 (blk b3 [.int .i64 e.wr, .int .u64 e.sq, .int .u64 e.tm, .int .u8 e.kd, .string ⟨(e.ep.key).toArray⟩, .slice x.1.1 e.ep.text.length x.1.2, .float .f64 x.2.1, .int .i64 x.2.2.1] 46 :: blk b2 [.int .i64 0, .int .u64 0, .int .u64 0, .int .u8 0, .string ⟨#[]⟩, .slice none 0 0, .float .f64 0, .int .i64 0] 46 :: blk b1 e.cs 46 :: H))
  · intro ky
    by_cases k1 : e.kd = 1
    · have ht : e.ep.text = e.text := by simp only [Ev.ep, if_pos k1]
      have hn0 : 0 = e.ep.num := by simp only [Ev.ep]; rw [if_neg (by omega)]
      have hd0 : (0 : Int) = e.ep.nd := by simp only [Ev.ep]; rw [if_neg (by omega)]; rfl
      replace hn0 := Lib.hid hn0
      replace hd0 := Lib.hid hd0
      rw [ht] at ky
      rw [show decide ((e.kd : Int) = 1) = true from decide_eq_true (by omega)]
      refine go ?_
      rw [etv]
      refine E.app el_u8 hs.nilOwn (htv.row hs) ?_
      intro a7 c7 w7 _ _ hs
      rw [Nat.zero_add] at hs ⊢
      rw [List.nil_append] at hs
      obtain ⟨g10, hg10, hp10, hs⟩ := hs.publishOwn
      refine go ?_
      refine E.sto (vs := [.slice a7 e.text.length c7]) (ys := [.int .i64 e.wr, .int .u64 e.sq, .int .u64 e.tm, .int .u8 e.kd, .string ⟨(e.ep.key).toArray⟩, .slice a7 e.text.length c7, .float .f64 0, .int .i64 0]) hs ?_ (hv := rfl) (hsp := rfl)
      intro w8 hs
      refine go ?_
      exact E.forget wk_ (ky ((a7, c7), 0, 0, g10) _ ⟨hn0.out, hd0.out, hg10, hp10, hs⟩)
    · have ht : e.ep.text = [] := by simp only [Ev.ep, if_neg k1]
      rw [ht] at ky
      rw [show decide ((e.kd : Int) = 1) = false from decide_eq_false (by omega)]
      refine go ?_
      by_cases k2 : e.kd = 2 ∨ e.kd = 3
      · have hn0 : bitsF e.num = e.ep.num := by simp only [Ev.ep]; rw [if_pos k2]
        have hd0 : (0 : Int) = e.ep.nd := by simp only [Ev.ep]; rw [if_neg (by omega)]; rfl
        replace hn0 := Lib.hid hn0
        replace hd0 := Lib.hid hd0
        apply laterE (α := Unit) (f := fun _ => [(2, .pointer (some ⟨b2, 0, none⟩)), (3, .pointer (some ⟨b3, 0, none⟩)), (36, .float .f64 e.num)]) (M := fun _ w => Sat W w g (blk b3 [.int .i64 e.wr, .int .u64 e.sq, .int .u64 e.tm, .int .u8 e.kd, .string ⟨(e.ep.key).toArray⟩, .slice none 0 0, .float .f64 0, .int .i64 0] 46 :: blk b2 [.int .i64 0, .int .u64 0, .int .u64 0, .int .u8 0, .string ⟨#[]⟩, .slice none 0 0, .float .f64 0, .int .i64 0] 46 :: blk b1 e.cs 46 :: H))
        · intro kf
          rcases k2 with k2 | k2
          · rw [show decide ((e.kd : Int) = 2) = true from decide_eq_true (by omega)]
            refine go ?_
            exact E.forget wk_ (kf () _ hs)
          · rw [show decide ((e.kd : Int) = 2) = false from decide_eq_false (by omega)]
            refine go ?_
            rw [show decide ((e.kd : Int) = 3) = true from decide_eq_true (by omega)]
            refine go ?_
            exact E.forget wk_ (kf () _ hs)
        · rintro _ w7 hs
          refine E.callf Tryz.func177 rfl ?_
          refine plain_any ?_
          refine go ?_
          refine E.sto (vs := [.float .f64 (bitsF e.num)]) (ys := [.int .i64 e.wr, .int .u64 e.sq, .int .u64 e.tm, .int .u8 e.kd, .string ⟨(e.ep.key).toArray⟩, .slice none 0 0, .float .f64 (bitsF e.num), .int .i64 0]) hs ?_ (hv := rfl) (hsp := rfl)
          intro w8 hs
          refine go ?_
          exact E.forget wk_ (ky ((none, 0), bitsF e.num, 0, g) _ ⟨hn0.out, hd0.out, Hl.le_refl _, Pr.nil, hs⟩)
      · have hn0 : 0 = e.ep.num := by simp only [Ev.ep]; rw [if_neg k2]
        replace hn0 := Lib.hid hn0
        rw [show decide ((e.kd : Int) = 2) = false from decide_eq_false (by omega)]
        refine go ?_
        rw [show decide ((e.kd : Int) = 3) = false from decide_eq_false (by omega)]
        refine go ?_
        by_cases k5 : e.kd = 5
        · have hd0 : e.nd = e.ep.nd := by have := hnd k5; simp only [Ev.ep]; rw [if_pos k5]; omega
          replace hd0 := Lib.hid hd0
          rw [show decide ((e.kd : Int) = 5) = true from decide_eq_true (by omega)]
          refine go ?_
          refine E.sto (vs := [.int .i64 e.nd]) (ys := [.int .i64 e.wr, .int .u64 e.sq, .int .u64 e.tm, .int .u8 e.kd, .string ⟨(e.ep.key).toArray⟩, .slice none 0 0, .float .f64 0, .int .i64 e.nd]) hs ?_ (hv := rfl) (hsp := rfl)
          intro w8 hs
          refine go ?_
          exact E.forget wk_ (ky ((none, 0), 0, e.nd, g) _ ⟨hn0.out, hd0.out, Hl.le_refl _, Pr.nil, hs⟩)
        · have hd0 : (0 : Int) = e.ep.nd := by simp only [Ev.ep]; rw [if_neg k5]; rfl
          replace hd0 := Lib.hid hd0
          rw [show decide ((e.kd : Int) = 5) = false from decide_eq_false (by omega)]
          refine go ?_
          exact E.forget wk_ (ky ((none, 0), 0, 0, g) _ ⟨hn0.out, hd0.out, Hl.le_refl _, Pr.nil, hs⟩)
  · rintro ⟨⟨a7, c7⟩, num, nd, g7⟩ w9 ⟨h1, h2, hg7, hp7, hs⟩
    simp only at h1 h2 hg7 hp7 hs ⊢
    refine E.sto (vs := [.int .i64 e.wr, .int .u64 e.sq, .int .u64 e.tm, .int .u8 e.kd, .string ⟨(e.ep.key).toArray⟩, .slice a7 e.ep.text.length c7, .float .f64 num, .int .i64 nd]) (ys := [.int .i64 e.wr, .int .u64 e.sq, .int .u64 e.tm, .int .u8 e.kd, .string ⟨(e.ep.key).toArray⟩, .slice a7 e.ep.text.length c7, .float .f64 num, .int .i64 nd]) hs ?_ (hv := rfl) (hsp := rfl)
    intro w10 hs
    refine go ?_
    refine A.c1 rfl rfl (run_lda hs ag_ev) ?_
    subst h1 h2
    exact HR.out _ _ g7 hg7 hp7 hs.swap.drop.swap.drop
end Go.Proofs.YtdkbpcibmipelaaGreatDoor

/-
  A heap, in plain words: keys by place.
-/
namespace Go.Proofs.YtdkbpcibmipelaaGreatDoor
set_option linter.unusedVariables false

/-- Places i and j changed. -/
def sw {α : Type} (l : List α) (i j : Nat) : List α := match l[i]?, l[j]? with
  | some a, some b => (l.set i b).set j a
  | _, _ => l
theorem sw_len {α : Type} (l : List α) (i j : Nat) : (sw l i j).length = l.length := by unfold sw; split <;> simp
theorem sw_eq {α : Type} {l : List α} {i j : Nat} (hi : i < l.length) (hj : j < l.length) : sw l i j = (l.set i l[j]).set j l[i] := by
  unfold sw; simp [hi, hj]
theorem sw_get {α : Type} {l : List α} {i j : Nat} (hi : i < l.length) (hj : j < l.length) (k : Nat) : (sw l i j)[k]? = if k = j then l[i]? else if k = i then l[j]? else l[k]? := by
  rw [sw_eq hi hj, List.getElem?_set, List.getElem?_set]
  simp only [List.length_set]
  by_cases h1 : j = k
  · subst h1
    simp [hj, hi]
  · rw [if_neg h1, if_neg (Ne.symm h1)]
    by_cases h2 : i = k
    · subst h2
      simp [hi, hj]
    · rw [if_neg h2, if_neg (Ne.symm h2)]
theorem sw_perm {α : Type} {l : List α} {i j : Nat} (hi : i < l.length) (hj : j < l.length) : (sw l i j).Perm l := by
  rw [sw_eq hi hj]
  exact List.set_set_perm hi hj
section
variable {α : Type} (k : α → Nat)
/-- The key at a place. -/
def kat (l : List α) (q : Nat) : Nat := (l[q]?.map k).getD 0
theorem kat_sw {l : List α} {i j : Nat} (hi : i < l.length) (hj : j < l.length) (q : Nat) : kat k (sw l i j) q = if q = j then kat k l i else if q = i then kat k l j else kat k l q := by
  unfold kat
  rw [sw_get hi hj]
  split
  · rfl
  split <;> rfl
/-- From place s on each stands behind its parent, but those below i. -/
def HInv (f : Nat → Nat) (s n i : Nat) : Prop :=
  (∀ c, 0 < c → c < n → s ≤ (c - 1) / 2 → (c - 1) / 2 ≠ i → f ((c - 1) / 2) ≤ f c) ∧ (0 < i → s ≤ (i - 1) / 2 → ∀ c, 0 < c → c < n → (c - 1) / 2 = i → f ((i - 1) / 2) ≤ f c)
def Heap (f : Nat → Nat) (s n : Nat) : Prop := ∀ c, 0 < c → c < n → s ≤ (c - 1) / 2 → f ((c - 1) / 2) ≤ f c
theorem heap_step {f f' : Nat → Nat} {s n i j : Nat} (h : HInv f s n i) (hs : s ≤ i) (hj : j = 2 * i + 1 ∨ j = 2 * i + 2) (hjn : j < n) (hlt : f j < f i) (hmin : ∀ c, c < n → c = 2 * i + 1 ∨ c = 2 * i + 2 → f j ≤ f c)
    (hf : ∀ q, f' q = if q = j then f i else if q = i then f j else f q) : HInv f' s n j := by
  obtain ⟨h1, h2⟩ := h
  constructor
  · intro c hc hcn hsc hne
    have hp : (c - 1) / 2 < c := by omega
    by_cases e1 : c = j
    · subst e1
      have e : (c - 1) / 2 = i := by omega
      rw [e, hf, hf, if_neg (by omega), if_pos rfl, if_pos rfl]
      omega
    by_cases e2 : c = i
    · subst e2
      rw [hf ((c - 1) / 2), hf c, if_neg hne, if_neg (by omega), if_neg (by omega), if_pos rfl]
      exact h2 hc hsc j (by omega) hjn (by omega)
    rw [hf c, if_neg e1, if_neg e2, hf]
    rw [if_neg hne]
    by_cases e3 : (c - 1) / 2 = i
    · rw [if_pos e3]
      exact hmin c hcn (by omega)
    · rw [if_neg e3]
      exact h1 c hc hcn hsc e3
  · intro hj0 hsj c hc hcn hcj
    have e : (j - 1) / 2 = i := by omega
    rw [e, hf, hf, if_neg (by omega), if_pos rfl, if_neg (by omega), if_neg (by omega)]
    have := h1 c hc hcn (by omega) (by omega)
    rw [hcj] at this
    exact this
theorem heap_done {f : Nat → Nat} {s n i : Nat} (h : HInv f s n i) (hmin : ∀ c, c < n → c = 2 * i + 1 ∨ c = 2 * i + 2 → f i ≤ f c) : Heap f s n := by
  intro c hc hcn hsc
  by_cases e : (c - 1) / 2 = i
  · rw [e]; exact hmin c hcn (by omega)
  · exact h.1 c hc hcn hsc e
theorem heap_start {f : Nat → Nat} {n i : Nat} (h : Heap f (i + 1) n) : HInv f i n i := by
  refine ⟨fun c hc hcn hsc hne => h c hc hcn (by omega), fun h0 hs => by omega⟩
theorem heap_min {f : Nat → Nat} {n : Nat} (h : Heap f 0 n) : ∀ c, c < n → f 0 ≤ f c := by
  intro c
  induction c using Nat.strongRecOn with
  | ind c ih =>
    intro hc
    rcases Nat.eq_zero_or_pos c with rfl | h0
    · exact Nat.le_refl _
    · exact Nat.le_trans (ih ((c - 1) / 2) (by omega) (by omega)) (h c h0 hc (Nat.zero_le _))
/-- The root changed. -/
theorem heap_root {f f' : Nat → Nat} {n : Nat} (h : Heap f 0 n) (hf : ∀ q, 0 < q → q < n → f' q = f q) : HInv f' 0 n 0 := by
  refine ⟨fun c hc hcn _ hne => ?_, fun h0 => by omega⟩
  rw [hf c hc hcn, hf ((c - 1) / 2) (by omega) (by omega)]
  exact h c hc hcn (Nat.zero_le _)
end
end Go.Proofs.YtdkbpcibmipelaaGreatDoor
