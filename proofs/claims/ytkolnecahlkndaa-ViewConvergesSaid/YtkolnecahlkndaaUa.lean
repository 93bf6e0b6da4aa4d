/-
  The reference of layer 6: places, and events as bytes: they are the program's.
-/
import Derived.Test.YtkolnecahlkndaaRc
import Derived.Test.YtkolnecahlkndaaVb
import Derived.Test.YtkolnecahlkndaaHe
namespace Go.Proofs.Ytkolnecahlkndaa
open Go.RowKit
set_option linter.unusedVariables false
set_option linter.unusedSimpArgs false

set_option maxHeartbeats 1600000 in
set_option maxRecDepth 100000 in
theorem rat_any {R : Ending → World → Prop} {W w : World} {g : Hl} {H : List HP} {e : Ev} (hs : Sat W w g H) (hR : ∀ w', Sat W w' g H → R (.returned (spot e.tm e.wr)) w') :
    Calls Try.prog 11 #[e.val] w R := by
  have HR := Lib.hid hR
  clear hR
  simp only [Ev.val, Ev.cs]
  refine C.calls (args := [.agg #[.int .i64 e.wr, .int .u64 e.sq, .int .u64 e.tm, .int .u8 e.kd, .string ⟨e.key.toArray⟩, e.tv, .float .f64 e.num, .int .i64 e.nd]]) Try.func11 rfl rfl rfl ?_
  refine go ?_
  refine E.bx hs ?_
  intro b1 w1 hs
  refine go ?_
  refine E.al hs ?_
  intro b2 w2 hs
  refine go ?_
  refine E.sto hs ?_
  intro w3 hs
  refine go ?_
  refine A.c1 rfl rfl (run_lda hs ag_spot) ?_
  exact HR.out _ hs.drop.drop

set_option maxHeartbeats 1600000 in
set_option maxRecDepth 100000 in
theorem ahead_any {R : Ending → World → Prop} {W w : World} {g : Hl} {H : List HP} {t1 t2 : Nat} {w1 w2 : Int} (hs : Sat W w g H) (hR : ∀ w', Sat W w' g H → R (.returned (.bool (decide (cmpS t1 w1 t2 w2 < 0)))) w') :
    Calls Try.prog 12 #[spot t1 w1, spot t2 w2] w R := by
  have HR := Lib.hid hR
  clear hR
  have e1 : decide (cmpS t1 w1 t2 w2 < 0) = decide (t1 < t2 ∨ t1 = t2 ∧ w1 < w2) := decide_eq_decide.2 cmpS_lt
  rw [e1] at HR
  simp only [spot]
  refine C.calls (args := [.agg #[.int .u64 t1, .int .i64 w1], .agg #[.int .u64 t2, .int .i64 w2]]) Try.func12 rfl rfl rfl ?_
  refine go ?_
  refine E.bx hs ?_
  intro b1 w3 hs
  refine go ?_
  refine E.bx hs ?_
  intro b2 w4 hs
  refine go ?_
  cases h1 : decide ((t1 : Int) < t2) with
  | true =>
    have h1 := of_decide_eq_true h1
    refine go ?_
    refine A.r1 ?_
    have := HR.out _ hs.drop.drop
    rw [decide_eq_true (by omega)] at this
    exact this
  | false =>
  have h1 := of_decide_eq_false h1
  refine go ?_
  cases h2 : decide ((t1 : Int) = t2) with
  | false =>
    have h2 := of_decide_eq_false h2
    refine go ?_
    refine A.r1 ?_
    have := HR.out _ hs.drop.drop
    rw [decide_eq_false (by omega)] at this
    exact this
  | true =>
  have h2 := of_decide_eq_true h2
  refine go ?_
  refine A.r1 ?_
  have := HR.out _ hs.drop.drop
  rw [show decide (t1 < t2 ∨ t1 = t2 ∧ w1 < w2) = decide (w1 < w2) from decide_eq_decide.2 (by omega)] at this
  exact this

set_option maxHeartbeats 3200000 in
set_option maxRecDepth 100000 in
theorem rencode_any {R : Ending → World → Prop} {W w : World} {g : Hl} {H : List HP} {e : Ev} (ho : e.ok g) (hwr : 0 ≤ e.wr) (hk1 : 1 ≤ e.kd) (hnd : e.kd = 5 → 0 ≤ e.nd) (hs : Sat W w g H)
    (hR : ∀ a' c' w' g', Hl.le g g' → Sat W w' g' (own 5 1 (.slice a' e.enc.length c') e.enc.length (bs e.enc) :: H) → R (.returned (.slice a' e.enc.length c')) w') :
    Calls Try.prog 52 #[e.val] w R := by
  have HR := Lib.hid hR
  clear hR
  obtain ⟨a, c, etv, hnc, _⟩ := ho.tv.len
  have hkd := ho.kd
  have hsq := ho.sq
  have htm := ho.tm
  have h1 := ho.wr
  have h2 := ho.nd
  have h3 := ho.key
  have h4 := ho.text
  have h5 := ho.tv
  have h6 := ho.num
  clear ho
  obtain ⟨wr, sq, tm, kd, key, text, num, nd, tv⟩ := e
  simp only at etv hkd hsq htm h1 h2 h3 h4 h5 h6 hwr hnd hk1
  simp only [Ev.val, Ev.cs]
  subst etv
  obtain ⟨wr, rfl⟩ := Int.eq_ofNat_of_zero_le hwr
  have l1 := layN_ten (n := wr) (by omega)
  have l2 := layN_ten (n := sq) (by omega)
  have l3 := layN_ten (n := tm) (by omega)
  have m1 : (layN wr ++ layN sq).length ≤ 20 := by rw [List.length_append]; omega
  refine C.calls (args := [.agg #[.int .i64 wr, .int .u64 sq, .int .u64 tm, .int .u8 kd, .string ⟨key.toArray⟩, .slice a text.length c, .float .f64 num, .int .i64 nd]]) Try.func52 rfl rfl rfl ?_
  refine go ?_
  refine E.bx hs ?_
  intro b1 w1 hs
  refine go ?_
  have e8 : (UInt8.ofNat kd).toNat = kd := by simp; omega
  refine C.cut (fun x : Option Addr × Nat => [(1, .pointer (some ⟨b1, 0, none⟩)), (3, .slice x.1 (layN wr ++ layN sq ++ layN tm).length x.2)])
    (fun x w => Sat W w g (own 5 1 (.slice x.1 (layN wr ++ layN sq ++ layN tm).length x.2) (layN wr ++ layN sq ++ layN tm).length (bs (layN wr ++ layN sq ++ layN tm)) :: blk b1 [.int .i64 wr, .int .u64 sq, .int .u64 tm, .int .u8 kd, .string ⟨key.toArray⟩, .slice a text.length c, .float .f64 num, .int .i64 nd] 43 :: H)) ?_ ?_
  · refine C.held1 b1 hs ?_
    intro w hk hs
    refine goh ?_
    refine EH.one (St.callf Try.func68 rfl ?_)
    refine rlay_any (xs := []) hs (fun w' _ => Row.nil w' fun _ => True) rfl (by omega) (by omega) ?_
    intro a2 c2 w2 hs
    simp only [List.nil_append] at hs ⊢
    refine kept1 hs (fun hk => ?_)
    refine goh ?_
    refine EH.one (St.callf Try.func68 rfl ?_)
    refine rlay_any hs (fun w' h => own_row h) rfl (by omega) (by omega) ?_
    intro a3 c3 w3 hs
    replace hs := hs.swap.drop
    refine kept1 hs (fun hk => ?_)
    refine goh ?_
    refine EH.one (St.callf Try.func68 rfl ?_)
    refine rlay_any hs (fun w' h => own_row h) rfl (by omega) (by omega) ?_
    intro a4 c4 w4 hs
    replace hs := hs.swap.drop
    refine kept1 hs (fun hk => ?_)
    refine goh ?_
    refine EH.done ?_
    exact A.mt (a4, c4) hs
  clear hs
  rintro ⟨a2, c2⟩ w2 hs
  simp only at hs ⊢
  have lA0 : (layN wr ++ layN sq ++ layN tm).length ≤ 30 := by
    simp only [List.length_append]; omega
  refine go ?_
  refine E.bsl hs ?_
  intro b3 w3 hs
  refine E.app el_u8 hs.swap (hs.rowOf (size := 1) 1 rfl (by decide)) ?_
  intro a4 c4 w4 _ _ hs
  replace hs := hs.swap.drop
  have eA : bs (layN wr ++ layN sq ++ layN tm) ++ [.int .u8 (kd : Nat)] = bs (layN wr ++ layN sq ++ layN tm ++ [UInt8.ofNat kd]) := by simp [bs, e8]
  have eL : (layN wr ++ layN sq ++ layN tm).length + 1 = (layN wr ++ layN sq ++ layN tm ++ [UInt8.ofNat kd]).length := by simp [Nat.add_assoc]
  rw [eA, eL] at hs
  rw [eL]
  have lA : (layN wr ++ layN sq ++ layN tm ++ [UInt8.ofNat kd]).length ≤ 31 := by
    rw [← eL]; omega
  have hR2 : ∀ (B : List UInt8), layN wr ++ layN sq ++ layN tm ++ [UInt8.ofNat kd] ++ B = Ev.enc ⟨wr, sq, tm, kd, key, text, num, nd, .slice a text.length c⟩ → ∀ a' c' w' g', Hl.le g g' → Sat W w' g' (own 5 1 (.slice a' (layN wr ++ layN sq ++ layN tm ++ [UInt8.ofNat kd] ++ B).length c') (layN wr ++ layN sq ++ layN tm ++ [UInt8.ofNat kd] ++ B).length (bs (layN wr ++ layN sq ++ layN tm ++ [UInt8.ofNat kd] ++ B)) :: H) → R (.returned (.slice a' (layN wr ++ layN sq ++ layN tm ++ [UInt8.ofNat kd] ++ B).length c')) w' := fun B hB a' c' w' g' hg' hs' => by
    rw [hB] at hs' ⊢
    exact HR.out _ _ _ _ hg' hs'
  clear HR eA eL
  simp only [Ev.enc, Ev.keyB, Ev.restB, Int.toNat_natCast] at hR2
  generalize hAA : layN wr ++ layN sq ++ layN tm ++ [UInt8.ofNat kd] = A1 at lA hR2 hs ⊢
  clear hAA
  have h3b : key.length ≤ 1000000000 := by omega
  have hkey := textB_len key (by omega)
  have htext := textB_len text (by omega)
  have lk : (A1 ++ textB key).length ≤ 200000000 := by rw [List.length_append]; omega
  have hcases : kd = 1 ∨ kd = 2 ∨ kd = 3 ∨ kd = 4 ∨ kd = 5 ∨ 5 < kd := by omega
  rcases hcases with hq | hq | hq | hq | hq | hq
  · subst hq
    simp only [show (1 ≤ 1 ∧ 1 ≤ 4) = True by simp, if_true] at hR2
    have HR2 := Lib.hid hR2
    clear hR2
    refine go ?_
    refine E.bytes Try.underlying9 Try.underlying40 Try.underlying5 hs h3b ?_
    intro b5 c5 w3 g3 hg3 hs hp5
    refine go ?_
    refine E.callf Try.func69 rfl ?_
    refine rtextV_any hs rfl (by omega) hp5 rfl (by omega) ?_
    intro a4 c4 w4 hs
    refine go ?_
    refine E.callf Try.func69 rfl ?_
    refine rtextV_any hs rfl (by omega) (h5.mono hg3) rfl (by omega) ?_
    intro a6 c6 w6 hs
    refine go ?_
    refine A.r1 ?_
    rw [List.append_assoc A1] at hs ⊢
    exact HR2.out (textB key ++ textB text) (by simp) _ _ _ _ hg3 hs.swap.drop
  · subst hq
    simp only [show (1 ≤ 2 ∧ 2 ≤ 4) = True by simp, if_true] at hR2
    have HR2 := Lib.hid hR2
    clear hR2
    refine go ?_
    refine E.bytes Try.underlying9 Try.underlying40 Try.underlying5 hs h3b ?_
    intro b5 c5 w3 g3 hg3 hs hp5
    refine go ?_
    refine E.callf Try.func69 rfl ?_
    refine rtextV_any hs rfl (by omega) hp5 rfl (by omega) ?_
    intro a4 c4 w4 hs
    refine go ?_
    refine E.callf Try.func71 rfl ?_
    refine rbits_any ?_
    refine E.callf Try.func70 rfl ?_
    refine rfixed_any hs rfl (by omega) (bitsF_lt h6) ?_
    intro a6 c6 w6 hs
    refine go ?_
    refine A.r1 ?_
    rw [List.append_assoc A1] at hs ⊢
    exact HR2.out (textB key ++ fixB (bitsF num)) (by simp) _ _ _ _ hg3 hs.swap.drop
  · subst hq
    simp only [show (1 ≤ 3 ∧ 3 ≤ 4) = True by simp, if_true] at hR2
    have HR2 := Lib.hid hR2
    clear hR2
    refine go ?_
    refine E.bytes Try.underlying9 Try.underlying40 Try.underlying5 hs h3b ?_
    intro b5 c5 w3 g3 hg3 hs hp5
    refine go ?_
    refine E.callf Try.func69 rfl ?_
    refine rtextV_any hs rfl (by omega) hp5 rfl (by omega) ?_
    intro a4 c4 w4 hs
    refine go ?_
    refine E.callf Try.func71 rfl ?_
    refine rbits_any ?_
    refine E.callf Try.func70 rfl ?_
    refine rfixed_any hs rfl (by omega) (bitsF_lt h6) ?_
    intro a6 c6 w6 hs
    refine go ?_
    refine A.r1 ?_
    rw [List.append_assoc A1] at hs ⊢
    exact HR2.out (textB key ++ fixB (bitsF num)) (by simp) _ _ _ _ hg3 hs.swap.drop
  · subst hq
    simp only [show (1 ≤ 4 ∧ 4 ≤ 4) = True by simp, if_true] at hR2
    have HR2 := Lib.hid hR2
    clear hR2
    refine go ?_
    refine E.bytes Try.underlying9 Try.underlying40 Try.underlying5 hs h3b ?_
    intro b5 c5 w3 g3 hg3 hs hp5
    refine go ?_
    refine E.callf Try.func69 rfl ?_
    refine rtextV_any hs rfl (by omega) hp5 rfl (by omega) ?_
    intro a4 c4 w4 hs
    refine go ?_
    refine A.r1 ?_
    exact HR2.out (textB key) (by simp) _ _ _ _ hg3 hs.swap.drop
  · subst hq
    obtain ⟨nd, rfl⟩ := Int.eq_ofNat_of_zero_le (hnd rfl)
    simp only [show (1 ≤ 5 ∧ 5 ≤ 4) = False by simp, if_false, Int.toNat_natCast] at hR2
    have HR2 := Lib.hid hR2
    clear hR2
    refine go ?_
    refine E.callf Try.func68 rfl ?_
    refine rlay_any hs (fun w' h => own_row h) rfl (by omega) (by omega) ?_
    intro a6 c6 w6 hs
    refine go ?_
    refine A.r1 ?_
    exact HR2.out (layN nd) (by simp) _ _ _ _ (Hl.le_refl _) (hs.swap.drop.swap.drop)
  · refine go ?_
    rw [show decide ((kd : Int) ≤ 4) = false from decide_eq_false (by omega)]
    refine go ?_
    rw [show decide ((kd : Int) = 1) = false from decide_eq_false (by omega)]
    refine go ?_
    rw [show decide ((kd : Int) = 2) = false from decide_eq_false (by omega)]
    refine go ?_
    rw [show decide ((kd : Int) = 3) = false from decide_eq_false (by omega)]
    refine go ?_
    rw [show decide ((kd : Int) = 5) = false from decide_eq_false (by omega)]
    refine go ?_
    refine A.r1 ?_
    have k1 : ¬ (1 ≤ kd ∧ kd ≤ 4) := by omega
    have k2 : ¬ kd = 1 := by omega
    have k3 : ¬ (kd = 2 ∨ kd = 3) := by omega
    have k4 : ¬ kd = 5 := by omega
    simp only [k1, k2, k3, k4, if_false] at hR2
    have := hR2 [] (by simp) a4 c4 w4 g (Hl.le_refl _)
    rw [List.append_nil] at this
    exact this hs.swap.drop
end Go.Proofs.Ytkolnecahlkndaa
