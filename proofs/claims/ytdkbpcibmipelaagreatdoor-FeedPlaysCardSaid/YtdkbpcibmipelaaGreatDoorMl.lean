/-
  The reference of layer 6: places, and events as bytes: they are the program's.
-/
import Derived.Test.YtdkbpcibmipelaaGreatDoorMk
import Derived.Test.YtdkbpcibmipelaaGreatDoorMi
import Derived.Test.YtdkbpcibmipelaaGreatDoorMj
import Derived.Test.YtdkbpcibmipelaaGreatDoorMf
import Derived.Test.YtdkbpcibmipelaaGreatDoorRows
import Derived.Test.YtdkbpcibmipelaaGreatDoorMc
import Derived.OpenShut
import Derived.ChangeOld
import Derived.ChangeSame
import Derived.LaidMore
import Derived.Stop.Joined
import Derived.Laws.IdiomCopy
import Derived.Test.YtdkbpcibmipelaaGreatDoorMd
import Derived.Test.YtdkbpcibmipelaaGreatDoorMb
import Derived.Sort.KeysCollected
import Derived.Maps.Own
import Derived.Laws.Slices
namespace Go.Proofs.YtdkbpcibmipelaaGreatDoor
open Go.RowKit
set_option linter.unusedVariables false
set_option linter.unusedSimpArgs false

set_option maxHeartbeats 1600000 in
set_option maxRecDepth 100000 in
theorem rat_any {R : Ending → World → Prop} {W w : World} {g : Hl} {H : List HP} {e : Ev} (hs : Sat W w g H) (hR : ∀ w', Sat W w' g H → R (.returned (spot e.tm e.wr)) w') :
    Calls Tryz.prog 186 #[e.val] w R := by
  have HR := Lib.hid hR
  clear hR
  simp only [Ev.val, Ev.cs]
  refine C.calls (args := [.agg #[.int .i64 e.wr, .int .u64 e.sq, .int .u64 e.tm, .int .u8 e.kd, .string ⟨e.key.toArray⟩, e.tv, .float .f64 e.num, .int .i64 e.nd]]) Tryz.func186 rfl rfl rfl ?_
  refine go ?_
  refine E.bx hs ?_
  intro b1 w1 hs
  refine go ?_
  refine E.al hs ?_
  intro b2 w2 hs
  refine go ?_
  refine E.sto hs ?_
  intro w3 hs
  refine go ?_
  refine A.c1 rfl rfl (run_lda hs ag_spot) ?_
  exact HR.out _ hs.drop.drop

set_option maxHeartbeats 1600000 in
set_option maxRecDepth 100000 in
theorem ahead_any {R : Ending → World → Prop} {W w : World} {g : Hl} {H : List HP} {t1 t2 : Nat} {w1 w2 : Int} (hs : Sat W w g H) (hR : ∀ w', Sat W w' g H → R (.returned (.bool (decide (cmpS t1 w1 t2 w2 < 0)))) w') :
    Calls Tryz.prog 185 #[spot t1 w1, spot t2 w2] w R := by
  have HR := Lib.hid hR
  clear hR
  have e1 : decide (cmpS t1 w1 t2 w2 < 0) = decide (t1 < t2 ∨ t1 = t2 ∧ w1 < w2) := decide_eq_decide.2 cmpS_lt
  rw [e1] at HR
  simp only [spot]
  refine C.calls (args := [.agg #[.int .u64 t1, .int .i64 w1], .agg #[.int .u64 t2, .int .i64 w2]]) Tryz.func185 rfl rfl rfl ?_
  refine go ?_
  refine E.bx hs ?_
  intro b1 w3 hs
  refine go ?_
  refine E.bx hs ?_
  intro b2 w4 hs
  refine go ?_
  cases h1 : decide ((t1 : Int) < t2) with
  | true =>
    have h1 := of_decide_eq_true h1
    refine go ?_
    refine A.r1 ?_
    have := HR.out _ hs.drop.drop
    rw [decide_eq_true (by omega)] at this
    exact this
  | false =>
  have h1 := of_decide_eq_false h1
  refine go ?_
  cases h2 : decide ((t1 : Int) = t2) with
  | false =>
    have h2 := of_decide_eq_false h2
    refine go ?_
    refine A.r1 ?_
    have := HR.out _ hs.drop.drop
    rw [decide_eq_false (by omega)] at this
    exact this
  | true =>
  have h2 := of_decide_eq_true h2
  refine go ?_
  refine A.r1 ?_
  have := HR.out _ hs.drop.drop
  rw [show decide (t1 < t2 ∨ t1 = t2 ∧ w1 < w2) = decide (w1 < w2) from decide_eq_decide.2 (by omega)] at this
  exact this

set_option maxHeartbeats 3200000 in
set_option maxRecDepth 100000 in
theorem rencode_any {R : Ending → World → Prop} {W w : World} {g : Hl} {H : List HP} {e : Ev} (ho : e.ok g) (hwr : 0 ≤ e.wr) (hk1 : 1 ≤ e.kd) (hnd : e.kd = 5 → 0 ≤ e.nd) (hs : Sat W w g H)
    (hR : ∀ a' c' w' g', Hl.le g g' → Sat W w' g' (own 5 1 (.slice a' e.enc.length c') e.enc.length (bs e.enc) :: H) → R (.returned (.slice a' e.enc.length c')) w') :
    Calls Tryz.prog 23 #[e.val] w R := by
  have HR := Lib.hid hR
  clear hR
  obtain ⟨a, c, etv, hnc, _⟩ := ho.tv.len
  have hkd := ho.kd
  have hsq := ho.sq
  have htm := ho.tm
  have h1 := ho.wr
  have h2 := ho.nd
  have h3 := ho.key
  have h4 := ho.text
  have h5 := ho.tv
  have h6 := ho.num
  clear ho
  obtain ⟨wr, sq, tm, kd, key, text, num, nd, tv⟩ := e
  simp only at etv hkd hsq htm h1 h2 h3 h4 h5 h6 hwr hnd hk1
  simp only [Ev.val, Ev.cs]
  subst etv
  obtain ⟨wr, rfl⟩ := Int.eq_ofNat_of_zero_le hwr
  have l1 := layN_ten (n := wr) (by omega)
  have l2 := layN_ten (n := sq) (by omega)
  have l3 := layN_ten (n := tm) (by omega)
  have m1 : (layN wr ++ layN sq).length ≤ 20 := by rw [List.length_append]; omega
  refine C.calls (args := [.agg #[.int .i64 wr, .int .u64 sq, .int .u64 tm, .int .u8 kd, .string ⟨key.toArray⟩, .slice a text.length c, .float .f64 num, .int .i64 nd]]) Tryz.func23 rfl rfl rfl ?_
  refine go ?_
  refine E.bx hs ?_
  intro b1 w1 hs
  refine go ?_
  have e8 : (UInt8.ofNat kd).toNat = kd := by simp; omega
  refine C.cut (fun x : Option Addr × Nat => [(1, .pointer (some ⟨b1, 0, none⟩)), (3, .slice x.1 (layN wr ++ layN sq ++ layN tm).length x.2)])
    (fun x w => Sat W w g (own 5 1 (.slice x.1 (layN wr ++ layN sq ++ layN tm).length x.2) (layN wr ++ layN sq ++ layN tm).length (bs (layN wr ++ layN sq ++ layN tm)) :: blk b1 [.int .i64 wr, .int .u64 sq, .int .u64 tm, .int .u8 kd, .string ⟨key.toArray⟩, .slice a text.length c, .float .f64 num, .int .i64 nd] 46 :: H)) ?_ ?_
  · refine C.held1 b1 hs ?_
    intro w hk hs
    refine goh ?_
    refine EH.one (St.callf Tryz.func97 rfl ?_)
    refine rlay_any (xs := []) hs (fun w' _ => Row.nil w' fun _ => True) rfl (by omega) (by omega) ?_
    intro a2 c2 w2 hs
    simp only [List.nil_append] at hs ⊢
    refine kept1 hs (fun hk => ?_)
    refine goh ?_
    refine EH.one (St.callf Tryz.func97 rfl ?_)
    refine rlay_any hs (fun w' h => own_row h) rfl (by omega) (by omega) ?_
    intro a3 c3 w3 hs
    replace hs := hs.swap.drop
    refine kept1 hs (fun hk => ?_)
    refine goh ?_
    refine EH.one (St.callf Tryz.func97 rfl ?_)
    refine rlay_any hs (fun w' h => own_row h) rfl (by omega) (by omega) ?_
    intro a4 c4 w4 hs
    replace hs := hs.swap.drop
    refine kept1 hs (fun hk => ?_)
    refine goh ?_
    refine EH.done ?_
    exact A.mt (a4, c4) hs
  clear hs
  rintro ⟨a2, c2⟩ w2 hs
  simp only at hs ⊢
  have lA0 : (layN wr ++ layN sq ++ layN tm).length ≤ 30 := by
    simp only [List.length_append]; omega
  refine go ?_
  refine E.bsl hs ?_
  intro b3 w3 hs
  refine E.app el_u8 hs.swap (hs.rowOf (size := 1) 1 rfl (by decide)) ?_
  intro a4 c4 w4 _ _ hs
  replace hs := hs.swap.drop
  have eA : bs (layN wr ++ layN sq ++ layN tm) ++ [.int .u8 (kd : Nat)] = bs (layN wr ++ layN sq ++ layN tm ++ [UInt8.ofNat kd]) := by simp [bs, e8]
  have eL : (layN wr ++ layN sq ++ layN tm).length + 1 = (layN wr ++ layN sq ++ layN tm ++ [UInt8.ofNat kd]).length := by simp [Nat.add_assoc]
  rw [eA, eL] at hs
  rw [eL]
  have lA : (layN wr ++ layN sq ++ layN tm ++ [UInt8.ofNat kd]).length ≤ 31 := by
    rw [← eL]; omega
  have hR2 : ∀ (B : List UInt8), layN wr ++ layN sq ++ layN tm ++ [UInt8.ofNat kd] ++ B = Ev.enc ⟨wr, sq, tm, kd, key, text, num, nd, .slice a text.length c⟩ → ∀ a' c' w' g', Hl.le g g' → Sat W w' g' (own 5 1 (.slice a' (layN wr ++ layN sq ++ layN tm ++ [UInt8.ofNat kd] ++ B).length c') (layN wr ++ layN sq ++ layN tm ++ [UInt8.ofNat kd] ++ B).length (bs (layN wr ++ layN sq ++ layN tm ++ [UInt8.ofNat kd] ++ B)) :: H) → R (.returned (.slice a' (layN wr ++ layN sq ++ layN tm ++ [UInt8.ofNat kd] ++ B).length c')) w' := fun B hB a' c' w' g' hg' hs' => by
    rw [hB] at hs' ⊢
    exact HR.out _ _ _ _ hg' hs'
  clear HR eA eL
  simp only [Ev.enc, Ev.keyB, Ev.restB, Int.toNat_natCast] at hR2
  generalize hAA : layN wr ++ layN sq ++ layN tm ++ [UInt8.ofNat kd] = A1 at lA hR2 hs ⊢
  clear hAA
  have h3b : key.length ≤ 1000000000 := by omega
  have hkey := textB_len key (by omega)
  have htext := textB_len text (by omega)
  have lk : (A1 ++ textB key).length ≤ 200000000 := by rw [List.length_append]; omega
  have hcases : kd = 1 ∨ kd = 2 ∨ kd = 3 ∨ kd = 4 ∨ kd = 5 ∨ 5 < kd := by omega
  rcases hcases with hq | hq | hq | hq | hq | hq
  · subst hq
    simp only [show (1 ≤ 1 ∧ 1 ≤ 4) = True by simp, if_true] at hR2
    have HR2 := Lib.hid hR2
    clear hR2
    refine go ?_
    refine E.bytes Tryz.underlying9 Tryz.underlying33 Tryz.underlying5 hs h3b ?_
    intro b5 c5 w3 g3 hg3 hs hp5
    refine go ?_
    refine E.callf Tryz.func95 rfl ?_
    refine rtextV_any hs rfl (by omega) hp5 rfl (by omega) ?_
    intro a4 c4 w4 hs
    refine go ?_
    refine E.callf Tryz.func95 rfl ?_
    refine rtextV_any hs rfl (by omega) (h5.mono hg3) rfl (by omega) ?_
    intro a6 c6 w6 hs
    refine go ?_
    refine A.r1 ?_
    rw [List.append_assoc A1] at hs ⊢
    exact HR2.out (textB key ++ textB text) (by simp) _ _ _ _ hg3 hs.swap.drop
  · subst hq
    simp only [show (1 ≤ 2 ∧ 2 ≤ 4) = True by simp, if_true] at hR2
    have HR2 := Lib.hid hR2
    clear hR2
    refine go ?_
    refine E.bytes Tryz.underlying9 Tryz.underlying33 Tryz.underlying5 hs h3b ?_
    intro b5 c5 w3 g3 hg3 hs hp5
    refine go ?_
    refine E.callf Tryz.func95 rfl ?_
    refine rtextV_any hs rfl (by omega) hp5 rfl (by omega) ?_
    intro a4 c4 w4 hs
    refine go ?_
    refine E.callf Tryz.func99 rfl ?_
    refine rbits_any ?_
    refine E.callf Tryz.func98 rfl ?_
    refine rfixed_any hs rfl (by omega) (bitsF_lt h6) ?_
    intro a6 c6 w6 hs
    refine go ?_
    refine A.r1 ?_
    rw [List.append_assoc A1] at hs ⊢
    exact HR2.out (textB key ++ fixB (bitsF num)) (by simp) _ _ _ _ hg3 hs.swap.drop
  · subst hq
    simp only [show (1 ≤ 3 ∧ 3 ≤ 4) = True by simp, if_true] at hR2
    have HR2 := Lib.hid hR2
    clear hR2
    refine go ?_
    refine E.bytes Tryz.underlying9 Tryz.underlying33 Tryz.underlying5 hs h3b ?_
    intro b5 c5 w3 g3 hg3 hs hp5
    refine go ?_
    refine E.callf Tryz.func95 rfl ?_
    refine rtextV_any hs rfl (by omega) hp5 rfl (by omega) ?_
    intro a4 c4 w4 hs
    refine go ?_
    refine E.callf Tryz.func99 rfl ?_
    refine rbits_any ?_
    refine E.callf Tryz.func98 rfl ?_
    refine rfixed_any hs rfl (by omega) (bitsF_lt h6) ?_
    intro a6 c6 w6 hs
    refine go ?_
    refine A.r1 ?_
    rw [List.append_assoc A1] at hs ⊢
    exact HR2.out (textB key ++ fixB (bitsF num)) (by simp) _ _ _ _ hg3 hs.swap.drop
  · subst hq
    simp only [show (1 ≤ 4 ∧ 4 ≤ 4) = True by simp, if_true] at hR2
    have HR2 := Lib.hid hR2
    clear hR2
    refine go ?_
    refine E.bytes Tryz.underlying9 Tryz.underlying33 Tryz.underlying5 hs h3b ?_
    intro b5 c5 w3 g3 hg3 hs hp5
    refine go ?_
    refine E.callf Tryz.func95 rfl ?_
    refine rtextV_any hs rfl (by omega) hp5 rfl (by omega) ?_
    intro a4 c4 w4 hs
    refine go ?_
    refine A.r1 ?_
    exact HR2.out (textB key) (by simp) _ _ _ _ hg3 hs.swap.drop
  · subst hq
    obtain ⟨nd, rfl⟩ := Int.eq_ofNat_of_zero_le (hnd rfl)
    simp only [show (1 ≤ 5 ∧ 5 ≤ 4) = False by simp, if_false, Int.toNat_natCast] at hR2
    have HR2 := Lib.hid hR2
    clear hR2
    refine go ?_
    refine E.callf Tryz.func97 rfl ?_
    refine rlay_any hs (fun w' h => own_row h) rfl (by omega) (by omega) ?_
    intro a6 c6 w6 hs
    refine go ?_
    refine A.r1 ?_
    exact HR2.out (layN nd) (by simp) _ _ _ _ (Hl.le_refl _) (hs.swap.drop.swap.drop)
  · refine go ?_
    rw [show decide ((kd : Int) ≤ 4) = false from decide_eq_false (by omega)]
    refine go ?_
    rw [show decide ((kd : Int) = 1) = false from decide_eq_false (by omega)]
    refine go ?_
    rw [show decide ((kd : Int) = 2) = false from decide_eq_false (by omega)]
    refine go ?_
    rw [show decide ((kd : Int) = 3) = false from decide_eq_false (by omega)]
    refine go ?_
    rw [show decide ((kd : Int) = 5) = false from decide_eq_false (by omega)]
    refine go ?_
    refine A.r1 ?_
    have k1 : ¬ (1 ≤ kd ∧ kd ≤ 4) := by omega
    have k2 : ¬ kd = 1 := by omega
    have k3 : ¬ (kd = 2 ∨ kd = 3) := by omega
    have k4 : ¬ kd = 5 := by omega
    simp only [k1, k2, k3, k4, if_false] at hR2
    have := hR2 [] (by simp) a4 c4 w4 g (Hl.le_refl _)
    rw [List.append_nil] at this
    exact this hs.swap.drop
end Go.Proofs.YtdkbpcibmipelaaGreatDoor

/-
  The reference of layer 6: whether events are one.
-/
namespace Go.Proofs.YtdkbpcibmipelaaGreatDoor
open Go.RowKit
set_option linter.unusedVariables false
set_option linter.unusedSimpArgs false

/-- What a valid event's parts are. -/
structure Ev.fit (e : Ev) : Prop where
  wr : 0 ≤ e.wr
  kd : 1 ≤ e.kd
  nd : e.kd = 5 → 0 ≤ e.nd

set_option maxHeartbeats 3200000 in
set_option maxRecDepth 100000 in
theorem same_any {R : Ending → World → Prop} {W w : World} {g : Hl} {H : List HP} {e f : Ev} (he : e.ok g) (hf : f.ok g) (fe : e.fit) (ff : f.fit) (hs : Sat W w g H)
    (hR : ∀ w' g', Hl.le g g' → Sat W w' g' H → R (.returned (.bool (decide (e.enc = f.enc)))) w') :
    Calls Tryz.prog 54 #[e.val, f.val] w R := by
  have HR := Lib.hid hR
  clear hR
  have ag1 := ag_ev
  refine C.calls (args := [e.val, f.val]) Tryz.func54 rfl rfl rfl ?_
  refine go ?_
  refine E.bx hs (xs := e.cs) ?_ (hx := rfl)
  intro b1 w1 hs
  refine E.bx hs (xs := f.cs) ?_ (hx := rfl)
  intro b2 w2 hs
  refine go ?_
  refine C.held2 b1 b2 hs ?_
  intro w3 hk hs
  refine goh ?_
  refine EH.one (St.callf Tryz.func23 rfl ?_)
  refine rencode_any (e := e) he fe.wr fe.kd fe.nd hs ?_
  intro a4 c4 w4 g4 hg4 hs
  obtain ⟨g5, hg5, hp5, hs⟩ := hs.publishOwn
  refine kept2 hs (fun hk => ?_) (hg4.trans hg5)
  refine goh ?_
  refine EH.two (St.string rfl Tryz.underlying33 Tryz.underlying5 Tryz.underlying9 (hp5.row hs) ?_) (St.callf Tryz.func23 rfl ?_)
  · refine kept2 hs (fun hk => ?_) (hg4.trans hg5)
    refine goh ?_
    refine EH.one (St.callf Tryz.func23 rfl ?_)
    refine rencode_any (e := f) ((hf.mono hg4).mono hg5) ff.wr ff.kd ff.nd hs ?_
    intro a6 c6 w6 g6 hg6 hs
    obtain ⟨g7, hg7, hp7, hs⟩ := hs.publishOwn
    refine kept2 hs (fun hk => ?_) ((hg4.trans hg5).trans (hg6.trans hg7))
    refine goh ?_
    refine EH.one (St.string rfl Tryz.underlying33 Tryz.underlying5 Tryz.underlying9 (hp7.row hs) ?_)
    refine kept2 hs (fun hk => ?_) ((hg4.trans hg5).trans (hg6.trans hg7))
    refine goh ?_
    refine EH.done ?_
    refine go ?_
    refine A.r1 ?_
    exact HR.out _ _ ((hg4.trans hg5).trans (hg6.trans hg7)) hs.drop.drop
  · refine rencode_any (e := f) ((hf.mono hg4).mono hg5) ff.wr ff.kd ff.nd hs ?_
    intro a6 c6 w6 g6 hg6 hs
    obtain ⟨g7, hg7, hp7, hs⟩ := hs.publishOwn
    have hp5' := (hp5.mono hg6).mono hg7
    refine kept2 hs (fun hk => ?_) ((hg4.trans hg5).trans (hg6.trans hg7))
    refine goh ?_
    refine EH.two (St.string rfl Tryz.underlying33 Tryz.underlying5 Tryz.underlying9 (hp5'.row hs) ?_) (St.string rfl Tryz.underlying33 Tryz.underlying5 Tryz.underlying9 (hp7.row hs) ?_)
    · refine kept2 hs (fun hk => ?_) ((hg4.trans hg5).trans (hg6.trans hg7))
      refine goh ?_
      refine EH.one (St.string rfl Tryz.underlying33 Tryz.underlying5 Tryz.underlying9 (hp7.row hs) ?_)
      refine kept2 hs (fun hk => ?_) ((hg4.trans hg5).trans (hg6.trans hg7))
      refine goh ?_
      refine EH.done ?_
      refine go ?_
      refine A.r1 ?_
      exact HR.out _ _ ((hg4.trans hg5).trans (hg6.trans hg7)) hs.drop.drop
    · refine kept2 hs (fun hk => ?_) ((hg4.trans hg5).trans (hg6.trans hg7))
      refine goh ?_
      refine EH.one (St.string rfl Tryz.underlying33 Tryz.underlying5 Tryz.underlying9 (hp5'.row hs) ?_)
      refine kept2 hs (fun hk => ?_) ((hg4.trans hg5).trans (hg6.trans hg7))
      refine goh ?_
      refine EH.done ?_
      refine go ?_
      refine A.r1 ?_
      exact HR.out _ _ ((hg4.trans hg5).trans (hg6.trans hg7)) hs.drop.drop

/-- Two lists of events, by their bytes. -/
def sameE (a b : List Ev) : Bool := decide (a.map Ev.enc = b.map Ev.enc)

end Go.Proofs.YtdkbpcibmipelaaGreatDoor

/-
  The reference of layer 12: are two lists of events one?
-/
namespace Go.Proofs.YtdkbpcibmipelaaGreatDoor
open Go.RowKit
set_option linter.unusedVariables false
set_option linter.unusedSimpArgs false

set_option maxHeartbeats 3200000 in
set_option maxRecDepth 100000 in
theorem sameAll_any {R : Ending → World → Prop} {W w : World} {g : Hl} {H : List HP} {x y : El} (hx : x.ok g) (hy : y.ok g) (fx : ∀ e ∈ x.es, e.fit) (fy : ∀ e ∈ y.es, e.fit) (hlx : x.es.length ≤ 1000000000) (hly : y.es.length ≤ 1000000000) (hs : Sat W w g H)
    (hR : ∀ w' g', Hl.le g g' → Sat W w' g' H → R (.returned (.bool (sameE x.es y.es))) w') :
    Calls Tryz.prog 25 #[x.v, y.v] w R := by
  have HR := Lib.hid hR
  clear hR
  refine C.calls (args := [.slice x.a x.es.length x.c, .slice y.a y.es.length y.c]) Tryz.func25 rfl rfl rfl ?_
  refine go ?_
  cases h0 : decide ((x.es.length : Int) = y.es.length) with
  | false =>
    have h0 := of_decide_eq_false h0
    refine go ?_
    refine A.r1 ?_
    have := HR.out _ g (Hl.le_refl _) hs
    rw [show sameE x.es y.es = false from decide_eq_false (fun h => by have := congrArg List.length h; simp at this; omega)] at this
    exact this
  | true =>
  have h0 := of_decide_eq_true h0
  refine gob ?_
  have hxy0 : x.es.length = y.es.length := by omega
  have hxy := Lib.hid hxy0
  clear h0 hxy0
  refine C.block ?_
  refine C.lp (fun i : Nat => [(0, .slice x.a x.es.length x.c), (1, .slice y.a y.es.length y.c), (5, .int .i64 i)])
    (fun gk i w => gk = x.es.length - i ∧ i ≤ x.es.length ∧ (x.es.take i).map Ev.enc = (y.es.take i).map Ev.enc ∧ ∃ g', Hl.le g g' ∧ Sat W w g' H) x.es.length 0 ⟨rfl, Nat.zero_le _, rfl, g, Hl.le_refl _, hs⟩ ?_
  clear hs
  rintro gk i w2 ⟨rfl, hi, heq, g2, hg2, hs⟩
  refine go ?_
  refine C.cond_dec (p := (i : Int) < x.es.length) rfl (fun h => ?_) (fun h => ?_)
  · have hix : i < x.es.length := by omega
    have hiy : i < y.es.length := by have := hxy.out; omega
    have hiy' : (i : Int) < y.es.length := by omega
    have hrx := hx.row.mono hg2
    have hry := hy.row.mono hg2
    have hxy1 := hxy.out
    obtain ⟨bx, ox, hxa⟩ := pr_some hrx (by omega)
    obtain ⟨by_, oy, hya⟩ := pr_some hry (by omega)
    have hex := hx.evs x.es[i] (List.getElem_mem hix)
    have hey := hy.evs y.es[i] (List.getElem_mem hiy)
    simp only [El.v, hxa] at hrx
    simp only [El.v, hya] at hry
    clear hxy1
    refine go ?_
    rw [hxa, hya]
    refine C.held0 hs ?_
    intro w3 hk hs
    refine goh ?_
    refine EH.t0 hk ?_ (hy := Pf.loadpr ag_ev hrx hix (evC_at hix) rfl rfl)
    refine EH.t0 hk ?_ (hy := Pf.loadpr ag_ev hry hiy (evC_at hiy) rfl rfl)
    refine EH.one (St.callf Tryz.func54 rfl ?_)
    refine same_any (e := x.es[i]) (f := y.es[i]) (hex.1.mono hg2) (hey.1.mono hg2) (fx _ (List.getElem_mem hix)) (fy _ (List.getElem_mem hiy)) hs ?_
    intro w4 g4 hg4 hs
    refine kept0 hs (fun hk => ?_) hg4
    refine goh ?_
    refine EH.done ?_
    refine go ?_
    cases hd : decide (x.es[i].enc = y.es[i].enc) with
    | true =>
      have hd := of_decide_eq_true hd
      refine go ?_
      rw [← hxa, ← hya]
      refine A.rd (x.es.length - (i + 1)) (i + 1) ⟨rfl, by omega, ?_, g4, hg2.trans hg4, hs⟩
      rw [List.take_succ_eq_append_getElem hix, List.take_succ_eq_append_getElem hiy, List.map_append, List.map_append, heq]
      simp [hd]
    | false =>
      have hd := of_decide_eq_false hd
      refine go ?_
      refine A.r1 ?_
      have := HR.out _ _ (hg2.trans hg4) hs
      rw [show sameE x.es y.es = false from decide_eq_false (fun h => hd (by
        have h1 := congrArg (fun l => l[i]?) h
        simp only [List.getElem?_map, List.getElem?_eq_getElem hix, List.getElem?_eq_getElem hiy, Option.map_some, Option.some.injEq] at h1
        exact h1))] at this
      exact this
  · obtain rfl : i = x.es.length := by omega
    refine go ?_
    refine A.r1 ?_
    have := HR.out _ _ hg2 hs
    rw [List.take_length, hxy.out, List.take_length] at heq
    rw [show sameE x.es y.es = true from decide_eq_true heq] at this
    exact this
end Go.Proofs.YtdkbpcibmipelaaGreatDoor

/-
  The reference of layer 3: the sum of some bytes, by the highest bit first.
-/
namespace Go.Proofs.YtdkbpcibmipelaaGreatDoor
open Go.RowKit
set_option linter.unusedVariables false
set_option linter.unusedSimpArgs false

def rbit (s bit : Nat) : Nat := if bit = s / 2 ^ 31 then s * 2 ^ 1 % 2 ^ 32 else (s * 2 ^ 1 % 2 ^ 32) ^^^ 517762881
def rbk (b : Nat) : Nat → Nat → Nat
  | 0, s => s
  | k + 1, s => rbit (rbk b k s) ((b / 2 ^ k) &&& 1)
def rvk (s : Nat) : Nat → Nat
  | 0 => 0
  | k + 1 => (rvk s k * 2 ^ 1 % 2 ^ 32) ||| ((s / 2 ^ k) &&& 1)
def rfold (l : List UInt8) : Nat := l.foldl (fun s b => rbk b.toNat 8 s) 4294967295
def rsum (l : List UInt8) : Nat := rvk ((2 ^ 32 - 1) ^^^ rfold l) 32
theorem rbit_lt {s bit : Nat} : rbit s bit < 4294967296 := by
  unfold rbit
  split
  · omega
  · exact Nat.xor_lt_two_pow (n := 32) (Nat.mod_lt _ (by decide)) (by decide)
theorem rbk_lt {b s : Nat} (h : s < 4294967296) : ∀ k, rbk b k s < 4294967296
  | 0 => h
  | k + 1 => rbit_lt
theorem rvk_lt (s : Nat) : ∀ k, rvk s k < 4294967296
  | 0 => by simp [rvk]
  | k + 1 => Nat.or_lt_two_pow (n := 32) (Nat.mod_lt _ (by decide)) (by rw [Nat.and_one_is_mod]; omega)
theorem rfold_lt (l : List UInt8) : rfold l < 4294967296 := by
  unfold rfold
  suffices h : ∀ (l : List UInt8) s, s < 4294967296 → l.foldl (fun s b => rbk b.toNat 8 s) s < 4294967296 from h l _ (by decide)
  intro l
  induction l with
  | nil => exact fun s h => h
  | cons b r ih => exact fun s h => ih _ (rbk_lt h 8)

set_option maxHeartbeats 1600000 in
set_option maxRecDepth 100000 in
theorem rsum_any {R : Ending → World → Prop} {w : World} {a : Option Addr} {n c : Nat} {D : Nat → Prop} {l : List UInt8} (hp : Row 1 w D (.slice a n c) n (bs l)) (hl : l.length = n)
    (hR : R (.returned (.int .u32 (rsum l : Nat))) w) :
    Calls Tryz.prog 96 #[.slice a n c] w R := by
  have HR := Lib.hid hR
  clear hR
  have hle := hp.len
  obtain ⟨_, _, e0, hnc, hcm⟩ := hle
  unfold maxLen at hcm
  simp only [Value.slice.injEq] at e0
  obtain ⟨rfl, -, rfl⟩ := e0
  refine C.calls (args := [.slice a n c]) Tryz.func96 rfl rfl rfl ?_
  refine gob ?_
  refine C.cutQ (fun s : Nat => [(3, .int .u32 s)]) (fun s w' => w' = w ∧ s = rfold l) ?_ ?_
  · refine C.block ?_
    refine C.lp (fun x : Nat × Nat => [(0, .slice a n c), (3, .int .u32 x.2), (4, .int .i64 x.1)])
      (fun gk x w' => w' = w ∧ gk = n - x.1 ∧ x.1 ≤ n ∧ x.2 < 4294967296 ∧ (l.drop x.1).foldl (fun s b => rbk b.toNat 8 s) x.2 = rfold l) n (0, 4294967295) ⟨rfl, rfl, Nat.zero_le _, by simp only; omega, rfl⟩ ?_
    rintro gk ⟨i, s⟩ w' ⟨rfl, hgk, hi, hlt0, hf⟩
    simp only at hgk hi hlt0 hf ⊢
    refine go ?_
    refine C.cond_dec (p := (i : Int) < n) rfl (fun hlt => ?_) (fun hlt => ?_)
    rotate_left
    · refine go ?_
      have e : l.drop i = [] := List.drop_eq_nil_of_le (by omega)
      rw [e] at hf
      exact A.mt s ⟨rfl, hf⟩
    · have hin : i < l.length := by omega
      rw [List.drop_eq_getElem_cons hin, List.foldl_cons] at hf
      refine gob ?_
      refine C.block ?_
      refine gob ?_
      refine C.cutQ (fun s' : Nat => [(0, .slice a n c), (3, .int .u32 s'), (4, .int .i64 i)]) (fun s' w2 => w2 = w' ∧ s' = rbk l[i].toNat 8 s) ?_ ?_
      · refine C.block ?_
        refine C.lp (fun k : Nat => [(0, .slice a n c), (3, .int .u32 (rbk l[i].toNat k s : Nat)), (4, .int .i64 i), (5, .int .i64 k)])
          (fun gk k w2 => w2 = w' ∧ gk = 8 - k ∧ k ≤ 8) 8 0 ⟨rfl, rfl, by omega⟩ ?_
        rintro gk2 k w2 ⟨rfl, hgk2, hk⟩
        have hs1 := rbk_lt (b := l[i].toNat) hlt0 k
        have hb := l[i].toNat_lt
        have hdiv : l[i].toNat / 2 ^ k ≤ 255 := Nat.le_trans (Nat.div_le_self _ _) (by omega)
        refine go ?_
        refine C.cond_dec (p := (k : Int) < 8) rfl (fun hlt => ?_) (fun hlt => ?_)
        rotate_left
        · refine go ?_
          have : k = 8 := by omega
          subst this
          exact A.mt (rbk l[i].toNat 8 s) ⟨rfl, rfl⟩
        · refine go ?_
          refine E.ixr el_u8 hp i (bs_get hin) ?_
          intro b6 o6 hc6
          refine go ?_
          have hmod : l[i].toNat / 2 ^ k % 4294967296 = l[i].toNat / 2 ^ k := Nat.mod_eq_of_lt (Nat.lt_of_le_of_lt hdiv (by decide))
          rw [hmod]
          have htop : rbk l[i].toNat k s / 2 ^ 31 < 4294967296 := by omega
          have h0 : rbk l[i].toNat (k + 1) s = rbit (rbk l[i].toNat k s) ((l[i].toNat / 2 ^ k) &&& 1) := rfl
          by_cases hbt : (l[i].toNat / 2 ^ k) &&& 1 = rbk l[i].toNat k s / 2 ^ 31
          · have hd : decide ((((l[i].toNat / 2 ^ k) &&& 1 : Nat) : Int) = ((rbk l[i].toNat k s / 2 ^ 31 : Nat) : Int)) = true := by simp only [decide_eq_true_eq, Int.natCast_inj]; exact hbt
            refine C.cond rfl (fun h => by rw [hd] at h; cases h) (fun _ => ?_)
            rw [rbit, if_pos hbt] at h0
            refine go ?_
            refine A.rd (8 - (k + 1)) (k + 1) ⟨rfl, rfl, by omega⟩ (hw := by rw [h0]; exact wk_)
          · have hd : decide ((((l[i].toNat / 2 ^ k) &&& 1 : Nat) : Int) = ((rbk l[i].toNat k s / 2 ^ 31 : Nat) : Int)) = false := by simp only [decide_eq_false_iff_not, Int.natCast_inj]; exact hbt
            refine C.cond rfl (fun _ => ?_) (fun h => by rw [hd] at h; cases h)
            rw [rbit, if_neg hbt] at h0
            have hm : rbk l[i].toNat k s * 2 ^ 1 % 2 ^ 32 < 4294967296 := by omega
            refine go ?_
            refine A.rd (8 - (k + 1)) (k + 1) ⟨rfl, rfl, by omega⟩ (hw := by rw [h0]; exact wk_)
      · rintro s' w2 ⟨rfl, rfl⟩
        refine go ?_
        exact A.rd (n - (i + 1)) (i + 1, rbk l[i].toNat 8 s) ⟨rfl, rfl, by simp only; omega, rbk_lt hlt0 8, hf⟩
  · rintro s w' ⟨rfl, rfl⟩
    have hrl := rfold_lt l
    refine gob ?_
    have hx : (2 ^ 32 - 1) ^^^ rfold l < 4294967296 := Nat.xor_lt_two_pow (n := 32) (by decide) hrl
    have ex : 2 ^ IntKind.u32.bits - 1 ^^^ rfold l = (2 ^ 32 - 1) ^^^ rfold l := rfl
    refine C.cutQ (fun _ : Unit => [(8, .int .u32 (rsum l : Nat))]) (fun _ w2 => w2 = w') ?_ ?_
    · rw [show rsum l = rvk ((2 ^ 32 - 1) ^^^ rfold l) 32 from rfl]
      refine C.block ?_
      refine C.lp (fun k : Nat => [(3, .int .u32 ((2 ^ 32 - 1) ^^^ rfold l : Nat)), (8, .int .u32 (rvk ((2 ^ 32 - 1) ^^^ rfold l) k : Nat)), (9, .int .i64 k)])
        (fun gk k w2 => w2 = w' ∧ gk = 32 - k ∧ k ≤ 32) 32 0 ⟨rfl, rfl, by omega⟩ ?_
      generalize (2 ^ 32 - 1) ^^^ rfold l = z at hx
      rintro gk2 k w2 ⟨rfl, hgk2, hk⟩
      have hz1 := rvk_lt z k
      have hz2 : z / 2 ^ k < 4294967296 := Nat.lt_of_le_of_lt (Nat.div_le_self _ _) hx
      have hz3 : rvk z k * 2 ^ 1 % 2 ^ 32 < 4294967296 := Nat.mod_lt _ (by decide)
      refine go ?_
      refine C.cond_dec (p := (k : Int) < 32) rfl (fun hlt => ?_) (fun hlt => ?_)
      · refine go ?_
        exact A.rd (32 - (k + 1)) (k + 1) ⟨rfl, rfl, by omega⟩
      · have : k = 32 := by omega
        subst this
        refine go ?_
        exact A.mt () rfl
    · rintro _ w2 rfl
      refine go ?_
      refine A.r1 ?_
      exact HR.out

/-! The two sums are one. -/
/-- Bits turned around. -/
def Rv (s r : Nat) : Prop := s < 4294967296 ∧ r < 4294967296 ∧ ∀ j, j < 32 → r.testBit j = s.testBit (31 - j)
theorem rv_poly : Rv 2197175160 517762881 := by
  refine ⟨by decide, by decide, ?_⟩
  have : ∀ j : Fin 32, Nat.testBit 517762881 j.val = Nat.testBit 2197175160 (31 - j.val) := by decide +kernel
  exact fun j hj => this ⟨j, hj⟩
theorem Rv.xor {s r s' r' : Nat} (h : Rv s r) (h' : Rv s' r') : Rv (s ^^^ s') (r ^^^ r') :=
  ⟨Nat.xor_lt_two_pow (n := 32) h.1 h'.1, Nat.xor_lt_two_pow (n := 32) h.2.1 h'.2.1, fun j hj => by rw [Nat.testBit_xor, Nat.testBit_xor, h.2.2 j hj, h'.2.2 j hj]⟩
theorem Rv.shift {s r : Nat} (h : Rv s r) : Rv (s / 2 ^ 1) (r * 2 ^ 1 % 2 ^ 32) := by
  obtain ⟨h1, h2, h3⟩ := h
  refine ⟨by omega, Nat.mod_lt _ (by decide), fun j hj => ?_⟩
  rw [Nat.testBit_mod_two_pow, Nat.testBit_mul_two_pow, Nat.testBit_div_two_pow]
  rcases Nat.eq_zero_or_pos j with rfl | hp
  · have : s.testBit (31 - 0 + 1) = false := Nat.testBit_lt_two_pow (by simpa using h1)
    rw [this]; simp
  · rw [show 31 - j + 1 = 31 - (j - 1) by omega, ← h3 (j - 1) (by omega)]
    have : 1 ≤ j := hp
    simp [hj, this]
theorem Rv.top {s r : Nat} (h : Rv s r) : r / 2 ^ 31 = s &&& 1 := by
  obtain ⟨h1, h2, h3⟩ := h
  have h0 := h3 31 (by decide)
  have e1 : r / 2 ^ 31 = (r.testBit 31).toNat := by
    rw [Nat.testBit_eq_decide_div_mod_eq]
    have : r / 2 ^ 31 < 2 := by omega
    rcases (show r / 2 ^ 31 = 0 ∨ r / 2 ^ 31 = 1 by omega) with h | h <;> rw [h] <;> rfl
  have e2 : s &&& 1 = (s.testBit 0).toNat := by
    rw [Nat.testBit_eq_decide_div_mod_eq, Nat.and_one_is_mod]
    rcases Nat.mod_two_eq_zero_or_one s with h | h <;> simp [h]
  rw [e1, e2, h0]
theorem crcBit_if (s : Nat) : crcBit s = if s &&& 1 = 1 then (s / 2 ^ 1) ^^^ 2197175160 else s / 2 ^ 1 := by
  unfold crcBit
  rcases (show s &&& 1 = 0 ∨ s &&& 1 = 1 by rw [Nat.and_one_is_mod]; omega) with h | h <;> simp [h]
/-- One bit: the byte's bit meets the lowest one here, the highest one there. -/
theorem rv_step {s r c : Nat} (h : Rv s r) (hc : c = 0 ∨ c = 1) : Rv (if (s &&& 1) ^^^ c = 1 then (s / 2 ^ 1) ^^^ 2197175160 else s / 2 ^ 1) (rbit r c) := by
  have ht := h.top
  unfold rbit
  rw [ht]
  have hs : s &&& 1 = 0 ∨ s &&& 1 = 1 := by rw [Nat.and_one_is_mod]; omega
  rcases hs with hs | hs <;> rcases hc with rfl | rfl <;> rw [hs] <;> simp only [Nat.reduceXor, Nat.zero_ne_one, Nat.one_ne_zero, if_true, if_false, Nat.xor_self, Nat.xor_zero, Nat.zero_xor]
  · exact h.shift
  · exact h.shift.xor rv_poly
  · exact h.shift.xor rv_poly
  · exact h.shift
/-- A byte, bit by bit. -/
def sbk (b : Nat) : Nat → Nat → Nat
  | 0, s => s
  | k + 1, s => if (sbk b k s &&& 1) ^^^ ((b / 2 ^ k) &&& 1) = 1 then (sbk b k s / 2 ^ 1) ^^^ 2197175160 else sbk b k s / 2 ^ 1
theorem rv_sbk {s r b : Nat} (h : Rv s r) : ∀ k, Rv (sbk b k s) (rbk b k r)
  | 0 => h
  | k + 1 => rv_step (rv_sbk h k) (by rw [Nat.and_one_is_mod]; omega)
theorem crcN_succ : ∀ (k s : Nat), crcN (k + 1) s = crcBit (crcN k s)
  | 0, _ => rfl
  | k + 1, s => by
    show crcN (k + 1) (crcBit s) = crcBit (crcN k (crcBit s))
    exact crcN_succ k (crcBit s)
theorem and_xor_one (a b : Nat) : (a ^^^ b) &&& 1 = (a &&& 1) ^^^ (b &&& 1) := by
  apply Nat.eq_of_testBit_eq
  intro i
  simp only [Nat.testBit_and, Nat.testBit_xor]
  cases a.testBit i <;> cases b.testBit i <;> cases Nat.testBit 1 i <;> rfl
theorem xor_div (a b k : Nat) : (a ^^^ b) / 2 ^ k = (a / 2 ^ k) ^^^ (b / 2 ^ k) := by
  apply Nat.eq_of_testBit_eq
  intro i
  simp only [Nat.testBit_div_two_pow, Nat.testBit_xor]
theorem crcN_sbk (b s : Nat) : ∀ k, crcN k (s ^^^ b) = sbk b k s ^^^ (b / 2 ^ k)
  | 0 => by simp [crcN, sbk]
  | k + 1 => by
    rw [crcN_succ, crcN_sbk b s k, crcBit_if, and_xor_one, xor_div, Nat.div_div_eq_div_mul, ← Nat.pow_add]
    simp only [sbk]
    split
    · rw [Nat.xor_assoc, Nat.xor_assoc, Nat.xor_comm (b / 2 ^ (k + 1))]
    · rfl
theorem crcByte_sbk (s : Nat) (b : UInt8) : crcByte s b = sbk b.toNat 8 s := by
  have hb := b.toNat_lt
  unfold crcByte
  rw [crcN_sbk, Nat.div_eq_of_lt (by omega), Nat.xor_zero]
theorem rv_fold : ∀ (l : List UInt8) (s r : Nat), Rv s r → Rv (l.foldl crcByte s) (l.foldl (fun s b => rbk b.toNat 8 s) r)
  | [], _, _, h => h
  | b :: l, s, r, h => by
    simp only [List.foldl_cons]
    rw [crcByte_sbk]
    exact rv_fold l _ _ (rv_sbk h 8)
theorem rv_ones : Rv 4294967295 4294967295 := by
  refine ⟨by decide, by decide, ?_⟩
  have : ∀ j : Fin 32, Nat.testBit 4294967295 j.val = Nat.testBit 4294967295 (31 - j.val) := by decide +kernel
  exact fun j hj => this ⟨j, hj⟩
theorem rvk_bit (s : Nat) : ∀ k, k ≤ 32 → ∀ j, (rvk s k).testBit j = (decide (j < k) && s.testBit (k - 1 - j))
  | 0, _, j => by simp [rvk]
  | k + 1, hk, j => by
    have e1 : ((s / 2 ^ k) &&& 1).testBit j = (decide (j = 0) && s.testBit k) := by
      rw [Nat.testBit_and, Nat.testBit_div_two_pow]
      rcases Nat.eq_zero_or_pos j with rfl | hp
      · simp
      · have : Nat.testBit 1 j = false := by
          rw [show (1 : Nat) = 2 ^ 0 from rfl, Nat.testBit_two_pow]; simp; omega
        rw [this]
        have : ¬ j = 0 := by omega
        simp [this]
    have e2 : (rvk s k * 2 ^ 1 % 2 ^ 32).testBit j = (decide (1 ≤ j ∧ j < k + 1) && s.testBit (k - j)) := by
      rw [Nat.testBit_mod_two_pow, Nat.testBit_mul_two_pow]
      by_cases h1 : 1 ≤ j
      · rw [rvk_bit s k (by omega) (j - 1)]
        by_cases h2 : j < k + 1
        · have h3 : j - 1 < k := by omega
          have h4 : j < 32 := by omega
          simp [h1, h2, h3, h4]
          congr 1
          omega
        · have h3 : ¬ j - 1 < k := by omega
          simp [h2, h3]
      · simp [h1]
    simp only [rvk, Nat.testBit_or, e1, e2]
    rcases Nat.eq_zero_or_pos j with rfl | hp
    · simp
    · have h0 : ¬ j = 0 := by omega
      have h1 : 1 ≤ j := hp
      simp [h0, h1, show k + 1 - 1 - j = k - j by omega]
theorem rsum_crc (l : List UInt8) : rsum l = crc l := by
  have h := rv_fold l _ _ rv_ones
  have h2 := Rv.xor rv_ones h
  apply Nat.eq_of_testBit_eq
  intro j
  unfold rsum
  rw [rvk_bit _ 32 (Nat.le_refl _) j]
  by_cases hj : j < 32
  · have := h2.2.2 (31 - j) (by omega)
    rw [show 31 - (31 - j) = j by omega] at this
    simp only [hj, decide_true, Bool.true_and]
    exact this
  · have : (crc l).testBit j = false := Nat.testBit_lt_two_pow (Nat.lt_of_lt_of_le (crc_lt l) (Nat.le_trans (by decide) (Nat.pow_le_pow_right (by decide) (show 32 ≤ j by omega))))
    simp [hj, this]

set_option maxHeartbeats 1600000 in
set_option maxRecDepth 100000 in
theorem rwrap_any {R : Ending → World → Prop} {W w : World} {g : Hl} {H : List HP} {a : Option Addr} {n c : Nat} {t : List UInt8} (hs : Sat W w g H) (hp : Pr 1 g (.slice a n c) n (bs t)) (ht : t.length = n) (hm : n ≤ 1000000000)
    (hR : ∀ a' c' w', Sat W w' g (own 5 1 (.slice a' (wrapB t).length c') (wrapB t).length (bs (wrapB t)) :: H) → R (.returned (.slice a' (wrapB t).length c')) w') :
    Calls Tryz.prog 22 #[.slice a n c] w R := by
  have HR := Lib.hid hR
  clear hR
  refine C.calls (args := [.slice a n c]) Tryz.func22 rfl rfl rfl ?_
  refine go ?_
  refine E.callf Tryz.func95 rfl ?_
  refine ?_
  refine C.calls (args := [.slice none 0 0, .slice a n c]) Tryz.func95 rfl rfl rfl ?_
  refine go ?_
  refine E.callf Tryz.func97 rfl ?_
  refine rlay_any (xs := []) (D := fun _ => True) hs (fun w' _ => Row.nil _ _) rfl (by decide) (by omega) ?_
  intro a1 c1 w1 hs
  simp only [List.nil_append] at hs ⊢
  have hten := layN_ten (n := n) (by omega)
  refine go ?_
  refine E.app el_u8 hs (hp.row hs) ?_
  intro a2 c2 w2 _ _ hs
  refine go ?_
  refine A.r1 ?_
  have e1 : bs (layN n) ++ bs t = bs (textB t) := by rw [← bs_append, textB, ht]
  have e2 : (layN n).length + n = (textB t).length := by rw [textB, List.length_append, ht]
  rw [e1, e2] at hs
  rw [e2]
  refine go ?_
  have hrow : Row 1 w2 (fun _ => True) (.slice a2 (textB t).length c2) (textB t).length (bs (textB t)) := Row.of_owns hs.owns (fun _ _ => trivial)
  refine E.callf Tryz.func96 rfl ?_
  refine rsum_any hrow rfl ?_
  rw [rsum_crc]
  have hc := crc_lt (textB t)
  generalize hcc : crc (textB t) = q at hc ⊢
  refine go ?_
  refine E.bsl hs ?_
  intro b3 w3 hs
  have htl := textB_len t (by omega)
  refine E.app el_u8 hs.swap (hs.rowOf (size := 1) 4 rfl (by decide)) ?_ (h1 := ?_)
  rotate_left
  · intro u hu
    simp only [List.mem_cons, List.not_mem_nil, or_false] at hu
    rcases hu with rfl | rfl | rfl | rfl <;> exact rfl
  intro a4 c4 w4 _ _ hs
  refine go ?_
  refine A.r1 ?_
  have key := HR.out a4 c4 w4
  have e3 : bs (wrapB t) = bs (textB t) ++ [.int .u8 ((q : Int) / 16777216), .int .u8 ((q : Int) / 65536 % 256), .int .u8 ((q : Int) / 256 % 256), .int .u8 ((q : Int) % 256)] := by
    rw [wrapB, hcc, bs_append, fourB]
    simp only [bs, List.map_cons, List.map_nil, UInt8.toNat_ofNat', List.append_cancel_left_eq, List.cons.injEq, Value.int.injEq, true_and, and_true]
    omega
  have e4 : (wrapB t).length = (textB t).length + 4 := by rw [wrapB, List.length_append, fourB]; rfl
  rw [e3, e4] at key
  exact key hs.swap.drop
end Go.Proofs.YtdkbpcibmipelaaGreatDoor

/-
  SegmentFills, walked.
-/
namespace Go.Proofs.YtdkbpcibmipelaaGreatDoor
open Go.RowKit
set_option linter.unusedVariables false
set_option linter.unusedSimpArgs false

set_option maxHeartbeats 6400000 in
set_option maxRecDepth 100000 in
theorem segFills_any {R : Ending → World → Prop} {W w : World} {g : Hl} {H : List HP} {wb fst n c : Nat} {a : Option Addr} {ps : List (Nat × Nat)} (hg : Gl g) (hwb : wb < 256) (hfst : fst < 18446744073709551616) (hp : Pr 2 g (.slice a n c) n (putC ps)) (hn : ps.length = n) (hps : ∀ p ∈ ps, p.1 < 256 ∧ p.2 < 256) (hs : Sat W w g H)
    (hR : ∀ w' g', Hl.le g g' → Sat W w' g' H → R (.returned (.bool true)) w') :
    Calls Tryz.prog 3 #[.int .u8 wb, .int .u64 fst, .slice a n c] w R := by
  have HR := Lib.hid hR
  clear hR
  have ag1 := ag_sg
  have ag3 := ag_title
  refine C.calls (args := [.int .u8 wb, .int .u64 fst, .slice a n c]) Tryz.func3 rfl rfl rfl ?_
  refine go ?_
  refine E.callf Tryz.func15 rfl ?_
  refine awake8_any hg hs ?_
  intro w1 hs
  refine go ?_
  cases h30 : decide ((30 : Int) < n) with
  | true =>
    refine go ?_
    refine E.callf Tryz.func15 rfl ?_
    refine awake8_any hg hs ?_
    intro w2 hs
    refine go ?_
    refine A.r1 ?_
    exact HR.out _ _ (Hl.le_refl _) hs
  | false =>
  have h30 := of_decide_eq_false h30
  refine go ?_
  have e1 : IntKind.i64.wrap ((wb : Int).tmod 64) = ((wb % 64 : Nat) : Int) := by
    rw [show (wb : Int).tmod 64 = ((wb % 64 : Nat) : Int) from (Int.ofNat_tmod wb 64).symm]
    exact wrap64_id (by omega) (by omega)
  rw [e1]
  clear e1
  have hi : wb % 64 < 64 := Nat.mod_lt _ (by decide)
  have hf0 : 1 ≤ 1 + fst % 1152921504606846976 := by omega
  have hf : 1 + fst % 1152921504606846976 ≤ 2000000000000000000 := by omega
  generalize wb % 64 = i at hi
  generalize 1 + fst % 1152921504606846976 = f at hf0 hf
  refine E.callf Tryz.func16 rfl ?_
  refine new_any (by omega) hs ?_
  intro b w2 hs
  refine go ?_
  refine E.callf Tryz.func17 rfl ?_
  refine fill8_any (i := i) (f := f) hg hi hf0 hf hp hn (by omega) hps ⟨rfl, by simp⟩ rfl rfl hs ?_
  intro s d w3 g3 hg3 hfull hs
  refine go ?_
  refine E.al hs ?_
  intro b9 w4 hs
  refine E.sto (vs := s.cs) (ys := s.cs) hs ?_ (hv := rfl) (hsp := rfl)
  intro w5 hs
  refine go ?_
  refine E.callf Tryz.func18 rfl ?_
  refine segName_any (hg.mono hg3) (by omega) (by omega) hs ?_
  intro w6 hs
  refine go ?_
  obtain ⟨q, hfsd⟩ := hfull.fs
  have hrd : d.read (nameB i f) = .ok (fileP ps i f n) := hfull.calm.read (f := ⟨fileP ps i f n, q⟩) (by rw [hfsd]; simp [aget])
  obtain ⟨hop, hmd⟩ := hfull.opn hi hf0 hf (by omega)
  refine E.callf Tryz.func19 rfl ?_
  refine read_any hs.swap ?_ ?_
  rotate_left
  · intro e w7 h
    rw [hrd] at h; cases h
  intro p pa pc w7 g7 hrp hpl hg7 hpp hs
  rw [hrd] at hrp
  obtain rfl : fileP ps i f n = p := by simpa using hrp
  clear hrp
  refine go ?_
  refine E.callf Tryz.func20 rfl ?_
  refine sgOpen_any (i := i) (n := f) (hg.mono (hg3.trans hg7)) hi (by omega) ?_ hs ?_ ?_
  · intro sh h
    rw [hmd] at h
    cases h
    refine ⟨?_, by simp [evL]; omega⟩
    intro x hx
    obtain ⟨e, he, rfl⟩ := List.mem_map.1 hx
    obtain ⟨k, hk, rfl⟩ := List.mem_map.1 he
    have := evK_len (ps := ps) hi hf (k := k) (by have := List.mem_range.1 hk; omega)
    omega
  · intro e w8 g8 _ h
    rw [hop] at h; cases h
  intro x sz er w8 g8 hg8 hox hxo hxr hs
  rw [hop] at hox hs
  simp only [Except.ok.injEq, Prod.mk.injEq] at hox
  obtain ⟨hox1, rfl, rfl⟩ := hox
  refine go ?_
  refine E.al hs ?_
  intro b14 w9 hs
  refine E.sto (vs := [.int .i64 i, .int .u64 f, .slice x.a x.es.length x.c, .int .i64 (fileP ps i f n).length]) (ys := [.int .i64 i, .int .u64 f, .slice x.a x.es.length x.c, .int .i64 (fileP ps i f n).length]) hs ?_ (hv := rfl) (hsp := rfl)
  intro w10 hs
  have hto : Ti.ok ⟨115, i, f⟩ := ⟨by simp only; omega, by simp only; omega⟩
  refine go ?_
  refine E.callf Tryz.func21 rfl ?_
  refine head_any (t := ⟨115, i, f⟩) hs hto ?_
  intro ah ch w11 g11 hg11 hs
  have hs0 := hs
  clear hs
  have hzero : fileP ps i f 0 = headB ⟨115, i, f⟩ := by simp [fileP, evL, catB]
  rw [← hzero] at hs0 ⊢
  clear hzero
  refine gob ?_
  refine C.cut (fun q : Option Addr × Nat => [(1, .int .u64 f), (2, .slice a n c), (7, .int .i64 i), (9, ptr b9), (12, .slice pa (fileP ps i f n).length pc), (14, ptr b14), (15, .int .i64 0), (16, .slice q.1 (fileP ps i f n).length q.2)]) (fun q w => ∃ g', Hl.le g8 g' ∧ Sat W w g' (own 5 1 (.slice q.1 (fileP ps i f n).length q.2) (fileP ps i f n).length (bs (fileP ps i f n)) :: blk b14 [.int .i64 i, .int .u64 f, .slice x.a x.es.length x.c, .int .i64 (fileP ps i f n).length] 29 :: disk b d :: blk b9 s.cs 29 :: H)) ?_ ?_
  · refine C.block ?_
    refine C.lp (fun q : Nat × Option Addr × Nat => [(1, .int .u64 f), (2, .slice a n c), (7, .int .i64 i), (9, ptr b9), (12, .slice pa (fileP ps i f n).length pc), (14, ptr b14), (15, .int .i64 0), (16, .slice q.2.1 (fileP ps i f q.1).length q.2.2), (17, .int .i64 q.1)])
      (fun gk q w => gk = n - q.1 ∧ q.1 ≤ n ∧ ∃ g', Hl.le g8 g' ∧ Sat W w g' (own 5 1 (.slice q.2.1 (fileP ps i f q.1).length q.2.2) (fileP ps i f q.1).length (bs (fileP ps i f q.1)) :: blk b14 [.int .i64 i, .int .u64 f, .slice x.a x.es.length x.c, .int .i64 (fileP ps i f n).length] 29 :: disk b d :: blk b9 s.cs 29 :: H)) n (0, ah, ch) ⟨rfl, Nat.zero_le _, g11, hg11, hs0⟩ ?_
    clear hs0
    rintro gk ⟨j, a4, c4⟩ w12 ⟨rfl, hj, g12, hg12, hs⟩
    simp only at hj hs ⊢
    refine go ?_
    refine C.cond_dec (p := (j : Int) < n) rfl (fun h => ?_) (fun h => ?_)
    rotate_left
    · obtain rfl : j = n := by omega
      refine go ?_
      exact A.mt (a4, c4) ⟨g12, hg12, hs⟩
    have hjn : j < n := by omega
    have hps' := hps (ps[j]'(by omega)) (List.getElem_mem _)
    have hgd : ps.getD j (0, 0) = ps[j]'(by omega) := by simp [List.getD_eq_getElem?_getD, List.getElem?_eq_getElem (show j < ps.length by omega)]
    rw [← hgd] at hps'
    clear hgd
    have hry := hp.mono (hg3.trans (hg7.trans (hg8.trans hg12)))
    have hfl := fileP_len (ps := ps) hi hf j (by omega)
    have hel := evK_len (ps := ps) hi hf (k := j) (by omega)
    have hwl := wrapB_len (evK ps i f j).enc (by omega)
    refine go ?_
    refine E.ixs el_put hs hry j ?_
    intro b15 o15 hrg
    rw [putC_at (by omega)] at hrg
    refine E.ldr hrg ag_put rfl ?_
    refine go ?_
    refine E.callf Tryz.func24 rfl ?_
    refine event8_any (K := (ps.getD j (0, 0)).1) (T := (ps.getD j (0, 0)).2) (i := i) (sq := f + j) (tm := j + 1) hi hps'.1 hps'.2 (by omega) (by omega) hs ?_
    intro tv w13 g13 hg13 heo hs
    refine go ?_
    refine E.callf Tryz.func23 rfl ?_
    refine rencode_any heo (by simp [evP]) (by simp only [evP]; omega) (fun h => by simp only [evP] at h; omega) hs ?_
    intro a15 c15 w14 g14 hg14 hs
    obtain ⟨g15, hg15, hp15, hs⟩ := hs.publishOwn
    have hp15 : Pr 1 g15 (.slice a15 (evK ps i f j).enc.length c15) (evK ps i f j).enc.length (bs (evK ps i f j).enc) := hp15
    refine go ?_
    refine E.callf Tryz.func22 rfl ?_
    refine rwrap_any (t := (evK ps i f j).enc) hs hp15 rfl (show (evK ps i f j).enc.length ≤ 1000000000 by omega) ?_
    intro a16 c16 w15 hs
    obtain ⟨g16, hg16, hp16, hs⟩ := hs.publishOwn
    refine go ?_
    apply E.cons
    apply St.append el_u8 hs (hp16.row hs) (bs_one _) (by omega) (by omega)
    · exact rfl
    · exact rfl
    intro a17 c17 w16 _ _ hs
    refine go ?_
    have e1 : (fileP ps i f j).length + (wrapB (evK ps i f j).enc).length = (fileP ps i f (j + 1)).length := by rw [fileP_succ, List.length_append]
    have e2 : bs (fileP ps i f j) ++ bs (wrapB (evK ps i f j).enc) = bs (fileP ps i f (j + 1)) := by rw [fileP_succ]; simp [bs]
    rw [e1, e2] at hs
    rw [e1]
    exact A.rd (n - (j + 1)) (j + 1, a17, c17) ⟨rfl, by simp only; omega, g16, hg12.trans (hg13.trans (hg14.trans (hg15.trans hg16))), hs⟩
  clear hs0
  rintro ⟨a4, c4⟩ w20 ⟨g20, hg20, hs⟩
  simp only at hs ⊢
  refine go ?_
  have hxs := hfull.x
  have hsl := hfull.len
  have hxl : x.es.length = n := by
    have := congrArg List.length hox1
    simp [evL] at this
    exact this.symm
  obtain ⟨g21, hg21, hp21, hs⟩ := hs.publishOwn
  have hraw : s.x.es.map Ev.raw = x.es.map Ev.raw := by rw [hfull.es]; exact hox1
  have hsame : sameE s.x.es x.es = true := by
    have h1 : ∀ e : Ev, e.enc = (e.raw.ev (.slice none 0 0)).enc := fun e => rfl
    have h2 : ∀ l : List Ev, l.map Ev.enc = (l.map Ev.raw).map (fun p => (p.ev (.slice none 0 0)).enc) := fun l => by
      rw [List.map_map]; rfl
    simp only [sameE, decide_eq_true_eq]
    rw [h2, h2 x.es, hraw]
  have hfit : ∀ y : El, y.ok g21 → y.es.map Ev.raw = (evL ps i f n).map Ev.ep → ∀ e ∈ y.es, e.fit := by
    intro y hy hyr e he
    have hm : e.raw ∈ (evL ps i f n).map Ev.ep := by rw [← hyr]; exact List.mem_map_of_mem he
    obtain ⟨e2, he2, heq⟩ := List.mem_map.1 hm
    obtain ⟨k, hk, rfl⟩ := List.mem_map.1 he2
    have hkd : e.kd = 1 + (ps.getD k (0, 0)).1 % 4 := by
      have := congrArg Ep.kd heq
      exact this.symm
    have hlow := (hy.evs e he).2
    exact ⟨hlow.1, by omega, fun h => by omega⟩
  have hxs' := hxs.mono (hg7.trans (hg8.trans (hg20.trans hg21)))
  have hxo' := hxo.mono (hg20.trans hg21)
  refine E.callf Tryz.func25 rfl ?_
  refine sameAll_any (x := s.x) (y := x) hxs' hxo' (hfit _ hxs' hfull.es) (hfit _ hxo' hox1.symm) (by omega) (by omega) hs ?_
  intro w21 g22 hg22 hs
  rw [hsame]
  refine go ?_
  rw [show decide ((s.x.es.length : Int) = n) = true from decide_eq_true (by omega)]
  refine go ?_
  rw [show decide ((s.size : Int) = ((fileP ps i f n).length : Nat)) = true from decide_eq_true (by rw [hfull.size])]
  refine go ?_
  rw [show decide (((fileP ps i f n).length : Int) = ((fileP ps i f n).length : Nat)) = true from decide_eq_true rfl]
  refine go ?_
  refine E.strc (bl := fileP ps i f n) ((hpp.mono (hg8.trans (hg20.trans (hg21.trans hg22)))).row hs) Tryz.underlying33 Tryz.underlying5 Tryz.underlying9 ?_
  refine go ?_
  refine E.strc (bl := fileP ps i f n) ((hp21.mono hg22).row hs) Tryz.underlying33 Tryz.underlying5 Tryz.underlying9 ?_
  refine go ?_
  rw [show decide (fileP ps i f n = fileP ps i f n) = true from decide_eq_true rfl]
  refine go ?_
  refine E.callf Tryz.func26 rfl ?_
  refine sgNext_any (s := s) (by rw [hfull.first]; omega) (by omega) hs ?_
  intro w22 hs
  have hnx : s.next = f + n := by
    simp only [Sg.next, hfull.first, hsl]; omega
  rw [hnx]
  refine go ?_
  rw [show decide (((f + n : Nat) : Int) = ((f + n : Nat) : Int)) = true from decide_eq_true rfl]
  refine go ?_
  rw [show decide ((f : Int) = (f : Int)) = true from decide_eq_true rfl]
  refine go ?_
  rw [show decide ((i : Int) = (i : Int)) = true from decide_eq_true rfl]
  refine A.r1 ?_
  exact HR.out _ g22 (hg3.trans (hg7.trans (hg8.trans (hg20.trans (hg21.trans hg22))))) hs.drop.drop.drop
end Go.Proofs.YtdkbpcibmipelaaGreatDoor

/-
  What came in: bytes, rows of bytes; and how much it is.
-/
namespace Go.Proofs.YtdkbpcibmipelaaGreatDoor
open Go.RowKit Go.ChangeShapes Go.WideShapes
set_option linter.unusedVariables false
set_option linter.unusedSimpArgs false

theorem bulk_one {H : Type} (d : DataW H) : 1 ≤ Rows.uptoBulk d := by
  cases d with
  | lit l => cases l <;> simp [Rows.uptoBulk]
  | nil => simp [Rows.uptoBulk]
  | ptr d => simp [Rows.uptoBulk]
  | slice elems spare => simp [Rows.uptoBulk]
  | agg parts => simp [Rows.uptoBulk]
  | iface t d => simp [Rows.uptoBulk]
  | map entries => simp [Rows.uptoBulk]
  | held h => simp [Rows.uptoBulk]
theorem bulk_all {H : Type} : ∀ (l : List (DataW H)), Rows.uptoBulkAll l = (l.map Rows.uptoBulk).sum
  | [] => by simp [Rows.uptoBulkAll]
  | x :: r => by simp [Rows.uptoBulkAll, bulk_all r]
theorem bulk_slice {H : Type} (a b : List (DataW H)) : Rows.uptoBulk (.slice a b) = (a.map Rows.uptoBulk).sum + (b.map Rows.uptoBulk).sum + 1 := by
  simp only [Rows.uptoBulk, bulk_all]
  try omega
theorem sum_ge {H : Type} (l : List (DataW H)) : l.length ≤ (l.map Rows.uptoBulk).sum := by
  induction l with
  | nil => simp
  | cons x r ih => have := bulk_one x; simp only [List.map_cons, List.sum_cons, List.length_cons]; omega

section
variable {H : Type} {enc : TypeId × Value → H} {P : Program} {w : World} {base : Nat} {held : Bool}
/-- The world's own blocks as a pool. -/
abbrev hp (w : World) : Hl := fun b => w.heap[b]?

theorem in_bytes {t e : TypeId} {fuel : Nat} {cs : List Value} {x : DataW H × List MemPlace} (ht : P.underlying t = some (.slice e)) (he : P.underlying e = some (.int .u8)) (hc : P.cellsOf e = 1)
    (h : DataW.trod enc P w base (fun _ => true) held fuel t cs = some x) : ∃ a n c, ∃ l : List UInt8, cs = [.slice a n c] ∧ l.length = n ∧ Pr 1 (hp w) (.slice a n c) n (bs l) ∧ l.length + 1 ≤ Rows.uptoBulk x.1 := by
  rcases open_ints ht he hc h with ⟨rfl, rfl⟩ | ⟨a, len, cap, zs, rfl, _, hl, hm, hz, rfl, hcell, hw⟩
  · exact ⟨none, 0, 0, [], rfl, rfl, Pr.nil, by simp [Rows.uptoBulk]⟩
  · simp only [if_true] at hz
    obtain ⟨l, h1, h2⟩ := pr_bytes (w := w) (a := some a) (len := len) (cap := cap) (zs := zs) (.inr ⟨a, rfl, hl, hm, hz, hcell, hw⟩)
    refine ⟨some a, len, cap, l, rfl, h1, h2, ?_⟩
    rw [bulk_slice]
    have := sum_ge (H := H) (lits .u8 (zs.take len))
    have hlen : (lits (H := H) .u8 (zs.take len)).length = len := by simp [lits, hz]; omega
    omega

theorem pr_cells {x : Addr} {len cap : Nat} {xs : List Value} (hl : len ≤ cap) (hm : cap ≤ maxLen) (hx : xs.length = len) (hc : ∀ i, i < len → w.cell? (x.add i) = xs[i]?) : Pr 1 (hp w) (.slice (some x) len cap) len xs := by
  refine ⟨by simp [hx], _, cap, rfl, hl, hm, fun e => by simp at e, ?_⟩
  rcases Nat.eq_zero_or_pos len with h0 | h0
  · exact .inl h0
  · obtain ⟨b, o, sp⟩ := x
    have c0 := hc 0 h0
    rw [List.getElem?_eq_getElem (by omega)] at c0
    simp only [Addr.add, if_true] at c0
    have hsp : sp = none := by simpa using World.cell?_spot c0
    subst hsp
    unfold World.cell? at c0
    simp only at c0
    cases hb : w.heap[b]? with
    | none => rw [hb] at c0; simp at c0
    | some ob =>
      cases ob with
      | cells cur e fz =>
        refine .inr ⟨b, o, cur, e, fz, rfl, hb, ?_⟩
        apply List.ext_getElem?
        intro j
        rw [List.getElem?_take, Nat.mul_one]
        by_cases hj : j < len
        · rw [if_pos hj]
          have cj := hc j hj
          rw [Addr.add_lit] at cj
          simp only [World.cell?, hb] at cj
          simp at cj
          rw [List.getElem?_drop, Array.getElem?_toList, cj]
        · rw [if_neg hj, List.getElem?_eq_none (by omega)]
      | _ => rw [hb] at c0; simp at c0

theorem choose_list {α : Type} : ∀ (n : Nat) {Q : Nat → α → Prop}, (∀ i, i < n → ∃ p, Q i p) → ∃ ps : List α, ps.length = n ∧ ∀ i (h : i < ps.length), Q i ps[i]
  | 0, _, _ => ⟨[], rfl, fun i h => by simp at h⟩
  | n + 1, Q, h => by
    obtain ⟨ps, h1, h2⟩ := choose_list n (Q := Q) fun i hi => h i (by omega)
    obtain ⟨p, hp⟩ := h n (by omega)
    refine ⟨ps ++ [p], by simp [h1], fun i hi => ?_⟩
    by_cases hin : i < ps.length
    · rw [List.getElem_append_left hin]; exact h2 i hin
    · have : i = n := by simp at hi; omega
      subst this
      rw [List.getElem_append_right (by omega)]
      simpa [h1] using hp
theorem sum_le_sum {α β : Type} (f : α → Nat) (g : β → Nat) : ∀ (l : List α) (m : List β), l.length = m.length → (∀ i (h : i < l.length) (h' : i < m.length), f l[i] ≤ g m[i]) → (l.map f).sum ≤ (m.map g).sum
  | [], [], _, _ => by simp
  | [], _ :: _, h, _ => by simp at h
  | _ :: _, [], h, _ => by simp at h
  | a :: l, b :: m, h, hi => by
    have h0 := hi 0 (by simp) (by simp)
    have ih := sum_le_sum f g l m (by simpa using h) fun i h1 h2 => by
      have := hi (i + 1) (by simpa using h1) (by simpa using h2)
      simpa using this
    simp only [List.map_cons, List.sum_cons]
    simp only [List.getElem_cons_zero] at h0
    omega
end

end Go.Proofs.YtdkbpcibmipelaaGreatDoor

/-
  What came in, layer 8: the small events.
-/
namespace Go.Proofs.YtdkbpcibmipelaaGreatDoor
open Go.RowKit Go.ChangeShapes Go.WideShapes
set_option linter.unusedVariables false
set_option linter.unusedSimpArgs false
section
variable {H : Type} {enc : TypeId × Value → H} {w : World} {base : Nat} {held : Bool}
theorem pr_cellss {x : Addr} {len cap : Nat} {xs : List Value} (hl : len ≤ cap) (hm : cap ≤ maxLen) {s : Nat} (hs0 : 0 < s) (hx : xs.length = len * s) (hc : ∀ i, i < len * s → w.cell? (x.add i) = xs[i]?) : Pr s (hp w) (.slice (some x) len cap) len xs := by
  refine ⟨hx, _, cap, rfl, hl, hm, fun e => by simp at e, ?_⟩
  rcases Nat.eq_zero_or_pos (len * s) with h0 | h0
  · exact .inl ((Nat.mul_eq_zero.1 h0).resolve_right (by omega))
  · obtain ⟨b, o, sp⟩ := x
    have c0 := hc 0 h0
    rw [List.getElem?_eq_getElem (by omega)] at c0
    simp only [Addr.add, if_true] at c0
    have hsp : sp = none := by simpa using World.cell?_spot c0
    subst hsp
    unfold World.cell? at c0
    simp only at c0
    cases hb : w.heap[b]? with
    | none => rw [hb] at c0; simp at c0
    | some ob =>
      cases ob with
      | cells cur e fz =>
        refine .inr ⟨b, o, cur, e, fz, rfl, hb, ?_⟩
        apply List.ext_getElem?
        intro j
        rw [List.getElem?_take]
        by_cases hj : j < len * s
        · rw [if_pos hj]
          have cj := hc j hj
          rw [Addr.add_lit] at cj
          simp only [World.cell?, hb] at cj
          simp at cj
          rw [List.getElem?_drop, Array.getElem?_toList, cj]
        · rw [if_neg hj, List.getElem?_eq_none (by omega)]
      | _ => rw [hb] at c0; simp at c0

theorem putC_len (ps : List (Nat × Nat)) : (putC ps).length = ps.length * 2 := by
  induction ps with
  | nil => rfl
  | cons p r ih => simp only [putC, List.flatMap_cons, List.length_append, List.length_cons, List.length_nil] at ih ⊢; omega
theorem putC_get {ps : List (Nat × Nat)} {i : Nat} (h : i < ps.length) : (putC ps)[i * 2]? = some (.int .u8 ps[i].1) ∧ (putC ps)[i * 2 + 1]? = some (.int .u8 ps[i].2) := by
  have hg : ps.getD i (0, 0) = ps[i] := by simp [List.getD_eq_getElem?_getD, List.getElem?_eq_getElem h]
  have h1 := putC_at h
  rw [hg] at h1
  have h2 := congrArg (fun l => l[0]?) h1
  have h3 := congrArg (fun l => l[1]?) h1
  simp only [List.getElem?_take, List.getElem?_drop] at h2 h3
  exact ⟨by simpa using h2, by simpa using h3⟩
set_option maxRecDepth 100000 in
theorem in_puts {fuel : Nat} {cs : List Value} {x : DataW H × List MemPlace} (h : DataW.trod enc Tryz.prog w base (fun _ => true) held fuel 23 cs = some x) :
    ∃ a n c ps, cs = [.slice a n c] ∧ ps.length = n ∧ (∀ p ∈ ps, p.1 < 256 ∧ p.2 < 256) ∧ Pr 2 (hp w) (.slice a n c) n (putC ps) := by
  have hc : Program.cellsOf Tryz.prog 49 = 2 := by kernel_rfl
  have hc1 : Program.cellsOf Tryz.prog 5 = 1 := by kernel_rfl
  rcases DataW.trod_slice Tryz.underlying23 h with ⟨rfl, rfl⟩ | ⟨a, len, cap, elems, rest, n, _, rfl, rfl, hb, hl, hm, hlen, hel, hsp, _⟩
  · exact ⟨none, 0, 0, [], rfl, rfl, fun p hp => (by cases hp), Pr.nil⟩
  · have each : ∀ i, i < len → ∃ p : Nat × Nat, (p.1 < 256 ∧ p.2 < 256) ∧ w.cell? ((a.add (i * 2)).add 0) = some (.int .u8 p.1) ∧ w.cell? ((a.add (i * 2)).add 1) = some (.int .u8 p.2) := by
      intro i hi
      have h1 := hel i hi
      rw [hc, List.getElem?_eq_getElem (by omega), Option.bind_eq_some_iff] at h1
      obtain ⟨cs', hcs, hy⟩ := h1
      obtain ⟨_, hl2, hcell⟩ := World.cells?_some hcs
      obtain ⟨y0, y1, m, _, _, g0, g1⟩ := trod_struct2 Tryz.underlying49 hy
      simp only [hc1] at g0 g1
      obtain ⟨k0, e0, _, w0⟩ := DataW.trod_int Tryz.underlying5 g0
      obtain ⟨k1, e1, _, w1⟩ := DataW.trod_int Tryz.underlying5 g1
      simp [Lit.wf, IntKind.min, IntKind.max, IntKind.signed, IntKind.bits] at w0 w1
      match cs', hl2 with
      | [c0, c1], _ =>
        simp at e0 e1
        subst e0 e1
        refine ⟨(k0.toNat, k1.toNat), ⟨by simp only; omega, by simp only; omega⟩, ?_, ?_⟩
        · rw [hcell 0 (by omega)]
          simp only [List.getElem?_cons_zero]
          rw [Int.toNat_of_nonneg w0.1]
        · rw [hcell 1 (by omega)]
          simp only [List.getElem?_cons_succ, List.getElem?_cons_zero]
          rw [Int.toNat_of_nonneg w1.1]
    obtain ⟨ps, h1, h2⟩ := choose_list len each
    refine ⟨some a, len, cap, ps, rfl, h1, fun p hp => ?_, pr_cellss hl hm (by decide) (by rw [putC_len, h1]) fun i hi => ?_⟩
    · obtain ⟨i, hi, rfl⟩ := List.mem_iff_getElem.1 hp
      exact (h2 i hi).1
    · have hlt : i / 2 < ps.length := by omega
      obtain ⟨_, q0, q1⟩ := h2 (i / 2) hlt
      obtain ⟨r0, r1⟩ := putC_get hlt
      rw [Addr.add_add] at q0 q1
      rcases Nat.mod_two_eq_zero_or_one i with hm2 | hm2
      · have e : i = i / 2 * 2 := by omega
        rw [e, r0, ← q0]
        try simp
      · have e : i = i / 2 * 2 + 1 := by omega
        rw [e, r1, ← q1]
        try simp
end
end Go.Proofs.YtdkbpcibmipelaaGreatDoor

/-
  What the laid variables give.
-/
namespace Go.Proofs.YtdkbpcibmipelaaGreatDoor
open Go.RowKit Go.ChangeShapes Go.WideShapes
set_option linter.unusedVariables false
set_option maxRecDepth 100000 in
theorem gl_of {W : World} (h : laidMetH Tryz.prog Rows.segmentFillsRow.laid W) : Gl (hp W) := by
  rw [MakeChecks.laidMetH_plain _ _ _ (by kernel_rfl)] at h
  obtain ⟨ps, ⟨g0, t0, cs0, f0, p0, q0, hg0, ht0, hv0, hd0, ⟨g1, t1, cs1, f1, p1, q1, hg1, ht1, hv1, hd1, _⟩, _⟩, _, _⟩ := h
  clear hd0 hv0 ht0 hg0
  have gN : Program.globalNamed Tryz.prog "math/bits.deBruijn64tab" = some 6 := by kernel_rfl
  have tN : (Tryz.prog.globals[6]?).map (·.type) = some 371 := by kernel_rfl
  obtain rfl := Option.some.inj (gN.symm.trans hg1)
  obtain rfl := Option.some.inj (tN.symm.trans ht1)
  obtain ⟨xs, m1, rfl, hx1, hlen, hn3, hel⟩ := DataW.trod_array Tryz.underlying371 hd1
  have h15 := hel 15 (by decide)
  have hc1 : Program.cellsOf Tryz.prog 5 = 1 := by kernel_rfl
  rw [hc1, List.getElem?_eq_getElem (by omega)] at h15
  obtain ⟨k, e1, e2, _⟩ := DataW.trod_int Tryz.underlying5 h15
  have hy : (xs[15]'(by omega)).1 = DataW.lit (.int .u8 4) := by
    have h1 := congrArg (fun d : DataW Unit => match d with | .agg l => l[15]? | _ => none) (congrArg Prod.fst hx1)
    simp only [List.getElem?_map, List.getElem?_eq_getElem (show 15 < xs.length by omega), Option.map_some] at h1
    exact (Option.some.inj (h1.symm.trans rfl))
  have hk : k = 4 := by
    rw [e2] at hy
    simpa using hy
  subst hk
  refine ⟨GlC.of ?_⟩
  rw [World.var?_cell hg1 hv1 15]
  have h2 := congrArg (fun l => l[0]?) e1
  simp only [List.getElem?_take, List.getElem?_drop] at h2
  simpa using h2
end Go.Proofs.YtdkbpcibmipelaaGreatDoor

/-
  Layer 8 (segment): what is opened is never too much; Open of any disk.
-/
namespace Go.Proofs.YtdkbpcibmipelaaGreatDoor
open Go.RowKit
set_option linter.unusedVariables false
set_option linter.unusedSimpArgs false

theorem openB_few {l : List UInt8} {most k v : Nat} (h : openB l most = .ok (k, v)) : v ≤ most ∧ k + v + 4 ≤ l.length := by
  unfold openB at h
  generalize takeGo 0 0 l = q at h
  obtain ⟨v', k', e⟩ := q
  simp only at h
  split at h
  · cases h
  split at h
  · cases h
  split at h
  · cases h
  split at h
  · cases h
  split at h
  · simp only [Except.ok.injEq, Prod.mk.injEq] at h
    obtain ⟨rfl, rfl⟩ := h
    omega
  · cases h
theorem allB_few (most : Nat) : ∀ (fuel : Nat) (l : List UInt8), (∀ p ∈ (allB most fuel l).1, p.length ≤ most) ∧ (allB most fuel l).1.length ≤ l.length
  | 0, l => by simp [allB]
  | fuel + 1, l => by
    rw [allB]
    split
    · simp
    · cases ho : openB l most with
      | error e => simp
      | ok q =>
        obtain ⟨k, v⟩ := q
        obtain ⟨h1, h2⟩ := openB_few ho
        obtain ⟨h3, h4⟩ := allB_few most fuel (l.drop (k + v + 4))
        rw [List.length_drop] at h4
        refine ⟨?_, ?_⟩
        · intro p hp
          simp only [List.mem_cons] at hp
          rcases hp with rfl | hp
          · rw [List.length_take]; omega
          · exact h3 p hp
        · simp only [List.length_cons]
          omega
theorem scanB_few {l : List UInt8} {s : Sh} (h : scanB l = .ok s) : (∀ p ∈ s.l, p.length ≤ 2097152) ∧ s.l.length ≤ l.length := by
  unfold scanB at h
  cases ho : openB l 2097152 with
  | error e => rw [ho] at h; cases h
  | ok q =>
    obtain ⟨k, v⟩ := q
    rw [ho] at h
    simp only at h
    split at h
    · cases h
    · simp only [Except.ok.injEq] at h
      subst h
      obtain ⟨h3, h4⟩ := allB_few 2097152 ((l.drop (k + v + 4)).length + 1) (l.drop (k + v + 4))
      refine ⟨h3, ?_⟩
      rw [List.length_drop] at h4
      simp only [allC, List.length_drop] at h4 ⊢
      omega
theorem aget_tk {name : List UInt8} {f : Fl} : ∀ {fs : List (List UInt8 × Fl)}, aget name fs = some f → f.p.length ≤ tk fs
  | [], h => by cases h
  | (a, u) :: r, h => by
    simp only [aget] at h
    simp only [tk, List.map_cons, List.sum_cons]
    split at h
    · simp only [Option.some.injEq] at h
      subst h
      omega
    · have := aget_tk h
      simp only [tk] at this
      omega
theorem mend_few {d : Dk} (hd : d.ok) {name : List UInt8} {s : Sh} (h : (d.mend name).1 = .ok s) : (∀ p ∈ s.l, p.length ≤ 2097152) ∧ s.l.length ≤ 1000000000 := by
  have key : ∀ s, d.sheet name = .ok s → (∀ p ∈ s.l, p.length ≤ 2097152) ∧ s.l.length ≤ 1000000000 := by
    intro s hs
    unfold Dk.sheet Dk.read at hs
    split at hs
    · rename_i h1
      cases hs
    · rename_i p h1
      split at h1
      · cases h1
      · split at h1
        · cases h1
        · rename_i f hf
          simp only [Except.ok.injEq] at h1
          subst h1
          obtain ⟨h2, h3⟩ := scanB_few hs
          have := aget_tk hf
          have := hd.total
          exact ⟨h2, by omega⟩
  unfold Dk.mend at h
  cases hs : d.sheet name with
  | error e => rw [hs] at h; cases h
  | ok s' =>
    have hk := key s' hs
    rw [hs] at h
    simp only at h
    split at h
    · cases h
      exact hk
    · split at h
      · cases h
        exact hk
      · cases h
theorem disk_ok {W w : World} {g : Hl} {H : List HP} {b : Nat} {d : Dk} (hs : Sat W w g (disk b d :: H)) : d.ok := by
  obtain ⟨_, _, _, h, _⟩ := disk_open hs
  exact h
theorem sgOpen_all {R : Ending → World → Prop} {W w : World} {g : Hl} {H : List HP} {b : Nat} {d : Dk} {i n : Nat} (hg : Gl g) (hi : i < 64) (hn : n < 18446744073709551616) (hs : Sat W w g (disk b d :: H))
    (hE : ∀ e w' g', Hl.le g g' → (d.opn i n).1 = .error e → e ≠ 0 → Sat W w' g' (disk b (d.opn i n).2 :: H) → R (.returned (.tuple #[noSg, .int .i64 e])) w')
    (hOK : ∀ x sz er w' g', Hl.le g g' → (d.opn i n).1 = .ok (x.es.map Ev.raw, sz, er) → El.ok x g' → (∀ e ∈ x.es, e.right = 0) → Sat W w' g' (disk b (d.opn i n).2 :: H) → R (.returned (.tuple #[Sg.val ⟨i, n, x, sz⟩, .int .i64 er])) w') :
    Calls Tryz.prog 20 #[ptr b, str (nameB i n)] w R :=
  sgOpen_any hg hi hn (fun s h => mend_few (disk_ok hs) h) hs hE hOK
end Go.Proofs.YtdkbpcibmipelaaGreatDoor

/-
  Rows of one's own that begin behind the first place of their array: they grow, are cut from the front, written in place.
-/
namespace Go.Proofs.YtdkbpcibmipelaaGreatDoor
open Go.RowKit
set_option linter.unusedVariables false
set_option linter.unusedSimpArgs false
set_option linter.unusedSectionVars false

def ownoP (E : TypeId) (size : Nat) (v : Value) (n : Nat) (xs : List Value) (h : Hl) : Prop :=
  xs.length = n * size ∧ ((v = .slice none 0 0 ∧ n = 0 ∧ h = Hl.emp) ∨
    ∃ (b off cap : Nat) (cur : List Value), v = .slice (some ⟨b, off, none⟩) n cap ∧ n ≤ cap ∧ cap ≤ 9223372036854775807 ∧ off + cap * size ≤ cur.length ∧ (cur.drop off).take (n * size) = xs ∧ h = Hl.one b (.cells cur.toArray E (0, 0)))
def owno (E : TypeId) (size : Nat) (v : Value) (n : Nat) (xs : List Value) : HP := ⟨fun _ h => ownoP E size v n xs h, fun _ _ _ _ h => h⟩

theorem spl_mid : ∀ (vs pre xs post : List Value), xs.length = vs.length → spl (pre ++ xs ++ post) pre.length vs = pre ++ vs ++ post
  | [], pre, xs, post, h => by
    obtain rfl : xs = [] := List.eq_nil_of_length_eq_zero (by simpa using h)
    rfl
  | v :: vs, pre, x :: xs, post, h => by
    have e : (pre ++ (x :: xs) ++ post).set pre.length v = (pre ++ [v]) ++ xs ++ post := by
      rw [List.append_assoc, List.set_append, if_neg (by omega), Nat.sub_self]
      simp
    have e2 : pre.length + 1 = (pre ++ [v]).length := by simp
    show spl ((pre ++ (x :: xs) ++ post).set pre.length v) (pre.length + 1) vs = _
    rw [e, e2, spl_mid vs (pre ++ [v]) xs post (by simpa using h)]
    simp
theorem spl_len : ∀ (vs xs : List Value) (j : Nat), (spl xs j vs).length = xs.length
  | [], _, _ => rfl
  | v :: vs, xs, j => by
    show (spl (xs.set j v) (j + 1) vs).length = _
    rw [spl_len vs, List.length_set]

namespace Sat
variable {W w w' : World} {g g' : Hl} {H H' : List HP} {E : TypeId} {size : Nat} {v : Value} {n c : Nat} {xs : List Value} {a : Option Addr}
theorem onil (hs : Sat W w g H) : Sat W w g (owno E size (.slice none 0 0) 0 [] :: H) := hs.mknothing.conv fun h e => ⟨by simp, .inl ⟨rfl, rfl, e⟩⟩
theorem toO (hs : Sat W w g (ownw E size v n xs :: H)) : Sat W w g (owno E size v n xs :: H) := hs.conv fun h ⟨h1, h2⟩ => ⟨h1, by
  rcases h2 with h2 | ⟨b, cap, cur, e, hn, hm, hc, ht, he⟩
  · exact .inl h2
  · exact .inr ⟨b, 0, cap, cur.toList, e, hn, hm, by simpa using hc, by simpa using ht, by simpa using he⟩⟩
theorem olen (hs : Sat W w g (owno E size v n xs :: H)) : xs.length = n * size ∧ ∃ a c, v = .slice a n c ∧ n ≤ c ∧ c ≤ 9223372036854775807 ∧ (a = none → n = 0 ∧ c = 0) := hs.fact fun h ⟨h1, h2⟩ => ⟨h1, by
  rcases h2 with ⟨e, h0, _⟩ | ⟨b, off, cap, cur, e, hn, hm, _⟩
  · subst h0; exact ⟨none, 0, e, Nat.le_refl _, Nat.zero_le _, fun _ => ⟨rfl, rfl⟩⟩
  · exact ⟨_, cap, e, hn, hm, fun e => by simp at e⟩⟩
theorem oopen (hs : Sat W w g (owno E size (.slice a n c) n xs :: H)) (hn : a ≠ none) : ∃ b off cur, a = some ⟨b, off, none⟩ ∧ off + c * size ≤ cur.length ∧ (cur.drop off).take (n * size) = xs ∧ n ≤ c ∧ c ≤ 9223372036854775807 ∧ Sat W w g (blk b cur E :: H) := by
  obtain ⟨q1, q2, q3, h, ⟨x1, x2, d, ed, ⟨_, hp⟩, s⟩, dg, ag⟩ := hs
  rcases hp with ⟨e1, _⟩ | ⟨b, off, cap, cur, e1, h1, h2, hcs, htk, rfl⟩
  · simp only [Value.slice.injEq] at e1
    exact absurd e1.1 hn
  · simp only [Value.slice.injEq] at e1
    obtain ⟨rfl, -, rfl⟩ := e1
    exact ⟨b, off, cur, rfl, hcs, htk, h1, h2, q1, q2, q3, h, ⟨_, x2, d, ed, rfl, s⟩, dg, ag⟩
theorem oclose {b off : Nat} {cur : List Value} (hs : Sat W w g (blk b cur E :: H)) (hcs : off + c * size ≤ cur.length) (ht : (cur.drop off).take (n * size) = xs) (hn : n ≤ c) (hc : c ≤ 9223372036854775807) : Sat W w g (owno E size (.slice (some ⟨b, off, none⟩) n c) n xs :: H) := hs.conv fun h e => ⟨by
  have := Nat.mul_le_mul_right size hn
  rw [← ht, List.length_take, List.length_drop]; omega, .inr ⟨b, off, c, cur, rfl, hn, hc, hcs, ht, e⟩⟩
/-- It reads as a row. -/
theorem orow (hs : Sat W w g (owno E size v n xs :: H)) : Row size w (fun _ => True) v n xs := by
  obtain ⟨h1, h2, h3, h, ⟨a, x, d, rfl, ⟨hl, hp⟩, s⟩, dg, ag⟩ := hs
  rcases hp with ⟨rfl, rfl, _⟩ | ⟨b, off, cap, cur, rfl, hn, hm, hcs, ht, rfl⟩
  · obtain rfl : xs = [] := List.eq_nil_of_length_eq_zero (by simpa using hl)
    exact Row.nil _ _
  · refine ⟨hl, _, cap, rfl, hn, by unfold maxLen; omega, fun e => by simp at e, .inr ⟨b, off, cur.toArray, E, (0, 0), rfl, trivial, ag b (.cells cur.toArray E (0, 0)) ?_, by simpa using ht⟩⟩
    rcases dg b with e | e
    · simp [Hl.un, e, Hl.one]
    · simp [Hl.un, Hl.one] at e
/-- Without its first element. -/
theorem otail {b off : Nat} (hs : Sat W w g (owno E size (.slice (some ⟨b, off, none⟩) n c) n xs :: H)) (hn : 1 ≤ n) : Sat W w g (owno E size (.slice (some ⟨b, off + size, none⟩) (n - 1) (c - 1)) (n - 1) (xs.drop size) :: H) := by
  have hx := hs.olen.1
  obtain ⟨b', off', cur, e, hcs, ht, h1, h2, hb⟩ := hs.oopen (by simp)
  simp only [Option.some.injEq, Addr.mk.injEq] at e
  obtain ⟨rfl, rfl, -⟩ := e
  clear hs
  obtain ⟨c, rfl⟩ : ∃ c', c = c' + 1 := ⟨c - 1, by omega⟩
  obtain ⟨n, rfl⟩ : ∃ n', n = n' + 1 := ⟨n - 1, by omega⟩
  rw [Nat.add_mul, Nat.one_mul] at hcs ht hx
  simp only [Nat.add_sub_cancel]
  refine Sat.oclose (cur := cur) hb (by omega) ?_ (by omega) (by omega)
  rw [← ht, List.drop_take, List.drop_drop]
  congr 1
  omega
end Sat

section
variable {P : Program} {W w w' : World} {g g' : Hl} {H H' : List HP} {t e ty : TypeId} {z : Value} {size bytes : Nat} {n : Fm} {ρ : List (Nat × Value)} {Q : Exit → Act → World → Prop} {ops : Array Oper} {rest : List Oper} {d : Option Tmp} {ps : String} {af : Array Edge} {x y : Operand} {N : List (Nat × Value) → World → Prop}

theorem run_appendo (he : ElemOf P t e z size bytes) {a : Option Addr} {k c m : Nat} {u : Value} {xs news : List Value} (hs : Sat W w g (owno e size (.slice a k c) k xs :: H)) {D : Nat → Prop} (hrow : Row size w D u m news) (h1 : ∀ x ∈ news, x.oneCell' = true) (h63 : k + m ≤ 9223372036854775807) (hbytes : (k + m) * bytes ≤ 140737488355328) :
    ∃ a' c' w', (Builtin.append_ #[t, t] ty #[.slice a k c, u]).run P w = .ok (.slice a' (k + m) c') w' ∧ Sat W w' g (owno e size (.slice a' (k + m) c') (k + m) (xs ++ news) :: H) := by
  obtain ⟨hl, _, _, e0, hkc, hcm, hnone⟩ := hs.olen
  simp only [Value.slice.injEq] at e0
  obtain ⟨rfl, -, rfl⟩ := e0
  obtain ⟨ht, ⟨i, hi, hz, hsz, hb⟩, hzs, hpos⟩ := he
  by_cases hm : m = 0
  · subst hm
    have hn0 : news = [] := List.eq_nil_of_length_eq_zero (by simpa using hrow.1)
    subst hn0
    refine ⟨a, c, w, ?_, by simpa using hs⟩
    rcases hrow.news with ⟨rfl, _, _⟩ | ⟨a', c', rfl, _, _⟩
    · cases a <;> simp [Builtin.append_, run_underlying ht, sizeOf, typeInfo, hi, Builtin.lenOf, hkc, Builtin.firstCells, storeCells]
    · cases a <;> simp [Builtin.append_, run_underlying ht, sizeOf, typeInfo, hi, Builtin.lenOf, hkc, Builtin.firstCells, loadCells, loadCellsFrom, storeCells]
  rcases hrow.news with ⟨_, h0, _⟩ | ⟨a', c', rfl, hnl, hnc⟩
  · exact absurd h0 hm
  have fin : ∀ v' w', w'.ownsRow w.heap.size e size v' (k + m) (xs ++ news) → w.grownBy w' none → ∃ a2 c2, v' = .slice a2 (k + m) c2 ∧ Sat W w' g (owno e size (.slice a2 (k + m) c2) (k + m) (xs ++ news) :: H) := by
    intro v' w' ho hg
    have hs2 := (hs.drop.newOwn ho ⟨hg.os, hg.tape, hg.output, hg.size, fun q hq => hg.block q hq (by simp)⟩)
    obtain ⟨a2, c2, rfl, _⟩ := hs2.ownLen
    exact ⟨a2, c2, rfl, hs2.slack.toO⟩
  cases ha : a with
  | none =>
    subst ha
    obtain ⟨rfl, rfl⟩ := hnone rfl
    obtain rfl : xs = [] := List.eq_nil_of_length_eq_zero (by simpa using hl)
    obtain ⟨v', w', hrun, r1, r2, _⟩ := run_append_own (P := P) w w.heap.size t ty e i z size bytes ht hi hz hsz hb hzs hpos (.slice none 0 0) 0 [] (World.ownsRow_nil w _ e size) a' m c' news hnl hnc h1 (by unfold maxLen; omega) hbytes (Nat.le_refl _)
    obtain ⟨a2, c2, rfl, h2⟩ := fin v' w' r1 r2
    exact ⟨a2, c2, w', hrun, h2⟩
  | some ad =>
    by_cases hroom : k + m ≤ c
    · -- in place
      obtain ⟨b, off, cur, e1, hcs, htk, _, _, ho⟩ := hs.oopen (by rw [ha]; simp)
      rw [ha] at e1
      simp only [Option.some.injEq] at e1
      subst e1
      subst hsz
      have hks : (k + m) * i.size ≤ c * i.size := Nat.mul_le_mul_right _ hroom
      rw [Nat.add_mul] at hks
      have hrun := run_append_room_cells (P := P) w t ty e i ht hi b off k c a' m c' news hnl hnc h1 hroom
        (fun j hj => by rw [ho.cell, List.getElem?_eq_getElem (by omega)]; rfl) (fun j _ => ho.free _)
      refine ⟨_, _, _, hrun, ?_⟩
      have ho2 := Sat.sets news w cur (off + k * i.size) ho
      refine ho2.oclose (by rw [spl_len]; omega) ?_ hroom hcm
      have hsplit : cur = (cur.take (off + k * i.size)) ++ ((cur.drop (off + k * i.size)).take news.length) ++ cur.drop (off + k * i.size + news.length) := by
        have h2 : cur.drop (off + k * i.size + news.length) = (cur.drop (off + k * i.size)).drop news.length := by rw [List.drop_drop]
        rw [List.append_assoc, h2, List.take_append_drop, List.take_append_drop]
      have hpl : (cur.take (off + k * i.size)).length = off + k * i.size := by rw [List.length_take]; omega
      have hsp : spl cur (off + k * i.size) news = cur.take (off + k * i.size) ++ news ++ cur.drop (off + k * i.size + news.length) := by
        have := spl_mid news (cur.take (off + k * i.size)) ((cur.drop (off + k * i.size)).take news.length) (cur.drop (off + k * i.size + news.length)) (by rw [List.length_take, List.length_drop]; omega)
        rw [hpl, ← hsplit] at this
        exact this
      rw [hsp, List.append_assoc, List.drop_append, hpl]
      have e2 : off - (off + k * i.size) = 0 := by omega
      rw [e2, List.drop_zero, List.drop_take]
      have e3 : off + k * i.size - off = k * i.size := by omega
      rw [e3, htk, ← List.append_assoc, List.take_append_of_le_length (by rw [List.length_append, hl, hnl, Nat.add_mul]; omega), List.take_of_length_le (by rw [List.length_append, hl, hnl, Nat.add_mul]; omega)]
    · subst ha
      have hc0 : ∀ j u, xs[j]? = some u → w.cell? (ad.add j) = some u := by
        rcases hs.orow.news with ⟨e, _⟩ | ⟨a, c, e, _, hc⟩
        · cases e
        · simp only [Value.slice.injEq, Option.some.injEq] at e
          obtain ⟨rfl, _⟩ := e
          exact hc
      obtain ⟨v', w', hrun, r1, r2⟩ := run_append_arg_grows (P := P) w t ty e i z size bytes ht hi hz hsz hb hzs hpos ad k c xs hl hc0 a' m c' news hnl hnc (by omega) (by unfold maxLen; omega) hbytes
      obtain ⟨a2, c2, rfl, h2⟩ := fin v' w' r1 r2
      exact ⟨a2, c2, w', hrun, h2⟩

theorem St.appo {s : Operand} {a : Option Addr} {k c m : Nat} {u : Value} {xs news : List Value} (he : ElemOf P t e z size bytes) (hs : Sat W w g (owno e size (.slice a k c) k xs :: H)) {D : Nat → Prop} (hrow : Row size w D u m news)
    (h : ∀ a' c' w', Sat W w' g (owno e size (.slice a' (k + m) c') (k + m) (xs ++ news) :: H) → N (pushv d (.slice a' (k + m) c') ρ) w') (h63 : k + m ≤ 9223372036854775807 := by omega) (hbytes : (k + m) * bytes ≤ 140737488355328 := by omega)
    (hx : evo n ρ s = some (.slice a k c) := by exact rfl) (hy : evo n ρ y = some u := by exact rfl) (h1 : ∀ x ∈ news, x.oneCell' = true := by first | exact bs_one _ | (intro u hu; simp only [List.mem_cons, List.not_mem_nil, or_false] at hu; rcases hu with rfl | rfl | rfl | rfl <;> exact rfl)) :
    St P n ops ⟨d, .call ⟨.builtin .append, #[s, y], #[t, t]⟩, ty, ps, af, none⟩ ρ w N Q := by
  obtain ⟨a', c', w', hr, hs'⟩ := run_appendo (P := P) (ty := ty) he hs hrow h1 h63 hbytes
  refine St.val (v := .slice a' (k + m) c') (w' := w') (fun ac ha => ?_) (h a' c' w' hs')
  simp only [execOp, resolve, invoke, builtin, Sem.run_bind, Sem.run_pure, Result.andThen_ok, List.map_toArray, List.map_cons, List.map_nil, ha.eval hx, ha.eval hy, hr]
/-- append onto such a row. -/
theorem E.appo {s : Operand} {a : Option Addr} {k c m : Nat} {u : Value} {xs news : List Value} (he : ElemOf P t e z size bytes) (hs : Sat W w g (owno e size (.slice a k c) k xs :: H)) {D : Nat → Prop} (hrow : Row size w D u m news)
    (h : ∀ a' c' w', Sat W w' g (owno e size (.slice a' (k + m) c') (k + m) (xs ++ news) :: H) → E P n ops rest (pushv d (.slice a' (k + m) c') ρ) w' Q) (h63 : k + m ≤ 9223372036854775807 := by omega) (hbytes : (k + m) * bytes ≤ 140737488355328 := by omega)
    (hx : evo n ρ s = some (.slice a k c) := by exact rfl) (hy : evo n ρ y = some u := by exact rfl) (h1 : ∀ x ∈ news, x.oneCell' = true := by first | exact bs_one _ | (intro u hu; simp only [List.mem_cons, List.not_mem_nil, or_false] at hu; rcases hu with rfl | rfl | rfl | rfl <;> exact rfl)) :
    E P n ops (⟨d, .call ⟨.builtin .append, #[s, y], #[t, t]⟩, ty, ps, af, none⟩ :: rest) ρ w Q := E.cons (St.appo he hs hrow h h63 hbytes hx hy h1)
/-- s[1:] of such a row. -/
theorem E.slo {b off m c : Nat} {lo : Operand} {kd : IntKind} {xs : List Value} (he : ElemOf P t e z size bytes) (hs : Sat W w g (owno e size (.slice (some ⟨b, off, none⟩) m c) m xs :: H)) (hm : 2 ≤ m)
    (h : Sat W w g (owno e size (.slice (some ⟨b, off + size, none⟩) (m - 1) (c - 1)) (m - 1) (xs.drop size) :: H) → E P n ops rest (pushv d (.slice (some ⟨b, off + size, none⟩) (m - 1) (c - 1)) ρ) w Q)
    (hx : evo n ρ x = some (.slice (some ⟨b, off, none⟩) m c) := by exact rfl) (h1 : evo n ρ lo = some (.int kd 1) := by exact rfl) :
    E P n ops (⟨d, .slice t x (some lo) none none, ty, ps, af, none⟩ :: rest) ρ w Q := by
  obtain ⟨_, _, _, e0, hmc, hcm, hN⟩ := hs.olen
  simp only [Value.slice.injEq] at e0
  obtain ⟨rfl, -, rfl⟩ := e0
  have hr := fun w => run_slice_any (P := P) (a := some ⟨b, off, none⟩) (vl := some (.int kd 1)) (vh := none) (vm := none) (l := 1) (h := m) (m := c) he (.inr ⟨_, _, rfl, rfl⟩) (.inl ⟨rfl, rfl⟩) (.inl ⟨rfl, rfl⟩) hmc (by omega) hmc (Nat.le_refl _) (fun _ => hmc) w
  refine E.pv (v := .slice (some ⟨b, off + size, none⟩) (m - 1) (c - 1)) (Pv.slice (l := some (.int kd 1)) (h := none) (m := none) hx (by simp only [evm, h1]) rfl rfl (fun w => ?_)) (h (hs.otail (by omega)))
  rw [hr w, if_neg (by omega)]
  simp [Addr.add]
end
end Go.Proofs.YtdkbpcibmipelaaGreatDoor

/-
  slices.IndexFunc and slices.DeleteFunc over names, whatever is deleted.
-/
namespace Go.Proofs.YtdkbpcibmipelaaGreatDoor
open Go.RowKit
set_option linter.unusedVariables false
set_option linter.unusedSimpArgs false

theorem el_strs : ElemOf Tryz.prog 74 9 (.string ⟨#[]⟩) 1 16 := .of Tryz.underlying74 (by kernel_rfl) rfl (by decide)
/-- What a function's value says of a name. -/
structure Says (fid : FuncId) (caps : List Value) (K : HP) (del : List UInt8 → Bool) : Prop where
  body : ∃ fn cd, Tryz.prog.funcs[fid]? = some fn ∧ fn.body = some cd ∧ (fn.name == "runtime.NumGoroutine") = false
  says : ∀ {R : Ending → World → Prop} {W w : World} {g : Hl} {H : List HP} {x : List UInt8}, x.length ≤ 1000000000 → Sat W w g (K :: H) → R (.returned (.bool (del x))) w → Calls Tryz.prog fid (str x :: caps).toArray w R

set_option maxHeartbeats 1600000 in
set_option maxRecDepth 100000 in
theorem index_gen {R : Ending → World → Prop} {W w : World} {g : Hl} {H : List HP} {n c : Nat} {a : Option Addr} {ls : List (List UInt8)} {fid : FuncId} {caps : List Value} {K : HP} {del : List UInt8 → Bool} (hd : Says fid caps K del) (hs : Sat W w g (own 9 1 (.slice a n c) n (ls.map str) :: K :: H)) (hn : ls.length = n) (hl : ∀ x ∈ ls, x.length ≤ 1000000000)
    (hN : (∀ x ∈ ls, del x = false) → ∀ w', Sat W w' g (own 9 1 (.slice a n c) n (ls.map str) :: K :: H) → R (.returned (.int .i64 (-1))) w')
    (hK : ∀ k (h : k < ls.length), (∀ x ∈ ls.take k, del x = false) → del ls[k] = true → ∀ w', Sat W w' g (own 9 1 (.slice a n c) n (ls.map str) :: K :: H) → R (.returned (.int .i64 k)) w') :
    Calls Tryz.prog 180 #[.slice a n c, .func (.func fid) #[] caps.toArray] w R := by
  have HN := Lib.hid hN
  have HK := Lib.hid hK
  clear hN hK
  obtain ⟨fn, cd, hf1, hf2, hf3⟩ := hd.body
  have hf2 := Lib.hid hf2
  obtain ⟨_, _, e0, hnc, hcm, _⟩ := hs.ownLen
  simp only [Value.slice.injEq] at e0
  obtain ⟨-, -, rfl⟩ := e0
  refine C.calls (args := [.slice a n c, .func (.func fid) #[] caps.toArray]) Tryz.func180 rfl rfl rfl ?_
  refine gob ?_
  refine C.cutQ (fun _ : Unit => []) (fun _ w => (∀ x ∈ ls, del x = false) ∧ Sat W w g (own 9 1 (.slice a n c) n (ls.map str) :: K :: H)) ?_ ?_
  · refine C.block ?_
    refine C.lp (fun i : Nat => [(0, .slice a n c), (1, .func (.func fid) #[] caps.toArray), (7, .int .i64 n), (8, .int .i64 i)]) (fun gk i w => gk = n - i ∧ i ≤ n ∧ (∀ x ∈ ls.take i, del x = false) ∧ Sat W w g (own 9 1 (.slice a n c) n (ls.map str) :: K :: H)) n 0 ⟨rfl, Nat.zero_le _, (fun x hx => by cases hx), hs⟩ ?_
    clear hs
    rintro gk i w1 ⟨rfl, hi, hall, hs⟩
    refine go ?_
    refine C.cond_dec (p := (i : Int) < n) rfl (fun hlt => ?_) (fun hlt => ?_)
    rotate_left
    · refine go ?_
      refine A.mt () ⟨fun x hx => hall x ?_, hs⟩
      rw [List.take_of_length_le (by omega)]
      exact hx
    · have hil : i < ls.length := by omega
      have h1 := hl ls[i] (List.getElem_mem hil)
      refine go ?_
      refine E.ixr el_strs (Row.of_owns (D := fun _ => True) hs.owns (fun _ _ => trivial)) i (v := str ls[i]) (by simp [hil]) ?_
      intro b2 o2 hc2
      refine go ?_
      refine E.callv hf1 rfl rfl (as' := str ls[i] :: caps) (by simp) ?_ (hb := hf2.out) (hnm := hf3)
      refine hd.says h1 hs.swap ?_
      cases hdl : del ls[i] with
      | false =>
        refine go ?_
        refine A.rd (n - (i + 1)) (i + 1) ⟨rfl, by omega, ?_, hs⟩
        intro x hx
        rw [List.take_add_one, List.getElem?_eq_getElem hil] at hx
        rcases List.mem_append.1 hx with h | h
        · exact hall x h
        · simp only [Option.toList_some, List.mem_singleton] at h
          rw [h]; exact hdl
      | true =>
        refine go ?_
        refine A.r1 ?_
        exact HK.out i hil hall hdl _ hs
  clear hs
  rintro _ w2 ⟨hall, hs⟩
  refine go ?_
  refine A.r1 ?_
  exact HN.out hall _ hs

section
variable {P : Program} {W w w' : World} {g g' : Hl} {H H' : List HP} {t e ty : TypeId} {z : Value} {size bytes : Nat} {n : Fm} {ρ : List (Nat × Value)} {Q : Exit → Act → World → Prop} {ops : Array Oper} {rest : List Oper} {d : Option Tmp} {ps : String} {af : Array Edge} {x y : Operand} {N : List (Nat × Value) → World → Prop}
/-- An own row, opened as a block; and closed with fewer elements. -/
theorem Sat.ownOpen {b k c : Nat} {xs : List Value} (hs : Sat W w g (own e size (.slice (some ⟨b, 0, none⟩) k c) k xs :: H)) : ∃ cur, cur.length = c * size ∧ cur.take (k * size) = xs ∧ k ≤ c ∧ c ≤ maxLen ∧ Sat W w g (blk b cur e :: H) := by
  obtain ⟨q1, q2, q3, h, ⟨x1, x2, d, ed, ⟨_, hp⟩, s⟩, dg, ag⟩ := hs
  rcases hp with ⟨e1, _⟩ | ⟨b', cap, cur, e1, h1, h2, hcs, htk, rfl⟩
  · cases e1
  · simp only [Value.slice.injEq, Option.some.injEq, Addr.mk.injEq] at e1
    obtain ⟨⟨rfl, -⟩, -, rfl⟩ := e1
    exact ⟨cur.toList, by simpa using hcs, htk, h1, h2, q1, q2, q3, h, ⟨_, x2, d, ed, by simp [blk, obj], s⟩, dg, ag⟩
theorem Sat.ownClose {b k c : Nat} {cur : List Value} (hs : Sat W w g (blk b cur e :: H)) (hl : cur.length = c * size) (hk : k ≤ c) (hc : c ≤ maxLen) : Sat W w g (own e size (.slice (some ⟨b, 0, none⟩) k c) k (cur.take (k * size)) :: H) := hs.conv fun h he => ⟨by
  have := Nat.mul_le_mul_right size hk
  rw [List.length_take]; omega, .inr ⟨b, c, cur.toArray, rfl, hk, hc, by simpa using hl, by simp, he⟩⟩
/-- clear(s[k:]) behind an own row's elements. -/
theorem E.clr {b k c m c' : Nat} {xs : List Value} (he : ElemOf P t e z size bytes) (hs : Sat W w g (own e size (.slice (some ⟨b, 0, none⟩) k c) k xs :: H)) (hm : k + m ≤ c) (hzc : ∀ u ∈ z.cells.toList, u.oneCell' = true)
    (h : ∀ w', Sat W w' g (own e size (.slice (some ⟨b, 0, none⟩) k c) k xs :: H) → E P n ops rest (pushv d (.tuple #[]) ρ) w' Q) (hx : evo n ρ x = some (.slice (some ⟨b, k * size, none⟩) m c')) :
    E P n ops (⟨d, .call ⟨.builtin .clear, #[x], #[t]⟩, ty, ps, af, none⟩ :: rest) ρ w Q := by
  obtain ⟨w', hr, h2, h3⟩ := run_clear_tail (P := P) he ty hs.owns (m := m) (c := c') hm hzc
  refine E.cons (St.val (v := .tuple #[]) (w' := w') (fun ac ha => ?_) (h w' (hs.turn h2 h3 (.inl rfl))))
  simp only [execOp, resolve, invoke, builtin, Sem.run_bind, Sem.run_pure, Result.andThen_ok, List.map_toArray, List.map_cons, List.map_nil, ha.eval hx, hr]
end
theorem filter_none {p : List UInt8 → Bool} {ls : List (List UInt8)} (h : ∀ x ∈ ls, p x = false) : ls.filter (fun x => !p x) = ls := by
  rw [List.filter_eq_self]
  intro x hx
  simp [h x hx]

set_option maxHeartbeats 3200000 in
set_option maxRecDepth 100000 in
theorem delete_gen {R : Ending → World → Prop} {W w : World} {g : Hl} {H : List HP} {n c : Nat} {a : Option Addr} {ls : List (List UInt8)} {fid : FuncId} {caps : List Value} {K : HP} {del : List UInt8 → Bool} (hd : Says fid caps K del) (hs : Sat W w g (own 9 1 (.slice a n c) n (ls.map str) :: K :: H)) (hn : ls.length = n) (hl : ∀ x ∈ ls, x.length ≤ 1000000000)
    (hR : ∀ k a' c' w' g', k = (ls.filter (fun x => !del x)).length → Hl.le g g' → Pr 1 g' (.slice a' k c') k ((ls.filter (fun x => !del x)).map str) → Sat W w' g' (K :: H) → R (.returned (.slice a' k c')) w') :
    Calls Tryz.prog 109 #[.slice a n c, .func (.func fid) #[] caps.toArray] w R := by
  have HR := Lib.hid hR
  clear hR
  obtain ⟨fn, cd, hf1, hf2, hf3⟩ := hd.body
  have hf2 := Lib.hid hf2
  obtain ⟨_, _, e0, hnc, hcm, _⟩ := hs.ownLen
  simp only [Value.slice.injEq] at e0
  obtain ⟨-, -, rfl⟩ := e0
  refine C.calls (args := [.slice a n c, .func (.func fid) #[] caps.toArray]) Tryz.func109 rfl rfl rfl ?_
  refine go ?_
  refine E.callf Tryz.func180 rfl ?_
  refine index_gen hd hs hn hl ?_ ?_
  · intro hall w1 hs
    refine go ?_
    refine A.r1 ?_
    obtain ⟨g', hg', hp, hs⟩ := hs.publishOwn
    refine HR.out n a c _ g' (by rw [filter_none hall, hn]) hg' (by rw [filter_none hall]; exact hp) hs
  intro i hil hall hdl w1 hs
  have hne : decide ((i : Int) = -1) = false := decide_eq_false (by omega)
  refine gob ?_
  obtain ⟨b, rfl⟩ : ∃ b, a = some ⟨b, 0, none⟩ := hs.ownAt (by omega)
  obtain ⟨cur, hcl, htk, -, hcm2, hs⟩ := hs.ownOpen
  rw [Nat.mul_one] at hcl htk
  have hdn := Lib.hid hd
  refine C.cutQ (fun q : Nat => [(0, .slice (some ⟨b, 0, none⟩) n c), (5, .int .i64 q)]) (fun q w => ∃ cur, cur.length = c ∧ q < n ∧ cur.take q = (ls.filter fun x => !del x).map str ∧ q = (ls.filter fun x => !del x).length ∧ Sat W w g (blk b cur 9 :: K :: H)) ?_ ?_
  · refine C.block ?_
    refine C.lp (fun q : Nat × Nat => [(0, .slice (some ⟨b, 0, none⟩) n c), (1, .func (.func fid) #[] caps.toArray), (5, .int .i64 q.1), (6, .int .i64 q.2)])
      (fun gk q w => gk = n - q.2 ∧ q.1 < q.2 ∧ q.2 ≤ n ∧ ∃ cur, cur.length = c ∧ cur.take q.1 = ((ls.take q.2).filter fun x => !del x).map str ∧ q.1 = ((ls.take q.2).filter fun x => !del x).length ∧ (∀ j, q.2 ≤ j → (h : j < ls.length) → cur[j]? = some (str ls[j])) ∧ Sat W w g (blk b cur 9 :: K :: H)) (n - (i + 1)) (i, i + 1) ⟨rfl, by simp only; omega, by simp only; omega, cur, hcl, ?_, ?_, ?_, hs⟩ ?_
    · rw [List.take_add_one, List.getElem?_eq_getElem hil]
      simp only [Option.toList_some, List.filter_append, filter_none hall, List.filter_cons, hdl, Bool.not_true, Bool.false_eq_true, if_false, List.filter_nil, List.append_nil]
      have := congrArg (List.take i) htk
      rw [List.take_take, Nat.min_eq_left (by omega), ← List.map_take] at this
      exact this
    · rw [List.take_add_one, List.getElem?_eq_getElem hil]
      simp only [Option.toList_some, List.filter_append, filter_none hall, List.filter_cons, hdl, Bool.not_true, Bool.false_eq_true, if_false, List.filter_nil, List.append_nil, List.length_take]
      omega
    · intro j hj hjl
      have : (cur.take n)[j]? = some (str ls[j]) := by rw [htk, List.getElem?_map, List.getElem?_eq_getElem hjl]; rfl
      rwa [List.getElem?_take, if_pos (by omega)] at this
    clear hs htk hcl cur
    rintro gk ⟨i2, j⟩ w2 ⟨rfl, hij, hj, cur, hcl, htk, hi2, hrest, hs⟩
    simp only at hij hj htk hi2 hrest ⊢
    have hi3 := hi2
    have Hi2 := Lib.hid hi2
    clear hi2 hi3
    refine go ?_
    refine C.cond_dec (p := (j : Int) < n) rfl (fun hlt => ?_) (fun hlt => ?_)
    rotate_left
    · refine go ?_
      have e : ls.take j = ls := List.take_of_length_le (by omega)
      rw [e] at htk Hi2
      exact A.mt i2 ⟨cur, hcl, by omega, htk, Hi2.out, hs⟩
    have hjl : j < ls.length := by omega
    have h1 := hl ls[j] (List.getElem_mem hjl)
    have hr1 := hrest j (Nat.le_refl _) hjl
    refine go ?_
    refine E.ld hs ?_ (hj := hr1)
    refine go ?_
    refine E.callv hf1 rfl rfl (as' := str ls[j] :: caps) (by simp) ?_ (hb := hf2.out) (hnm := hf3)
    refine hdn.out.says h1 hs.swap ?_
    have hsucc : ls.take (j + 1) = ls.take j ++ [ls[j]] := by
      rw [List.take_add_one, List.getElem?_eq_getElem hjl]; rfl
    cases hd2 : del ls[j] with
    | true =>
      refine go ?_
      refine A.rd (n - (j + 1)) (i2, j + 1) ⟨rfl, by simp only; omega, by simp only; omega, cur, hcl, ?_, ?_, fun k hk hkl => hrest k (by simp only at hk; omega) hkl, hs⟩
      · simp only [hsucc, List.filter_append, List.filter_cons, hd2, Bool.not_true, Bool.false_eq_true, if_false, List.filter_nil, List.append_nil]
        exact htk
      · simp only [hsucc, List.filter_append, List.filter_cons, hd2, Bool.not_true, Bool.false_eq_true, if_false, List.filter_nil, List.append_nil]
        exact Hi2.out
    | false =>
      have hi2n : i2 < n := by omega
      refine go ?_
      refine E.sto (b := b) (j := i2) (v := str ls[j]) (vs := [str ls[j]]) (ys := cur.set i2 (str ls[j])) hs ?_ (hv := rfl) (hsp := rfl) (hj := by simp only [List.length_singleton, Nat.ble_eq]; omega)
      intro w3 hs
      refine go ?_
      refine A.rd (n - (j + 1)) (i2 + 1, j + 1) ⟨rfl, by simp only; omega, by simp only; omega, cur.set i2 (str ls[j]), by rw [List.length_set]; exact hcl, ?_, ?_, fun k hk hkl => ?_, hs⟩
      · simp only [hsucc, List.filter_append, List.filter_cons, hd2, Bool.not_false, if_true, List.filter_nil, List.map_append, List.map_cons, List.map_nil]
        rw [List.take_add_one, List.getElem?_set_self (by omega), List.take_set_of_le (Nat.le_refl _), htk]
        rfl
      · simp only [hsucc, List.filter_append, List.filter_cons, hd2, Bool.not_false, if_true, List.filter_nil, List.length_append, List.length_singleton]
        have := Hi2.out
        omega
      · simp only at hk
        rw [List.getElem?_set_ne (by omega)]
        exact hrest k (by omega) hkl
  clear hs htk hcl cur
  rintro q w4 ⟨cur, hcl, hq, htk, hql, hs⟩
  have hs := hs.ownClose (size := 1) (k := q) (c := c) (by omega) (by omega) hcm2
  rw [Nat.mul_one, htk] at hs
  have Hql := Lib.hid hql
  clear hql htk
  have hr := fun w => run_slice_any (P := Tryz.prog) (a := some ⟨b, 0, none⟩) (vl := some (.int .i64 q)) (vh := none) (vm := none) (l := q) (h := n) (m := c) el_strs (.inr ⟨_, _, rfl, rfl⟩) (.inl ⟨rfl, rfl⟩) (.inl ⟨rfl, rfl⟩) hnc (by omega) hnc (Nat.le_refl _) (fun _ => hnc) w
  rw [if_neg (by omega)] at hr
  have hr2 := fun w => run_slice_any (P := Tryz.prog) (a := some ⟨b, 0, none⟩) (vl := none) (vh := some (.int .i64 q)) (vm := none) (l := 0) (h := q) (m := c) el_strs (.inl ⟨rfl, rfl⟩) (.inr ⟨_, _, rfl, rfl⟩) (.inl ⟨rfl, rfl⟩) hnc (by omega) (by omega) (Nat.le_refl _) (fun h => by cases h) w
  refine go ?_
  refine E.pv (v := .slice (some ⟨b, q * 1, none⟩) (n - q) (c - q)) (Pv.slice (l := some (.int .i64 q)) (h := none) (m := none) rfl rfl rfl rfl (fun w => by rw [hr w]; simp [Addr.add]; omega)) ?_
  refine E.clr el_strs hs (m := n - q) (by omega) (by simp [Value.cells, Value.oneCell']) ?_ rfl
  intro w5 hs
  refine go ?_
  refine E.pv (v := .slice (some ⟨b, 0, none⟩) q c) (Pv.slice (l := none) (h := some (.int .i64 q)) (m := none) rfl rfl rfl rfl (fun w => by
    rw [hr2 w]
    simp only [Nat.sub_zero, Nat.zero_mul]
    split <;> simp [Addr.add] <;> omega)) ?_
  refine go ?_
  refine A.r1 ?_
  obtain ⟨g', hg', hp, hs⟩ := hs.publishOwn
  exact HR.out q _ c _ g' Hql.out hg' hp hs
end Go.Proofs.YtdkbpcibmipelaaGreatDoor

/-
  A map that a call owns, as the kit's maps read it; names, rising.
-/
namespace Go.Proofs.YtdkbpcibmipelaaGreatDoor
open Go.RowKit Go.Maps Go.Sort Go.WideElems Go.ChangeShapes Go.WideShapes Go.MapKept Go.ChangeMaps
set_option linter.unusedVariables false
set_option linter.unusedSimpArgs false

/-- A string's bytes. -/
def bytesOf : Value → List UInt8
  | .string s => s.data.toList
  | _ => []
theorem bytesOf_str (l : List UInt8) : bytesOf (str l) = l := by simp [bytesOf, str]

theorem mp_owns {P : Program} {k : TypeId} {W w : World} {g : Hl} {H : List HP} {mb : Nat} {l : List (List UInt8 × Value)} (hkt : P.underlying k = some .string) (hs : Sat W w g (mp str mb l :: H)) (hn : (l.map Prod.fst).Nodup) (hlen : l.length ≤ maxLen) (hk : ∀ p ∈ l, p.1.length ≤ maxLen) :
    ∃ D : DataW Unit, w.ownsMap P k (fun _ => some (.nil, [])) mb l.length D ∧ (strKeys D).Perm (l.map Prod.fst) ∧ Maps.size D = l.length := by
  obtain ⟨es, clock, he, ho⟩ := mp_open hs
  have hb := ho.heap
  have hes : es.size = l.length := by
    have := congrArg List.length he.1
    simpa using this
  have hkey : ∀ x ∈ es.toList, ∃ p ∈ l, x.key = str p.1 := by
    intro x hx
    have h1 : entOf x ∈ es.toList.map entOf := List.mem_map_of_mem hx
    rw [he.1] at h1
    obtain ⟨p, hp, e⟩ := List.mem_map.1 h1
    exact ⟨p, hp, by have := congrArg Prod.fst e; simpa [entOf] using this.symm⟩
  have hrd : ∀ x ∈ es.toList, WideElems.rd (H := Unit) P k (fun _ => some (.nil, [])) x = some (.string (bytesOf x.key), .nil) := by
    intro x hx
    obtain ⟨p, hp, e⟩ := hkey x hx
    have h1 := hk p hp
    simp [WideElems.rd, e, str, keyOf, hkt, mapKey, ByteArray.size, bytesOf, h1]
  have hkeys : es.toList.map (fun x => bytesOf x.key) = l.map Prod.fst := by
    have h1 := congrArg (List.map fun q : Value × Value => bytesOf q.1) he.1
    rw [List.map_map, List.map_map] at h1
    have e1 : ((fun q : Value × Value => bytesOf q.1) ∘ entOf) = fun x : MapEntry => bytesOf x.key := rfl
    have e2 : ((fun q : Value × Value => bytesOf q.1) ∘ fun p : List UInt8 × Value => (str p.1, p.2)) = Prod.fst := by
      funext p
      exact bytesOf_str p.1
    rw [e1, e2] at h1
    exact h1
  have hst : Stamped es clock := by
    refine ⟨he.2.1, he.2.2, ?_⟩
    have h2 : ((es.toList.map (·.key)).map bytesOf).Nodup := by
      rw [List.map_map]
      have : (bytesOf ∘ fun x : MapEntry => x.key) = fun x => bytesOf x.key := rfl
      rw [this, hkeys]
      exact hn
    exact List.Pairwise.of_map bytesOf (fun a b hab e => hab (by rw [e])) h2
  refine ⟨_, ⟨es, clock, hb, ⟨by omega, hst, fun x hx => ⟨_, hrd x hx⟩⟩, by omega, rfl⟩, ?_, ?_⟩
  · have h3 := sorted_perm (es.toList.map (WideElems.rg (H := Unit) P k (fun _ => some (.nil, []))))
    have h4 := h3.map (fun p => strOf p.1)
    have h5 : (es.toList.map (WideElems.rg (H := Unit) P k (fun _ => some (.nil, [])))).map (fun p => strOf p.1) = l.map Prod.fst := by
      rw [List.map_map, ← hkeys]
      apply List.map_congr_left
      intro x hx
      simp [WideElems.rg, hrd x hx, strOf]
    rw [h5] at h4
    exact h4
  · have h3 := (sorted_perm (es.toList.map (WideElems.rg (H := Unit) P k (fun _ => some (.nil, []))))).length_eq
    simp only [Maps.size, h3, List.length_map, Array.length_toList, hes]
/-- Names, rising. -/
def rising (l : List (List UInt8)) : List (List UInt8) := l.mergeSort fun x y => decide (x ≤ y)
theorem rising_perm (l : List (List UInt8)) : (rising l).Perm l := List.mergeSort_perm _ _
end Go.Proofs.YtdkbpcibmipelaaGreatDoor
