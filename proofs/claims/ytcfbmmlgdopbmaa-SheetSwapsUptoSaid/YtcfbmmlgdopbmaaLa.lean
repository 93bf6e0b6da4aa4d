/-
  The statements' own functions, layer 5: head, lay, short, same.
-/
import Derived.Test.YtcfbmmlgdopbmaaLb
import Derived.Test.YtcfbmmlgdopbmaaRb
namespace Go.Proofs.Ytcfbmmlgdopbmaa
open Go.RowKit
set_option linter.unusedVariables false
set_option linter.unusedSimpArgs false

set_option maxHeartbeats 1600000 in
set_option maxRecDepth 100000 in
theorem lhead_any {R : Ending → World → Prop} {W w : World} {g : Hl} {H : List HP} {t : Ti} (hs : Sat W w g H) (ht : t.ok)
    (hR : ∀ a' c' w' g', Hl.le g g' → Sat W w' g' (own 5 1 (.slice a' (headB t).length c') (headB t).length (bs (headB t)) :: H) → R (.returned (.slice a' (headB t).length c')) w') :
    Calls Try.prog 17 #[t.val] w R := by
  have HR := Lib.hid hR
  clear hR
  have hta := ht.1
  have htb := ht.2
  have hla := layN_ten hta
  have hlb := layN_ten htb
  refine C.calls (args := [t.val]) Try.func17 rfl rfl rfl ?_
  refine go ?_
  refine E.bx hs ?_
  intro b1 w1 hs
  have hs : Sat W w1 g (blk b1 t.cs 24 :: H) := hs
  refine go ?_
  refine E.bsl hs ?_
  intro b2 w2 hs
  refine go ?_
  apply E.cons
  apply St.markBytes hs
  · exact rfl
  · exact Try.underlying37
  · exact Try.underlying5
  · exact rfl
  · decide
  intro w3 g3 hg3 hs hp
  refine go ?_
  refine E.bsl hs ?_
  intro b3 w4 hs
  refine E.appendFull el_u8 hs (hp.row hs) (hs.rowOf (size := 1) 1 rfl (by decide)) ?_ (by decide) (by decide) (by decide) rfl rfl ?_
  · intro u hu
    simp only [List.mem_singleton] at hu
    subst hu
    rfl
  intro a4 c4 w5 _ _ hs
  have e0 : [Value.int .u8 97, .int .u8 110, .int .u8 97, .int .u8 49] ++ [.int .u8 (t.kind.toNat : Int)] = bs [97, 110, 97, 49, t.kind] := rfl
  rw [e0] at hs
  refine go ?_
  refine C.held (Keeps g3 [(b1, t.cs, 24)]) hs ?_
  intro w6 hs
  have hk : Keeps g3 [(b1, t.cs, 24)] w6 := (Keeps.of0 hs).ofs hs
  refine goh ?_
  refine EH.one (St.callf Try.func32 rfl ?_)
  refine rlay_any hs (fun w' h => Row.of_owns (D := fun _ => True) h.owns (fun _ _ => trivial)) rfl (by decide) hta ?_
  intro a7 c7 w7 hs
  have hk : Keeps g3 [(b1, t.cs, 24)] w7 := (Keeps.of0 hs).ofs hs
  refine ⟨hk, ?_⟩
  refine goh ?_
  have hl7 : ([97, 110, 97, 49, t.kind] ++ layN t.a).length ≤ 15 := by simp; omega
  refine EH.one (St.callf Try.func32 rfl ?_)
  refine rlay_any hs (fun w' h => Row.of_owns (D := fun _ => True) h.owns (fun _ _ => trivial)) rfl (by omega) htb ?_
  intro a8 c8 w8 hs
  have e8 : [97, 110, 97, 49, t.kind] ++ layN t.a ++ layN t.b = titleB t := rfl
  rw [e8] at hs ⊢
  obtain ⟨g9, hg9, hp9, hs⟩ := hs.publishOwn
  have hk : Keeps g3 [(b1, t.cs, 24)] w8 := (Keeps.of0 hs hg9).ofs hs
  refine ⟨hk, ?_⟩
  have htl := titleB_len ht
  refine goh ?_
  refine EH.one (St.callf Try.func31 rfl ?_)
  refine rwrap_any hs hp9 rfl (by omega) ?_
  intro a9 c9 w9 hs
  have hk : Keeps g3 [(b1, t.cs, 24)] w9 := (Keeps.of0 hs hg9).ofs hs
  refine ⟨hk, ?_⟩
  refine goh ?_
  refine EH.done ?_
  refine go ?_
  refine A.r1 ?_
  exact HR.out _ _ _ g9 (hg3.trans hg9) hs.d1.d1.d1.d1

set_option maxHeartbeats 1600000 in
set_option maxRecDepth 100000 in
theorem llay_any {R : Ending → World → Prop} {W w : World} {g : Hl} {H : List HP} {n c : Nat} {a : Option Addr} {t : Ti} {ls : List (List UInt8)} (hs : Sat W w g H) (ht : t.ok) (hl : LB g a n c ls) (hb : sumL ls ≤ 100000000)
    (hR : ∀ a' c' w' g', Hl.le g g' → Sat W w' g' (own 5 1 (.slice a' (headB t ++ catB ls).length c') (headB t ++ catB ls).length (bs (headB t ++ catB ls)) :: H) → R (.returned (.slice a' (headB t ++ catB ls).length c')) w') :
    Calls Try.prog 16 #[t.val, .slice a n c] w R := by
  have HR := Lib.hid hR
  clear hR
  have hll := hl.len
  have hle := hl.le
  have hhl := headB_len ht
  refine C.calls (args := [t.val, .slice a n c]) Try.func16 rfl rfl rfl ?_
  refine go ?_
  refine E.bx hs ?_
  intro b1 w1 hs
  have hs : Sat W w1 g (blk b1 t.cs 24 :: H) := hs
  refine go ?_
  refine E.lda hs ag_title ?_
  refine go ?_
  refine E.callf Try.func17 rfl ?_
  refine lhead_any hs ht ?_
  intro a3 c3 w3 g3 hg3 hs
  have hl3 := hl.mono hg3
  refine gob ?_
  refine C.block ?_
  refine C.lp (fun x : Nat × Option Addr × Nat => [(1, .slice a n c), (5, .slice x.2.1 (headB t ++ catB (ls.take x.1)).length x.2.2), (6, .int .i64 x.1)])
    (fun gk x w => gk = n - x.1 ∧ x.1 ≤ n ∧ Sat W w g3 (own 5 1 (.slice x.2.1 (headB t ++ catB (ls.take x.1)).length x.2.2) (headB t ++ catB (ls.take x.1)).length (bs (headB t ++ catB (ls.take x.1))) :: blk b1 t.cs 24 :: H)) n (0, a3, c3)
    ⟨rfl, Nat.zero_le _, by simpa [catB] using hs⟩ ?_ (hw := ?_)
  rotate_left
  · simp only [List.take_zero, catB, List.map_nil, List.flatten_nil, List.append_nil]
    exact wk_
  clear hs
  rintro gk ⟨i, a4, c4⟩ w4 ⟨rfl, hi, hs⟩
  simp only at hi hs ⊢
  refine go ?_
  refine C.cond_dec (p := (i : Int) < n) rfl (fun hlt => ?_) (fun hlt => ?_)
  rotate_left
  · have hin : i = n := by omega
    have ht2 : ls.take i = ls := List.take_of_length_le (by omega)
    rw [ht2] at hs ⊢
    refine go ?_
    refine A.r1 ?_
    exact HR.out _ _ _ g3 hg3 hs.d1
  · have hin : i < n := by omega
    obtain ⟨xs, hpx, a5, c5, hxi, hp5⟩ := hl3.get hin
    have hil : i < ls.length := by omega
    have htk : ls.take (i + 1) = ls.take i ++ [ls[i]] := List.take_succ_eq_append_getElem hil
    have hmx := sumL_mem (List.getElem_mem hil)
    have hst := sumL_take ls (i + 1)
    have hcl := catB_len (ls.take i) (by have := sumL_take ls i; omega)
    have hst0 := sumL_take ls i
    rw [htk, sumL_snoc] at hst
    refine go ?_
    refine E.ix el_row hs hpx i hxi ?_
    intro b6 o6 hc6
    refine go ?_
    refine E.callf Try.func31 rfl ?_
    refine rwrap_any hs hp5 rfl (by omega) ?_
    intro a7 c7 w7 hs
    have hwl := wrapB_len ls[i] (by omega)
    have hrw : Row 1 w7 (fun _ => True) (.slice a7 (wrapB ls[i]).length c7) (wrapB ls[i]).length (bs (wrapB ls[i])) := Row.of_owns hs.owns (fun _ _ => trivial)
    have hpl : (headB t ++ catB (ls.take i)).length ≤ 39 + sumL (ls.take i) := by rw [List.length_append]; omega
    refine go ?_
    refine E.app el_u8 hs.swap hrw ?_
    intro a8 c8 w8 _ _ hs
    refine go ?_
    have e8 : (headB t ++ catB (ls.take i)).length + (wrapB ls[i]).length = (headB t ++ catB (ls.take (i + 1))).length := by rw [htk, catB_snoc]; simp [Nat.add_assoc]
    have e9 : bs (headB t ++ catB (ls.take i)) ++ bs (wrapB ls[i]) = bs (headB t ++ catB (ls.take (i + 1))) := by rw [← bs_append, htk, catB_snoc, List.append_assoc]
    rw [e8, e9] at hs
    rw [e8]
    exact A.rd (n - (i + 1)) (i + 1, a8, c8) ⟨rfl, by simp only; omega, hs.d1⟩

def sumS (ls : List (List UInt8)) : Nat := (ls.map fun x => x.length + 10).sum
theorem sumS_snoc (ls : List (List UInt8)) (x : List UInt8) : sumS (ls ++ [x]) = sumS ls + (x.length + 10) := by simp [sumS]
theorem sumS_take (ls : List (List UInt8)) (i : Nat) : sumS (ls.take i) ≤ sumS ls := by
  have : sumS ls = sumS (ls.take i) + sumS (ls.drop i) := by
    have h : sumS (ls.take i ++ ls.drop i) = sumS (ls.take i) + sumS (ls.drop i) := by
      simp only [sumS, List.map_append, List.sum_append]
    rw [List.take_append_drop] at h
    exact h
  omega

set_option maxHeartbeats 1600000 in
set_option maxRecDepth 100000 in
theorem short_any {R : Ending → World → Prop} {W w : World} {g : Hl} {H : List HP} {n c : Nat} {a : Option Addr} {ls : List (List UInt8)} (hs : Sat W w g H) (hl : LB g a n c ls) (hb : sumS ls ≤ 1000000000000000)
    (hR : ∀ w', Sat W w' g H → R (.returned (.bool (decide (sumS ls ≤ 2000)))) w') :
    Calls Try.prog 9 #[.slice a n c] w R := by
  have HR := Lib.hid hR
  clear hR
  have hll := hl.len
  have hle := hl.le
  refine C.calls (args := [.slice a n c]) Try.func9 rfl rfl rfl ?_
  refine gob ?_
  refine C.block ?_
  refine C.lp (fun i : Nat => [(0, .slice a n c), (3, .int .i64 (sumS (ls.take i) : Nat)), (4, .int .i64 i)])
    (fun gk i w => gk = n - i ∧ i ≤ n ∧ Sat W w g H) n 0 ⟨rfl, Nat.zero_le _, hs⟩ ?_
  clear hs
  rintro gk i w4 ⟨rfl, hi, hs⟩
  refine go ?_
  refine C.cond_dec (p := (i : Int) < n) rfl (fun hlt => ?_) (fun hlt => ?_)
  rotate_left
  · have hin : i = n := by omega
    have ht2 : ls.take i = ls := List.take_of_length_le (by omega)
    rw [ht2]
    refine go ?_
    refine A.r1 ?_
    have := HR.out _ hs
    have e : decide ((sumS ls : Int) ≤ 2000) = decide (sumS ls ≤ 2000) := by
      by_cases h : sumS ls ≤ 2000
      · simp [h]; omega
      · simp [h]; omega
    rw [e]
    exact this
  · have hin : i < n := by omega
    obtain ⟨xs, hpx, a5, c5, hxi, hp5⟩ := hl.get hin
    have hil : i < ls.length := by omega
    have htk : ls.take (i + 1) = ls.take i ++ [ls[i]] := List.take_succ_eq_append_getElem hil
    have hst := sumS_take ls (i + 1)
    rw [htk, sumS_snoc] at hst
    have e8 : sumS (ls.take (i + 1)) = sumS (ls.take i) + (ls[i].length + 10) := by rw [htk, sumS_snoc]
    refine go ?_
    refine E.ix el_row hs hpx i hxi ?_
    intro b6 o6 hc6
    refine go ?_
    exact A.rd (n - (i + 1)) (i + 1) ⟨rfl, by omega, hs⟩ (hw := by rw [e8]; exact wk_)

theorem take_ne_same {ls ms : List (List UInt8)} {i : Nat} (hi : i < ls.length) (hj : i < ms.length) (h : ls[i] ≠ ms[i]) : ls ≠ ms := fun e => by
  subst e; exact h rfl

set_option maxHeartbeats 1600000 in
set_option maxRecDepth 100000 in
theorem same_any {R : Ending → World → Prop} {W w : World} {g : Hl} {H : List HP} {n c n' c' : Nat} {a a' : Option Addr} {ls ms : List (List UInt8)} (hs : Sat W w g H) (hl : LB g a n c ls) (hm : LB g a' n' c' ms)
    (hR : ∀ w', Sat W w' g H → R (.returned (.bool (decide (ls = ms)))) w') :
    Calls Try.prog 15 #[.slice a n c, .slice a' n' c'] w R := by
  have HR := Lib.hid hR
  clear hR
  have hll := hl.len
  have hle := hl.le
  have hml := hm.len
  have hme := hm.le
  refine C.calls (args := [.slice a n c, .slice a' n' c']) Try.func15 rfl rfl rfl ?_
  refine go ?_
  by_cases hnn : n = n'
  rotate_left
  · have hd : decide ((n : Int) = n') = false := by simp; omega
    rw [hd]
    refine go ?_
    refine A.r1 ?_
    have := HR.out _ hs
    rw [decide_eq_false (fun e => hnn (by rw [← hll, ← hml, e]))] at this
    exact this
  subst hnn
  refine gob ?_
  refine C.cond_false (by simp; rfl) ?_
  refine gob ?_
  refine C.block ?_
  refine C.lp (fun i : Nat => [(0, .slice a n c), (1, .slice a' n c'), (5, .int .i64 i)])
    (fun gk i w => gk = n - i ∧ i ≤ n ∧ ls.take i = ms.take i ∧ Sat W w g H) n 0 ⟨rfl, Nat.zero_le _, by simp, hs⟩ ?_
  clear hs
  rintro gk i w4 ⟨rfl, hi, heq, hs⟩
  refine go ?_
  refine C.cond_dec (p := (i : Int) < n) rfl (fun hlt => ?_) (fun hlt => ?_)
  rotate_left
  · have hin : i = n := by omega
    refine go ?_
    refine A.r1 ?_
    have := HR.out _ hs
    rw [List.take_of_length_le (by omega), List.take_of_length_le (by omega)] at heq
    rw [decide_eq_true heq] at this
    exact this
  · have hin : i < n := by omega
    obtain ⟨xs, hpx, a5, c5, hxi, hp5⟩ := hl.get hin
    obtain ⟨ys, hpy, a6, c6, hyi, hp6⟩ := hm.get hin
    have hil : i < ls.length := by omega
    have him : i < ms.length := by omega
    refine go ?_
    refine C.held (Keeps g []) hs ?_
    intro w5 hs
    have hk : Keeps g [] w5 := .of0 hs
    refine goh ?_
    refine EH.ix el_row hpx i hxi hk (fun _ h => h) ?_
    intro b7 o7 hr7
    refine goh ?_
    refine EH.strc hp5 hk (fun _ h => h) Try.underlying37 Try.underlying5 Try.underlying9 ?_
    refine goh ?_
    refine EH.ix el_row hpy i hyi hk (fun _ h => h) ?_
    intro b8 o8 hr8
    refine goh ?_
    refine EH.strc hp6 hk (fun _ h => h) Try.underlying37 Try.underlying5 Try.underlying9 ?_
    refine goh ?_
    refine EH.done ?_
    refine go ?_
    by_cases he : ls[i] = ms[i]
    · refine C.cond rfl (fun h => by simp [he] at h) (fun _ => ?_)
      refine go ?_
      exact A.rd (n - (i + 1)) (i + 1) ⟨rfl, by omega, by rw [List.take_succ_eq_append_getElem hil, List.take_succ_eq_append_getElem him, heq, he], hs⟩
    · refine C.cond rfl (fun _ => ?_) (fun h => by simp [he] at h)
      refine go ?_
      refine A.r1 ?_
      have := HR.out _ hs
      rw [decide_eq_false (take_ne_same hil him he)] at this
      exact this
end Go.Proofs.Ytcfbmmlgdopbmaa
