/-
  What stands ahead of a byte in a word, and behind it.
-/
import Derived.Test.YtgciifalclgeeaaGreatDoorM02
import Derived.Test.YtgciifalclgeeaaGreatDoorRows
import Derived.OpenShut
import Derived.ChangeOld
import Derived.Laws.Cover2
import Derived.Stop.LaidErr
import Derived.MakeChecks
import Derived.Lib.LaidTab
import Derived.ChangeArms
import Derived.RowKit
import Derived.WideShapes
import Derived.ChangeShapes
import Derived.ChangeSlices
import Derived.ChangeSame
import Derived.LaidMore
namespace Go.Proofs.YtgciifalclgeeaaGreatDoor
open Go.RowKit
set_option linter.unusedVariables false
set_option linter.unusedSimpArgs false
set_option maxHeartbeats 1600000 in
set_option maxRecDepth 100000 in
theorem cut_lite {R : Ending → World → Prop} {W w : World} {g : Hl} {H : List HP} {s : List UInt8} {c : UInt8} (hl : s.length ≤ 1000000000) (hs : Sat W w g H)
    (h1 : ∀ k : Nat, ixB c s = k → k < s.length → ∀ w', Sat W w' g H → R (.returned (.tuple #[str (s.take k), str (s.drop (k + 1)), .bool true])) w')
    (h2 : ixB c s < 0 → ∀ w', Sat W w' g H → R (.returned (.tuple #[str s, str [], .bool false])) w') :
    Calls Tryz.prog 37 #[str s, str [c]] w R := by
  have H1 := Lib.hid h1
  have H2 := Lib.hid h2
  clear h1 h2
  have hb := ixB_ge c s
  refine C.calls (args := [str s, str [c]]) Tryz.func37 rfl rfl rfl ?_
  refine go ?_
  refine E.callf Tryz.func53 rfl ?_
  refine index1_any hl ?_
  have e0 : str s = .string ⟨s.toArray⟩ := rfl
  have e1 : str [c] = .string ⟨[c].toArray⟩ := rfl
  rw [e0, e1]
  clear e0 e1
  refine go ?_
  refine C.cond_dec (p := (0 : Int) ≤ ixB c s) rfl (fun h => ?_) (fun h => ?_)
  · obtain ⟨k, hk⟩ := Int.eq_ofNat_of_zero_le h
    have hkl : k < s.length := by omega
    replace H1 := Lib.hid (H1.out k hk hkl)
    rw [hk]
    clear hk hb h
    refine go ?_
    refine C.held0 hs ?_
    intro w2 hk hs
    refine goh ?_
    refine EH.t0 hk ?_ (hy := Pf.pv (Pv.supto (l := s) Tryz.underlying9 k (by omega) rfl rfl rfl))
    refine goh ?_
    have ek : IntKind.i64.wrap ((k : Int) + ([c].length : Int)) = ((k + 1 : Nat) : Int) := by
      rw [show ([c].length : Int) = 1 from rfl]
      exact wrap64_id (by omega) (by omega)
    rw [ek]
    refine EH.t0 hk ?_ (hy := Pf.pv (Pv.sfrom (l := s) Tryz.underlying9 (k + 1) (by omega) rfl rfl rfl))
    refine goh ?_
    refine EH.done ?_
    refine go ?_
    refine A.r3 ?_
    exact H1.out _ hs
  · refine go ?_
    refine A.r3 ?_
    exact H2.out (by omega) _ hs
set_option maxHeartbeats 1600000 in
set_option maxRecDepth 100000 in
theorem cut1_any {R : Ending → World → Prop} {W w : World} {g : Hl} {H : List HP} {s : List UInt8} {c : UInt8} (hl : s.length ≤ 1000000000) (hs : Sat W w g H)
    (h1 : ∀ k : Nat, ixB c s = k → k < s.length → ∀ w', Sat W w' g H → R (.returned (.tuple #[str (s.take k), str (s.drop (k + 1)), .bool true])) w')
    (h2 : ixB c s < 0 → ∀ w', Sat W w' g H → R (.returned (.tuple #[str s, str [], .bool false])) w') :
    Calls Tryz.prog 21 #[str s, str [c]] w R := by
  have H1 := Lib.hid h1
  have H2 := Lib.hid h2
  clear h1 h2
  refine C.calls (args := [str s, str [c]]) Tryz.func21 rfl rfl rfl ?_
  refine go ?_
  refine E.callf Tryz.func37 rfl ?_
  refine cut_lite hl hs ?_ ?_
  · intro k hk hkl w2 hs
    refine go ?_
    refine A.r3 ?_
    exact H1.out k hk hkl _ hs
  · intro hk w2 hs
    refine go ?_
    refine A.r3 ?_
    exact H2.out hk _ hs
end Go.Proofs.YtgciifalclgeeaaGreatDoor

/-
  The words of a line, one by one; a word as a number.
-/
namespace Go.Proofs.YtgciifalclgeeaaGreatDoor
open Go.RowKit
set_option linter.unusedVariables false
set_option linter.unusedSimpArgs false
theorem parseM_le (M : Nat) : ∀ (l : List UInt8) (acc u : Nat), acc ≤ M → Lib.parseUintM M acc l = .ok u → u ≤ M
  | [], acc, u, ha, h => by
    simp only [Lib.parseUintM, Lib.NumEnd.ok.injEq] at h
    omega
  | c :: r, acc, u, ha, h => by
    simp only [Lib.parseUintM] at h
    split at h
    · split at h
      · cases h
      · split at h
        · cases h
        · exact parseM_le M r _ u (by omega) h
    · cases h
theorem parseUintI10_any {R : Ending → World → Prop} {W w : World} {g : Hl} {H : List HP} {l : List UInt8} (hl : l.length ≤ 1000000000) (hs : Sat W w g H)
    (hOK : ∀ (v : Nat) w', v < 18446744073709551616 → Sat W w' g H → R (.returned (.tuple #[.int .u64 v, .nilIface])) w')
    (hE : ∀ (v : Nat) (k : Int) w', v < 18446744073709551616 → (k = 1 ∨ k = 2) → Sat W w' g H → R (.returned (.tuple #[.int .u64 v, .iface 103 (.int .i64 k)])) w') : Calls Tryz.prog 46 #[str l, .int .i64 10, .int .i64 64] w R := by
  have hsz : (⟨l.toArray⟩ : ByteArray).size = l.length := by simp [ByteArray.size]
  refine Calls.mono (Any.internal_strconv_ParseUint_10_at64 Tryz.lay287 ⟨l.toArray⟩ (by omega) w) fun e w' ⟨he, hw⟩ => ?_
  have hs2 : Sat W w' g H := by
    rcases hw with rfl | rfl
    · exact hs
    · exact hs.underD (Lib.bytesWorld_below _ _ _)
  subst he
  cases h : Lib.parseUintB 64 (⟨l.toArray⟩ : ByteArray).data.toList with
  | ok v =>
    refine hOK v _ ?_ hs2
    unfold Lib.parseUintB at h
    split at h
    · cases h
    · have := parseM_le _ _ _ _ (Nat.zero_le _) h
      omega
  | range => exact hE 18446744073709551615 1 _ (by decide) (.inl rfl) hs2
  | _ => exact hE 0 2 _ (by decide) (.inr rfl) hs2
set_option maxHeartbeats 1600000 in
set_option maxRecDepth 100000 in
theorem parseUint10_any {R : Ending → World → Prop} {W w : World} {g : Hl} {H : List HP} {l : List UInt8} (hg : GlD g) (hl : l.length ≤ 1000000000) (hs : Sat W w g H)
    (hOK : ∀ (v : Nat) w', v < 18446744073709551616 → Sat W w' g H → R (.returned (.tuple #[.int .u64 v, .nilIface])) w')
    (hE : ∀ (v : Nat) t p w', v < 18446744073709551616 → Sat W w' g H → R (.returned (.tuple #[.int .u64 v, .iface t p])) w') : Calls Tryz.prog 30 #[str l, .int .i64 10, .int .i64 64] w R := by
  have HOK := Lib.hid hOK
  have HE := Lib.hid hE
  clear hOK hE
  have k2 : ∀ {R : Ending → World → Prop} {w : World} (k : Int), (k = 1 ∨ k = 2) → Sat W w g H → (∀ t p w', Sat W w' g H → R (.returned (.iface t p)) w') → Calls Tryz.prog 47 #[.string ⟨#[80, 97, 114, 115, 101, 85, 105, 110, 116]⟩, str l, .int .i64 10, .int .i64 64, .iface 103 (.int .i64 k)] w R := fun {R w} k hk hs h => by
    have hsz : (⟨l.toArray⟩ : ByteArray).size = l.length := by simp [ByteArray.size]
    rcases hk with rfl | rfl
    · obtain ⟨t, p, hc⟩ := hg.er
      refine Calls.mono (Any.strconv_toError_range Tryz.lay245 ⟨#[80, 97, 114, 115, 101, 85, 105, 110, 116]⟩ ⟨l.toArray⟩ 10 64 (.iface t p) w (by omega) (hc.at hs) (.inr ⟨t, p, rfl⟩)) fun e w' ⟨N, he, _, _, hb⟩ => ?_
      subst he
      exact h _ _ _ (hs.underD hb)
    · obtain ⟨t, p, hc⟩ := hg.es
      refine Calls.mono (Any.strconv_toError_syntax Tryz.lay245 ⟨#[80, 97, 114, 115, 101, 85, 105, 110, 116]⟩ ⟨l.toArray⟩ 10 64 (.iface t p) w (by omega) (hc.at hs) (.inr ⟨t, p, rfl⟩)) fun e w' ⟨N, he, _, _, hb⟩ => ?_
      subst he
      exact h _ _ _ (hs.underD hb)
  refine C.calls (args := [str l, .int .i64 10, .int .i64 64]) Tryz.func30 rfl rfl rfl ?_
  refine go ?_
  refine E.callf Tryz.func46 rfl ?_
  refine parseUintI10_any hl hs ?_ ?_
  · intro v w2 hv hs
    refine go ?_
    refine A.r2 ?_
    exact HOK.out v _ hv hs
  · intro v k w2 hv hk hs
    refine go ?_
    refine E.callf Tryz.func47 rfl ?_
    refine k2 k hk hs ?_
    intro t p w3 hs
    refine go ?_
    refine A.r2 ?_
    exact HE.out v t p _ hv hs
/-- The next word up to one blank, and what stands behind it. -/
def wordB (s : List UInt8) : List UInt8 := if ixB 32 s < 0 then s else s.take (ixB 32 s).toNat
def restB (s : List UInt8) : List UInt8 := if ixB 32 s < 0 then [] else s.drop ((ixB 32 s).toNat + 1)
set_option maxHeartbeats 1600000 in
set_option maxRecDepth 100000 in
theorem word_any {R : Ending → World → Prop} {W w : World} {g : Hl} {H : List HP} {b : Nat} {s : List UInt8} {bad : Bool} (hl : s.length ≤ 1000000000) (hs : Sat W w g (blk b [.string ⟨s.toArray⟩, .bool bad] 47 :: H))
    (hR : ∀ w', Sat W w' g (blk b [.string ⟨(restB s).toArray⟩, .bool bad] 47 :: H) → R (.returned (str (wordB s))) w') : Calls Tryz.prog 17 #[.pointer (some ⟨b, 0, none⟩)] w R := by
  have HR := Lib.hid hR
  clear hR
  refine C.calls (args := [.pointer (some ⟨b, 0, none⟩)]) Tryz.func17 rfl rfl rfl ?_
  refine go ?_
  refine E.callf Tryz.func21 rfl ?_
  refine cut1_any (s := s) (c := 32) hl hs ?_ ?_
  · intro k hk hkl w2 hs
    have er : restB s = s.drop (k + 1) := by rw [restB, if_neg (by omega), hk]; rfl
    have ew : wordB s = s.take k := by rw [wordB, if_neg (by omega), hk]; rfl
    rw [er, ew] at HR
    rw [show str (s.drop (k + 1)) = .string ⟨(s.drop (k + 1)).toArray⟩ from rfl]
    refine go ?_
    refine E.sto hs ?_
    intro w3 hs
    refine go ?_
    refine A.r1 ?_
    exact HR.out _ hs
  · intro hk w2 hs
    have er : restB s = [] := by rw [restB, if_pos hk]
    have ew : wordB s = s := by rw [wordB, if_pos hk]
    rw [er, ew] at HR
    rw [show str [] = .string ⟨([] : List UInt8).toArray⟩ from rfl]
    refine go ?_
    refine E.sto hs ?_
    intro w3 hs
    refine go ?_
    refine A.r1 ?_
    exact HR.out _ hs
theorem word_len (s : List UInt8) : (wordB s).length ≤ s.length := by
  unfold wordB
  split
  · omega
  · rw [List.length_take]; omega
set_option maxHeartbeats 1600000 in
set_option maxRecDepth 100000 in
theorem pnum_any {R : Ending → World → Prop} {W w : World} {g : Hl} {H : List HP} {b : Nat} {s : List UInt8} {bad : Bool} (hg : GlD g) (hl : s.length ≤ 1000000000) (hs : Sat W w g (blk b [.string ⟨s.toArray⟩, .bool bad] 47 :: H))
    (hR : ∀ (v : Nat) bad' w', v < 18446744073709551616 → Sat W w' g (blk b [.string ⟨(restB s).toArray⟩, .bool bad'] 47 :: H) → R (.returned (.int .u64 v)) w') : Calls Tryz.prog 16 #[.pointer (some ⟨b, 0, none⟩)] w R := by
  have HR := Lib.hid hR
  clear hR
  have hwl := word_len s
  have fmt : ∀ {R : Ending → World → Prop} {w : World} (v : Nat), v < 18446744073709551616 → Sat W w g (blk b [.string ⟨(restB s).toArray⟩, .bool false] 47 :: H) → (∀ w', Sat W w' g (blk b [.string ⟨(restB s).toArray⟩, .bool false] 47 :: H) → R (.returned (.string ⟨(Lib.decDigits v).toArray⟩)) w') → Calls Tryz.prog 12 #[.int .u64 v, .int .i64 10] w R := fun v hv hs h => formatUint10_any hg hv hs h
  refine C.calls (args := [.pointer (some ⟨b, 0, none⟩)]) Tryz.func16 rfl rfl rfl ?_
  refine go ?_
  refine E.callf Tryz.func17 rfl ?_
  refine word_any (s := s) (bad := bad) hl hs ?_
  intro w2 hs
  refine go ?_
  refine E.callf Tryz.func30 rfl ?_
  refine parseUint10_any (l := wordB s) hg (by omega) hs ?_ ?_
  · intro v w3 hv hs
    rw [show str (wordB s) = .string ⟨(wordB s).toArray⟩ from rfl]
    cases bad with
    | true =>
      refine go ?_
      refine E.sto hs ?_
      intro w4 hs
      refine go ?_
      refine A.r1 ?_
      exact HR.out v _ _ hv hs
    | false =>
      refine go ?_
      refine E.callf Tryz.func12 rfl ?_
      refine fmt v hv hs ?_
      intro w4 hs
      refine go ?_
      refine E.sto hs ?_
      intro w5 hs
      refine go ?_
      refine A.r1 ?_
      exact HR.out v _ _ hv hs
  · intro v t p w3 hv hs
    cases bad with
    | true =>
      refine go ?_
      refine E.sto hs ?_
      intro w4 hs
      refine go ?_
      refine A.r1 ?_
      exact HR.out v _ _ hv hs
    | false =>
      refine go ?_
      refine E.sto hs ?_
      intro w4 hs
      refine go ?_
      refine A.r1 ?_
      exact HR.out v _ _ hv hs
end Go.Proofs.YtgciifalclgeeaaGreatDoor

/-
  The stepping engine: a[j] of an array by value, an element of one cell.
-/
namespace Go.Proofs.YtgciifalclgeeaaGreatDoor
open Go.RowKit
section
variable {P : Program} {n : Fm} {ρ : List (Nat × Value)} {w : World} {Q : Exit → Act → World → Prop} {ops : Array Oper} {rest : List Oper} {d : Option Tmp} {ty : TypeId} {ps : String} {af : Array Edge} {x y : Operand} {e t : TypeId}
theorem run_index_agg {cs : Array Value} {v : Value} {j m : Nat} {kd : IntKind} {i : Int} (ht : P.underlying t = some (.array m e)) (hq : ∀ w, (sizeOf e).run P w = .ok 1 w) (hg : ∀ w, (isAgg e).run P w = .ok false w) (hi : i = (j : Int)) (hj : j < m) (hv : cs[j]? = some v) (w : World) : (Instr.index t (.agg cs) (.int kd i)).run P w = .ok v w := by
  subst hi
  simp [Instr.index, run_underlying ht, asIntOf, hq, hj, part, hg, hv]
theorem E.ixv {cs : Array Value} {v : Value} {m : Nat} {kd : IntKind} {i : Int} (j : Nat) (ht : P.underlying t = some (.array m e)) (hv : cs[j]? = some v) (h : E P n ops rest (pushv d v ρ) w Q) (hq : ∀ w, (sizeOf e).run P w = .ok 1 w := by intro w; exact sz_) (hg : ∀ w, (isAgg e).run P w = .ok false w := by intro w; go_simp; done)
    (hx : evo n ρ x = some (.agg cs) := by exact rfl) (hy : evo n ρ y = some (.int kd i) := by exact rfl) (hi : i = (j : Int) := by first | rfl | omega) (hj : j < m := by omega) : E P n ops (⟨d, .index t x y, ty, ps, af, none⟩ :: rest) ρ w Q :=
  E.pv (Pv.index hx hy (run_index_agg ht hq hg hi hj hv)) h
end
end Go.Proofs.YtgciifalclgeeaaGreatDoor

/-
  What a line of three numbers is read as: nothing.
-/
namespace Go.Proofs.YtgciifalclgeeaaGreatDoor
open Go.RowKit
set_option linter.unusedVariables false
set_option linter.unusedSimpArgs false
set_option maxHeartbeats 1600000 in
set_option maxRecDepth 100000 in
theorem small_any28 {R : Ending → World → Prop} {w : World} {v : Nat} (hR : ∀ n : Nat, n ≤ 64 → R (.returned (.int .i64 n)) w) : Calls Tryz.prog 15 #[.int .u64 v] w R := by
  have HR := Lib.hid hR
  clear hR
  refine C.calls (args := [.int .u64 v]) Tryz.func15 rfl rfl rfl ?_
  refine go ?_
  rw [show (min (v : Int) 64) = ((min v 64 : Nat) : Int) by omega]
  refine A.r1 ?_
  exact HR.out _ (by omega)
theorem rest_len (s : List UInt8) : (restB s).length ≤ s.length := by
  unfold restB
  split
  · simp
  · rw [List.length_drop]
    omega
/-- The words of the kinds. -/
def verbsL : List (List UInt8) := [[], [115, 101, 116], [112, 117, 116], [97, 100, 100], [100, 114, 111, 112], [106, 111, 105, 110], [114, 101, 116, 105, 114, 101]]
/-- The variable that holds them. -/
def GlV (g : Hl) : Prop := ∃ e fz, g 0 = some (.cells (verbsL.map fun l => Value.string ⟨l.toArray⟩).toArray e fz)
theorem GlV.mono {g g' : Hl} (h : GlV g) (hg : Hl.le g g') : GlV g' := by
  obtain ⟨e, fz, h⟩ := h
  exact ⟨e, fz, hg _ _ h⟩
theorem GlV.set {g : Hl} (h : GlV g) : GlC g 0 1 (.string ⟨#[115, 101, 116]⟩) := by
  obtain ⟨e, fz, h⟩ := h
  exact ⟨_, _, _, h, rfl⟩
theorem GlV.range {W w : World} {g : Hl} {H : List HP} (h : GlV g) (hs : Sat W w g H) : w.rangeAt 0 0 (verbsL.map fun l => Value.string ⟨l.toArray⟩) := by
  obtain ⟨e, fz, h⟩ := h
  have := hs.pool h
  intro q u hu
  simp only [World.cell?, this, Nat.zero_add]
  simpa using hu
theorem ag_verbs : AggOf Tryz.prog 42 7 := ⟨_, Tryz.underlying42, rfl, by kernel_rfl⟩
set_option maxHeartbeats 3200000 in
set_option maxRecDepth 100000 in
theorem read_nums {R : Ending → World → Prop} {W w : World} {g : Hl} {H : List HP} {s : List UInt8} (hg : GlD g) (hv : GlV g) (hl : s.length ≤ 1000000) (h3 : restB (restB (restB s)) = []) (hs : Sat W w g H)
    (hR : ∀ w', Sat W w' g H → R (.returned (.tuple #[.agg #[.int .i64 0, .int .u64 0, .int .u64 0, .int .u8 0, .string ⟨#[]⟩, .slice none 0 0, .float .f64 0, .int .i64 0], .int .i64 4])) w') : Calls Tryz.prog 7 #[str s] w R := by
  have HR := Lib.hid hR
  clear hR
  have ag1 := ag_ev
  rw [show str s = .string ⟨s.toArray⟩ from rfl]
  refine C.calls (args := [.string ⟨s.toArray⟩]) Tryz.func7 rfl rfl rfl ?_
  refine go ?_
  refine E.al hs (xs := [.int .i64 0, .int .u64 0, .int .u64 0, .int .u8 0, .string ⟨#[]⟩, .slice none 0 0, .float .f64 0, .int .i64 0]) ?_ (hx := rfl)
  intro b1 w1 hs
  refine go ?_
  refine E.bx hs (xs := [.string ⟨s.toArray⟩, .bool false]) ?_ (hx := rfl)
  intro b2 w2 hs
  have r1 := rest_len s
  have r2 := rest_len (restB s)
  refine go ?_
  refine E.callf Tryz.func16 rfl ?_
  refine pnum_any (s := s) hg (by omega) hs ?_
  intro v1 bad1 w3 hv1 hs
  refine go ?_
  refine E.callf Tryz.func15 rfl ?_
  refine small_any28 ?_
  intro n1 hn1
  refine go ?_
  refine E.callf Tryz.func16 rfl ?_
  refine pnum_any (s := restB s) hg (by omega) hs ?_
  intro v2 bad2 w4 hv2 hs
  refine go ?_
  refine E.callf Tryz.func16 rfl ?_
  refine pnum_any (s := restB (restB s)) hg (by omega) hs ?_
  intro v3 bad3 w5 hv3 hs
  rw [h3] at hs
  refine go ?_
  refine E.al hs (xs := [.int .i64 0, .int .u64 0, .int .u64 0, .int .u8 0, .string ⟨#[]⟩, .slice none 0 0, .float .f64 0, .int .i64 0]) ?_ (hx := rfl)
  intro b3 w6 hs
  refine go ?_
  refine E.sto hs ?_
  intro w7 hs
  refine go ?_
  refine E.callf Tryz.func17 rfl ?_
  refine word_any (s := []) (bad := bad3) (by decide) hs.swap ?_
  intro w8 hs
  rw [show restB [] = [] from rfl] at hs
  rw [show str (wordB []) = .string ⟨([] : List UInt8).toArray⟩ from rfl]
  replace hs := hs.swap
  refine go ?_
  refine E.ldr (cs := verbsL.map fun l => Value.string ⟨l.toArray⟩) (hv.range hs) ag_verbs rfl ?_
  refine go ?_
  refine C.lp (fun x : Nat => [(2, .pointer (some ⟨b1, 0, none⟩)), (4, .pointer (some ⟨b2, 0, none⟩)), (5, .pointer (some ⟨b3, 0, none⟩)), (6, .string ⟨([] : List UInt8).toArray⟩), (25, .agg (verbsL.map fun l => Value.string ⟨l.toArray⟩).toArray), (26, .int .i64 x)])
    (fun gk x w' => gk = 7 - x ∧ x ≤ 7 ∧ Sat W w' g (blk b3 [.int .i64 n1, .int .u64 v2, .int .u64 v3, .int .u8 0, .string ⟨#[]⟩, .slice none 0 0, .float .f64 0, .int .i64 0] 26 :: blk b2 [.string ⟨([] : List UInt8).toArray⟩, .bool bad3] 47 :: blk b1 [.int .i64 0, .int .u64 0, .int .u64 0, .int .u8 0, .string ⟨#[]⟩, .slice none 0 0, .float .f64 0, .int .i64 0] 26 :: H)) 7 0 ⟨rfl, by decide, hs⟩ ?_
  clear hs
  rintro gk i w9 ⟨rfl, hi, hs⟩
  refine go ?_
  refine C.cond_dec (p := (i : Int) < 7) rfl (fun hlt => ?_) (fun hlt => ?_)
  · have hi7 : i < 7 := by omega
    have hcv : ((verbsL.map fun l => Value.string ⟨l.toArray⟩).toArray)[i]? = some (.string ⟨(verbsL.getD i []).toArray⟩) := by
      rw [List.getElem?_toArray, List.getElem?_map, List.getD_eq_getElem?_getD, List.getElem?_eq_getElem (show i < verbsL.length from hi7)]
      rfl
    refine go ?_
    refine E.ixv i Tryz.underlying42 hcv ?_
    refine go ?_
    cases hq : decide (verbsL.getD i [] = []) with
    | true =>
      refine go ?_
      exact A.rd (7 - (i + 1)) (i + 1) ⟨rfl, hi7, hs⟩
    | false =>
      refine go ?_
      exact A.rd (7 - (i + 1)) (i + 1) ⟨rfl, hi7, hs⟩
  · refine go ?_
    cases bad3 with
    | true =>
      refine go ?_
      refine E.sto hs ?_
      intro w10 hs
      refine go ?_
      refine A.c1t1 rfl rfl rfl (run_lda hs.pull2 ag_ev) ?_
      exact HR.out _ hs.drop.drop.drop
    | false =>
      refine go ?_
      refine E.sto hs ?_
      intro w10 hs
      refine go ?_
      refine A.c1t1 rfl rfl rfl (run_lda hs.pull2 ag_ev) ?_
      exact HR.out _ hs.drop.drop.drop
end Go.Proofs.YtgciifalclgeeaaGreatDoor

/-
  Lines without a word, and the line of the document's example.
-/
namespace Go.Proofs.YtgciifalclgeeaaGreatDoor
open Go.RowKit
set_option linter.unusedVariables false
set_option linter.unusedSimpArgs false
/-- The three numbers of a line. -/
def numsB (n s t : Nat) : List UInt8 := ((Lib.decDigits n ++ [32]) ++ Lib.decDigits s ++ [32]) ++ Lib.decDigits t
set_option maxHeartbeats 3200000 in
set_option maxRecDepth 100000 in
theorem line_none {R : Ending → World → Prop} {W w : World} {g : Hl} {H : List HP} {e : Ev} {n : Nat} (hg : GlD g) (hn : n < 64) (hwr : e.wr = n) (hsq : e.sq < 18446744073709551616) (htm : e.tm < 18446744073709551616) (hkd : 6 < e.kd) (hk2 : e.kd < 256) (hs : Sat W w g H)
    (hR : ∀ w', Sat W w' g H → R (.returned (str (numsB n e.sq e.tm))) w') : Calls Tryz.prog 6 #[e.val] w R := by
  have HR := Lib.hid hR
  clear hR
  have ag1 := ag_ev
  have l1 := dec_len (u := n) (by omega)
  have l2 := dec_len hsq
  have l3 := dec_len htm
  refine C.calls (args := [e.val]) Tryz.func6 rfl rfl rfl ?_
  refine go ?_
  refine E.bx hs (xs := e.cs) ?_ (hx := rfl)
  intro b1 w1 hs
  refine gob ?_
  refine C.held1 b1 hs ?_
  intro w2 hk hs
  refine goh ?_
  refine EH.one (St.callf Tryz.func11 rfl ?_)
  refine itoa10_any (u := n) hwr hg (by omega) hs ?_
  clear hs
  intro w3 hs
  refine kept1 hs (fun hk => ?_)
  rw [show str (Lib.decDigits n) = .string ⟨(Lib.decDigits n).toArray⟩ from rfl]
  refine goh ?_
  refine EH.one (St.callf Tryz.func12 rfl ?_)
  refine formatUint10_any hg hsq hs ?_
  clear hs
  intro w4 hs
  refine kept1 hs (fun hk => ?_)
  rw [show str (Lib.decDigits e.sq) = .string ⟨(Lib.decDigits e.sq).toArray⟩ from rfl]
  refine goh ?_
  refine EH.one (St.callf Tryz.func12 rfl ?_)
  refine formatUint10_any hg htm hs ?_
  clear hs
  intro w5 hs
  refine kept1 hs (fun hk => ?_)
  rw [show str (Lib.decDigits e.tm) = .string ⟨(Lib.decDigits e.tm).toArray⟩ from rfl]
  refine goh ?_
  refine EH.done ?_
  refine go ?_
  rw [show decide ((e.kd : Int) < 1) = false from decide_eq_false (by omega)]
  refine go ?_
  rw [show decide ((6 : Int) < e.kd) = true from decide_eq_true (by omega)]
  refine go ?_
  refine A.r1 ?_
  exact HR.out _ hs.drop
set_option maxHeartbeats 3200000 in
set_option maxRecDepth 100000 in
theorem line_ex {R : Ending → World → Prop} {W w : World} {g : Hl} {H : List HP} {tv : Value} (hg : GlD g) (hv : GlC g 0 1 (.string ⟨#[115, 101, 116]⟩)) (htv : Pr 1 g tv 2 (bs [104, 105])) (hs : Sat W w g H)
    (hR : ∀ w' g', Hl.le g g' → Sat W w' g' H → R (.returned (.string ⟨#[48, 32, 49, 32, 50, 32, 115, 101, 116, 32, 120, 54, 98, 32, 120, 54, 56, 54, 57]⟩)) w') : Calls Tryz.prog 6 #[.agg #[.int .i64 0, .int .u64 1, .int .u64 2, .int .u8 1, .string ⟨#[107]⟩, tv, .float .f64 0, .int .i64 0]] w R := by
  have HR := Lib.hid hR
  clear hR
  have ag1 := ag_ev
  obtain ⟨a, c, rfl, hnc, _⟩ := htv.len
  have d0 : str (Lib.decDigits 0) = .string ⟨#[48]⟩ := by rw [dec_small (by decide)]; rfl
  have d1 : str (Lib.decDigits 1) = .string ⟨#[49]⟩ := by rw [dec_small (by decide)]; rfl
  have d2 : str (Lib.decDigits 2) = .string ⟨#[50]⟩ := by rw [dec_small (by decide)]; rfl
  refine C.calls (args := [.agg #[.int .i64 0, .int .u64 1, .int .u64 2, .int .u8 1, .string ⟨#[107]⟩, .slice a 2 c, .float .f64 0, .int .i64 0]]) Tryz.func6 rfl rfl rfl ?_
  refine go ?_
  refine E.bx hs (xs := [.int .i64 0, .int .u64 1, .int .u64 2, .int .u8 1, .string ⟨#[107]⟩, .slice a 2 c, .float .f64 0, .int .i64 0]) ?_ (hx := rfl)
  intro b1 w1 hs
  refine gob ?_
  refine C.held1 b1 hs ?_
  intro w2 hk hs
  refine goh ?_
  refine EH.one (St.callf Tryz.func11 rfl ?_)
  refine itoa10_any (u := 0) rfl hg (by omega) hs ?_
  clear hs
  intro w3 hs
  refine kept1 hs (fun hk => ?_)
  rw [d0]
  refine goh ?_
  refine EH.one (St.callf Tryz.func12 rfl ?_)
  refine formatUint10_any (u := 1) hg (by decide) hs ?_
  clear hs
  intro w4 hs
  refine kept1 hs (fun hk => ?_)
  rw [d1]
  refine goh ?_
  refine EH.one (St.callf Tryz.func12 rfl ?_)
  refine formatUint10_any (u := 2) hg (by decide) hs ?_
  clear hs
  intro w5 hs
  refine kept1 hs (fun hk => ?_)
  rw [d2]
  refine goh ?_
  refine EH.done ?_
  have cv := hv.at hs
  refine go ?_
  refine C.held1 b1 hs ?_
  clear cv
  intro w6 hk hs
  refine goh ?_
  refine EH.one (St.bytes (l := [107]) Tryz.underlying9 Tryz.underlying23 Tryz.underlying5 hs (by decide) ?_ (hx := rfl))
  intro b9 c9 w7 g7 hg7 hs hp7
  refine keptp1 hs (fun hk => ?_) hg7
  refine goh ?_
  refine EH.one (St.callf Tryz.func13 rfl ?_)
  refine hex_any (l := [107]) (by decide) hp7 hs ?_
  clear hs
  intro w8 hs
  refine kept1 hs (fun hk => ?_)
  rw [show str (120 :: [107].flatMap hex2) = .string ⟨[120, 54, 98].toArray⟩ from rfl]
  refine goh ?_
  refine EH.one (St.callf Tryz.func13 rfl ?_)
  refine hex_any (l := [104, 105]) (by decide) (htv.mono hg7) hs ?_
  clear hs
  intro w9 hs
  refine kept1 hs (fun hk => ?_)
  rw [show str (120 :: [104, 105].flatMap hex2) = .string ⟨[120, 54, 56, 54, 57].toArray⟩ from rfl]
  refine goh ?_
  refine EH.done ?_
  refine go ?_
  refine A.r1 ?_
  exact HR.out _ g7 hg7 hs.drop
end Go.Proofs.YtgciifalclgeeaaGreatDoor

/-
  TractNone, walked.
-/
namespace Go.Proofs.YtgciifalclgeeaaGreatDoor
open Go.RowKit
set_option linter.unusedVariables false
set_option linter.unusedSimpArgs false
theorem ixB_app {c : UInt8} {r : List UInt8} : ∀ {l : List UInt8}, c ∉ l → ixB c (l ++ c :: r) = l.length
  | [], _ => by simp [ixB]
  | x :: l, h => by
    have h1 := ixB_app (r := r) (l := l) (fun h' => h (List.mem_cons_of_mem _ h'))
    simp only [List.cons_append, ixB]
    rw [if_neg (by rintro rfl; exact h List.mem_cons_self), h1, if_neg (by omega)]
    simp
theorem ixB_none {c : UInt8} : ∀ {l : List UInt8}, c ∉ l → ixB c l < 0
  | [], _ => by simp [ixB]
  | x :: l, h => by
    have h1 := ixB_none (l := l) (fun h' => h (List.mem_cons_of_mem _ h'))
    simp only [ixB]
    rw [if_neg (by rintro rfl; exact h List.mem_cons_self), if_pos h1]
    decide
theorem dec_no {u : Nat} : (32 : UInt8) ∉ Lib.decDigits u := by
  induction u using Nat.strongRecOn with
  | _ u ih =>
  by_cases h : u < 10
  · rw [dec_small h]
    intro hm
    have := congrArg UInt8.toNat (List.mem_singleton.1 hm)
    rw [UInt8.toNat_ofNat', Nat.mod_eq_of_lt (by omega)] at this
    have h32 : (32 : UInt8).toNat = 32 := rfl
    omega
  · rw [dec_big h]
    intro hm
    rcases List.mem_append.1 hm with hm | hm
    · exact ih _ (by omega) hm
    · exact ih _ (by omega) hm
theorem rest_app {l r : List UInt8} (h : (32 : UInt8) ∉ l) : restB (l ++ 32 :: r) = r := by
  rw [restB, ixB_app h, if_neg (by omega), Int.toNat_natCast, List.drop_append, List.drop_eq_nil_of_le (by omega)]
  simp
theorem rest_none {l : List UInt8} (h : (32 : UInt8) ∉ l) : restB l = [] := by rw [restB, if_pos (ixB_none h)]
theorem rest_nums (n s t : Nat) : restB (restB (restB (numsB n s t))) = [] := by
  have e : numsB n s t = Lib.decDigits n ++ 32 :: (Lib.decDigits s ++ 32 :: Lib.decDigits t) := by simp [numsB]
  rw [e, rest_app dec_no, rest_app dec_no, rest_none dec_no]
theorem nums_len {n s t : Nat} (hn : n < 18446744073709551616) (hs : s < 18446744073709551616) (ht : t < 18446744073709551616) : (numsB n s t).length ≤ 62 := by
  have l1 := dec_len hn
  have l2 := dec_len hs
  have l3 := dec_len ht
  simp only [numsB, List.length_append, List.length_singleton]
  omega
set_option maxHeartbeats 1600000 in
set_option maxRecDepth 100000 in
theorem awake28_any {R : Ending → World → Prop} {W w : World} {g : Hl} {H : List HP} (hg : GlD g) (hv : GlV g) (hs : Sat W w g H) (hR : ∀ w' g', Hl.le g g' → Sat W w' g' H → R (.returned (.bool true)) w') : Calls Tryz.prog 4 #[] w R := by
  have HR := Lib.hid hR
  clear hR
  refine C.calls (args := []) Tryz.func4 rfl rfl rfl ?_
  refine go ?_
  refine E.bsl hs (e := 5) (cs := [.int .u8 104, .int .u8 105]) ?_
  intro b1 w1 hs
  refine go ?_
  refine E.cons (St.markBytes hs rfl Tryz.underlying23 Tryz.underlying5 rfl (by decide) ?_)
  clear hs
  intro w2 g1 hg1 hs hp1
  refine go ?_
  refine E.callf Tryz.func6 rfl ?_
  refine line_ex (hg.mono hg1) (hv.mono hg1).set hp1 hs ?_
  clear hs
  intro w3 g2 hg2 hs
  refine go ?_
  refine A.r1 ?_
  exact HR.out _ g2 (hg1.trans hg2) hs
set_option maxHeartbeats 1600000 in
set_option maxRecDepth 100000 in
theorem write_nil {R : Ending → World → Prop} {W w : World} {g : Hl} {H : List HP} (hs : Sat W w g H) (hR : ∀ w', Sat W w' g H → R (.returned (.string ⟨([] : List UInt8).toArray⟩)) w') : Calls Tryz.prog 10 #[.slice none 0 0] w R := by
  have HR := Lib.hid hR
  clear hR
  refine C.calls (args := [.slice none 0 0]) Tryz.func10 rfl rfl rfl ?_
  refine go ?_
  refine E.alw (xs := [.pointer none, .slice none 0 0]) ?_
  obtain ⟨B, hB⟩ : ∃ B, B = w.heap.size := ⟨_, rfl⟩
  obtain ⟨w1, e1⟩ : ∃ w1, w1 = w.alloc (.cells [.pointer none, .slice none 0 0].toArray 59) := ⟨_, rfl⟩
  rw [← hB, ← e1]
  have hb : Bld B [] w1 := by subst hB e1; exact Lib.fresh_isBuilder _ _ _
  have hw : Below B w w1 := by
    subst hB e1
    exact (Below.refl _ _).alloc (Nat.le_refl _) _
  have hu : ∀ {w'}, Below B w w' → Sat W w' g H := fun h => hs.underD (hB ▸ h)
  have hz : ∀ {w'}, Below B w w' → B ≤ w'.heap.size := fun h => by have := h.size; omega
  clear e1 hB hs
  refine go ?_
  refine C.lp (fun x : Nat => [(3, .pointer (some ⟨B, 0, none⟩)), (7, .int .i64 0), (8, .int .i64 0)]) (fun gk x w' => w' = w1) 0 0 rfl ?_
  rintro gk i w3 rfl
  refine go ?_
  refine E.callf Tryz.func24 rfl ?_
  refine bstring_any hb (hz hw) ?_
  intro w4 hw4
  refine go ?_
  refine A.r1 ?_
  exact HR.out _ (hu (hw.trans hw4))
set_option maxHeartbeats 1600000 in
set_option maxRecDepth 100000 in
theorem readAll_nil {R : Ending → World → Prop} {w : World} (hR : R (.returned (.tuple #[.slice none 0 0, .int .i64 0, .int .i64 0])) w) : Calls Tryz.prog 8 #[.string ⟨#[]⟩] w R := by
  have HR := Lib.hid hR
  clear hR
  refine C.calls (args := [.string ⟨#[]⟩]) Tryz.func8 rfl rfl rfl ?_
  refine go ?_
  refine C.lp (fun x : Nat => [(0, .string ⟨#[]⟩), (5, .slice none 0 0)]) (fun gk x w' => w' = w) 0 0 rfl ?_
  rintro gk i w3 rfl
  refine go ?_
  refine A.r3 ?_
  exact HR.out
set_option maxHeartbeats 3200000 in
set_option maxRecDepth 100000 in
theorem tnone_any {R : Ending → World → Prop} {W w : World} {g : Hl} {H : List HP} {e : Ev} {how : Nat} (hg : GlD g) (hv : GlV g) (hhow : how < 256) (he : e.sq < 18446744073709551616 ∧ e.tm < 18446744073709551616) (htv : ∃ a c, e.tv = .slice a e.text.length c) (hs : Sat W w g H)
    (hR : ∀ w' g', Hl.le g g' → Sat W w' g' H → R (.returned (.bool true)) w') : Calls Tryz.prog 3 #[e.val, .int .u8 how] w R := by
  have HR := Lib.hid hR
  clear hR
  have ag1 := ag_ev
  obtain ⟨a, c, etv⟩ := htv
  replace etv := Lib.hid etv
  refine C.calls (args := [e.val, .int .u8 how]) Tryz.func3 rfl rfl rfl ?_
  refine go ?_
  refine E.bx hs (xs := e.cs) ?_ (hx := rfl)
  intro b1 w1 hs
  refine go ?_
  refine E.callf Tryz.func4 rfl ?_
  refine awake28_any hg hv hs ?_
  clear hs
  intro w2 g2 hg2 hs
  refine go ?_
  cases hk1 : decide (64 < (e.key.length : Int)) with
  | true =>
    refine go ?_
    refine E.callf Tryz.func4 rfl ?_
    refine awake28_any (hg.mono hg2) (hv.mono hg2) hs ?_
    clear hs
    intro w3 g3 hg3 hs
    refine go ?_
    refine A.r1 ?_
    exact HR.out _ g3 (hg2.trans hg3) hs.drop
  | false =>
  refine go ?_
  have htx : e.tv = .slice a e.text.length c := etv.out
  rw [htx]
  clear htx
  refine go ?_
  cases hk2 : decide (100 < (e.text.length : Int)) with
  | true =>
    refine go ?_
    refine E.callf Tryz.func4 rfl ?_
    refine awake28_any (hg.mono hg2) (hv.mono hg2) hs ?_
    clear hs
    intro w3 g3 hg3 hs
    refine go ?_
    refine A.r1 ?_
    exact HR.out _ g3 (hg2.trans hg3) hs.drop
  | false =>
  refine go ?_
  refine E.callf Tryz.func5 rfl ?_
  refine near_any (e := e) he ⟨a, c, etv.out⟩ hs ?_
  clear hs hk1 hk2
  intro w3 e2 hn hs
  obtain ⟨ewr, esq, etm, ekd, ekey, etext, enum, end', etv2⟩ := e2
  obtain ⟨⟨n, hn64, hwr⟩, hsq, htm, htv2, htx2⟩ := hn
  simp only at hwr hsq htm htv2 htx2
  subst hwr htx2
  rw [etv.out] at htv2
  subst htv2
  refine go ?_
  refine E.sto (vs := [.int .i64 n, .int .u64 esq, .int .u64 etm, .int .u8 ekd, .string ⟨ekey.toArray⟩, .slice a e.text.length c, .float .f64 enum, .int .i64 end']) (ys := [.int .i64 n, .int .u64 esq, .int .u64 etm, .int .u8 ekd, .string ⟨ekey.toArray⟩, .slice a e.text.length c, .float .f64 enum, .int .i64 end']) hs ?_ (hv := rfl) (hsp := rfl)
  intro w4 hs
  refine go ?_
  rw [show (how : Int).tmod 200 = ((how % 200 : Nat) : Int) from (Int.ofNat_tmod how 200).symm]
  refine go ?_
  refine E.sto hs ?_
  intro w5 hs
  refine go ?_
  refine E.callf Tryz.func6 rfl ?_
  refine line_none (e := ⟨n, esq, etm, 7 + how % 200, ekey, e.text, enum, end', .slice a e.text.length c⟩) (n := n) (hg.mono hg2) hn64 rfl (by simp only; omega) (by simp only; omega) (by simp only; omega) (by simp only; omega) hs ?_
  intro w6 hs
  simp only
  rw [show str (numsB n esq etm) = .string ⟨(numsB n esq etm).toArray⟩ from rfl]
  refine go ?_
  refine E.callf Tryz.func7 rfl ?_
  refine read_nums (s := numsB n esq etm) (hg.mono hg2) (hv.mono hg2) (by have := nums_len (n := n) (s := esq) (t := etm) (by omega) (by omega) (by omega); omega) (rest_nums n esq etm) hs ?_
  intro w7 hs
  refine go ?_
  refine E.al hs (xs := [.int .i64 0, .int .u64 0, .int .u64 0, .int .u8 0, .string ⟨#[]⟩, .slice none 0 0, .float .f64 0, .int .i64 0]) ?_ (hx := rfl)
  intro b6 w8 hs
  refine go ?_
  refine E.sto hs ?_
  intro w9 hs
  refine go ?_
  refine E.callf Tryz.func8 rfl ?_
  refine readAll_nil ?_
  replace hs := hs.swap
  have l1 := dec_len (u := n) (by omega)
  have l2 := dec_len (u := esq) (by omega)
  have l3 := dec_len (u := etm) (by omega)
  refine gob ?_
  refine C.held1 b1 hs ?_
  intro w10 hk hs
  refine goh ?_
  refine EH.one (St.callf Tryz.func9 rfl ?_)
  refine num_any n (by omega) hs ?_
  clear hs
  intro w11 hs
  refine kept1 hs (fun hk => ?_)
  rw [show str (Lib.decDigits n) = .string ⟨(Lib.decDigits n).toArray⟩ from rfl]
  refine goh ?_
  refine EH.one (St.callf Tryz.func9 rfl ?_)
  refine num_any esq (by omega) hs ?_
  clear hs
  intro w12 hs
  refine kept1 hs (fun hk => ?_)
  rw [show str (Lib.decDigits esq) = .string ⟨(Lib.decDigits esq).toArray⟩ from rfl]
  refine goh ?_
  refine EH.one (St.callf Tryz.func9 rfl ?_)
  refine num_any etm (by omega) hs ?_
  clear hs
  intro w13 hs
  refine kept1 hs (fun hk => ?_)
  rw [show str (Lib.decDigits etm) = .string ⟨(Lib.decDigits etm).toArray⟩ from rfl]
  refine goh ?_
  rw [show decide (numsB n esq etm = Lib.decDigits n ++ [32] ++ Lib.decDigits esq ++ [32] ++ Lib.decDigits etm) = true from decide_eq_true rfl]
  refine goh ?_
  refine EH.one (St.guard rfl rfl (St.callf Tryz.func10 rfl ?_))
  refine write_nil hs ?_
  clear hs
  intro w14 hs
  refine kept1 hs (fun hk => ?_)
  refine goh ?_
  refine EH.done ?_
  refine go ?_
  refine A.r1 ?_
  exact HR.out _ g2 hg2 hs.drop.drop
end Go.Proofs.YtgciifalclgeeaaGreatDoor

/-
  What came in: bytes, rows of bytes; and how much it is.
-/
namespace Go.Proofs.YtgciifalclgeeaaGreatDoor
open Go.RowKit Go.ChangeShapes Go.WideShapes
set_option linter.unusedVariables false
set_option linter.unusedSimpArgs false
theorem bulk_one {H : Type} (d : DataW H) : 1 ≤ Rows.uptoBulk d := by
  cases d with
  | lit l => cases l <;> simp [Rows.uptoBulk]
  | nil => simp [Rows.uptoBulk]
  | ptr d => simp [Rows.uptoBulk]
  | slice elems spare => simp [Rows.uptoBulk]
  | agg parts => simp [Rows.uptoBulk]
  | iface t d => simp [Rows.uptoBulk]
  | map entries => simp [Rows.uptoBulk]
  | held h => simp [Rows.uptoBulk]
theorem bulk_all {H : Type} : ∀ (l : List (DataW H)), Rows.uptoBulkAll l = (l.map Rows.uptoBulk).sum
  | [] => by simp [Rows.uptoBulkAll]
  | x :: r => by simp [Rows.uptoBulkAll, bulk_all r]
theorem bulk_slice {H : Type} (a b : List (DataW H)) : Rows.uptoBulk (.slice a b) = (a.map Rows.uptoBulk).sum + (b.map Rows.uptoBulk).sum + 1 := by
  simp only [Rows.uptoBulk, bulk_all]
  try omega
theorem sum_ge {H : Type} (l : List (DataW H)) : l.length ≤ (l.map Rows.uptoBulk).sum := by
  induction l with
  | nil => simp
  | cons x r ih => have := bulk_one x; simp only [List.map_cons, List.sum_cons, List.length_cons]; omega
section
variable {H : Type} {enc : TypeId × Value → H} {P : Program} {w : World} {base : Nat} {held : Bool}
/-- The world's own blocks as a pool. -/
abbrev hp (w : World) : Hl := fun b => w.heap[b]?
theorem in_bytes {t e : TypeId} {fuel : Nat} {cs : List Value} {x : DataW H × List MemPlace} (ht : P.underlying t = some (.slice e)) (he : P.underlying e = some (.int .u8)) (hc : P.cellsOf e = 1)
    (h : DataW.trod enc P w base (fun _ => true) held fuel t cs = some x) : ∃ a n c, ∃ l : List UInt8, cs = [.slice a n c] ∧ l.length = n ∧ Pr 1 (hp w) (.slice a n c) n (bs l) ∧ l.length + 1 ≤ Rows.uptoBulk x.1 := by
  rcases open_ints ht he hc h with ⟨rfl, rfl⟩ | ⟨a, len, cap, zs, rfl, _, hl, hm, hz, rfl, hcell, hw⟩
  · exact ⟨none, 0, 0, [], rfl, rfl, Pr.nil, by simp [Rows.uptoBulk]⟩
  · simp only [if_true] at hz
    obtain ⟨l, h1, h2⟩ := pr_bytes (w := w) (a := some a) (len := len) (cap := cap) (zs := zs) (.inr ⟨a, rfl, hl, hm, hz, hcell, hw⟩)
    refine ⟨some a, len, cap, l, rfl, h1, h2, ?_⟩
    rw [bulk_slice]
    have := sum_ge (H := H) (lits .u8 (zs.take len))
    have hlen : (lits (H := H) .u8 (zs.take len)).length = len := by simp [lits, hz]; omega
    omega
end
end Go.Proofs.YtgciifalclgeeaaGreatDoor

/-
  What the calls of TractNone lean on, out of the row's laid variables.
-/
namespace Go.Proofs.YtgciifalclgeeaaGreatDoor
open Go.RowKit
set_option linter.unusedVariables false
set_option linter.unusedSimpArgs false
abbrev LaidN (W : World) : Prop := laidMetH Tryz.prog Rows.tractNoneRow.laid W
theorem n_tab {W : World} (h : LaidN W) : ∃ e fz, hp W 2 = some (.cells (Lib.pow10Tab.map fun z => Value.int .u64 z).toArray e fz) := by
  unfold LaidN at h
  rw [MakeChecks.laidMetH_plain _ _ _ (by kernel_rfl)] at h
  have t8 := h.tail.tail.tail.tail.tail.tail.tail.tail
  have gN : Program.globalNamed Tryz.prog "internal/strconv.uint64pow10" = some 2 := by kernel_rfl
  have tN : (Tryz.prog.globals[2]?).map (·.type) = some 96 := by kernel_rfl
  have ht := Lib.tabIs_of_head (k := .u64) (zs := Lib.pow10Tab) gN tN Tryz.underlying96 Tryz.underlying22 (by kernel_rfl) (by kernel_rfl) t8
  unfold Lib.TabIs World.var? at ht
  rw [gN] at ht
  simp only [Option.bind_some] at ht
  split at ht
  · rename_i cs e fz hh
    cases ht
    exact ⟨e, fz, hh⟩
  · cases ht
theorem n_er {W : World} (h : LaidN W) : ∃ t p, GlC (hp W) 6 0 (.iface t p) := by
  unfold LaidN at h
  rw [MakeChecks.laidMetH_plain _ _ _ (by kernel_rfl)] at h
  have h5 := h.tail.tail.tail.tail.tail.tail.tail.tail.tail.tail
  have gN : Program.globalNamed Tryz.prog "strconv.ErrRange" = some 6 := by kernel_rfl
  have tN : (Tryz.prog.globals[6]?).map (·.type) = some 61 := by kernel_rfl
  obtain ⟨ps, ⟨g0, t0, cs0, f0, p0, q0, hg0, ht0, hv0, hd0, _⟩, _, _⟩ := h5
  obtain rfl := Option.some.inj (gN.symm.trans hg0)
  obtain rfl := Option.some.inj (tN.symm.trans ht0)
  obtain ⟨l0⟩ := cs0
  obtain ⟨f1, u, v, e, _, _⟩ := iface_of_trod Tryz.underlying61 hd0
  obtain rfl : l0 = [.iface u v] := e
  refine ⟨u, v, GlC.of ?_⟩
  have := World.var?_cell gN hv0 0
  simpa using this
theorem n_es {W : World} (h : LaidN W) : ∃ t p, GlC (hp W) 5 0 (.iface t p) := by
  unfold LaidN at h
  rw [MakeChecks.laidMetH_plain _ _ _ (by kernel_rfl)] at h
  have h5 := h.tail.tail.tail.tail.tail.tail.tail.tail.tail.tail.tail
  have gN : Program.globalNamed Tryz.prog "strconv.ErrSyntax" = some 5 := by kernel_rfl
  have tN : (Tryz.prog.globals[5]?).map (·.type) = some 61 := by kernel_rfl
  obtain ⟨ps, ⟨g0, t0, cs0, f0, p0, q0, hg0, ht0, hv0, hd0, _⟩, _, _⟩ := h5
  obtain rfl := Option.some.inj (gN.symm.trans hg0)
  obtain rfl := Option.some.inj (tN.symm.trans ht0)
  obtain ⟨l0⟩ := cs0
  obtain ⟨f1, u, v, e, _, _⟩ := iface_of_trod Tryz.underlying61 hd0
  obtain rfl : l0 = [.iface u v] := e
  refine ⟨u, v, GlC.of ?_⟩
  have := World.var?_cell gN hv0 0
  simpa using this
theorem gld_row {W : World} (h : LaidN W) : GlD (hp W) := ⟨n_es h, n_er h, n_tab h⟩
theorem glv_row {W : World} (h : LaidN W) : GlV (hp W) := by
  unfold LaidN at h
  rw [MakeChecks.laidMetH_plain _ _ _ (by kernel_rfl)] at h
  have h12 := h.tail.tail.tail.tail.tail.tail.tail.tail.tail.tail.tail.tail
  have gN : Program.globalNamed Tryz.prog "anabranch/tract.verbs" = some 0 := by kernel_rfl
  have tN : (Tryz.prog.globals[0]?).map (·.type) = some 42 := by kernel_rfl
  obtain ⟨ps, ⟨g1, tt1, cs1, f1, p1, q1, hg1, ht1, hv1, hd1, _⟩, _, _⟩ := h12
  obtain rfl := Option.some.inj (gN.symm.trans hg1)
  obtain rfl := Option.some.inj (tN.symm.trans ht1)
  obtain ⟨xs, m1, rfl, hx1, hlen, hn3, hel⟩ := DataW.trod_array Tryz.underlying42 hd1
  have hc1 : Program.cellsOf Tryz.prog 9 = 1 := by kernel_rfl
  have hc7 : Program.cellsOf Tryz.prog 42 = 7 := by kernel_rfl
  rw [hc7] at hlen
  have hm : List.map (fun x => x.fst) xs = verbsL.map fun l => DataW.lit (.string l) := by
    have h1 := congrArg Prod.fst hx1
    simp only [Rows.laid_anabranch_tract_verbs, DataW.agg.injEq] at h1
    exact h1.symm
  have each : ∀ i, i < 7 → cs1.toList[i]? = (verbsL.map fun l => Value.string ⟨l.toArray⟩)[i]? := by
    intro i hi
    have hv7 : i < verbsL.length := hi
    have h1 := hel i hi
    rw [hc1, Nat.mul_one, List.getElem?_eq_getElem (by omega)] at h1
    obtain ⟨s, e1, e2, _⟩ := DataW.trod_string Tryz.underlying9 h1
    have h3 := congrArg (fun l => l[0]?) e1
    simp only [List.getElem?_take, List.getElem?_drop] at h3
    have h4 := congrArg (fun l => l[i]?) hm
    simp only [List.getElem?_map, List.getElem?_eq_getElem (show i < xs.length by omega), List.getElem?_eq_getElem hv7, Option.map_some, Option.some.injEq, e2] at h4
    have h5 : s.data.toList = verbsL[i] := by simpa using h4
    have h6 : s = ⟨verbsL[i].toArray⟩ := by
      rw [← h5]
    rw [List.getElem?_map, List.getElem?_eq_getElem hv7, Option.map_some, ← h6]
    simpa using h3
  have hcs : cs1 = (verbsL.map fun l => Value.string ⟨l.toArray⟩).toArray := by
    apply Array.ext'
    apply List.ext_getElem?
    intro i
    by_cases hi : i < 7
    · rw [each i hi]
    · rw [List.getElem?_eq_none (by omega), List.getElem?_eq_none (by rw [List.length_map]; show 7 ≤ i; omega)]
  unfold World.var? at hv1
  rw [gN] at hv1
  simp only [Option.bind_some] at hv1
  split at hv1
  · rename_i cs e fz hh
    cases hv1
    rw [hcs] at hh
    exact ⟨e, fz, hh⟩
  · cases hv1
end Go.Proofs.YtgciifalclgeeaaGreatDoor

/-
  What came in: an event.
-/
namespace Go.Proofs.YtgciifalclgeeaaGreatDoor
open Go.RowKit Go.ChangeShapes Go.WideShapes
set_option linter.unusedVariables false
set_option linter.unusedSimpArgs false
theorem trod_float {H : Type} {enc : TypeId × Value → H} {P : Program} {w : World} {base : Nat} {spare : Nat → Bool} {held : Bool} {fuel : Nat} {t : TypeId} {cs : List Value} {x : DataW H × List MemPlace} {k : FloatKind} (ht : P.underlying t = some (.float k)) (h : DataW.trod enc P w base spare held fuel t cs = some x) : ∃ b, cs = [.float k b] ∧ (Lit.float k b).wf = true := by
  cases fuel with
  | zero => simp [DataW.trod] at h
  | succ n =>
    unfold DataW.trod at h
    rw [ht] at h
    split at h <;> simp_all
/-- An event that came in. -/
structure EvIn (e : Ev) (w : World) : Prop where
  wr : -9223372036854775808 ≤ e.wr ∧ e.wr ≤ 9223372036854775807
  sq : e.sq < 18446744073709551616
  tm : e.tm < 18446744073709551616
  kd : e.kd < 256
  num : e.num < 18446744073709551616
  nd : -9223372036854775808 ≤ e.nd ∧ e.nd ≤ 9223372036854775807
  key : e.key.length ≤ maxLen
  tv : ∃ a c, e.tv = .slice a e.text.length c
  text : Pr 1 (hp w) e.tv e.text.length (bs e.text)
theorem EvIn.ok {e : Ev} {w : World} (h : EvIn e w) (hk : e.key.length ≤ 100000000) (ht : e.text.length ≤ 100000000) : e.ok (hp w) := ⟨h.wr, h.sq, h.tm, h.kd, h.num, h.nd, hk, ht, h.text⟩
set_option maxRecDepth 100000 in
theorem in_event {H : Type} {enc : TypeId × Value → H} {w : World} {base : Nat} {held : Bool} {r : Reach} {b0 : Nat} {v : Value} {d : DataW H} {ps : List MemPlace} (hval : Value.okWide Tryz.prog w r b0 26 v) (h : DataW.Trod enc Tryz.prog w base (fun _ => true) held 26 v d ps) :
    ∃ e : Ev, v = e.val ∧ EvIn e w := by
  obtain ⟨fuel, hf⟩ := h
  obtain ⟨cs, rfl, hsz⟩ : ∃ cs, v = .agg cs ∧ cs.size = Program.cellsOf Tryz.prog 26 := by
    unfold Value.okWide at hval
    rw [Tryz.underlying26] at hval
    obtain ⟨cs, h1, h2, _⟩ := hval
    exact ⟨cs, h1, h2⟩
  obtain ⟨xs, n, _, _, hl, hlen, hfi⟩ := DataW.trod_struct Tryz.underlying26 hf
  have h8 : Program.cellsOf Tryz.prog 26 = 8 := by kernel_rfl
  have c3 : Program.cellsOf Tryz.prog 3 = 1 := by kernel_rfl
  have c22 : Program.cellsOf Tryz.prog 22 = 1 := by kernel_rfl
  have c5 : Program.cellsOf Tryz.prog 5 = 1 := by kernel_rfl
  have c9 : Program.cellsOf Tryz.prog 9 = 1 := by kernel_rfl
  have c33 : Program.cellsOf Tryz.prog 23 = 1 := by kernel_rfl
  have cf : Program.cellsOf Tryz.prog 24 = 1 := by kernel_rfl
  rw [h8] at hsz
  match cs, hsz with
  | ⟨[v0, v1, v2, v3, v4, v5, v6, v7]⟩, _ =>
    have hx : xs.length = 8 := hlen
    have g0 : DataW.trod enc Tryz.prog w base (fun _ => true) held n 3 (([v0, v1, v2, v3, v4, v5, v6, v7].drop 0).take (Program.cellsOf Tryz.prog 3)) = xs[0]? := hfi 0 _ rfl
    have g1 : DataW.trod enc Tryz.prog w base (fun _ => true) held n 22 (([v0, v1, v2, v3, v4, v5, v6, v7].drop 1).take (Program.cellsOf Tryz.prog 22)) = xs[1]? := hfi 1 _ rfl
    have g2 : DataW.trod enc Tryz.prog w base (fun _ => true) held n 22 (([v0, v1, v2, v3, v4, v5, v6, v7].drop 2).take (Program.cellsOf Tryz.prog 22)) = xs[2]? := hfi 2 _ rfl
    have g3 : DataW.trod enc Tryz.prog w base (fun _ => true) held n 5 (([v0, v1, v2, v3, v4, v5, v6, v7].drop 3).take (Program.cellsOf Tryz.prog 5)) = xs[3]? := hfi 3 _ rfl
    have g4 : DataW.trod enc Tryz.prog w base (fun _ => true) held n 9 (([v0, v1, v2, v3, v4, v5, v6, v7].drop 4).take (Program.cellsOf Tryz.prog 9)) = xs[4]? := hfi 4 _ rfl
    have g5 : DataW.trod enc Tryz.prog w base (fun _ => true) held n 23 (([v0, v1, v2, v3, v4, v5, v6, v7].drop 5).take (Program.cellsOf Tryz.prog 23)) = xs[5]? := hfi 5 _ rfl
    have g6 : DataW.trod enc Tryz.prog w base (fun _ => true) held n 24 (([v0, v1, v2, v3, v4, v5, v6, v7].drop 6).take (Program.cellsOf Tryz.prog 24)) = xs[6]? := hfi 6 _ rfl
    have g7 : DataW.trod enc Tryz.prog w base (fun _ => true) held n 3 (([v0, v1, v2, v3, v4, v5, v6, v7].drop 7).take (Program.cellsOf Tryz.prog 3)) = xs[7]? := hfi 7 _ rfl
    rw [c3] at g0 g7
    rw [c22] at g1 g2
    rw [c5] at g3
    rw [c9] at g4
    rw [c33] at g5
    rw [cf] at g6
    rw [List.getElem?_eq_getElem (by omega)] at g0 g1 g2 g3 g4 g5 g6 g7
    obtain ⟨x0, e0, _, w0⟩ := DataW.trod_int Tryz.underlying3 g0
    obtain ⟨x1, e1, _, w1⟩ := DataW.trod_int Tryz.underlying22 g1
    obtain ⟨x2, e2, _, w2⟩ := DataW.trod_int Tryz.underlying22 g2
    obtain ⟨x3, e3, _, w3⟩ := DataW.trod_int Tryz.underlying5 g3
    obtain ⟨x4, e4, _, w4⟩ := DataW.trod_string Tryz.underlying9 g4
    obtain ⟨a, len, c, l, e5, hll, hp5, _⟩ := in_bytes Tryz.underlying23 Tryz.underlying5 c5 g5
    obtain ⟨x6, e6, w6⟩ := trod_float Tryz.underlying24 g6
    obtain ⟨x7, e7, _, w7⟩ := DataW.trod_int Tryz.underlying3 g7
    simp [Value.cells] at e0 e1 e2 e3 e4 e5 e6 e7
    subst e0 e1 e2 e3 e4 e5 e6 e7
    simp [Lit.wf, IntKind.min, IntKind.max, IntKind.signed, IntKind.bits] at w0 w1 w2 w3 w6 w7
    refine ⟨⟨x0, x1.toNat, x2.toNat, x3.toNat, x4.data.toList, l, x6, x7, .slice a len c⟩, ?_, ?_⟩
    · have q1 : ((x1.toNat : Nat) : Int) = x1 := by omega
      have q2 : ((x2.toNat : Nat) : Int) = x2 := by omega
      have q3 : ((x3.toNat : Nat) : Int) = x3 := by omega
      simp only [Ev.val, Ev.cs, q1, q2, q3]
    · subst hll
      refine ⟨⟨by simp only; omega, by simp only; omega⟩, by simp only; omega, by simp only; omega, by simp only; omega, ?_, ⟨by simp only; omega, by simp only; omega⟩, ?_, ⟨a, c, rfl⟩, hp5⟩
      · simp only
        omega
      · have : x4.data.toList.length = x4.size := Array.length_toList
        show x4.data.toList.length ≤ maxLen
        rw [this]
        exact w4
end Go.Proofs.YtgciifalclgeeaaGreatDoor
