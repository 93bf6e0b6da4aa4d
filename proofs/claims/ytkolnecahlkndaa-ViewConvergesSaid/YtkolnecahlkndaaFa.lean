/-
  Layer 11 (fold): what a fold is; New, Copy, and what is asked of it.
-/
import Derived.Test.YtkolnecahlkndaaVb
import Derived.Test.YtkolnecahlkndaaVc
import Derived.Test.YtkolnecahlkndaaVd
namespace Go.Proofs.Ytkolnecahlkndaa
open Go.RowKit
set_option linter.unusedVariables false
set_option linter.unusedSimpArgs false

/-- What a key has. -/
structure Ce where
  kd : Nat
  text : List UInt8
  num : Nat
def ceV (c : Ce) (tv : Value) : Value := .agg #[.int .u8 c.kd, tv, .float .f64 c.num]
structure Fo where
  cells : List (List UInt8 × Ce)
  mem : List Bool
  ret : List Bool
  vec : List Nat
  tm : Nat
  wr : Int
  mark : Nat
structure Ce.ok (c : Ce) : Prop where
  kd : c.kd < 256
  num : c.num < 18446744073709551616
  text : c.text.length ≤ 100000000
structure Fo.ok (f : Fo) : Prop where
  mem : f.mem.length = 64
  ret : f.ret.length = 64
  vec : f.vec.length ≤ 64
  vlt : ∀ x ∈ f.vec, x < 18446744073709551616
  tm : f.tm < 18446744073709551616
  wr : -9223372036854775808 ≤ f.wr ∧ f.wr ≤ 9223372036854775807
  mark : f.mark < 18446744073709551616
  cells : ∀ p ∈ f.cells, p.2.ok ∧ p.1.length ≤ 100000000
  keys : (f.cells.map Prod.fst).Nodup

/-- The struct's cells. -/
def foC (mb : Nat) (hv : Value) (f : Fo) : List Value := .map (some mb) :: (f.mem.map Value.bool ++ (f.ret.map Value.bool ++ [hv, .int .u64 f.tm, .int .i64 f.wr, .int .u64 f.mark]))
section
variable {mb : Nat} {hv : Value} {f : Fo}
theorem foC_len (h1 : f.mem.length = 64) (h2 : f.ret.length = 64) : (foC mb hv f).length = 133 := by simp [foC, h1, h2]
theorem foC_0 : (foC mb hv f)[0]? = some (.map (some mb)) := rfl
theorem foC_mem (h1 : f.mem.length = 64) {i : Nat} (h : i < 64) : (foC mb hv f)[1 + i]? = some (.bool (f.mem.getD i false)) := by
  rw [foC, Nat.add_comm, List.getElem?_cons_succ, List.getElem?_append_left (by simpa [h1] using h), List.getElem?_map, List.getD_eq_getElem?_getD, List.getElem?_eq_getElem (by omega)]
  rfl
theorem foC_ret (h1 : f.mem.length = 64) (h2 : f.ret.length = 64) {i : Nat} (h : i < 64) : (foC mb hv f)[65 + i]? = some (.bool (f.ret.getD i false)) := by
  rw [foC, show 65 + i = (64 + i) + 1 by omega, List.getElem?_cons_succ, List.getElem?_append_right (by simp [h1])]
  simp only [List.length_map, h1]
  rw [show 64 + i - 64 = i by omega, List.getElem?_append_left (by simpa [h2] using h), List.getElem?_map, List.getD_eq_getElem?_getD, List.getElem?_eq_getElem (by omega)]
  rfl
theorem foC_at (h1 : f.mem.length = 64) (h2 : f.ret.length = 64) (i : Nat) : (foC mb hv f)[129 + i]? = [hv, .int .u64 f.tm, .int .i64 f.wr, .int .u64 f.mark][i]? := by
  rw [foC, show 129 + i = (128 + i) + 1 by omega, List.getElem?_cons_succ, List.getElem?_append_right (by simp only [List.length_map, h1]; omega)]
  rw [List.getElem?_append_right (by simp only [List.length_map, h1, h2]; omega)]
  simp only [List.length_map, h1, h2]
  rw [show 128 + i - 64 - 64 = i by omega]
set_option maxRecDepth 10000 in
theorem foC_129 (h1 : f.mem.length = 64) (h2 : f.ret.length = 64) : (foC mb hv f)[129]? = some hv := foC_at h1 h2 0
set_option maxRecDepth 10000 in
theorem foC_130 (h1 : f.mem.length = 64) (h2 : f.ret.length = 64) : (foC mb hv f)[130]? = some (.int .u64 f.tm) := foC_at h1 h2 1
set_option maxRecDepth 10000 in
theorem foC_131 (h1 : f.mem.length = 64) (h2 : f.ret.length = 64) : (foC mb hv f)[131]? = some (.int .i64 f.wr) := foC_at h1 h2 2
set_option maxRecDepth 10000 in
theorem foC_132 (h1 : f.mem.length = 64) (h2 : f.ret.length = 64) : (foC mb hv f)[132]? = some (.int .u64 f.mark) := foC_at h1 h2 3
theorem foC_last (h1 : f.mem.length = 64) (h2 : f.ret.length = 64) : ((foC mb hv f).drop 130).take 2 = [.int .u64 f.tm, .int .i64 f.wr] := by
  rw [foC, show 130 = 129 + 1 by rfl, List.drop_succ_cons, List.drop_append, List.drop_append]
  simp [h1, h2, List.drop_eq_nil_of_le]
theorem foC_setat (h1 : f.mem.length = 64) (h2 : f.ret.length = 64) (i : Nat) (u : Value) : (foC mb hv f).set (129 + i) u = .map (some mb) :: (f.mem.map Value.bool ++ (f.ret.map Value.bool ++ [hv, .int .u64 f.tm, .int .i64 f.wr, .int .u64 f.mark].set i u)) := by
  rw [foC, show 129 + i = (128 + i) + 1 by omega, List.set_cons_succ, List.set_append_right _ _ (by simp only [List.length_map, h1]; omega), List.set_append_right _ _ (by simp only [List.length_map, h1, h2]; omega)]
  simp only [List.length_map, h1, h2]
  rw [show 128 + i - 64 - 64 = i by omega]
set_option maxRecDepth 10000 in
theorem foC_set129 (h1 : f.mem.length = 64) (h2 : f.ret.length = 64) (u : Value) : spl (foC mb hv f) 129 [u] = foC mb u f := foC_setat h1 h2 0 u
set_option maxRecDepth 10000 in
theorem foC_set132 (h1 : f.mem.length = 64) (h2 : f.ret.length = 64) (m : Nat) : spl (foC mb hv f) 132 [.int .u64 m] = foC mb hv { f with mark := m } := foC_setat h1 h2 3 _
set_option maxRecDepth 10000 in
theorem foC_set130 (h1 : f.mem.length = 64) (h2 : f.ret.length = 64) (t : Nat) (wr : Int) : spl (foC mb hv f) 130 [.int .u64 t, .int .i64 wr] = foC mb hv { f with tm := t, wr := wr } := by
  have e1 : (foC mb hv f).set 130 (.int .u64 t) = foC mb hv { f with tm := t } := foC_setat h1 h2 1 _
  have e2 : (foC mb hv { f with tm := t }).set 131 (.int .i64 wr) = foC mb hv { f with tm := t, wr := wr } := foC_setat (f := { f with tm := t }) h1 h2 2 _
  simp only [spl, e1, e2]
theorem foC_setmem (h1 : f.mem.length = 64) {i : Nat} (h : i < 64) : spl (foC mb hv f) (1 + i) [.bool true] = foC mb hv { f with mem := f.mem.set i true } := by
  simp only [spl, foC]
  rw [Nat.add_comm, List.set_cons_succ, List.set_append_left _ _ (by simpa [h1] using h), List.map_set]
theorem foC_setret (h1 : f.mem.length = 64) (h2 : f.ret.length = 64) {i : Nat} (h : i < 64) : spl (foC mb hv f) (65 + i) [.bool true] = foC mb hv { f with ret := f.ret.set i true } := by
  simp only [spl, foC]
  rw [show 65 + i = (64 + i) + 1 by omega, List.set_cons_succ, List.set_append_right _ _ (by simp [h1]), List.length_map, h1, show 64 + i - 64 = i by omega, List.set_append_left _ _ (by simpa [h2] using h), List.map_set]
theorem foC_setmap (mb' : Nat) : spl (foC mb hv f) 0 [.map (some mb')] = foC mb' hv f := rfl
end

abbrev Cs := List (List UInt8 × (Ce × Value))
def Cs.plain (L : Cs) : List (List UInt8 × Ce) := L.map fun p => (p.1, p.2.1)
def Cs.tvs (L : Cs) (g : Hl) : Prop := ∀ p ∈ L, Pr 1 g p.2.2 p.2.1.text.length (bs p.2.1.text)
theorem Cs.tvs_mono {L : Cs} {g g' : Hl} (h : L.tvs g) (hg : Hl.le g g') : L.tvs g' := fun p hp => (h p hp).mono hg
def cmap (mb : Nat) (L : Cs) : HP := mp str mb (L.map fun p => (p.1, ceV p.2.1 p.2.2))
structure Fi where
  mb : Nat
  L : Cs
  a : Option Addr
  c : Nat
def Fi.hv (i : Fi) (f : Fo) : Value := .slice i.a f.vec.length i.c
structure Fi.ok (i : Fi) (f : Fo) (g : Hl) : Prop where
  ok : f.ok
  plain : Cs.plain i.L = f.cells
  tvs : i.L.tvs g
  vec : Pr 1 g (i.hv f) f.vec.length (us f.vec)
theorem Fi.ok.mono {i : Fi} {f : Fo} {g g' : Hl} (h : i.ok f g) (hg : Hl.le g g') : i.ok f g' := ⟨h.ok, h.plain, Cs.tvs_mono h.tvs hg, h.vec.mono hg⟩
def foB (b : Nat) (i : Fi) (f : Fo) : HP := blk b (foC i.mb (i.hv f) f) 69
/-- A fold. -/
def fold (b : Nat) (f : Fo) : HP := exs fun i : Fi => wit (fun g => i.ok f g) (fun _ _ hg h => h.mono hg) (sep (foB b i f) (cmap i.mb i.L))
section
variable {W w : World} {g : Hl} {H : List HP} {b : Nat} {f : Fo}
theorem fold_open (hs : Sat W w g (fold b f :: H)) : ∃ i : Fi, i.ok f g ∧ Sat W w g (foB b i f :: cmap i.mb i.L :: H) := by
  obtain ⟨i, h⟩ := hs.unexs
  exact ⟨i, h.unwit.1, h.unwit.2.split⟩
theorem fold_close (i : Fi) (h : i.ok f g) (hs : Sat W w g (foB b i f :: cmap i.mb i.L :: H)) : Sat W w g (fold b f :: H) := Sat.mkexs i (Sat.mkwit h hs.join)
end
theorem ag_fold : AggOf Try.prog 69 133 := ⟨_, Try.underlying69, rfl, by kernel_rfl⟩
theorem ag_cell : AggOf Try.prog 77 3 := ⟨_, Try.underlying77, rfl, by kernel_rfl⟩

/-- Of no events. -/
def foNew (k : Nat) : Fo := ⟨[], List.replicate k true ++ List.replicate (64 - k) false, List.replicate 64 false, [], 0, 0, 14695981039346656037⟩
theorem foNew_ok {k : Nat} (h : k ≤ 64) : (foNew k).ok := ⟨by simp [foNew]; omega, by simp [foNew], by simp [foNew], by simp [foNew], by simp [foNew], by simp [foNew], by simp [foNew], by simp [foNew], by simp [foNew]⟩

set_option maxHeartbeats 1600000 in
set_option maxRecDepth 100000 in
theorem foldNew_any {R : Ending → World → Prop} {W w : World} {g : Hl} {H : List HP} {n : Int} (hn : -9223372036854775808 ≤ n ∧ n ≤ 9223372036854775807) (hs : Sat W w g H)
    (hR : ∀ b w', Sat W w' g (fold b (foNew (min (max n 0) 64).toNat) :: H) → R (.returned (ptr b)) w') : Calls Try.prog 17 #[.int .i64 n] w R := by
  have HR := Lib.hid hR
  clear hR
  refine C.calls (args := [.int .i64 n]) Try.func17 rfl rfl rfl ?_
  refine go ?_
  apply E.cons
  apply St.makeMap (List UInt8) str hs
  intro mb w1 hs
  refine go ?_
  refine E.bx hs (xs := foC mb (.slice none 0 0) (foNew 0)) ?_ (hx := rfl)
  intro b w2 hs
  have e1 : Min.min (Max.max n 0) 64 = ((min (max n 0) 64).toNat : Int) := by omega
  have hk : (min (max n 0) 64).toNat ≤ 64 := by omega
  refine gob ?_
  rw [e1]
  generalize (min (max n 0) 64).toNat = k at hk HR ⊢
  refine C.block ?_
  refine C.lp (fun i : Nat => [(3, ptr b), (10, .int .i64 k), (11, .int .i64 i)]) (fun gk i w => gk = k - i ∧ i ≤ k ∧ Sat W w g (blk b (foC mb (.slice none 0 0) (foNew i)) 69 :: mp str mb ([] : List (List UInt8 × Value)) :: H)) k 0 ⟨rfl, Nat.zero_le _, hs⟩ ?_
  clear hs
  rintro gk i w3 ⟨rfl, hi, hs⟩
  have e0 : ptr b = .pointer (some ⟨b, 0, none⟩) := rfl
  rw [e0]
  refine go ?_
  refine C.cond_dec (p := (i : Int) < k) rfl (fun h => ?_) (fun h => ?_)
  · refine go ?_
    refine E.ixa i Try.underlying66 ?_
    have hx := foC_setmem (mb := mb) (hv := .slice none 0 0) (f := foNew i) (by simp [foNew]; omega) (i := i) (by omega)
    have e2 : { foNew i with mem := (foNew i).mem.set i true } = foNew (i + 1) := by
      simp only [foNew]
      congr 1
      rw [List.set_append_right _ _ (by simp), List.length_replicate, Nat.sub_self, List.replicate_succ', List.append_assoc]
      congr 1
      rw [show 64 - i = (64 - (i + 1)) + 1 by omega, List.replicate_succ]
      rfl
    rw [e2] at hx
    refine E.sto hs ?_ (hsp := hx) (hj := by rw [foC_len (by simp [foNew]; omega) (by simp [foNew])]; simp; omega)
    intro w4 hs
    refine go ?_
    exact A.rd (k - (i + 1)) (i + 1) ⟨rfl, by omega, hs⟩
  · refine go ?_
    refine A.r1 ?_
    obtain rfl : i = k := by omega
    refine HR.out _ _ (fold_close ⟨mb, [], none, 0⟩ ⟨foNew_ok hk, rfl, (fun p hp => by cases hp), Pr.nil⟩ hs)

set_option maxHeartbeats 1600000 in
set_option maxRecDepth 100000 in
theorem foldLast_any {R : Ending → World → Prop} {W w : World} {g : Hl} {H : List HP} {b : Nat} {f : Fo} (hs : Sat W w g (fold b f :: H))
    (hR : ∀ w', Sat W w' g (fold b f :: H) → R (.returned (spot f.tm f.wr)) w') : Calls Try.prog 25 #[ptr b] w R := by
  have HR := Lib.hid hR
  clear hR
  obtain ⟨i, hi, hs⟩ := fold_open hs
  have h1 := hi.ok.mem
  have h2 := hi.ok.ret
  simp only [foB] at hs
  refine C.calls (args := [.pointer (some ⟨b, 0, none⟩)]) Try.func25 rfl rfl rfl ?_
  refine go ?_
  refine E.al hs ?_
  intro b2 w2 hs
  refine go ?_
  refine E.ldp hs ?_ ag_spot (hf := .there .here) (hv := foC_last h1 h2)
  refine E.sto hs ?_
  intro w3 hs
  refine go ?_
  refine A.c1 rfl rfl (run_lda hs ag_spot) ?_
  exact HR.out _ (fold_close i hi hs.drop)

set_option maxHeartbeats 1600000 in
set_option maxRecDepth 100000 in
theorem foldJoined_any {R : Ending → World → Prop} {W w : World} {g : Hl} {H : List HP} {b : Nat} {f : Fo} {k : Int} (hs : Sat W w g (fold b f :: H))
    (hR : R (.returned (.bool (decide (0 ≤ k) && f.mem.getD k.toNat false))) w) : Calls Try.prog 75 #[ptr b, .int .i64 k] w R := by
  have HR := Lib.hid hR
  clear hR
  obtain ⟨i, hi, hs⟩ := fold_open hs
  have h1 := hi.ok.mem
  have h2 := hi.ok.ret
  simp only [foB] at hs
  refine C.calls (args := [.pointer (some ⟨b, 0, none⟩), .int .i64 k]) Try.func75 rfl rfl rfl ?_
  refine go ?_
  cases h3 : decide (0 ≤ k) with
  | false =>
    refine go ?_
    refine A.r1 ?_
    simpa [h3] using HR.out
  | true =>
  have h3' := of_decide_eq_true h3
  obtain ⟨k, rfl⟩ := Int.eq_ofNat_of_zero_le h3'
  refine go ?_
  cases h4 : decide ((k : Int) < 64) with
  | false =>
    refine go ?_
    refine A.r1 ?_
    have h4 := of_decide_eq_false h4
    have := HR.out
    rw [h3, List.getD_eq_getElem?_getD, List.getElem?_eq_none (by omega)] at this
    exact this
  | true =>
  have h4 := of_decide_eq_true h4
  refine go ?_
  refine E.ld hs ?_ (hj := foC_mem h1 (by omega))
  refine go ?_
  refine A.r1 ?_
  have := HR.out
  rw [h3] at this
  exact this

set_option maxHeartbeats 1600000 in
set_option maxRecDepth 100000 in
theorem foldRetired_any {R : Ending → World → Prop} {W w : World} {g : Hl} {H : List HP} {b : Nat} {f : Fo} {k : Int} (hs : Sat W w g (fold b f :: H))
    (hR : R (.returned (.bool (decide (0 ≤ k) && f.ret.getD k.toNat false))) w) : Calls Try.prog 76 #[ptr b, .int .i64 k] w R := by
  have HR := Lib.hid hR
  clear hR
  obtain ⟨i, hi, hs⟩ := fold_open hs
  have h1 := hi.ok.mem
  have h2 := hi.ok.ret
  simp only [foB] at hs
  refine C.calls (args := [.pointer (some ⟨b, 0, none⟩), .int .i64 k]) Try.func76 rfl rfl rfl ?_
  refine go ?_
  cases h3 : decide (0 ≤ k) with
  | false =>
    refine go ?_
    refine A.r1 ?_
    simpa [h3] using HR.out
  | true =>
  have h3' := of_decide_eq_true h3
  obtain ⟨k, rfl⟩ := Int.eq_ofNat_of_zero_le h3'
  refine go ?_
  cases h4 : decide ((k : Int) < 64) with
  | false =>
    refine go ?_
    refine A.r1 ?_
    have h4 := of_decide_eq_false h4
    have := HR.out
    rw [h3, List.getD_eq_getElem?_getD, List.getElem?_eq_none (by omega)] at this
    exact this
  | true =>
  have h4 := of_decide_eq_true h4
  refine go ?_
  refine E.ld hs ?_ (hj := foC_ret h1 h2 (by omega))
  refine go ?_
  refine A.r1 ?_
  have := HR.out
  rw [h3] at this
  exact this
/-- Is a node a member? -/
def Fo.member (f : Fo) (k : Int) : Bool := (decide (0 ≤ k) && f.mem.getD k.toNat false) && !(decide (0 ≤ k) && f.ret.getD k.toNat false)
set_option maxHeartbeats 1600000 in
set_option maxRecDepth 100000 in
theorem foldMember_any {R : Ending → World → Prop} {W w : World} {g : Hl} {H : List HP} {b : Nat} {f : Fo} {k : Int} (hs : Sat W w g (fold b f :: H))
    (hR : R (.returned (.bool (f.member k))) w) : Calls Try.prog 58 #[ptr b, .int .i64 k] w R := by
  have HR := Lib.hid hR
  clear hR
  have e0 : ptr b = .pointer (some ⟨b, 0, none⟩) := rfl
  refine C.calls (args := [ptr b, .int .i64 k]) Try.func58 rfl rfl rfl ?_
  refine go ?_
  refine E.callf Try.func75 rfl ?_
  refine foldJoined_any hs ?_
  cases h3 : (decide (0 ≤ k) && f.mem.getD k.toNat false) with
  | false =>
    refine go ?_
    refine A.r1 ?_
    have := HR.out
    simp only [Fo.member, h3] at this
    exact this
  | true =>
    refine go ?_
    refine E.callf Try.func76 rfl ?_
    refine foldRetired_any hs ?_
    refine go ?_
    refine A.r1 ?_
    have := HR.out
    simp only [Fo.member, h3] at this
    exact this
/-- The members, rising. -/
def Fo.members (f : Fo) (k : Nat) : List Int := ((List.range k).filter fun (i : Nat) => f.member (i : Int)).map fun (i : Nat) => (i : Int)
def is_ (l : List Int) : List Value := l.map fun i => .int .i64 i
set_option maxHeartbeats 1600000 in
set_option maxRecDepth 100000 in
theorem foldMembers_any {R : Ending → World → Prop} {W w : World} {g : Hl} {H : List HP} {b : Nat} {f : Fo} (hs : Sat W w g (fold b f :: H))
    (hR : ∀ a' c' w', Sat W w' g (own 3 1 (.slice a' (f.members 64).length c') (f.members 64).length (is_ (f.members 64)) :: fold b f :: H) → R (.returned (.slice a' (f.members 64).length c')) w') : Calls Try.prog 36 #[ptr b] w R := by
  have HR := Lib.hid hR
  clear hR
  have hlen : ∀ k, (f.members k).length ≤ k := fun k => by
    unfold Fo.members
    rw [List.length_map]
    have := List.length_filter_le (fun (i : Nat) => f.member (i : Int)) (List.range k)
    rw [List.length_range] at this
    exact this
  have hsucc : ∀ k : Nat, f.members (k + 1) = f.members k ++ (if f.member (k : Int) then [(k : Int)] else []) := fun k => by
    unfold Fo.members
    rw [List.range_succ, List.filter_append, List.map_append]
    congr 1
    simp only [List.filter_cons, List.filter_nil]
    split <;> rfl
  refine C.calls (args := [ptr b]) Try.func36 rfl rfl rfl ?_
  refine gob ?_
  refine C.block ?_
  refine C.lp (fun x : Nat × Option Addr × Nat => [(0, ptr b), (3, .slice x.2.1 (f.members x.1).length x.2.2), (5, .int .i64 x.1)]) (fun gk x w => gk = 64 - x.1 ∧ x.1 ≤ 64 ∧ Sat W w g (own 3 1 (.slice x.2.1 (f.members x.1).length x.2.2) (f.members x.1).length (is_ (f.members x.1)) :: fold b f :: H)) 64 (0, none, 0) ⟨rfl, Nat.zero_le _, hs.nilOwn⟩ ?_
  clear hs
  rintro gk ⟨k, a1, c1⟩ w1 ⟨rfl, hk, hs⟩
  simp only at hk hs ⊢
  have hl := hlen k
  have hq := hsucc k
  refine go ?_
  refine C.cond_dec (p := (k : Int) < 64) rfl (fun h => ?_) (fun h => ?_)
  · refine go ?_
    refine E.callf Try.func58 rfl ?_
    refine foldMember_any hs.swap ?_
    cases hm : f.member (k : Int) with
    | true =>
      refine go ?_
      refine E.bsl hs ?_
      intro b2 w2 hs
      refine E.app el_int hs.swap (hs.rowOf (size := 1) 1 rfl (by decide)) ?_
      intro a3 c3 w3 _ _ hs
      refine go ?_
      have e1 : f.members (k + 1) = f.members k ++ [(k : Int)] := by rw [hq, hm]; rfl
      refine A.rd (64 - (k + 1)) (k + 1, a3, c3) ⟨rfl, by simp only; omega, ?_⟩ (hw := ?_)
      · simp only [e1, List.length_append, List.length_cons, List.length_nil, Nat.zero_add]
        have := hs.swap.drop
        simpa [is_] using this
      · simp only [e1, List.length_append, List.length_cons, List.length_nil, Nat.zero_add]
        exact wk_
    | false =>
      refine go ?_
      have e1 : f.members (k + 1) = f.members k := by rw [hq, hm]; simp
      refine A.rd (64 - (k + 1)) (k + 1, a1, c1) ⟨rfl, by simp only; omega, ?_⟩ (hw := ?_)
      · simp only [e1]
        exact hs
      · simp only [e1]
        exact wk_
  · obtain rfl : k = 64 := by omega
    refine go ?_
    refine A.r1 ?_
    exact HR.out _ _ _ hs
end Go.Proofs.Ytkolnecahlkndaa
