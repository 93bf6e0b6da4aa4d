/-
  Layer 4 (disk): Names, where the beginning is none.
-/
import Derived.Test.YtcfbmmlgdopbmaaDi
namespace Go.Proofs.Ytcfbmmlgdopbmaa
open Go.RowKit
set_option linter.unusedVariables false
set_option linter.unusedSimpArgs false

theorem extract_take (l : List UInt8) (h : Nat) : (⟨l.toArray⟩ : ByteArray).extract 0 h = ⟨(l.take h).toArray⟩ := by
  apply ByteArray.ext
  simp [ByteArray.data_extract]
section
variable {P : Program} {n : Fm} {ρ : List (Nat × Value)} {W w w' : World} {Q : Exit → Act → World → Prop} {ops : Array Oper} {rest : List Oper} {d : Option Tmp} {t ty : TypeId} {ps : String} {af : Array Edge} {x y : Operand}
/-- s[:h] of a string. -/
theorem E.sls {l : List UInt8} (h : Nat) (k : E P n ops rest (pushv d (.string ⟨(l.take h).toArray⟩) ρ) w Q) {kd : IntKind} {i : Int} (ht : P.underlying t = some .string) (hh : h ≤ l.length := by omega)
    (hx : evo n ρ x = some (.string ⟨l.toArray⟩) := by exact rfl) (hy : evm n ρ (some y) = some (some (.int kd i)) := by exact rfl) (hi : i = (h : Int) := by omega) :
    E P n ops (⟨d, .slice t x none (some y) none, ty, ps, af, none⟩ :: rest) ρ w Q := by
  subst hi
  refine E.pv (Pv.slice hx rfl hy rfl (fun w => ?_)) k
  have hsz : (h : Int) ≤ ((⟨l.toArray⟩ : ByteArray).size : Int) := by simp [ByteArray.size]; omega
  have := run_slice_string_h (P := P) w t ⟨l.toArray⟩ ht kd h (by omega) hsz
  rw [Int.toNat_natCast, extract_take] at this
  simp only [Instr.sliceAt]
  simp [run_underlying ht, this]
end

set_option maxHeartbeats 1600000 in
set_option maxRecDepth 100000 in
theorem hasPrefix_lite {R : Ending → World → Prop} {w : World} {s p : List UInt8} (hsl : s.length ≤ 1000000000) (hpl : p.length ≤ 1000000000)
    (hR : R (.returned (.bool (decide (p.length ≤ s.length ∧ s.take p.length = p)))) w) :
    Calls Try.prog 60 #[str s, str p] w R := by
  have HR := Lib.hid hR
  clear hR
  refine C.calls (args := [str s, str p]) Try.func60 rfl rfl rfl ?_
  have e0 : str s = .string ⟨s.toArray⟩ := rfl
  have e1 : str p = .string ⟨p.toArray⟩ := rfl
  rw [e0, e1]
  clear e0 e1
  refine go ?_
  cases hle : decide ((p.length : Int) ≤ s.length)
  · have hn : ¬ p.length ≤ s.length := by simpa using hle
    refine go ?_
    refine A.r1 ?_
    have := HR.out
    rw [decide_eq_false (fun h => hn h.1)] at this
    exact this
  · have hn : p.length ≤ s.length := by simpa using hle
    refine go ?_
    refine E.sls p.length ?_ Try.underlying9
    refine go ?_
    refine A.r1 ?_
    have := HR.out
    have e : decide (p.length ≤ s.length ∧ s.take p.length = p) = decide (s.take p.length = p) := by simp [hn]
    rw [e] at this
    exact this
set_option maxHeartbeats 1600000 in
set_option maxRecDepth 100000 in
theorem hasPrefix_any {R : Ending → World → Prop} {w : World} {s p : List UInt8} (hsl : s.length ≤ 1000000000) (hpl : p.length ≤ 1000000000)
    (hR : R (.returned (.bool (decide (p.length ≤ s.length ∧ s.take p.length = p)))) w) :
    Calls Try.prog 44 #[str s, str p] w R := by
  have HR := Lib.hid hR
  clear hR
  refine C.calls (args := [str s, str p]) Try.func44 rfl rfl rfl ?_
  refine go ?_
  refine E.callf Try.func60 rfl ?_
  refine hasPrefix_lite hsl hpl ?_
  refine go ?_
  refine A.r1 ?_
  exact HR.out
set_option maxHeartbeats 1600000 in
set_option maxRecDepth 100000 in
/-- 'Names'' own function. -/
theorem other_any {R : Ending → World → Prop} {W w : World} {g : Hl} {H : List HP} {bb : Nat} {s p : List UInt8} (hsl : s.length ≤ 1000000000) (hpl : p.length ≤ 1000000000) (hs : Sat W w g (blk bb [str p] 9 :: H))
    (hR : R (.returned (.bool (!decide (p.length ≤ s.length ∧ s.take p.length = p)))) w) :
    Calls Try.prog 43 #[str s, ptr bb] w R := by
  have HR := Lib.hid hR
  clear hR
  refine C.calls (args := [str s, ptr bb]) Try.func43 rfl rfl rfl ?_
  refine go ?_
  refine E.callf Try.func44 rfl ?_
  refine hasPrefix_any hsl hpl ?_
  refine go ?_
  refine A.r1 ?_
  exact HR.out

theorem el_str : ElemOf Try.prog 52 9 (.string ⟨#[]⟩) 1 16 := .of Try.underlying52 (by kernel_rfl) rfl (by decide)

set_option maxHeartbeats 1600000 in
set_option maxRecDepth 100000 in
/-- Of names that all begin so none is another one. -/
theorem index_none {R : Ending → World → Prop} {W w : World} {g : Hl} {H : List HP} {bb n c : Nat} {a : Option Addr} {p : List UInt8} {ls : List (List UInt8)} (hs : Sat W w g (blk bb [str p] 9 :: H)) (hp : Pr 1 g (.slice a n c) n (ls.map str)) (hn : ls.length = n) (hpl : p.length ≤ 1000000000)
    (hl : ∀ x ∈ ls, x.length ≤ 1000000000 ∧ p.length ≤ x.length ∧ x.take p.length = p) (hR : ∀ w', Sat W w' g (blk bb [str p] 9 :: H) → R (.returned (.int .i64 (-1))) w') :
    Calls Try.prog 56 #[.slice a n c, .func (.func 43) #[] #[ptr bb]] w R := by
  have HR := Lib.hid hR
  clear hR
  obtain ⟨_, _, e0, hnc, hcm⟩ := hp.len
  simp only [Value.slice.injEq] at e0
  obtain ⟨-, -, rfl⟩ := e0
  refine C.calls (args := [.slice a n c, .func (.func 43) #[] #[ptr bb]]) Try.func56 rfl rfl rfl ?_
  refine gob ?_
  refine C.cutQ (fun _ : Unit => []) (fun _ w => Sat W w g (blk bb [str p] 9 :: H)) ?_ ?_
  · refine C.block ?_
    refine C.lp (fun i : Nat => [(0, .slice a n c), (1, .func (.func 43) #[] #[ptr bb]), (7, .int .i64 n), (8, .int .i64 i)]) (fun gk i w => gk = n - i ∧ i ≤ n ∧ Sat W w g (blk bb [str p] 9 :: H)) n 0 ⟨rfl, Nat.zero_le _, hs⟩ ?_
    clear hs
    rintro gk i w1 ⟨rfl, hi, hs⟩
    refine go ?_
    refine C.cond_dec (p := (i : Int) < n) rfl (fun hlt => ?_) (fun hlt => ?_)
    rotate_left
    · refine go ?_
      exact A.mt () hs
    · have hil : i < ls.length := by omega
      obtain ⟨h1, h2, h3⟩ := hl ls[i] (List.getElem_mem hil)
      refine go ?_
      refine E.ix el_str hs hp i (v := str ls[i]) (by simp [hil]) ?_
      intro b2 o2 hc2
      refine go ?_
      refine E.callv Try.func43 rfl rfl rfl ?_
      refine other_any h1 hpl hs ?_
      rw [decide_eq_true (show p.length ≤ ls[i].length ∧ ls[i].take p.length = p from ⟨h2, h3⟩)]
      refine go ?_
      exact A.rd (n - (i + 1)) (i + 1) ⟨rfl, by omega, hs⟩
  clear hs
  rintro _ w2 hs
  refine go ?_
  refine A.r1 ?_
  exact HR.out _ hs
set_option maxHeartbeats 1600000 in
set_option maxRecDepth 100000 in
theorem delete_none {R : Ending → World → Prop} {W w : World} {g : Hl} {H : List HP} {bb n c : Nat} {a : Option Addr} {p : List UInt8} {ls : List (List UInt8)} (hs : Sat W w g (blk bb [str p] 9 :: H)) (hp : Pr 1 g (.slice a n c) n (ls.map str)) (hn : ls.length = n) (hpl : p.length ≤ 1000000000)
    (hl : ∀ x ∈ ls, x.length ≤ 1000000000 ∧ p.length ≤ x.length ∧ x.take p.length = p) (hR : ∀ w', Sat W w' g (blk bb [str p] 9 :: H) → R (.returned (.slice a n c)) w') :
    Calls Try.prog 40 #[.slice a n c, .func (.func 43) #[] #[ptr bb]] w R := by
  have HR := Lib.hid hR
  clear hR
  refine C.calls (args := [.slice a n c, .func (.func 43) #[] #[ptr bb]]) Try.func40 rfl rfl rfl ?_
  refine go ?_
  refine E.callf Try.func56 rfl ?_
  refine index_none hs hp hn hpl hl ?_
  intro w1 hs
  refine go ?_
  refine A.r1 ?_
  exact HR.out _ hs

set_option maxHeartbeats 1600000 in
set_option maxRecDepth 100000 in
/-- All names. -/
theorem names_any {R : Ending → World → Prop} {W w : World} {g : Hl} {H : List HP} {b : Nat} {d : Dk} (hoff : d.off = false) (hnm : ∀ p ∈ d.fs, p.1.length ≤ 1000) (hfl : d.fs.length ≤ 1000000000) (hs : Sat W w g (disk b d :: H))
    (hR : ∀ a c w' g', Hl.le g g' → Pr 1 g' (.slice a d.fs.length c) d.fs.length ((rising (d.fs.map Prod.fst)).map str) → Sat W w' g' (disk b d :: H) → R (.returned (.slice a d.fs.length c)) w') :
    Calls Try.prog 24 #[ptr b, str []] w R := by
  have HR := Lib.hid hR
  clear hR
  obtain ⟨mb, L, hL, hok, hs⟩ := disk_open hs
  have hLl : L.length = d.fs.length := by rw [← hL]; simp [Fs.plain]
  have hLk : L.map Prod.fst = d.fs.map Prod.fst := by rw [← hL]; simp [Fs.plain, Function.comp_def]
  refine C.calls (args := [ptr b, str []]) Try.func24 rfl rfl rfl ?_
  refine go ?_
  refine E.bx hs ?_
  intro b1 w1 hs
  replace hs : Sat W w1 g (blk b1 [str []] 9 :: dsk b mb d :: dmap mb L :: bsep (dfiles L) :: H) := hs
  refine go ?_
  refine E.callf Try.func29 rfl ?_
  refine on_dsk hs.swap ?_
  rw [hoff]
  simp only [dsk] at hs
  refine go ?_
  refine E.callf Try.func42 rfl ?_
  refine keys_call ?_
  refine E.callf Try.func41 rfl ?_
  refine sorted_call (l := L.map fun p => (p.1, ptr p.2.1)) hs.pull2 (by have := hok.keys; rw [← hLk] at this; simpa [Function.comp_def] using this) (by rw [List.length_map]; omega) (by
    intro p hp
    obtain ⟨q, hq, rfl⟩ := List.mem_map.1 hp
    have h1 := hnm (q.1, q.2.2) (by rw [← hL]; exact List.mem_map_of_mem hq)
    unfold maxLen
    simp only at h1 ⊢
    omega) ?_
  intro a2 c2 w2 g2 hg2 hp2 hs
  have e1 : (L.map fun p => (p.1, ptr p.2.1)).length = d.fs.length := by rw [List.length_map]; exact hLl
  have e2 : (L.map fun p => (p.1, ptr p.2.1)).map Prod.fst = d.fs.map Prod.fst := by rw [← hLk]; simp [Function.comp_def]
  rw [e1, e2] at hp2
  rw [e1]
  replace hs := hs.push2
  have hpm : (rising (d.fs.map Prod.fst)).Perm (d.fs.map Prod.fst) := List.mergeSort_perm _ _
  refine go ?_
  refine E.callf Try.func40 rfl ?_
  refine delete_none (p := []) hs hp2 (by rw [hpm.length_eq, List.length_map]) (by decide) (by
    intro x hx
    have h1 := hpm.mem_iff.1 hx
    obtain ⟨q, hq, rfl⟩ := List.mem_map.1 h1
    have := hnm q hq
    exact ⟨by omega, Nat.zero_le _, rfl⟩) ?_
  intro w3 hs
  refine go ?_
  refine A.r1 ?_
  exact HR.out _ _ _ _ hg2 hp2 (disk_close hL hok hs.drop)
end Go.Proofs.Ytcfbmmlgdopbmaa
