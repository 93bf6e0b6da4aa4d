/-
  Layer 4 (disk): what a disk is; New, act, On, Room.
-/
import Derived.Test.YtcfbmmlgdopbmaaRg
import Derived.Test.YtcfbmmlgdopbmaaQb
namespace Go.Proofs.Ytcfbmmlgdopbmaa
open Go.RowKit
set_option linter.unusedVariables false
set_option linter.unusedSimpArgs false

/-- A string of bytes, as a value. -/
def str (k : List UInt8) : Value := .string ⟨k.toArray⟩
theorem str_inj {a b : List UInt8} (h : str a = str b) : a = b := by
  simp only [str, Value.string.injEq, ByteArray.mk.injEq] at h
  simpa using congrArg Array.toList h
theorem ky_str : Ky Try.prog 9 str where
  kind := ⟨.string, Try.underlying9, fun a => trivial, fun a b => by simp [str, Instr.sameNow, str_beq]⟩
  bits := fun a => by
    have := str_beq a a
    simp [str, Instr.sameBits, this]

structure Fl where
  p : List UInt8
  safe : Nat
structure Dk where
  fs : List (List UInt8 × Fl)
  room : Int
  fuse : Int
  torn : Int
  acts : Int
  off : Bool
/-- How many bytes all files have. -/
def tk (l : List (List UInt8 × Fl)) : Nat := (l.map fun p => p.2.p.length).sum
structure Dk.ok (d : Dk) : Prop where
  total : tk d.fs ≤ 1000000000
  room : -1000000000 ≤ d.room ∧ d.room ≤ 1000000000
  fuse : -9223372036854775808 ≤ d.fuse ∧ d.fuse ≤ 9223372036854775807
  torn : 0 ≤ d.torn ∧ d.torn ≤ 9223372036854775807
  safe : ∀ p ∈ d.fs, p.2.safe ≤ p.2.p.length
  keys : (d.fs.map Prod.fst).Nodup

/-- A file's block. -/
def file (fb : Nat) (f : Fl) : HP :=
  exs fun q : Option Addr × Nat => sep (blk fb [.slice q.1 f.p.length q.2, .int .i64 f.safe] 64) (ownw 5 1 (.slice q.1 f.p.length q.2) f.p.length (bs f.p))
theorem file_open {W w : World} {g : Hl} {H : List HP} {fb : Nat} {f : Fl} (hs : Sat W w g (file fb f :: H)) : ∃ a c, Sat W w g (blk fb [.slice a f.p.length c, .int .i64 f.safe] 64 :: ownw 5 1 (.slice a f.p.length c) f.p.length (bs f.p) :: H) := by
  obtain ⟨⟨a, c⟩, h⟩ := hs.unexs
  exact ⟨a, c, h.split⟩
theorem file_close {W w : World} {g : Hl} {H : List HP} {fb n c : Nat} {a : Option Addr} {l : List UInt8} {s : Nat} {i : Int} (hn : l.length = n) (hi : i = (s : Int)) (hs : Sat W w g (blk fb [.slice a n c, .int .i64 i] 64 :: ownw 5 1 (.slice a n c) n (bs l) :: H)) : Sat W w g (file fb ⟨l, s⟩ :: H) := by
  subst hn hi
  exact Sat.mkexs (a, c) hs.join

abbrev Fs := List (List UInt8 × (Nat × Fl))
def ptr (b : Nat) : Value := .pointer (some ⟨b, 0, none⟩)
/-- A disk without its files' blocks. -/
def dsk (b mb : Nat) (d : Dk) : HP := blk b [.map (some mb), .int .i64 d.room, .int .i64 d.fuse, .int .i64 d.torn, .int .i64 d.acts, .bool d.off] 57
def dmap (mb : Nat) (L : Fs) : HP := mp str mb (L.map fun p => (p.1, ptr p.2.1))
def dfiles (L : Fs) : List HP := L.map fun p => file p.2.1 p.2.2
def Fs.plain (L : Fs) : List (List UInt8 × Fl) := L.map fun p => (p.1, p.2.2)
/-- A disk. -/
def disk (b : Nat) (d : Dk) : HP :=
  exs fun q : Nat × Fs => wit (fun _ => Fs.plain q.2 = d.fs ∧ d.ok) (fun _ _ _ h => h) (sep (dsk b q.1 d) (sep (dmap q.1 q.2) (bsep (dfiles q.2))))
theorem disk_open {W w : World} {g : Hl} {H : List HP} {b : Nat} {d : Dk} (hs : Sat W w g (disk b d :: H)) : ∃ mb L, Fs.plain L = d.fs ∧ d.ok ∧ Sat W w g (dsk b mb d :: dmap mb L :: bsep (dfiles L) :: H) := by
  obtain ⟨⟨mb, L⟩, h⟩ := hs.unexs
  obtain ⟨⟨h1, h2⟩, h3⟩ := h.unwit
  exact ⟨mb, L, h1, h2, h3.split.swap.split.pull2⟩
theorem disk_close {W w : World} {g : Hl} {H : List HP} {b mb : Nat} {d : Dk} {L : Fs} (h1 : Fs.plain L = d.fs) (h2 : d.ok) (hs : Sat W w g (dsk b mb d :: dmap mb L :: bsep (dfiles L) :: H)) : Sat W w g (disk b d :: H) :=
  Sat.mkexs (mb, L) (Sat.mkwit ⟨h1, h2⟩ (hs.push2.join.swap.join))

set_option maxHeartbeats 1600000 in
set_option maxRecDepth 100000 in
theorem new_any {R : Ending → World → Prop} {W w : World} {g : Hl} {H : List HP} {room : Int} (hr : -1000000000 ≤ room ∧ room ≤ 1000000000) (hs : Sat W w g H)
    (hR : ∀ b w', Sat W w' g (disk b ⟨[], room, -1, 0, 0, false⟩ :: H) → R (.returned (ptr b)) w') : Calls Try.prog 10 #[.int .i64 room] w R := by
  have HR := Lib.hid hR
  clear hR
  refine C.calls (args := [.int .i64 room]) Try.func10 rfl rfl rfl ?_
  refine go ?_
  apply E.cons
  apply St.makeMap (List UInt8) str hs
  intro mb w1 hs
  refine go ?_
  refine E.bx hs ?_
  intro b w2 hs
  refine go ?_
  refine A.r1 ?_
  refine HR.out b _ (disk_close (mb := mb) (L := []) rfl ?_ ?_)
  · exact ⟨by simp [tk], hr, ⟨by simp, by simp⟩, ⟨by simp, by simp⟩, by simp, by simp⟩
  · exact Sat.push2 hs.mknothing

/-- How an act goes. -/
def Dk.act (d : Dk) : Int × Dk :=
  if d.off then (7, d) else
  if d.fuse = 0 then (7, { d with acts := IntKind.i64.wrap (d.acts + 1), off := true }) else
  if 0 < d.fuse then (0, { d with acts := IntKind.i64.wrap (d.acts + 1), fuse := d.fuse - 1 }) else (0, { d with acts := IntKind.i64.wrap (d.acts + 1) })
theorem Dk.act_ok {d : Dk} (h : d.ok) : d.act.2.ok ∧ d.act.2.fs = d.fs ∧ d.act.2.room = d.room ∧ d.act.2.torn = d.torn := by
  have := h.fuse
  unfold Dk.act
  split
  · exact ⟨h, rfl, rfl, rfl⟩
  split
  · exact ⟨⟨h.total, h.room, h.fuse, h.torn, h.safe, h.keys⟩, rfl, rfl, rfl⟩
  split
  · exact ⟨⟨h.total, h.room, by simp only; omega, h.torn, h.safe, h.keys⟩, rfl, rfl, rfl⟩
  · exact ⟨⟨h.total, h.room, h.fuse, h.torn, h.safe, h.keys⟩, rfl, rfl, rfl⟩

set_option maxHeartbeats 1600000 in
set_option maxRecDepth 100000 in
/-- 'act', of the disk's own block alone. -/
theorem act_dsk {R : Ending → World → Prop} {W w : World} {g : Hl} {H : List HP} {b mb : Nat} {d : Dk} (hs : Sat W w g (dsk b mb d :: H)) (h2 : d.ok)
    (hR : ∀ w', Sat W w' g (dsk b mb d.act.2 :: H) → R (.returned (.int .i64 d.act.1)) w') : Calls Try.prog 35 #[ptr b] w R := by
  have HR := Lib.hid hR
  clear hR
  obtain ⟨fs, room, fuse, torn, acts, off⟩ := d
  have hfu := h2.fuse
  simp only [dsk] at hs hfu
  cases off with
  | true =>
    refine C.calls (args := [ptr b]) Try.func35 rfl rfl rfl ?_
    refine go ?_
    refine A.r1 ?_
    exact HR.out _ hs
  | false =>
    refine C.calls (args := [ptr b]) Try.func35 rfl rfl rfl ?_
    refine go ?_
    refine E.sto hs ?_
    intro w1 hs
    refine go ?_
    refine C.cond_dec (p := fuse = 0) rfl (fun h0 => ?_) (fun h0 => ?_)
    · refine go ?_
      refine E.sto hs ?_
      intro w2 hs
      refine go ?_
      refine A.r1 ?_
      have := HR.out w2
      simp only [Dk.act, Bool.false_eq_true, if_false, h0, if_true, dsk] at this
      subst h0
      exact this hs
    · refine go ?_
      refine C.cond_dec (p := 0 < fuse) rfl (fun h1 => ?_) (fun h1 => ?_)
      · refine go ?_
        refine E.sto hs ?_
        intro w2 hs
        refine go ?_
        refine A.r1 ?_
        have := HR.out w2
        simp only [Dk.act, Bool.false_eq_true, if_false, h0, h1, if_true, dsk] at this
        exact this hs
      · refine go ?_
        refine A.r1 ?_
        have := HR.out w1
        simp only [Dk.act, Bool.false_eq_true, if_false, h0, h1, dsk] at this
        exact this hs

set_option maxHeartbeats 1600000 in
set_option maxRecDepth 100000 in
theorem on_dsk {R : Ending → World → Prop} {W w : World} {g : Hl} {H : List HP} {b mb : Nat} {d : Dk} (hs : Sat W w g (dsk b mb d :: H)) (hR : R (.returned (.bool (!d.off))) w) : Calls Try.prog 29 #[ptr b] w R := by
  have HR := Lib.hid hR
  clear hR
  simp only [dsk] at hs
  refine C.calls (args := [ptr b]) Try.func29 rfl rfl rfl ?_
  refine go ?_
  refine A.r1 ?_
  exact HR.out

theorem tk_append (a b : List (List UInt8 × Fl)) : tk (a ++ b) = tk a + tk b := by simp [tk]
theorem tk_cons (p : List UInt8 × Fl) (b : List (List UInt8 × Fl)) : tk (p :: b) = p.2.p.length + tk b := by simp [tk]

/-- Some files are still to come, as the map tells them. -/
theorem todo_split {todo : List (List UInt8 × Value)} : ∀ {L' : Fs}, todo = L'.map (fun p => (p.1, ptr p.2.1)) → ∀ {t1 t2 : List (List UInt8 × Value)} {p : List UInt8 × Value}, todo = t1 ++ p :: t2 → ∃ l1 q l2, L' = l1 ++ q :: l2 ∧ p = (q.1, ptr q.2.1) ∧ t1 ++ t2 = (l1 ++ l2).map (fun p => (p.1, ptr p.2.1)) := by
  intro L' h t1 t2 p ht
  rw [ht] at h
  obtain ⟨l1, l2, rfl, h1, h2⟩ := List.map_eq_append_iff.1 h.symm
  obtain ⟨q, l3, rfl, h3, h4⟩ := List.map_eq_cons_iff.1 h2
  exact ⟨l1, q, l3, rfl, h3.symm, by rw [List.map_append, h1, h4]⟩

theorem files_out {W w : World} {g : Hl} {H : List HP} {L1 L2 : Fs} {q : List UInt8 × (Nat × Fl)} (hs : Sat W w g (bsep (dfiles (L1 ++ q :: L2)) :: H)) : Sat W w g (file q.2.1 q.2.2 :: bsep (dfiles (L1 ++ L2)) :: H) := by
  have h1 := hs.bopen
  simp only [dfiles, List.map_append, List.map_cons, List.append_assoc, List.cons_append] at h1
  have h2 := h1.toFront
  rw [← List.append_assoc, ← List.map_append] at h2
  exact (Sat.bclose (l := dfiles (L1 ++ L2)) (h2.toBack)).swap
theorem files_in {W w : World} {g : Hl} {H : List HP} {L1 L2 : Fs} {q : List UInt8 × (Nat × Fl)} (hs : Sat W w g (file q.2.1 q.2.2 :: bsep (dfiles (L1 ++ L2)) :: H)) : Sat W w g (bsep (dfiles (L1 ++ q :: L2)) :: H) := by
  have h1 := hs.swap.bopen
  simp only [dfiles, List.map_append, List.append_assoc] at h1
  apply Sat.bclose
  simp only [dfiles, List.map_append, List.map_cons, List.append_assoc, List.cons_append]
  refine h1.perm ?_
  refine List.Perm.append_left _ ?_
  exact List.perm_middle

set_option maxHeartbeats 1600000 in
set_option maxRecDepth 100000 in
/-- 'Room': how much there is, and how much is taken. -/
theorem room_any {R : Ending → World → Prop} {W w : World} {g : Hl} {H : List HP} {b mb : Nat} {d : Dk} {L : Fs} (hs : Sat W w g (dsk b mb d :: dmap mb L :: bsep (dfiles L) :: H)) (hL : tk (Fs.plain L) ≤ 1000000000)
    (hR : ∀ w', Sat W w' g (dsk b mb d :: dmap mb L :: bsep (dfiles L) :: H) → R (.returned (.tuple #[.int .i64 d.room, .int .i64 (tk (Fs.plain L) : Nat)])) w') : Calls Try.prog 34 #[ptr b] w R := by
  have HR := Lib.hid hR
  clear hR
  simp only [dsk, dmap] at hs
  refine C.calls (args := [ptr b]) Try.func34 rfl rfl rfl ?_
  refine go ?_
  refine E.range Try.underlying55 hs.swap ?_
  intro r w1 hs
  refine gob ?_
  refine C.block ?_
  refine C.lp (fun x : Nat × Fs × Option (List UInt8 × Value) => [(0, ptr b), (4, .int .i64 x.1), (13, .pointer (some ⟨r, 0, none⟩))])
    (fun gk x w => gk = x.2.1.length ∧ x.1 + tk (Fs.plain x.2.1) = tk (Fs.plain L) ∧ (∀ q ∈ x.2.1, q ∈ L) ∧ Sat W w g (iter str mb r (L.map fun p => (p.1, ptr p.2.1)) (x.2.1.map fun p => (p.1, ptr p.2.1)) x.2.2 :: dsk b mb d :: bsep (dfiles L) :: H)) L.length (0, L, none) ⟨rfl, by simp, fun q h => h, hs⟩ ?_
  clear hs
  rintro gk ⟨acc, T, cur⟩ w2 ⟨rfl, hacc, hT, hs⟩
  simp only at hacc hT hs ⊢
  refine go ?_
  refine E.next hs (fun h0 => ?_) (fun t1 p t2 w3 ht hs => ?_)
  · have hT0 : T = [] := by simpa using h0
    subst hT0
    simp only [dsk] at hs
    have hs := (iter_end hs).swap
    refine go ?_
    refine A.r2 ?_
    have e : (acc : Int) = (tk (Fs.plain L) : Nat) := by
      rw [← hacc]; simp [Fs.plain, tk]
    rw [e]
    exact HR.out _ hs
  · obtain ⟨l1, q, l2, rfl, rfl, h2⟩ := todo_split rfl ht
    refine go ?_
    refine E.entry hs ?_
    refine go ?_
    obtain ⟨L1, L2, hL12⟩ := List.append_of_mem (hT q (by simp))
    have ho := hs.pull2
    rw [hL12] at ho
    obtain ⟨a, c, ho⟩ := file_open (files_out ho)
    refine E.ld ho ?_
    have e1 : tk (Fs.plain (l1 ++ q :: l2)) = q.2.2.p.length + tk (Fs.plain (l1 ++ l2)) := by
      simp only [Fs.plain, List.map_append, List.map_cons, tk_append, tk_cons]; omega
    have e2 : acc + q.2.2.p.length ≤ 1000000000 := by omega
    refine go ?_
    rw [h2] at hs
    refine A.rd (l1 ++ l2).length (acc + q.2.2.p.length, l1 ++ l2, some (q.1, ptr q.2.1)) ⟨rfl, ?_, ?_, hs⟩
    · simp only; omega
    · intro q' hq'
      exact hT q' (by simp only [List.mem_append, List.mem_cons] at hq' ⊢; rcases hq' with h | h <;> simp [h])
end Go.Proofs.Ytcfbmmlgdopbmaa
