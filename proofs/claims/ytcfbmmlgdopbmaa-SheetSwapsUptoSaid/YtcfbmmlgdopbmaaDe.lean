/-
  Layer 4 (disk): Sync, Remove, Cut, Move, Read, Widen.
-/
import Derived.Test.YtcfbmmlgdopbmaaDd
namespace Go.Proofs.Ytcfbmmlgdopbmaa
open Go.RowKit
set_option linter.unusedVariables false
set_option linter.unusedSimpArgs false

def Dk.sync (d : Dk) (name : List UInt8) : Int × Dk :=
  if d.act.1 = 0 then (match aget name d.fs with
    | none => (2, d.act.2)
    | some f => (0, { d.act.2 with fs := aput name ⟨f.p, f.p.length⟩ d.fs }))
  else d.act
def Dk.remove (d : Dk) (name : List UInt8) : Int × Dk :=
  if d.act.1 = 0 then (match aget name d.fs with
    | none => (2, d.act.2)
    | some f => (0, { d.act.2 with fs := adrop name d.fs }))
  else d.act
def Dk.cut (d : Dk) (name : List UInt8) (n : Int) : Int × Dk :=
  if d.act.1 = 0 then (match aget name d.fs with
    | none => (2, d.act.2)
    | some f => if n < 0 ∨ f.p.length < n then (1, d.act.2) else (0, { d.act.2 with fs := aput name ⟨f.p.take n.toNat, n.toNat⟩ d.fs }))
  else d.act
def Dk.move (d : Dk) (src dst : List UInt8) : Int × Dk :=
  if namedB dst = false then (1, d) else
  if d.act.1 = 0 then (match aget src d.fs with
    | none => (2, d.act.2)
    | some f => (0, { d.act.2 with fs := aput dst f (adrop src d.fs) }))
  else d.act
def Dk.read (d : Dk) (name : List UInt8) : Except Int (List UInt8) :=
  if d.off then .error 7 else match aget name d.fs with
    | none => .error 2
    | some f => .ok f.p

theorem upd_ok {d d1 : Dk} {name : List UInt8} {f f' : Fl} (h : d.ok) (h1 : d1.ok) (ha : aget name d.fs = some f) (hl : f'.p.length ≤ f.p.length) (hsf : f'.safe ≤ f'.p.length) : ({ d1 with fs := aput name f' d.fs } : Dk).ok := by
  obtain ⟨l1, l2, e, h2, -⟩ := al_split ha
  refine ⟨?_, h1.room, h1.fuse, h1.torn, ?_, put_keys h.keys⟩
  · have := h.total
    simp only [h2]
    rw [e] at this
    simp only [tk_append, tk_cons] at this ⊢
    omega
  · intro q hq
    simp only [h2, List.mem_append, List.mem_cons] at hq
    rcases hq with hq | rfl | hq
    · exact h.safe q (by rw [e]; simp [hq])
    · exact hsf
    · exact h.safe q (by rw [e]; simp [hq])
theorem drop_ok {d d1 : Dk} {name : List UInt8} (h : d.ok) (h1 : d1.ok) : ({ d1 with fs := adrop name d.fs } : Dk).ok := by
  cases ha : aget name d.fs with
  | none => rw [adrop_none ha]; exact ⟨h.total, h1.room, h1.fuse, h1.torn, h.safe, h.keys⟩
  | some f =>
    obtain ⟨l1, l2, e, -, h2⟩ := al_split ha
    refine ⟨?_, h1.room, h1.fuse, h1.torn, ?_, drop_keys h.keys⟩
    · have := h.total
      simp only [h2]
      rw [e] at this
      simp only [tk_append, tk_cons] at this ⊢
      omega
    · intro q hq
      simp only [h2, List.mem_append] at hq
      exact h.safe q (by rw [e]; rcases hq with hq | hq <;> simp [hq])

set_option maxHeartbeats 1600000 in
set_option maxRecDepth 100000 in
theorem sync_any {R : Ending → World → Prop} {W w : World} {g : Hl} {H : List HP} {b : Nat} {d : Dk} {name : List UInt8} (hs : Sat W w g (disk b d :: H))
    (hR : ∀ w', Sat W w' g (disk b (d.sync name).2 :: H) → R (.returned (.int .i64 (d.sync name).1)) w') : Calls Try.prog 27 #[ptr b, str name] w R := by
  have HR := Lib.hid hR
  clear hR
  refine C.calls (args := [ptr b, str name]) Try.func27 rfl rfl rfl ?_
  refine go ?_
  obtain ⟨mb, L, hL, hok, hs⟩ := disk_open hs
  refine E.callf Try.func35 rfl ?_
  refine act_dsk hs hok ?_
  intro w1 hs
  obtain ⟨ok1, e1, -, -⟩ := Dk.act_ok hok
  have key := HR.out
  simp only [Dk.sync, ← hL] at key
  generalize d.act = q at hs ok1 e1 key ⊢
  obtain ⟨er, d1⟩ := q
  simp only at hs ok1 e1 key ⊢
  by_cases her : er = 0
  · subst her
    simp only [if_true, al_plain] at key
    refine go ?_
    have hs0 := hs
    simp only [dsk] at hs
    refine go ?_
    refine E.lookd hs (.there .here) (fun h0 => ?_) (fun fb f h1 => ?_)
    · refine go ?_
      refine A.r1 ?_
      simp only [h0, Option.map_none] at key
      exact key _ (disk_close (hL.trans e1.symm) ok1 hs0)
    · simp only [h1, Option.map_some] at key
      obtain ⟨L1, L2, rfl, h2, -⟩ := al_split h1
      obtain ⟨a, c, hs⟩ := file_open (files_out (q := (name, (fb, f))) hs.pull2)
      simp only at hs
      refine go ?_
      refine E.sto hs ?_
      intro w2 hs
      refine go ?_
      refine A.r1 ?_
      have h3 := as_plain name (fb, ⟨f.p, f.p.length⟩) (L1 ++ (name, (fb, f)) :: L2)
      rw [h2] at h3
      refine key _ (disk_close (L := L1 ++ (name, (fb, ⟨f.p, f.p.length⟩)) :: L2) (mb := mb) h3.symm ?_ ?_)
      · have := upd_ok (f' := ⟨f.p, f.p.length⟩) hok ok1 (name := name) (f := f) (by rw [← hL, al_plain, h1]; rfl) (by simp) (by simp)
        rw [← hL] at this
        exact this
      · rw [dmap_mid (f' := ⟨f.p, f.p.length⟩)] at hs
        exact (files_in (q := (name, (fb, ⟨f.p, f.p.length⟩))) (file_close (l := f.p) rfl rfl hs)).push2
  · have hd : (!decide (er = 0)) = true := by simp [her]
    simp only [her, if_false] at key
    refine go ?_
    refine C.cond rfl (fun _ => ?_) (fun h => by rw [hd] at h; cases h)
    refine go ?_
    refine A.r1 ?_
    exact key _ (disk_close (hL.trans e1.symm) ok1 hs)

set_option maxHeartbeats 1600000 in
set_option maxRecDepth 100000 in
theorem remove_any {R : Ending → World → Prop} {W w : World} {g : Hl} {H : List HP} {b : Nat} {d : Dk} {name : List UInt8} (hs : Sat W w g (disk b d :: H))
    (hR : ∀ w', Sat W w' g (disk b (d.remove name).2 :: H) → R (.returned (.int .i64 (d.remove name).1)) w') : Calls Try.prog 38 #[ptr b, str name] w R := by
  have HR := Lib.hid hR
  clear hR
  refine C.calls (args := [ptr b, str name]) Try.func38 rfl rfl rfl ?_
  refine go ?_
  obtain ⟨mb, L, hL, hok, hs⟩ := disk_open hs
  refine E.callf Try.func35 rfl ?_
  refine act_dsk hs hok ?_
  intro w1 hs
  obtain ⟨ok1, e1, -, -⟩ := Dk.act_ok hok
  have key := HR.out
  simp only [Dk.remove, ← hL] at key
  generalize d.act = q at hs ok1 e1 key ⊢
  obtain ⟨er, d1⟩ := q
  simp only at hs ok1 e1 key ⊢
  by_cases her : er = 0
  · subst her
    simp only [if_true, al_plain] at key
    have hs0 := hs
    simp only [dsk] at hs
    refine go ?_
    refine E.lookd hs (.there .here) (fun h0 => ?_) (fun fb f h1 => ?_)
    · refine go ?_
      refine A.r1 ?_
      simp only [h0, Option.map_none] at key
      exact key _ (disk_close (hL.trans e1.symm) ok1 hs0)
    · simp only [h1, Option.map_some] at key
      refine go ?_
      refine E.deld hs (.there .here) ?_
      intro w2 hs
      refine go ?_
      refine A.r1 ?_
      obtain ⟨L1, L2, rfl, -, h2⟩ := al_split h1
      rw [h2] at hs
      refine key _ (disk_close (L := L1 ++ L2) (mb := mb) ?_ ?_ ?_)
      · rw [ad_plain, h2]
      · have := drop_ok (name := name) hok ok1
        rw [← hL] at this
        exact this
      · have h5 := (files_out (q := (name, (fb, f))) hs.pull2).drop
        exact h5.push2
  · have hd : (!decide (er = 0)) = true := by simp [her]
    simp only [her, if_false] at key
    refine go ?_
    refine C.cond rfl (fun _ => ?_) (fun h => by rw [hd] at h; cases h)
    refine go ?_
    refine A.r1 ?_
    exact key _ (disk_close (hL.trans e1.symm) ok1 hs)

end Go.Proofs.Ytcfbmmlgdopbmaa
