/-
  Layer 4 (disk): Arm, Crash.
-/
import Derived.Test.YtcfbmmlgdopbmaaDf
namespace Go.Proofs.Ytcfbmmlgdopbmaa
open Go.RowKit
set_option linter.unusedVariables false
set_option linter.unusedSimpArgs false

set_option maxHeartbeats 1600000 in
set_option maxRecDepth 100000 in
theorem arm_any {R : Ending → World → Prop} {W w : World} {g : Hl} {H : List HP} {b : Nat} {d : Dk} {acts torn : Int} (ha : -9223372036854775808 ≤ acts ∧ acts ≤ 9223372036854775807) (ht : torn ≤ 9223372036854775807) (hs : Sat W w g (disk b d :: H))
    (hR : ∀ w', Sat W w' g (disk b { d with fuse := acts, torn := max torn 0 } :: H) → R (.returned (.tuple #[])) w') : Calls Try.prog 22 #[ptr b, .int .i64 acts, .int .i64 torn] w R := by
  have HR := Lib.hid hR
  clear hR
  obtain ⟨mb, L, hL, hok, hs⟩ := disk_open hs
  simp only [dsk] at hs
  refine C.calls (args := [ptr b, .int .i64 acts, .int .i64 torn]) Try.func22 rfl rfl rfl ?_
  refine go ?_
  refine E.sto hs ?_
  intro w1 hs
  refine go ?_
  refine E.sto hs ?_
  intro w2 hs
  refine go ?_
  refine A.e0 ?_
  exact HR.out _ (disk_close (d := { d with fuse := acts, torn := max torn 0 }) hL ⟨hok.total, hok.room, ha, by simp only; omega, hok.safe, hok.keys⟩ hs)

/-- What is left of a file. -/
def Fl.kept (f : Fl) (keep : Int) : Nat := min f.p.length (f.safe + (max (min keep f.p.length) 0).toNat)
def Fl.crash (f : Fl) (keep : Int) : Fl := ⟨f.p.take (f.kept keep), f.kept keep⟩
def Dk.crash (d : Dk) (keep : Int) : Dk := { d with fs := d.fs.map fun p => (p.1, p.2.crash keep), off := false, fuse := -1, torn := 0 }
theorem Fl.kept_le (f : Fl) (keep : Int) : f.kept keep ≤ f.p.length := Nat.min_le_left _ _
theorem crash_ok {d : Dk} (h : d.ok) (keep : Int) : (d.crash keep).ok := by
  refine ⟨?_, h.room, by simp [Dk.crash], by simp [Dk.crash], ?_, ?_⟩
  · have h1 : ∀ l : List (List UInt8 × Fl), tk (l.map fun p => (p.1, p.2.crash keep)) ≤ tk l := by
      intro l
      induction l with
      | nil => simp [tk]
      | cons p r ih =>
        rw [List.map_cons, tk_cons, tk_cons]
        have : (p.2.crash keep).p.length ≤ p.2.p.length := by simp [Fl.crash]; omega
        simp only
        omega
    have := h1 d.fs
    have := h.total
    simp only [Dk.crash]
    omega
  · intro p hp
    simp only [Dk.crash, List.mem_map] at hp
    obtain ⟨q, hq, rfl⟩ := hp
    have := q.2.kept_le keep
    simp [Fl.crash]
    omega
  · have : (d.crash keep).fs.map Prod.fst = d.fs.map Prod.fst := by simp [Dk.crash]
    rw [this]
    exact h.keys

/-- Files of which some are still to come. -/
def crT (keep : Int) (T : List (List UInt8)) (L : Fs) : Fs := L.map fun q => if q.1 ∈ T then q else (q.1, q.2.1, q.2.2.crash keep)
theorem crT_step {keep : Int} {T T' : List (List UInt8)} {L : Fs} {q : List UInt8 × (Nat × Fl)} (hn : (L.map Prod.fst).Nodup) (hq : q ∈ L) (h1 : q.1 ∈ T) (h2 : q.1 ∉ T') (h3 : ∀ x, x ≠ q.1 → (x ∈ T' ↔ x ∈ T)) :
    ∃ A B, crT keep T L = A ++ q :: B ∧ crT keep T' L = A ++ (q.1, q.2.1, q.2.2.crash keep) :: B := by
  obtain ⟨L1, L2, rfl⟩ := List.append_of_mem hq
  have hne : ∀ p ∈ L1 ++ L2, p.1 ≠ q.1 := by
    intro p hp
    simp only [List.map_append, List.map_cons] at hn
    have h4 := List.perm_middle.nodup_iff.1 hn
    rw [List.nodup_cons, ← List.map_append] at h4
    exact fun e => h4.1 (by rw [← e]; exact List.mem_map_of_mem hp)
  have hsame : ∀ l : Fs, (∀ p ∈ l, p ∈ L1 ++ L2) → crT keep T' l = crT keep T l := by
    intro l hl
    unfold crT
    apply List.map_congr_left
    intro p hp
    have := h3 p.1 (hne p (hl p hp))
    simp only [this]
  refine ⟨crT keep T L1, crT keep T L2, ?_, ?_⟩
  · simp [crT, h1]
  · have e1 := hsame L1 (fun p hp => by simp [hp])
    have e2 := hsame L2 (fun p hp => by simp [hp])
    rw [← e1, ← e2]
    simp [crT, h2]
theorem crT_all (keep : Int) (L : Fs) : crT keep (L.map Prod.fst) L = L := by
  unfold crT
  conv => rhs; rw [← List.map_id L]
  apply List.map_congr_left
  intro q hq
  simp only [List.mem_map_of_mem hq, if_true, id]
theorem crT_map (keep : Int) (T : List (List UInt8)) (L : Fs) : (crT keep T L).map (fun p => (p.1, ptr p.2.1)) = L.map fun p => (p.1, ptr p.2.1) := by
  unfold crT
  rw [List.map_map]
  apply List.map_congr_left
  intro q hq
  simp only [Function.comp_apply]
  split <;> rfl
theorem crT_nil (keep : Int) (L : Fs) : Fs.plain (crT keep [] L) = (Fs.plain L).map fun p => (p.1, p.2.crash keep) := by
  simp [crT, Fs.plain]

structure CrS where
  T : Fs
  cur : Option (List UInt8 × Value)

set_option maxHeartbeats 1600000 in
set_option maxRecDepth 100000 in
theorem crash_any {R : Ending → World → Prop} {W w : World} {g : Hl} {H : List HP} {b : Nat} {d : Dk} {keep : Int} (hkp : -9223372036854775808 ≤ keep ∧ keep ≤ 9223372036854775807) (hs : Sat W w g (disk b d :: H))
    (hR : ∀ w', Sat W w' g (disk b (d.crash keep) :: H) → R (.returned (.tuple #[])) w') : Calls Try.prog 23 #[ptr b, .int .i64 keep] w R := by
  have HR := Lib.hid hR
  clear hR
  obtain ⟨mb, L, hL, hok, hs⟩ := disk_open hs
  have hkeys : (L.map Prod.fst).Nodup := by
    have := hok.keys
    rw [← hL] at this
    simpa [Fs.plain, Function.comp_def] using this
  have hsafe : ∀ q ∈ L, q.2.2.safe ≤ q.2.2.p.length := fun q hq => hok.safe (q.1, q.2.2) (by rw [← hL]; exact List.mem_map_of_mem hq)
  have hlen : ∀ q ∈ L, q.2.2.p.length ≤ 1000000000 := fun q hq => by
    obtain ⟨L1, L2, rfl⟩ := List.append_of_mem hq
    have := hok.total
    rw [← hL] at this
    simp only [Fs.plain, List.map_append, List.map_cons, tk_append, tk_cons] at this
    omega
  simp only [dsk, dmap] at hs
  refine C.calls (args := [ptr b, .int .i64 keep]) Try.func23 rfl rfl rfl ?_
  refine go ?_
  refine E.range Try.underlying55 hs.swap ?_
  intro r w1 hs
  refine gob ?_
  refine C.cutQ (fun _ : Unit => [(0, ptr b)]) (fun _ w => Sat W w g (dsk b mb d :: dmap mb L :: bsep (dfiles (crT keep [] L)) :: H)) ?_ ?_
  · refine C.block ?_
    refine C.lp (fun x : CrS => [(0, ptr b), (1, .int .i64 keep), (13, .pointer (some ⟨r, 0, none⟩))])
      (fun gk x w => gk = x.T.length ∧ (x.T.map Prod.fst).Nodup ∧ (∀ q ∈ x.T, q ∈ L) ∧ Sat W w g (iter str mb r (L.map fun p => (p.1, ptr p.2.1)) (x.T.map fun p => (p.1, ptr p.2.1)) x.cur :: dsk b mb d :: bsep (dfiles (crT keep (x.T.map Prod.fst) L)) :: H)) L.length ⟨L, none⟩ ⟨rfl, hkeys, fun q h => h, by rw [crT_all]; exact hs⟩ ?_
    clear hs
    rintro gk ⟨T, cur⟩ w2 ⟨rfl, hnd, hT, hs⟩
    simp only at hnd hT hs ⊢
    refine go ?_
    refine E.next hs (fun h0 => ?_) (fun t1 p t2 w3 ht hs => ?_)
    · have hT0 : T = [] := by simpa using h0
      subst hT0
      have hs := (iter_end hs).swap
      refine go ?_
      exact A.mt () hs
    · obtain ⟨l1, q, l2, rfl, rfl, h2⟩ := todo_split rfl ht
      refine go ?_
      refine E.entry hs ?_
      refine go ?_
      have hq := hT q (by simp)
      have hq1 := hsafe q hq
      have hq2 := hlen q hq
      have hnq : q.1 ∉ (l1 ++ l2).map Prod.fst := by
        simp only [List.map_append, List.map_cons] at hnd
        have h4 := List.perm_middle.nodup_iff.1 hnd
        rw [List.nodup_cons, ← List.map_append] at h4
        exact h4.1
      obtain ⟨X1, X2, a1, a2⟩ := crT_step (keep := keep) (T' := (l1 ++ l2).map Prod.fst) (T := (l1 ++ q :: l2).map Prod.fst) hkeys hq (by simp) hnq (fun x hx => by simp [hx])
      rw [a1] at hs
      obtain ⟨name, fb, f⟩ := q
      obtain ⟨a, c, ho⟩ := file_open (files_out hs.pull2)
      simp only at ho hq1 hq2 a2
      replace hs := ho
      refine C.held1 fb hs ?_
      intro w4 hk hs
      refine goh ?_
      have e5 : min (f.p.length : Int) ((f.safe : Int) + max (min keep (f.p.length : Int)) 0) = ((f.kept keep : Nat) : Int) := by unfold Fl.kept; omega
      rw [e5]
      clear e5
      obtain ⟨k, hkk⟩ : ∃ k, k = f.kept keep := ⟨_, rfl⟩
      have hkl := f.kept_le keep
      have ecr : f.crash keep = ⟨f.p.take k, k⟩ := by rw [hkk]; rfl
      rw [← hkk] at hkl ⊢
      rw [ecr] at a2
      clear ecr hkk
      refine EH.done ?_
      refine go ?_
      refine E.cutw el_u8 hs.swap k (by omega) ?_
      intro a' hs
      have hs := hs.swap
      refine go ?_
      refine E.sto hs ?_
      intro w5 hs
      refine go ?_
      refine E.sto hs ?_
      intro w6 hs
      refine go ?_
      have ql : (f.p.take k).length = k := by rw [List.length_take]; omega
      rw [Nat.mul_one, ← bs_take] at hs
      have hs := files_in (L1 := X1) (L2 := X2) (q := (name, (fb, ⟨f.p.take k, k⟩))) (file_close (l := f.p.take k) ql rfl hs)
      rw [← a2] at hs
      rw [h2] at hs
      refine A.rd (l1 ++ l2).length ⟨l1 ++ l2, some (name, ptr fb)⟩ ⟨rfl, ?_, ?_, hs.push2⟩
      · simp only [List.map_append, List.map_cons] at hnd
        have h4 := List.perm_middle.nodup_iff.1 hnd
        rw [List.nodup_cons, ← List.map_append] at h4
        exact h4.2
      · intro q' hq'
        exact hT q' (by simp only [List.mem_append, List.mem_cons] at hq' ⊢; rcases hq' with h | h <;> simp [h])
  clear hs
  rintro _ w9 hs
  simp only [dsk] at hs
  refine go ?_
  refine E.sto hs ?_
  intro w10 hs
  refine go ?_
  refine E.sto hs ?_
  intro w11 hs
  refine go ?_
  refine E.sto hs ?_
  intro w12 hs
  refine go ?_
  refine A.e0 ?_
  refine HR.out _ (disk_close (d := d.crash keep) (L := crT keep [] L) (mb := mb) (by rw [crT_nil, hL]; rfl) (crash_ok hok keep) ?_)
  have e : dmap mb (crT keep [] L) = dmap mb L := by unfold dmap; rw [crT_map]
  rw [e]
  exact hs
end Go.Proofs.Ytcfbmmlgdopbmaa
