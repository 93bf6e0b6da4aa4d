/-
  Layer 4 (disk): Append, Sync, Remove, Cut, Move, Read, Widen, Arm.
-/
import Derived.Test.YtcfbmmlgdopbmaaDc
namespace Go.Proofs.Ytcfbmmlgdopbmaa
open Go.RowKit
set_option linter.unusedVariables false
set_option linter.unusedSimpArgs false

theorem take_put_len (name p : List UInt8) : ∀ (fs : List (List UInt8 × Fl)), tk (put name p fs) = tk fs + p.length := by
  intro fs
  unfold put
  cases h : aget name fs with
  | none => rw [(as_none h).1, tk_append]; simp [tk]
  | some f =>
    obtain ⟨l1, l2, rfl, h2, -⟩ := al_split h
    rw [h2]
    simp [tk_append, tk_cons]
    omega
theorem put_keys {β : Type} {name : List UInt8} {v : β} : ∀ {fs : List (List UInt8 × β)}, (fs.map Prod.fst).Nodup → ((aput name v fs).map Prod.fst).Nodup := by
  intro fs hn
  cases h : aget name fs with
  | none =>
    rw [(as_none h).1, List.map_append]
    have : name ∉ fs.map Prod.fst := by
      clear hn
      induction fs with
      | nil => simp
      | cons q r ih =>
        obtain ⟨a, u⟩ := q
        simp only [aget] at h
        split at h
        · cases h
        · rename_i hne
          simp only [List.map_cons, List.mem_cons, not_or]
          exact ⟨hne, ih h⟩
    exact List.nodup_append.2 ⟨hn, by simp, fun a ha c hc => by simp at hc; subst hc; intro e; subst e; exact this ha⟩
  | some f =>
    obtain ⟨l1, l2, rfl, h2, -⟩ := al_split h
    rw [h2]
    simpa using hn
theorem adrop_none {β : Type} {name : List UInt8} : ∀ {fs : List (List UInt8 × β)}, aget name fs = none → adrop name fs = fs
  | [], _ => rfl
  | (a, u) :: r, h => by
    simp only [aget] at h
    split at h
    · cases h
    · rename_i hne
      simp [adrop, hne, adrop_none h]
theorem drop_keys {β : Type} {name : List UInt8} {fs : List (List UInt8 × β)} (hn : (fs.map Prod.fst).Nodup) : ((adrop name fs).map Prod.fst).Nodup := by
  cases h : aget name fs with
  | none => rw [adrop_none h]; exact hn
  | some f =>
    obtain ⟨l1, l2, rfl, -, h2⟩ := al_split h
    rw [h2]
    refine hn.sublist ?_
    rw [List.map_append, List.map_append, List.map_cons]
    exact List.Sublist.append_left (List.sublist_cons_self _ _) _

theorem aget_last {β : Type} {name : List UInt8} {v : β} : ∀ {fs : List (List UInt8 × β)}, aget name fs = none → aget name (fs ++ [(name, v)]) = some v
  | [], _ => by simp [aget]
  | (a, u) :: r, h => by
    simp only [aget] at h
    split at h
    · cases h
    · rename_i hne
      simp only [List.cons_append, aget, hne, if_false]
      exact aget_last h
theorem aput_last {β : Type} {name : List UInt8} {v v' : β} : ∀ {fs : List (List UInt8 × β)}, aget name fs = none → aput name v' (fs ++ [(name, v)]) = fs ++ [(name, v')]
  | [], _ => by simp [aput]
  | (a, u) :: r, h => by
    simp only [aget] at h
    split at h
    · cases h
    · rename_i hne
      simp only [List.cons_append, aput, hne, if_false, aput_last h]
theorem put_ok {d : Dk} {name p : List UInt8} (h : d.ok) (hp : tk d.fs + p.length ≤ 1000000000) : ({ d with fs := put name p d.fs } : Dk).ok := by
  refine ⟨by simp only [take_put_len]; exact hp, h.room, h.fuse, h.torn, ?_, put_keys h.keys⟩
  intro q hq
  simp only [put] at hq
  cases ha : aget name d.fs with
  | none =>
    rw [ha, (as_none ha).1] at hq
    rcases List.mem_append.1 hq with hq | hq
    · exact h.safe q hq
    · simp only [List.mem_singleton] at hq; subst hq; simp
  | some f =>
    obtain ⟨l1, l2, e, h2, -⟩ := al_split ha
    rw [ha, h2] at hq
    simp only [List.mem_append, List.mem_cons] at hq
    rcases hq with hq | rfl | hq
    · exact h.safe q (by rw [e]; simp [hq])
    · have := h.safe (name, f) (by rw [e]; simp)
      simp only [Option.getD_some, List.length_append] at this ⊢
      omega
    · exact h.safe q (by rw [e]; simp [hq])

/-- How 'Append' goes. -/
def Dk.append (d : Dk) (name p : List UInt8) : Int × Dk :=
  if namedB name = false then (1, d) else
  if d.act.1 = 0 then (if d.room - tk d.fs < p.length then (3, d.act.2) else (0, { d.act.2 with fs := put name p d.fs }))
  else (d.act.1, if d.off = false ∧ 0 < d.torn ∧ tk d.fs + min d.torn p.length ≤ d.room then { d.act.2 with fs := put name (p.take (min d.torn p.length).toNat) d.fs } else d.act.2)

set_option maxHeartbeats 1600000 in
set_option maxRecDepth 100000 in
theorem append_any {R : Ending → World → Prop} {W w : World} {g : Hl} {H : List HP} {b n c : Nat} {a : Option Addr} {d : Dk} {name p : List UInt8} (hs : Sat W w g (disk b d :: H)) (hp : Pr 1 g (.slice a n c) n (bs p)) (hn : p.length = n) (hnb : n ≤ 140737488355328)
    (hR : ∀ w', Sat W w' g (disk b (d.append name p).2 :: H) → R (.returned (.int .i64 (d.append name p).1)) w') : Calls Try.prog 18 #[ptr b, str name, .slice a n c] w R := by
  have HR := Lib.hid hR
  clear hR
  refine C.calls (args := [ptr b, str name, .slice a n c]) Try.func18 rfl rfl rfl ?_
  refine go ?_
  refine E.callf Try.func33 rfl ?_
  refine named_any name hs ?_
  intro w1 hs
  cases hN : namedB name with
  | false =>
    refine go ?_
    refine A.r1 ?_
    have := HR.out w1
    simp only [Dk.append, hN, if_true] at this
    exact this hs
  | true =>
    refine go ?_
    obtain ⟨mb, L, hL, hok, hs⟩ := disk_open hs
    have htk := hok.total
    have hrm := hok.room
    rw [← hL] at htk
    refine E.callf Try.func34 rfl ?_
    refine room_any hs htk ?_
    intro w2 hs
    refine go ?_
    refine E.callf Try.func29 rfl ?_
    refine on_dsk hs ?_
    refine go ?_
    refine E.callf Try.func35 rfl ?_
    refine act_dsk hs hok ?_
    intro w3 hs
    obtain ⟨ok1, e1, e2, e3⟩ := Dk.act_ok hok
    have hto := ok1.torn
    have key := HR.out
    simp only [Dk.append, hN, Bool.true_eq_false, if_false, ← hL] at key
    rw [← e3] at key
    generalize d.act = q at hs ok1 e1 e2 e3 hto key ⊢
    obtain ⟨er, d1⟩ := q
    simp only at hs ok1 e1 e2 e3 hto key ⊢
    refine go ?_
    by_cases her : er = 0
    · subst her
      simp only [if_true] at key
      refine go ?_
      refine C.cond_dec (p := d.room - (tk (Fs.plain L) : Nat) < n) rfl (fun hf => ?_) (fun hf => ?_)
      · refine go ?_
        refine A.r1 ?_
        rw [← hn] at hf
        simp only [hf, if_true] at key
        exact key _ (disk_close (hL.trans e1.symm) ok1 hs)
      · refine go ?_
        refine E.callf Try.func36 rfl ?_
        refine write_any hs hp hn (by omega) ?_
        intro w4 L' hL' hs
        refine go ?_
        refine A.r1 ?_
        rw [← hn] at hf
        simp only [hf, if_false] at key
        refine key _ (disk_close (L := L') (mb := mb) ?_ ?_ ?_)
        · exact hL'
        · have := put_ok (name := name) (p := p) ok1 (by rw [e1, ← hL]; omega)
          rw [e1, ← hL] at this
          exact this
        · exact hs
    · have hd : (!decide (er = 0)) = true := by simp [her]
      refine C.cond rfl (fun _ => ?_) (fun h => by rw [hd] at h; cases h)
      simp only [her, if_false] at key
      have hs0 := hs
      simp only [dsk] at hs
      have fin : d.off = true ∨ ¬ 0 < d1.torn ∨ ¬ (tk (Fs.plain L) : Nat) + min d1.torn n ≤ d.room → R (.returned (.int .i64 er)) w3 := fun h => by
        have h2 : ¬ (d.off = false ∧ 0 < d1.torn ∧ (tk (Fs.plain L) : Nat) + min d1.torn p.length ≤ d.room) := by
          rintro ⟨a1, a2, a3⟩
          rw [hn] at a3
          rcases h with h | h | h
          · rw [a1] at h; cases h
          · exact h a2
          · exact h a3
        have := key w3
        rw [if_neg h2] at this
        exact this (disk_close (hL.trans e1.symm) ok1 hs0)
      cases hoff : d.off with
      | true =>
        refine go ?_
        refine A.r1 ?_
        exact fin (.inl hoff)
      | false =>
        refine go ?_
        cases h1 : decide (0 < d1.torn)
        · refine go ?_
          refine A.r1 ?_
          exact fin (.inr (.inl (by simpa using h1)))
        · refine go ?_
          have h1' : 0 < d1.torn := by simpa using h1
          refine C.cond_dec (p := (tk (Fs.plain L) : Nat) + min d1.torn n ≤ d.room) rfl (fun h2 => ?_) (fun h2 => ?_)
          · refine go ?_
            have hmn : ∃ k : Nat, min d1.torn (n : Int) = k ∧ k ≤ n := ⟨(min d1.torn (n : Int)).toNat, by omega, by omega⟩
            obtain ⟨k, hk, hkn⟩ := hmn
            rw [hk] at h2 ⊢
            refine E.slb el_u8 hp 0 k ?_
            intro a' c' hp'
            simp only [Nat.sub_zero, List.drop_zero] at hp' ⊢
            refine go ?_
            have hkl : (p.take k).length = k := by rw [List.length_take]; omega
            refine E.callf Try.func36 rfl ?_
            refine write_any (d := d1) hs0 hp' hkl (by omega) ?_
            intro w4 L' hL' hs
            refine go ?_
            refine A.r1 ?_
            have := key w4
            rw [if_pos ⟨hoff, h1', by rw [hn, hk]; exact h2⟩, hn, hk] at this
            refine this (disk_close (L := L') (mb := mb) ?_ ?_ ?_)
            · simpa using hL'
            · have := put_ok (name := name) (p := p.take k) ok1 (by rw [e1, ← hL, hkl]; omega)
              rw [e1, ← hL] at this
              simpa using this
            · exact hs
          · refine go ?_
            refine A.r1 ?_
            exact fin (.inr (.inr h2))
end Go.Proofs.Ytcfbmmlgdopbmaa
