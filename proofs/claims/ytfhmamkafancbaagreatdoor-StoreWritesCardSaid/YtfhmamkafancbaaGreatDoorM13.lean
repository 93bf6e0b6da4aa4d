/-
  Layer 10 (manifest): Write, walked.
-/
import Derived.Test.YtfhmamkafancbaaGreatDoorM12
import Derived.Test.YtfhmamkafancbaaGreatDoorM11
import Derived.Test.YtfhmamkafancbaaGreatDoorM10
import Derived.Test.YtfhmamkafancbaaGreatDoorM08
import Derived.Test.YtfhmamkafancbaaGreatDoorM06
import Derived.Test.YtfhmamkafancbaaGreatDoorM02
import Derived.Test.YtfhmamkafancbaaGreatDoorM09
import Derived.Test.YtfhmamkafancbaaGreatDoorM03
namespace Go.Proofs.YtfhmamkafancbaaGreatDoor
open Go.RowKit
set_option linter.unusedVariables false
set_option linter.unusedSimpArgs false
theorem Sat.pubB {W w : World} {g : Hl} {H : List HP} {b n s : Nat} {xs : List Value} {e : TypeId} (hs : Sat W w g (blk b xs e :: H)) (hx : xs.length = n * s) (hn : n ≤ 9223372036854775807) : ∃ g', Hl.le g g' ∧ Pr s g' (.slice (some ⟨b, 0, none⟩) n n) n xs ∧ Sat W w g' H := by
  obtain ⟨h, e1, e2, e3, hs2⟩ := hs.publish
  have e1' : h = Hl.one b (.cells xs.toArray e (0, 0)) := e1
  refine ⟨_, e2, ⟨hx, _, n, rfl, Nat.le_refl _, by unfold maxLen; omega, fun e => by simp at e, .inr ⟨b, 0, xs.toArray, e, (0, 0), rfl, e3 _ _ (by rw [e1']; simp [Hl.one]), by simp [← hx]⟩⟩, hs2⟩
/-- One record, as a list of records. -/
theorem LB.one {g : Hl} {b c n : Nat} {a : Option Addr} {p : List UInt8} (h1 : Pr 1 g (.slice a n c) n (bs p)) (hn : p.length = n) (h2 : Pr 1 g (.slice (some ⟨b, 0, none⟩) 1 1) 1 [.slice a n c]) : LB g (some ⟨b, 0, none⟩) 1 1 [p] :=
  ⟨[(.slice a n c, p)], rfl, rfl, fun q hq => by rw [List.mem_singleton.1 hq]; simp only; rw [hn]; exact h1, h2⟩
set_option maxHeartbeats 3200000 in
set_option maxRecDepth 100000 in
theorem mwrite_any {R : Ending → World → Prop} {W w : World} {g : Hl} {H : List HP} {db c : Nat} {a : Option Addr} {d : Dk} {m : Mf} (ho : m.ok) (hp : Pr 1 g (.slice a m.floor.length c) m.floor.length (us m.floor)) (hs : Sat W w g (disk db d :: H))
    (hR : ∀ w' g', Hl.le g g' → Sat W w' g' (disk db (d.mwrite m).2 :: H) → R (.returned (.int .i64 (d.mwrite m).1)) w') : Calls Tryz.prog 87 #[ptr db, .agg (m.cs a c).toArray] w R := by
  have HR := Lib.hid hR
  clear hR
  have hnode := ho.node
  have hname := ho.name
  have hel := Mf.enc_len ho
  have hto : Ti.ok ⟨109, m.node, m.serial⟩ := ⟨by have := ho.node; simp only; omega, ho.serial⟩
  unfold Dk.mwrite at HR
  obtain ⟨node, serial, floor, time, name⟩ := m
  simp only [Mf.cs] at hp hnode hname HR hto ⊢
  refine C.calls (args := [ptr db, .agg #[.int .i64 node, .int .u64 serial, .slice a floor.length c, .int .u64 time, str name]]) Tryz.func87 rfl rfl rfl ?_
  refine go ?_
  refine E.bx hs ?_
  intro b3 w1 hs
  refine go ?_
  rw [decide_eq_false (show ¬ (64 : Int) ≤ node by omega)]
  refine go ?_
  apply later (α := Unit) (f := fun _ => [(0, ptr db), (3, .pointer (some ⟨b3, 0, none⟩))]) (M := fun _ w => ¬ (name ≠ [] ∧ namedB name = false) ∧ Sat W w g (blk b3 [.int .i64 node, .int .u64 serial, .slice a floor.length c, .int .u64 time, str name] 99 :: disk db d :: H))
  · intro keyW
    cases hn : decide (name = []) with
    | true =>
      have hn := of_decide_eq_true hn
      subst hn
      refine go ?_
      exact C.forget wk_ (keyW () _ ⟨by simp, hs⟩)
    | false =>
      have hn := of_decide_eq_false hn
      refine go ?_
      refine E.callf Tryz.func92 rfl ?_
      refine named_any name hs ?_
      intro w2 hs
      cases hb : namedB name with
      | true =>
        refine go ?_
        exact C.forget wk_ (keyW () _ ⟨(fun h => by rw [hb] at h; exact Bool.noConfusion h.2), hs⟩)
      | false =>
        refine go ?_
        refine A.r1 ?_
        have key := HR.out w2 g (Hl.le_refl _)
        rw [if_pos ⟨hn, hb⟩] at key
        exact key hs.drop
  clear hs
  rintro _ w2 ⟨hok, hs⟩
  rw [if_neg hok] at HR
  clear hok
  have ag1 := ag_man
  refine C.held1 b3 hs ?_
  intro w3 hk hs
  refine goh ?_
  refine EH.one (St.callf Tryz.func155 rfl ?_)
  refine menc_any (m := ⟨node, serial, floor, time, name⟩) ho hp hs ?_
  intro a4 c4 w4 g4 hg4 hs
  refine kept1 hs (fun hk => ?_) hg4
  refine goh ?_
  refine EH.bsl hs ?_
  intro b5 w5 hs
  obtain ⟨g5, hg5, hp5, hs⟩ := hs.swap.publishOwn
  obtain ⟨g6, hg6, hp6, hs⟩ := hs.pubB (n := 1) (s := 1) rfl (by decide)
  have hgg := hg4.trans (hg5.trans hg6)
  refine kept1 hs (fun hk => ?_) hgg
  refine goh ?_
  refine EH.one (St.callf Tryz.func138 rfl ?_)
  refine swap_any (name := manB) (t := ⟨109, node, serial⟩) (ls := [Mf.enc ⟨node, serial, floor, time, name⟩]) hto hs.swap (LB.one (hp5.mono hg6) rfl hp6) (by simp only [sumL, List.map_cons, List.map_nil, List.sum_cons, List.sum_nil]; omega) (by decide) ?_
  intro w7 g7 hg7 hs
  refine kept1 hs (fun hk => ?_) (hgg.trans hg7)
  refine goh ?_
  refine EH.done ?_
  refine go ?_
  refine A.r1 ?_
  exact HR.out w7 g7 (hgg.trans hg7) hs.swap.drop
end Go.Proofs.YtfhmamkafancbaaGreatDoor

/-
  Layer 7 (vector): Read, walked.
-/
namespace Go.Proofs.YtfhmamkafancbaaGreatDoor
open Go.RowKit
set_option linter.unusedVariables false
set_option linter.unusedSimpArgs false
set_option maxHeartbeats 3200000 in
set_option maxRecDepth 100000 in
theorem vread_any {R : Ending → World → Prop} {W w : World} {g : Hl} {H : List HP} {b : Nat} {l : List UInt8} (hs : Sat W w g (tape b l :: H))
    (hOK : ∀ v r a c w', rdVec l = .ok (v, r) → v.length ≤ 64 → (∀ x ∈ v, x ≤ 9223372036854775807) → r.length ≤ l.length → Sat W w' g (own 22 1 (.slice a v.length c) v.length (us v) :: tape b r :: H) → R (.returned (.slice a v.length c)) w')
    (hE : ∀ e w', rdVec l = .error e → e ≠ 0 → Sat W w' g H → R (.panicked (flt e)) w') :
    Calls Tryz.prog 180 #[.pointer (some ⟨b, 0, none⟩)] w R := by
  have HOK := Lib.hid hOK
  have HE := Lib.hid hE
  clear hOK hE
  refine C.calls (args := [.pointer (some ⟨b, 0, none⟩)]) Tryz.func180 rfl rfl rfl ?_
  refine go ?_
  refine E.callf Tryz.func181 rfl ?_
  refine num_any 64 rfl hs ?_ ?_
  rotate_left
  · intro e w1 h1 hne hs
    refine go ?_
    exact HE.out e _ (by simp only [rdVec, h1]) hne hs
  intro k l1 w1 h1 hk64 _ hs
  have hl1 := rdNum_len h1
  have hrv : rdVec l = rdVecA k [] l1 := by simp only [rdVec, h1]
  clear h1
  replace hrv := Lib.hid hrv
  refine gob ?_
  refine C.block ?_
  refine C.lp (fun q : List Nat × List UInt8 × Option Addr × Nat => [(0, .pointer (some ⟨b, 0, none⟩)), (3, .slice q.2.2.1 q.1.length q.2.2.2), (5, .int .u64 k), (6, .int .u64 q.1.length)])
    (fun gk q w => gk = k - q.1.length ∧ q.1.length ≤ k ∧ rdVec l = rdVecA (k - q.1.length) q.1 q.2.1 ∧ (∀ x ∈ q.1, x ≤ 9223372036854775807) ∧ q.2.1.length ≤ l.length ∧ Sat W w g (own 22 1 (.slice q.2.2.1 q.1.length q.2.2.2) q.1.length (us q.1) :: tape b q.2.1 :: H)) k ([], l1, none, 0) ⟨rfl, Nat.zero_le _, hrv.out, (fun x hx => by cases hx), hl1, hs.nilOwn⟩ ?_
  clear hs
  rintro gk ⟨acc, r, a, c⟩ w2 ⟨rfl, hal, hT, hacc, hrl, hs⟩
  simp only at hal hT hacc hrl hs ⊢
  replace hT := Lib.hid hT
  refine go ?_
  refine C.cond_dec (p := (acc.length : Int) < k) rfl (fun h => ?_) (fun h => ?_)
  · have hT2 := hT.out
    rw [show k - acc.length = (k - (acc.length + 1)) + 1 by omega, rdVecA] at hT2
    replace hT2 := Lib.hid hT2
    refine go ?_
    refine E.callf Tryz.func181 rfl ?_
    refine num_any 9223372036854775807 rfl hs.swap ?_ ?_
    rotate_left
    · intro e w3 h3 hne hs
      refine go ?_
      exact HE.out e _ (by have := hT2.out; simp only [h3] at this; exact this) hne hs.drop
    intro v r2 w3 h3 hv1 hv2 hs
    have hr2 := rdNum_len h3
    have hT3 : rdVec l = rdVecA (k - (acc.length + 1)) (acc ++ [v]) r2 := by have := hT2.out; simp only [h3] at this; exact this
    clear h3
    replace hT3 := Lib.hid hT3
    refine go ?_
    refine E.bsl hs ?_
    intro b5 w5 hs
    refine E.app el_vec hs.pull2 (hs.rowOf (size := 1) 1 rfl (by decide)) ?_
    intro a6 c6 w6 _ _ hs
    refine go ?_
    refine A.rd (k - (acc.length + 1)) (acc ++ [v], r2, a6, c6) ⟨by simp only [List.length_append, List.length_singleton], by simp only [List.length_append, List.length_singleton]; omega, by simpa using hT3.out, ?_, by simp only; omega, ?_⟩ (hw := ?_)
    · intro x hx
      rcases List.mem_append.1 hx with hx | hx
      · exact hacc x hx
      · rw [List.mem_singleton.1 hx]; exact hv1
    · simp only [List.length_append, List.length_singleton]
      have := hs.swap.drop
      simpa [us] using this
    · simp only [List.length_append, List.length_singleton]
      exact wk_
  · obtain rfl : acc.length = k := by omega
    have hT2 := hT.out
    rw [Nat.sub_self, rdVecA] at hT2
    replace hT2 := Lib.hid hT2
    refine go ?_
    refine A.r1 ?_
    exact HOK.out acc r a c w2 hT2.out (by omega) hacc hrl hs
end Go.Proofs.YtfhmamkafancbaaGreatDoor

/-
  A piece of code that ends normally, whatever the function's own end asks (drawn regions beside deferred calls).
-/
namespace Go.Proofs.YtfhmamkafancbaaGreatDoor
open Go.RowKit
variable {P : Program} {n : Fm} {ρ : List (Nat × Value)} {w : World} {Q : Exit → Act → World → Prop} {c d : Code}
def NoExit : Exit → Act → World → Prop := fun _ _ _ => False
theorem C.cutN {α : Type} (f : α → List (Nat × Value)) (M : α → World → Prop) (h : C P n c ρ w (Exit.then (Cut n f M) NoExit)) (h2 : ∀ x w, M x w → A n .normal (f x) w Q) : C P n c ρ w Q := C.mk fun a ha => by
  refine wp_mono (h.use ha) ?_
  rintro e a' w' hq
  cases e with
  | normal =>
    obtain ⟨x, hk, hM⟩ := hq
    exact (h2 x w' hM).use hk
  | _ => exact hq.elim
end Go.Proofs.YtfhmamkafancbaaGreatDoor

/-
  Layer 10 (manifest): Decode, walked.
-/
namespace Go.Proofs.YtfhmamkafancbaaGreatDoor
open Go.RowKit
set_option linter.unusedVariables false
set_option linter.unusedSimpArgs false
def noM : Value := .agg #[.int .i64 0, .int .u64 0, .slice none 0 0, .int .u64 0, .string ⟨#[]⟩]
set_option maxHeartbeats 6400000 in
set_option maxRecDepth 100000 in
theorem mdecode_any {R : Ending → World → Prop} {W w : World} {g : Hl} {H : List HP} {a : Option Addr} {n c : Nat} {l : List UInt8} (hs : Sat W w g H) (hp : Pr 1 g (.slice a n c) n (bs l)) (hl : l.length = n) (hn : n ≤ 100000000)
    (hOK : ∀ (m : Mf) a c w' g', Hl.le g g' → decM l = .ok m → m.ok → Pr 1 g' (.slice a m.floor.length c) m.floor.length (us m.floor) → Sat W w' g' H → R (.returned (.tuple #[.agg (m.cs a c).toArray, .int .i64 0])) w')
    (hE : ∀ e w' g', Hl.le g g' → decM l = .error e → e ≠ 0 → Sat W w' g' H → R (.returned (.tuple #[noM, .int .i64 e])) w') :
    Calls Tryz.prog 154 #[.slice a n c] w R := by
  have HOK := Lib.hid hOK
  have HE := Lib.hid hE
  clear hOK hE
  have ag1 := ag_man
  refine C.callsD (args := [.slice a n c]) Tryz.func154 rfl rfl rfl ?_
  refine go ?_
  refine E.al hs ?_
  intro b1 w1 hs
  refine go ?_
  refine E.al hs ?_
  intro b2 w2 hs
  refine go ?_
  refine E.callf Tryz.func179 rfl ?_
  refine newTape_any hl hs hp ?_
  intro b3 w3 hs
  refine go ?_
  refine E.callf Tryz.func181 rfl ?_
  refine num_any 63 rfl hs ?_ ?_
  rotate_left
  · intro e w4 h1 hne hs
    refine go ?_
    refine L.callf Tryz.func178 (caught_fault hs up_ ?_)
    intro w5 hs
    refine L.c2 rfl rfl rfl (run_lda hs ag_man) (run_ld hs) ?_
    exact HE.out e _ g (Hl.le_refl _) (by simp only [decM, h1]) hne hs.drop.drop
  intro nd l1 w4 h1 hnd _ hs
  have q1 := rdNum_len h1
  refine go ?_
  refine E.callf Tryz.func181 rfl ?_
  refine num_any 9223372036854775807 rfl hs ?_ ?_
  rotate_left
  · intro e w5 h2 hne hs
    refine go ?_
    refine L.callf Tryz.func178 (caught_fault hs up_ ?_)
    intro w6 hs
    refine L.c2 rfl rfl rfl (run_lda hs ag_man) (run_ld hs) ?_
    exact HE.out e _ g (Hl.le_refl _) (by simp only [decM, h1, h2]) hne hs.drop.drop
  intro sr l2 w5 h2 _ hsr hs
  have q2 := rdNum_len h2
  refine go ?_
  refine E.callf Tryz.func180 rfl ?_
  refine vread_any hs ?_ ?_
  rotate_left
  · intro e w6 h3 hne hs
    refine go ?_
    refine L.callf Tryz.func178 (caught_fault hs up_ ?_)
    intro w7 hs
    refine L.c2 rfl rfl rfl (run_lda hs ag_man) (run_ld hs) ?_
    exact HE.out e _ g (Hl.le_refl _) (by simp only [decM, h1, h2, h3]) hne hs.drop.drop
  intro v l3 a6 c6 w6 h3 hvl hvb hl3 hs
  obtain ⟨g6, hg6, hp6, hs⟩ := hs.publishOwn
  refine go ?_
  refine E.callf Tryz.func181 rfl ?_
  refine num_any 9223372036854775807 rfl hs ?_ ?_
  rotate_left
  · intro e w7 h4 hne hs
    refine go ?_
    refine L.callf Tryz.func178 (caught_fault hs up_ ?_)
    intro w8 hs
    refine L.c2 rfl rfl rfl (run_lda hs ag_man) (run_ld hs) ?_
    exact HE.out e _ g6 hg6 (by simp only [decM, h1, h2, h3, h4]) hne hs.drop.drop
  intro tm l4 w7 h4 _ htm hs
  have q4 := rdNum_len h4
  refine go ?_
  refine E.callf Tryz.func184 rfl ?_
  refine text_any 48 rfl (by decide) (by omega) hs ?_ ?_
  rotate_left
  · intro e w8 h5 hne hs
    refine go ?_
    refine L.callf Tryz.func178 (caught_fault hs up_ ?_)
    intro w9 hs
    refine L.c2 rfl rfl rfl (run_lda hs ag_man) (run_ld hs) ?_
    exact HE.out e _ g6 hg6 (by simp only [decM, h1, h2, h3, h4, h5]) hne hs.drop.drop
  intro nm l5 a8 c8 w8 g8 hg8 h5 hnl hp8 hs
  refine go ?_
  refine E.strc (hp8.row hs) Tryz.underlying23 Tryz.underlying5 Tryz.underlying9 ?_
  refine go ?_
  refine E.al hs ?_
  intro b9 w9 hs
  refine E.sto (vs := [.int .i64 nd, .int .u64 sr, .slice a6 v.length c6, .int .u64 tm, str nm]) (ys := [.int .i64 nd, .int .u64 sr, .slice a6 v.length c6, .int .u64 tm, str nm]) hs ?_ (hv := rfl) (hsp := rfl)
  intro w10 hs
  refine go ?_
  refine E.callf Tryz.func187 rfl ?_
  refine done_any hs.swap ?_ ?_
  rotate_left
  · intro hne
    refine go ?_
    refine L.callf Tryz.func178 (caught_fault hs up_ ?_)
    intro w11 hs
    refine L.c2 rfl rfl rfl (run_lda hs ag_man) (run_ld hs) ?_
    exact HE.out 4 _ g8 (hg6.trans hg8) (by simp only [decM, h1, h2, h3, h4, h5, if_pos hne]) (by decide) hs.drop.drop.drop.drop
  intro he
  have hdec : decM l = if (vtrim v).length ≠ v.length ∨ (nm ≠ [] ∧ namedB nm = false) then .error 4 else .ok ⟨nd, sr, v, tm, nm⟩ := by
    simp only [decM, h1, h2, h3, h4, h5]
    rw [if_neg (fun h => h he)]
  clear h1 h2 h3 h4 h5 he
  replace hdec := Lib.hid hdec
  refine go ?_
  refine C.cutN (fun t : Bool × Hl => [(2, .pointer (some ⟨b1, 0, none⟩)), (3, .pointer (some ⟨b2, 0, none⟩)), (5, .pointer (some ⟨b9, 0, none⟩)), (41, .bool t.1)]) (fun t w => Hl.le g8 t.2 ∧ (t.1 = true ↔ (vtrim v).length ≠ v.length ∨ (nm ≠ [] ∧ namedB nm = false)) ∧ Sat W w t.2 (blk b9 [.int .i64 nd, .int .u64 sr, .slice a6 v.length c6, .int .u64 tm, str nm] 99 :: blk b2 [.int .i64 0] 32 :: blk b1 [.int .i64 0, .int .u64 0, .slice none 0 0, .int .u64 0, .string ⟨#[]⟩] 99 :: H)) ?_ ?_
  · refine C.held1 b9 hs.swap.drop ?_
    intro w12 hk hs
    refine goh ?_
    refine EH.one (St.callf Tryz.func60 rfl ?_)
    refine vtrim_any hs (hp6.mono hg8) rfl (by omega) ?_
    intro a13 c13 w13 g13 hg13 hp13 hs
    refine kept1 hs (fun hk => ?_) hg13
    have htl := vtrim_len v
    generalize hvt : (vtrim v).length = vt at hp13 htl
    replace hvt := Lib.hid hvt
    refine goh ?_
    cases hA : decide ((vt : Int) = v.length) with
    | false =>
      have hA := of_decide_eq_false hA
      refine goh ?_
      refine EH.done ?_
      exact A.mt (true, g13) ⟨hg13, ⟨fun _ => .inl (by omega), fun _ => rfl⟩, hs⟩
    | true =>
      have hA := of_decide_eq_true hA
      replace hA := Lib.hid hA
      refine goh ?_
      cases hB : decide (nm = []) with
      | true =>
        have hB := of_decide_eq_true hB
        replace hB := Lib.hid hB
        refine goh ?_
        refine EH.done ?_
        refine A.mt (false, g13) ⟨hg13, ?_, hs⟩
        refine ⟨fun h => Bool.noConfusion h, fun h => ?_⟩
        rcases h with h | h
        · exact absurd (by have := hA.out; omega) h
        · exact absurd hB.out h.1
      | false =>
        have hB := of_decide_eq_false hB
        refine goh ?_
        refine EH.one (St.guard rfl rfl (St.callf Tryz.func92 rfl ?_))
        refine named_any nm hs ?_
        intro w14 hs
        refine kept1 hs (fun hk => ?_) hg13
        cases hC : namedB nm with
        | true =>
          refine goh ?_
          refine EH.done ?_
          refine A.mt (false, g13) ⟨hg13, ?_, hs⟩
          refine ⟨fun h => Bool.noConfusion h, fun h => ?_⟩
          rcases h with h | h
          · exact absurd (by have := hA.out; omega) h
          · exact Bool.noConfusion h.2
        | false =>
          refine goh ?_
          refine EH.done ?_
          exact A.mt (true, g13) ⟨hg13, ⟨fun _ => .inr ⟨hB, rfl⟩, fun _ => rfl⟩, hs⟩
  clear hs
  rintro ⟨t, g14⟩ w14 ⟨hg14, ht, hs⟩
  simp only at hg14 ht hs ⊢
  cases t with
  | true =>
    have hd := hdec.out
    rw [if_pos (ht.1 rfl)] at hd
    refine go ?_
    refine E.sto (vs := [.int .i64 0, .int .u64 0, .slice none 0 0, .int .u64 0, .string ⟨#[]⟩]) (ys := [.int .i64 0, .int .u64 0, .slice none 0 0, .int .u64 0, .string ⟨#[]⟩]) hs ?_ (hv := rfl) (hsp := rfl)
    intro w15 hs
    refine go ?_
    refine E.sto hs ?_
    intro w16 hs
    refine go ?_
    refine L.callf Tryz.func178 (caught_none ?_)
    refine L.c2 rfl rfl rfl (run_lda hs ag_man) (run_ld hs) ?_
    exact HE.out 4 _ g14 (hg6.trans (hg8.trans hg14)) hd (by decide) hs.drop.drop.drop
  | false =>
    have hd := hdec.out
    rw [if_neg (fun h => by have := ht.2 h; cases this)] at hd
    refine go ?_
    refine E.sto (vs := [.int .i64 nd, .int .u64 sr, .slice a6 v.length c6, .int .u64 tm, str nm]) (ys := [.int .i64 nd, .int .u64 sr, .slice a6 v.length c6, .int .u64 tm, str nm]) hs ?_ (hv := rfl) (hsp := rfl)
    intro w15 hs
    refine go ?_
    refine E.sto hs ?_
    intro w16 hs
    refine go ?_
    refine L.callf Tryz.func178 (caught_none ?_)
    refine L.c2 rfl rfl rfl (run_lda hs ag_man) (run_ld hs) ?_
    exact HOK.out ⟨nd, sr, v, tm, nm⟩ a6 c6 _ g14 (hg6.trans (hg8.trans hg14)) hd ⟨by simp only; omega, hsr, hvl, fun x hx => by have := hvb x hx; omega, htm, by simp only; omega⟩ ((hp6.mono hg8).mono hg14) hs.drop.drop.drop
end Go.Proofs.YtfhmamkafancbaaGreatDoor

/-
  Layer 10 (manifest): Read, walked.
-/
namespace Go.Proofs.YtfhmamkafancbaaGreatDoor
open Go.RowKit
set_option linter.unusedVariables false
set_option linter.unusedSimpArgs false
set_option maxHeartbeats 6400000 in
set_option maxRecDepth 100000 in
theorem mread_any {R : Ending → World → Prop} {W w : World} {g : Hl} {H : List HP} {db : Nat} {d : Dk} (hs : Sat W w g (disk db d :: H))
    (hOK : ∀ (m : Mf) a c w' g', Hl.le g g' → d.mread = .ok m → m.ok → Pr 1 g' (.slice a m.floor.length c) m.floor.length (us m.floor) → Sat W w' g' (disk db d :: H) → R (.returned (.tuple #[.agg (m.cs a c).toArray, .int .i64 0])) w')
    (hE : ∀ e w' g', Hl.le g g' → d.mread = .error e → e ≠ 0 → Sat W w' g' (disk db d :: H) → R (.returned (.tuple #[noM, .int .i64 e])) w') :
    Calls Tryz.prog 86 #[ptr db] w R := by
  have HOK := Lib.hid hOK
  have HE := Lib.hid hE
  clear hOK hE
  have ag1 := ag_man
  have ag2 := ag_sheet
  refine C.calls (args := [ptr db]) Tryz.func86 rfl rfl rfl ?_
  refine go ?_
  refine E.al hs ?_
  intro b2 w2 hs
  refine go ?_
  refine E.callf Tryz.func153 rfl ?_
  refine sread_any (name := manB) hs.swap ?_ ?_
  rotate_left
  · intro e w3 g3 h1 hne hg3 hs
    have hm : d.mread = .error (if e = 2 ∨ e = 7 then e else 4) := by simp only [Dk.mread, h1]
    clear h1
    replace hm := Lib.hid hm
    simp only [noSh]
    refine go ?_
    refine E.al hs ?_
    intro b4 w4 hs
    refine E.sto (vs := [.int .u8 0, .int .u64 0, .int .u64 0, .slice none 0 0, .int .i64 0, .int .i64 0]) (ys := [.int .u8 0, .int .u64 0, .int .u64 0, .slice none 0 0, .int .i64 0, .int .i64 0]) hs ?_ (hv := rfl) (hsp := rfl)
    intro w5 hs
    refine go ?_
    by_cases hc : e = 2 ∨ e = 7
    · have hm2 := hm.out
      rw [if_pos hc] at hm2
      replace hm2 := Lib.hid hm2
      clear hm hne
      rcases hc with rfl | rfl
      · refine go ?_
        refine E.sto (vs := [.int .i64 0, .int .u64 0, .slice none 0 0, .int .u64 0, .string ⟨#[]⟩]) (ys := [.int .i64 0, .int .u64 0, .slice none 0 0, .int .u64 0, .string ⟨#[]⟩]) hs ?_ (hv := rfl) (hsp := rfl)
        intro w6 hs
        refine go ?_
        refine A.c1t1 rfl rfl rfl (run_lda hs.pull2 ag_man) ?_
        exact HE.out 2 _ g3 hg3 hm2.out (by decide) hs.drop.swap.drop
      · refine go ?_
        refine E.sto (vs := [.int .i64 0, .int .u64 0, .slice none 0 0, .int .u64 0, .string ⟨#[]⟩]) (ys := [.int .i64 0, .int .u64 0, .slice none 0 0, .int .u64 0, .string ⟨#[]⟩]) hs ?_ (hv := rfl) (hsp := rfl)
        intro w6 hs
        refine go ?_
        refine A.c1t1 rfl rfl rfl (run_lda hs.pull2 ag_man) ?_
        exact HE.out 7 _ g3 hg3 hm2.out (by decide) hs.drop.swap.drop
    · have hm2 := hm.out
      rw [if_neg hc] at hm2
      replace hm2 := Lib.hid hm2
      have d1 : decide (e = 2) = false := decide_eq_false fun h => hc (.inl h)
      have d2 : decide (e = 7) = false := decide_eq_false fun h => hc (.inr h)
      have d3 : (!decide (e = 0)) = true := by simp [hne]
      clear hm hne hc
      replace d2 := Lib.hid d2
      replace d3 := Lib.hid d3
      rw [d1]
      clear d1
      refine go ?_
      rw [d2.out]
      refine go ?_
      rw [d3.out]
      refine go ?_
      refine E.sto (vs := [.int .i64 0, .int .u64 0, .slice none 0 0, .int .u64 0, .string ⟨#[]⟩]) (ys := [.int .i64 0, .int .u64 0, .slice none 0 0, .int .u64 0, .string ⟨#[]⟩]) hs ?_ (hv := rfl) (hsp := rfl)
      intro w6 hs
      refine go ?_
      refine A.c1t1 rfl rfl rfl (run_lda hs.pull2 ag_man) ?_
      exact HE.out 4 _ g3 hg3 hm2.out (by decide) hs.drop.swap.drop
  intro s a3 c3 w3 g3 h1 htok hse hgood hg3 hlb hs
  have hle := hlb.len
  have hle2 := hlb.le
  have hfew : ∀ p ∈ s.l, p.length ≤ 2097152 := by
    have h2 := h1
    unfold Dk.sheet at h2
    split at h2
    · cases h2
    · exact (scanB_few h2).1
  have hk8 : s.t.kind.toNat < 256 := s.t.kind.toNat_lt
  have hm : d.mread = match s.l with
    | [p] => if s.e ≠ 0 ∨ s.t.kind ≠ 109 then .error 4 else match decM p with
      | .error _ => .error 4
      | .ok m => if m.node = s.t.a ∧ m.serial = s.t.b then .ok m else .error 4
    | _ => .error 4 := by simp only [Dk.mread, h1]; rfl
  clear h1
  replace hm := Lib.hid hm
  refine go ?_
  refine E.al hs ?_
  intro b4 w4 hs
  refine E.sto (vs := s.cs a3 c3) (ys := s.cs a3 c3) hs ?_ (hv := rfl) (hsp := rfl)
  intro w5 hs
  simp only [Sh.cs] at hs
  apply laterE (α := Unit) (f := fun _ => [(2, .pointer (some ⟨b2, 0, none⟩)), (41, .agg #[.int .i64 0, .int .u64 0, .slice none 0 0, .int .u64 0, .string ⟨#[]⟩])]) (M := fun _ w => d.mread = .error 4 ∧ Sat W w g3 (blk b2 [.int .i64 0, .int .u64 0, .slice none 0 0, .int .u64 0, .string ⟨#[]⟩] 99 :: disk db d :: H))
  · intro keyE
    refine go ?_
    by_cases he0 : s.e = 0
    rotate_left
    · have hd : (!decide (s.e = 0)) = true := by simp [he0]
      rw [hd]
      refine go ?_
      refine E.forget wk_ (keyE () _ ⟨?_, hs.drop.swap⟩)
      rw [hm.out]
      split
      · rw [if_pos (.inl he0)]
      · rfl
    have hd : (!decide (s.e = 0)) = false := by simp [he0]
    rw [hd]
    clear hd
    replace he0 := Lib.hid he0
    refine go ?_
    by_cases hkd : s.t.kind = 109
    rotate_left
    · have hd : decide ((s.t.kind.toNat : Int) = 109) = false := by
        refine decide_eq_false fun h => hkd ?_
        refine UInt8.toNat_inj.1 ?_
        have : s.t.kind.toNat = 109 := by omega
        rw [this]; rfl
      rw [hd]
      clear hd
      refine go ?_
      refine E.forget wk_ (keyE () _ ⟨?_, hs.drop.swap⟩)
      rw [hm.out]
      split
      · rw [if_pos (.inr hkd)]
      · rfl
    have hd : decide ((s.t.kind.toNat : Int) = 109) = true := by rw [hkd]; rfl
    rw [hd]
    clear hd
    replace hkd := Lib.hid hkd
    refine go ?_
    by_cases hl1 : s.l.length = 1
    rotate_left
    · have hd : decide ((s.l.length : Int) = 1) = false := decide_eq_false (by omega)
      rw [hd]
      clear hd
      refine go ?_
      refine E.forget wk_ (keyE () _ ⟨?_, hs.drop.swap⟩)
      rw [hm.out]
      split
      · rename_i p hp
        rw [hp] at hl1
        exact absurd rfl hl1
      · rfl
    have hd : decide ((s.l.length : Int) = 1) = true := decide_eq_true (by omega)
    rw [hd]
    clear hd
    obtain ⟨p, hp⟩ := List.length_eq_one_iff.1 hl1
    have hm2 : d.mread = match decM p with
        | .error _ => .error 4
        | .ok m => if m.node = s.t.a ∧ m.serial = s.t.b then .ok m else .error 4 := by
      rw [hm.out, hp]
      simp only
      rw [if_neg]
      rintro (h | h)
      · exact h he0.out
      · exact h hkd.out
    clear hm
    replace hm2 := Lib.hid hm2
    obtain ⟨xs, hpr, a7, c7, hx, hpx⟩ := hlb.get (i := 0) (by omega)
    simp only [hp, List.getElem_cons_zero] at hx hpx
    rw [hl1] at hpr
    have hpl : p.length ≤ 2097152 := hfew p (by rw [hp]; simp)
    clear hfew hle
    generalize hsl : s.l.length = k at hs hpr hl1 hle2
    subst hl1
    clear hsl hp
    refine go ?_
    refine E.ix el_row hs hpr 0 hx ?_
    intro b8 o8 hc8
    refine go ?_
    refine E.callf Tryz.func154 rfl ?_
    refine mdecode_any hs hpx rfl (by omega) ?_ ?_
    rotate_left
    · intro e w6 g6 hg6 h6 hne hs
      have hm3 : d.mread = .error 4 := by rw [hm2.out, h6]
      clear hm2 h6
      replace hm3 := Lib.hid hm3
      have d3 : (!decide (e = 0)) = true := by simp [hne]
      replace d3 := Lib.hid d3
      clear hne
      simp only [noM]
      refine go ?_
      refine E.al hs ?_
      intro b9 w9 hs
      refine E.sto (vs := [.int .i64 0, .int .u64 0, .slice none 0 0, .int .u64 0, .string ⟨#[]⟩]) (ys := [.int .i64 0, .int .u64 0, .slice none 0 0, .int .u64 0, .string ⟨#[]⟩]) hs ?_ (hv := rfl) (hsp := rfl)
      intro w10 hs
      refine go ?_
      rw [d3.out]
      refine go ?_
      refine E.sto (vs := [.int .i64 0, .int .u64 0, .slice none 0 0, .int .u64 0, .string ⟨#[]⟩]) (ys := [.int .i64 0, .int .u64 0, .slice none 0 0, .int .u64 0, .string ⟨#[]⟩]) hs ?_ (hv := rfl) (hsp := rfl)
      intro w11 hs
      refine go ?_
      refine A.c1t1 rfl rfl rfl (run_lda hs.pull3 ag_man) ?_
      exact HE.out 4 _ g6 (hg3.trans hg6) hm3.out (by decide) hs.drop.drop.swap.drop
    intro m a9 c9 w9 g9 hg9 h9 hmo hp9 hs
    have hm3 : d.mread = if m.node = s.t.a ∧ m.serial = s.t.b then .ok m else .error 4 := by rw [hm2.out, h9]
    clear hm2 h9
    replace hm3 := Lib.hid hm3
    have hnode := hmo.node
    have hser := hmo.serial
    have hta := htok.1
    have htb := htok.2
    refine go ?_
    refine E.al hs ?_
    intro b10 w10 hs
    refine E.sto (vs := m.cs a9 c9) (ys := m.cs a9 c9) hs ?_ (hv := rfl) (hsp := rfl)
    intro w11 hs
    simp only [Mf.cs] at hs
    refine go ?_
    by_cases hA : m.node = s.t.a
    rotate_left
    · have hm4 := hm3.out
      rw [if_neg (fun h => hA h.1)] at hm4
      replace hm4 := Lib.hid hm4
      have hd : decide ((m.node : Int) = s.t.a) = false := decide_eq_false (by omega)
      rw [hd]
      clear hd hA hm3
      refine go ?_
      refine E.sto (vs := [.int .i64 0, .int .u64 0, .slice none 0 0, .int .u64 0, .string ⟨#[]⟩]) (ys := [.int .i64 0, .int .u64 0, .slice none 0 0, .int .u64 0, .string ⟨#[]⟩]) hs ?_ (hv := rfl) (hsp := rfl)
      intro w12 hs
      refine go ?_
      refine A.c1t1 rfl rfl rfl (run_lda hs.pull3 ag_man) ?_
      exact HE.out 4 _ g9 (hg3.trans hg9) hm4.out (by decide) hs.drop.drop.swap.drop
    have hd : decide ((m.node : Int) = s.t.a) = true := decide_eq_true (by omega)
    rw [hd]
    clear hd
    replace hA := Lib.hid hA
    refine go ?_
    by_cases hB : m.serial = s.t.b
    rotate_left
    · have hm4 := hm3.out
      rw [if_neg (fun h => hB h.2)] at hm4
      replace hm4 := Lib.hid hm4
      have hd : decide ((m.serial : Int) = s.t.b) = false := decide_eq_false (by omega)
      rw [hd]
      clear hd hB hm3
      refine go ?_
      refine E.sto (vs := [.int .i64 0, .int .u64 0, .slice none 0 0, .int .u64 0, .string ⟨#[]⟩]) (ys := [.int .i64 0, .int .u64 0, .slice none 0 0, .int .u64 0, .string ⟨#[]⟩]) hs ?_ (hv := rfl) (hsp := rfl)
      intro w12 hs
      refine go ?_
      refine A.c1t1 rfl rfl rfl (run_lda hs.pull3 ag_man) ?_
      exact HE.out 4 _ g9 (hg3.trans hg9) hm4.out (by decide) hs.drop.drop.swap.drop
    have hd : decide ((m.serial : Int) = s.t.b) = true := decide_eq_true (by omega)
    rw [hd]
    clear hd
    have hm4 := hm3.out
    rw [if_pos ⟨hA.out, hB⟩] at hm4
    replace hm4 := Lib.hid hm4
    clear hB hm3
    refine go ?_
    refine E.sto (vs := m.cs a9 c9) (ys := m.cs a9 c9) hs ?_ (hv := rfl) (hsp := rfl)
    intro w12 hs
    refine go ?_
    refine A.c1t1 rfl rfl rfl (run_lda hs.pull3 ag_man) ?_
    exact HOK.out m a9 c9 _ g9 (hg3.trans hg9) hm4.out hmo hp9 hs.drop.drop.swap.drop
  · clear hs
    rintro _ w6 ⟨h4, hs⟩
    refine E.sto (vs := [.int .i64 0, .int .u64 0, .slice none 0 0, .int .u64 0, .string ⟨#[]⟩]) (ys := [.int .i64 0, .int .u64 0, .slice none 0 0, .int .u64 0, .string ⟨#[]⟩]) hs ?_ (hv := rfl) (hsp := rfl)
    intro w7 hs
    refine go ?_
    refine A.c1t1 rfl rfl rfl (run_lda hs ag_man) ?_
    exact HE.out 4 _ g3 hg3 h4 (by decide) hs.drop
end Go.Proofs.YtfhmamkafancbaaGreatDoor

/-
  Layer 14 (store): Open, of a disk whose manifest names no fold.
-/
namespace Go.Proofs.YtfhmamkafancbaaGreatDoor
open Go.RowKit
set_option linter.unusedVariables false
set_option linter.unusedSimpArgs false
theorem notes_keep : ∀ (l : List Ev) (s : So), (s.notes l).base = s.base ∧ (s.notes l).fs = s.fs
  | [], s => ⟨rfl, rfl⟩
  | e :: r, s => by
    have h := notes_keep r (s.note e)
    obtain ⟨h1, h2, h3, h4, h5⟩ := s.note_m e
    have e1 : s.notes (e :: r) = (s.note e).notes r := rfl
    rw [e1, h.1, h.2, h2, h3]
    exact ⟨rfl, rfl⟩
/-- What the manifest is, and the disk behind it. -/
def OpenM (d : Dk) (node : Nat) (m : Mf) (d1 : Dk) : Prop := (d.mread = .error 2 ∧ m = ⟨node, 1, [], 0, []⟩ ∧ d.mwrite ⟨node, 1, [], 0, []⟩ = (0, d1)) ∨ (d.mread = .ok m ∧ d1 = d)
set_option maxHeartbeats 6400000 in
set_option maxRecDepth 100000 in
theorem sopen_none {R : Ending → World → Prop} {W w : World} {g : Hl} {H : List HP} {db node : Nat} {nodes sz : Int} {m : Mf} {d d1 d2 : Dk} {segs : Nat → List Sp} {dn : Nat → Dk} (hg : Gl g) (hnode : node < 64) (hno : -9223372036854775808 ≤ nodes ∧ nodes ≤ 9223372036854775807) (hsz : -9223372036854775808 ≤ sz ∧ sz ≤ 9223372036854775807)
    (hM : OpenM d node m d1) (hmn : m.node = node) (hmf : m.name = []) (hnm : ∀ p ∈ d1.fs, p.1.length ≤ 1000000) (hfl : d1.fs.length ≤ 1000000000) (hsw : d1.sweep [] = (0, d2)) (hL : LoadH m d2 segs dn) (hs : Sat W w g (disk db d :: H))
    (hR : ∀ sb (fs : List Fe) w' g', Hl.le g g' → (∀ k (h : k < fs.length), Opened sz m segs k fs[k]) → Sat W w' g' (store sb db ((So.mk sz m (foNew (min (max nodes 0) 64).toNat) fs (clkP m segs 64) (foNew (min (max nodes 0) 64).toNat).mem (foNew (min (max nodes 0) 64).toNat).ret).notes (fs.flatMap Fe.all)) :: disk db (dn 64) :: H) → R (.returned (.tuple #[ptr sb, .int .i64 0])) w') :
    Calls Tryz.prog 37 #[ptr db, .int .i64 node, .int .i64 nodes, .int .i64 sz] w R := by
  have HR := Lib.hid hR
  clear hR
  have ag1 := ag_man
  refine C.calls (args := [ptr db, .int .i64 node, .int .i64 nodes, .int .i64 sz]) Tryz.func37 rfl rfl rfl ?_
  refine go ?_
  rw [decide_eq_false (show ¬ (64 : Int) ≤ node by omega)]
  refine go ?_
  apply later (α := Nat × Option Addr × Nat × Hl) (f := fun q => [(0, ptr db), (1, .int .i64 node), (2, .int .i64 nodes), (3, .int .i64 sz), (10, .pointer (some ⟨q.1, 0, none⟩))]) (M := fun q w => Hl.le g q.2.2.2 ∧ m.ok ∧ Pr 1 q.2.2.2 (.slice q.2.1 m.floor.length q.2.2.1) m.floor.length (us m.floor) ∧ Sat W w q.2.2.2 (blk q.1 (m.cs q.2.1 q.2.2.1) 99 :: disk db d1 :: H))
  · intro keyM
    refine E.callf Tryz.func86 rfl ?_
    refine mread_any hs ?_ ?_
    · intro m' a3 c3 w3 g3 hg3 hrd hmo hp3 hs
      rcases hM with ⟨h, _, _⟩ | ⟨h, rfl⟩
      · rw [h] at hrd; cases hrd
      rw [h] at hrd
      simp only [Except.ok.injEq] at hrd
      subst hrd
      replace h := Lib.hid h
      refine go ?_
      refine E.al hs ?_
      intro b10 w10 hs
      refine E.sto (vs := m.cs a3 c3) (ys := m.cs a3 c3) hs ?_ (hv := rfl) (hsp := rfl)
      intro w11 hs
      refine go ?_
      exact C.forget wk_ (keyM (b10, a3, c3, g3) _ ⟨hg3, hmo, hp3, hs⟩)
    · intro e w3 g3 hg3 hrd hne hs
      rcases hM with ⟨h, hm1, hwr⟩ | ⟨h, rfl⟩
      rotate_left
      · rw [h] at hrd; cases hrd
      rw [h] at hrd
      simp only [Except.error.injEq] at hrd
      subst hrd
      clear hne
      replace h := Lib.hid h
      replace hm1 := Lib.hid hm1
      simp only [noM]
      refine go ?_
      refine E.al hs ?_
      intro b10 w10 hs
      refine E.sto (vs := [.int .i64 0, .int .u64 0, .slice none 0 0, .int .u64 0, .string ⟨#[]⟩]) (ys := [.int .i64 0, .int .u64 0, .slice none 0 0, .int .u64 0, .string ⟨#[]⟩]) hs ?_ (hv := rfl) (hsp := rfl)
      intro w11 hs
      refine go ?_
      refine E.sto (vs := [.int .i64 node, .int .u64 1, .slice none 0 0, .int .u64 0, .string ⟨#[]⟩]) (ys := [.int .i64 node, .int .u64 1, .slice none 0 0, .int .u64 0, .string ⟨#[]⟩]) hs ?_ (hv := rfl) (hsp := rfl)
      intro w12 hs
      refine go ?_
      have hmo : (⟨node, 1, [], 0, []⟩ : Mf).ok := ⟨hnode, by simp, by simp, by simp, by simp, by simp⟩
      refine E.callf Tryz.func87 rfl ?_
      refine mwrite_any (m := ⟨node, 1, [], 0, []⟩) (a := none) (c := 0) hmo Pr.nil hs.swap ?_
      intro w13 g13 hg13 hs
      rw [hwr] at hs ⊢
      simp only at hs ⊢
      refine go ?_
      refine C.forget wk_ (keyM (b10, none, 0, g13) _ ⟨hg3.trans hg13, ?_⟩)
      have hm2 := hm1.out
      subst hm2
      exact ⟨hmo, Pr.nil, hs.swap⟩
  clear hs
  rintro ⟨b10, a, c, g3⟩ w3 ⟨hg3, hmo, hp, hs⟩
  clear hM
  simp only at hg3 hmo hp hs ⊢
  generalize hK : (min (max nodes 0) 64).toNat = K at HR
  have hK64 : K ≤ 64 := by omega
  refine C.held1 b10 hs ?_
  intro w4 hk hs
  refine goh ?_
  refine EH.one (St.callf Tryz.func88 rfl ?_)
  refine foldNew_any (n := nodes) hno hs ?_
  intro fb w5 hs
  rw [hK] at hs
  refine kept1 hs (fun hk => ?_) (Hl.le_refl _)
  refine EH.tp 5 hk ?_ (v := .agg (newC db sz m a c fb).toArray) (hy := Pf.pv (Pv.build rfl (run_store_new db sz m a c fb)))
  refine EH.bx hs (xs := newC db sz m a c fb) ?_ (hx := rfl)
  intro sb w6 hs
  rw [newC_eq db sz m a c fb (foNew K).mem (foNew K).ret] at hs
  refine kept1 hs (fun hk => ?_) (Hl.le_refl _)
  refine goh ?_
  refine EH.done ?_
  refine go ?_
  rw [show decide ((m.node : Int) = (node : Int)) = true from decide_eq_true (by omega)]
  refine go ?_
  rw [show decide (m.name = []) = true from decide_eq_true hmf]
  refine go ?_
  refine E.callf Tryz.func90 rfl ?_
  refine sweep_raw (d := d1) hnm hfl (hs.perm (H' := blk sb (stC db sz m a c fb (fvP []) 0 (half 0 (foNew K).mem) (half 0 (foNew K).ret)) 103 :: disk db d1 :: fold fb (foNew K) :: blk b10 (m.cs a c) 99 :: H) (.cons _ (by
    refine List.Perm.trans (List.Perm.cons _ (List.Perm.swap _ _ _)) ?_
    exact List.Perm.swap _ _ _))) ?_
  intro w7 g7 hg7 hs
  rw [hmf, hsw] at hs
  rw [hmf, hsw]
  simp only at hs ⊢
  refine go ?_
  refine E.callf Tryz.func91 rfl ?_
  refine load_any (base := foNew K) (hg.mono (hg3.trans hg7)) hL hmo (foNew_ok hK64).mem (foNew_ok hK64).ret hsz (hp.mono hg7) hs.pull2.swap ?_
  intro i fs w8 g8 hg8 hbb hio hop hs
  refine go ?_
  refine A.r2 ?_
  refine HR.out sb fs w8 g8 (hg3.trans (hg7.trans hg8)) hop ?_
  subst hbb
  have hbase : ((So.mk sz m (foNew K) fs (clkP m segs 64) (foNew K).mem (foNew K).ret).notes (fs.flatMap Fe.all)).base = foNew K ∧ ((So.mk sz m (foNew K) fs (clkP m segs 64) (foNew K).mem (foNew K).ret).notes (fs.flatMap Fe.all)).fs = fs := notes_keep (fs.flatMap Fe.all) (So.mk sz m (foNew K) fs (clkP m segs 64) (foNew K).mem (foNew K).ret)
  refine store_close i hio ?_
  rw [hbase.1, hbase.2]
  exact hs.pull4.drop
end Go.Proofs.YtfhmamkafancbaaGreatDoor

/-
  Layer 6 (event): Plain, of any event.
-/
namespace Go.Proofs.YtfhmamkafancbaaGreatDoor
open Go.RowKit
set_option linter.unusedVariables false
set_option linter.unusedSimpArgs false
def Ev.pnd (e : Ev) : Int := if e.kd = 5 then e.nd else 0
/-- An event as it is kept, whatever its writer and its node are. -/
def Ev.pl (e : Ev) (tv : Value) : Ev := ⟨e.wr, e.sq, e.tm, e.kd, e.ep.key, e.ep.text, e.ep.num, e.pnd, tv⟩
theorem Ev.pl_ep {e : Ev} (h1 : 0 ≤ e.wr) (h2 : e.kd = 5 → 0 ≤ e.nd) (tv : Value) : e.pl tv = e.ep.ev tv := by
  simp only [Ev.pl, Ep.ev, Ev.ep, Ev.pnd, Ev.mk.injEq, true_and, and_true]
  refine ⟨by omega, ?_⟩
  split
  · rename_i h; have := h2 h; omega
  · rfl
theorem Ev.pl_right (e : Ev) (tv : Value) : (e.pl tv).right = e.right := by
  unfold Ev.right Ev.pl Ev.ep Ev.pnd
  simp only
  by_cases h1 : e.kd = 1
  · simp [h1]
  · by_cases h5 : e.kd = 5
    · simp [h5]
    · by_cases h4 : 1 ≤ e.kd ∧ e.kd ≤ 4
      · simp [h1, h5, h4]
      · simp only [h1, h5, h4, if_false, false_and, or_false]
        simp only [← and_assoc, h4, false_and, if_false]
set_option maxHeartbeats 3200000 in
set_option maxRecDepth 100000 in
theorem eplain_all {R : Ending → World → Prop} {W w : World} {g : Hl} {H : List HP} {e : Ev} (ho : e.ok g) (hs : Sat W w g H)
    (hR : ∀ tv w' g', Hl.le g g' → (e.pl tv).ok g' → Sat W w' g' H → R (.returned (e.pl tv).val) w') : Calls Tryz.prog 33 #[e.val] w R := by
  have HR := Lib.hid hR
  clear hR
  obtain ⟨a, c, etv, hnc, _⟩ := ho.tv.len
  have htv := ho.tv
  rw [etv] at htv
  have hko := ho.kd
  have hsqo := ho.sq
  have htmo := ho.tm
  have hkeyo := ho.key
  have htxo := ho.text
  have hnumo := ho.num
  have hndo := ho.nd
  have hwro := ho.wr
  have ag1 := ag_ev
  refine C.calls (args := [e.val]) Tryz.func33 rfl rfl rfl ?_
  refine go ?_
  refine E.bx hs (xs := e.cs) ?_ (hx := rfl)
  intro b1 w1 hs
  refine go ?_
  refine E.al hs ?_
  intro b2 w2 hs
  refine go ?_
  refine E.al hs ?_
  intro b3 w3 hs
  refine E.sto (vs := [.int .i64 e.wr, .int .u64 e.sq, .int .u64 e.tm, .int .u8 e.kd, .string ⟨#[]⟩, .slice none 0 0, .float .f64 0, .int .i64 0]) (ys := [.int .i64 e.wr, .int .u64 e.sq, .int .u64 e.tm, .int .u8 e.kd, .string ⟨#[]⟩, .slice none 0 0, .float .f64 0, .int .i64 0]) hs ?_ (hv := rfl) (hsp := rfl)
  intro w4 hs
  apply later (α := Unit) (f := fun _ => [(1, .pointer (some ⟨b1, 0, none⟩)), (2, .pointer (some ⟨b2, 0, none⟩)), (3, .pointer (some ⟨b3, 0, none⟩)), (25, .int .u8 e.kd), (26, .bool (decide ((e.kd : Int) = 1)))])
    (M := fun _ w => Sat W w g (blk b3 [.int .i64 e.wr, .int .u64 e.sq, .int .u64 e.tm, .int .u8 e.kd, .string ⟨(e.ep.key).toArray⟩, .slice none 0 0, .float .f64 0, .int .i64 0] 26 :: blk b2 [.int .i64 0, .int .u64 0, .int .u64 0, .int .u8 0, .string ⟨#[]⟩, .slice none 0 0, .float .f64 0, .int .i64 0] 26 :: blk b1 e.cs 26 :: H))
  · intro ky
    have hno : ¬ (1 ≤ e.kd ∧ e.kd ≤ 4) → e.ep.key = [] := fun h => by simp only [Ev.ep, if_neg h]
    have hyes : (1 ≤ e.kd ∧ e.kd ≤ 4) → e.ep.key = e.key := fun h => by simp only [Ev.ep, if_pos h]
    refine go ?_
    cases c1 : decide ((1 : Int) ≤ e.kd) with
    | false =>
      have c1 := of_decide_eq_false c1
      rw [hno (by omega)] at ky
      refine go ?_
      exact C.forget wk_ (ky () _ hs)
    | true =>
      have c1 := of_decide_eq_true c1
      refine go ?_
      cases c2 : decide ((e.kd : Int) ≤ 4) with
      | false =>
        have c2 := of_decide_eq_false c2
        rw [hno (by omega)] at ky
        refine go ?_
        exact C.forget wk_ (ky () _ hs)
      | true =>
        have c2 := of_decide_eq_true c2
        rw [hyes (by omega)] at ky
        refine go ?_
        refine E.sto (vs := [.string ⟨e.key.toArray⟩]) (ys := [.int .i64 e.wr, .int .u64 e.sq, .int .u64 e.tm, .int .u8 e.kd, .string ⟨e.key.toArray⟩, .slice none 0 0, .float .f64 0, .int .i64 0]) hs ?_ (hv := rfl) (hsp := rfl)
        intro w5 hs
        refine go ?_
        exact C.forget wk_ (ky () _ hs)
  clear hs
  rintro _ w6 hs
  have hkl : e.ep.key.length ≤ 100000000 := by
    simp only [Ev.ep]
    split
    · exact hkeyo
    · simp
  have fin : ∀ (tv : Value) w' g', Hl.le g g' → Pr 1 g' tv e.ep.text.length (bs e.ep.text) → Sat W w' g' (blk b3 [.int .i64 e.wr, .int .u64 e.sq, .int .u64 e.tm, .int .u8 e.kd, .string ⟨(e.ep.key).toArray⟩, tv, .float .f64 e.ep.num, .int .i64 e.pnd] 26 :: H) → R (.returned (.agg #[.int .i64 e.wr, .int .u64 e.sq, .int .u64 e.tm, .int .u8 e.kd, .string ⟨(e.ep.key).toArray⟩, tv, .float .f64 e.ep.num, .int .i64 e.pnd])) w' := by
    intro tv w' g' hg' hp hs
    have := HR.out tv w' g' hg' ?_ hs.drop
    · exact this
    · refine ⟨hwro, hsqo, htmo, hko, ?_, ?_, hkl, ?_, hp⟩
      · simp only [Ev.pl, Ev.ep]
        split
        · exact bitsF_lt hnumo
        · omega
      · simp only [Ev.pl, Ev.pnd]; split <;> omega
      · simp only [Ev.pl, Ev.ep]
        split
        · exact htxo
        · simp
  clear HR
  have HR := Lib.hid fin
  clear fin
  apply laterE (α := (Option Addr × Nat) × Nat × Int × Hl) (f := fun x => [(2, .pointer (some ⟨b2, 0, none⟩)), (44, .agg #[.int .i64 e.wr, .int .u64 e.sq, .int .u64 e.tm, .int .u8 e.kd, .string ⟨(e.ep.key).toArray⟩, .slice x.1.1 e.ep.text.length x.1.2, .float .f64 x.2.1, .int .i64 x.2.2.1])])
    (M := fun x w => x.2.1 = e.ep.num ∧ x.2.2.1 = e.pnd ∧ Hl.le g x.2.2.2 ∧ Pr 1 x.2.2.2 (.slice x.1.1 e.ep.text.length x.1.2) e.ep.text.length (bs e.ep.text) ∧ Sat W w x.2.2.2 (blk b3 [.int .i64 e.wr, .int .u64 e.sq, .int .u64 e.tm, .int .u8 e.kd, .string ⟨(e.ep.key).toArray⟩, .slice x.1.1 e.ep.text.length x.1.2, .float .f64 x.2.1, .int .i64 x.2.2.1] 26 :: blk b2 [.int .i64 0, .int .u64 0, .int .u64 0, .int .u8 0, .string ⟨#[]⟩, .slice none 0 0, .float .f64 0, .int .i64 0] 26 :: blk b1 e.cs 26 :: H))
  · intro ky
    by_cases k1 : e.kd = 1
    · have ht : e.ep.text = e.text := by simp only [Ev.ep, if_pos k1]
      have hn0 : 0 = e.ep.num := by simp only [Ev.ep]; rw [if_neg (by omega)]
      have hd0 : (0 : Int) = e.pnd := by simp only [Ev.pnd]; rw [if_neg (by omega)]
      replace hn0 := Lib.hid hn0
      replace hd0 := Lib.hid hd0
      rw [ht] at ky
      rw [show decide ((e.kd : Int) = 1) = true from decide_eq_true (by omega)]
      refine go ?_
      rw [etv]
      refine E.app el_u8 hs.nilOwn (htv.row hs) ?_
      intro a7 c7 w7 _ _ hs
      rw [Nat.zero_add] at hs ⊢
      rw [List.nil_append] at hs
      obtain ⟨g10, hg10, hp10, hs⟩ := hs.publishOwn
      refine go ?_
      refine E.sto (vs := [.slice a7 e.text.length c7]) (ys := [.int .i64 e.wr, .int .u64 e.sq, .int .u64 e.tm, .int .u8 e.kd, .string ⟨(e.ep.key).toArray⟩, .slice a7 e.text.length c7, .float .f64 0, .int .i64 0]) hs ?_ (hv := rfl) (hsp := rfl)
      intro w8 hs
      refine go ?_
      exact E.forget wk_ (ky ((a7, c7), 0, 0, g10) _ ⟨hn0.out, hd0.out, hg10, hp10, hs⟩)
    · have ht : e.ep.text = [] := by simp only [Ev.ep, if_neg k1]
      rw [ht] at ky
      rw [show decide ((e.kd : Int) = 1) = false from decide_eq_false (by omega)]
      refine go ?_
      by_cases k2 : e.kd = 2 ∨ e.kd = 3
      · have hn0 : bitsF e.num = e.ep.num := by simp only [Ev.ep]; rw [if_pos k2]
        have hd0 : (0 : Int) = e.pnd := by simp only [Ev.pnd]; rw [if_neg (by omega)]
        replace hn0 := Lib.hid hn0
        replace hd0 := Lib.hid hd0
        apply laterE (α := Unit) (f := fun _ => [(2, .pointer (some ⟨b2, 0, none⟩)), (3, .pointer (some ⟨b3, 0, none⟩)), (36, .float .f64 e.num)]) (M := fun _ w => Sat W w g (blk b3 [.int .i64 e.wr, .int .u64 e.sq, .int .u64 e.tm, .int .u8 e.kd, .string ⟨(e.ep.key).toArray⟩, .slice none 0 0, .float .f64 0, .int .i64 0] 26 :: blk b2 [.int .i64 0, .int .u64 0, .int .u64 0, .int .u8 0, .string ⟨#[]⟩, .slice none 0 0, .float .f64 0, .int .i64 0] 26 :: blk b1 e.cs 26 :: H))
        · intro kf
          rcases k2 with k2 | k2
          · rw [show decide ((e.kd : Int) = 2) = true from decide_eq_true (by omega)]
            refine go ?_
            exact E.forget wk_ (kf () _ hs)
          · rw [show decide ((e.kd : Int) = 2) = false from decide_eq_false (by omega)]
            refine go ?_
            rw [show decide ((e.kd : Int) = 3) = true from decide_eq_true (by omega)]
            refine go ?_
            exact E.forget wk_ (kf () _ hs)
        · rintro _ w7 hs
          refine E.callf Tryz.func82 rfl ?_
          refine plain_any ?_
          refine go ?_
          refine E.sto (vs := [.float .f64 (bitsF e.num)]) (ys := [.int .i64 e.wr, .int .u64 e.sq, .int .u64 e.tm, .int .u8 e.kd, .string ⟨(e.ep.key).toArray⟩, .slice none 0 0, .float .f64 (bitsF e.num), .int .i64 0]) hs ?_ (hv := rfl) (hsp := rfl)
          intro w8 hs
          refine go ?_
          exact E.forget wk_ (ky ((none, 0), bitsF e.num, 0, g) _ ⟨hn0.out, hd0.out, Hl.le_refl _, Pr.nil, hs⟩)
      · have hn0 : 0 = e.ep.num := by simp only [Ev.ep]; rw [if_neg k2]
        replace hn0 := Lib.hid hn0
        rw [show decide ((e.kd : Int) = 2) = false from decide_eq_false (by omega)]
        refine go ?_
        rw [show decide ((e.kd : Int) = 3) = false from decide_eq_false (by omega)]
        refine go ?_
        by_cases k5 : e.kd = 5
        · have hd0 : e.nd = e.pnd := by simp only [Ev.pnd]; rw [if_pos k5]
          replace hd0 := Lib.hid hd0
          rw [show decide ((e.kd : Int) = 5) = true from decide_eq_true (by omega)]
          refine go ?_
          refine E.sto (vs := [.int .i64 e.nd]) (ys := [.int .i64 e.wr, .int .u64 e.sq, .int .u64 e.tm, .int .u8 e.kd, .string ⟨(e.ep.key).toArray⟩, .slice none 0 0, .float .f64 0, .int .i64 e.nd]) hs ?_ (hv := rfl) (hsp := rfl)
          intro w8 hs
          refine go ?_
          exact E.forget wk_ (ky ((none, 0), 0, e.nd, g) _ ⟨hn0.out, hd0.out, Hl.le_refl _, Pr.nil, hs⟩)
        · have hd0 : (0 : Int) = e.pnd := by simp only [Ev.pnd]; rw [if_neg k5]
          replace hd0 := Lib.hid hd0
          rw [show decide ((e.kd : Int) = 5) = false from decide_eq_false (by omega)]
          refine go ?_
          exact E.forget wk_ (ky ((none, 0), 0, 0, g) _ ⟨hn0.out, hd0.out, Hl.le_refl _, Pr.nil, hs⟩)
  · rintro ⟨⟨a7, c7⟩, num, nd, g7⟩ w9 ⟨h1, h2, hg7, hp7, hs⟩
    simp only at h1 h2 hg7 hp7 hs ⊢
    refine E.sto (vs := [.int .i64 e.wr, .int .u64 e.sq, .int .u64 e.tm, .int .u8 e.kd, .string ⟨(e.ep.key).toArray⟩, .slice a7 e.ep.text.length c7, .float .f64 num, .int .i64 nd]) (ys := [.int .i64 e.wr, .int .u64 e.sq, .int .u64 e.tm, .int .u8 e.kd, .string ⟨(e.ep.key).toArray⟩, .slice a7 e.ep.text.length c7, .float .f64 num, .int .i64 nd]) hs ?_ (hv := rfl) (hsp := rfl)
    intro w10 hs
    refine go ?_
    refine A.c1 rfl rfl (run_lda hs ag_ev) ?_
    subst h1 h2
    exact HR.out _ _ g7 hg7 hp7 hs.swap.drop.swap.drop
end Go.Proofs.YtfhmamkafancbaaGreatDoor

/-
  Layer 14 (store): Write, walked; Clock.
-/
namespace Go.Proofs.YtfhmamkafancbaaGreatDoor
open Go.RowKit
set_option linter.unusedVariables false
set_option linter.unusedSimpArgs false
def noFe : Fe := ⟨0, 0, 0, 0, [], false⟩
/-- A writer's feed. -/
def So.feed (s : So) (w : Nat) : Fe := s.fs.getD w noFe
theorem So.feed_eq {s : So} {w : Nat} (h : w < s.fs.length) : s.feed w = s.fs[w] := by
  rw [So.feed, List.getD_eq_getElem?_getD, List.getElem?_eq_getElem h]; rfl
def So.setf (s : So) (w : Nat) (f : Fe) : So := { s with fs := s.fs.set w f }
/-- What a feed must have, so that it may be asked. -/
structure Fe.fine (f : Fe) : Prop where
  sm : f.small
  ct : f.count ≤ 1000000000
  dt : f.dirty = true → f.l ≠ []
  ln : f.l.length ≤ 1000000000
/-- An event as it is to be written. -/
def So.evW (s : So) (e : Ev) : Ev := { e with wr := (s.m.node : Int), sq := (s.feed s.m.node).next, tm := (s.clock + 1) % 18446744073709551616 }
/-- May it be written. -/
def So.writeP (s : So) (e : Ev) : Int :=
  if s.jo.getD s.m.node false = false then 11 else if s.re.getD s.m.node false = true then 12 else if (s.evW e).right ≠ 0 then (s.evW e).right else if e.kd = 5 ∧ s.jo.getD e.nd.toNat false = true then 10 else 0
/-- How 'Write' goes: the error, the store, the disk, what is told. -/
inductive So.WriteR (s : So) (d : Dk) (e e1 : Ev) : Int → So → Dk → Value → Prop
  | add (h : s.writeP e = 0) (h1 : ((s.feed s.m.node).addR d e1).1 ≠ 0) : So.WriteR s d e e1 ((s.feed s.m.node).addR d e1).1 (s.setf s.m.node ((s.feed s.m.node).addR d e1).2.1) ((s.feed s.m.node).addR d e1).2.2 noEv
  | sync (f1 : Fe) (h : s.writeP e = 0) (h1 : ((s.feed s.m.node).addR d e1).1 = 0) (hg : ((s.feed s.m.node).addR d e1).2.1.grown f1 e1) (h2 : (f1.sync ((s.feed s.m.node).addR d e1).2.2).1 ≠ 0) :
      So.WriteR s d e e1 (f1.sync ((s.feed s.m.node).addR d e1).2.2).1 (s.setf s.m.node (f1.sync ((s.feed s.m.node).addR d e1).2.2).2.1) (f1.sync ((s.feed s.m.node).addR d e1).2.2).2.2 noEv
  | ok (f1 : Fe) (h : s.writeP e = 0) (h1 : ((s.feed s.m.node).addR d e1).1 = 0) (hg : ((s.feed s.m.node).addR d e1).2.1.grown f1 e1) (h2 : (f1.sync ((s.feed s.m.node).addR d e1).2.2).1 = 0) :
      So.WriteR s d e e1 0 (({ s.setf s.m.node (f1.sync ((s.feed s.m.node).addR d e1).2.2).2.1 with clock := e1.tm } : So).note e1) (f1.sync ((s.feed s.m.node).addR d e1).2.2).2.2 e1.val
theorem Sat.push5 {W w : World} {g : Hl} {A B C D E F : HP} {H : List HP} (hs : Sat W w g (A :: B :: C :: D :: E :: F :: H)) : Sat W w g (B :: C :: D :: E :: F :: A :: H) := hs.perm (List.perm_middle (l₁ := [B, C, D, E, F])).symm
theorem Fe.next_lt {f : Fe} {g : Hl} (h : f.ok g) : f.next < 18446744073709551616 := by
  have := h.floor
  unfold Fe.next
  split
  · omega
  · rename_i x _
    have : x.next < 18446744073709551616 := Nat.mod_lt _ (by decide)
    omega
set_option maxHeartbeats 1600000 in
set_option maxRecDepth 100000 in
theorem sclock_any {R : Ending → World → Prop} {W w : World} {g : Hl} {H : List HP} {sb db : Nat} {s : So} (hs : Sat W w g (store sb db s :: H))
    (hR : R (.returned (.int .u64 s.clock)) w) : Calls Tryz.prog 14 #[ptr sb] w R := by
  have HR := Lib.hid hR
  clear hR
  obtain ⟨i, hi, hs⟩ := store_open hs
  have hfv := hi.fv
  simp only [soB] at hs
  refine C.calls (args := [ptr sb]) Tryz.func14 rfl rfl rfl ?_
  refine go ?_
  refine E.ld hs ?_ (hj := stC_ck hfv)
  refine go ?_
  refine A.r1 ?_
  exact HR.out
set_option maxHeartbeats 6400000 in
set_option maxRecDepth 100000 in
theorem swrite_any {R : Ending → World → Prop} {W w : World} {g : Hl} {H : List HP} {sb db : Nat} {s : So} {d : Dk} {e : Ev} (hg : Gl g) (he : e.ok g) (hfine : (s.feed s.m.node).fine) (hs : Sat W w g (store sb db s :: disk db d :: H))
    (hB : s.writeP e ≠ 0 → ∀ w' g', Hl.le g g' → Sat W w' g' (store sb db s :: disk db d :: H) → R (.returned (.tuple #[noEv, .int .i64 (s.writeP e)])) w')
    (hR : ∀ (err : Int) (e1 : Ev) (s' : So) (d' : Dk) (v : Value) w' g', Hl.le g g' → (∃ tv, e1 = (s.evW e).ep.ev tv) → e1.ok g' → s.WriteR d e e1 err s' d' v → Sat W w' g' (store sb db s' :: disk db d' :: H) → R (.returned (.tuple #[v, .int .i64 err])) w') :
    Calls Tryz.prog 13 #[ptr sb, e.val] w R := by
  have HR := Lib.hid hR
  have HB := Lib.hid hB
  clear hR hB
  obtain ⟨i, hi, hs⟩ := store_open hs
  have hfv := hi.fv
  have hjo := hi.ok.jo
  have hre := hi.ok.re
  have hnode := hi.ok.m.node
  have hfs := hi.ok.fs
  have hck := hi.ok.clock
  have ag1 := ag_ev
  simp only [soB] at hs
  refine C.calls (args := [ptr sb, e.val]) Tryz.func13 rfl rfl rfl ?_
  refine go ?_
  refine E.bx hs (xs := e.cs) ?_ (hx := rfl)
  intro b3 w1 hs
  refine go ?_
  refine E.al hs ?_
  intro b4 w2 hs
  refine go ?_
  have hn64 : (s.m.node : Int) < 64 := by omega
  refine C.held1 sb hs ?_
  intro w3 hk hs
  have rd1 : Rd (Keeps g [(sb, stC db s.size s.m i.a i.c i.bb (i.bs.map ptr) s.clock s.jo s.re, 103)]) sb (73 + s.m.node) (.bool (s.jo.getD s.m.node false)) := Rd.blk .here (stC_jo hfv hjo hnode)
  refine goh ?_
  refine EH.done ?_
  clear rd1
  cases hj : s.jo.getD s.m.node false with
  | false =>
    refine go ?_
    refine E.sto (vs := [.int .i64 0, .int .u64 0, .int .u64 0, .int .u8 0, .string ⟨#[]⟩, .slice none 0 0, .float .f64 0, .int .i64 0]) (ys := [.int .i64 0, .int .u64 0, .int .u64 0, .int .u8 0, .string ⟨#[]⟩, .slice none 0 0, .float .f64 0, .int .i64 0]) hs ?_ (hv := rfl) (hsp := rfl)
    intro w90 hs
    refine go ?_
    refine A.c1t1 rfl rfl rfl (run_lda hs ag_ev) ?_
    have hw : s.writeP e = 11 := by unfold So.writeP; rw [if_pos hj]
    have key := HB.out (by rw [hw]; decide) w90 g (Hl.le_refl _) (store_close i hi hs.drop.drop)
    rw [hw] at key
    exact key
  | true =>
  refine go ?_
  refine C.held1 sb hs ?_
  intro w4 hk hs
  have rd2 : Rd (Keeps g [(sb, stC db s.size s.m i.a i.c i.bb (i.bs.map ptr) s.clock s.jo s.re, 103)]) sb (137 + s.m.node) (.bool (s.re.getD s.m.node false)) := Rd.blk .here (stC_re hfv hjo hre hnode)
  refine goh ?_
  refine EH.done ?_
  clear rd2
  cases hr : s.re.getD s.m.node false with
  | true =>
    refine go ?_
    refine E.sto (vs := [.int .i64 0, .int .u64 0, .int .u64 0, .int .u8 0, .string ⟨#[]⟩, .slice none 0 0, .float .f64 0, .int .i64 0]) (ys := [.int .i64 0, .int .u64 0, .int .u64 0, .int .u8 0, .string ⟨#[]⟩, .slice none 0 0, .float .f64 0, .int .i64 0]) hs ?_ (hv := rfl) (hsp := rfl)
    intro w90 hs
    refine go ?_
    refine A.c1t1 rfl rfl rfl (run_lda hs ag_ev) ?_
    have hw : s.writeP e = 12 := by unfold So.writeP; rw [hj, if_neg (by simp), if_pos hr]
    have key := HB.out (by rw [hw]; decide) w90 g (Hl.le_refl _) (store_close i hi hs.drop.drop)
    rw [hw] at key
    exact key
  | false =>
  have hbl := hi.len
  have hnb : s.m.node < i.bs.length := by omega
  have hnf : s.m.node < s.fs.length := by omega
  have hfe := So.feed_eq hnf
  have hfvn : (i.bs.map ptr)[s.m.node]? = some (ptr i.bs[s.m.node]) := by simp [hnb]
  obtain ⟨rest, hs, hback⟩ := feeds_out (bs := i.bs) (fs := s.fs) hnb hnf hs.pull4
  rw [← hfe] at hs
  generalize hfb : i.bs[s.m.node] = fb at hs hback hfvn
  have Hst : ∀ (w' : World) (g' : Hl) (s' : So) (X Y D : HP), i.ok s' g' → s'.base = s.base → Sat W w' g' (feed fb db (s'.feed s.m.node) :: rest :: X :: Y :: soB sb db i s' :: fold i.bb s.base :: D :: H) → s'.fs = s.fs.set s.m.node (s'.feed s.m.node) → Sat W w' g' (store sb db s' :: D :: H) := by
    intro w' g' s' X Y D h1 h2 h3 h4
    have h5 := hback fb (s'.feed s.m.node) h3
    rw [← h4, ← hfb, set_self hnb] at h5
    refine store_close i h1 ?_
    rw [h2]
    exact h5.swap.drop.swap.drop.push2
  clear hback
  replace hfb := Lib.hid hfb
  replace Hst := Lib.hid Hst
  refine go ?_
  refine C.held1 sb hs ?_
  intro w5 hk hs
  have rd3 : Rd (Keeps g [(sb, stC db s.size s.m i.a i.c i.bb (i.bs.map ptr) s.clock s.jo s.re, 103)]) sb (8 + s.m.node) (ptr fb) := Rd.blk .here (stC_fv hfv hnode hfvn)
  refine goh ?_
  refine EH.done ?_
  clear rd3
  refine go ?_
  have hsq := Fe.next_lt (feed_open hs).choose_spec.choose_spec.1
  refine C.held1 sb hs ?_
  intro w6 hk hs
  have rd4 : Rd (Keeps g [(sb, stC db s.size s.m i.a i.c i.bb (i.bs.map ptr) s.clock s.jo s.re, 103)]) sb 72 (.int .u64 s.clock) := Rd.blk .here (stC_ck hfv)
  refine goh ?_
  refine EH.one (St.callf Tryz.func50 rfl ?_)
  refine fnext_any hfine.sm hs ?_
  intro w7 hs
  refine kept1 hs (fun hk => ?_) (Hl.le_refl _)
  refine goh ?_
  refine EH.sto (vs := [.int .i64 s.m.node]) (ys := [.int .i64 s.m.node, .int .u64 e.sq, .int .u64 e.tm, .int .u8 e.kd, .string ⟨e.key.toArray⟩, e.tv, .float .f64 e.num, .int .i64 e.nd]) hs ?_ (hv := rfl) (hsp := rfl)
  intro w8 hs
  refine kept1 hs (fun hk => ?_) (Hl.le_refl _)
  refine goh ?_
  refine EH.sto (vs := [.int .u64 (s.feed s.m.node).next]) (ys := [.int .i64 s.m.node, .int .u64 (s.feed s.m.node).next, .int .u64 e.tm, .int .u8 e.kd, .string ⟨e.key.toArray⟩, e.tv, .float .f64 e.num, .int .i64 e.nd]) hs ?_ (hv := rfl) (hsp := rfl)
  intro w9 hs
  refine kept1 hs (fun hk => ?_) (Hl.le_refl _)
  refine goh ?_
  refine EH.sto (vs := [.int .u64 ((s.clock + 1) % 18446744073709551616 : Nat)]) (ys := [.int .i64 s.m.node, .int .u64 (s.feed s.m.node).next, .int .u64 ((s.clock + 1) % 18446744073709551616 : Nat), .int .u8 e.kd, .string ⟨e.key.toArray⟩, e.tv, .float .f64 e.num, .int .i64 e.nd]) hs ?_ (hv := rfl) (hsp := rfl)
  intro w10 hs
  refine kept1 hs (fun hk => ?_) (Hl.le_refl _)
  refine goh ?_
  refine EH.done ?_
  clear rd4
  have hev : (s.evW e).ok g := ⟨by simp only [So.evW]; omega, hsq, by simp only [So.evW]; omega, he.kd, he.num, he.nd, he.key, he.text, he.tv⟩
  refine go ?_
  refine E.callf Tryz.func33 rfl ?_
  refine eplain_all (e := s.evW e) hev hs ?_
  intro tv w11 g11 hg11 he1o hs
  have he1r := Ev.pl_right (s.evW e) tv
  obtain ⟨e1, he1⟩ : ∃ e1, e1 = (s.evW e).pl tv := ⟨_, rfl⟩
  rw [← he1] at he1o he1r ⊢
  have hkd1 : e1.kd = e.kd := by rw [he1]; rfl
  have hnd1 : e.kd = 5 → e1.nd = e.nd := fun h => by rw [he1]; simp only [Ev.pl, Ev.pnd]; rw [if_pos (show (s.evW e).kd = 5 from h)]; rfl
  have htm1 : e1.tm = (s.evW e).tm := by rw [he1]; rfl
  replace he1 := Lib.hid he1
  replace he1r := Lib.hid he1r
  replace hkd1 := Lib.hid hkd1
  replace htm1 := Lib.hid htm1
  have hkd8 := he1o.kd
  refine go ?_
  refine E.sto (vs := e1.cs) (ys := e1.cs) hs ?_ (hv := rfl) (hsp := spl_all (by rfl)) (h1 := Ev.cs_one he1o)
  intro w12 hs
  refine go ?_
  refine E.callf Tryz.func51 rfl ?_
  refine right_any (e := e1) he1o hs ?_
  intro w13 hs
  refine go ?_
  by_cases hrt : e1.right = 0
  rotate_left
  · have hdd : (!decide (e1.right = 0)) = true := by simp [hrt]
    refine C.cond rfl (fun _ => ?_) (fun h => by rw [hdd] at h; cases h)
    clear hdd
    refine go ?_
    refine E.sto (vs := [.int .i64 0, .int .u64 0, .int .u64 0, .int .u8 0, .string ⟨#[]⟩, .slice none 0 0, .float .f64 0, .int .i64 0]) (ys := [.int .i64 0, .int .u64 0, .int .u64 0, .int .u8 0, .string ⟨#[]⟩, .slice none 0 0, .float .f64 0, .int .i64 0]) hs ?_ (hv := rfl) (hsp := rfl)
    intro w90 hs
    refine go ?_
    refine A.c1t1 rfl rfl rfl (run_lda hs ag_ev) ?_
    have hw : s.writeP e = e1.right := by
      unfold So.writeP
      rw [hj, if_neg (by simp), hr, if_neg (by simp), if_pos (by rw [← he1r.out]; exact hrt), he1r.out]
    have key := HB.out (by rw [hw]; exact hrt) w90 g11 hg11 (Hst.out w90 g11 s _ _ _ (hi.mono hg11) rfl hs (by rw [hfe, set_self hnf]))
    rw [hw] at key
    exact key
  have hdd : (!decide (e1.right = 0)) = false := by simp [hrt]
  refine C.cond rfl (fun h => by rw [hdd] at h; cases h) (fun _ => ?_)
  clear hdd
  obtain ⟨hr1, hr2, hr3⟩ := right_zero hrt
  replace hrt := Lib.hid hrt
  refine go ?_
  have rd5 : ∀ n, n < 64 → Rd (Keeps g11 [(b3, e1.cs, 26), (sb, stC db s.size s.m i.a i.c i.bb (i.bs.map ptr) s.clock s.jo s.re, 103)]) sb (73 + n) (.bool (s.jo.getD n false)) := fun n hn => Rd.blk (.there .here) (stC_jo hfv hjo hn)
  apply laterE (α := Unit) (f := fun _ => [(0, ptr sb), (3, .pointer (some ⟨b3, 0, none⟩)), (4, .pointer (some ⟨b4, 0, none⟩)), (6, ptr fb), (85, ptr fb), (86, e1.val)]) (M := fun _ w => s.writeP e = 0 ∧ Sat W w g11 (feed fb db (s.feed s.m.node) :: rest :: blk b4 [.int .i64 0, .int .u64 0, .int .u64 0, .int .u8 0, .string ⟨#[]⟩, .slice none 0 0, .float .f64 0, .int .i64 0] 26 :: blk b3 e1.cs 26 :: soB sb db i s :: fold i.bb s.base :: disk db d :: H))
  · intro keyO
    by_cases h5 : e1.kd = 5
    · obtain ⟨hn1, hn2⟩ := hr3 h5
      have rd6 := rd5 e1.nd.toNat (by omega)
      have h5' := hkd1.out
      have hnde := hnd1 (by omega)
      replace h5' := Lib.hid h5'
      replace hnde := Lib.hid hnde
      refine C.held2 b3 sb hs ?_
      intro w14 hk hs
      refine goh ?_
      rw [show decide ((e1.kd : Int) = 5) = true from decide_eq_true (by omega)]
      refine goh ?_
      refine EH.done ?_
      clear rd6
      have hwp : s.writeP e = if s.jo.getD e1.nd.toNat false = true then 10 else 0 := by
        unfold So.writeP
        rw [hj, if_neg (by simp), hr, if_neg (by simp), if_neg (by rw [← he1r.out]; exact fun h => h hrt.out), hnde.out]
        by_cases hz : s.jo.getD e.nd.toNat false = true
        · rw [if_pos ⟨by rw [← h5'.out]; exact h5, hz⟩, if_pos hz]
        · rw [if_neg (fun h => hz h.2), if_neg hz]
      cases hz : s.jo.getD e1.nd.toNat false with
      | true =>
        rw [hz, if_pos rfl] at hwp
        replace hwp := Lib.hid hwp
        refine go ?_
        refine E.sto (vs := [.int .i64 0, .int .u64 0, .int .u64 0, .int .u8 0, .string ⟨#[]⟩, .slice none 0 0, .float .f64 0, .int .i64 0]) (ys := [.int .i64 0, .int .u64 0, .int .u64 0, .int .u8 0, .string ⟨#[]⟩, .slice none 0 0, .float .f64 0, .int .i64 0]) hs ?_ (hv := rfl) (hsp := rfl)
        intro w90 hs
        refine go ?_
        refine A.c1t1 rfl rfl rfl (run_lda hs ag_ev) ?_
        have key := HB.out (by rw [hwp.out]; decide) w90 g11 hg11 (Hst.out w90 g11 s _ _ _ (hi.mono hg11) rfl hs (by rw [hfe, set_self hnf]))
        rw [hwp.out] at key
        exact key
      | false =>
        rw [hz, if_neg (by simp)] at hwp
        replace hwp := Lib.hid hwp
        refine go ?_
        exact E.forget wk_ (keyO () _ ⟨hwp.out, hs⟩)
    · have hwp : s.writeP e = 0 := by
        unfold So.writeP
        rw [hj, if_neg (by simp), hr, if_neg (by simp), if_neg (by rw [← he1r.out]; exact fun h => h hrt.out), if_neg]
        rintro ⟨h, _⟩
        exact h5 (by rw [hkd1.out]; exact h)
      refine C.held2 b3 sb hs ?_
      intro w14 hk hs
      refine goh ?_
      rw [show decide ((e1.kd : Int) = 5) = false from decide_eq_false (by omega)]
      refine goh ?_
      refine EH.done ?_
      refine go ?_
      exact E.forget wk_ (keyO () _ ⟨hwp, hs⟩)
  clear hs
  rintro _ w15 ⟨hwp, hs⟩
  refine E.callf Tryz.func52 rfl ?_
  refine fadd_any (e := e1) (hg.mono hg11) he1o hfine.sm hfine.ct hfine.dt hfine.ln (Sat.perm hs (H' := feed fb db (s.feed s.m.node) :: disk db d :: rest :: blk b4 [.int .i64 0, .int .u64 0, .int .u64 0, .int .u8 0, .string ⟨#[]⟩, .slice none 0 0, .float .f64 0, .int .i64 0] 26 :: blk b3 e1.cs 26 :: soB sb db i s :: fold i.bb s.base :: H) (.cons _ (List.perm_middle (l₁ := [rest, _, _, _, _])))) ?_
  intro f1 w16 g16 hg16 hgrow hbad hs
  have hif : ∀ (f : Fe) (ck : Nat) (g' : Hl), Hl.le g g' → ck < 18446744073709551616 → i.ok ({ s.setf s.m.node f with clock := ck } : So) g' := fun f ck g' h1 h2 => ⟨⟨hi.ok.size, hi.ok.m, by simp only [So.setf, List.length_set]; exact hfs, h2, hjo, hre⟩, hbl, hi.vec.mono h1⟩
  have hsf : ∀ (f : Fe) (ck : Nat), ({ s.setf s.m.node f with clock := ck } : So).feed s.m.node = f := fun f ck => by
    rw [So.feed_eq (by simp only [So.setf, List.length_set]; exact hnf)]
    simp [So.setf]
  have Hst2 : ∀ (w' : World) (g' : Hl) (s' : So) (f : Fe) (X Y D : HP), i.ok s' g' → s'.base = s.base → s'.fs = s.fs.set s.m.node f → Sat W w' g' (feed fb db f :: D :: rest :: X :: Y :: soB sb db i s' :: fold i.bb s.base :: H) → Sat W w' g' (store sb db s' :: D :: H) := by
    intro w' g' s' f X Y D h1 h2 h3 h4
    have h5 : s'.feed s.m.node = f := by
      rw [So.feed_eq (by rw [h3, List.length_set]; exact hnf)]
      simp [h3]
    refine Hst.out w' g' s' X Y D h1 h2 ?_ (by rw [h5]; exact h3)
    rw [h5]
    exact h4.perm (.cons _ (List.perm_middle (l₁ := [rest, X, Y, soB sb db i s', fold i.bb s.base])).symm)
  clear Hst
  replace Hst2 := Lib.hid Hst2
  have hep : ∃ tv, e1 = (s.evW e).ep.ev tv := ⟨tv, by
    rw [he1.out]
    refine Ev.pl_ep (by simp only [So.evW]; omega) (fun h => ?_) tv
    have h5 : e1.kd = 5 := by rw [hkd1.out]; exact h
    have := hr3 h5
    rw [hnd1 h] at this
    exact this.1⟩
  have hgg := hg11.trans hg16
  have he1g := he1o.mono hg16
  by_cases ha : ((s.feed s.m.node).addR d e1).1 = 0
  rotate_left
  · have hfb1 := hbad ha
    have hdd : (!decide (((s.feed s.m.node).addR d e1).1 = 0)) = true := by simp [ha]
    have hW := So.WriteR.add (s := s) (d := d) (e := e) (e1 := e1) hwp ha
    replace ha := Lib.hid ha
    refine go ?_
    refine C.cond rfl (fun _ => ?_) (fun h => by rw [hdd] at h; cases h)
    clear hdd
    refine go ?_
    refine E.sto (vs := [.int .i64 0, .int .u64 0, .int .u64 0, .int .u8 0, .string ⟨#[]⟩, .slice none 0 0, .float .f64 0, .int .i64 0]) (ys := [.int .i64 0, .int .u64 0, .int .u64 0, .int .u8 0, .string ⟨#[]⟩, .slice none 0 0, .float .f64 0, .int .i64 0]) hs ?_ (hv := rfl) (hsp := rfl)
    intro w90 hs
    refine go ?_
    refine A.c1t1 rfl rfl rfl (run_lda hs ag_ev) ?_
    refine HR.out _ e1 _ _ noEv w90 g16 hgg hep he1g hW (Hst2.out w90 g16 _ f1 _ _ _ (hif _ s.clock g16 hgg hck) rfl ?_ hs)
    rw [hfb1]; rfl
  have hdd : (!decide (((s.feed s.m.node).addR d e1).1 = 0)) = false := by simp [ha]
  have hgr := hgrow ha
  clear hgrow hbad
  have hne : f1.l ≠ [] := by
    obtain ⟨L, u, u', _, _, rfl⟩ := hgr.ex
    simp
  replace hgr := Lib.hid hgr
  replace ha := Lib.hid ha
  refine go ?_
  refine C.cond rfl (fun h => by rw [hdd] at h; cases h) (fun _ => ?_)
  clear hdd
  refine go ?_
  refine E.callf Tryz.func53 rfl ?_
  refine fsync_any (hg.mono hgg) (fun _ => hne) hs ?_
  intro w17 hs
  by_cases hb : (f1.sync ((s.feed s.m.node).addR d e1).2.2).1 = 0
  rotate_left
  · have hdd : (!decide ((f1.sync ((s.feed s.m.node).addR d e1).2.2).1 = 0)) = true := by simp [hb]
    have hW := So.WriteR.sync (s := s) (d := d) (e := e) (e1 := e1) f1 hwp ha.out hgr.out hb
    replace hb := Lib.hid hb
    refine go ?_
    refine C.cond rfl (fun _ => ?_) (fun h => by rw [hdd] at h; cases h)
    clear hdd
    refine go ?_
    refine E.sto (vs := [.int .i64 0, .int .u64 0, .int .u64 0, .int .u8 0, .string ⟨#[]⟩, .slice none 0 0, .float .f64 0, .int .i64 0]) (ys := [.int .i64 0, .int .u64 0, .int .u64 0, .int .u8 0, .string ⟨#[]⟩, .slice none 0 0, .float .f64 0, .int .i64 0]) hs ?_ (hv := rfl) (hsp := rfl)
    intro w90 hs
    refine go ?_
    refine A.c1t1 rfl rfl rfl (run_lda hs ag_ev) ?_
    exact HR.out _ e1 _ _ noEv w90 g16 hgg hep he1g hW (Hst2.out w90 g16 _ _ _ _ _ (hif _ s.clock g16 hgg hck) rfl rfl hs)
  have hdd : (!decide ((f1.sync ((s.feed s.m.node).addR d e1).2.2).1 = 0)) = false := by simp [hb]
  have hW := So.WriteR.ok (s := s) (d := d) (e := e) (e1 := e1) f1 hwp ha.out hgr.out hb
  replace hb := Lib.hid hb
  refine go ?_
  refine C.cond rfl (fun h => by rw [hdd] at h; cases h) (fun _ => ?_)
  clear hdd
  refine go ?_
  refine E.sto (vs := [.int .u64 e1.tm]) (ys := stC db s.size s.m i.a i.c i.bb (i.bs.map ptr) e1.tm s.jo s.re) hs ?_ (hv := rfl) (hsp := stC_setck hfv _) (hj := stC_fit hfv hjo hre (by simp only [List.length_singleton]; omega))
  intro w18 hs
  obtain ⟨s2, hs2⟩ : ∃ s2 : So, s2 = ({ s.setf s.m.node (f1.sync ((s.feed s.m.node).addR d e1).2.2).2.1 with clock := e1.tm } : So) := ⟨_, rfl⟩
  have hi2 : i.ok s2 g16 := by rw [hs2]; exact hif _ e1.tm g16 hgg he1o.tm
  have hb2 : s2.base = s.base := by rw [hs2]; rfl
  have hf2 : s2.fs = s.fs.set s.m.node (f1.sync ((s.feed s.m.node).addR d e1).2.2).2.1 := by rw [hs2]; rfl
  rw [← hs2] at hW
  replace hs := hs.pull5
  have eB : blk sb (stC db s.size s.m i.a i.c i.bb (i.bs.map ptr) e1.tm s.jo s.re) 103 = soB sb db i s2 := by rw [hs2]; rfl
  rw [eB] at hs
  clear eB
  replace hs2 := Lib.hid hs2
  replace hb2 := Lib.hid hb2
  replace hf2 := Lib.hid hf2
  refine go ?_
  refine E.callf Tryz.func54 rfl ?_
  refine note_any (i := i) (s := s2) hi2 he1g hr3 (fun _ => ⟨hr1, hr2⟩) hs ?_
  intro w19 hs
  refine go ?_
  refine E.sto (vs := e1.cs) (ys := e1.cs) hs ?_ (hv := rfl) (hsp := spl_all (by rfl)) (h1 := Ev.cs_one he1g)
  intro w20 hs
  refine go ?_
  refine A.c1t1 rfl rfl rfl (run_lda hs ag_ev) ?_
  obtain ⟨n1, n2, n3, n4, n5⟩ := s2.note_m e1
  refine HR.out 0 e1 _ _ e1.val w20 g16 hgg hep he1g hW (Hst2.out w20 g16 _ (f1.sync ((s.feed s.m.node).addR d e1).2.2).2.1 _ _ _ (hi2.note e1) (by rw [n2]; exact hb2.out) (by rw [n3]; exact hf2.out) hs.push5)
end Go.Proofs.YtfhmamkafancbaaGreatDoor

/-
  Layers 5, 10, 14, plain: a file swapped on a disk that doesn't stop; a store of a new disk.
-/
namespace Go.Proofs.YtfhmamkafancbaaGreatDoor
open Go.RowKit
set_option linter.unusedVariables false
set_option linter.unusedSimpArgs false
theorem adrop_last14 {β : Type} {name : List UInt8} {v : β} : ∀ {fs : List (List UInt8 × β)}, aget name fs = none → adrop name (fs ++ [(name, v)]) = fs
  | [], _ => by simp [adrop]
  | (a, u) :: r, h => by
    simp only [aget] at h
    split at h
    · cases h
    · rename_i hne
      simp only [List.cons_append, adrop, hne, if_false, adrop_last14 h]
theorem swap_calm14 {d : Dk} (h : d.calm) {name : List UInt8} {t : Ti} {ls : List (List UInt8)} (hn : namedB name = true) (hn2 : namedB (name ++ newB) = true) (hf : aget (name ++ newB) d.fs = none) (hl : ∀ x ∈ ls, x.length ≤ 2097152) (hr : (tk d.fs : Int) + (headB t ++ catB ls).length ≤ d.room) :
    ∃ d', d.swap name t ls = (0, d') ∧ d'.fs = aput name ⟨headB t ++ catB ls, (headB t ++ catB ls).length⟩ d.fs ∧ d'.room = d.room ∧ d'.calm := by
  obtain ⟨d1, a1, a2, a3, a4⟩ := h.remove_none hf
  obtain ⟨d2, b1, b2, b3, b4⟩ := a4.append (p := headB t ++ catB ls) hn2 (by rw [a2, a3]; exact hr)
  rw [a2, put, hf, (as_none hf).1] at b2
  simp only [Option.getD_none, List.nil_append] at b2
  obtain ⟨d3, c1, c2, c3, c4⟩ := b4.sync (name := name ++ newB) (f := ⟨headB t ++ catB ls, 0⟩) (by rw [b2]; exact aget_last hf)
  rw [b2, aput_last hf] at c2
  obtain ⟨d4, e1, e2, e3, e4⟩ := c4.move (src := name ++ newB) (dst := name) hn (by rw [c2]; exact aget_last hf)
  refine ⟨d4, ?_, by rw [e2, c2, adrop_last14 hf], by rw [e3, c3, b3, a3], e4⟩
  have hany : ls.any (fun x => decide (2097152 < x.length)) = false := by
    rw [List.any_eq_false]
    intro x hx
    have := hl x hx
    simp; omega
  unfold Dk.swap
  simp only [a1, b1, c1, hany, e1]
  simp
/-- The first manifest of a node. -/
def mf1 (node : Nat) : Mf := ⟨node, 1, [], 0, []⟩
def dk0 (room : Int) : Dk := ⟨[], room, -1, 0, 0, false⟩
theorem dk0_calm (room : Int) : (dk0 room).calm := ⟨rfl, show (-1 : Int) < 0 by decide⟩
theorem mf1_ok {node : Nat} (h : node < 64) : (mf1 node).ok := ⟨h, by simp [mf1], by simp [mf1], by simp [mf1], by simp [mf1], by simp [mf1]⟩
/-- A manifest's file. -/
def manF (m : Mf) : List UInt8 := headB ⟨109, m.node, m.serial⟩ ++ catB [m.enc]
theorem manF_len {m : Mf} (h : m.ok) : (manF m).length ≤ 1900 := by
  have h1 := headB_len (t := ⟨109, m.node, m.serial⟩) ⟨by have := h.node; simp only; omega, h.serial⟩
  have h2 := Mf.enc_len h
  have h3 := layN_ten (n := m.enc.length) (by omega)
  have h4 : (catB [m.enc]).length = (layN m.enc.length).length + m.enc.length + 4 := by
    simp only [catB, List.map_cons, List.map_nil, List.flatten_cons, List.flatten_nil, List.append_nil]
    exact wrapB_length m.enc
  simp only [manF, List.length_append, h4]
  omega
theorem mwrite_calm {d : Dk} (h : d.calm) {m : Mf} (hm : m.ok) (hn : m.name = [] ∨ namedB m.name = true) (hf : aget (manB ++ newB) d.fs = none) (hr : (tk d.fs : Int) + 1900 ≤ d.room) :
    ∃ d', d.mwrite m = (0, d') ∧ d'.fs = aput manB ⟨manF m, (manF m).length⟩ d.fs ∧ d'.room = d.room ∧ d'.calm := by
  have hl := manF_len hm
  have he := Mf.enc_len hm
  obtain ⟨d', h1, h2, h3, h4⟩ := swap_calm14 h (name := manB) (t := ⟨109, m.node, m.serial⟩) (ls := [m.enc]) manB_named manB_new_named hf (fun x hx => by rw [List.mem_singleton.1 hx]; omega) (by
    simp only [manF] at hl
    omega)
  refine ⟨d', ?_, h2, h3, h4⟩
  unfold Dk.mwrite
  rw [if_neg]
  · exact h1
  · rintro ⟨a, b⟩
    rcases hn with hn | hn
    · exact a hn
    · rw [hn] at b; cases b
theorem rising_one (x : List UInt8) : rising [x] = [x] := by simp [rising]
theorem feed_no_man (w : Nat) : hasP (beginB w) manB = false := by
  unfold hasP
  rw [decide_eq_false]
  rintro ⟨_, h⟩
  have h0 := congrArg (fun l => l[0]?) h
  simp [beginB, manB] at h0
theorem names_nil_one {d : Dk} (h : d.calm) {x : List UInt8} {f : Fl} (hf : d.fs = [(x, f)]) (p : List UInt8) : d.names p = if hasP p x = true then [x] else [] := by
  unfold Dk.names
  rw [h.1, hf]
  simp only [List.map_cons, List.map_nil, rising_one, Bool.false_eq_true, if_false, List.filter_cons, List.filter_nil]
/-- A new disk with the first manifest. -/
structure NewD (node : Nat) (room : Int) (d : Dk) : Prop where
  fs : d.fs = [(manB, ⟨manF (mf1 node), (manF (mf1 node)).length⟩)]
  room : d.room = room
  calm : d.calm
theorem new_disk {node : Nat} (hn : node < 64) {room : Int} (hr : 1900 ≤ room) : (dk0 room).mread = .error 2 ∧ ∃ d1, (dk0 room).mwrite (mf1 node) = (0, d1) ∧ NewD node room d1 := by
  constructor
  · have : (dk0 room).read manB = .error 2 := (dk0_calm room).read_none rfl
    simp [Dk.mread, Dk.sheet, this]
  · obtain ⟨d', h1, h2, h3, h4⟩ := mwrite_calm (dk0_calm room) (mf1_ok hn) (.inl rfl) rfl (by simp [dk0, tk]; omega)
    exact ⟨d', h1, ⟨by rw [h2]; rfl, h3, h4⟩⟩
theorem NewD.tk {node : Nat} {room : Int} {d : Dk} (h : NewD node room d) (hn : node < 64) : Go.Proofs.YtfhmamkafancbaaGreatDoor.tk d.fs ≤ 1900 := by
  rw [h.fs]
  have := manF_len (mf1_ok hn)
  simp only [Go.Proofs.YtfhmamkafancbaaGreatDoor.tk, List.map_cons, List.map_nil, List.sum_cons, List.sum_nil]
  omega
theorem NewD.sweep {node : Nat} {room : Int} {d : Dk} (h : NewD node room d) : d.sweep [] = (0, d) := by
  unfold Dk.sweep
  rw [names_nil_one h.calm h.fs]
  have h1 : hasP [] manB = true := by decide +kernel
  have h2 : swp [] manB = false := by decide +kernel
  rw [h1, if_pos rfl]
  simp [Dk.sweepL, h2]
theorem clkP_none {m : Mf} (hm : m.floor = []) : ∀ w, clkP m (fun _ => []) w = m.time
  | 0 => rfl
  | w + 1 => by
    have h1 : vget m.floor w = 0 := by rw [hm]; unfold vget; split <;> simp
    rw [clkP, if_neg, clkP_none hm w]
    simp [h1, nextP]
theorem NewD.load {node : Nat} {room : Int} {d : Dk} (h : NewD node room d) : LoadH (mf1 node) d (fun _ => []) (fun _ => d) where
  d0 := rfl
  step := fun w hw => ⟨[], by rw [names_nil_one h.calm h.fs, feed_no_man]; rfl, by simp, by simp [fopR]⟩
  nm := fun w hw => ⟨fun p hp => by
    rw [h.fs, List.mem_singleton] at hp
    rw [hp]; show manB.length ≤ 1000000; decide, by rw [h.fs]; simp⟩
  fl := fun w hw => by simp [mf1, vget]
  sm := fun w hw s hs => by cases hs
  ct := fun w hw => by simp [evS]
  ck := by rw [clkP_none rfl]; simp [mf1]
def fe0 (sz : Int) (k : Nat) : Fe := ⟨k, sz, 0, 0, [], false⟩
/-- A new store. -/
def so0 (node : Nat) (sz : Int) : So := ⟨sz, mf1 node, foNew 3, (List.range 64).map (fe0 sz), 0, (foNew 3).mem, (foNew 3).ret⟩
theorem so0_feed (node : Nat) (sz : Int) {k : Nat} (h : k < 64) : (so0 node sz).feed k = fe0 sz k := by
  rw [So.feed_eq (by simp [so0]; omega)]
  simp [so0]
theorem opened_none {sz : Int} {node : Nat} {k : Nat} {f : Fe} (h : Opened sz (mf1 node) (fun _ => []) k f) : f = fe0 sz k := by
  obtain ⟨h1, h2, h3, h4, h5, h6, _⟩ := h
  have hl : f.l = [] := by
    have : f.l.map Sg.sp = [] := h6
    simpa using this
  cases f
  simp only at h1 h2 h3 h4 h5 hl
  subst h1 h2 h3 h4 h5 hl
  simp [fe0, mf1, vget]
theorem new_store {sz : Int} {node : Nat} {fs : List Fe} (hl : fs.length = 64) (h : ∀ k (hk : k < fs.length), Opened sz (mf1 node) (fun _ => []) k fs[k]) :
    ((So.mk sz (mf1 node) (foNew 3) fs (clkP (mf1 node) (fun _ => []) 64) (foNew 3).mem (foNew 3).ret).notes (fs.flatMap Fe.all)) = so0 node sz := by
  have e1 : fs = (List.range 64).map (fe0 sz) := by
    apply List.ext_getElem
    · simp [hl]
    · intro i h1 h2
      rw [opened_none (h i h1)]
      simp
  have e2 : fs.flatMap Fe.all = [] := by
    rw [e1]
    simp [fe0, Fe.all, liveE]
  rw [e2, clkP_none rfl, e1]
  rfl
theorem NewD.good {node : Nat} {room : Int} {d : Dk} (h : NewD node room d) {k : Nat} (hk : k < 64) (sz : Int) : FGood (fe0 sz k) d where
  inv := ⟨hk, h.calm, (fun s hs => by cases hs), (fun s hs => by cases hs), (fun s hs => by cases hs), trivial, (fun s hs => by cases hs), (fun x hx hn => by
    rw [h.fs] at hn
    simp only [aget] at hn
    split at hn
    · rename_i e
      rw [e, feed_no_man] at hx
      cases hx
    · exact absurd rfl hn), (fun s hs => by cases hs), by rw [h.fs]; simp⟩
  own := fun s hs => by cases hs
  dirty := fun h => by cases h
theorem fe0_fine (sz : Int) (k : Nat) : (fe0 sz k).fine := ⟨(fun s hs => by cases hs), by simp [fe0, Fe.count], (fun h => by cases h), by simp [fe0]⟩
end Go.Proofs.YtfhmamkafancbaaGreatDoor

/-
  Layer 14 (store): a new store is opened, and written to.
-/
namespace Go.Proofs.YtfhmamkafancbaaGreatDoor
open Go.RowKit
set_option linter.unusedVariables false
set_option linter.unusedSimpArgs false
set_option maxHeartbeats 1600000 in
set_option maxRecDepth 100000 in
theorem open14_new {R : Ending → World → Prop} {W w : World} {g : Hl} {H : List HP} {db node : Nat} {room : Int} (hg : Gl g) (hn : node < 64) (hr : 1900 ≤ room) (hs : Sat W w g (disk db (dk0 room) :: H))
    (hR : ∀ sb d1 w' g', Hl.le g g' → NewD node room d1 → Sat W w' g' (store sb db (so0 node 80) :: disk db d1 :: H) → R (.returned (ptr sb)) w') : Calls Tryz.prog 11 #[ptr db, .int .i64 node] w R := by
  have HR := Lib.hid hR
  clear hR
  obtain ⟨hrd, d1, hwr, hN⟩ := new_disk hn hr
  have hload := hN.load
  have hsw := hN.sweep
  refine C.calls (args := [ptr db, .int .i64 node]) Tryz.func11 rfl rfl rfl ?_
  refine go ?_
  refine E.callf Tryz.func37 rfl ?_
  refine sopen_none (m := mf1 node) (d1 := d1) (d2 := d1) hg hn (by decide) (by decide) (.inl ⟨hrd, rfl, hwr⟩) rfl rfl (hload.nm 0 (by decide)).1 (hload.nm 0 (by decide)).2 hsw hload hs ?_
  intro sb fs w2 g2 hg2 hop hs
  have hl : fs.length = 64 := by
    obtain ⟨i, hi, _⟩ := store_open hs
    have := hi.ok.fs
    rw [(notes_keep _ _).2] at this
    exact this
  have e1 := new_store hl hop
  have e3 : (min (max (3 : Int) 0) 64).toNat = 3 := rfl
  rw [e3, e1] at hs
  clear e1 e3
  refine go ?_
  refine A.r1 ?_
  exact HR.out sb d1 w2 g2 hg2 hN hs
theorem new_add {node : Nat} {room : Int} {d : Dk} (h : NewD node room d) (hn : node < 64) (hr : 10000 ≤ room) {e : Ev} (hrt : e.right = 0) (hw : e.wr = node) (hsq : e.sq = 1) (htm : e.tm = 1) (hkd : e.kd < 256) (hnum : e.num < 18446744073709551616) (hl : e.enc.length ≤ 3000) :
    ((fe0 80 node).addR d e).1 = 0 ∧ ∀ f1, ((fe0 80 node).addR d e).2.1.grown f1 e → (f1.sync ((fe0 80 node).addR d e).2.2).1 = 0 ∧ (f1.sync ((fe0 80 node).addR d e).2.2).2.1.fine := by
  have hg := h.good hn 80
  have htk := h.tk hn
  have hnx : (fe0 80 node).next = 1 := rfl
  have hp : (fe0 80 node).addP e = 0 := by
    have h1 : (fe0 80 node).sealed = false := rfl
    have h2 : (fe0 80 node).tm = 0 := rfl
    unfold Fe.addP
    rw [h1, if_neg (by simp), if_neg (by rw [hnx, hw, hsq]; simp [fe0]), if_neg (by rw [h2]; omega)]
  have hwl : (wrapB e.enc).length ≤ 3014 := by
    have := layN_ten (n := e.enc.length) (by omega)
    rw [wrapB_length]
    omega
  obtain ⟨a1, a2, a3, a4⟩ := feed_add hg hp hrt hkd hnum (by omega) (by rw [h.room]; omega)
  refine ⟨a1, fun f1 hgr => ?_⟩
  obtain ⟨b1, b2, b3, b4, b5, b6, b7, b8, b9⟩ := a4 f1 hgr
  obtain ⟨f2, d2, c1, c2, c3, c4, c5, c6, c7, c8, c9, c10, c11⟩ := feed_sync1 b1
  rw [c1]
  refine ⟨rfl, ?_⟩
  have hs : f2.segs = f1.segs := by unfold Fe.segs; rw [c5]
  have hev : (evS f2.segs).length ≤ 1 := by
    rw [hs, b7]
    simp [fe0, Fe.segs, evS]
  show f2.fine
  refine ⟨small_of c2 (by omega) ?_, by rw [count_eq]; omega, (fun hd => by rw [c10] at hd; cases hd), ?_⟩
  · rw [c4]
    omega
  · rw [c5]
    have : (fe0 80 node).l.length = 0 := rfl
    omega
/-- What a new store is behind one event. -/
structure Once (node : Nat) (e e1 : Ev) (s : So) : Prop where
  m : s.m = mf1 node
  clock : s.clock = 1
  ex : ∃ tv, e1 = ((so0 node 80).evW e).ep.ev tv
  fine : (s.feed node).fine
  note : s.jo = (if e1.kd = 5 then (foNew 3).mem.set e1.nd.toNat true else (foNew 3).mem) ∧ s.re = (if e1.kd = 6 then (foNew 3).ret.set e1.wr.toNat true else (foNew 3).ret)
theorem so0_evW {node : Nat} (hn : node < 64) (e : Ev) : (so0 node 80).evW e = { e with wr := (node : Int), sq := 1, tm := 1 } := by
  unfold So.evW
  have h1 : (so0 node 80).m.node = node := rfl
  rw [h1, so0_feed node 80 hn]
  rfl
theorem write_new {R : Ending → World → Prop} {W w : World} {g : Hl} {H : List HP} {sb db node : Nat} {room : Int} {d : Dk} {e : Ev} (hg : Gl g) (hn : node < 64) (hN : NewD node room d) (hr : 10000 ≤ room) (he : e.ok g) (hlen : e.key.length ≤ 100 ∧ e.text.length ≤ 500) (hs : Sat W w g (store sb db (so0 node 80) :: disk db d :: H))
    (hB : (so0 node 80).writeP e ≠ 0 → ∀ w' g', Hl.le g g' → Sat W w' g' (store sb db (so0 node 80) :: disk db d :: H) → R (.returned (.tuple #[noEv, .int .i64 ((so0 node 80).writeP e)])) w')
    (hR : (so0 node 80).writeP e = 0 → ∀ (e1 : Ev) (s' : So) (d' : Dk) w' g', Hl.le g g' → e1.ok g' → Once node e e1 s' → Sat W w' g' (store sb db s' :: disk db d' :: H) → R (.returned (.tuple #[e1.val, .int .i64 0])) w') :
    Calls Tryz.prog 13 #[ptr sb, e.val] w R := by
  have hm : (so0 node 80).m.node = node := rfl
  have hfd := so0_feed node 80 hn
  refine swrite_any (s := so0 node 80) hg he (by rw [hm, hfd]; exact fe0_fine 80 node) hs hB ?_
  intro err e1 s' d' v w' g' hg' hex he1 hW hs
  have key : (so0 node 80).writeP e = 0 → ((fe0 80 node).addR d e1).1 = 0 ∧ ∀ f1, ((fe0 80 node).addR d e1).2.1.grown f1 e1 → (f1.sync ((fe0 80 node).addR d e1).2.2).1 = 0 ∧ (f1.sync ((fe0 80 node).addR d e1).2.2).2.1.fine := by
    intro h0
    obtain ⟨tv, htv⟩ := hex
    rw [so0_evW hn] at htv
    have hrt : ((so0 node 80).evW e).right = 0 := by
      unfold So.writeP at h0
      split at h0
      · cases h0
      · split at h0
        · cases h0
        · split at h0
          · rename_i h; exact absurd h0 h
          · rename_i h; exact Classical.not_not.1 h
    rw [so0_evW hn] at hrt
    refine new_add hN hn hr ?_ ?_ ?_ ?_ he1.kd he1.num ?_
    · rw [htv]
      rw [Ep.right_ev]
      exact ep_right hrt
    · rw [htv]; simp [Ep.ev, Ev.ep]
    · rw [htv]; rfl
    · rw [htv]; rfl
    · have h1 := he1.wr
      have := Ev.enc_len e1 (by omega) he1.sq he1.tm (by have := he1.key; omega) (by have := he1.text; omega) (by have := he1.nd; omega)
      have h2 : e1.key.length ≤ 100 := by
        rw [htv]; simp only [Ep.ev, Ev.ep]; split
        · omega
        · simp
      have h3 : e1.text.length ≤ 500 := by
        rw [htv]; simp only [Ep.ev, Ev.ep]; split
        · omega
        · simp
      omega
  generalize hE : (so0 node 80).writeP e = P at key
  cases hW with
  | add h h1 =>
    rw [hE] at h
    have := (key h).1
    rw [hm, hfd] at h1
    exact absurd this h1
  | sync f1 h h1 hgr h2 =>
    rw [hE] at h
    rw [hm, hfd] at hgr h2
    exact absurd ((key h).2 f1 hgr).1 h2
  | ok f1 h h1 hgr h2 =>
    rw [hE] at h
    have hk := (key h).2 f1 (by rw [hm, hfd] at hgr; exact hgr)
    refine hR (hE.trans h) e1 _ _ w' g' hg' he1 ?_ hs
    obtain ⟨n1, n2, n3, n4, n5⟩ := So.note_m (({ (so0 node 80).setf (so0 node 80).m.node (f1.sync (((so0 node 80).feed (so0 node 80).m.node).addR d e1).2.2).2.1 with clock := e1.tm } : So)) e1
    refine ⟨n1, ?_, hex, ?_, ?_⟩
    · rw [n4]
      obtain ⟨tv, htv⟩ := hex
      rw [so0_evW hn] at htv
      rw [htv]; rfl
    · have : ∀ s : So, s.fs = (so0 node 80).fs.set node (f1.sync (((so0 node 80).feed (so0 node 80).m.node).addR d e1).2.2).2.1 → (s.feed node) = (f1.sync (((so0 node 80).feed (so0 node 80).m.node).addR d e1).2.2).2.1 := by
        intro s hs
        have hl : node < s.fs.length := by rw [hs]; simp [so0]; omega
        rw [So.feed_eq hl]
        simp [hs]
      rw [this _ n3, hm, hfd]
      exact hk.2
    · unfold So.note
      by_cases h5 : e1.kd = 5
      · have h6 : ¬ e1.kd = 6 := by omega
        simp only [h5, if_true]
        rw [if_neg (by omega)]
        exact ⟨rfl, rfl⟩
      · by_cases h6 : e1.kd = 6
        · simp only [if_neg h5, if_pos h6]
          exact ⟨rfl, rfl⟩
        · simp only [if_neg h5, if_neg h6]
          exact ⟨rfl, rfl⟩
end Go.Proofs.YtfhmamkafancbaaGreatDoor

/-
  The reference of layer 6: why an event may not be, of any event.
-/
namespace Go.Proofs.YtfhmamkafancbaaGreatDoor
open Go.RowKit
set_option linter.unusedVariables false
set_option linter.unusedSimpArgs false
set_option maxHeartbeats 3200000 in
set_option maxRecDepth 100000 in
theorem rrightA_any {R : Ending → World → Prop} {W w : World} {g : Hl} {H : List HP} {e : Ev} (ho : e.ok g) (hs : Sat W w g H)
    (hR : ∀ w', Sat W w' g H → R (.returned (.int .i64 e.right)) w') : Calls Tryz.prog 15 #[e.val] w R := by
  have HR := Lib.hid hR
  clear hR
  obtain ⟨a, c, etv, hnc, _⟩ := ho.tv.len
  have hkd := ho.kd
  have hsq := ho.sq
  have htm := ho.tm
  obtain ⟨wr, sq, tm, kd, key, text, num, nd, tv⟩ := e
  simp only at hkd etv hsq htm
  subst etv
  simp only [Ev.val, Ev.cs]
  simp only [Ev.right] at HR
  have one : ¬ (0 ≤ wr ∧ wr < 64) ∨ sq = 0 ∨ tm = 0 ∨ kd < 1 ∨ 6 < kd ∨ (kd = 5 ∧ ¬ (0 ≤ nd ∧ nd < 64)) → ∀ w', Sat W w' g H → R (.returned (.int .i64 1)) w' := fun h w' hs => by
    have := HR.out w' hs
    rw [if_pos h] at this
    exact this
  have six : ¬ (¬ (0 ≤ wr ∧ wr < 64) ∨ sq = 0 ∨ tm = 0 ∨ kd < 1 ∨ 6 < kd ∨ (kd = 5 ∧ ¬ (0 ≤ nd ∧ nd < 64))) → ((1 ≤ kd ∧ kd ≤ 4 ∧ (key.length = 0 ∨ 64 < key.length)) ∨ (kd = 1 ∧ 1048576 < text.length)) → ∀ w', Sat W w' g H → R (.returned (.int .i64 6)) w' := fun h h2 w' hs => by
    have := HR.out w' hs
    rw [if_neg h, if_pos h2] at this
    exact this
  have rest : ¬ (¬ (0 ≤ wr ∧ wr < 64) ∨ sq = 0 ∨ tm = 0 ∨ kd < 1 ∨ 6 < kd ∨ (kd = 5 ∧ ¬ (0 ≤ nd ∧ nd < 64))) → ¬ ((1 ≤ kd ∧ kd ≤ 4 ∧ (key.length = 0 ∨ 64 < key.length)) ∨ (kd = 1 ∧ 1048576 < text.length)) → ∀ w', Sat W w' g H → R (.returned (.int .i64 (if 9223372036854775807 < sq ∨ 9223372036854775807 < tm then 8 else 0))) w' := fun h h2 w' hs => by
    have := HR.out w' hs
    rw [if_neg h, if_neg h2] at this
    exact this
  clear HR
  replace one := Lib.hid one
  replace six := Lib.hid six
  replace rest := Lib.hid rest
  refine C.calls (args := [.agg #[.int .i64 wr, .int .u64 sq, .int .u64 tm, .int .u8 kd, .string ⟨key.toArray⟩, .slice a text.length c, .float .f64 num, .int .i64 nd]]) Tryz.func15 rfl rfl rfl ?_
  refine go ?_
  refine E.bx hs ?_
  intro b1 w1 hs
  refine go ?_
  cases h1 : decide (wr < 0) with
  | true =>
    have h1 := of_decide_eq_true h1
    refine go ?_
    refine A.r1 ?_
    exact one.out (.inl (by omega)) _ hs.drop
  | false =>
  have h1 := of_decide_eq_false h1
  refine go ?_
  cases h2 : decide (63 < wr) with
  | true =>
    have h2 := of_decide_eq_true h2
    refine go ?_
    refine A.r1 ?_
    exact one.out (.inl (by omega)) _ hs.drop
  | false =>
  have h2 := of_decide_eq_false h2
  refine go ?_
  cases h3 : decide ((sq : Int) = 0) with
  | true =>
    have h3 := of_decide_eq_true h3
    replace h3 := Lib.hid h3
    refine go ?_
    refine A.r1 ?_
    exact one.out (.inr (.inl (by have := h3.out; omega))) _ hs.drop
  | false =>
  have h3 := of_decide_eq_false h3
  refine go ?_
  cases h4 : decide ((tm : Int) = 0) with
  | true =>
    have h4 := of_decide_eq_true h4
    replace h4 := Lib.hid h4
    refine go ?_
    refine A.r1 ?_
    exact one.out (.inr (.inr (.inl (by have := h4.out; omega)))) _ hs.drop
  | false =>
  have h4 := of_decide_eq_false h4
  refine go ?_
  cases h5 : decide ((kd : Int) < 1) with
  | true =>
    have h5 := of_decide_eq_true h5
    refine go ?_
    refine A.r1 ?_
    exact one.out (.inr (.inr (.inr (.inl (by omega))))) _ hs.drop
  | false =>
  have h5 := of_decide_eq_false h5
  refine go ?_
  cases h6 : decide (6 < (kd : Int)) with
  | true =>
    have h6 := of_decide_eq_true h6
    refine go ?_
    refine A.r1 ?_
    exact one.out (.inr (.inr (.inr (.inr (.inl (by omega)))))) _ hs.drop
  | false =>
  have h6 := of_decide_eq_false h6
  refine go ?_
  have good1 : (kd = 5 → 0 ≤ nd ∧ nd < 64) → ¬ (¬ (0 ≤ wr ∧ wr < 64) ∨ sq = 0 ∨ tm = 0 ∨ kd < 1 ∨ 6 < kd ∨ (kd = 5 ∧ ¬ (0 ≤ nd ∧ nd < 64))) := fun h => by omega
  replace good1 := Lib.hid good1
  apply laterE (α := Unit) (f := fun _ => [(1, .pointer (some ⟨b1, 0, none⟩)), (70, .bool (decide ((9223372036854775808 : Int) ≤ sq))), (71, .bool (decide ((9223372036854775808 : Int) ≤ sq)))]) (M := fun _ w => (kd = 5 → 0 ≤ nd ∧ nd < 64) ∧ ¬ ((1 ≤ kd ∧ kd ≤ 4 ∧ (key.length = 0 ∨ 64 < key.length)) ∨ (kd = 1 ∧ 1048576 < text.length)) ∧ Sat W w g (blk b1 [.int .i64 wr, .int .u64 sq, .int .u64 tm, .int .u8 kd, .string ⟨key.toArray⟩, .slice a text.length c, .float .f64 num, .int .i64 nd] 26 :: H))
  · intro K
    by_cases k5 : kd = 5
    · rw [show decide ((kd : Int) = 5) = true from decide_eq_true (by omega)]
      refine go ?_
      cases h7 : decide (nd < 0) with
      | true =>
        have h7 := of_decide_eq_true h7
        refine go ?_
        refine A.r1 ?_
        exact one.out (.inr (.inr (.inr (.inr (.inr ⟨k5, by omega⟩))))) _ hs.drop
      | false =>
      have h7 := of_decide_eq_false h7
      refine go ?_
      cases h8 : decide (63 < nd) with
      | true =>
        have h8 := of_decide_eq_true h8
        refine go ?_
        refine A.r1 ?_
        exact one.out (.inr (.inr (.inr (.inr (.inr ⟨k5, by omega⟩))))) _ hs.drop
      | false =>
      have h8 := of_decide_eq_false h8
      refine go ?_
      rw [show decide ((kd : Int) ≤ 4) = false from decide_eq_false (by omega)]
      refine go ?_
      rw [show decide ((kd : Int) = 1) = false from decide_eq_false (by omega)]
      refine go ?_
      exact E.forget wk_ (K () _ ⟨fun _ => by omega, by omega, hs⟩)
    · rw [show decide ((kd : Int) = 5) = false from decide_eq_false (by omega)]
      refine go ?_
      by_cases k6 : kd = 6
      · rw [show decide ((kd : Int) ≤ 4) = false from decide_eq_false (by omega)]
        refine go ?_
        rw [show decide ((kd : Int) = 1) = false from decide_eq_false (by omega)]
        refine go ?_
        exact E.forget wk_ (K () _ ⟨fun h => absurd h k5, by omega, hs⟩)
      · rw [show decide ((kd : Int) ≤ 4) = true from decide_eq_true (by omega)]
        refine go ?_
        cases h7 : decide ((key.length : Int) = 0) with
        | true =>
          have h7 := of_decide_eq_true h7
          replace h7 := Lib.hid h7
          refine go ?_
          refine A.r1 ?_
          exact six.out (good1.out fun h => absurd h k5) (.inl ⟨by omega, by omega, .inl (by have := h7.out; omega)⟩) _ hs.drop
        | false =>
        have h7 := of_decide_eq_false h7
        refine go ?_
        cases h8 : decide (64 < (key.length : Int)) with
        | true =>
          have h8 := of_decide_eq_true h8
          refine go ?_
          refine A.r1 ?_
          exact six.out (good1.out fun h => absurd h k5) (.inl ⟨by omega, by omega, .inr (by omega)⟩) _ hs.drop
        | false =>
        have h8 := of_decide_eq_false h8
        refine go ?_
        by_cases k1 : kd = 1
        · rw [show decide ((kd : Int) = 1) = true from decide_eq_true (by omega)]
          refine go ?_
          cases h9 : decide (1048576 < (text.length : Int)) with
          | true =>
            have h9 := of_decide_eq_true h9
            refine go ?_
            refine A.r1 ?_
            exact six.out (good1.out fun h => absurd h k5) (.inr ⟨k1, by omega⟩) _ hs.drop
          | false =>
          have h9 := of_decide_eq_false h9
          refine go ?_
          exact E.forget wk_ (K () _ ⟨fun h => absurd h k5, by omega, hs⟩)
        · rw [show decide ((kd : Int) = 1) = false from decide_eq_false (by omega)]
          refine go ?_
          exact E.forget wk_ (K () _ ⟨fun h => absurd h k5, by omega, hs⟩)
  clear hs
  rintro _ w2 ⟨g1, g2, hs⟩
  have fin := rest.out (good1.out g1) g2
  replace fin := Lib.hid fin
  cases h8 : decide ((9223372036854775808 : Int) ≤ sq) with
  | true =>
    have h8 := of_decide_eq_true h8
    refine go ?_
    refine A.r1 ?_
    have := fin.out _ hs.drop
    rw [if_pos (by omega)] at this
    exact this
  | false =>
  have h8 := of_decide_eq_false h8
  refine go ?_
  cases h9 : decide ((9223372036854775808 : Int) ≤ tm) with
  | true =>
    have h9 := of_decide_eq_true h9
    refine go ?_
    refine A.r1 ?_
    have := fin.out _ hs.drop
    rw [if_pos (by omega)] at this
    exact this
  | false =>
  have h9 := of_decide_eq_false h9
  refine go ?_
  refine A.r1 ?_
  have := fin.out _ hs.drop
  rw [if_neg (by omega)] at this
  exact this
end Go.Proofs.YtfhmamkafancbaaGreatDoor

/-
  The reference of layer 6: whether events are one.
-/
namespace Go.Proofs.YtfhmamkafancbaaGreatDoor
open Go.RowKit
set_option linter.unusedVariables false
set_option linter.unusedSimpArgs false
/-- What a valid event's parts are. -/
structure Ev.fit (e : Ev) : Prop where
  wr : 0 ≤ e.wr
  kd : 1 ≤ e.kd
  nd : e.kd = 5 → 0 ≤ e.nd
set_option maxHeartbeats 3200000 in
set_option maxRecDepth 100000 in
theorem same_any {R : Ending → World → Prop} {W w : World} {g : Hl} {H : List HP} {e f : Ev} (he : e.ok g) (hf : f.ok g) (fe : e.fit) (ff : f.fit) (hs : Sat W w g H)
    (hR : ∀ w' g', Hl.le g g' → Sat W w' g' H → R (.returned (.bool (decide (e.enc = f.enc)))) w') :
    Calls Tryz.prog 16 #[e.val, f.val] w R := by
  have HR := Lib.hid hR
  clear hR
  have ag1 := ag_ev
  refine C.calls (args := [e.val, f.val]) Tryz.func16 rfl rfl rfl ?_
  refine go ?_
  refine E.bx hs (xs := e.cs) ?_ (hx := rfl)
  intro b1 w1 hs
  refine E.bx hs (xs := f.cs) ?_ (hx := rfl)
  intro b2 w2 hs
  refine go ?_
  refine C.held2 b1 b2 hs ?_
  intro w3 hk hs
  refine goh ?_
  refine EH.one (St.callf Tryz.func55 rfl ?_)
  refine rencode_any (e := e) he fe.wr fe.kd fe.nd hs ?_
  intro a4 c4 w4 g4 hg4 hs
  obtain ⟨g5, hg5, hp5, hs⟩ := hs.publishOwn
  refine kept2 hs (fun hk => ?_) (hg4.trans hg5)
  refine goh ?_
  refine EH.two (St.string rfl Tryz.underlying23 Tryz.underlying5 Tryz.underlying9 (hp5.row hs) ?_) (St.callf Tryz.func55 rfl ?_)
  · refine kept2 hs (fun hk => ?_) (hg4.trans hg5)
    refine goh ?_
    refine EH.one (St.callf Tryz.func55 rfl ?_)
    refine rencode_any (e := f) ((hf.mono hg4).mono hg5) ff.wr ff.kd ff.nd hs ?_
    intro a6 c6 w6 g6 hg6 hs
    obtain ⟨g7, hg7, hp7, hs⟩ := hs.publishOwn
    refine kept2 hs (fun hk => ?_) ((hg4.trans hg5).trans (hg6.trans hg7))
    refine goh ?_
    refine EH.one (St.string rfl Tryz.underlying23 Tryz.underlying5 Tryz.underlying9 (hp7.row hs) ?_)
    refine kept2 hs (fun hk => ?_) ((hg4.trans hg5).trans (hg6.trans hg7))
    refine goh ?_
    refine EH.done ?_
    refine go ?_
    refine A.r1 ?_
    exact HR.out _ _ ((hg4.trans hg5).trans (hg6.trans hg7)) hs.drop.drop
  · refine rencode_any (e := f) ((hf.mono hg4).mono hg5) ff.wr ff.kd ff.nd hs ?_
    intro a6 c6 w6 g6 hg6 hs
    obtain ⟨g7, hg7, hp7, hs⟩ := hs.publishOwn
    have hp5' := (hp5.mono hg6).mono hg7
    refine kept2 hs (fun hk => ?_) ((hg4.trans hg5).trans (hg6.trans hg7))
    refine goh ?_
    refine EH.two (St.string rfl Tryz.underlying23 Tryz.underlying5 Tryz.underlying9 (hp5'.row hs) ?_) (St.string rfl Tryz.underlying23 Tryz.underlying5 Tryz.underlying9 (hp7.row hs) ?_)
    · refine kept2 hs (fun hk => ?_) ((hg4.trans hg5).trans (hg6.trans hg7))
      refine goh ?_
      refine EH.one (St.string rfl Tryz.underlying23 Tryz.underlying5 Tryz.underlying9 (hp7.row hs) ?_)
      refine kept2 hs (fun hk => ?_) ((hg4.trans hg5).trans (hg6.trans hg7))
      refine goh ?_
      refine EH.done ?_
      refine go ?_
      refine A.r1 ?_
      exact HR.out _ _ ((hg4.trans hg5).trans (hg6.trans hg7)) hs.drop.drop
    · refine kept2 hs (fun hk => ?_) ((hg4.trans hg5).trans (hg6.trans hg7))
      refine goh ?_
      refine EH.one (St.string rfl Tryz.underlying23 Tryz.underlying5 Tryz.underlying9 (hp5'.row hs) ?_)
      refine kept2 hs (fun hk => ?_) ((hg4.trans hg5).trans (hg6.trans hg7))
      refine goh ?_
      refine EH.done ?_
      refine go ?_
      refine A.r1 ?_
      exact HR.out _ _ ((hg4.trans hg5).trans (hg6.trans hg7)) hs.drop.drop
end Go.Proofs.YtfhmamkafancbaaGreatDoor
