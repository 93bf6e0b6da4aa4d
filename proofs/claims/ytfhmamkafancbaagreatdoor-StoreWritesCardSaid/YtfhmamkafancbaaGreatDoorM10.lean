/-
  Layer 8 (segment): Open.
-/
import Derived.Test.YtfhmamkafancbaaGreatDoorM09
import Derived.Test.YtfhmamkafancbaaGreatDoorM08
import Derived.Test.YtfhmamkafancbaaGreatDoorM02
import Derived.Laws.IdiomCopy
import Derived.Test.YtfhmamkafancbaaGreatDoorM03
import Derived.Test.YtfhmamkafancbaaGreatDoorM01
import Derived.Sort.KeysCollected
import Derived.Maps.Own
import Derived.Laws.Slices
import Derived.Shelf.SlIter.Nil
import Derived.Shelf.SortM.Plain
import Derived.Shelf.SortM.SortNone
import Derived.Test.YtfhmamkafancbaaGreatDoorProg
import Derived.Test.YtfhmamkafancbaaGreatDoorM07
namespace Go.Proofs.YtfhmamkafancbaaGreatDoor
open Go.RowKit
set_option linter.unusedVariables false
set_option linter.unusedSimpArgs false
def Ev.raw (e : Ev) : Ep := ⟨e.wr.toNat, e.sq, e.tm, e.kd, e.key, e.text, e.num, e.nd.toNat⟩
theorem Ep.raw_ev (p : Ep) (tv : Value) : (p.ev tv).raw = p := rfl
/-- The events of a file's records, as far as each is the next one; how long they are, and whether something is cut off. -/
def opE (wr first : Nat) (acc : List Ep) (sz : Nat) : List (List UInt8) → List Ep × Nat × Bool
  | [] => (acc, sz, false)
  | p :: r => match decE p with
    | .error _ => (acc, sz, true)
    | .ok e => if e.wr = wr ∧ e.sq = (first + acc.length) % 18446744073709551616 then opE wr first (acc ++ [e]) (sz + recN p.length) r else (acc, sz, true)
/-- How 'Open' goes. -/
def Dk.opn (d : Dk) (wr first : Nat) : Except Int (List Ep × Nat × Int) × Dk :=
  match (d.mend (nameB wr first)).1 with
  | .error e => (.error e, (d.mend (nameB wr first)).2)
  | .ok s => if s.t.kind = 115 ∧ s.t.a = wr ∧ s.t.b = first then
      (if (opE wr first [] (headB ⟨115, wr, first⟩).length s.l).2.2 = true then
        (.ok ((opE wr first [] (headB ⟨115, wr, first⟩).length s.l).1, (opE wr first [] (headB ⟨115, wr, first⟩).length s.l).2.1, ((d.mend (nameB wr first)).2.cut (nameB wr first) (opE wr first [] (headB ⟨115, wr, first⟩).length s.l).2.1).1), ((d.mend (nameB wr first)).2.cut (nameB wr first) (opE wr first [] (headB ⟨115, wr, first⟩).length s.l).2.1).2)
      else (.ok ((opE wr first [] (headB ⟨115, wr, first⟩).length s.l).1, (opE wr first [] (headB ⟨115, wr, first⟩).length s.l).2.1, 0), (d.mend (nameB wr first)).2))
    else (.error 4, (d.mend (nameB wr first)).2)
set_option maxHeartbeats 1600000 in
theorem run_title_neq (k k' a a' b b' : Int) (w : World) : (Go.binOp .neq 185 (.agg #[.int .u8 k, .int .u64 a, .int .u64 b]) (.agg #[.int .u8 k', .int .u64 a', .int .u64 b'])).run Tryz.prog w = .ok (.bool (!decide (k = k' ∧ a = a' ∧ b = b'))) w := by
  rw [run_neq_struct, show (10000 : Nat) = 9999 + 1 from rfl, run_equalIn_agg _ _ _ _ _ (by kernel_rfl) (by kernel_rfl), show (Program.fieldsOf Tryz.prog 185).toList = [⟨"Kind", 5, 0, false, "", "", 0⟩, ⟨"A", 22, 1, false, "", "", 8⟩, ⟨"B", 22, 2, false, "", "", 16⟩] by kernel_rfl]
  simp [Op.eqFields, part, go_sem]
  by_cases h1 : k = k' <;> by_cases h2 : a = a' <;> by_cases h3 : b = b' <;> simp [h1, h2, h3]
set_option maxHeartbeats 6400000 in
set_option maxRecDepth 100000 in
theorem sgOpen_any {R : Ending → World → Prop} {W w : World} {g : Hl} {H : List HP} {b : Nat} {d : Dk} {i n : Nat} (hg : Gl g) (hi : i < 64) (hn : n < 18446744073709551616)
    (hfew : ∀ s, (d.mend (nameB i n)).1 = .ok s → (∀ p ∈ s.l, p.length ≤ 2097152) ∧ s.l.length ≤ 1000000000) (hs : Sat W w g (disk b d :: H))
    (hE : ∀ e w' g', Hl.le g g' → (d.opn i n).1 = .error e → e ≠ 0 → Sat W w' g' (disk b (d.opn i n).2 :: H) → R (.returned (.tuple #[noSg, .int .i64 e])) w')
    (hOK : ∀ x sz er w' g', Hl.le g g' → (d.opn i n).1 = .ok (x.es.map Ev.raw, sz, er) → El.ok x g' → (∀ e ∈ x.es, e.right = 0) → Sat W w' g' (disk b (d.opn i n).2 :: H) → R (.returned (.tuple #[Sg.val ⟨i, n, x, sz⟩, .int .i64 er])) w') :
    Calls Tryz.prog 207 #[ptr b, str (nameB i n)] w R := by
  have HE := Lib.hid hE
  have HOK := Lib.hid hOK
  clear hE hOK
  have ag1 := ag_sg
  have ag2 := ag_ev
  have ag3 := ag_title
  have ag4 := ag_sheet
  have hto : Ti.ok ⟨115, i, n⟩ := ⟨by simp only; omega, hn⟩
  refine C.calls (args := [ptr b, str (nameB i n)]) Tryz.func207 rfl rfl rfl ?_
  refine go ?_
  refine E.al hs ?_
  intro b4 w1 hs
  refine go ?_
  refine E.callf Tryz.func240 rfl ?_
  refine split_any hg (by omega) hn hs ?_
  intro w2 g2 hg2 hs
  refine go ?_
  refine E.callf Tryz.func241 rfl ?_
  refine mend_any hs.swap ?_ ?_
  rotate_left
  · intro e w3 g3 hme hne hg3 hs
    refine go ?_
    refine E.al hs ?_
    intro b9 w4 hs
    refine go ?_
    refine E.sto hs ?_
    intro w5 hs
    refine go ?_
    have hd : (!decide (e = 0)) = true := by simp [hne]
    refine C.cond rfl (fun _ => ?_) (fun h => by rw [hd] at h; cases h)
    clear hd
    refine go ?_
    refine E.sto hs ?_
    intro w6 hs
    refine go ?_
    refine A.c1t1 rfl rfl rfl (run_lda hs.pull2 ag_sg) ?_
    have key := HE.out e w6 g3 (hg2.trans hg3)
    simp only [Dk.opn, hme] at key
    exact key trivial hne hs.drop.swap.drop
  intro s a3 c3 w3 g3 hme hst hse hgood hg3 hlb hs
  obtain ⟨hf1, hf2⟩ := hfew _ hme
  obtain ⟨⟨kd, ta, tb⟩, ls, good, se⟩ := s
  simp only at hse hgood hf1 hf2 hlb
  simp only [Sh.cs]
  obtain rfl : se = 0 := hse
  refine go ?_
  refine E.al hs ?_
  intro b9 w4 hs
  refine go ?_
  refine E.sto hs ?_
  intro w5 hs
  refine go ?_
  refine E.al hs ?_
  intro b11 w6 hs
  refine go ?_
  refine E.sto hs ?_
  intro w7 hs
  refine go ?_
  refine E.pv (Pv.binOp rfl rfl (fun w => run_eqGuard_agg w _ _ _ _ _ _ (by kernel_rfl)) (fun w => run_title_neq _ _ _ _ _ _ w)) ?_
  refine go ?_
  cases ht : decide ((kd.toNat : Int) = 115 ∧ (ta : Int) = i ∧ (tb : Int) = n) with
  | false =>
    have ht := of_decide_eq_false ht
    refine go ?_
    refine E.sto hs ?_
    intro w8 hs
    refine go ?_
    refine A.c1t1 rfl rfl rfl (run_lda hs.pull3 ag_sg) ?_
    have key := HE.out 4 w8 g3 (hg2.trans hg3)
    have hne : ¬ (kd = 115 ∧ ta = i ∧ tb = n) := by
      rintro ⟨rfl, rfl, rfl⟩
      exact ht ⟨rfl, rfl, rfl⟩
    simp only [Dk.opn, hme, if_neg hne] at key
    exact key trivial (by decide) hs.drop.drop.swap.drop
  | true =>
  have ht := of_decide_eq_true ht
  obtain ⟨ht1, ht2, ht3⟩ := ht
  have htk : kd = 115 := by
    apply UInt8.toNat_inj.1
    have : (115 : UInt8).toNat = 115 := rfl
    omega
  obtain rfl : ta = i := by omega
  obtain rfl : tb = n := by omega
  subst htk
  clear ht1 ht2 ht3
  have hop : d.opn ta tb = (if (opE ta tb [] (headB ⟨115, ta, tb⟩).length ls).2.2 = true then
        (.ok ((opE ta tb [] (headB ⟨115, ta, tb⟩).length ls).1, (opE ta tb [] (headB ⟨115, ta, tb⟩).length ls).2.1, ((d.mend (nameB ta tb)).2.cut (nameB ta tb) (opE ta tb [] (headB ⟨115, ta, tb⟩).length ls).2.1).1), ((d.mend (nameB ta tb)).2.cut (nameB ta tb) (opE ta tb [] (headB ⟨115, ta, tb⟩).length ls).2.1).2)
      else (.ok ((opE ta tb [] (headB ⟨115, ta, tb⟩).length ls).1, (opE ta tb [] (headB ⟨115, ta, tb⟩).length ls).2.1, 0), (d.mend (nameB ta tb)).2)) := by
    simp only [Dk.opn, hme]
    exact if_pos ⟨trivial, trivial, trivial⟩
  clear HE hst hme hfew ht
  have hhl := headB_len hto
  generalize hd1 : (d.mend (nameB ta tb)).2 = d1 at hs hop
  clear hd1
  generalize (d.opn ta tb) = res at hop HOK
  have hop := Lib.hid hop
  refine go ?_
  refine E.callf Tryz.func192 rfl ?_
  refine head_any (t := ⟨115, ta, tb⟩) hs hto ?_
  intro ah ch w8 g8 hg8 hs
  replace hs := hs.drop
  refine go ?_
  refine E.al hs ?_
  intro b12 w9 hs
  refine go ?_
  refine E.sto hs ?_
  intro w10 hs
  refine gob ?_
  have hs0 : Sat W w10 g8 (own 26 8 (.slice none 0 0) 0 [] :: blk b12 [.int .i64 ta, .int .u64 tb, .slice none 0 0, .int .i64 (headB ⟨115, ta, tb⟩).length] 157 :: blk b11 [.int .u8 115, .int .u64 ta, .int .u64 tb] 185 :: blk b9 [.int .u8 (115 : UInt8).toNat, .int .u64 ta, .int .u64 tb, .slice a3 ls.length c3, .int .i64 good, .int .i64 0] 202 :: disk b d1 :: blk b4 [.int .i64 0, .int .u64 0, .slice none 0 0, .int .i64 0] 157 :: H) := hs.mknothing.conv fun h e => ⟨by simp, .inl ⟨rfl, rfl, e⟩⟩
  clear hs
  refine C.cut (fun _ : Unit => [(4, ptr b4), (12, ptr b12)]) (fun _ w => ∃ j, j = ls.length ∧ ∃ (a : Option Addr) (c : Nat) (es : List Ev) (sz : Nat) (g' : Hl), Hl.le g8 g' ∧ (∀ e ∈ es, e.ok g' ∧ e.low ∧ e.right = 0) ∧ es.length ≤ j ∧ sz ≤ 39 + j * 2097166 ∧ opE ta tb [] (headB ⟨115, ta, tb⟩).length ls = opE ta tb (es.map Ev.raw) sz (ls.drop j) ∧ Sat W w g' (own 26 8 (.slice a es.length c) es.length (evC es) :: blk b12 [.int .i64 ta, .int .u64 tb, .slice a es.length c, .int .i64 sz] 157 :: blk b11 [.int .u8 115, .int .u64 ta, .int .u64 tb] 185 :: blk b9 [.int .u8 (115 : UInt8).toNat, .int .u64 ta, .int .u64 tb, .slice a3 ls.length c3, .int .i64 good, .int .i64 0] 202 :: disk b d1 :: blk b4 [.int .i64 0, .int .u64 0, .slice none 0 0, .int .i64 0] 157 :: H)) ?_ ?_
  · refine C.block ?_
    refine C.lp (fun j : Nat => [(0, ptr b), (1, str (nameB ta tb)), (4, ptr b4), (6, .int .i64 ta), (12, ptr b12), (52, .slice a3 ls.length c3), (53, .int .i64 ls.length), (54, .int .i64 j)])
      (fun gk j w => gk = ls.length - j ∧ j ≤ ls.length ∧ ∃ (a : Option Addr) (c : Nat) (es : List Ev) (sz : Nat) (g' : Hl), Hl.le g8 g' ∧ (∀ e ∈ es, e.ok g' ∧ e.low ∧ e.right = 0) ∧ es.length ≤ j ∧ sz ≤ 39 + j * 2097166 ∧ opE ta tb [] (headB ⟨115, ta, tb⟩).length ls = opE ta tb (es.map Ev.raw) sz (ls.drop j) ∧ Sat W w g' (own 26 8 (.slice a es.length c) es.length (evC es) :: blk b12 [.int .i64 ta, .int .u64 tb, .slice a es.length c, .int .i64 sz] 157 :: blk b11 [.int .u8 115, .int .u64 ta, .int .u64 tb] 185 :: blk b9 [.int .u8 (115 : UInt8).toNat, .int .u64 ta, .int .u64 tb, .slice a3 ls.length c3, .int .i64 good, .int .i64 0] 202 :: disk b d1 :: blk b4 [.int .i64 0, .int .u64 0, .slice none 0 0, .int .i64 0] 157 :: H)) ls.length 0 ⟨rfl, Nat.zero_le _, none, 0, [], (headB ⟨115, ta, tb⟩).length, g8, Hl.le_refl _, (fun e he => by cases he), Nat.zero_le _, by omega, rfl, hs0⟩ ?_
    clear hs0
    rintro gk j w11 ⟨rfl, hj, a, c, es, sz, g11, hg11, hes, hel, hsz, hop2, hs⟩
    have Hop2 := Lib.hid hop2
    clear hop2
    refine go ?_
    refine C.cond_dec (p := (j : Int) < ls.length) rfl (fun h => ?_) (fun h => ?_)
    rotate_left
    · obtain rfl : j = ls.length := by omega
      refine go ?_
      exact A.mt () ⟨_, rfl, a, c, es, sz, g11, hg11, hes, hel, hsz, Hop2.out, hs⟩
    have hjl : j < ls.length := by omega
    obtain ⟨xs, hpx, a5, c5, hxi, hp5⟩ := (hlb.mono (hg8.trans hg11)).get hjl
    have hpl := hf1 ls[j] (List.getElem_mem hjl)
    have hrec : recN ls[j].length ≤ 2097166 := by
      have := layN_ten (n := ls[j].length) (by omega)
      unfold recN; omega
    have hdr : ls.drop j = ls[j] :: ls.drop (j + 1) := List.drop_eq_getElem_cons hjl
    have hcut : ∀ (w' : World) (g' : Hl), Hl.le g11 g' → (opE ta tb (es.map Ev.raw) sz (ls.drop j) = (es.map Ev.raw, sz, true)) → Sat W w' g' (own 26 8 (.slice a es.length c) es.length (evC es) :: disk b (d1.cut (nameB ta tb) sz).2 :: H) → R (.returned (.tuple #[Sg.val ⟨ta, tb, ⟨a, c, es⟩, sz⟩, .int .i64 (d1.cut (nameB ta tb) sz).1])) w' := by
      intro w' g' hg' hstop hs
      obtain ⟨g2', hg2', hpr, hs⟩ := hs.publishOwn
      have h1 := hop.out
      rw [Hop2.out, hstop] at h1
      simp only [if_true] at h1
      have hel' : El.ok ⟨a, c, es⟩ g2' := ⟨hpr, fun e he => ⟨(hes e he).1.mono (hg'.trans hg2'), (hes e he).2.1⟩⟩
      have h2 := HOK.out ⟨a, c, es⟩ sz (d1.cut (nameB ta tb) sz).1 w' g2' (hg2.trans (hg3.trans (hg8.trans (hg11.trans (hg'.trans hg2')))))
      rw [h1] at h2
      exact h2 rfl hel' (fun e he => (hes e he).2.2) hs
    have hcut := Lib.hid hcut
    refine go ?_
    refine E.ix el_row hs hpx j hxi ?_
    intro b6 o6 hc6
    refine go ?_
    refine E.callf Tryz.func242 rfl ?_
    refine decode_any hs hp5 rfl (by omega) ?_ ?_
    rotate_left
    · intro e w12 g12 hg12 hde hne hs
      have hstop : opE ta tb (es.map Ev.raw) sz (ls.drop j) = (es.map Ev.raw, sz, true) := by
        rw [hdr]; simp only [opE, hde]
      refine go ?_
      refine E.al hs ?_
      intro b15 w13 hs
      refine go ?_
      refine E.sto hs ?_
      intro w14 hs
      refine go ?_
      refine C.held2 b15 b12 hs ?_
      intro w15 hk hs
      refine goh ?_
      have hd : decide (e = 0) = false := decide_eq_false hne
      rw [hd]
      refine goh ?_
      refine EH.done ?_
      refine go ?_
      refine C.held1 b12 hs ?_
      intro w20 hk hs
      refine goh ?_
      refine EH.one (St.callf Tryz.func243 rfl ?_)
      refine cut_any (b := b) (d := d1) (name := nameB ta tb) (k := (sz : Int)) hs.pull5 ?_
      intro w21 hs
      refine kept1 hs (fun hk => ?_) (Hl.le_refl _)
      refine goh ?_
      refine EH.sto (vs := [.int .i64 ta, .int .u64 tb, .slice a es.length c, .int .i64 sz]) (ys := [.int .i64 ta, .int .u64 tb, .slice a es.length c, .int .i64 sz]) hs ?_ (hv := rfl) (hsp := rfl)
      intro w22 hs
      refine kept1 hs (fun hk => ?_) (Hl.le_refl _)
      refine goh ?_
      refine EH.done ?_
      refine go ?_
      refine A.c1t1 rfl rfl rfl (run_lda hs.pull5 ag_sg) ?_
      exact hcut w22 g12 hg12 hstop hs.swap.drop.swap.pull2.drop.pull2.drop.pull2.drop.pull2.drop
    intro q tv w12 g12 hg12 hde hqo hs
    refine go ?_
    refine E.al hs ?_
    intro b15 w13 hs
    refine go ?_
    refine E.sto (vs := (q.ev tv).cs) (ys := (q.ev tv).cs) hs ?_ (hv := rfl) (hsp := rfl) (h1 := Ev.cs_one hqo)
    intro w14 hs
    refine go ?_
    refine C.held2 b15 b12 hs ?_
    intro w15 hk hs
    refine goh ?_
    cases hc : decide ((q.ev tv).wr = (ta : Int)) with
    | false =>
      have hc := of_decide_eq_false hc
      have hstop : opE ta tb (es.map Ev.raw) sz (ls.drop j) = (es.map Ev.raw, sz, true) := by
        rw [hdr]; simp only [opE, hde]
        exact if_neg (fun h => hc (by simp only [Ep.ev, h.1]))
      refine goh ?_
      refine EH.done ?_
      refine go ?_
      refine C.held1 b12 hs ?_
      intro w20 hk hs
      refine goh ?_
      refine EH.one (St.callf Tryz.func243 rfl ?_)
      refine cut_any (b := b) (d := d1) (name := nameB ta tb) (k := (sz : Int)) hs.pull5 ?_
      intro w21 hs
      refine kept1 hs (fun hk => ?_) (Hl.le_refl _)
      refine goh ?_
      refine EH.sto (vs := [.int .i64 ta, .int .u64 tb, .slice a es.length c, .int .i64 sz]) (ys := [.int .i64 ta, .int .u64 tb, .slice a es.length c, .int .i64 sz]) hs ?_ (hv := rfl) (hsp := rfl)
      intro w22 hs
      refine kept1 hs (fun hk => ?_) (Hl.le_refl _)
      refine goh ?_
      refine EH.done ?_
      refine go ?_
      refine A.c1t1 rfl rfl rfl (run_lda hs.pull5 ag_sg) ?_
      exact hcut w22 g12 hg12 hstop hs.swap.drop.swap.pull2.drop.pull2.drop.pull2.drop.pull2.drop
    | true =>
    have hc := of_decide_eq_true hc
    have hcw : q.wr = ta := by
      simp only [Ep.ev] at hc
      omega
    clear hc
    refine goh ?_
    refine EH.one (St.guard rfl rfl (St.callf Tryz.func105 rfl ?_))
    refine sgNext_any (s := ⟨ta, tb, ⟨a, c, es⟩, sz⟩) hn (by simp only; omega) hs ?_
    intro w16 hs
    refine kept2 hs (fun hk => ?_) (Hl.le_refl _)
    refine goh ?_
    refine EH.done ?_
    refine go ?_
    cases hq : decide (((q.ev tv).sq : Int) = (Sg.next ⟨ta, tb, ⟨a, c, es⟩, sz⟩ : Nat)) with
    | false =>
      have hq := of_decide_eq_false hq
      have hstop : opE ta tb (es.map Ev.raw) sz (ls.drop j) = (es.map Ev.raw, sz, true) := by
        rw [hdr]; simp only [opE, hde]
        exact if_neg (fun h => hq (by simp only [Ep.ev, h.2, Sg.next, List.length_map]))
      refine go ?_
      refine C.held1 b12 hs ?_
      intro w20 hk hs
      refine goh ?_
      refine EH.one (St.callf Tryz.func243 rfl ?_)
      refine cut_any (b := b) (d := d1) (name := nameB ta tb) (k := (sz : Int)) hs.pull5 ?_
      intro w21 hs
      refine kept1 hs (fun hk => ?_) (Hl.le_refl _)
      refine goh ?_
      refine EH.sto (vs := [.int .i64 ta, .int .u64 tb, .slice a es.length c, .int .i64 sz]) (ys := [.int .i64 ta, .int .u64 tb, .slice a es.length c, .int .i64 sz]) hs ?_ (hv := rfl) (hsp := rfl)
      intro w22 hs
      refine kept1 hs (fun hk => ?_) (Hl.le_refl _)
      refine goh ?_
      refine EH.done ?_
      refine go ?_
      refine A.c1t1 rfl rfl rfl (run_lda hs.pull5 ag_sg) ?_
      exact hcut w22 g12 hg12 hstop hs.swap.drop.swap.pull2.drop.pull2.drop.pull2.drop.pull2.drop
    | true =>
    have hq := of_decide_eq_true hq
    have hqs : q.sq = (tb + (es.map Ev.raw).length) % 18446744073709551616 := by
      simp only [Ep.ev, Sg.next] at hq
      rw [List.length_map]
      omega
    clear hq
    refine go ?_
    refine C.heldN hs ?_
    intro w17 hs
    have rz : ∀ w, (Keeps g12 [(b15, (q.ev tv).cs, 26), (b12, [.int .i64 ta, .int .u64 tb, .slice a es.length c, .int .i64 sz], 157)]) w → szAt b12 sz w := fun w hw => Rd.blk (.there .here) rfl w hw
    have hk : (Keeps g12 [(b15, (q.ev tv).cs, 26), (b12, [.int .i64 ta, .int .u64 tb, .slice a es.length c, .int .i64 sz], 157)]) w17 := Keeps.of2 hs (Hl.le_refl _)
    have hz := rz _ hk
    have hrd : Rd (szAt b12 sz) b12 3 (.int .i64 sz) := fun w h => h
    refine EH.tail 16384 16384 16383 14 1 (szAt b12 sz) (fun _ _ => trivial) ?_
    refine EH.tp 5 hz ?_
    refine EH.tp 6 hz ?_
    refine EH.tp 7 hz ?_
    refine EH.tp 8 hz ?_
    refine EH.tail 15872 32736 16895 5 5 (Keeps g12 [(b15, (q.ev tv).cs, 26), (b12, [.int .i64 ta, .int .u64 tb, .slice a es.length c, .int .i64 sz], 157)]) rz ?_
    refine goh ?_
    refine EH.bsle el_ev hs (cs := (q.ev tv).cs) rfl ?_
    intro b18 w18 hs
    refine kept2 hs (fun hk => ?_) (Hl.le_refl _)
    refine goh ?_
    refine EH.app el_ev hs.pull2 (hs.rowOf (size := 8) 1 rfl (by decide)) ?_ (h1 := fun u hu => List.all_eq_true.1 (Ev.cs_one hqo) u hu)
    intro a17 c17 w19 _ _ hs
    refine kept2 hs (fun hk => ?_) (Hl.le_refl _)
    refine goh ?_
    refine EH.done ?_
    refine A.mid ?_
    have hz : szAt b12 sz w19 := Rd.blk (g := g12) (.here) rfl w19 (Keeps.of1 hs (Hl.le_refl _) (b1 := b12) (x1 := [.int .i64 ta, .int .u64 tb, .slice a es.length c, .int .i64 sz]))
    refine EH.tp 11 hz ?_
    refine EH.one (St.callf Tryz.func170 rfl ?_)
    refine checkSize_any (n := ls[j].length) (by omega) ?_
    refine ⟨hz, ?_⟩
    refine EH.tp 10 hz ?_
    refine EH.sto (vs := [.slice a17 (es.length + 1) c17]) (ys := [.int .i64 ta, .int .u64 tb, .slice a17 (es.length + 1) c17, .int .i64 sz]) hs ?_ (hv := rfl) (hsp := rfl)
    intro w20 hs
    have hz : szAt b12 sz w20 := Rd.blk (g := g12) (.here) rfl w20 (Keeps.of1 hs (Hl.le_refl _) (b1 := b12) (x1 := [.int .i64 ta, .int .u64 tb, .slice a17 (es.length + 1) c17, .int .i64 sz]))
    refine ⟨hz, ?_⟩
    refine EH.tp 13 hz ?_
    refine EH.done ?_
    refine A.mid ?_
    refine EH.sto (vs := [.int .i64 (sz + recN ls[j].length : Nat)]) (ys := [.int .i64 ta, .int .u64 tb, .slice a17 (es.length + 1) c17, .int .i64 (sz + recN ls[j].length : Nat)]) hs ?_ (hv := rfl) (hsp := rfl)
    intro w21 hs
    refine ⟨trivial, ?_⟩
    refine EH.done ?_
    refine go ?_
    have hqr : (q.ev tv).right = 0 := by
      simp only [decE] at hde
      split at hde
      · cases hde
      · split at hde
        · rename_i h0
          cases hde
          rw [Ep.right_ev]; exact h0
        · cases hde
    have hlow : (q.ev tv).low := by
      obtain ⟨h1, h2, _⟩ := right_zero hqr
      exact ⟨h1, h2⟩
    refine A.rd (ls.length - (j + 1)) (j + 1) ⟨rfl, by omega, a17, c17, es ++ [q.ev tv], sz + recN ls[j].length, g12, hg11.trans hg12, ?_, ?_, ?_, ?_, ?_⟩
    · intro e he
      rcases List.mem_append.1 he with h | h
      · exact ⟨(hes e h).1.mono hg12, (hes e h).2⟩
      · rw [List.mem_singleton.1 h]
        exact ⟨hqo, hlow, hqr⟩
    · simp only [List.length_append, List.length_singleton]; omega
    · omega
    · rw [Hop2.out, hdr]
      simp only [opE, hde]
      rw [if_pos ⟨hcw, hqs⟩, List.map_append]
      rfl
    · simp only [List.length_append, List.length_singleton, evC_append]
      have e1 : evC [q.ev tv] = (q.ev tv).cs := by simp [evC]
      rw [e1]
      exact hs.swap.drop.swap.drop
  clear hs0
  rintro _ w30 ⟨j, rfl, a, c, es, sz, g11, hg11, hes, hel, hsz, hop2, hs⟩
  rw [List.drop_length] at hop2
  have h1 := hop.out
  simp only [hop2, opE, Bool.false_eq_true, if_false] at h1
  clear hop2 hop
  subst h1
  have HOK := Lib.hid HOK.out
  refine go ?_
  refine E.sto hs ?_
  intro w31 hs
  refine go ?_
  obtain ⟨g2', hg2', hpr, hs⟩ := hs.publishOwn
  refine A.c1t1 rfl rfl rfl (run_lda hs.pull4 ag_sg) ?_
  exact HOK.out ⟨a, c, es⟩ sz 0 w31 g2' (hg2.trans (hg3.trans (hg8.trans (hg11.trans hg2')))) rfl ⟨hpr, fun e he => ⟨(hes e he).1.mono hg2', (hes e he).2.1⟩⟩ (fun e he => (hes e he).2.2) hs.drop.drop.drop.swap.drop
end Go.Proofs.YtfhmamkafancbaaGreatDoor

/-
  Layer 8 (segment): what is opened is never too much; Open of any disk.
-/
namespace Go.Proofs.YtfhmamkafancbaaGreatDoor
open Go.RowKit
set_option linter.unusedVariables false
set_option linter.unusedSimpArgs false
theorem openB_few {l : List UInt8} {most k v : Nat} (h : openB l most = .ok (k, v)) : v ≤ most ∧ k + v + 4 ≤ l.length := by
  unfold openB at h
  generalize takeGo 0 0 l = q at h
  obtain ⟨v', k', e⟩ := q
  simp only at h
  split at h
  · cases h
  split at h
  · cases h
  split at h
  · cases h
  split at h
  · cases h
  split at h
  · simp only [Except.ok.injEq, Prod.mk.injEq] at h
    obtain ⟨rfl, rfl⟩ := h
    omega
  · cases h
theorem allB_few (most : Nat) : ∀ (fuel : Nat) (l : List UInt8), (∀ p ∈ (allB most fuel l).1, p.length ≤ most) ∧ (allB most fuel l).1.length ≤ l.length
  | 0, l => by simp [allB]
  | fuel + 1, l => by
    rw [allB]
    split
    · simp
    · cases ho : openB l most with
      | error e => simp
      | ok q =>
        obtain ⟨k, v⟩ := q
        obtain ⟨h1, h2⟩ := openB_few ho
        obtain ⟨h3, h4⟩ := allB_few most fuel (l.drop (k + v + 4))
        rw [List.length_drop] at h4
        refine ⟨?_, ?_⟩
        · intro p hp
          simp only [List.mem_cons] at hp
          rcases hp with rfl | hp
          · rw [List.length_take]; omega
          · exact h3 p hp
        · simp only [List.length_cons]
          omega
theorem scanB_few {l : List UInt8} {s : Sh} (h : scanB l = .ok s) : (∀ p ∈ s.l, p.length ≤ 2097152) ∧ s.l.length ≤ l.length := by
  unfold scanB at h
  cases ho : openB l 2097152 with
  | error e => rw [ho] at h; cases h
  | ok q =>
    obtain ⟨k, v⟩ := q
    rw [ho] at h
    simp only at h
    split at h
    · cases h
    · simp only [Except.ok.injEq] at h
      subst h
      obtain ⟨h3, h4⟩ := allB_few 2097152 ((l.drop (k + v + 4)).length + 1) (l.drop (k + v + 4))
      refine ⟨h3, ?_⟩
      rw [List.length_drop] at h4
      simp only [allC, List.length_drop] at h4 ⊢
      omega
theorem aget_tk {name : List UInt8} {f : Fl} : ∀ {fs : List (List UInt8 × Fl)}, aget name fs = some f → f.p.length ≤ tk fs
  | [], h => by cases h
  | (a, u) :: r, h => by
    simp only [aget] at h
    simp only [tk, List.map_cons, List.sum_cons]
    split at h
    · simp only [Option.some.injEq] at h
      subst h
      omega
    · have := aget_tk h
      simp only [tk] at this
      omega
theorem mend_few {d : Dk} (hd : d.ok) {name : List UInt8} {s : Sh} (h : (d.mend name).1 = .ok s) : (∀ p ∈ s.l, p.length ≤ 2097152) ∧ s.l.length ≤ 1000000000 := by
  have key : ∀ s, d.sheet name = .ok s → (∀ p ∈ s.l, p.length ≤ 2097152) ∧ s.l.length ≤ 1000000000 := by
    intro s hs
    unfold Dk.sheet Dk.read at hs
    split at hs
    · rename_i h1
      cases hs
    · rename_i p h1
      split at h1
      · cases h1
      · split at h1
        · cases h1
        · rename_i f hf
          simp only [Except.ok.injEq] at h1
          subst h1
          obtain ⟨h2, h3⟩ := scanB_few hs
          have := aget_tk hf
          have := hd.total
          exact ⟨h2, by omega⟩
  unfold Dk.mend at h
  cases hs : d.sheet name with
  | error e => rw [hs] at h; cases h
  | ok s' =>
    have hk := key s' hs
    rw [hs] at h
    simp only at h
    split at h
    · cases h
      exact hk
    · split at h
      · cases h
        exact hk
      · cases h
theorem disk_ok {W w : World} {g : Hl} {H : List HP} {b : Nat} {d : Dk} (hs : Sat W w g (disk b d :: H)) : d.ok := by
  obtain ⟨_, _, _, h, _⟩ := disk_open hs
  exact h
theorem sgOpen_all {R : Ending → World → Prop} {W w : World} {g : Hl} {H : List HP} {b : Nat} {d : Dk} {i n : Nat} (hg : Gl g) (hi : i < 64) (hn : n < 18446744073709551616) (hs : Sat W w g (disk b d :: H))
    (hE : ∀ e w' g', Hl.le g g' → (d.opn i n).1 = .error e → e ≠ 0 → Sat W w' g' (disk b (d.opn i n).2 :: H) → R (.returned (.tuple #[noSg, .int .i64 e])) w')
    (hOK : ∀ x sz er w' g', Hl.le g g' → (d.opn i n).1 = .ok (x.es.map Ev.raw, sz, er) → El.ok x g' → (∀ e ∈ x.es, e.right = 0) → Sat W w' g' (disk b (d.opn i n).2 :: H) → R (.returned (.tuple #[Sg.val ⟨i, n, x, sz⟩, .int .i64 er])) w') :
    Calls Tryz.prog 207 #[ptr b, str (nameB i n)] w R :=
  sgOpen_any hg hi hn (fun s h => mend_few (disk_ok hs) h) hs hE hOK
end Go.Proofs.YtfhmamkafancbaaGreatDoor

/-
  Rows of one's own that begin behind the first place of their array: they grow, are cut from the front, written in place.
-/
namespace Go.Proofs.YtfhmamkafancbaaGreatDoor
open Go.RowKit
set_option linter.unusedVariables false
set_option linter.unusedSimpArgs false
set_option linter.unusedSectionVars false
def ownoP (E : TypeId) (size : Nat) (v : Value) (n : Nat) (xs : List Value) (h : Hl) : Prop :=
  xs.length = n * size ∧ ((v = .slice none 0 0 ∧ n = 0 ∧ h = Hl.emp) ∨
    ∃ (b off cap : Nat) (cur : List Value), v = .slice (some ⟨b, off, none⟩) n cap ∧ n ≤ cap ∧ cap ≤ 9223372036854775807 ∧ off + cap * size ≤ cur.length ∧ (cur.drop off).take (n * size) = xs ∧ h = Hl.one b (.cells cur.toArray E (0, 0)))
def owno (E : TypeId) (size : Nat) (v : Value) (n : Nat) (xs : List Value) : HP := ⟨fun _ h => ownoP E size v n xs h, fun _ _ _ _ h => h⟩
theorem spl_mid : ∀ (vs pre xs post : List Value), xs.length = vs.length → spl (pre ++ xs ++ post) pre.length vs = pre ++ vs ++ post
  | [], pre, xs, post, h => by
    obtain rfl : xs = [] := List.eq_nil_of_length_eq_zero (by simpa using h)
    rfl
  | v :: vs, pre, x :: xs, post, h => by
    have e : (pre ++ (x :: xs) ++ post).set pre.length v = (pre ++ [v]) ++ xs ++ post := by
      rw [List.append_assoc, List.set_append, if_neg (by omega), Nat.sub_self]
      simp
    have e2 : pre.length + 1 = (pre ++ [v]).length := by simp
    show spl ((pre ++ (x :: xs) ++ post).set pre.length v) (pre.length + 1) vs = _
    rw [e, e2, spl_mid vs (pre ++ [v]) xs post (by simpa using h)]
    simp
theorem spl_len : ∀ (vs xs : List Value) (j : Nat), (spl xs j vs).length = xs.length
  | [], _, _ => rfl
  | v :: vs, xs, j => by
    show (spl (xs.set j v) (j + 1) vs).length = _
    rw [spl_len vs, List.length_set]
namespace Sat
variable {W w w' : World} {g g' : Hl} {H H' : List HP} {E : TypeId} {size : Nat} {v : Value} {n c : Nat} {xs : List Value} {a : Option Addr}
theorem onil (hs : Sat W w g H) : Sat W w g (owno E size (.slice none 0 0) 0 [] :: H) := hs.mknothing.conv fun h e => ⟨by simp, .inl ⟨rfl, rfl, e⟩⟩
theorem toO (hs : Sat W w g (ownw E size v n xs :: H)) : Sat W w g (owno E size v n xs :: H) := hs.conv fun h ⟨h1, h2⟩ => ⟨h1, by
  rcases h2 with h2 | ⟨b, cap, cur, e, hn, hm, hc, ht, he⟩
  · exact .inl h2
  · exact .inr ⟨b, 0, cap, cur.toList, e, hn, hm, by simpa using hc, by simpa using ht, by simpa using he⟩⟩
theorem olen (hs : Sat W w g (owno E size v n xs :: H)) : xs.length = n * size ∧ ∃ a c, v = .slice a n c ∧ n ≤ c ∧ c ≤ 9223372036854775807 ∧ (a = none → n = 0 ∧ c = 0) := hs.fact fun h ⟨h1, h2⟩ => ⟨h1, by
  rcases h2 with ⟨e, h0, _⟩ | ⟨b, off, cap, cur, e, hn, hm, _⟩
  · subst h0; exact ⟨none, 0, e, Nat.le_refl _, Nat.zero_le _, fun _ => ⟨rfl, rfl⟩⟩
  · exact ⟨_, cap, e, hn, hm, fun e => by simp at e⟩⟩
theorem oopen (hs : Sat W w g (owno E size (.slice a n c) n xs :: H)) (hn : a ≠ none) : ∃ b off cur, a = some ⟨b, off, none⟩ ∧ off + c * size ≤ cur.length ∧ (cur.drop off).take (n * size) = xs ∧ n ≤ c ∧ c ≤ 9223372036854775807 ∧ Sat W w g (blk b cur E :: H) := by
  obtain ⟨q1, q2, q3, h, ⟨x1, x2, d, ed, ⟨_, hp⟩, s⟩, dg, ag⟩ := hs
  rcases hp with ⟨e1, _⟩ | ⟨b, off, cap, cur, e1, h1, h2, hcs, htk, rfl⟩
  · simp only [Value.slice.injEq] at e1
    exact absurd e1.1 hn
  · simp only [Value.slice.injEq] at e1
    obtain ⟨rfl, -, rfl⟩ := e1
    exact ⟨b, off, cur, rfl, hcs, htk, h1, h2, q1, q2, q3, h, ⟨_, x2, d, ed, rfl, s⟩, dg, ag⟩
theorem oclose {b off : Nat} {cur : List Value} (hs : Sat W w g (blk b cur E :: H)) (hcs : off + c * size ≤ cur.length) (ht : (cur.drop off).take (n * size) = xs) (hn : n ≤ c) (hc : c ≤ 9223372036854775807) : Sat W w g (owno E size (.slice (some ⟨b, off, none⟩) n c) n xs :: H) := hs.conv fun h e => ⟨by
  have := Nat.mul_le_mul_right size hn
  rw [← ht, List.length_take, List.length_drop]; omega, .inr ⟨b, off, c, cur, rfl, hn, hc, hcs, ht, e⟩⟩
/-- It reads as a row. -/
theorem orow (hs : Sat W w g (owno E size v n xs :: H)) : Row size w (fun _ => True) v n xs := by
  obtain ⟨h1, h2, h3, h, ⟨a, x, d, rfl, ⟨hl, hp⟩, s⟩, dg, ag⟩ := hs
  rcases hp with ⟨rfl, rfl, _⟩ | ⟨b, off, cap, cur, rfl, hn, hm, hcs, ht, rfl⟩
  · obtain rfl : xs = [] := List.eq_nil_of_length_eq_zero (by simpa using hl)
    exact Row.nil _ _
  · refine ⟨hl, _, cap, rfl, hn, by unfold maxLen; omega, fun e => by simp at e, .inr ⟨b, off, cur.toArray, E, (0, 0), rfl, trivial, ag b (.cells cur.toArray E (0, 0)) ?_, by simpa using ht⟩⟩
    rcases dg b with e | e
    · simp [Hl.un, e, Hl.one]
    · simp [Hl.un, Hl.one] at e
end Sat
section
variable {P : Program} {W w w' : World} {g g' : Hl} {H H' : List HP} {t e ty : TypeId} {z : Value} {size bytes : Nat} {n : Fm} {ρ : List (Nat × Value)} {Q : Exit → Act → World → Prop} {ops : Array Oper} {rest : List Oper} {d : Option Tmp} {ps : String} {af : Array Edge} {x y : Operand} {N : List (Nat × Value) → World → Prop}
theorem run_appendo (he : ElemOf P t e z size bytes) {a : Option Addr} {k c m : Nat} {u : Value} {xs news : List Value} (hs : Sat W w g (owno e size (.slice a k c) k xs :: H)) {D : Nat → Prop} (hrow : Row size w D u m news) (h1 : ∀ x ∈ news, x.oneCell' = true) (h63 : k + m ≤ 9223372036854775807) (hbytes : (k + m) * bytes ≤ 140737488355328) :
    ∃ a' c' w', (Builtin.append_ #[t, t] ty #[.slice a k c, u]).run P w = .ok (.slice a' (k + m) c') w' ∧ Sat W w' g (owno e size (.slice a' (k + m) c') (k + m) (xs ++ news) :: H) := by
  obtain ⟨hl, _, _, e0, hkc, hcm, hnone⟩ := hs.olen
  simp only [Value.slice.injEq] at e0
  obtain ⟨rfl, -, rfl⟩ := e0
  obtain ⟨ht, ⟨i, hi, hz, hsz, hb⟩, hzs, hpos⟩ := he
  by_cases hm : m = 0
  · subst hm
    have hn0 : news = [] := List.eq_nil_of_length_eq_zero (by simpa using hrow.1)
    subst hn0
    refine ⟨a, c, w, ?_, by simpa using hs⟩
    rcases hrow.news with ⟨rfl, _, _⟩ | ⟨a', c', rfl, _, _⟩
    · cases a <;> simp [Builtin.append_, run_underlying ht, sizeOf, typeInfo, hi, Builtin.lenOf, hkc, Builtin.firstCells, storeCells]
    · cases a <;> simp [Builtin.append_, run_underlying ht, sizeOf, typeInfo, hi, Builtin.lenOf, hkc, Builtin.firstCells, loadCells, loadCellsFrom, storeCells]
  rcases hrow.news with ⟨_, h0, _⟩ | ⟨a', c', rfl, hnl, hnc⟩
  · exact absurd h0 hm
  have fin : ∀ v' w', w'.ownsRow w.heap.size e size v' (k + m) (xs ++ news) → w.grownBy w' none → ∃ a2 c2, v' = .slice a2 (k + m) c2 ∧ Sat W w' g (owno e size (.slice a2 (k + m) c2) (k + m) (xs ++ news) :: H) := by
    intro v' w' ho hg
    have hs2 := (hs.drop.newOwn ho ⟨hg.os, hg.tape, hg.output, hg.size, fun q hq => hg.block q hq (by simp)⟩)
    obtain ⟨a2, c2, rfl, _⟩ := hs2.ownLen
    exact ⟨a2, c2, rfl, hs2.slack.toO⟩
  cases ha : a with
  | none =>
    subst ha
    obtain ⟨rfl, rfl⟩ := hnone rfl
    obtain rfl : xs = [] := List.eq_nil_of_length_eq_zero (by simpa using hl)
    obtain ⟨v', w', hrun, r1, r2, _⟩ := run_append_own (P := P) w w.heap.size t ty e i z size bytes ht hi hz hsz hb hzs hpos (.slice none 0 0) 0 [] (World.ownsRow_nil w _ e size) a' m c' news hnl hnc h1 (by unfold maxLen; omega) hbytes (Nat.le_refl _)
    obtain ⟨a2, c2, rfl, h2⟩ := fin v' w' r1 r2
    exact ⟨a2, c2, w', hrun, h2⟩
  | some ad =>
    by_cases hroom : k + m ≤ c
    · -- in place
      obtain ⟨b, off, cur, e1, hcs, htk, _, _, ho⟩ := hs.oopen (by rw [ha]; simp)
      rw [ha] at e1
      simp only [Option.some.injEq] at e1
      subst e1
      subst hsz
      have hks : (k + m) * i.size ≤ c * i.size := Nat.mul_le_mul_right _ hroom
      rw [Nat.add_mul] at hks
      have hrun := run_append_room_cells (P := P) w t ty e i ht hi b off k c a' m c' news hnl hnc h1 hroom
        (fun j hj => by rw [ho.cell, List.getElem?_eq_getElem (by omega)]; rfl) (fun j _ => ho.free _)
      refine ⟨_, _, _, hrun, ?_⟩
      have ho2 := Sat.sets news w cur (off + k * i.size) ho
      refine ho2.oclose (by rw [spl_len]; omega) ?_ hroom hcm
      have hsplit : cur = (cur.take (off + k * i.size)) ++ ((cur.drop (off + k * i.size)).take news.length) ++ cur.drop (off + k * i.size + news.length) := by
        have h2 : cur.drop (off + k * i.size + news.length) = (cur.drop (off + k * i.size)).drop news.length := by rw [List.drop_drop]
        rw [List.append_assoc, h2, List.take_append_drop, List.take_append_drop]
      have hpl : (cur.take (off + k * i.size)).length = off + k * i.size := by rw [List.length_take]; omega
      have hsp : spl cur (off + k * i.size) news = cur.take (off + k * i.size) ++ news ++ cur.drop (off + k * i.size + news.length) := by
        have := spl_mid news (cur.take (off + k * i.size)) ((cur.drop (off + k * i.size)).take news.length) (cur.drop (off + k * i.size + news.length)) (by rw [List.length_take, List.length_drop]; omega)
        rw [hpl, ← hsplit] at this
        exact this
      rw [hsp, List.append_assoc, List.drop_append, hpl]
      have e2 : off - (off + k * i.size) = 0 := by omega
      rw [e2, List.drop_zero, List.drop_take]
      have e3 : off + k * i.size - off = k * i.size := by omega
      rw [e3, htk, ← List.append_assoc, List.take_append_of_le_length (by rw [List.length_append, hl, hnl, Nat.add_mul]; omega), List.take_of_length_le (by rw [List.length_append, hl, hnl, Nat.add_mul]; omega)]
    · subst ha
      have hc0 : ∀ j u, xs[j]? = some u → w.cell? (ad.add j) = some u := by
        rcases hs.orow.news with ⟨e, _⟩ | ⟨a, c, e, _, hc⟩
        · cases e
        · simp only [Value.slice.injEq, Option.some.injEq] at e
          obtain ⟨rfl, _⟩ := e
          exact hc
      obtain ⟨v', w', hrun, r1, r2⟩ := run_append_arg_grows (P := P) w t ty e i z size bytes ht hi hz hsz hb hzs hpos ad k c xs hl hc0 a' m c' news hnl hnc (by omega) (by unfold maxLen; omega) hbytes
      obtain ⟨a2, c2, rfl, h2⟩ := fin v' w' r1 r2
      exact ⟨a2, c2, w', hrun, h2⟩
theorem St.appo {s : Operand} {a : Option Addr} {k c m : Nat} {u : Value} {xs news : List Value} (he : ElemOf P t e z size bytes) (hs : Sat W w g (owno e size (.slice a k c) k xs :: H)) {D : Nat → Prop} (hrow : Row size w D u m news)
    (h : ∀ a' c' w', Sat W w' g (owno e size (.slice a' (k + m) c') (k + m) (xs ++ news) :: H) → N (pushv d (.slice a' (k + m) c') ρ) w') (h63 : k + m ≤ 9223372036854775807 := by omega) (hbytes : (k + m) * bytes ≤ 140737488355328 := by omega)
    (hx : evo n ρ s = some (.slice a k c) := by exact rfl) (hy : evo n ρ y = some u := by exact rfl) (h1 : ∀ x ∈ news, x.oneCell' = true := by first | exact bs_one _ | (intro u hu; simp only [List.mem_cons, List.not_mem_nil, or_false] at hu; rcases hu with rfl | rfl | rfl | rfl <;> exact rfl)) :
    St P n ops ⟨d, .call ⟨.builtin .append, #[s, y], #[t, t]⟩, ty, ps, af, none⟩ ρ w N Q := by
  obtain ⟨a', c', w', hr, hs'⟩ := run_appendo (P := P) (ty := ty) he hs hrow h1 h63 hbytes
  refine St.val (v := .slice a' (k + m) c') (w' := w') (fun ac ha => ?_) (h a' c' w' hs')
  simp only [execOp, resolve, invoke, builtin, Sem.run_bind, Sem.run_pure, Result.andThen_ok, List.map_toArray, List.map_cons, List.map_nil, ha.eval hx, ha.eval hy, hr]
/-- append onto such a row. -/
theorem E.appo {s : Operand} {a : Option Addr} {k c m : Nat} {u : Value} {xs news : List Value} (he : ElemOf P t e z size bytes) (hs : Sat W w g (owno e size (.slice a k c) k xs :: H)) {D : Nat → Prop} (hrow : Row size w D u m news)
    (h : ∀ a' c' w', Sat W w' g (owno e size (.slice a' (k + m) c') (k + m) (xs ++ news) :: H) → E P n ops rest (pushv d (.slice a' (k + m) c') ρ) w' Q) (h63 : k + m ≤ 9223372036854775807 := by omega) (hbytes : (k + m) * bytes ≤ 140737488355328 := by omega)
    (hx : evo n ρ s = some (.slice a k c) := by exact rfl) (hy : evo n ρ y = some u := by exact rfl) (h1 : ∀ x ∈ news, x.oneCell' = true := by first | exact bs_one _ | (intro u hu; simp only [List.mem_cons, List.not_mem_nil, or_false] at hu; rcases hu with rfl | rfl | rfl | rfl <;> exact rfl)) :
    E P n ops (⟨d, .call ⟨.builtin .append, #[s, y], #[t, t]⟩, ty, ps, af, none⟩ :: rest) ρ w Q := E.cons (St.appo he hs hrow h h63 hbytes hx hy h1)
end
end Go.Proofs.YtfhmamkafancbaaGreatDoor

/-
  slices.IndexFunc and slices.DeleteFunc over names, whatever is deleted.
-/
namespace Go.Proofs.YtfhmamkafancbaaGreatDoor
open Go.RowKit
set_option linter.unusedVariables false
set_option linter.unusedSimpArgs false
theorem el_strs : ElemOf Tryz.prog 76 9 (.string ⟨#[]⟩) 1 16 := .of Tryz.underlying76 (by kernel_rfl) rfl (by decide)
/-- What a function's value says of a name. -/
structure Says (fid : FuncId) (caps : List Value) (K : HP) (del : List UInt8 → Bool) : Prop where
  body : ∃ fn cd, Tryz.prog.funcs[fid]? = some fn ∧ fn.body = some cd ∧ (fn.name == "runtime.NumGoroutine") = false
  says : ∀ {R : Ending → World → Prop} {W w : World} {g : Hl} {H : List HP} {x : List UInt8}, x.length ≤ 1000000000 → Sat W w g (K :: H) → R (.returned (.bool (del x))) w → Calls Tryz.prog fid (str x :: caps).toArray w R
set_option maxHeartbeats 1600000 in
set_option maxRecDepth 100000 in
theorem index_gen {R : Ending → World → Prop} {W w : World} {g : Hl} {H : List HP} {n c : Nat} {a : Option Addr} {ls : List (List UInt8)} {fid : FuncId} {caps : List Value} {K : HP} {del : List UInt8 → Bool} (hd : Says fid caps K del) (hs : Sat W w g (own 9 1 (.slice a n c) n (ls.map str) :: K :: H)) (hn : ls.length = n) (hl : ∀ x ∈ ls, x.length ≤ 1000000000)
    (hN : (∀ x ∈ ls, del x = false) → ∀ w', Sat W w' g (own 9 1 (.slice a n c) n (ls.map str) :: K :: H) → R (.returned (.int .i64 (-1))) w')
    (hK : ∀ k (h : k < ls.length), (∀ x ∈ ls.take k, del x = false) → del ls[k] = true → ∀ w', Sat W w' g (own 9 1 (.slice a n c) n (ls.map str) :: K :: H) → R (.returned (.int .i64 k)) w') :
    Calls Tryz.prog 148 #[.slice a n c, .func (.func fid) #[] caps.toArray] w R := by
  have HN := Lib.hid hN
  have HK := Lib.hid hK
  clear hN hK
  obtain ⟨fn, cd, hf1, hf2, hf3⟩ := hd.body
  have hf2 := Lib.hid hf2
  obtain ⟨_, _, e0, hnc, hcm, _⟩ := hs.ownLen
  simp only [Value.slice.injEq] at e0
  obtain ⟨-, -, rfl⟩ := e0
  refine C.calls (args := [.slice a n c, .func (.func fid) #[] caps.toArray]) Tryz.func148 rfl rfl rfl ?_
  refine gob ?_
  refine C.cutQ (fun _ : Unit => []) (fun _ w => (∀ x ∈ ls, del x = false) ∧ Sat W w g (own 9 1 (.slice a n c) n (ls.map str) :: K :: H)) ?_ ?_
  · refine C.block ?_
    refine C.lp (fun i : Nat => [(0, .slice a n c), (1, .func (.func fid) #[] caps.toArray), (7, .int .i64 n), (8, .int .i64 i)]) (fun gk i w => gk = n - i ∧ i ≤ n ∧ (∀ x ∈ ls.take i, del x = false) ∧ Sat W w g (own 9 1 (.slice a n c) n (ls.map str) :: K :: H)) n 0 ⟨rfl, Nat.zero_le _, (fun x hx => by cases hx), hs⟩ ?_
    clear hs
    rintro gk i w1 ⟨rfl, hi, hall, hs⟩
    refine go ?_
    refine C.cond_dec (p := (i : Int) < n) rfl (fun hlt => ?_) (fun hlt => ?_)
    rotate_left
    · refine go ?_
      refine A.mt () ⟨fun x hx => hall x ?_, hs⟩
      rw [List.take_of_length_le (by omega)]
      exact hx
    · have hil : i < ls.length := by omega
      have h1 := hl ls[i] (List.getElem_mem hil)
      refine go ?_
      refine E.ixr el_strs (Row.of_owns (D := fun _ => True) hs.owns (fun _ _ => trivial)) i (v := str ls[i]) (by simp [hil]) ?_
      intro b2 o2 hc2
      refine go ?_
      refine E.callv hf1 rfl rfl (as' := str ls[i] :: caps) (by simp) ?_ (hb := hf2.out) (hnm := hf3)
      refine hd.says h1 hs.swap ?_
      cases hdl : del ls[i] with
      | false =>
        refine go ?_
        refine A.rd (n - (i + 1)) (i + 1) ⟨rfl, by omega, ?_, hs⟩
        intro x hx
        rw [List.take_add_one, List.getElem?_eq_getElem hil] at hx
        rcases List.mem_append.1 hx with h | h
        · exact hall x h
        · simp only [Option.toList_some, List.mem_singleton] at h
          rw [h]; exact hdl
      | true =>
        refine go ?_
        refine A.r1 ?_
        exact HK.out i hil hall hdl _ hs
  clear hs
  rintro _ w2 ⟨hall, hs⟩
  refine go ?_
  refine A.r1 ?_
  exact HN.out hall _ hs
section
variable {P : Program} {W w w' : World} {g g' : Hl} {H H' : List HP} {t e ty : TypeId} {z : Value} {size bytes : Nat} {n : Fm} {ρ : List (Nat × Value)} {Q : Exit → Act → World → Prop} {ops : Array Oper} {rest : List Oper} {d : Option Tmp} {ps : String} {af : Array Edge} {x y : Operand} {N : List (Nat × Value) → World → Prop}
/-- An own row, opened as a block; and closed with fewer elements. -/
theorem Sat.ownOpen {b k c : Nat} {xs : List Value} (hs : Sat W w g (own e size (.slice (some ⟨b, 0, none⟩) k c) k xs :: H)) : ∃ cur, cur.length = c * size ∧ cur.take (k * size) = xs ∧ k ≤ c ∧ c ≤ maxLen ∧ Sat W w g (blk b cur e :: H) := by
  obtain ⟨q1, q2, q3, h, ⟨x1, x2, d, ed, ⟨_, hp⟩, s⟩, dg, ag⟩ := hs
  rcases hp with ⟨e1, _⟩ | ⟨b', cap, cur, e1, h1, h2, hcs, htk, rfl⟩
  · cases e1
  · simp only [Value.slice.injEq, Option.some.injEq, Addr.mk.injEq] at e1
    obtain ⟨⟨rfl, -⟩, -, rfl⟩ := e1
    exact ⟨cur.toList, by simpa using hcs, htk, h1, h2, q1, q2, q3, h, ⟨_, x2, d, ed, by simp [blk, obj], s⟩, dg, ag⟩
theorem Sat.ownClose {b k c : Nat} {cur : List Value} (hs : Sat W w g (blk b cur e :: H)) (hl : cur.length = c * size) (hk : k ≤ c) (hc : c ≤ maxLen) : Sat W w g (own e size (.slice (some ⟨b, 0, none⟩) k c) k (cur.take (k * size)) :: H) := hs.conv fun h he => ⟨by
  have := Nat.mul_le_mul_right size hk
  rw [List.length_take]; omega, .inr ⟨b, c, cur.toArray, rfl, hk, hc, by simpa using hl, by simp, he⟩⟩
/-- clear(s[k:]) behind an own row's elements. -/
theorem E.clr {b k c m c' : Nat} {xs : List Value} (he : ElemOf P t e z size bytes) (hs : Sat W w g (own e size (.slice (some ⟨b, 0, none⟩) k c) k xs :: H)) (hm : k + m ≤ c) (hzc : ∀ u ∈ z.cells.toList, u.oneCell' = true)
    (h : ∀ w', Sat W w' g (own e size (.slice (some ⟨b, 0, none⟩) k c) k xs :: H) → E P n ops rest (pushv d (.tuple #[]) ρ) w' Q) (hx : evo n ρ x = some (.slice (some ⟨b, k * size, none⟩) m c')) :
    E P n ops (⟨d, .call ⟨.builtin .clear, #[x], #[t]⟩, ty, ps, af, none⟩ :: rest) ρ w Q := by
  obtain ⟨w', hr, h2, h3⟩ := run_clear_tail (P := P) he ty hs.owns (m := m) (c := c') hm hzc
  refine E.cons (St.val (v := .tuple #[]) (w' := w') (fun ac ha => ?_) (h w' (hs.turn h2 h3 (.inl rfl))))
  simp only [execOp, resolve, invoke, builtin, Sem.run_bind, Sem.run_pure, Result.andThen_ok, List.map_toArray, List.map_cons, List.map_nil, ha.eval hx, hr]
end
theorem filter_none {p : List UInt8 → Bool} {ls : List (List UInt8)} (h : ∀ x ∈ ls, p x = false) : ls.filter (fun x => !p x) = ls := by
  rw [List.filter_eq_self]
  intro x hx
  simp [h x hx]
set_option maxHeartbeats 3200000 in
set_option maxRecDepth 100000 in
theorem delete_gen {R : Ending → World → Prop} {W w : World} {g : Hl} {H : List HP} {n c : Nat} {a : Option Addr} {ls : List (List UInt8)} {fid : FuncId} {caps : List Value} {K : HP} {del : List UInt8 → Bool} (hd : Says fid caps K del) (hs : Sat W w g (own 9 1 (.slice a n c) n (ls.map str) :: K :: H)) (hn : ls.length = n) (hl : ∀ x ∈ ls, x.length ≤ 1000000000)
    (hR : ∀ k a' c' w' g', k = (ls.filter (fun x => !del x)).length → Hl.le g g' → Pr 1 g' (.slice a' k c') k ((ls.filter (fun x => !del x)).map str) → Sat W w' g' (K :: H) → R (.returned (.slice a' k c')) w') :
    Calls Tryz.prog 83 #[.slice a n c, .func (.func fid) #[] caps.toArray] w R := by
  have HR := Lib.hid hR
  clear hR
  obtain ⟨fn, cd, hf1, hf2, hf3⟩ := hd.body
  have hf2 := Lib.hid hf2
  obtain ⟨_, _, e0, hnc, hcm, _⟩ := hs.ownLen
  simp only [Value.slice.injEq] at e0
  obtain ⟨-, -, rfl⟩ := e0
  refine C.calls (args := [.slice a n c, .func (.func fid) #[] caps.toArray]) Tryz.func83 rfl rfl rfl ?_
  refine go ?_
  refine E.callf Tryz.func148 rfl ?_
  refine index_gen hd hs hn hl ?_ ?_
  · intro hall w1 hs
    refine go ?_
    refine A.r1 ?_
    obtain ⟨g', hg', hp, hs⟩ := hs.publishOwn
    refine HR.out n a c _ g' (by rw [filter_none hall, hn]) hg' (by rw [filter_none hall]; exact hp) hs
  intro i hil hall hdl w1 hs
  have hne : decide ((i : Int) = -1) = false := decide_eq_false (by omega)
  refine gob ?_
  obtain ⟨b, rfl⟩ : ∃ b, a = some ⟨b, 0, none⟩ := hs.ownAt (by omega)
  obtain ⟨cur, hcl, htk, -, hcm2, hs⟩ := hs.ownOpen
  rw [Nat.mul_one] at hcl htk
  have hdn := Lib.hid hd
  refine C.cutQ (fun q : Nat => [(0, .slice (some ⟨b, 0, none⟩) n c), (5, .int .i64 q)]) (fun q w => ∃ cur, cur.length = c ∧ q < n ∧ cur.take q = (ls.filter fun x => !del x).map str ∧ q = (ls.filter fun x => !del x).length ∧ Sat W w g (blk b cur 9 :: K :: H)) ?_ ?_
  · refine C.block ?_
    refine C.lp (fun q : Nat × Nat => [(0, .slice (some ⟨b, 0, none⟩) n c), (1, .func (.func fid) #[] caps.toArray), (5, .int .i64 q.1), (6, .int .i64 q.2)])
      (fun gk q w => gk = n - q.2 ∧ q.1 < q.2 ∧ q.2 ≤ n ∧ ∃ cur, cur.length = c ∧ cur.take q.1 = ((ls.take q.2).filter fun x => !del x).map str ∧ q.1 = ((ls.take q.2).filter fun x => !del x).length ∧ (∀ j, q.2 ≤ j → (h : j < ls.length) → cur[j]? = some (str ls[j])) ∧ Sat W w g (blk b cur 9 :: K :: H)) (n - (i + 1)) (i, i + 1) ⟨rfl, by simp only; omega, by simp only; omega, cur, hcl, ?_, ?_, ?_, hs⟩ ?_
    · rw [List.take_add_one, List.getElem?_eq_getElem hil]
      simp only [Option.toList_some, List.filter_append, filter_none hall, List.filter_cons, hdl, Bool.not_true, Bool.false_eq_true, if_false, List.filter_nil, List.append_nil]
      have := congrArg (List.take i) htk
      rw [List.take_take, Nat.min_eq_left (by omega), ← List.map_take] at this
      exact this
    · rw [List.take_add_one, List.getElem?_eq_getElem hil]
      simp only [Option.toList_some, List.filter_append, filter_none hall, List.filter_cons, hdl, Bool.not_true, Bool.false_eq_true, if_false, List.filter_nil, List.append_nil, List.length_take]
      omega
    · intro j hj hjl
      have : (cur.take n)[j]? = some (str ls[j]) := by rw [htk, List.getElem?_map, List.getElem?_eq_getElem hjl]; rfl
      rwa [List.getElem?_take, if_pos (by omega)] at this
    clear hs htk hcl cur
    rintro gk ⟨i2, j⟩ w2 ⟨rfl, hij, hj, cur, hcl, htk, hi2, hrest, hs⟩
    simp only at hij hj htk hi2 hrest ⊢
    have hi3 := hi2
    have Hi2 := Lib.hid hi2
    clear hi2 hi3
    refine go ?_
    refine C.cond_dec (p := (j : Int) < n) rfl (fun hlt => ?_) (fun hlt => ?_)
    rotate_left
    · refine go ?_
      have e : ls.take j = ls := List.take_of_length_le (by omega)
      rw [e] at htk Hi2
      exact A.mt i2 ⟨cur, hcl, by omega, htk, Hi2.out, hs⟩
    have hjl : j < ls.length := by omega
    have h1 := hl ls[j] (List.getElem_mem hjl)
    have hr1 := hrest j (Nat.le_refl _) hjl
    refine go ?_
    refine E.ld hs ?_ (hj := hr1)
    refine go ?_
    refine E.callv hf1 rfl rfl (as' := str ls[j] :: caps) (by simp) ?_ (hb := hf2.out) (hnm := hf3)
    refine hdn.out.says h1 hs.swap ?_
    have hsucc : ls.take (j + 1) = ls.take j ++ [ls[j]] := by
      rw [List.take_add_one, List.getElem?_eq_getElem hjl]; rfl
    cases hd2 : del ls[j] with
    | true =>
      refine go ?_
      refine A.rd (n - (j + 1)) (i2, j + 1) ⟨rfl, by simp only; omega, by simp only; omega, cur, hcl, ?_, ?_, fun k hk hkl => hrest k (by simp only at hk; omega) hkl, hs⟩
      · simp only [hsucc, List.filter_append, List.filter_cons, hd2, Bool.not_true, Bool.false_eq_true, if_false, List.filter_nil, List.append_nil]
        exact htk
      · simp only [hsucc, List.filter_append, List.filter_cons, hd2, Bool.not_true, Bool.false_eq_true, if_false, List.filter_nil, List.append_nil]
        exact Hi2.out
    | false =>
      have hi2n : i2 < n := by omega
      refine go ?_
      refine E.sto (b := b) (j := i2) (v := str ls[j]) (vs := [str ls[j]]) (ys := cur.set i2 (str ls[j])) hs ?_ (hv := rfl) (hsp := rfl) (hj := by simp only [List.length_singleton, Nat.ble_eq]; omega)
      intro w3 hs
      refine go ?_
      refine A.rd (n - (j + 1)) (i2 + 1, j + 1) ⟨rfl, by simp only; omega, by simp only; omega, cur.set i2 (str ls[j]), by rw [List.length_set]; exact hcl, ?_, ?_, fun k hk hkl => ?_, hs⟩
      · simp only [hsucc, List.filter_append, List.filter_cons, hd2, Bool.not_false, if_true, List.filter_nil, List.map_append, List.map_cons, List.map_nil]
        rw [List.take_add_one, List.getElem?_set_self (by omega), List.take_set_of_le (Nat.le_refl _), htk]
        rfl
      · simp only [hsucc, List.filter_append, List.filter_cons, hd2, Bool.not_false, if_true, List.filter_nil, List.length_append, List.length_singleton]
        have := Hi2.out
        omega
      · simp only at hk
        rw [List.getElem?_set_ne (by omega)]
        exact hrest k (by omega) hkl
  clear hs htk hcl cur
  rintro q w4 ⟨cur, hcl, hq, htk, hql, hs⟩
  have hs := hs.ownClose (size := 1) (k := q) (c := c) (by omega) (by omega) hcm2
  rw [Nat.mul_one, htk] at hs
  have Hql := Lib.hid hql
  clear hql htk
  have hr := fun w => run_slice_any (P := Tryz.prog) (a := some ⟨b, 0, none⟩) (vl := some (.int .i64 q)) (vh := none) (vm := none) (l := q) (h := n) (m := c) el_strs (.inr ⟨_, _, rfl, rfl⟩) (.inl ⟨rfl, rfl⟩) (.inl ⟨rfl, rfl⟩) hnc (by omega) hnc (Nat.le_refl _) (fun _ => hnc) w
  rw [if_neg (by omega)] at hr
  have hr2 := fun w => run_slice_any (P := Tryz.prog) (a := some ⟨b, 0, none⟩) (vl := none) (vh := some (.int .i64 q)) (vm := none) (l := 0) (h := q) (m := c) el_strs (.inl ⟨rfl, rfl⟩) (.inr ⟨_, _, rfl, rfl⟩) (.inl ⟨rfl, rfl⟩) hnc (by omega) (by omega) (Nat.le_refl _) (fun h => by cases h) w
  refine go ?_
  refine E.pv (v := .slice (some ⟨b, q * 1, none⟩) (n - q) (c - q)) (Pv.slice (l := some (.int .i64 q)) (h := none) (m := none) rfl rfl rfl rfl (fun w => by rw [hr w]; simp [Addr.add]; omega)) ?_
  refine E.clr el_strs hs (m := n - q) (by omega) (by simp [Value.cells, Value.oneCell']) ?_ rfl
  intro w5 hs
  refine go ?_
  refine E.pv (v := .slice (some ⟨b, 0, none⟩) q c) (Pv.slice (l := none) (h := some (.int .i64 q)) (m := none) rfl rfl rfl rfl (fun w => by
    rw [hr2 w]
    simp only [Nat.sub_zero, Nat.zero_mul]
    split <;> simp [Addr.add] <;> omega)) ?_
  refine go ?_
  refine A.r1 ?_
  obtain ⟨g', hg', hp, hs⟩ := hs.publishOwn
  exact HR.out q _ c _ g' Hql.out hg' hp hs
end Go.Proofs.YtfhmamkafancbaaGreatDoor

/-
  A map that a call owns, as the kit's maps read it; names, rising.
-/
namespace Go.Proofs.YtfhmamkafancbaaGreatDoor
open Go.RowKit Go.Maps Go.Sort Go.WideElems Go.ChangeShapes Go.WideShapes Go.MapKept Go.ChangeMaps
set_option linter.unusedVariables false
set_option linter.unusedSimpArgs false
/-- A string's bytes. -/
def bytesOf : Value → List UInt8
  | .string s => s.data.toList
  | _ => []
theorem bytesOf_str (l : List UInt8) : bytesOf (str l) = l := by simp [bytesOf, str]
theorem mp_owns {P : Program} {k : TypeId} {W w : World} {g : Hl} {H : List HP} {mb : Nat} {l : List (List UInt8 × Value)} (hkt : P.underlying k = some .string) (hs : Sat W w g (mp str mb l :: H)) (hn : (l.map Prod.fst).Nodup) (hlen : l.length ≤ maxLen) (hk : ∀ p ∈ l, p.1.length ≤ maxLen) :
    ∃ D : DataW Unit, w.ownsMap P k (fun _ => some (.nil, [])) mb l.length D ∧ (strKeys D).Perm (l.map Prod.fst) ∧ Maps.size D = l.length := by
  obtain ⟨es, clock, he, ho⟩ := mp_open hs
  have hb := ho.heap
  have hes : es.size = l.length := by
    have := congrArg List.length he.1
    simpa using this
  have hkey : ∀ x ∈ es.toList, ∃ p ∈ l, x.key = str p.1 := by
    intro x hx
    have h1 : entOf x ∈ es.toList.map entOf := List.mem_map_of_mem hx
    rw [he.1] at h1
    obtain ⟨p, hp, e⟩ := List.mem_map.1 h1
    exact ⟨p, hp, by have := congrArg Prod.fst e; simpa [entOf] using this.symm⟩
  have hrd : ∀ x ∈ es.toList, WideElems.rd (H := Unit) P k (fun _ => some (.nil, [])) x = some (.string (bytesOf x.key), .nil) := by
    intro x hx
    obtain ⟨p, hp, e⟩ := hkey x hx
    have h1 := hk p hp
    simp [WideElems.rd, e, str, keyOf, hkt, mapKey, ByteArray.size, bytesOf, h1]
  have hkeys : es.toList.map (fun x => bytesOf x.key) = l.map Prod.fst := by
    have h1 := congrArg (List.map fun q : Value × Value => bytesOf q.1) he.1
    rw [List.map_map, List.map_map] at h1
    have e1 : ((fun q : Value × Value => bytesOf q.1) ∘ entOf) = fun x : MapEntry => bytesOf x.key := rfl
    have e2 : ((fun q : Value × Value => bytesOf q.1) ∘ fun p : List UInt8 × Value => (str p.1, p.2)) = Prod.fst := by
      funext p
      exact bytesOf_str p.1
    rw [e1, e2] at h1
    exact h1
  have hst : Stamped es clock := by
    refine ⟨he.2.1, he.2.2, ?_⟩
    have h2 : ((es.toList.map (·.key)).map bytesOf).Nodup := by
      rw [List.map_map]
      have : (bytesOf ∘ fun x : MapEntry => x.key) = fun x => bytesOf x.key := rfl
      rw [this, hkeys]
      exact hn
    exact List.Pairwise.of_map bytesOf (fun a b hab e => hab (by rw [e])) h2
  refine ⟨_, ⟨es, clock, hb, ⟨by omega, hst, fun x hx => ⟨_, hrd x hx⟩⟩, by omega, rfl⟩, ?_, ?_⟩
  · have h3 := sorted_perm (es.toList.map (WideElems.rg (H := Unit) P k (fun _ => some (.nil, []))))
    have h4 := h3.map (fun p => strOf p.1)
    have h5 : (es.toList.map (WideElems.rg (H := Unit) P k (fun _ => some (.nil, [])))).map (fun p => strOf p.1) = l.map Prod.fst := by
      rw [List.map_map, ← hkeys]
      apply List.map_congr_left
      intro x hx
      simp [WideElems.rg, hrd x hx, strOf]
    rw [h5] at h4
    exact h4
  · have h3 := (sorted_perm (es.toList.map (WideElems.rg (H := Unit) P k (fun _ => some (.nil, []))))).length_eq
    simp only [Maps.size, h3, List.length_map, Array.length_toList, hes]
/-- Names, rising. -/
def rising (l : List (List UInt8)) : List (List UInt8) := l.mergeSort fun x y => decide (x ≤ y)
theorem rising_perm (l : List (List UInt8)) : (rising l).Perm l := List.mergeSort_perm _ _
end Go.Proofs.YtfhmamkafancbaaGreatDoor

/-
  The kit's contracts on slices.Sorted(maps.Keys(m)), laid by lay.py at this seat (numbers are the seat's).
-/
namespace Go.Proofs.YtfhmamkafancbaaGreatDoor
open Go.RowKit Go.Maps Go.Sort Go.Shelf
-- maps.Keys[map[string]*anabranch/disk.file,string,*anabranch/disk.file] (function 150; its iterator 201) · slices.Sorted[string] (149) · slices.Sort[[]string,string] (200) · the map's type 95, the keys' 9
def Tryz.keys150_ren : Go.Shelf.Ren := ⟨fun | 7 => 150 | 10 => 201 | n => n, fun | 23 => 95 | 26 => 9 | 3 => 130 | 28 => 198 | 0 => 0 | 27 => 197 | 33 => 137 | 4 => 4 | n => n, fun | n => n⟩
theorem Tryz.keys150 : Go.Proofs.SlLaysZ.n7 Tryz.prog Tryz.keys150_ren := {
  mixed := by kernel_rfl
  f7 := ⟨"maps.Keys[map[string]*anabranch/disk.file,string,*anabranch/disk.file]", by decide, Tryz.func150.trans (congrArg some (by kernel_rfl))⟩
  f10 := ⟨"maps.Keys[map[string]*anabranch/disk.file,string,*anabranch/disk.file]$1", by decide, Tryz.func201.trans (congrArg some (by kernel_rfl))⟩
  t0 := Tryz.underlying0
  a0 := Tryz.isAgg0
  z0 := Tryz.sizeOf0
  v0 := Tryz.zeroValue0
  t4 := Tryz.underlying4
  a4 := Tryz.isAgg4
  z4 := Tryz.sizeOf4
  v4 := Tryz.zeroValue4
  t23 := Tryz.underlying95
  a23 := Tryz.isAgg95
  z23 := Tryz.sizeOf95
  v23 := Tryz.zeroValue95
  t26 := Tryz.underlying9
  a26 := Tryz.isAgg9
  z26 := Tryz.sizeOf9
  v26 := Tryz.zeroValue9
  t27 := Tryz.underlying197
  a27 := Tryz.isAgg197
  z27 := Tryz.sizeOf197
  v27 := Tryz.zeroValue197
  t28 := Tryz.underlying198
  a28 := Tryz.isAgg198
  z28 := Tryz.sizeOf198
  v28 := Tryz.zeroValue198
  t33 := Tryz.underlying137
  a33 := Tryz.isAgg137
  z33 := Tryz.sizeOf137
  v33 := Tryz.zeroValue137 }
def Tryz.sorted149_ren : Go.Shelf.Ren := ⟨fun | 6 => 149 | 8 => 199 | 9 => 200 | 11 => 233 | 13 => 235 | 12 => 234 | 23 => 266 | 24 => 253 | 14 => 257 | 15 => 258 | 16 => 259 | 17 => 260 | 18 => 261 | 19 => 262 | 20 => 263 | 21 => 264 | 22 => 265 | 25 => 277 | 26 => 278 | 27 => 279 | 28 => 280 | 29 => 281 | 30 => 282 | 31 => 288 | n => n, fun | 26 => 9 | 28 => 198 | 24 => 76 | 0 => 0 | 3 => 3 | 37 => 223 | 48 => 287 | 50 => 22 | 4 => 4 | 40 => 315 | 39 => 314 | 45 => 169 | 5 => 5 | 9 => 9 | 51 => 331 | 55 => 334 | 57 => 339 | 58 => 67 | 33 => 137 | n => n, fun | n => n⟩
theorem Tryz.sorted149 : Go.Proofs.SlLaysZ.n6 Tryz.prog Tryz.sorted149_ren := {
  mixed := by kernel_rfl
  f6 := ⟨"slices.Sorted[string]", by decide, Tryz.func149.trans (congrArg some (by kernel_rfl))⟩
  f8 := ⟨"slices.Collect[string]", by decide, Tryz.func199.trans (congrArg some (by kernel_rfl))⟩
  f11 := ⟨"slices.AppendSeq[[]string,string]", by decide, Tryz.func233.trans (congrArg some (by kernel_rfl))⟩
  t0 := Tryz.underlying0
  a0 := Tryz.isAgg0
  z0 := Tryz.sizeOf0
  v0 := Tryz.zeroValue0
  t24 := Tryz.underlying76
  a24 := Tryz.isAgg76
  z24 := Tryz.sizeOf76
  v24 := Tryz.zeroValue76
  t26 := Tryz.underlying9
  a26 := Tryz.isAgg9
  z26 := Tryz.sizeOf9
  v26 := Tryz.zeroValue9
  t28 := Tryz.underlying198
  a28 := Tryz.isAgg198
  z28 := Tryz.sizeOf198
  v28 := Tryz.zeroValue198
  i26 := by kernel_rfl }
def Tryz.sort200_ren : Go.Shelf.Ren := ⟨fun | 6 => 200 | 8 => 235 | 9 => 234 | 19 => 266 | 20 => 253 | 21 => 257 | 22 => 258 | 23 => 259 | 24 => 260 | 25 => 261 | 26 => 262 | 27 => 263 | 28 => 264 | 29 => 265 | 36 => 277 | 31 => 278 | 32 => 279 | 37 => 280 | 38 => 281 | 39 => 282 | 41 => 288 | n => n, fun | 27 => 76 | 29 => 9 | 3 => 3 | 32 => 223 | 26 => 76 | 0 => 0 | 44 => 287 | 46 => 22 | 4 => 4 | 36 => 315 | 35 => 314 | 41 => 169 | 5 => 5 | 9 => 9 | 53 => 331 | 57 => 334 | 63 => 339 | 64 => 67 | n => n, fun | n => n⟩
theorem Tryz.sort200 : Go.Proofs.SlLaysM.n6 Tryz.prog Tryz.sort200_ren := {
  mixed := by kernel_rfl
  f6 := ⟨"slices.Sort[[]string,string]", by decide, Tryz.func200.trans (congrArg some (by kernel_rfl))⟩
  f8 := Tryz.func235.trans (congrArg some (by kernel_rfl))
  f9 := ⟨"slices.pdqsortOrdered[string]", by decide, Tryz.func234.trans (congrArg some (by kernel_rfl))⟩
  f19 := Tryz.func266.trans (congrArg some (by kernel_rfl))
  f20 := Tryz.func253.trans (congrArg some (by kernel_rfl))
  f21 := ⟨"slices.insertionSortOrdered[string]", by decide, Tryz.func257.trans (congrArg some (by kernel_rfl))⟩
  f22 := ⟨"slices.heapSortOrdered[string]", by decide, Tryz.func258.trans (congrArg some (by kernel_rfl))⟩
  f23 := ⟨"slices.breakPatternsOrdered[string]", by decide, Tryz.func259.trans (congrArg some (by kernel_rfl))⟩
  f24 := ⟨"slices.choosePivotOrdered[string]", by decide, Tryz.func260.trans (congrArg some (by kernel_rfl))⟩
  f25 := ⟨"slices.reverseRangeOrdered[string]", by decide, Tryz.func261.trans (congrArg some (by kernel_rfl))⟩
  f26 := ⟨"slices.partialInsertionSortOrdered[string]", by decide, Tryz.func262.trans (congrArg some (by kernel_rfl))⟩
  f27 := ⟨"cmp.Less[string]", by decide, Tryz.func263.trans (congrArg some (by kernel_rfl))⟩
  f28 := ⟨"slices.partitionEqualOrdered[string]", by decide, Tryz.func264.trans (congrArg some (by kernel_rfl))⟩
  f29 := ⟨"slices.partitionOrdered[string]", by decide, Tryz.func265.trans (congrArg some (by kernel_rfl))⟩
  f31 := Tryz.func278.trans (congrArg some (by kernel_rfl))
  f32 := Tryz.func279.trans (congrArg some (by kernel_rfl))
  f36 := ⟨"slices.siftDownOrdered[string]", by decide, Tryz.func277.trans (congrArg some (by kernel_rfl))⟩
  f37 := ⟨"slices.medianAdjacentOrdered[string]", by decide, Tryz.func280.trans (congrArg some (by kernel_rfl))⟩
  f38 := ⟨"slices.medianOrdered[string]", by decide, Tryz.func281.trans (congrArg some (by kernel_rfl))⟩
  f39 := ⟨"cmp.isNaN[string]", by decide, Tryz.func282.trans (congrArg some (by kernel_rfl))⟩
  f41 := ⟨"slices.order2Ordered[string]", by decide, Tryz.func288.trans (congrArg some (by kernel_rfl))⟩
  t0 := Tryz.underlying0
  a0 := Tryz.isAgg0
  z0 := Tryz.sizeOf0
  v0 := Tryz.zeroValue0
  t3 := Tryz.underlying3
  a3 := Tryz.isAgg3
  z3 := Tryz.sizeOf3
  v3 := Tryz.zeroValue3
  t4 := Tryz.underlying4
  a4 := Tryz.isAgg4
  z4 := Tryz.sizeOf4
  v4 := Tryz.zeroValue4
  t5 := Tryz.underlying5
  a5 := Tryz.isAgg5
  z5 := Tryz.sizeOf5
  v5 := Tryz.zeroValue5
  t9 := Tryz.underlying9
  a9 := Tryz.isAgg9
  z9 := Tryz.sizeOf9
  v9 := Tryz.zeroValue9
  t26 := Tryz.underlying76
  a26 := Tryz.isAgg76
  z26 := Tryz.sizeOf76
  v26 := Tryz.zeroValue76
  t27 := Tryz.underlying76
  a27 := Tryz.isAgg76
  z27 := Tryz.sizeOf76
  v27 := Tryz.zeroValue76
  t29 := Tryz.underlying9
  a29 := Tryz.isAgg9
  z29 := Tryz.sizeOf9
  v29 := Tryz.zeroValue9
  t32 := Tryz.underlying223
  a32 := Tryz.isAgg223
  z32 := Tryz.sizeOf223
  v32 := Tryz.zeroValue223
  t35 := Tryz.underlying314
  a35 := Tryz.isAgg314
  z35 := Tryz.sizeOf314
  v35 := Tryz.zeroValue314
  t36 := Tryz.underlying315
  a36 := Tryz.isAgg315
  z36 := Tryz.sizeOf315
  v36 := Tryz.zeroValue315
  t41 := Tryz.underlying169
  a41 := Tryz.isAgg169
  z41 := Tryz.sizeOf169
  v41 := Tryz.zeroValue169
  t44 := Tryz.underlying287
  a44 := Tryz.isAgg287
  z44 := Tryz.sizeOf287
  v44 := Tryz.zeroValue287
  t46 := Tryz.underlying22
  a46 := Tryz.isAgg22
  z46 := Tryz.sizeOf22
  v46 := Tryz.zeroValue22
  t53 := Tryz.underlying331
  a53 := Tryz.isAgg331
  z53 := Tryz.sizeOf331
  v53 := Tryz.zeroValue331
  t57 := Tryz.underlying334
  a57 := Tryz.isAgg334
  z57 := Tryz.sizeOf334
  v57 := Tryz.zeroValue334
  t63 := Tryz.underlying339
  a63 := Tryz.isAgg339
  z63 := Tryz.sizeOf339
  v63 := Tryz.zeroValue339
  t64 := Tryz.underlying67
  a64 := Tryz.isAgg67
  z64 := Tryz.sizeOf67
  v64 := Tryz.zeroValue67 }
/-- slices.Sort's two contracts at this dump, at the fence that asks nothing. -/
theorem Tryz.sorts149 (m : Nat) : AnyZ.SortsIn Tryz.prog Tryz.sorted149_ren Fence.wide m :=
  ⟨fun blk off cap ss W hH hblk hsz => callsIn_wide.2 (AnyM.slices_Sort_string Tryz.sort200 blk off cap ss W hH hblk hsz),
   fun p cap W => callsIn_wide.2 (AnyM.slices_Sort_string_none Tryz.sort200 p cap W)⟩
/-- **maps.Keys[map[string]*anabranch/disk.file,string,*anabranch/disk.file], at whatever map, the nil one too:** a function value over ONE NEW BLOCK, which holds the map. -/
theorem Tryz.maps_Keys_150 (mb : Option Nat) (W : World) : CallsIn Fence.wide 5 Tryz.prog 150 #[.map mb] W fun e w' => e = .returned (.func (.func 201) #[] #[.pointer (some ⟨W.heap.size, 0, none⟩)]) ∧ w' = W.alloc (.cells #[.map mb] 95) :=
  AnyZ.keys_in Tryz.keys150 Fence.wide 5 trivial rfl mb W
set_option maxHeartbeats 1000000 in
/-- **slices.Sorted[string] AT WHAT maps.Keys[map[string]*anabranch/disk.file,string,*anabranch/disk.file] HANDED BACK FOR A MAP THAT IS NOT nil** ('w': the world AHEAD of maps.Keys' call): A NEW SLICE THAT HOLDS THE MAP's KEYS, SORTED; nil just where it has none; nothing that lay before has turned. -/
theorem Tryz.slices_Sorted_keys_149_150 {H : Type} (b nn : Nat) (D0 : DataW H) (R : Value → Option (DataW H × List MemPlace)) (w : World) (hown : w.ownsMap Tryz.prog 9 R b nn D0) (hmax : Maps.size D0 ≤ maxLen) (hbytes : Maps.size D0 * 16 ≤ 140737488355328) :
    CallsIn Fence.wide 5 Tryz.prog 149 #[.func (.func 201) #[] #[.pointer (some ⟨w.heap.size, 0, none⟩)]] (w.alloc (.cells #[.map (some b)] 95)) fun e w' => ∃ (v : Value) (ss : List (List UInt8)), e = .returned v ∧ ss.Perm (strKeys D0) ∧
      w'.ownsRow (w.alloc (.cells #[.map (some b)] 95)).heap.size 9 1 v ss.length ((ss.mergeSort (fun x y => decide (x ≤ y))).map encStr) ∧ (v = .slice none 0 0 ↔ ss = []) ∧ Below (w.alloc (.cells #[.map (some b)] 95)).heap.size (w.alloc (.cells #[.map (some b)] 95)) w' := by
  have hbl := hown.lt
  have hseq : SeqGives Fence.wide 2 Tryz.prog 201 #[.pointer (some ⟨w.heap.size, 0, none⟩)] encStr (fun ss => ss.Perm (strKeys D0)) (Maps.size D0) (w.alloc (.cells #[.map (some b)] 95)) :=
    AnyZ.keys_gives (ρ := Tryz.keys150_ren) { Tryz.keys150 with } Fence.wide _ trivial rfl (by omega) w.heap.size b nn D0 _ (by simp) (by simp) (by
      obtain ⟨es, clock, hb, Ft, hs, hD⟩ := hown
      exact ⟨es, clock, (Below.heap_alloc _ _ b hbl).trans hb, Ft, hs, hD⟩)
  exact AnyZ.sorted_in Tryz.sorted149 Fence.wide 5 trivial trivial trivial trivial rfl (by omega) (Tryz.sorts149 _) (enters_of Tryz.func200 (by kernel_rfl) rfl) 201 #[.pointer (some ⟨w.heap.size, 0, none⟩)] trivial (enters_of Tryz.func201 (by kernel_rfl) rfl) _ _ hmax hbytes _ hseq
-- maps.Keys[map[string]anabranch/api.Cell,string,anabranch/api.Cell] (function 176; its iterator 220) · slices.Sorted[string] (149) · slices.Sort[[]string,string] (200) · the map's type 173, the keys' 9
end Go.Proofs.YtfhmamkafancbaaGreatDoor

/-
  Layer 4 (disk): Names: those that begin so, rising.
-/
namespace Go.Proofs.YtfhmamkafancbaaGreatDoor
open Go.RowKit Go.Maps Go.Sort
set_option linter.unusedVariables false
set_option linter.unusedSimpArgs false
/-- Does a name begin so. -/
def hasP (p x : List UInt8) : Bool := decide (p.length ≤ x.length ∧ x.take p.length = p)
/-- The names of a disk that begin so, rising. -/
def Dk.names (d : Dk) (p : List UInt8) : List (List UInt8) := if d.off then [] else (rising (d.fs.map Prod.fst)).filter (hasP p)
set_option maxRecDepth 100000 in
theorem dkeys_call {R : Ending → World → Prop} {w : World} {mb : Nat} (hR : R (.returned (.func (.func 201) #[] #[.pointer (some ⟨w.heap.size, 0, none⟩)])) (w.alloc (.cells #[.map (some mb)] 95))) :
    Calls Tryz.prog 150 #[.map (some mb)] w R := by
  refine (callsIn_wide.1 (Tryz.maps_Keys_150 (some mb) w)).mono ?_
  rintro e w' ⟨rfl, rfl⟩
  exact hR
set_option maxRecDepth 100000 in
theorem dsorted_call {R : Ending → World → Prop} {W w : World} {g : Hl} {H : List HP} {mb : Nat} {l : List (List UInt8 × Value)} (hs : Sat W w g (mp str mb l :: H)) (hn : (l.map Prod.fst).Nodup) (hlen : l.length ≤ 1000000000) (hk : ∀ p ∈ l, p.1.length ≤ maxLen)
    (hR : ∀ a c w', Sat W w' g (own 9 1 (.slice a l.length c) l.length ((rising (l.map Prod.fst)).map str) :: mp str mb l :: H) → R (.returned (.slice a l.length c)) w') :
    Calls Tryz.prog 149 #[.func (.func 201) #[] #[.pointer (some ⟨w.heap.size, 0, none⟩)]] (w.alloc (.cells #[.map (some mb)] 95)) R := by
  obtain ⟨D, hown, hp, hsz⟩ := mp_owns (P := Tryz.prog) Tryz.underlying9 hs hn (by unfold maxLen; omega) hk
  refine (callsIn_wide.1 (Tryz.slices_Sorted_keys_149_150 mb l.length D _ w hown (by unfold maxLen; omega) (by omega))).mono ?_
  rintro e w' ⟨v, ss, rfl, hss, hrow, hnil, hb⟩
  have hpm := hss.trans hp
  have hsl : ss.length = l.length := by have := hpm.length_eq; simpa using this
  have hms : ss.mergeSort (fun x y => decide (x ≤ y)) = rising (l.map Prod.fst) := mergeSort_of_perm hpm
  rw [hms, hsl] at hrow
  have hs2 := (hs.garbage (.cells #[.map (some mb)] 95)).newOwn hrow hb
  obtain ⟨a, c, rfl, _⟩ := hs2.ownLen
  exact hR a c w' hs2
set_option maxHeartbeats 1600000 in
set_option maxRecDepth 100000 in
theorem names_says {bb : Nat} {p : List UInt8} (hpl : p.length ≤ 1000000000) : Says 151 [ptr bb] (blk bb [str p] 9) (fun x => !hasP p x) where
  body := ⟨_, _, Tryz.func151, rfl, rfl⟩
  says := fun {R W w g H x} hx hs hR => by
    have HR := Lib.hid hR
    clear hR
    refine C.calls (args := [str x, ptr bb]) Tryz.func151 rfl rfl rfl ?_
    refine go ?_
    refine E.callf Tryz.func152 rfl ?_
    refine hasPrefix_any hx hpl ?_
    refine go ?_
    refine A.r1 ?_
    exact HR.out
set_option maxHeartbeats 1600000 in
set_option maxRecDepth 100000 in
theorem names_gen {R : Ending → World → Prop} {W w : World} {g : Hl} {H : List HP} {b : Nat} {d : Dk} {p : List UInt8} (hpl : p.length ≤ 1000000000) (hnm : ∀ p ∈ d.fs, p.1.length ≤ 1000000) (hfl : d.fs.length ≤ 1000000000) (hs : Sat W w g (disk b d :: H))
    (hR : ∀ k a c w' g', k = (d.names p).length → Hl.le g g' → Pr 1 g' (.slice a k c) k ((d.names p).map str) → Sat W w' g' (disk b d :: H) → R (.returned (.slice a k c)) w') :
    Calls Tryz.prog 84 #[ptr b, str p] w R := by
  have HR := Lib.hid hR
  clear hR
  obtain ⟨mb, L, hL, hok, hs⟩ := disk_open hs
  have hLl : L.length = d.fs.length := by rw [← hL]; simp [Fs.plain]
  have hLk : L.map Prod.fst = d.fs.map Prod.fst := by rw [← hL]; simp [Fs.plain, Function.comp_def]
  refine C.calls (args := [ptr b, str p]) Tryz.func84 rfl rfl rfl ?_
  refine go ?_
  refine E.bx hs ?_
  intro b1 w1 hs
  replace hs : Sat W w1 g (blk b1 [str p] 9 :: dsk b mb d :: dmap mb L :: bsep (dfiles L) :: H) := hs
  refine go ?_
  refine E.callf Tryz.func32 rfl ?_
  refine on_dsk hs.swap ?_
  cases hoff : d.off with
  | true =>
    refine go ?_
    refine A.r1 ?_
    refine HR.out 0 none 0 _ g (by simp [Dk.names, hoff]) (Hl.le_refl _) ?_ (disk_close hL hok hs.drop)
    simp only [Dk.names, hoff, if_true, List.map_nil]
    exact Pr.nil
  | false =>
  have hd : d.names p = (rising (d.fs.map Prod.fst)).filter (hasP p) := by simp [Dk.names, hoff]
  rw [hd] at HR
  clear hd
  have hoff := Lib.hid hoff
  simp only [dsk] at hs
  refine go ?_
  refine E.callf Tryz.func150 rfl ?_
  refine dkeys_call ?_
  refine E.callf Tryz.func149 rfl ?_
  refine dsorted_call (l := L.map fun p => (p.1, ptr p.2.1)) hs.pull2 (by have := hok.keys; rw [← hLk] at this; simpa [Function.comp_def] using this) (by rw [List.length_map]; omega) (by
    intro p hp
    obtain ⟨q, hq, rfl⟩ := List.mem_map.1 hp
    have h1 := hnm (q.1, q.2.2) (by rw [← hL]; exact List.mem_map_of_mem hq)
    unfold maxLen
    simp only at h1 ⊢
    omega) ?_
  intro a2 c2 w2 hs
  have e1 : (L.map fun p => (p.1, ptr p.2.1)).length = d.fs.length := by rw [List.length_map]; exact hLl
  have e2 : (L.map fun p => (p.1, ptr p.2.1)).map Prod.fst = d.fs.map Prod.fst := by rw [← hLk]; simp [Function.comp_def]
  rw [e1, e2] at hs
  rw [e1]
  have hpm : (rising (d.fs.map Prod.fst)).Perm (d.fs.map Prod.fst) := List.mergeSort_perm _ _
  refine go ?_
  refine E.callf Tryz.func83 rfl ?_
  refine delete_gen (names_says (bb := b1) hpl) hs.pull2.swap (by rw [hpm.length_eq, List.length_map]) (by
    intro x hx
    have h1 := hpm.mem_iff.1 hx
    obtain ⟨q, hq, rfl⟩ := List.mem_map.1 h1
    have := hnm q hq
    omega) ?_
  intro k a3 c3 w3 g3 hk hg3 hp3 hs
  refine go ?_
  refine A.r1 ?_
  simp only [Bool.not_not] at hk hp3
  refine HR.out k a3 c3 _ g3 hk hg3 hp3 (disk_close hL hok hs.drop.swap)
end Go.Proofs.YtfhmamkafancbaaGreatDoor

/-
  Layer 9 (feed), plain: how the names of a writer's segments stand.
-/
namespace Go.Proofs.YtfhmamkafancbaaGreatDoor
open Go.RowKit Go.Maps Go.Sort
set_option linter.unusedVariables false
set_option linter.unusedSimpArgs false
theorem snoc_lt {x y : UInt8} : ∀ {a b : List UInt8}, a.length = b.length → (a ++ [x] < b ++ [y] ↔ a < b ∨ a = b ∧ x < y)
  | [], [], _ => by simp [List.cons_lt_cons_iff]
  | p :: a, q :: b, h => by
    have ih := snoc_lt (x := x) (y := y) (a := a) (b := b) (by simpa using h)
    simp only [List.cons_append, List.cons_lt_cons_iff, ih, List.cons.injEq]
    constructor
    · rintro (h | ⟨h1, h2 | ⟨h2, h3⟩⟩)
      · exact .inl (.inl h)
      · exact .inl (.inr ⟨h1, h2⟩)
      · exact .inr ⟨⟨h1, h2⟩, h3⟩
    · rintro ((h | ⟨h1, h2⟩) | ⟨⟨h1, h2⟩, h3⟩)
      · exact .inl h
      · exact .inr ⟨h1, .inl h2⟩
      · exact .inr ⟨h1, .inr ⟨h2, h3⟩⟩
  | [], _ :: _, h => by simp at h
  | _ :: _, [], h => by simp at h
/-- So many digits to base sixteen. -/
def padK : Nat → Nat → List UInt8
  | 0, _ => []
  | k + 1, n => padK k (n / 16) ++ [hexD (n % 16)]
theorem padK_len : ∀ (k n : Nat), (padK k n).length = k
  | 0, _ => rfl
  | k + 1, n => by simp [padK, padK_len k]
theorem padK_zero : ∀ k, padK k 0 = List.replicate k 48
  | 0 => rfl
  | k + 1 => by
    rw [padK, Nat.zero_div, padK_zero k, List.replicate_succ']
    rfl
theorem padK_hexN : ∀ (k n : Nat), 1 ≤ k → n < 16 ^ k → padK k n = List.replicate (k - (hexN n).length) 48 ++ hexN n
  | 0, _, h, _ => by omega
  | k + 1, n, _, h => by
    have hpow : 16 ^ (k + 1) = 16 * 16 ^ k := by rw [Nat.pow_succ, Nat.mul_comm]
    by_cases h1 : n < 16
    · rw [hexN_small h1, padK, Nat.div_eq_of_lt h1, Nat.mod_eq_of_lt h1, padK_zero]
      rfl
    · have hk : 1 ≤ k := by
        rcases Nat.eq_zero_or_pos k with rfl | hk
        · simp at h; omega
        · exact hk
      have h2 := hexN_step (n := n) (by omega)
      have h3 := padK_hexN k (n / 16) hk (by rw [hpow] at h; omega)
      rw [padK, h3, h2, List.append_assoc, List.length_append]
      simp only [List.length_cons, List.length_nil]
      rw [show k + 1 - ((hexN (n / 16)).length + (0 + 1)) = k - (hexN (n / 16)).length by omega]
theorem hexD_lt : ∀ a < 16, ∀ b < 16, (hexD a < hexD b ↔ a < b) := by decide
theorem padK_lt : ∀ (k m n : Nat), m < 16 ^ k → n < 16 ^ k → (padK k m < padK k n ↔ m < n)
  | 0, m, n, hm, hn => by
    simp only [Nat.pow_zero] at hm hn
    have h1 : ¬ m < n := by omega
    simp [padK, h1]
  | k + 1, m, n, hm, hn => by
    rw [Nat.pow_succ] at hm hn
    have ih := padK_lt k (m / 16) (n / 16) (by omega) (by omega)
    have ih2 := padK_lt k (n / 16) (m / 16) (by omega) (by omega)
    have hd := hexD_lt (m % 16) (Nat.mod_lt _ (by decide)) (n % 16) (Nat.mod_lt _ (by decide))
    simp only [padK]
    rw [snoc_lt (by rw [padK_len, padK_len]), ih, hd]
    constructor
    · rintro (h | ⟨h1, h2⟩)
      · omega
      · have h3 : ¬ m / 16 < n / 16 := by rw [← ih, h1]; exact List.lt_irrefl _
        have h4 : ¬ n / 16 < m / 16 := by rw [← ih2, h1]; exact List.lt_irrefl _
        omega
    · intro h
      by_cases h1 : m / 16 < n / 16
      · exact .inl h1
      · have h2 : m / 16 = n / 16 := by omega
        exact .inr ⟨by rw [h2], by omega⟩
theorem prefix_lt {a b : List UInt8} : ∀ (p : List UInt8), (p ++ a < p ++ b ↔ a < b)
  | [] => Iff.rfl
  | x :: p => by
    simp only [List.cons_append, List.cons_lt_cons_iff, prefix_lt p]
    constructor
    · rintro (h | ⟨_, h⟩)
      · exact absurd h (UInt8.lt_irrefl x)
      · exact h
    · exact fun h => .inr ⟨trivial, h⟩
theorem nameB_lt {w m n : Nat} (hm : m < 18446744073709551616) (hn : n < 18446744073709551616) : (nameB w m < nameB w n ↔ m < n) := by
  have h1 := padK_hexN 16 m (by decide) (by simpa using hm)
  have h2 := padK_hexN 16 n (by decide) (by simpa using hn)
  have h3 := padK_lt 16 m n (by simpa using hm) (by simpa using hn)
  unfold nameB padB
  rw [prefix_lt, ← h1, ← h2, h3]
theorem nameB_inj {w m n : Nat} (hm : m < 18446744073709551616) (hn : n < 18446744073709551616) (h : nameB w m = nameB w n) : m = n := by
  have h1 := nameB_lt (w := w) hm hn
  have h2 := nameB_lt (w := w) hn hm
  rw [h] at h1 h2
  have h3 : ¬ nameB w n < nameB w n := List.lt_irrefl _
  have h4 : ¬ m < n := fun e => h3 (h1.2 e)
  have h5 : ¬ n < m := fun e => h3 (h2.2 e)
  omega
theorem hasP_self (p x : List UInt8) : hasP p (p ++ x) = true := by simp [hasP]
end Go.Proofs.YtfhmamkafancbaaGreatDoor

/-
  Layer 9 (feed): what a feed is in memory; Next.
-/
namespace Go.Proofs.YtfhmamkafancbaaGreatDoor
open Go.RowKit
set_option linter.unusedVariables false
set_option linter.unusedSimpArgs false
theorem el_sg : ElemOf Tryz.prog 153 157 (.agg #[.int .i64 0, .int .u64 0, .slice none 0 0, .int .i64 0]) 4 48 := .of Tryz.underlying153 (by kernel_rfl) rfl (by decide)
structure Fe where
  wr : Nat
  cap : Int
  floor : Nat
  time : Nat
  l : List Sg
  dirty : Bool
def sgC (l : List Sg) : List Value := l.flatMap Sg.cs
theorem sgC_len (l : List Sg) : (sgC l).length = l.length * 4 := by
  induction l with
  | nil => rfl
  | cons s r ih =>
    have : sgC (s :: r) = s.cs ++ sgC r := rfl
    rw [this, List.length_append, ih, List.length_cons]
    simp only [Sg.cs, List.length_cons, List.length_nil]; omega
theorem sgC_append (l m : List Sg) : sgC (l ++ m) = sgC l ++ sgC m := by simp [sgC]
theorem sgC_one (s : Sg) : sgC [s] = s.cs := by simp [sgC]
theorem sgC_at : ∀ {l : List Sg} {j : Nat} (h : j < l.length), ((sgC l).drop (j * 4)).take 4 = l[j].cs
  | s :: r, 0, h => rfl
  | s :: r, j + 1, h => by
    have e : (j + 1) * 4 = 4 + j * 4 := by omega
    have e2 : sgC (s :: r) = s.cs ++ sgC r := rfl
    rw [e, ← List.drop_drop, e2]
    exact sgC_at (l := r) (by simpa using h)
structure Fe.ok (f : Fe) (g : Hl) : Prop where
  wr : f.wr < 64
  floor : f.floor ≤ 9223372036854775807
  time : f.time < 18446744073709551616
  cap : -9223372036854775808 ≤ f.cap ∧ f.cap ≤ 9223372036854775807
  l : ∀ s ∈ f.l, s.x.ok g ∧ s.wr = f.wr ∧ s.first < 18446744073709551616
theorem Fe.ok.mono {f : Fe} {g g' : Hl} (h : f.ok g) (hg : Hl.le g g') : f.ok g' := ⟨h.wr, h.floor, h.time, h.cap, fun s hs => ⟨(h.l s hs).1.mono hg, (h.l s hs).2⟩⟩
def Fe.cs (f : Fe) (db : Nat) (a : Option Addr) (c : Nat) : List Value := [ptr db, .int .i64 f.wr, .int .i64 f.cap, .int .u64 f.floor, .int .u64 f.time, .slice a f.l.length c, .bool f.dirty]
/-- A feed, of a disk at db. -/
def feed (b db : Nat) (f : Fe) : HP := exs fun q : Option Addr × Nat => wit (fun g => f.ok g) (fun _ _ hg h => h.mono hg) (sep (blk b (f.cs db q.1 q.2) 155) (owno 157 4 (.slice q.1 f.l.length q.2) f.l.length (sgC f.l)))
theorem feed_open {W w : World} {g : Hl} {H : List HP} {b db : Nat} {f : Fe} (hs : Sat W w g (feed b db f :: H)) : ∃ a c, f.ok g ∧ Sat W w g (blk b (f.cs db a c) 155 :: owno 157 4 (.slice a f.l.length c) f.l.length (sgC f.l) :: H) := by
  obtain ⟨⟨a, c⟩, h⟩ := hs.unexs
  obtain ⟨h1, h2⟩ := h.unwit
  exact ⟨a, c, h1, h2.split⟩
theorem feed_close {W w : World} {g : Hl} {H : List HP} {b db c : Nat} {a : Option Addr} {f : Fe} (h1 : f.ok g) (hs : Sat W w g (blk b (f.cs db a c) 155 :: owno 157 4 (.slice a f.l.length c) f.l.length (sgC f.l) :: H)) : Sat W w g (feed b db f :: H) :=
  Sat.mkexs (a, c) (Sat.mkwit h1 hs.join)
/-- A feed whose row is opened too, at one of its segments. -/
structure At4 (a : Option Addr) (n c rb off p j : Nat) (cur : List Value) (l : List Sg) (s : Sg) : Prop where
  addr : a = some ⟨rb, off, none⟩
  fit : off + c * 4 ≤ cur.length
  row : (cur.drop off).take (n * 4) = sgC l
  nc : n ≤ c
  c63 : c ≤ 9223372036854775807
  pe : p = off + j * 4
  lt : j < n
  at4 : (cur.drop p).take 4 = s.cs
  c0 : cur[p]? = some (.int .i64 s.wr)
  c1 : cur[p + 1]? = some (.int .u64 s.first)
  c2 : cur[p + 2]? = some s.x.v
  c3 : cur[p + 3]? = some (.int .i64 s.size)
theorem row_open {W w : World} {g : Hl} {H : List HP} {n c j : Nat} {a : Option Addr} {l : List Sg} (hj : j < l.length) (hn : n = l.length) (hs : Sat W w g (owno 157 4 (.slice a n c) n (sgC l) :: H)) : ∃ rb off p cur, At4 a n c rb off p j cur l l[j] ∧ Sat W w g (blk rb cur 157 :: H) := by
  have ha : a ≠ none := by
    obtain ⟨_, _, _, e, h1, h2, h3⟩ := hs.olen
    simp only [Value.slice.injEq] at e
    obtain ⟨rfl, -, rfl⟩ := e
    intro h
    have := h3 h
    omega
  obtain ⟨rb, off, cur, h1, h2, h3, h4, h5, hs⟩ := hs.oopen ha
  have h6 : (cur.drop (off + j * 4)).take 4 = l[j].cs := by
    have := sgC_at hj
    rw [← h3, List.drop_take, List.drop_drop, List.take_take, Nat.min_eq_left (by omega)] at this
    exact this
  have hc : ∀ q < 4, cur[off + j * 4 + q]? = (l[j].cs)[q]? := by
    intro q hq
    rw [← h6, List.getElem?_take, if_pos hq, List.getElem?_drop]
  exact ⟨rb, off, off + j * 4, cur, ⟨h1, h2, h3, h4, h5, rfl, by omega, h6, hc 0 (by decide), hc 1 (by decide), hc 2 (by decide), hc 3 (by decide)⟩, hs⟩
theorem row_close {W w : World} {g : Hl} {H : List HP} {n c j rb off p : Nat} {a : Option Addr} {cur : List Value} {l : List Sg} {s : Sg} (h : At4 a n c rb off p j cur l s) (hs : Sat W w g (blk rb cur 157 :: H)) : Sat W w g (owno 157 4 (.slice a n c) n (sgC l) :: H) := by
  rw [h.addr]
  exact hs.oclose h.fit h.row h.nc h.c63
theorem At4.ix {a : Option Addr} {n c rb off p j : Nat} {cur : List Value} {l : List Sg} {s : Sg} (h : At4 a n c rb off p j cur l s) {kd : IntKind} {i : Int} (hi : i = (j : Int)) (w : World) : (Instr.indexAt 153 (.slice a n c) (.int kd i)).run Tryz.prog w = .ok (.pointer (some ⟨rb, p, none⟩)) w := by
  rw [h.addr, h.pe]
  exact run_index_at el_sg hi h.lt w
/-- The number behind the last event. -/
def Fe.next (f : Fe) : Nat := match f.l.getLast? with
  | none => f.floor + 1
  | some s => max (f.floor + 1) s.next
/-- None of its segments is too great for a count. -/
def Fe.small (f : Fe) : Prop := ∀ s ∈ f.l, s.size ≤ 4000000000000000000 ∧ s.x.es.length ≤ 1000000000
theorem Fe.next_nil {f : Fe} (h : f.l.length = 0) : f.next = f.floor + 1 := by
  have : f.l = [] := List.eq_nil_of_length_eq_zero h
  simp [Fe.next, this]
theorem Fe.next_last {f : Fe} (h : f.l.length - 1 < f.l.length) : f.next = max (f.floor + 1) (f.l[f.l.length - 1]).next := by
  have : f.l.getLast? = some f.l[f.l.length - 1] := by rw [List.getLast?_eq_getElem?, List.getElem?_eq_getElem h]
  simp [Fe.next, this]
set_option maxHeartbeats 1600000 in
set_option maxRecDepth 100000 in
theorem fnext_raw {R : Ending → World → Prop} {W w : World} {g : Hl} {H : List HP} {b db c : Nat} {a : Option Addr} {f : Fe} (hsm : f.small) (hok : f.ok g) (hs : Sat W w g (blk b (f.cs db a c) 155 :: owno 157 4 (.slice a f.l.length c) f.l.length (sgC f.l) :: H))
    (hR : ∀ w', Sat W w' g (blk b (f.cs db a c) 155 :: owno 157 4 (.slice a f.l.length c) f.l.length (sgC f.l) :: H) → R (.returned (.int .u64 f.next)) w') : Calls Tryz.prog 50 #[ptr b] w R := by
  have HR := Lib.hid hR
  clear hR
  have hfl := hok.floor
  simp only [Fe.cs] at hs
  refine C.calls (args := [ptr b]) Tryz.func50 rfl rfl rfl ?_
  refine go ?_
  by_cases h0 : f.l.length = 0
  · rw [decide_eq_true (show (f.l.length : Int) = 0 by omega)]
    refine go ?_
    refine A.r1 ?_
    have key := HR.out w hs
    rw [Fe.next_nil h0] at key
    exact key
  · rw [decide_eq_false (show ¬ (f.l.length : Int) = 0 by omega)]
    refine go ?_
    have hj : f.l.length - 1 < f.l.length := by omega
    obtain ⟨rb, off, p, cur, h4, hs⟩ := row_open hj rfl hs.swap
    have hgd := hok.l _ (List.getElem_mem hj)
    have hss := hsm _ (List.getElem_mem hj)
    have hnx := Fe.next_last hj
    generalize hsg : f.l[f.l.length - 1] = s at h4 hgd hss hnx
    have hn63 : f.l.length ≤ 9223372036854775807 := by have := h4.nc; have := h4.c63; omega
    refine C.held2 b rb hs ?_
    intro w1 hk hs
    refine goh ?_
    refine EH.tp 15 hk ?_ (hy := Pf.pv (Pv.indexAddr rfl rfl (h4.ix (i := (f.l.length : Int) - 1) (by omega))))
    refine EH.tp 16 hk ?_ (hy := Pf.loadp rfl (.there .here) ag_sg h4.at4 rfl)
    refine goh ?_
    refine EH.one (St.callf Tryz.func105 rfl ?_)
    refine sgNext_any (s := s) hgd.2.2 (by omega) hs ?_
    intro w2 hs
    refine kept2 hs (fun hk => ?_) (Hl.le_refl _)
    refine goh ?_
    refine EH.done ?_
    refine go ?_
    refine A.r1 ?_
    have key := HR.out w2 (row_close h4 hs).swap
    rw [hnx] at key
    have e : Max.max (((f.floor + 1 : Nat)) : Int) ((s.next : Nat) : Int) = ((max (f.floor + 1) s.next : Nat) : Int) := by omega
    rw [← e] at key
    exact key
theorem fnext_any {R : Ending → World → Prop} {W w : World} {g : Hl} {H : List HP} {b db : Nat} {f : Fe} (hsm : f.small) (hs : Sat W w g (feed b db f :: H))
    (hR : ∀ w', Sat W w' g (feed b db f :: H) → R (.returned (.int .u64 f.next)) w') : Calls Tryz.prog 50 #[ptr b] w R := by
  obtain ⟨a, c, hok, hs⟩ := feed_open hs
  exact fnext_raw hsm hok hs fun w' hs => hR w' (feed_close hok hs)
end Go.Proofs.YtfhmamkafancbaaGreatDoor

/-
  Layer 9 (feed): All.
-/
namespace Go.Proofs.YtfhmamkafancbaaGreatDoor
open Go.RowKit
set_option linter.unusedVariables false
set_option linter.unusedSimpArgs false
/-- A feed's events behind its floor. -/
def liveE (floor : Nat) (l : List Sg) : List Ev := (l.flatMap fun s => s.x.es).filter fun e => decide (floor < e.sq)
def Fe.all (f : Fe) : List Ev := liveE f.floor f.l
theorem liveE_snoc (floor : Nat) (l : List Sg) (s : Sg) : liveE floor (l ++ [s]) = liveE floor l ++ s.x.es.filter (fun e => decide (floor < e.sq)) := by simp [liveE]
/-- How many events a feed has in memory. -/
def Fe.count (f : Fe) : Nat := (f.l.flatMap fun s => s.x.es).length
theorem flat_take_len {α β : Type} (h : α → List β) : ∀ (l : List α) (k : Nat), ((l.take k).flatMap h).length ≤ (l.flatMap h).length
  | [], _ => by simp
  | _ :: _, 0 => by simp
  | x :: r, k + 1 => by
    have := flat_take_len h r k
    simp only [List.take_succ_cons, List.flatMap_cons, List.length_append]
    omega
theorem liveE_len (floor : Nat) (l : List Sg) : (liveE floor l).length ≤ (l.flatMap fun s => s.x.es).length := List.length_filter_le _ _
set_option maxHeartbeats 6400000 in
set_option maxRecDepth 100000 in
theorem fall_any {R : Ending → World → Prop} {W w : World} {g : Hl} {H : List HP} {b db : Nat} {f : Fe} (hc : f.count ≤ 1000000000) (hs : Sat W w g (feed b db f :: H))
    (hR : ∀ (x : El) w' g', Hl.le g g' → x.ok g' → x.es = f.all → Sat W w' g' (feed b db f :: H) → R (.returned x.v) w') : Calls Tryz.prog 95 #[ptr b] w R := by
  have HR := Lib.hid hR
  clear hR
  have ag1 := ag_sg
  have ag2 := ag_ev
  obtain ⟨a, c, hok, hs⟩ := feed_open hs
  obtain ⟨_, _, _, e0, hnc, hcm, _⟩ := hs.swap.olen
  simp only [Value.slice.injEq] at e0
  obtain ⟨-, -, rfl⟩ := e0
  refine C.calls (args := [ptr b]) Tryz.func95 rfl rfl rfl ?_
  refine gob ?_
  refine C.cut (fun q : Option Addr × Nat => [(3, .slice q.1 f.all.length q.2)]) (fun q w => ∃ g', Hl.le g g' ∧ (∀ e ∈ f.all, e.ok g' ∧ e.low) ∧ Sat W w g' (own 26 8 (.slice q.1 f.all.length q.2) f.all.length (evC f.all) :: blk b (f.cs db a c) 155 :: owno 157 4 (.slice a f.l.length c) f.l.length (sgC f.l) :: H)) ?_ ?_
  · refine C.block ?_
    refine C.lp (fun q : Nat × Option Addr × Nat => [(0, ptr b), (3, .slice q.2.1 (liveE f.floor (f.l.take q.1)).length q.2.2), (14, .slice a f.l.length c), (15, .int .i64 f.l.length), (16, .int .i64 q.1)])
      (fun gk q w => gk = f.l.length - q.1 ∧ q.1 ≤ f.l.length ∧ ∃ g', Hl.le g g' ∧ (∀ e ∈ liveE f.floor (f.l.take q.1), e.ok g' ∧ e.low) ∧ Sat W w g' (own 26 8 (.slice q.2.1 (liveE f.floor (f.l.take q.1)).length q.2.2) (liveE f.floor (f.l.take q.1)).length (evC (liveE f.floor (f.l.take q.1))) :: blk b (f.cs db a c) 155 :: owno 157 4 (.slice a f.l.length c) f.l.length (sgC f.l) :: H)) f.l.length (0, none, 0) ⟨rfl, Nat.zero_le _, g, Hl.le_refl _, (fun e he => by simp [liveE] at he), hs.nilOwn⟩ ?_
    clear hs
    rintro gk ⟨i, a1, c1⟩ w1 ⟨rfl, hi, g1, hg1, hO, hs⟩
    simp only at hi hO hs ⊢
    refine go ?_
    refine C.cond_dec (p := (i : Int) < f.l.length) rfl (fun h => ?_) (fun h => ?_)
    rotate_left
    · obtain rfl : i = f.l.length := by omega
      have e : liveE f.floor (f.l.take f.l.length) = f.all := by rw [List.take_length]; rfl
      rw [e] at hs hO ⊢
      refine go ?_
      exact A.mt (a1, c1) ⟨g1, hg1, hO, hs⟩
    have hil : i < f.l.length := by omega
    obtain ⟨rb, off, p, cur, h4, hs⟩ := row_open hil rfl hs.pull2
    have hgd := hok.l _ (List.getElem_mem hil)
    have hsucc : f.l.take (i + 1) = f.l.take i ++ [f.l[i]] := by
      rw [List.take_add_one, List.getElem?_eq_getElem hil]; rfl
    have hlen := flat_take_len (fun s : Sg => s.x.es) f.l (i + 1)
    rw [hsucc, List.flatMap_append] at hlen
    simp only [List.flatMap_cons, List.flatMap_nil, List.append_nil, List.length_append] at hlen
    have hlv := liveE_len f.floor (f.l.take i)
    have hcc : (f.l.flatMap fun s => s.x.es).length ≤ 1000000000 := hc
    generalize hsg : f.l[i] = s at h4 hgd hsucc hlen
    refine go ?_
    refine E.pv (Pv.indexAddr rfl rfl (h4.ix (i := (i : Int)) rfl)) ?_
    refine E.ldp hs ?_ (hv := h4.at4) (vs := s.cs)
    refine go ?_
    refine E.al hs ?_
    intro b5 w2 hs
    refine E.sto (vs := s.cs) (ys := s.cs) hs ?_ (hv := rfl) (hsp := rfl)
    intro w3 hs
    refine gob ?_
    refine C.cutQ (fun q : Option Addr × Nat => [(0, ptr b), (3, .slice q.1 (liveE f.floor (f.l.take (i + 1))).length q.2), (14, .slice a f.l.length c), (15, .int .i64 f.l.length), (16, .int .i64 i)]) (fun q w => ∃ g', Hl.le g g' ∧ (∀ e ∈ liveE f.floor (f.l.take (i + 1)), e.ok g' ∧ e.low) ∧ Sat W w g' (own 26 8 (.slice q.1 (liveE f.floor (f.l.take (i + 1))).length q.2) (liveE f.floor (f.l.take (i + 1))).length (evC (liveE f.floor (f.l.take (i + 1)))) :: blk b (f.cs db a c) 155 :: blk rb cur 157 :: H)) ?_ ?_
    · refine C.block ?_
      refine C.lp (fun q : Nat × List Ev × Option Addr × Nat => [(0, ptr b), (3, .slice q.2.2.1 q.2.1.length q.2.2.2), (14, .slice a f.l.length c), (15, .int .i64 f.l.length), (16, .int .i64 i), (21, s.x.v), (22, .int .i64 s.x.es.length), (23, .int .i64 q.1)])
        (fun gk q w => gk = s.x.es.length - q.1 ∧ q.1 ≤ s.x.es.length ∧ q.2.1 = liveE f.floor (f.l.take i) ++ (s.x.es.take q.1).filter (fun e => decide (f.floor < e.sq)) ∧ (∀ e ∈ q.2.1, e.ok g1 ∧ e.low) ∧ Sat W w g1 (own 26 8 (.slice q.2.2.1 q.2.1.length q.2.2.2) q.2.1.length (evC q.2.1) :: blk b (f.cs db a c) 155 :: blk rb cur 157 :: H)) s.x.es.length (0, liveE f.floor (f.l.take i), a1, c1) ⟨rfl, Nat.zero_le _, by simp, hO, hs.drop.swap.pull2.swap⟩ ?_
      clear hs hO
      rintro gk ⟨j, O, a2, c2⟩ w4 ⟨rfl, hj, hOe, hO, hs⟩
      simp only at hj hOe hO hs ⊢
      have hxv : s.x.v = .slice s.x.a s.x.es.length s.x.c := rfl
      refine go ?_
      refine C.cond_dec (p := (j : Int) < s.x.es.length) rfl (fun h => ?_) (fun h => ?_)
      rotate_left
      · obtain rfl : j = s.x.es.length := by omega
        refine go ?_
        have e : O = liveE f.floor (f.l.take (i + 1)) := by rw [hOe, List.take_length, hsucc, liveE_snoc]
        subst e
        exact A.mt (a2, c2) ⟨g1, hg1, hO, hs⟩
      have hjl : j < s.x.es.length := by omega
      have hxo := hgd.1.mono hg1
      obtain ⟨hev, helow⟩ := hxo.evs _ (List.getElem_mem hjl)
      have hOl : O.length ≤ 1000000000 := by
        rw [hOe, List.length_append]
        have := List.length_filter_le (fun e : Ev => decide (f.floor < e.sq)) (s.x.es.take j)
        rw [List.length_take] at this
        omega
      refine go ?_
      refine E.ixs el_ev hs hxo.row j ?_
      intro b6 o6 hrg
      rw [evC_at hjl] at hrg
      have hsj : s.x.es.take (j + 1) = s.x.es.take j ++ [s.x.es[j]] := by
        rw [List.take_add_one, List.getElem?_eq_getElem hjl]; rfl
      generalize s.x.es[j] = e at hev helow hrg hsj
      refine E.ldr hrg ag_ev rfl ?_
      refine go ?_
      refine E.al hs ?_
      intro b7 w5 hs
      refine E.sto (vs := e.cs) (ys := e.cs) hs ?_ (hv := rfl) (hsp := spl_all (by rfl)) (h1 := Ev.cs_one hev)
      intro w6 hs
      refine go ?_
      refine C.held2 b7 b hs ?_
      intro w7 hk hs
      refine goh ?_
      refine EH.done ?_
      refine go ?_
      refine C.cond_dec (p := (f.floor : Int) < e.sq) rfl (fun h => ?_) (fun h => ?_)
      · have hd : decide (f.floor < e.sq) = true := decide_eq_true (by omega)
        refine go ?_
        refine E.bsle el_ev hs (cs := e.cs) rfl ?_
        intro b10 w9 hs
        refine E.app el_ev hs.pull2 (hs.rowOf (size := 8) 1 rfl (by decide)) ?_ (h1 := fun u hu => List.all_eq_true.1 (Ev.cs_one hev) u hu)
        intro a11 c11 w11 _ _ hs
        have e3 : O.length + 1 = (O ++ [e]).length := by simp
        have e4 : evC O ++ e.cs = evC (O ++ [e]) := by rw [evC_append]; simp [evC]
        rw [e3, e4] at hs
        rw [e3]
        refine go ?_
        refine A.rd (s.x.es.length - (j + 1)) (j + 1, O ++ [e], a11, c11) ⟨rfl, by simp only; omega, ?_, ?_, ?_⟩
        · rw [hsj, List.filter_append, ← List.append_assoc, ← hOe]
          simp [hd]
        · intro e' he'
          rcases List.mem_append.1 he' with h' | h'
          · exact hO e' h'
          · rw [List.mem_singleton.1 h']
            exact ⟨hev, helow⟩
        · exact hs.swap.drop.swap.drop
      · have hd : decide (f.floor < e.sq) = false := decide_eq_false (by omega)
        refine go ?_
        refine A.rd (s.x.es.length - (j + 1)) (j + 1, O, a2, c2) ⟨rfl, by simp only; omega, ?_, hO, hs.drop⟩
        simp only
        rw [hsj, List.filter_append, ← List.append_assoc, ← hOe]
        simp [hd]
    clear hs hO
    rintro ⟨a2, c2⟩ w20 ⟨g2, hg2, hO, hs⟩
    simp only at hs ⊢
    refine go ?_
    subst hsg
    refine A.rd (f.l.length - (i + 1)) (i + 1, a2, c2) ⟨rfl, by simp only; omega, g2, hg2, hO, (row_close h4 hs.pull2).push2⟩
  clear hs
  rintro ⟨a2, c2⟩ w20 ⟨g2, hg2, hO, hs⟩
  simp only at hs ⊢
  refine go ?_
  refine A.r1 ?_
  obtain ⟨g3, hg3, hpr, hs⟩ := hs.publishOwn
  exact HR.out ⟨a2, c2, f.all⟩ w20 g3 (hg2.trans hg3) ⟨hpr, fun e he => ⟨(hO e he).1.mono hg3, (hO e he).2⟩⟩ rfl (feed_close (hok.mono (hg2.trans hg3)) hs)
end Go.Proofs.YtfhmamkafancbaaGreatDoor
