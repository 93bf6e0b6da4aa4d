/-
  Layer 9 (feed): Open.
-/
import Derived.Test.YtdkbpcibmipelaaGreatDoorMm
import Derived.Test.YtdkbpcibmipelaaGreatDoorMd
import Derived.Test.YtdkbpcibmipelaaGreatDoorMk
namespace Go.Proofs.YtdkbpcibmipelaaGreatDoor
open Go.RowKit
set_option linter.unusedVariables false
set_option linter.unusedSimpArgs false

/-- A segment, plain. -/
structure Sp where
  first : Nat
  es : List Ep
  size : Nat
def Sg.sp (s : Sg) : Sp := ⟨s.first, s.x.es.map Ev.raw, s.size⟩
def Sp.next (s : Sp) : Nat := (s.first + s.es.length) % 18446744073709551616
theorem Sg.sp_next (s : Sg) : s.sp.next = s.next := by simp [Sp.next, Sg.next, Sg.sp]
def nextP (floor : Nat) (l : List Sp) : Nat := match l.getLast? with
  | none => floor + 1
  | some s => max (floor + 1) s.next
theorem Fe.next_sp (f : Fe) : f.next = nextP f.floor (f.l.map Sg.sp) := by
  unfold Fe.next nextP
  rw [List.getLast?_map]
  cases f.l.getLast? with
  | none => rfl
  | some s => simp [Sg.sp_next]
/-- What 'segment.Open' tells: the segment, the error. -/
def opS (n : Nat) : Except Int (List Ep × Nat × Int) → Sp
  | .error _ => ⟨0, [], 0⟩
  | .ok (es, sz, _) => ⟨n, es, sz⟩
def opR : Except Int (List Ep × Nat × Int) → Int
  | .error e => e
  | .ok (_, _, e) => e
theorem opE_few {wr f : Nat} : ∀ (ls : List (List UInt8)) (acc : List Ep) (sz : Nat), (∀ p ∈ ls, p.length ≤ 2097152) → (opE wr f acc sz ls).1.length ≤ acc.length + ls.length ∧ (opE wr f acc sz ls).2.1 ≤ sz + ls.length * 2097166
  | [], acc, sz, _ => by simp [opE]
  | p :: r, acc, sz, h => by
    have hp := h p (by simp)
    have hrec : recN p.length ≤ 2097166 := by
      have := layN_ten (n := p.length) (by omega)
      unfold recN; omega
    have ih := fun acc sz => opE_few (wr := wr) (f := f) r acc sz fun q hq => h q (by simp [hq])
    simp only [opE]
    split
    · simp only [List.length_cons]; omega
    · split
      · rename_i e _ _
        have := ih (acc ++ [e]) (sz + recN p.length)
        simp only [List.length_append, List.length_singleton, List.length_cons, List.length_nil] at this ⊢
        omega
      · simp only [List.length_cons]; omega
theorem opn_few {d : Dk} (hd : d.ok) {i n : Nat} (hi : i < 64) (hn : n < 18446744073709551616) : (opS n (d.opn i n).1).es.length ≤ 1000000000 ∧ (opS n (d.opn i n).1).size ≤ 4000000000000000000 := by
  have hto : Ti.ok ⟨115, i, n⟩ := ⟨by simp only; omega, hn⟩
  have hhl := headB_len hto
  unfold Dk.opn
  cases hm : (d.mend (nameB i n)).1 with
  | error e => simp [opS]
  | ok s =>
    obtain ⟨h1, h2⟩ := mend_few hd hm
    have h3 := opE_few (wr := i) (f := n) s.l [] (headB ⟨115, i, n⟩).length h1
    simp only
    split
    · split
      · simp only [opS, List.length_nil] at h3 ⊢; omega
      · simp only [opS, List.length_nil] at h3 ⊢; omega
    · simp [opS]
theorem sgOpen_one {R : Ending → World → Prop} {W w : World} {g : Hl} {H : List HP} {b : Nat} {d : Dk} {i n : Nat} (hg : Gl g) (hi : i < 64) (hn : n < 18446744073709551616) (hs : Sat W w g (disk b d :: H))
    (hR : ∀ (s : Sg) w' g', Hl.le g g' → s.x.ok g' → s.sp = opS n (d.opn i n).1 → (opR (d.opn i n).1 = 0 → s.wr = i) → s.first < 18446744073709551616 → (∀ e ∈ s.x.es, e.right = 0) → Sat W w' g' (disk b (d.opn i n).2 :: H) → R (.returned (.tuple #[s.val, .int .i64 (opR (d.opn i n).1)])) w') :
    Calls Tryz.prog 20 #[ptr b, str (nameB i n)] w R := by
  refine sgOpen_all hg hi hn hs (fun e w' g' hg' he hne hs => ?_) (fun x sz er w' g' hg' he hx hxr hs => ?_)
  · have key := hR ⟨0, 0, ⟨none, 0, []⟩, 0⟩ w' g' hg' ⟨Pr.nil, fun e he => by cases he⟩ (by rw [he]; rfl) (fun h => by rw [he] at h; exact absurd h hne) (by decide) (fun e he => by cases he) hs
    rw [he] at key
    exact key
  · have key := hR ⟨i, n, x, sz⟩ w' g' hg' hx (by rw [he]; rfl) (fun _ => rfl) hn hxr hs
    rw [he] at key
    exact key

/-- Does a segment follow. -/
def folP (floor : Nat) (acc : List Sp) (s : Sp) : Bool := match acc with
  | [] => decide (s.first ≤ floor + 1)
  | _ :: _ => decide (s.first = nextP floor acc)
/-- Is it kept. -/
def keepP (floor : Nat) (acc : List Sp) (last : Bool) (s : Sp) (er : Int) : Bool :=
  decide (er = 0) && folP floor acc s && !(decide (s.next ≤ floor + 1) && (!last || decide (0 < s.es.length)))
def fopS (wr floor : Nat) (last : Bool) (n : Nat) (acc : List Sp) (d : Dk) : Int × List Sp × Dk :=
  if opR (d.opn wr n).1 = 7 then (7, acc, (d.opn wr n).2) else
  if keepP floor acc last (opS n (d.opn wr n).1) (opR (d.opn wr n).1) = true then (0, acc ++ [opS n (d.opn wr n).1], (d.opn wr n).2) else
  (((d.opn wr n).2.remove (nameB wr n)).1, acc, ((d.opn wr n).2.remove (nameB wr n)).2)
/-- How 'Open' goes over the segments' first numbers. -/
def fopR (wr floor : Nat) : List Nat → List Sp → Dk → Int × List Sp × Dk
  | [], acc, d => (0, acc, d)
  | n :: r, acc, d => if (fopS wr floor r.isEmpty n acc d).1 ≠ 0 then fopS wr floor r.isEmpty n acc d else fopR wr floor r (fopS wr floor r.isEmpty n acc d).2.1 (fopS wr floor r.isEmpty n acc d).2.2

set_option maxHeartbeats 6400000 in
set_option maxRecDepth 100000 in
theorem fopen_any {R : Ending → World → Prop} {W w : World} {g : Hl} {H : List HP} {db : Nat} {d : Dk} {wr fl tm : Nat} {cap : Int} {ns : List Nat} (hg : Gl g) (hwr : wr < 64) (hfl : fl ≤ 9223372036854775807) (htm : tm < 18446744073709551616) (hcap : -9223372036854775808 ≤ cap ∧ cap ≤ 9223372036854775807) (hnm : ∀ p ∈ d.fs, p.1.length ≤ 1000000) (hfs : d.fs.length ≤ 1000000000)
    (hns : d.names (beginB wr) = ns.map (nameB wr)) (hlt : ∀ n ∈ ns, n < 18446744073709551616) (hs : Sat W w g (disk db d :: H))
    (hOK : ∀ b l w' g', Hl.le g g' → (fopR wr fl ns [] d).1 = 0 → l.map Sg.sp = (fopR wr fl ns [] d).2.1 → Sat W w' g' (feed b db ⟨wr, cap, fl, tm, l, false⟩ :: disk db (fopR wr fl ns [] d).2.2 :: H) → R (.returned (.tuple #[ptr b, .int .i64 0])) w')
    (hE : ∀ w' g', Hl.le g g' → (fopR wr fl ns [] d).1 ≠ 0 → Sat W w' g' (disk db (fopR wr fl ns [] d).2.2 :: H) → R (.returned (.tuple #[.pointer none, .int .i64 (fopR wr fl ns [] d).1])) w') :
    Calls Tryz.prog 34 #[ptr db, .int .i64 wr, .int .i64 cap, .int .u64 fl, .int .u64 tm] w R := by
  have HOK := Lib.hid hOK
  have HE := Lib.hid hE
  clear hOK hE
  have ag1 := ag_sg
  have hnl : ns.length ≤ 1000000000 := by
    have h1 : (ns.map (nameB wr)).length ≤ d.fs.length := by
      rw [← hns]
      unfold Dk.names
      split
      · simp
      · have := List.length_filter_le (hasP (beginB wr)) (rising (d.fs.map Prod.fst))
        rw [(rising_perm _).length_eq, List.length_map] at this
        exact this
    rw [List.length_map] at h1
    omega
  have hbl := beginB_len (w := wr) (by omega)
  refine C.calls (args := [ptr db, .int .i64 wr, .int .i64 cap, .int .u64 fl, .int .u64 tm]) Tryz.func34 rfl rfl rfl ?_
  refine go ?_
  rw [decide_eq_false (show ¬ (64 : Int) ≤ wr by omega)]
  refine go ?_
  refine E.bx hs ?_
  intro b w1 hs
  refine go ?_
  refine E.callf Tryz.func85 rfl ?_
  refine segBegin_any (i := wr) (by omega) ?_
  refine go ?_
  refine E.callf Tryz.func42 rfl ?_
  refine names_gen (p := beginB wr) (by omega) hnm hfs hs.swap ?_
  intro k a c w2 g2 hk hg2 hpn hs
  rw [hns] at hk hpn
  rw [List.length_map] at hk
  subst hk
  have hf0 : (⟨wr, cap, fl, tm, [], false⟩ : Fe).ok g2 := ⟨hwr, hfl, htm, hcap, fun s hs => by cases hs⟩
  have hs : Sat W w2 g2 (feed b db ⟨wr, cap, fl, tm, [], false⟩ :: disk db d :: H) := feed_close (a := none) (c := 0) hf0 (Sat.swap (Sat.onil (hs.swap)))
  clear hf0
  refine gob ?_
  refine C.cut (fun _ : Unit => [(12, ptr b)]) (fun _ w => ∃ l g', Hl.le g g' ∧ (fopR wr fl ns [] d).1 = 0 ∧ l.map Sg.sp = (fopR wr fl ns [] d).2.1 ∧ Sat W w g' (feed b db ⟨wr, cap, fl, tm, l, false⟩ :: disk db (fopR wr fl ns [] d).2.2 :: H)) ?_ ?_
  · refine C.block ?_
    refine C.lp (fun q : Nat × List Sg × Dk => [(0, ptr db), (3, .int .u64 fl), (12, ptr b), (13, .slice a ns.length c), (38, .slice a ns.length c), (39, .int .i64 ns.length), (40, .int .i64 q.1)])
      (fun gk q w => gk = ns.length - q.1 ∧ q.1 ≤ ns.length ∧ fopR wr fl ns [] d = fopR wr fl (ns.drop q.1) (q.2.1.map Sg.sp) q.2.2 ∧ (∀ s ∈ q.2.1, s.size ≤ 4000000000000000000 ∧ s.x.es.length ≤ 1000000000) ∧ q.2.1.length ≤ q.1 ∧ ∃ g', Hl.le g2 g' ∧ Sat W w g' (feed b db ⟨wr, cap, fl, tm, q.2.1, false⟩ :: disk db q.2.2 :: H)) ns.length (0, [], d) ⟨rfl, Nat.zero_le _, rfl, (fun s hs => by cases hs), Nat.zero_le _, g2, Hl.le_refl _, hs⟩ ?_
    clear hs
    rintro gk ⟨i, L, d1⟩ w4 ⟨rfl, hi, hT, hsm1, hLi, g4, hg4, hs⟩
    simp only at hi hT hsm1 hLi hs ⊢
    replace hT := Lib.hid hT
    have hgg := hg2.trans hg4
    refine go ?_
    refine C.cond_dec (p := (i : Int) < ns.length) rfl (fun h => ?_) (fun h => ?_)
    rotate_left
    · obtain rfl : i = ns.length := by omega
      have hT2 := hT.out
      rw [List.drop_length] at hT2
      replace hT2 := Lib.hid hT2
      refine go ?_
      refine A.mt () ⟨L, g4, hgg, ?_, ?_, ?_⟩
      · rw [hT2.out]; rfl
      · rw [hT2.out]; rfl
      · rw [hT2.out]; exact hs
    have hil : i < ns.length := by omega
    have hdr : ns.drop i = ns[i] :: ns.drop (i + 1) := List.drop_eq_getElem_cons hil
    have hnlt := hlt ns[i] (List.getElem_mem hil)
    have hlast : (ns.drop (i + 1)).isEmpty = decide ((i : Int) = (ns.length : Int) - 1) := by
      rw [Bool.eq_iff_iff, List.isEmpty_iff, List.drop_eq_nil_iff, decide_eq_true_eq]
      omega
    have hT2 := hT.out
    rw [hdr] at hT2
    rw [fopR, hlast] at hT2
    obtain ⟨q, hq⟩ : ∃ q, q = fopS wr fl (decide ((i : Int) = (ns.length : Int) - 1)) ns[i] (L.map Sg.sp) d1 := ⟨_, rfl⟩
    rw [← hq] at hT2
    replace hT2 := Lib.hid hT2
    replace hq := Lib.hid hq
    replace hlast := Lib.hid hlast
    refine go ?_
    refine E.ix el_strs hs (hpn.mono hg4) i (v := str (nameB wr ns[i])) (by simp [hil]) ?_
    intro b5 o5 hc5
    generalize ns[i] = n at hnlt hq hc5
    refine go ?_
    have hfew := opn_few (disk_ok hs.swap) hwr hnlt
    refine E.callf Tryz.func20 rfl ?_
    refine sgOpen_one (i := wr) (n := n) (hg.mono hgg) hwr hnlt hs.swap ?_
    intro s w5 g5 hg5 hxo hsp hswr hsf hright hs
    replace hq := hq.out
    unfold fopS at hq
    rw [← hsp] at hq
    rw [← hsp] at hfew
    have hss : s.x.es.length ≤ 1000000000 := by
      have := hfew.1
      simpa [Sg.sp] using this
    have hsz : s.size ≤ 4000000000000000000 := hfew.2
    clear hfew hsp
    generalize opR (d1.opn wr n).1 = er at hq hswr ⊢
    generalize (d1.opn wr n).2 = d2 at hq hs
    replace hq := Lib.hid hq
    refine go ?_
    refine E.al hs ?_
    intro b16 w6 hs
    refine E.sto (vs := s.cs) (ys := s.cs) hs ?_ (hv := rfl) (hsp := rfl)
    intro w7 hs
    refine go ?_
    by_cases he7 : er = 7
    · have hq2 := hq.out
      rw [if_pos he7] at hq2
      have hT3 := hT2.out
      rw [hq2, if_pos (by simp)] at hT3
      refine C.cond rfl (fun _ => ?_) (fun h => by rw [decide_eq_true he7] at h; cases h)
      have key := HE.out w7 g5 (hgg.trans hg5)
      rw [hT3] at key
      clear hT3 hq2
      subst he7
      refine go ?_
      refine A.r2 ?_
      exact key (by simp) hs.drop.swap.drop
    refine C.cond rfl (fun h => by rw [decide_eq_false he7] at h; cases h) (fun _ => ?_)
    replace hq := hq.out
    rw [if_neg he7] at hq
    replace hq := Lib.hid hq
    refine go ?_
    generalize hlb : decide ((i : Int) = (ns.length : Int) - 1) = lastB at hq ⊢
    generalize hfo : folP fl (L.map Sg.sp) s.sp = fo
    have hsn := Sg.sp_next s
    refine C.cut (fun _ : Unit => [(0, ptr db), (3, .int .u64 fl), (12, ptr b), (13, .slice a ns.length c), (15, str (nameB wr n)), (16, ptr b16), (17, .int .i64 er), (18, .bool lastB), (19, .bool fo), (38, .slice a ns.length c), (39, .int .i64 ns.length), (40, .int .i64 i)]) (fun _ w => Sat W w g5 (blk b16 s.cs 29 :: feed b db ⟨wr, cap, fl, tm, L, false⟩ :: disk db d2 :: H)) ?_ ?_
    · replace hs := hs.pull2.swap
      obtain ⟨a1, c1, hok, hs⟩ := feed_open hs.swap
      cases hL : L with
      | nil =>
        subst hL
        refine C.held2 b16 b hs ?_
        intro w8 hk hs
        refine goh ?_
        cases hv : decide ((s.first : Int) ≤ (fl + 1 : Nat)) with
        | true =>
          obtain rfl : fo = true := by rw [← hfo]; have := of_decide_eq_true hv; exact decide_eq_true (show s.first ≤ fl + 1 by omega)
          refine goh ?_
          refine EH.done ?_
          exact A.mt () (feed_close hok hs).swap
        | false =>
          obtain rfl : fo = false := by rw [← hfo]; have := of_decide_eq_false hv; exact decide_eq_false (show ¬ s.first ≤ fl + 1 by omega)
          refine goh ?_
          refine EH.done ?_
          exact A.mt () (feed_close hok hs).swap
      | cons x r =>
        subst hL
        have hnx := Fe.next_sp ⟨wr, cap, fl, tm, x :: r, false⟩
        have hrl : r.length ≤ 1000000000 := by
          simp only [List.length_cons] at hLi
          omega
        replace hnx := Lib.hid hnx
        refine C.held2 b16 b hs ?_
        intro w8 hk hs
        refine goh ?_
        rw [decide_eq_false (show ¬ ((r.length : Int) + 1 = 0) by omega)]
        refine goh ?_
        rw [decide_eq_true (show (0 : Int) < (r.length : Int) + 1 by omega)]
        refine goh ?_
        refine EH.one (St.guard rfl rfl (St.callf Tryz.func40 rfl ?_))
        refine fnext_raw (f := ⟨wr, cap, fl, tm, x :: r, false⟩) hsm1 hok hs ?_
        intro w9 hs
        refine kept2 hs (fun hk => ?_) (Hl.le_refl _)
        refine goh ?_
        cases hv : decide ((s.first : Int) = (Fe.next ⟨wr, cap, fl, tm, x :: r, false⟩ : Nat)) with
        | true =>
          obtain rfl : fo = true := by
            rw [← hfo]
            have := of_decide_eq_true hv
            refine decide_eq_true (show s.first = nextP fl (List.map Sg.sp (x :: r)) from ?_)
            have := hnx.out
            simp only at this
            omega
          refine goh ?_
          refine EH.done ?_
          exact A.mt () (feed_close hok hs).swap
        | false =>
          obtain rfl : fo = false := by
            rw [← hfo]
            have := of_decide_eq_false hv
            refine decide_eq_false (show ¬ s.first = nextP fl (List.map Sg.sp (x :: r)) from ?_)
            have := hnx.out
            simp only at this
            omega
          refine goh ?_
          refine EH.done ?_
          exact A.mt () (feed_close hok hs).swap
    clear hs
    rintro _ w10 hs
    have hq1 := hq.out
    unfold keepP at hq1
    rw [hfo, hsn] at hq1
    replace hq := Lib.hid hq1
    clear hq1
    replace hfo := Lib.hid hfo
    replace hsn := Lib.hid hsn
    replace hlb := Lib.hid hlb
    apply laterE (α := Unit) (f := fun _ => [(0, ptr db), (3, .int .u64 fl), (12, ptr b), (13, .slice a ns.length c), (38, .slice a ns.length c), (39, .int .i64 ns.length), (40, .int .i64 i), (110, ptr db), (111, str (nameB wr n))]) (M := fun _ w => q = ((d2.remove (nameB wr n)).1, L.map Sg.sp, (d2.remove (nameB wr n)).2) ∧ Sat W w g5 (blk b16 s.cs 29 :: feed b db ⟨wr, cap, fl, tm, L, false⟩ :: disk db d2 :: H))
    · intro keyR
      apply later (α := Unit) (f := fun _ => [(0, ptr db), (3, .int .u64 fl), (12, ptr b), (13, .slice a ns.length c), (16, ptr b16), (38, .slice a ns.length c), (39, .int .i64 ns.length), (40, .int .i64 i)]) (M := fun _ w => q = (0, L.map Sg.sp ++ [s.sp], d2) ∧ s.wr = wr ∧ Sat W w g5 (blk b16 s.cs 29 :: feed b db ⟨wr, cap, fl, tm, L, false⟩ :: disk db d2 :: H))
      · intro keyK
        by_cases he0 : er = 0
        · have hdd : (!decide (er = 0)) = false := by simp [he0]
          have hw := hswr he0
          replace hdd := Lib.hid hdd
          replace hw := Lib.hid hw
          cases fo with
          | false =>
            have hrm : q = ((d2.remove (nameB wr n)).1, L.map Sg.sp, (d2.remove (nameB wr n)).2) := by
              rw [hq.out, if_neg (by simp)]
            replace hrm := Lib.hid hrm
            clear he0
            refine go ?_
            rw [hdd.out]
            refine go ?_
            exact E.forget wk_ (keyR () _ ⟨hrm.out, hs⟩)
          | true =>
          have hde : decide (er = 0) = true := decide_eq_true he0
          replace hde := Lib.hid hde
          clear he0
          refine go ?_
          rw [hdd.out]
          refine go ?_
          refine E.callf Tryz.func26 rfl ?_
          refine sgNext_any (s := s) hsf hss hs ?_
          intro w11 hs
          refine go ?_
          cases hA : decide (((s.next : Nat) : Int) ≤ (fl + 1 : Nat)) with
          | false =>
            have hA2 : decide (s.next ≤ fl + 1) = false := by have := of_decide_eq_false hA; exact decide_eq_false (by omega)
            have hkp : q = (0, L.map Sg.sp ++ [s.sp], d2) := by
              rw [hq.out, if_pos (by rw [hde.out, hA2]; rfl)]
            replace hkp := Lib.hid hkp
            refine go ?_
            exact C.forget wk_ (keyK () _ ⟨hkp.out, hw.out, hs⟩)
          | true =>
          have hA2 : decide (s.next ≤ fl + 1) = true := by have := of_decide_eq_true hA; exact decide_eq_true (by omega)
          replace hA2 := Lib.hid hA2
          cases lastB with
          | false =>
            have hrm : q = ((d2.remove (nameB wr n)).1, L.map Sg.sp, (d2.remove (nameB wr n)).2) := by
              rw [hq.out, if_neg (by rw [hde.out, hA2.out]; simp)]
            replace hrm := Lib.hid hrm
            refine go ?_
            exact E.forget wk_ (keyR () _ ⟨hrm.out, hs⟩)
          | true =>
          have hxv : s.x.v = .slice s.x.a s.x.es.length s.x.c := rfl
          replace hxv := Lib.hid hxv
          have hes : s.sp.es.length = s.x.es.length := by simp [Sg.sp]
          replace hes := Lib.hid hes
          refine go ?_
          cases hB : decide ((0 : Int) < s.x.es.length) with
          | true =>
            have hrm : q = ((d2.remove (nameB wr n)).1, L.map Sg.sp, (d2.remove (nameB wr n)).2) := by
              have := of_decide_eq_true hB
              have h0 : decide (0 < s.sp.es.length) = true := decide_eq_true (by rw [hes.out]; omega)
              rw [hq.out, if_neg (by rw [hde.out, hA2.out, h0]; simp)]
            replace hrm := Lib.hid hrm
            refine go ?_
            exact E.forget wk_ (keyR () _ ⟨hrm.out, hs⟩)
          | false =>
            have hkp : q = (0, L.map Sg.sp ++ [s.sp], d2) := by
              have := of_decide_eq_false hB
              have h0 : decide (0 < s.sp.es.length) = false := decide_eq_false (by rw [hes.out]; omega)
              rw [hq.out, if_pos (by rw [hde.out, hA2.out, h0]; rfl)]
            replace hkp := Lib.hid hkp
            refine go ?_
            exact C.forget wk_ (keyK () _ ⟨hkp.out, hw.out, hs⟩)
        · have hdd : (!decide (er = 0)) = true := by simp [he0]
          have hrm : q = ((d2.remove (nameB wr n)).1, L.map Sg.sp, (d2.remove (nameB wr n)).2) := by
            rw [hq.out, if_neg (by simp [he0])]
          replace hdd := Lib.hid hdd
          replace hrm := Lib.hid hrm
          refine go ?_
          rw [hdd.out]
          refine go ?_
          exact E.forget wk_ (keyR () _ ⟨hrm.out, hs⟩)
      rintro _ w12 ⟨hqk, hsw, hs⟩
      have hT3 := hT2.out
      rw [hqk] at hT3
      simp only [ne_eq, not_true_eq_false, if_false] at hT3
      replace hT3 := Lib.hid hT3
      replace hqk := Lib.hid hqk
      obtain ⟨a1, c1, hok, hs⟩ := feed_open hs.swap
      have hLl : L.length ≤ 1000000000 := by omega
      refine C.heldN hs ?_
      intro w13 hs
      have hk : Keeps g5 [(b16, s.cs, 29), (b, (⟨wr, cap, fl, tm, L, false⟩ : Fe).cs db a1 c1, 167)] w13 := Keeps.of2 hs (Hl.le_refl _)
      refine EH.tail 1024 1024 1023 10 1 (Keeps g5 [(b16, s.cs, 29), (b, (⟨wr, cap, fl, tm, L, false⟩ : Fe).cs db a1 c1, 167)]) (fun _ _ => trivial) ?_
      refine goh ?_
      refine EH.bsle el_sg hs (cs := s.cs) rfl ?_
      intro b7 w14 hs
      refine kept2 hs (fun hk => ?_)
      refine goh ?_
      refine EH.appo (k := L.length) el_sg hs.pull2 (row_of_sg hs) ?_ (h1 := sg_one _)
      intro a8 c8 w15 hs
      refine kept2 hs (fun hk => ?_)
      refine goh ?_
      refine EH.done ?_
      refine A.mid ?_
      refine EH.sto (vs := [.slice a8 (L.length + 1) c8]) (ys := (⟨wr, cap, fl, tm, L ++ [s], false⟩ : Fe).cs db a8 c8) hs ?_ (hv := rfl) (hsp := by simp only [Fe.cs, List.length_append, List.length_singleton]; rfl)
      intro w16 hs
      refine ⟨trivial, ?_⟩
      refine EH.done ?_
      refine go ?_
      refine A.rd (ns.length - (i + 1)) (i + 1, L ++ [s], d2) ⟨rfl, by simp only; omega, ?_, ?_, by simp only [List.length_append, List.length_singleton]; omega, g5, hg4.trans hg5, ?_⟩
      · rw [hT3.out]
        simp
      · intro u hu
        rcases List.mem_append.1 hu with h | h
        · exact hsm1 u h
        · rw [List.mem_singleton.1 h]
          exact ⟨hsz, hss⟩
      · refine feed_close (a := a8) (c := c8) ⟨hok.wr, hok.floor, hok.time, hok.cap, fun u hu => ?_⟩ ?_
        · rcases List.mem_append.1 hu with h | h
          · exact hok.l u h
          · rw [List.mem_singleton.1 h]
            exact ⟨hxo, hsw, hsf⟩
        · simp only [sgC_append, sgC_one, List.length_append, List.length_singleton]
          exact (hs.swap.drop.swap.pull2.drop)
    rintro _ w12 ⟨hqr, hs⟩
    have hT3 := hT2.out
    rw [hqr] at hT3
    simp only at hT3
    replace hT3 := Lib.hid hT3
    replace hqr := Lib.hid hqr
    refine E.callf Tryz.func106 rfl ?_
    refine remove_any hs.pull2 ?_
    intro w13 hs
    refine go ?_
    by_cases hz : (d2.remove (nameB wr n)).1 = 0
    · have hdd : (!decide ((d2.remove (nameB wr n)).1 = 0)) = false := by simp [hz]
      refine C.cond rfl (fun h => by rw [hdd] at h; cases h) (fun _ => ?_)
      clear hdd
      have hT4 := hT3.out
      rw [if_neg (by simp [hz])] at hT4
      replace hT4 := Lib.hid hT4
      replace hz := Lib.hid hz
      refine go ?_
      exact A.rd (ns.length - (i + 1)) (i + 1, L, (d2.remove (nameB wr n)).2) ⟨rfl, by simp only; omega, hT4.out, hsm1, by simp only; omega, g5, hg4.trans hg5, hs.swap.drop.swap⟩
    · have hdd : (!decide ((d2.remove (nameB wr n)).1 = 0)) = true := by simp [hz]
      refine C.cond rfl (fun _ => ?_) (fun h => by rw [hdd] at h; cases h)
      clear hdd
      have hT4 := hT3.out
      rw [if_pos hz] at hT4
      have key := HE.out w13 g5 (hgg.trans hg5)
      rw [hT4] at key
      replace hT4 := Lib.hid hT4
      refine go ?_
      refine A.r2 ?_
      exact key hz hs.swap.drop.swap.drop
  clear hs
  rintro _ w9 ⟨l, g9, hg9, hz, hl, hs⟩
  replace hl := Lib.hid hl
  replace hz := Lib.hid hz
  refine go ?_
  refine A.r2 ?_
  exact HOK.out b l w9 g9 hg9 hz.out hl.out hs
end Go.Proofs.YtdkbpcibmipelaaGreatDoor

/-
  A file that is torn, in plain lists: what is left of its records.
-/
namespace Go.Proofs.YtdkbpcibmipelaaGreatDoor
set_option linter.unusedVariables false
set_option linter.unusedSimpArgs false

/-- Taking what is not all there. -/
theorem takeGo_torn : ∀ (k i s n m : Nat), n < 128 ^ k → 1 ≤ k → i + k ≤ 10 → (i = 0 ∨ 0 < n) → (k + i = 10 → n < 2 * 128 ^ (k - 1)) → m < (layN n).length →
    takeGo i s ((layN n).take m) = (0, 0, 5)
  | 0, _, _, _, _, _, hk, _, _, _, _ => by omega
  | k + 1, i, s, n, m, hn, _, hik, hi0, h10, hm => by
    by_cases h : n < 128
    · rw [layN_small h] at hm ⊢
      simp only [List.length_cons, List.length_nil] at hm
      have : m = 0 := by omega
      subst this
      simp [takeGo]
    · rw [layN_big h] at hm ⊢
      cases m with
      | zero => simp [takeGo]
      | succ m =>
        obtain ⟨o1, o2, o3⟩ := or128 (n % 256) (Nat.mod_lt _ (by decide))
        have h8 : (UInt8.ofNat ((n % 256) ||| 128)).toNat = (n % 256) ||| 128 := by rw [UInt8.toNat_ofNat', Nat.mod_eq_of_lt (by simpa using o1)]
        have hk1 : 1 ≤ k := by
          rcases Nat.eq_zero_or_pos k with rfl | h'
          · simp at hn; omega
          · exact h'
        have hbad : ¬ ((i = 9 ∧ 1 < ((n % 256) ||| 128)) ∨ (0 < i ∧ ((n % 256) ||| 128) = 0)) := by omega
        simp only [List.take_succ_cons, takeGo, h8]
        rw [if_neg hbad, if_neg (by omega)]
        have e7 : (2 : Nat) ^ 7 = 128 := rfl
        simp only [List.length_cons] at hm
        rw [e7] at hm ⊢
        refine takeGo_torn k (i + 1) _ (n / 128) m ?_ hk1 (by omega) (.inr (by omega)) ?_ (by omega)
        · rw [Nat.div_lt_iff_lt_mul (by decide)]
          rw [Nat.pow_succ] at hn; exact hn
        · intro h'
          have := h10 (by omega)
          obtain ⟨k', rfl⟩ : ∃ k', k = k' + 1 := ⟨k - 1, by omega⟩
          simp only [Nat.add_sub_cancel] at this ⊢
          rw [Nat.div_lt_iff_lt_mul (by decide)]
          rw [Nat.pow_succ] at this; omega
theorem takeGo_layN_torn (n : Nat) (hn : n < 18446744073709551616) (m : Nat) (hm : m < (layN n).length) : takeGo 0 0 ((layN n).take m) = (0, 0, 5) :=
  takeGo_torn 10 0 0 n m (by omega) (by decide) (by decide) (.inl rfl) (fun _ => by omega) hm
theorem openB_torn (t : List UInt8) (most m : Nat) (h : t.length ≤ most) (hm : most ≤ 1000000000) (hml : m < (wrapB t).length) : openB ((wrapB t).take m) most = .error 5 := by
  have h1 : wrapB t = layN t.length ++ (t ++ fourB (crc (textB t))) := by simp [wrapB, textB]
  have hw := wrapB_length t
  by_cases hk : m < (layN t.length).length
  · have h2 : (wrapB t).take m = (layN t.length).take m := by
      rw [h1, List.take_append_of_le_length (by omega)]
    unfold openB
    rw [h2, takeGo_layN_torn _ (by omega) m hk]
    simp
  · have h2 : (wrapB t).take m = layN t.length ++ (t ++ fourB (crc (textB t))).take (m - (layN t.length).length) := by
      rw [h1, List.take_append, List.take_of_length_le (by omega)]
    have h3 := takeGo_layN t.length (by omega) ((t ++ fourB (crc (textB t))).take (m - (layN t.length).length))
    have hlen : ((wrapB t).take m).length = m := by rw [List.length_take]; omega
    unfold openB
    have h3' : takeGo 0 0 ((wrapB t).take m) = (t.length, (layN t.length).length, 0) := by rw [h2]; exact h3
    rw [h3']
    simp only [ne_eq, not_true_eq_false, if_false, hlen]
    rw [if_neg (by omega)]
    split
    · rfl
    · rw [if_pos (by omega)]
theorem catB_cons (x : List UInt8) (ls : List (List UInt8)) : catB (x :: ls) = wrapB x ++ catB ls := by simp [catB]
theorem allC_cons (x : List UInt8) (r : List UInt8) (hx : x.length ≤ 2097152) : allC (wrapB x ++ r) = (x :: (allC r).1, (wrapB x).length + (allC r).2.1, (allC r).2.2) := by
  have := allC_cat r [x] (by simpa using hx)
  simpa [catB] using this
/-- The records of the first so many bytes. -/
theorem allC_torn : ∀ (ls : List (List UInt8)) (m : Nat), (∀ x ∈ ls, x.length ≤ 2097152) → m ≤ (catB ls).length →
    ∃ k e, k ≤ ls.length ∧ allC ((catB ls).take m) = (ls.take k, (catB (ls.take k)).length, e) ∧ (catB (ls.take k)).length ≤ m ∧ (k < ls.length → m < (catB (ls.take (k + 1))).length) ∧ (e = 0 → m = (catB (ls.take k)).length)
  | [], m, _, hm => ⟨0, 0, by simp, by simp [catB, allC_nil], by simp [catB], by simp, fun _ => by simpa [catB] using hm⟩
  | x :: ls, m, hx, hm => by
    have hx0 := hx x (by simp)
    rw [catB_cons, List.length_append] at hm
    by_cases h : m < (wrapB x).length
    · have h1 : (catB (x :: ls)).take m = (wrapB x).take m := by rw [catB_cons, List.take_append_of_le_length (by omega)]
      have h5 : (catB ((x :: ls).take (0 + 1))).length = (wrapB x).length := by simp [catB]
      rw [h1]
      by_cases h0 : m = 0
      · subst h0
        exact ⟨0, 0, by simp, by simp [catB, allC_nil], by simp [catB], fun _ => by rw [h5]; omega, fun _ => by simp [catB]⟩
      · refine ⟨0, 5, by simp, ?_, by simp [catB], fun _ => by rw [h5]; omega, fun e => by cases e⟩
        have hne : (wrapB x).take m ≠ [] := by
          have : 0 < ((wrapB x).take m).length := by rw [List.length_take]; omega
          exact List.length_pos_iff.1 this
        unfold allC
        rw [allB, if_neg hne, openB_torn x _ m hx0 (by decide) h]
        simp [catB]
    · obtain ⟨k, e, q1, q2, q3, q4, q5⟩ := allC_torn ls (m - (wrapB x).length) (fun y hy => hx y (by simp [hy])) (by omega)
      refine ⟨k + 1, e, by simpa using q1, ?_, ?_, ?_, ?_⟩
      · have h1 : (catB (x :: ls)).take m = wrapB x ++ (catB ls).take (m - (wrapB x).length) := by
          rw [catB_cons, List.take_append, List.take_of_length_le (by omega)]
        rw [h1, allC_cons _ _ hx0, q2, List.take_succ_cons, catB_cons, List.length_append]
      · rw [List.take_succ_cons, catB_cons, List.length_append]; omega
      · intro hk
        rw [List.take_succ_cons, catB_cons, List.length_append]
        have := q4 (by simpa using hk)
        omega
      · intro he
        rw [List.take_succ_cons, catB_cons, List.length_append]
        have := q5 he
        omega
theorem catB_take (ls : List (List UInt8)) (k : Nat) : (catB ls).take (catB (ls.take k)).length = catB (ls.take k) := by
  have : catB ls = catB (ls.take k) ++ catB (ls.drop k) := by
    unfold catB
    rw [← List.flatten_append, ← List.map_append, List.take_append_drop]
  rw [this, List.take_append_of_le_length (Nat.le_refl _), List.take_of_length_le (Nat.le_refl _)]
/-- A torn file is mended. -/
theorem mend_torn {d : Dk} (h : d.calm) {name : List UInt8} {t : Ti} (ht : t.ok) {ls : List (List UInt8)} {m s : Nat} (hl : ∀ x ∈ ls, x.length ≤ 2097152) (hm : m ≤ (catB ls).length) (hf : aget name d.fs = some ⟨headB t ++ (catB ls).take m, s⟩) :
    ∃ k d' s', k ≤ ls.length ∧ (catB (ls.take k)).length ≤ m ∧ (k < ls.length → m < (catB (ls.take (k + 1))).length) ∧
      d.mend name = (.ok ⟨t, ls.take k, (headB t).length + (catB (ls.take k)).length, 0⟩, d') ∧ d'.fs = aput name ⟨headB t ++ catB (ls.take k), s'⟩ d.fs ∧ d'.room = d.room ∧ d'.calm := by
  obtain ⟨k, e, q1, q2, q3, q4, q5⟩ := allC_torn ls m hl hm
  have hscan := scanB_lay t ht [] (by simp) ((catB ls).take m)
  rw [q2] at hscan
  have e0 : catB [] = [] := rfl
  simp only [e0, List.nil_append, List.length_nil, Nat.add_zero] at hscan
  have hsheet : d.sheet name = .ok ⟨t, ls.take k, (headB t).length + (catB (ls.take k)).length, e⟩ := by
    unfold Dk.sheet
    rw [h.read hf]
    exact hscan
  by_cases he : e = 0
  · have hm2 := q5 he
    refine ⟨k, d, s, q1, q3, q4, ?_, ?_, rfl, h⟩
    · unfold Dk.mend
      rw [hsheet]
      simp [he]
    · rw [hm2, catB_take] at hf
      exact (aput_same hf).symm
  · obtain ⟨d', c1, c2, c3, c4⟩ := h.cut (n := (headB t).length + (catB (ls.take k)).length) hf (by rw [List.length_append, List.length_take]; omega)
    refine ⟨k, d', (headB t).length + (catB (ls.take k)).length, q1, q3, q4, ?_, ?_, c3, c4⟩
    · unfold Dk.mend
      rw [hsheet]
      simp only [he, if_false, c1, if_true]
    · rw [c2]
      simp only
      rw [List.take_append, List.take_of_length_le (by omega), Nat.add_sub_cancel_left, List.take_take, Nat.min_eq_left q3, catB_take]
where aput_same {name : List UInt8} {f : Fl} : ∀ {fs : List (List UInt8 × Fl)}, aget name fs = some f → aput name f fs = fs
  | [], h => by cases h
  | (a, u) :: r, h => by
    simp only [aget, aput] at h ⊢
    split at h
    · rename_i heq
      simp only [Option.some.injEq] at h
      subst h
      rw [if_pos heq]
    · rename_i hne
      rw [if_neg hne, aput_same h]
end Go.Proofs.YtdkbpcibmipelaaGreatDoor

/-
  A segment's file in plain lists: any events that may be held there; a torn file.
-/
namespace Go.Proofs.YtdkbpcibmipelaaGreatDoor
open Go.RowKit
set_option linter.unusedVariables false
set_option linter.unusedSimpArgs false

/-- What is read of an event that may be. -/
theorem ep_right {e : Ev} (h : e.right = 0) : e.ep.right = 0 := by
  obtain ⟨h1, h2, h3⟩ := right_zero h
  unfold Ev.right at h
  split at h
  · omega
  rename_i a1
  split at h
  · omega
  rename_i a2
  split at h
  · omega
  rename_i a3
  show (e.ep.ev (.slice none 0 0)).right = 0
  unfold Ev.right
  have hw : ((e.wr.toNat : Nat) : Int) = e.wr := by omega
  rw [if_neg, if_neg, if_neg]
  · simpa only [Ep.ev, Ev.ep] using a3
  · rintro (⟨b1, b2, b3⟩ | ⟨b1, b2⟩)
    · simp only [Ep.ev, Ev.ep] at b1 b2 b3
      rw [if_pos ⟨b1, b2⟩] at b3
      exact a2 (.inl ⟨b1, b2, b3⟩)
    · simp only [Ep.ev, Ev.ep] at b1 b2
      rw [if_pos b1] at b2
      exact a2 (.inr ⟨b1, b2⟩)
  · simp only [Ep.ev, Ev.ep]
    rw [hw]
    rintro (b | b | b | b | b | ⟨b1, b2⟩)
    · exact b ⟨h1, h2⟩
    · exact a1 (.inr (.inl b))
    · exact a1 (.inr (.inr (.inl b)))
    · exact a1 (.inr (.inr (.inr (.inl b))))
    · exact a1 (.inr (.inr (.inr (.inr (.inl b)))))
    · rw [if_pos b1] at b2
      have := h3 b1
      omega
theorem decE_enc {e : Ev} (h : e.right = 0) (hkd : e.kd < 256) (hk : e.key.length ≤ 64) (ht : e.text.length ≤ 1048576) (hn : e.num < 18446744073709551616) (hd : e.nd.toNat ≤ 63) : decE e.enc = .ok e.ep := by
  obtain ⟨h1, h2, h3⟩ := right_zero h
  have hr := ep_right h
  unfold Ev.right at h
  split at h
  · omega
  split at h
  · omega
  split at h
  · omega
  unfold decE
  rw [rdEv_enc (by omega) (by omega) (by omega) hkd hk ht hn hd]
  simp only
  rw [if_pos hr]
/-- Events that a segment of a writer holds, the one at k ahead. -/
def Fit (i f : Nat) : Nat → List Ev → Prop
  | _, [] => True
  | k, e :: r => (e.wr = i ∧ e.sq = (f + k) % 18446744073709551616 ∧ decE e.enc = .ok e.ep ∧ e.enc.length ≤ 2097152) ∧ Fit i f (k + 1) r
theorem Fit.append {i f : Nat} : ∀ {k : Nat} {a b : List Ev}, Fit i f k a → Fit i f (k + a.length) b → Fit i f k (a ++ b)
  | _, [], _, _, hb => by simpa using hb
  | k, e :: r, b, ha, hb => ⟨ha.1, ha.2.append (by
      have e1 : k + 1 + r.length = k + (r.length + 1) := by omega
      rw [e1]; exact hb)⟩
theorem Fit.take {i f : Nat} : ∀ {k : Nat} {a : List Ev} (n : Nat), Fit i f k a → Fit i f k (a.take n)
  | _, [], n, _ => by simp [Fit]
  | _, _ :: _, 0, _ => by simp [Fit]
  | _, _ :: _, n + 1, h => ⟨h.1, h.2.take n⟩
theorem Fit.len {i f : Nat} : ∀ {k : Nat} {a : List Ev}, Fit i f k a → ∀ x ∈ a.map Ev.enc, x.length ≤ 2097152
  | _, [], _, x, hx => by cases hx
  | _, e :: r, h, x, hx => by
    rw [List.map_cons] at hx
    rcases List.mem_cons.1 hx with rfl | hx
    · exact h.1.2.2.2
    · exact h.2.len x hx
theorem catB_len1 (x : List UInt8) (r : List (List UInt8)) : (catB (x :: r)).length = recN x.length + (catB r).length := by
  simp only [catB, List.map_cons, List.flatten_cons, List.length_append, wrapB_length]
  rfl
/-- What is read back of the events that are held; and then of others. -/
theorem opE_fit {i f : Nat} : ∀ {es : List Ev} {acc : List Ep} {sz : Nat} (rest : List (List UInt8)), Fit i f acc.length es →
    opE i f acc sz (es.map Ev.enc ++ rest) = opE i f (acc ++ es.map Ev.ep) (sz + (catB (es.map Ev.enc)).length) rest
  | [], acc, sz, rest, _ => by simp [catB]
  | e :: r, acc, sz, rest, h => by
    rw [List.map_cons, List.cons_append]
    simp only [opE, h.1.2.2.1]
    have hw : e.ep.wr = i := by
      have := h.1.1
      simp only [Ev.ep]; omega
    rw [if_pos ⟨hw, h.1.2.1⟩, opE_fit (es := r) rest (by simpa using h.2)]
    rw [List.map_cons, catB_len1, List.append_assoc, Nat.add_assoc]
    rfl
theorem opE_all {i f : Nat} {es : List Ev} {sz : Nat} (h : Fit i f 0 es) : opE i f [] sz (es.map Ev.enc) = (es.map Ev.ep, sz + (catB (es.map Ev.enc)).length, false) := by
  have := opE_fit (acc := []) (sz := sz) [] h
  rw [List.append_nil, List.nil_append] at this
  rw [this]
  rfl
/-- A segment's file. -/
def segB (i f : Nat) (es : List Ev) : List UInt8 := headB ⟨115, i, f⟩ ++ catB (es.map Ev.enc)
theorem segB_len (i f : Nat) (es : List Ev) : (segB i f es).length = (headB ⟨115, i, f⟩).length + (catB (es.map Ev.enc)).length := by simp [segB]
theorem segB_snoc (i f : Nat) (es : List Ev) (e : Ev) : segB i f (es ++ [e]) = segB i f es ++ wrapB e.enc := by
  simp only [segB, List.map_append, List.map_cons, List.map_nil, catB_snoc, List.append_assoc]
/-- A torn file is opened: the first events. -/
theorem opn_torn {d : Dk} (h : d.calm) {i f : Nat} (hi : i < 64) (hf : f < 18446744073709551616) {es : List Ev} {m s : Nat} (hes : Fit i f 0 es) (hm : m ≤ (catB (es.map Ev.enc)).length) (ha : aget (nameB i f) d.fs = some ⟨headB ⟨115, i, f⟩ ++ (catB (es.map Ev.enc)).take m, s⟩) :
    ∃ k d' s', k ≤ es.length ∧ (segB i f (es.take k)).length ≤ (headB ⟨115, i, f⟩).length + m ∧ d.opn i f = (.ok ((es.take k).map Ev.ep, (segB i f (es.take k)).length, 0), d') ∧
      (d.mend (nameB i f)).1 = .ok ⟨⟨115, i, f⟩, (es.take k).map Ev.enc, (segB i f (es.take k)).length, 0⟩ ∧ d'.fs = aput (nameB i f) ⟨segB i f (es.take k), s'⟩ d.fs ∧ d'.room = d.room ∧ d'.calm := by
  have hto : Ti.ok ⟨115, i, f⟩ := ⟨by simp only; omega, hf⟩
  obtain ⟨k, d', s', h1, h2, h3, h4, h5, h6, h7⟩ := mend_torn h hto hes.len hm ha
  rw [← List.map_take] at h2 h4 h5
  rw [List.length_map] at h1
  have hsl := segB_len i f (es.take k)
  refine ⟨k, d', s', h1, by omega, ?_, by rw [h4, hsl], h5, h6, h7⟩
  simp only [Dk.opn, h4]
  rw [if_pos ⟨trivial, trivial, trivial⟩, opE_all (hes.take k), hsl]
  simp
theorem mend_whole {d : Dk} (h : d.calm) {i f : Nat} (hi : i < 64) (hf : f < 18446744073709551616) {ls : List (List UInt8)} {s : Nat} (hl : ∀ x ∈ ls, x.length ≤ 2097152) (ha : aget (nameB i f) d.fs = some ⟨headB ⟨115, i, f⟩ ++ catB ls, s⟩) :
    d.mend (nameB i f) = (.ok ⟨⟨115, i, f⟩, ls, (headB ⟨115, i, f⟩ ++ catB ls).length, 0⟩, d) := by
  have hto : Ti.ok ⟨115, i, f⟩ := ⟨by simp only; omega, hf⟩
  have hrd : d.read (nameB i f) = .ok (headB ⟨115, i, f⟩ ++ catB ls) := h.read ha
  have hsc := scanB_lay ⟨115, i, f⟩ hto ls hl []
  rw [List.append_nil, allC_nil] at hsc
  simp only [List.append_nil, Nat.add_zero] at hsc
  simp only [Dk.mend, Dk.sheet, hrd, hsc, List.length_append, if_true]
theorem opn_whole {d : Dk} (h : d.calm) {i f : Nat} (hi : i < 64) (hf : f < 18446744073709551616) {es : List Ev} {s : Nat} (hes : Fit i f 0 es) (ha : aget (nameB i f) d.fs = some ⟨segB i f es, s⟩) :
    d.opn i f = (.ok (es.map Ev.ep, (segB i f es).length, 0), d) ∧ (d.mend (nameB i f)).1 = .ok ⟨⟨115, i, f⟩, es.map Ev.enc, (segB i f es).length, 0⟩ := by
  have hm := mend_whole h hi hf hes.len ha
  refine ⟨?_, by rw [hm]; rfl⟩
  simp only [Dk.opn, hm]
  rw [if_pos ⟨trivial, trivial, trivial⟩, opE_all hes, segB_len]
  simp
end Go.Proofs.YtdkbpcibmipelaaGreatDoor

/-
  Layer 9 (feed), plain: what stands on a disk that doesn't stop.
-/
namespace Go.Proofs.YtdkbpcibmipelaaGreatDoor
open Go.RowKit
set_option linter.unusedVariables false
set_option linter.unusedSimpArgs false

section
variable {β : Type}
theorem aget_put (k : List UInt8) (v : β) : ∀ (l : List (List UInt8 × β)), aget k (aput k v l) = some v
  | [] => by simp [aput, aget]
  | (a, u) :: r => by
    simp only [aput]
    split
    · rename_i h; simp [aget, h]
    · rename_i h; simp only [aget, if_neg h, aget_put k v r]
theorem aget_put_ne {k k' : List UInt8} (v : β) (h : k' ≠ k) : ∀ (l : List (List UInt8 × β)), aget k' (aput k v l) = aget k' l
  | [] => by simp [aput, aget, h]
  | (a, u) :: r => by
    simp only [aput]
    split
    · rename_i h2
      subst h2
      simp [aget, h]
    · simp only [aget, aget_put_ne v h r]
theorem aput_keys_some {k : List UInt8} {v u : β} : ∀ {l : List (List UInt8 × β)}, aget k l = some u → (aput k v l).map Prod.fst = l.map Prod.fst
  | [], h => by cases h
  | (a, w) :: r, h => by
    simp only [aget] at h
    simp only [aput]
    split
    · rfl
    · rename_i h2
      rw [if_neg h2] at h
      simp only [List.map_cons, aput_keys_some h]
theorem aget_drop_ne {k k' : List UInt8} (h : k' ≠ k) : ∀ (l : List (List UInt8 × β)), aget k' (adrop k l) = aget k' l
  | [] => rfl
  | (a, u) :: r => by
    simp only [adrop]
    split
    · rename_i h2
      subst h2
      simp [aget, h]
    · simp only [aget, aget_drop_ne h r]
theorem aget_none_iff {k : List UInt8} : ∀ {l : List (List UInt8 × β)}, aget k l = none ↔ k ∉ l.map Prod.fst
  | [] => by simp [aget]
  | (a, u) :: r => by
    simp only [aget, List.map_cons, List.mem_cons, not_or]
    split
    · rename_i h; simp [h]
    · rename_i h; simp [h, aget_none_iff (l := r)]
theorem adrop_keys {k : List UInt8} : ∀ {l : List (List UInt8 × β)}, (l.map Prod.fst).Nodup → (adrop k l).map Prod.fst = (l.map Prod.fst).filter (fun x => !decide (x = k))
  | [], _ => rfl
  | (a, u) :: r, h => by
    simp only [List.map_cons, List.nodup_cons] at h
    simp only [adrop]
    by_cases h2 : k = a
    · subst h2
      have h3 : (r.map Prod.fst).filter (fun x => !decide (x = k)) = r.map Prod.fst := List.filter_eq_self.2 (fun x hx => by
        have : x ≠ k := by rintro rfl; exact h.1 hx
        simp [this])
      simp [List.filter_cons, h3]
    · have h4 : ¬ a = k := fun e => h2 e.symm
      rw [if_neg h2]
      simp [List.filter_cons, h4, adrop_keys h.2]
end
/-- An event that is kept, as bytes. -/
def Ep.enc (p : Ep) : List UInt8 := (p.ev (.slice none 0 0)).enc
theorem enc_raw (e : Ev) : e.enc = e.raw.enc := rfl
theorem enc_ep (e : Ev) : e.ep.enc = e.enc := by
  unfold Ep.enc Ev.enc
  have hk : ((e.ep.ev (.slice none 0 0)).keyB) = e.keyB := by
    simp only [Ev.keyB, Ep.ev, Ev.ep]
    split
    · rfl
    · rfl
  have hr : ((e.ep.ev (.slice none 0 0)).restB) = e.restB := by
    simp only [Ev.restB, Ep.ev, Ev.ep]
    by_cases h1 : e.kd = 1
    · simp [h1]
    · by_cases h2 : e.kd = 2 ∨ e.kd = 3
      · simp only [h1, if_false, if_pos h2, bitsF_twice]
      · by_cases h5 : e.kd = 5
        · simp only [h5, if_true, Int.toNat_natCast]; rfl
        · simp [h1, h2, h5]
  rw [hk, hr]
  simp only [Ep.ev, Ev.ep, Int.toNat_natCast]
theorem ep_ev_ep {e : Ev} {tv : Value} : (e.ep.ev tv).ep = e.ep := by
  simp only [Ev.ep, Ep.ev, Int.toNat_natCast, Ep.mk.injEq, true_and]
  refine ⟨?_, ?_, ?_, ?_⟩
  · split <;> rfl
  · split <;> rfl
  · by_cases h : e.kd = 2 ∨ e.kd = 3
    · simp only [if_pos h, bitsF_twice]
    · simp only [if_neg h]
  · split <;> rfl
/-- What is read of an event that may be, whatever else it bears. -/
theorem decE_right {e : Ev} (h : e.right = 0) (hkd : e.kd < 256) (hn : e.num < 18446744073709551616) : decE e.enc = .ok e.ep := by
  have h1 := ep_right h
  obtain ⟨w1, w2, w3⟩ := right_zero h
  have hd := h1
  rw [← Ep.right_ev _ (.slice none 0 0)] at hd
  have key : ∀ p : Ep, p.right = 0 → p.kd < 256 → p.num < 18446744073709551616 → (p.key.length ≤ 64) → p.text.length ≤ 1048576 → p.nd ≤ 63 → decE p.enc = .ok (p.ev (.slice none 0 0)).ep := by
    intro p hp a b c d e'
    exact decE_enc (e := p.ev (.slice none 0 0)) hp a c d b (by simpa [Ep.ev] using e')
  have hb := bitsF_lt hn
  unfold Ev.right at h
  split at h
  · omega
  split at h
  · omega
  rename_i a1 a2
  rw [← enc_ep, key e.ep h1 (by simpa [Ev.ep] using hkd) ?_ ?_ ?_ ?_]
  · rw [ep_ev_ep]
  · simp only [Ev.ep]; split <;> omega
  · simp only [Ev.ep]
    split
    · omega
    · simp
  · simp only [Ev.ep]
    split
    · omega
    · simp
  · simp only [Ev.ep]
    split
    · rename_i h5; have := w3 h5; omega
    · omega

/-- Events that a segment holds. -/
def FitP (i f : Nat) : Nat → List Ep → Prop
  | _, [] => True
  | k, p :: r => (p.wr = i ∧ p.sq = (f + k) % 18446744073709551616 ∧ decE p.enc = .ok p ∧ p.enc.length ≤ 2097152) ∧ FitP i f (k + 1) r
theorem FitP.append {i f : Nat} : ∀ {k : Nat} {a b : List Ep}, FitP i f k a → FitP i f (k + a.length) b → FitP i f k (a ++ b)
  | _, [], _, _, hb => by simpa using hb
  | k, e :: r, b, ha, hb => ⟨ha.1, ha.2.append (by
      have e1 : k + 1 + r.length = k + (r.length + 1) := by omega
      rw [e1]; exact hb)⟩
theorem FitP.len {i f : Nat} : ∀ {k : Nat} {a : List Ep}, FitP i f k a → ∀ x ∈ a.map Ep.enc, x.length ≤ 2097152
  | _, [], _, x, hx => by cases hx
  | _, e :: r, h, x, hx => by
    rw [List.map_cons] at hx
    rcases List.mem_cons.1 hx with rfl | hx
    · exact h.1.2.2.2
    · exact h.2.len x hx
theorem FitP.at {i f : Nat} : ∀ {k : Nat} {a : List Ep}, FitP i f k a → ∀ j (h : j < a.length), a[j].wr = i ∧ a[j].sq = (f + (k + j)) % 18446744073709551616
  | _, e :: r, h, 0, _ => ⟨h.1.1, h.1.2.1⟩
  | k, e :: r, h, j + 1, hj => by
    have := h.2.at j (by simpa using hj)
    rw [show k + 1 + j = k + (j + 1) by omega] at this
    exact this
theorem opP_all {i f : Nat} : ∀ {ps acc : List Ep} {sz : Nat}, FitP i f acc.length ps → opE i f acc sz (ps.map Ep.enc) = (acc ++ ps, sz + (catB (ps.map Ep.enc)).length, false)
  | [], acc, sz, _ => by simp [catB, opE]
  | p :: r, acc, sz, h => by
    rw [List.map_cons]
    simp only [opE, h.1.2.2.1]
    rw [if_pos ⟨h.1.1, h.1.2.1⟩, opP_all (ps := r) (by simpa using h.2)]
    rw [catB_len1, List.append_assoc, Nat.add_assoc]
    rfl
/-- A segment's file. -/
def segP (i f : Nat) (ps : List Ep) : List UInt8 := headB ⟨115, i, f⟩ ++ catB (ps.map Ep.enc)
theorem segP_len (i f : Nat) (ps : List Ep) : (segP i f ps).length = (headB ⟨115, i, f⟩).length + (catB (ps.map Ep.enc)).length := by simp [segP]
theorem segP_snoc (i f : Nat) (ps : List Ep) (p : Ep) : segP i f (ps ++ [p]) = segP i f ps ++ wrapB p.enc := by
  simp only [segP, List.map_append, List.map_cons, List.map_nil, catB_snoc, List.append_assoc]
theorem opn_plain {d : Dk} (h : d.calm) {i f : Nat} (hi : i < 64) (hf : f < 18446744073709551616) {ps : List Ep} {s : Nat} (hes : FitP i f 0 ps) (ha : aget (nameB i f) d.fs = some ⟨segP i f ps, s⟩) :
    d.opn i f = (.ok (ps, (segP i f ps).length, 0), d) := by
  have hm := mend_whole h hi hf hes.len ha
  simp only [Dk.opn, hm]
  rw [if_pos ⟨trivial, trivial, trivial⟩, opP_all (acc := []) hes]
  simp [segP]
end Go.Proofs.YtdkbpcibmipelaaGreatDoor

/-
  Layer 9 (feed), plain: what a feed on a disk that doesn't stop keeps.
-/
namespace Go.Proofs.YtdkbpcibmipelaaGreatDoor
open Go.RowKit
set_option linter.unusedVariables false
set_option linter.unusedSimpArgs false

def Sp.file (wr : Nat) (s : Sp) : List UInt8 := segP wr s.first s.es
def ChainP (floor : Nat) : List Sp → Prop
  | s :: t :: r => (s.first < t.first ∧ s.first + s.es.length ≤ t.first ∧ (t.first = s.first + s.es.length ∨ t.first ≤ floor + 1)) ∧ ChainP floor (t :: r)
  | _ => True
/-- A feed's segments, and its disk. -/
structure FInv (wr floor : Nat) (l : List Sp) (d : Dk) : Prop where
  lt : wr < 64
  calm : d.calm
  fit : ∀ s ∈ l, FitP wr s.first 0 s.es
  size : ∀ s ∈ l, s.size = (s.file wr).length
  first : ∀ s ∈ l, 1 ≤ s.first ∧ s.first + s.es.length ≤ 9223372036854775808
  chain : ChainP floor l
  files : ∀ s ∈ l, ∃ q, aget (nameB wr s.first) d.fs = some ⟨s.file wr, q⟩
  only : ∀ x, hasP (beginB wr) x = true → aget x d.fs ≠ none → ∃ s ∈ l, x = nameB wr s.first
  head : ∀ s, l.head? = some s → s.first ≤ floor + 1
  keys : (d.fs.map Prod.fst).Nodup
theorem FInv.frame {wr floor : Nat} {l : List Sp} {d d' : Dk} (h : FInv wr floor l d) (hk : (d'.fs.map Prod.fst).Nodup) (hc : d'.calm) (hf : ∀ x, hasP (beginB wr) x = true → aget x d'.fs = aget x d.fs) : FInv wr floor l d' :=
  ⟨h.lt, hc, h.fit, h.size, h.first, h.chain, fun s hs => by rw [hf (nameB wr s.first) (hasP_self _ _)]; exact h.files s hs, fun x hx hn => h.only x hx (by rw [← hf x hx]; exact hn), h.head, hk⟩
theorem chain_snoc {floor : Nat} {t : Sp} : ∀ {l : List Sp}, ChainP floor l → (∀ s, l.getLast? = some s → s.first < t.first ∧ s.first + s.es.length ≤ t.first ∧ (t.first = s.first + s.es.length ∨ t.first ≤ floor + 1)) → ChainP floor (l ++ [t])
  | [], _, _ => trivial
  | [s], _, h => ⟨h s rfl, trivial⟩
  | s :: u :: r, hc, h => ⟨hc.1, chain_snoc (l := u :: r) hc.2 (fun x hx => h x (by simpa using hx))⟩
theorem chain_last {floor : Nat} {s s' : Sp} (h : s'.first = s.first) : ∀ {L : List Sp}, ChainP floor (L ++ [s]) → ChainP floor (L ++ [s'])
  | [], _ => trivial
  | [u], hc => ⟨by rw [h]; exact hc.1, trivial⟩
  | u :: v :: r, hc => ⟨hc.1, chain_last h (L := v :: r) hc.2⟩
theorem chain_lt {floor : Nat} {s : Sp} : ∀ {L : List Sp}, ChainP floor (L ++ [s]) → ∀ u ∈ L, u.first < s.first
  | [], _, u, hu => by cases hu
  | [v], hc, u, hu => by
    rw [List.mem_singleton.1 hu]; exact hc.1.1
  | v :: w :: r, hc, u, hu => by
    have ih := chain_lt (L := w :: r) hc.2
    rcases List.mem_cons.1 hu with rfl | hu
    · exact Nat.lt_trans hc.1.1 (ih w (by simp))
    · exact ih u hu
theorem chain_tail {floor : Nat} {s : Sp} : ∀ {l : List Sp}, ChainP floor (s :: l) → ChainP floor l
  | [], _ => trivial
  | _ :: _, h => h.2
theorem chain_floor {floor floor' : Nat} (h : floor ≤ floor') : ∀ {l : List Sp}, ChainP floor l → ChainP floor' l
  | [], _ => trivial
  | [_], _ => trivial
  | s :: t :: r, hc => ⟨⟨hc.1.1, hc.1.2.1, hc.1.2.2.imp id (fun x => by omega)⟩, chain_floor h (l := t :: r) hc.2⟩
theorem Sp.next_eq {s : Sp} (h : s.first + s.es.length ≤ 9223372036854775808) : s.next = s.first + s.es.length := by
  unfold Sp.next; omega
theorem aget_snoc {β : Type} {k n : List UInt8} {v : β} : ∀ {l : List (List UInt8 × β)}, k ≠ n → aget k (l ++ [(n, v)]) = aget k l
  | [], h => by simp [aget, h]
  | (a, u) :: r, h => by
    simp only [List.cons_append, aget]
    split
    · rfl
    · exact aget_snoc h
/-- What one act on a file of a writer's leaves as it was. -/
structure Same (wr : Nat) (d d' : Dk) : Prop where
  calm : d'.calm
  room : d'.room = d.room
  frame : ∀ x, hasP (beginB wr) x = false → aget x d'.fs = aget x d.fs
theorem Same.trans {wr : Nat} {a b c : Dk} (h : Same wr a b) (k : Same wr b c) : Same wr a c := ⟨k.calm, k.room.trans h.room, fun x hx => (k.frame x hx).trans (h.frame x hx)⟩
theorem ne_of_hasP {p x y : List UInt8} (h : hasP p x = false) : x ≠ p ++ y := by
  rintro rfl
  rw [hasP_self] at h
  cases h

/-- A file is made safe. -/
theorem FInv.synced {wr floor : Nat} {l : List Sp} {d : Dk} (h : FInv wr floor l d) {s : Sp} (hs : s ∈ l) : ∃ d', d.sync (nameB wr s.first) = (0, d') ∧ FInv wr floor l d' ∧ Same wr d d' ∧ tk d'.fs = tk d.fs := by
  obtain ⟨q, hq⟩ := h.files s hs
  obtain ⟨d', e1, e2, e3, e4⟩ := h.calm.sync hq
  refine ⟨d', e1, ⟨h.lt, e4, h.fit, h.size, h.first, h.chain, fun t ht => ?_, fun x hx hn => ?_, h.head, by rw [e2]; exact put_keys h.keys⟩, ⟨e4, e3, fun x hx => ?_⟩, ?_⟩
  · by_cases he : nameB wr t.first = nameB wr s.first
    · have h1 := h.files t ht
      rw [he, hq] at h1
      obtain ⟨q1, h1⟩ := h1
      simp only [Option.some.injEq, Fl.mk.injEq] at h1
      refine ⟨(s.file wr).length, ?_⟩
      rw [he, e2, aget_put]
      simp only [h1.1]
    · rw [e2, aget_put_ne _ he]
      exact h.files t ht
  · rw [e2] at hn
    by_cases he : x = nameB wr s.first
    · exact ⟨s, hs, he⟩
    · rw [aget_put_ne _ he] at hn
      exact h.only x hx hn
  · rw [e2, aget_put_ne]
    exact ne_of_hasP hx
  · rw [e2]
    obtain ⟨l1, l2, h1, h2, -⟩ := al_split hq
    rw [h2, h1]
    simp only [tk_append, tk_cons]
/-- A new segment. -/
theorem FInv.begun {wr floor : Nat} {l : List Sp} {d : Dk} (h : FInv wr floor l d) {n : Nat} (h1 : 1 ≤ n) (h2 : n ≤ 9223372036854775807) (hl : ∀ s, l.getLast? = some s → s.first < n ∧ s.first + s.es.length ≤ n ∧ (n = s.first + s.es.length ∨ n ≤ floor + 1)) (hf : l = [] → n ≤ floor + 1) (hr : (tk d.fs : Int) + 39 ≤ d.room) :
    ∃ d', d.begin (nameB wr n) ⟨115, wr, n⟩ = (0, d') ∧ FInv wr floor (l ++ [⟨n, [], (headB ⟨115, wr, n⟩).length⟩]) d' ∧ Same wr d d' ∧ tk d'.fs ≤ tk d.fs + 39 := by
  have hwr := h.lt
  have hto : Ti.ok ⟨115, wr, n⟩ := ⟨by simp only; omega, by simp only; omega⟩
  have hhl := headB_len hto
  have hlt : ∀ s ∈ l, s.first < n := by
    intro s hs
    cases hla : l.getLast? with
    | none => rw [List.getLast?_eq_none_iff.1 hla] at hs; cases hs
    | some t =>
      have ht := (hl t hla).1
      obtain ⟨L, rfl⟩ := List.getLast?_eq_some_iff.1 hla
      rcases List.mem_append.1 hs with hs | hs
      · have := chain_lt h.chain s hs
        omega
      · rw [List.mem_singleton.1 hs]; exact ht
  have hnone : aget (nameB wr n) d.fs = none := by
    cases ha : aget (nameB wr n) d.fs with
    | none => rfl
    | some v =>
      obtain ⟨s, hs, he⟩ := h.only (nameB wr n) (hasP_self _ _) (by rw [ha]; simp)
      have h3 := hlt s hs
      have h4 := (h.first s hs).2
      have := nameB_inj (w := wr) (by omega) (by omega) he
      omega
  obtain ⟨d', e1, e2, e3, e4⟩ := begin_calm8 h.calm (t := ⟨115, wr, n⟩) (nameB_named (f := n) hwr (by omega)) hnone (by omega)
  refine ⟨d', e1, ⟨hwr, e4, fun s hs => ?_, fun s hs => ?_, fun s hs => ?_, chain_snoc h.chain hl, fun s hs => ?_, fun x hx hn => ?_, fun s hs => ?_, by rw [e2, ← (as_none hnone).1]; exact put_keys h.keys⟩, ⟨e4, e3, fun x hx => ?_⟩, ?_⟩
  · rcases List.mem_append.1 hs with hs | hs
    · exact h.fit s hs
    · rw [List.mem_singleton.1 hs]; trivial
  · rcases List.mem_append.1 hs with hs | hs
    · exact h.size s hs
    · rw [List.mem_singleton.1 hs]
      simp [Sp.file, segP, catB]
  · rcases List.mem_append.1 hs with hs | hs
    · exact h.first s hs
    · rw [List.mem_singleton.1 hs]
      simp only [List.length_nil]
      omega
  · rcases List.mem_append.1 hs with hs | hs
    · have h3 := hlt s hs
      have h4 := (h.first s hs).2
      have : nameB wr s.first ≠ nameB wr n := fun e => by
        have := nameB_inj (w := wr) (by omega) (by omega) e
        omega
      rw [e2, aget_snoc this]
      exact h.files s hs
    · rw [List.mem_singleton.1 hs]
      refine ⟨(headB ⟨115, wr, n⟩).length, ?_⟩
      simp only
      rw [e2, aget_last hnone]
      simp [Sp.file, segP, catB]
  · by_cases he : x = nameB wr n
    · exact ⟨_, List.mem_append_right _ (List.mem_singleton.2 rfl), he⟩
    · rw [e2, aget_snoc he] at hn
      obtain ⟨s, hs, h5⟩ := h.only x hx hn
      exact ⟨s, List.mem_append_left _ hs, h5⟩
  · cases l with
    | nil =>
      simp only [List.nil_append, List.head?_cons, Option.some.injEq] at hs
      subst hs
      exact hf rfl
    | cons a r => exact h.head s (by simpa using hs)
  · rw [e2, aget_snoc]
    exact ne_of_hasP hx
  · rw [e2, tk_append]
    simp only [tk, List.map_cons, List.map_nil, List.sum_cons, List.sum_nil] at hhl ⊢
    omega
/-- One more event in the last segment. -/
theorem FInv.added {wr floor : Nat} {L : List Sp} {s : Sp} {d : Dk} (h : FInv wr floor (L ++ [s]) d) {p : Ep} (hw : p.wr = wr) (hsq : p.sq = s.first + s.es.length) (h2 : p.sq ≤ 9223372036854775807) (hd : decE p.enc = .ok p) (hl : p.enc.length ≤ 2097152) (hr : (tk d.fs : Int) + (wrapB p.enc).length ≤ d.room) :
    ∃ d', d.add (nameB wr s.first) p.enc = (0, d') ∧ FInv wr floor (L ++ [⟨s.first, s.es ++ [p], s.size + recN p.enc.length⟩]) d' ∧ Same wr d d' ∧ tk d'.fs ≤ tk d.fs + (wrapB p.enc).length := by
  have hwr := h.lt
  have hsm : s ∈ L ++ [s] := by simp
  obtain ⟨q, hq⟩ := h.files s hsm
  have hf1 := h.first s hsm
  obtain ⟨d', e1, e2, e3, e4⟩ := add_calm8 h.calm hl (nameB_named (f := s.first) hwr (by omega)) hr
  have e5 : d'.fs = aput (nameB wr s.first) ⟨segP wr s.first (s.es ++ [p]), q⟩ d.fs := by
    rw [e2, put, hq]
    simp only [Option.getD_some, segP_snoc]
    rfl
  have hne : ∀ t ∈ L, nameB wr t.first ≠ nameB wr s.first := by
    intro t ht e
    have h3 := chain_lt h.chain t ht
    have := nameB_inj (w := wr) (by omega) (by omega) e
    omega
  refine ⟨d', e1, ⟨hwr, e4, fun t ht => ?_, fun t ht => ?_, fun t ht => ?_, chain_last (s := s) (s' := ⟨s.first, s.es ++ [p], s.size + recN p.enc.length⟩) rfl h.chain, fun t ht => ?_, fun x hx hn => ?_, fun t ht => ?_, by rw [e5]; exact put_keys h.keys⟩, ⟨e4, e3, fun x hx => ?_⟩, ?_⟩
  · rcases List.mem_append.1 ht with ht | ht
    · exact h.fit t (List.mem_append_left _ ht)
    · rw [List.mem_singleton.1 ht]
      exact (h.fit s hsm).append ⟨⟨hw, by rw [hsq]; omega, hd, hl⟩, trivial⟩
  · rcases List.mem_append.1 ht with ht | ht
    · exact h.size t (List.mem_append_left _ ht)
    · rw [List.mem_singleton.1 ht]
      have := h.size s hsm
      simp only [Sp.file] at this ⊢
      rw [segP_snoc, List.length_append, this, wrapB_length]
      rfl
  · rcases List.mem_append.1 ht with ht | ht
    · exact h.first t (List.mem_append_left _ ht)
    · rw [List.mem_singleton.1 ht]
      simp only [List.length_append, List.length_singleton]
      omega
  · rcases List.mem_append.1 ht with ht | ht
    · rw [e5, aget_put_ne _ (hne t ht)]
      exact h.files t (List.mem_append_left _ ht)
    · rw [List.mem_singleton.1 ht]
      exact ⟨q, by rw [e5, aget_put]; rfl⟩
  · by_cases he : x = nameB wr s.first
    · exact ⟨_, List.mem_append_right _ (List.mem_singleton.2 rfl), he⟩
    · rw [e5, aget_put_ne _ he] at hn
      obtain ⟨t, ht, h5⟩ := h.only x hx hn
      rcases List.mem_append.1 ht with ht | ht
      · exact ⟨t, List.mem_append_left _ ht, h5⟩
      · rw [List.mem_singleton.1 ht] at h5
        exact absurd h5 he
  · cases L with
    | nil =>
      simp only [List.nil_append, List.head?_cons, Option.some.injEq] at ht
      subst ht
      exact h.head s rfl
    | cons a r => exact h.head t (by simpa using ht)
  · rw [e5, aget_put_ne]
    exact ne_of_hasP hx
  · rw [e2, take_put_len]
    omega
end Go.Proofs.YtdkbpcibmipelaaGreatDoor

/-
  Layer 9 (feed), plain: an event is added, a feed is folded, opened anew.
-/
namespace Go.Proofs.YtdkbpcibmipelaaGreatDoor
open Go.RowKit
set_option linter.unusedVariables false
set_option linter.unusedSimpArgs false

def evS (l : List Sp) : List Ep := l.flatMap fun s => s.es
abbrev Fe.segs (f : Fe) : List Sp := f.l.map Sg.sp
/-- What a feed and its disk keep. -/
structure FGood (f : Fe) (d : Dk) : Prop where
  inv : FInv f.wr f.floor f.segs d
  own : ∀ s ∈ f.l, s.wr = f.wr
  dirty : f.dirty = true → f.l ≠ []
theorem feed_sync {f : Fe} {d : Dk} (h : FGood f d) : ∃ d', f.sync d = (0, { f with dirty := false }, d') ∧ FGood { f with dirty := false } d' ∧ Same f.wr d d' ∧ tk d'.fs = tk d.fs := by
  unfold Fe.sync
  cases hd : f.dirty with
  | false =>
    have e : ({ f with dirty := false } : Fe) = f := by cases f; simp only at hd; subst hd; rfl
    refine ⟨d, ?_, ?_, ⟨h.inv.calm, rfl, fun _ _ => rfl⟩, rfl⟩
    · simp [e]
    · rw [e]; exact h
  | true =>
    have hne := h.dirty hd
    cases hla : f.l.getLast? with
    | none => exact absurd (List.getLast?_eq_none_iff.1 hla) hne
    | some s =>
      have hs : s ∈ f.l := by
        obtain ⟨L, e⟩ := List.getLast?_eq_some_iff.1 hla
        rw [e]; simp
      obtain ⟨d', e1, e2, e3, e4⟩ := h.inv.synced (s := s.sp) (List.mem_map_of_mem hs)
      have e5 : d.sync (nameB s.wr s.first) = (0, d') := by rw [h.own s hs]; exact e1
      refine ⟨d', by simp [e5], ⟨e2, h.own, fun h => by cases h⟩, e3, e4⟩
theorem next_last {f : Fe} {d : Dk} (h : FGood f d) {L : List Sg} {s : Sg} (hl : f.l = L ++ [s]) : f.next = max (f.floor + 1) (s.first + s.x.es.length) ∧ s.next = s.first + s.x.es.length ∧ s.first + s.x.es.length ≤ 9223372036854775808 := by
  have h1 := (h.inv.first s.sp (List.mem_map_of_mem (by rw [hl]; simp))).2
  have h2 : s.first + s.x.es.length ≤ 9223372036854775808 := by simpa [Sg.sp] using h1
  have h3 : s.next = s.first + s.x.es.length := by unfold Sg.next; omega
  refine ⟨?_, h3, h2⟩
  simp [Fe.next, hl, h3]
theorem feed_rolled {f : Fe} {d : Dk} (h : FGood f d) {sq : Nat} (hsq : sq = f.next) (h2 : sq ≤ 9223372036854775807) (hr : (tk d.fs : Int) + 39 ≤ d.room) :
    ∃ f1 d1, f.rolled d sq = (0, f1, d1) ∧ FGood f1 d1 ∧ f1.wr = f.wr ∧ f1.floor = f.floor ∧ f1.time = f.time ∧ f1.cap = f.cap ∧ Same f.wr d d1 ∧ tk d1.fs ≤ tk d.fs + 39 ∧ (∃ L s, f1.l = L ++ [s] ∧ s.first + s.x.es.length = sq) ∧ evS f1.segs = evS f.segs ∧ f1.l.length ≤ f.l.length + 1 := by
  have roll : (∀ s, f.l.getLast? = some s → s.first < sq ∧ s.first + s.x.es.length ≤ sq ∧ (sq = s.first + s.x.es.length ∨ sq ≤ f.floor + 1)) → (f.l = [] → sq ≤ f.floor + 1) → 1 ≤ sq → f.full sq = true →
      ∃ f1 d1, f.rolled d sq = (0, f1, d1) ∧ FGood f1 d1 ∧ f1.wr = f.wr ∧ f1.floor = f.floor ∧ f1.time = f.time ∧ f1.cap = f.cap ∧ Same f.wr d d1 ∧ tk d1.fs ≤ tk d.fs + 39 ∧ (∃ L s, f1.l = L ++ [s] ∧ s.first + s.x.es.length = sq) ∧ evS f1.segs = evS f.segs ∧ f1.l.length ≤ f.l.length + 1 := by
    intro hl hn h1 hfu
    obtain ⟨d0, e1, e2, e3, e4⟩ := feed_sync h
    obtain ⟨d1, g1, g2, g3, g4⟩ := e2.inv.begun (n := sq) h1 h2 (fun s hs => by
      rw [List.getLast?_map] at hs
      cases hla : f.l.getLast? with
      | none => simp [hla] at hs
      | some t =>
        simp only [hla, Option.map_some, Option.some.injEq] at hs
        subst hs
        have := hl t hla
        simpa [Sg.sp] using this) (fun he => hn (by simpa using he)) (by rw [e3.room, e4]; exact hr)
    refine ⟨{ f with dirty := false, l := f.l ++ [sgNew 0 f.wr sq] }, d1, ?_, ⟨?_, ?_, fun h => by cases h⟩, rfl, rfl, rfl, rfl, e3.trans g3, by omega, ⟨f.l, sgNew 0 f.wr sq, rfl, by simp [sgNew]⟩, ?_, by simp⟩
    · simp only [Fe.rolled, hfu, if_true, Fe.roll, e1, ne_eq, not_true_eq_false, if_false]
      simp only at g1
      rw [g1]
      rfl
    · simp only [Fe.segs, List.map_append, List.map_cons, List.map_nil]
      exact g2
    · intro s hs
      rcases List.mem_append.1 hs with hs | hs
      · exact h.own s hs
      · rw [List.mem_singleton.1 hs]; rfl
    · simp [evS, Fe.segs, sgNew, Sg.sp]
  cases hla : f.l.getLast? with
  | none =>
    have hl0 := List.getLast?_eq_none_iff.1 hla
    have hnx : f.next = f.floor + 1 := by simp [Fe.next, hla]
    exact roll (fun s hs => by rw [hla] at hs; cases hs) (fun _ => by omega) (by omega) (by simp [Fe.full, hla])
  | some s =>
    obtain ⟨L, hl⟩ := List.getLast?_eq_some_iff.1 hla
    obtain ⟨n1, n2, n3⟩ := next_last h hl
    cases hfu : f.full sq with
    | true =>
      refine roll (fun t ht => ?_) (fun h0 => by rw [h0] at hla; cases hla) (by omega) hfu
      rw [hla] at ht
      simp only [Option.some.injEq] at ht
      subst ht
      simp only [Fe.full, hla, Bool.or_eq_true, Bool.and_eq_true, decide_eq_true_eq, Bool.not_eq_true', decide_eq_false_iff_not] at hfu
      omega
    | false =>
      simp only [Fe.full, hla, Bool.or_eq_false_iff, Bool.not_eq_false', decide_eq_true_eq] at hfu
      refine ⟨f, d, by simp [Fe.rolled, Fe.full, hla, hfu], h, rfl, rfl, rfl, rfl, ⟨h.inv.calm, rfl, fun _ _ => rfl⟩, by omega, ⟨L, s, hl, by omega⟩, rfl, by omega⟩
theorem Fe.next_ge (f : Fe) : f.floor + 1 ≤ f.next := by
  unfold Fe.next
  split <;> omega
/-- An event is added. -/
theorem feed_add {f : Fe} {d : Dk} (h : FGood f d) {e : Ev} (hp : f.addP e = 0) (hr : e.right = 0) (hkd : e.kd < 256) (hn : e.num < 18446744073709551616) (hlen : e.enc.length ≤ 2097152) (hroom : (tk d.fs : Int) + 39 + (wrapB e.enc).length ≤ d.room) :
    (f.addR d e).1 = 0 ∧ Same f.wr d (f.addR d e).2.2 ∧ tk (f.addR d e).2.2.fs ≤ tk d.fs + 39 + (wrapB e.enc).length ∧
      ∀ f', (f.addR d e).2.1.grown f' e → FGood f' (f.addR d e).2.2 ∧ f'.wr = f.wr ∧ f'.floor = f.floor ∧ f'.time = f.time ∧ f'.cap = f.cap ∧ f'.dirty = true ∧ evS f'.segs = evS f.segs ++ [e.ep] ∧ f'.next = e.sq + 1 ∧ f'.l.length ≤ f.l.length + 1 := by
  have hsq : e.wr = f.wr ∧ e.sq = f.next := by
    simp only [Fe.addP] at hp
    split at hp
    · cases hp
    · split at hp
      · cases hp
      · rename_i h2
        exact Classical.byContradiction fun h3 => h2 h3
  have h2 : e.sq ≤ 9223372036854775807 := by
    unfold Ev.right at hr
    split at hr
    · omega
    split at hr
    · omega
    split at hr
    · omega
    omega
  obtain ⟨f1, d1, r1, r2, r3, r4, r5, r6, r7, r8, ⟨L, s, r9, r10⟩, r11, r12⟩ := feed_rolled h hsq.2 h2 (by omega)
  have hla : f1.l.getLast? = some s := by rw [r9]; simp
  have hown := r2.own s (by rw [r9]; simp)
  have hinv := r2.inv
  simp only [Fe.segs, r9, List.map_append, List.map_cons, List.map_nil] at hinv
  obtain ⟨n1, n2, n3⟩ := next_last r2 r9
  have hw : e.ep.wr = f1.wr := by
    simp only [Ev.ep]; omega
  obtain ⟨d2, a1, a2, a3, a4⟩ := hinv.added (p := e.ep) hw (by simp only [Ev.ep, Sg.sp, List.length_map]; omega) (by simp only [Ev.ep]; omega) (by rw [enc_ep]; exact decE_right hr hkd hn) (by rw [enc_ep]; exact hlen) (by rw [enc_ep, r7.room]; omega)
  rw [enc_ep] at a1 a2 a4
  have hfit : s.fit e = 0 := by
    simp only [Sg.fit]
    rw [if_pos hr, if_pos]
    exact ⟨by omega, by omega⟩
  have hR : f.addR d e = (0, f1, d2) := by
    simp only [Fe.addR, hp, ne_eq, not_true_eq_false, if_false, r1, hla, Sg.addE, Sg.addD, hfit, if_true]
    rw [hown]
    simp only [Sg.sp] at a1
    rw [a1]
  rw [hR]
  refine ⟨rfl, r7.trans (by rw [← r3]; exact a3), by simp only; omega, ?_⟩
  rintro f' ⟨L', s0, s', q1, q2, rfl⟩
  have hLs : L' = L ∧ s0 = s := by
    have := q1.symm.trans r9
    have h1 := List.append_inj' this rfl
    exact ⟨h1.1, by simpa using h1.2⟩
  obtain ⟨rfl, rfl⟩ := hLs
  obtain ⟨tv, q3⟩ := q2.es
  have hsp : s'.sp = ⟨s0.sp.first, s0.sp.es ++ [e.ep], s0.sp.size + recN e.enc.length⟩ := by
    simp only [Sg.sp, q2.first, q3, q2.size, List.map_append, List.map_cons, List.map_nil, Ep.raw_ev]
  refine ⟨⟨?_, ?_, fun _ => by simp⟩, r3, r4, r5, r6, rfl, ?_, ?_, by rw [r9] at r12; simpa using r12⟩
  · simp only [Fe.segs, List.map_append, List.map_cons, List.map_nil, hsp]
    exact a2
  · intro t ht
    rcases List.mem_append.1 ht with ht | ht
    · exact r2.own t (by rw [r9]; exact List.mem_append_left _ ht)
    · rw [List.mem_singleton.1 ht]
      exact q2.wr.trans hown
  · rw [← r11]
    simp only [evS, Fe.segs, r9, List.map_append, List.map_cons, List.map_nil, hsp, List.flatMap_append, List.flatMap_cons, List.flatMap_nil, List.append_nil, List.append_assoc]
  · have : s'.next = e.sq + 1 := by
      unfold Sg.next
      rw [q2.first, q3, List.length_append, List.length_singleton]
      omega
    have hge := f.next_ge
    have h7 := hsq.2
    simp only [Fe.next, List.getLast?_concat, this]
    omega
end Go.Proofs.YtdkbpcibmipelaaGreatDoor

/-
  Layer 9 (feed), plain: a feed is folded, opened anew.
-/
namespace Go.Proofs.YtdkbpcibmipelaaGreatDoor
open Go.RowKit
set_option linter.unusedVariables false
set_option linter.unusedSimpArgs false

theorem chain_lt0 {floor : Nat} : ∀ {l : List Sp} {s : Sp}, ChainP floor (s :: l) → ∀ u ∈ l, s.first < u.first
  | [], _, _, u, hu => by cases hu
  | t :: r, s, hc, u, hu => by
    rcases List.mem_cons.1 hu with rfl | hu
    · exact hc.1.1
    · exact Nat.lt_trans hc.1.1 (chain_lt0 hc.2 u hu)
theorem chain_pairwise {floor : Nat} : ∀ {l : List Sp}, ChainP floor l → (l.map Sp.first).Pairwise (· < ·)
  | [], _ => List.Pairwise.nil
  | s :: r, h => by
    rw [List.map_cons, List.pairwise_cons]
    refine ⟨fun x hx => ?_, chain_pairwise (chain_tail h)⟩
    obtain ⟨u, hu, rfl⟩ := List.mem_map.1 hx
    exact chain_lt0 h u hu
/-- The first segment is removed. -/
theorem FInv.removed {wr floor : Nat} {s t : Sp} {r : List Sp} {d : Dk} (h : FInv wr floor (s :: t :: r) d) (hn : s.first + s.es.length ≤ floor + 1) : ∃ d', d.remove (nameB wr s.first) = (0, d') ∧ FInv wr floor (t :: r) d' ∧ Same wr d d' ∧ tk d'.fs ≤ tk d.fs := by
  obtain ⟨q, hq⟩ := h.files s (by simp)
  obtain ⟨d', e1, e2, e3, e4⟩ := h.calm.remove hq
  have hs1 := (h.first s (by simp)).2
  refine ⟨d', e1, ⟨h.lt, e4, fun u hu => h.fit u (List.mem_cons_of_mem _ hu), fun u hu => h.size u (List.mem_cons_of_mem _ hu), fun u hu => h.first u (List.mem_cons_of_mem _ hu), h.chain.2, fun u hu => ?_, fun x hx hnn => ?_, fun u hu => ?_, by rw [e2]; exact drop_keys h.keys⟩, ⟨e4, e3, fun x hx => ?_⟩, ?_⟩
  · have h1 := chain_lt0 h.chain u hu
    have h2 := (h.first u (List.mem_cons_of_mem _ hu)).2
    rw [e2, aget_drop_ne (fun e => by have := nameB_inj (w := wr) (by omega) (by omega) e; omega)]
    exact h.files u (List.mem_cons_of_mem _ hu)
  · rw [e2] at hnn
    have hne : x ≠ nameB wr s.first := by
      rintro rfl
      apply hnn
      rw [aget_none_iff, adrop_keys h.keys]
      simp
    rw [aget_drop_ne hne] at hnn
    obtain ⟨u, hu, h5⟩ := h.only x hx hnn
    rcases List.mem_cons.1 hu with rfl | hu
    · exact absurd h5 hne
    · exact ⟨u, hu, h5⟩
  · simp only [List.head?_cons, Option.some.injEq] at hu
    subst hu
    rcases h.chain.1.2.2 with h6 | h6 <;> omega
  · rw [e2, aget_drop_ne]
    exact ne_of_hasP hx
  · rw [e2]
    obtain ⟨l1, l2, h1, -, h3⟩ := al_split hq
    rw [h3, h1]
    simp only [tk_append, tk_cons]
    omega
/-- The only segment is removed. -/
theorem FInv.removed1 {wr floor : Nat} {s : Sp} {d : Dk} (h : FInv wr floor [s] d) : ∃ d', d.remove (nameB wr s.first) = (0, d') ∧ FInv wr floor [] d' ∧ Same wr d d' ∧ tk d'.fs ≤ tk d.fs := by
  obtain ⟨q, hq⟩ := h.files s (by simp)
  obtain ⟨d', e1, e2, e3, e4⟩ := h.calm.remove hq
  refine ⟨d', e1, ⟨h.lt, e4, fun u hu => (by cases hu), fun u hu => (by cases hu), fun u hu => (by cases hu), trivial, fun u hu => (by cases hu), fun x hx hnn => ?_, fun u hu => (by cases hu), by rw [e2]; exact drop_keys h.keys⟩, ⟨e4, e3, fun x hx => ?_⟩, ?_⟩
  · rw [e2] at hnn
    have hne : x ≠ nameB wr s.first := by
      rintro rfl
      apply hnn
      rw [aget_none_iff, adrop_keys h.keys]
      simp
    rw [aget_drop_ne hne] at hnn
    obtain ⟨u, hu, h5⟩ := h.only x hx hnn
    rw [List.mem_singleton.1 hu] at h5
    exact absurd h5 hne
  · rw [e2, aget_drop_ne]
    exact ne_of_hasP hx
  · rw [e2]
    obtain ⟨l1, l2, h1, -, h3⟩ := al_split hq
    rw [h3, h1]
    simp only [tk_append, tk_cons]
    omega
/-- The events behind a floor. -/
def liveP (floor : Nat) (l : List Sp) : List Ep := (evS l).filter fun p => decide (floor < p.sq)
theorem liveP_drop {wr floor : Nat} {s : Sp} {r : List Sp} (hf : FitP wr s.first 0 s.es) (h1 : s.first + s.es.length ≤ 9223372036854775808) (hn : s.first + s.es.length ≤ floor + 1) : liveP floor (s :: r) = liveP floor r := by
  have : s.es.filter (fun p => decide (floor < p.sq)) = [] := by
    rw [List.filter_eq_nil_iff]
    intro p hp
    obtain ⟨j, hj, rfl⟩ := List.getElem_of_mem hp
    have := (hf.at j hj).2
    simp only [decide_eq_true_eq]
    omega
  simp only [liveP, evS, List.flatMap_cons, List.filter_append, this, List.nil_append]
theorem FInv.floor {wr floor floor' : Nat} {l : List Sp} {d : Dk} (h : FInv wr floor l d) (hf : floor ≤ floor') : FInv wr floor' l d :=
  ⟨h.lt, h.calm, h.fit, h.size, h.first, chain_floor hf h.chain, h.files, h.only, fun s hs => by have := h.head s hs; omega, h.keys⟩
theorem trim_plain {wr fl : Nat} : ∀ {l : List Sg} {d : Dk}, FInv wr fl (l.map Sg.sp) d → (∀ s ∈ l, s.wr = wr) →
    ∃ l' d', trimR fl l d = (0, l', d') ∧ FInv wr fl (l'.map Sg.sp) d' ∧ Same wr d d' ∧ tk d'.fs ≤ tk d.fs ∧ liveP fl (l'.map Sg.sp) = liveP fl (l.map Sg.sp) ∧ l'.getLast? = l.getLast? ∧ l' <:+ l
  | [], d, h, _ => ⟨[], d, rfl, h, ⟨h.calm, rfl, fun _ _ => rfl⟩, Nat.le_refl _, rfl, rfl, List.suffix_refl _⟩
  | [s], d, h, _ => ⟨[s], d, rfl, h, ⟨h.calm, rfl, fun _ _ => rfl⟩, Nat.le_refl _, rfl, rfl, List.suffix_refl _⟩
  | s :: t :: r, d, h, hw => by
    have h1 := (h.first s.sp (by simp)).2
    have hnx : s.next = s.first + s.x.es.length := by
      rw [← Sg.sp_next, Sp.next_eq h1]; simp [Sg.sp]
    by_cases hc : s.next ≤ fl + 1
    · obtain ⟨d', e1, e2, e3, e4⟩ := FInv.removed (s := s.sp) (t := t.sp) (r := r.map Sg.sp) h (by simp only [Sg.sp, List.length_map]; omega)
      obtain ⟨l', d2, i1, i2, i3, i4, i5, i6, i7⟩ := trim_plain (l := t :: r) e2 (fun u hu => hw u (List.mem_cons_of_mem _ hu))
      have e5 : d.remove (nameB s.wr s.first) = (0, d') := by rw [hw s (by simp)]; exact e1
      refine ⟨l', d2, ?_, i2, e3.trans i3, by omega, ?_, by rw [i6]; simp, i7.trans (List.suffix_cons _ _)⟩
      · unfold trimR
        rw [if_pos hc, e5]
        simpa using i1
      · have h9 := liveP_drop (floor := fl) (s := s.sp) (r := (t :: r).map Sg.sp) (h.fit s.sp (by simp)) h1 (by simp only [Sg.sp, List.length_map]; omega)
        rw [i5, List.map_cons (l := t :: r), h9]
    · refine ⟨s :: t :: r, d, ?_, h, ⟨h.calm, rfl, fun _ _ => rfl⟩, Nat.le_refl _, rfl, rfl, List.suffix_refl _⟩
      unfold trimR
      rw [if_neg hc]
/-- A feed is folded. -/
theorem feed_fold {f : Fe} {d : Dk} (h : FGood f d) {fl tm : Nat} (hb : f.floor ≤ fl) (hn : fl < f.next) (hd : f.dirty = false) :
    ∃ l' d', f.foldR d fl tm = (0, { f with floor := fl, time := max f.time tm, l := l' }, d') ∧ FGood { f with floor := fl, time := max f.time tm, l := l' } d' ∧ Same f.wr d d' ∧ tk d'.fs ≤ tk d.fs ∧ liveP fl (l'.map Sg.sp) = liveP fl f.segs ∧
      Fe.next { f with floor := fl, time := max f.time tm, l := l' } = f.next ∧ l' <:+ f.l := by
  obtain ⟨l', d', e1, e2, e3, e4, e5, e6, e7⟩ := trim_plain (h.inv.floor hb) h.own
  refine ⟨l', d', ?_, ⟨e2, fun s hs => h.own s (e7.subset hs), fun hx => by simp only at hx; rw [hd] at hx; cases hx⟩, e3, e4, e5, ?_, e7⟩
  · unfold Fe.foldR
    rw [if_neg (by rintro (h1 | h1 | h1); · omega
                   · omega
                   · rw [hd] at h1; cases h1), e1]
  · simp only [Fe.next, e6]
    cases hla : f.l.getLast? with
    | none =>
      simp only [Fe.next, hla] at hn
      simp only
      omega
    | some s =>
      simp only [Fe.next, hla] at hn
      simp only
      omega
/-- The names of a feed's segments. -/
theorem feed_names {wr floor : Nat} {l : List Sp} {d : Dk} (h : FInv wr floor l d) : d.names (beginB wr) = (l.map Sp.first).map (nameB wr) := by
  have hlt : ∀ n ∈ l.map Sp.first, n < 18446744073709551616 := by
    intro n hn
    obtain ⟨s, hs, rfl⟩ := List.mem_map.1 hn
    have := (h.first s hs).2
    omega
  have hpw := chain_pairwise h.chain
  refine names_firsts h.calm.1 ?_ hpw hlt
  have hnd : ((l.map Sp.first).map (nameB wr)).Nodup := by
    rw [List.nodup_iff_pairwise_ne, List.pairwise_map]
    refine hpw.imp_of_mem fun {a b} ha hb hab e => ?_
    have := nameB_inj (w := wr) (hlt a ha) (hlt b hb) e
    omega
  refine (List.perm_ext_iff_of_nodup (h.keys.filter _) hnd).2 fun x => ?_
  rw [List.mem_filter]
  constructor
  · rintro ⟨hx, hp⟩
    obtain ⟨s, hs, rfl⟩ := h.only x hp (fun e => by rw [aget_none_iff] at e; exact e hx)
    exact List.mem_map_of_mem (List.mem_map_of_mem hs)
  · intro hx
    obtain ⟨n, hn, rfl⟩ := List.mem_map.1 hx
    obtain ⟨s, hs, rfl⟩ := List.mem_map.1 hn
    refine ⟨?_, hasP_self _ _⟩
    obtain ⟨q, hq⟩ := h.files s hs
    exact Classical.byContradiction fun hc => by
      rw [aget_none_iff.2 hc] at hq
      cases hq
end Go.Proofs.YtdkbpcibmipelaaGreatDoor

/-
  Layer 9 (feed), plain: a feed that is opened anew has the same events.
-/
namespace Go.Proofs.YtdkbpcibmipelaaGreatDoor
open Go.RowKit
set_option linter.unusedVariables false
set_option linter.unusedSimpArgs false

/-- The segments that are kept. -/
def keepL (floor : Nat) : List Sp → List Sp
  | [] => []
  | [s] => if s.next ≤ floor + 1 ∧ 0 < s.es.length then [] else [s]
  | s :: t :: r => if s.next ≤ floor + 1 then keepL floor (t :: r) else s :: t :: r
theorem opn_inv {wr floor : Nat} {l : List Sp} {d : Dk} (h : FInv wr floor l d) {s : Sp} (hs : s ∈ l) : d.opn wr s.first = (.ok (s.es, s.size, 0), d) := by
  obtain ⟨q, hq⟩ := h.files s hs
  have := (h.first s hs).2
  rw [opn_plain h.calm h.lt (by omega) (h.fit s hs) hq, h.size s hs]
  rfl
theorem fopS_keep {wr floor n sz : Nat} {last : Bool} {es : List Ep} {acc : List Sp} {d : Dk} (hop : d.opn wr n = (.ok (es, sz, 0), d)) (hk : keepP floor acc last ⟨n, es, sz⟩ 0 = true) : fopS wr floor last n acc d = (0, acc ++ [⟨n, es, sz⟩], d) := by
  have h1 : opR (d.opn wr n).1 = 0 := by rw [hop]; rfl
  have h2 : opS n (d.opn wr n).1 = ⟨n, es, sz⟩ := by rw [hop]; rfl
  have h3 : (d.opn wr n).2 = d := by rw [hop]
  unfold fopS
  rw [if_neg (by rw [h1]; decide), if_pos (by rw [h1, h2]; exact hk), h2, h3]
theorem fopS_rm {wr floor n sz : Nat} {last : Bool} {es : List Ep} {acc : List Sp} {d : Dk} (hop : d.opn wr n = (.ok (es, sz, 0), d)) (hk : keepP floor acc last ⟨n, es, sz⟩ 0 = false) : fopS wr floor last n acc d = ((d.remove (nameB wr n)).1, acc, (d.remove (nameB wr n)).2) := by
  have h1 : opR (d.opn wr n).1 = 0 := by rw [hop]; rfl
  have h2 : opS n (d.opn wr n).1 = ⟨n, es, sz⟩ := by rw [hop]; rfl
  have h3 : (d.opn wr n).2 = d := by rw [hop]
  unfold fopS
  rw [if_neg (by rw [h1]; decide), if_neg (by rw [h1, h2, hk]; decide), h3]
theorem nextP_snoc (floor : Nat) (l : List Sp) (s : Sp) : nextP floor (l ++ [s]) = max (floor + 1) s.next := by simp [nextP]
/-- Behind a segment that has something behind the floor all are kept. -/
theorem fop_rest {wr floor : Nat} {d : Dk} : ∀ {r acc : List Sp} {s : Sp}, FInv wr floor (acc ++ s :: r) d → floor + 1 < s.next → fopR wr floor (r.map Sp.first) (acc ++ [s]) d = (0, acc ++ s :: r, d)
  | [], acc, s, h, _ => by simp [fopR]
  | t :: r, acc, s, h, hs => by
    have hsm : s ∈ acc ++ s :: t :: r := by simp
    have htm : t ∈ acc ++ s :: t :: r := by simp
    have hsn := Sp.next_eq (h.first s hsm).2
    have htn := Sp.next_eq (h.first t htm).2
    have hch : t.first = s.first + s.es.length := by
      have hc : ∀ (acc : List Sp), ChainP floor (acc ++ s :: t :: r) → ChainP floor (s :: t :: r) := by
        intro acc
        induction acc with
        | nil => exact id
        | cons a acc ih => exact fun hc => ih (chain_tail hc)
      have := (hc acc h.chain).1
      omega
    have hk : keepP floor (acc ++ [s]) ((r.map Sp.first).isEmpty) t 0 = true := by
      have h1 : folP floor (acc ++ [s]) t = true := by
        have : nextP floor (acc ++ [s]) = t.first := by rw [nextP_snoc]; omega
        unfold folP
        cases hacc : acc ++ [s] with
        | nil => simp at hacc
        | cons a b =>
          simp only
          rw [← hacc, this]
          simp
      unfold keepP
      rw [h1, decide_eq_false (show ¬ t.next ≤ floor + 1 by omega)]
      rfl
    have hstep : fopS wr floor ((r.map Sp.first).isEmpty) t.first (acc ++ [s]) d = (0, acc ++ [s] ++ [t], d) := by
      exact fopS_keep (opn_inv h htm) hk
    rw [List.map_cons]
    unfold fopR
    rw [hstep]
    simp only [ne_eq, not_true_eq_false, if_false]
    have e : acc ++ s :: t :: r = (acc ++ [s]) ++ t :: r := by simp
    rw [e] at h ⊢
    exact fop_rest (acc := acc ++ [s]) (s := t) h (by omega)
theorem fop_plain {wr floor : Nat} : ∀ {l : List Sp} {d : Dk}, FInv wr floor l d → ∃ d', fopR wr floor (l.map Sp.first) [] d = (0, keepL floor l, d') ∧ FInv wr floor (keepL floor l) d' ∧ Same wr d d' ∧ tk d'.fs ≤ tk d.fs ∧ liveP floor (keepL floor l) = liveP floor l ∧ nextP floor (keepL floor l) = nextP floor l
  | [], d, h => ⟨d, rfl, h, ⟨h.calm, rfl, fun _ _ => rfl⟩, Nat.le_refl _, rfl, rfl⟩
  | [s], d, h => by
    have hsm : s ∈ [s] := by simp
    have hsn := Sp.next_eq (h.first s hsm).2
    have hhd := h.head s rfl
    have hfo : folP floor [] s = true := decide_eq_true hhd
    have hop := opn_inv h hsm
    by_cases hk : s.next ≤ floor + 1 ∧ 0 < s.es.length
    · obtain ⟨d', e1, e2, e3, e4⟩ := h.removed1
      have hstep : fopS wr floor true s.first [] d = (0, [], d') := by
        rw [fopS_rm hop, e1]
        unfold keepP
        rw [decide_eq_true hk.1, decide_eq_true hk.2]
        simp
      refine ⟨d', ?_, ?_, e3, e4, ?_, ?_⟩
      · simp only [List.map_cons, List.map_nil, fopR, List.isEmpty_nil, hstep, ne_eq, not_true_eq_false, if_false, keepL, if_pos hk]
      · simpa [keepL, if_pos hk] using e2
      · simp only [keepL, if_pos hk]
        exact (liveP_drop (h.fit s hsm) (h.first s hsm).2 (by omega)).symm
      · simp only [keepL, if_pos hk, nextP, List.getLast?_nil, List.getLast?_singleton]
        omega
    · have hstep : fopS wr floor true s.first [] d = (0, [s], d) := by
        rw [fopS_keep hop]
        · rfl
        · unfold keepP
          rw [show folP floor [] ⟨s.first, s.es, s.size⟩ = true from hfo]
          have : (decide (Sp.next ⟨s.first, s.es, s.size⟩ ≤ floor + 1) && (!true || decide (0 < s.es.length))) = false := by
            rw [Bool.eq_false_iff]
            intro hx
            simp only [Bool.not_true, Bool.false_or, Bool.and_eq_true, decide_eq_true_eq] at hx
            exact hk hx
          rw [this]
          rfl
      refine ⟨d, ?_, ?_, ⟨h.calm, rfl, fun _ _ => rfl⟩, Nat.le_refl _, ?_, ?_⟩
      · simp only [List.map_cons, List.map_nil, fopR, List.isEmpty_nil, hstep, ne_eq, not_true_eq_false, if_false, keepL, if_neg hk]
      · simpa only [keepL, if_neg hk] using h
      · simp only [keepL, if_neg hk]
      · simp only [keepL, if_neg hk]
  | s :: t :: r, d, h => by
    have hsm : s ∈ s :: t :: r := by simp
    have hsn := Sp.next_eq (h.first s hsm).2
    have hhd := h.head s rfl
    have hfo : folP floor [] s = true := decide_eq_true hhd
    have hop := opn_inv h hsm
    by_cases hk : s.next ≤ floor + 1
    · obtain ⟨d1, e1, e2, e3, e4⟩ := h.removed (by omega)
      have hstep : fopS wr floor false s.first [] d = (0, [], d1) := by
        rw [fopS_rm hop, e1]
        unfold keepP
        rw [decide_eq_true (show Sp.next ⟨s.first, s.es, s.size⟩ ≤ floor + 1 from hk)]
        simp
      obtain ⟨d2, i1, i2, i3, i4, i5, i6⟩ := fop_plain (l := t :: r) e2
      refine ⟨d2, ?_, ?_, e3.trans i3, by omega, ?_, ?_⟩
      · rw [List.map_cons, fopR]
        simp only [List.map_cons, List.isEmpty_cons, hstep, ne_eq, not_true_eq_false, if_false, keepL, if_pos hk]
        simpa using i1
      · simpa only [keepL, if_pos hk] using i2
      · simp only [keepL, if_pos hk]
        rw [i5]
        exact (liveP_drop (h.fit s hsm) (h.first s hsm).2 (by omega)).symm
      · simp only [keepL, if_pos hk]
        rw [i6]
        simp [nextP]
    · have hstep : fopS wr floor false s.first [] d = (0, [s], d) := by
        rw [fopS_keep hop]
        · rfl
        · unfold keepP
          rw [show folP floor [] ⟨s.first, s.es, s.size⟩ = true from hfo, decide_eq_false (show ¬ Sp.next ⟨s.first, s.es, s.size⟩ ≤ floor + 1 from hk)]
          rfl
      have hrest := fop_rest (acc := []) (s := s) (r := t :: r) h (by omega)
      refine ⟨d, ?_, ?_, ⟨h.calm, rfl, fun _ _ => rfl⟩, Nat.le_refl _, ?_, ?_⟩
      · rw [List.map_cons, fopR]
        simp only [List.map_cons, List.isEmpty_cons, hstep, ne_eq, not_true_eq_false, if_false, keepL, if_neg hk]
        simpa using hrest
      · simpa only [keepL, if_neg hk] using h
      · simp only [keepL, if_neg hk]
      · simp only [keepL, if_neg hk]
end Go.Proofs.YtdkbpcibmipelaaGreatDoor

/-
  The law of layer 9: its events; awake.
-/
namespace Go.Proofs.YtdkbpcibmipelaaGreatDoor
open Go.RowKit
set_option linter.unusedVariables false
set_option linter.unusedSimpArgs false

def evQ (V sq tm : Nat) (tv : Value) : Ev := ⟨3, sq, tm, 1 + V % 4, [UInt8.ofNat (97 + V % 5)], if 1 + V % 4 = 1 then List.replicate (V % 20) 0 else [], 0, 0, tv⟩
theorem evQ_text (V sq tm : Nat) (tv : Value) : (evQ V sq tm tv).text.length ≤ 20 := by
  simp only [evQ]; split
  · simp; omega
  · simp
theorem evQ_right {V sq tm : Nat} {tv : Value} (h1 : 1 ≤ sq) (h2 : sq ≤ 9223372036854775807) (h3 : 1 ≤ tm) (h4 : tm ≤ 9223372036854775807) : (evQ V sq tm tv).right = 0 := by
  have hl := evQ_text V sq tm tv
  have hk : (evQ V sq tm tv).key.length = 1 := rfl
  have hkd : (evQ V sq tm tv).kd = 1 + V % 4 := rfl
  unfold Ev.right
  rw [hk, hkd, if_neg, if_neg, if_neg]
  · simp only [evQ]; omega
  · omega
  · simp only [evQ]; omega
theorem evQ_len {V sq tm : Nat} {tv : Value} (h2 : sq < 18446744073709551616) (h4 : tm < 18446744073709551616) : (evQ V sq tm tv).enc.length ≤ 82 := by
  have hl := evQ_text V sq tm tv
  have h := Ev.enc_len (evQ V sq tm tv) (by simp only [evQ]; omega) h2 h4 (by simp [evQ]) (by omega) (by simp [evQ])
  have hk1 : (evQ V sq tm tv).key.length = 1 := rfl
  omega

set_option maxHeartbeats 1600000 in
set_option maxRecDepth 100000 in
theorem event9_any {R : Ending → World → Prop} {W w : World} {g : Hl} {H : List HP} {K V sq tm : Nat} (hA : V < 256) (hsq : sq < 18446744073709551616) (htm : tm < 18446744073709551616) (hs : Sat W w g H)
    (hR : ∀ tv w' g', Hl.le g g' → (evQ V sq tm tv).ok g' → Sat W w' g' H → R (.returned (evQ V sq tm tv).val) w') : Calls Tryz.prog 36 #[.agg #[.int .u8 K, .int .u8 V], .int .u64 sq, .int .u64 tm] w R := by
  have HR := Lib.hid hR
  clear hR
  have ag1 := ag_ev
  refine C.calls (args := [(.agg #[.int .u8 K, .int .u8 V]), .int .u64 sq, .int .u64 tm]) Tryz.func36 rfl rfl rfl ?_
  refine go ?_
  refine E.bx hs ?_
  intro b3 w1 hs
  refine go ?_
  refine E.al hs ?_
  intro b6 w2 hs
  refine go ?_
  refine E.bsl hs ?_
  intro b9 w3 hs
  have hch : ((97 + V % 5 : Nat) : Int) = ((UInt8.ofNat (97 + V % 5)).toNat : Int) := by
    have : (UInt8.ofNat (97 + V % 5)).toNat = 97 + V % 5 := by
      rw [UInt8.toNat_ofNat']; omega
    rw [this]
  refine E.strc (bl := [UInt8.ofNat (97 + V % 5)]) (by
    have := hs.rowOf (size := 1) 1 rfl (by decide)
    simp only [bs, List.map_cons, List.map_nil]
    rw [← hch]
    exact this) Tryz.underlying33 Tryz.underlying5 Tryz.underlying9 ?_
  clear hch
  generalize hc : UInt8.ofNat (97 + V % 5) = ch
  have hc := Lib.hid hc
  refine go ?_
  refine E.al hs ?_
  intro b7 w4 hs
  refine go ?_
  refine E.sto hs ?_
  intro w5 hs
  refine go ?_
  refine C.cond_dec (p := (1 : Int) + V % 4 = 1) rfl (fun h => ?_) (fun h => ?_)
  · have hK0 : 1 + V % 4 = 1 := by omega
    refine go ?_
    refine E.mk (k2 := V % 20) el_u8 hs ?_ (hi := (Int.ofNat_tmod V 20).symm) (hj := (Int.ofNat_tmod V 20).symm)
    intro a11 w6 hs
    refine go ?_
    refine E.sto (vs := [.slice a11 (V % 20) (V % 20)]) (ys := [.int .i64 3, .int .u64 sq, .int .u64 tm, .int .u8 (1 + (V : Int) % 4), .string ⟨#[ch]⟩, .slice a11 (V % 20) (V % 20), .float .f64 0, .int .i64 0]) hs ?_ (hv := rfl) (hsp := rfl)
    intro w7 hs
    refine go ?_
    refine E.sto (vs := [.int .i64 3, .int .u64 sq, .int .u64 tm, .int .u8 (1 + (V : Int) % 4), .string ⟨#[ch]⟩, .slice a11 (V % 20) (V % 20), .float .f64 0, .int .i64 0]) (ys := [.int .i64 3, .int .u64 sq, .int .u64 tm, .int .u8 (1 + (V : Int) % 4), .string ⟨#[ch]⟩, .slice a11 (V % 20) (V % 20), .float .f64 0, .int .i64 0]) hs ?_ (hv := rfl) (hsp := rfl)
    intro w8 hs
    refine go ?_
    obtain ⟨g9, hg9, hp9, hs⟩ := hs.publishOwn
    refine A.c1 rfl rfl (run_lda hs.pull2 ag_ev) ?_
    have key := HR.out (.slice a11 (V % 20) (V % 20)) w8 g9 hg9
    have hc := hc.out
    subst hc
    simp only [evQ, if_pos hK0] at key
    exact key ⟨by simp only; omega, hsq, htm, by simp only; omega, by simp only; omega, by simp only; omega, by simp, by simp; omega, by
      simp only [List.length_replicate]
      rw [zeros8] at hp9
      exact hp9⟩ hs.drop.drop.drop.drop
  · have hK0 : ¬ 1 + V % 4 = 1 := by omega
    refine go ?_
    refine E.sto hs ?_
    intro w7 hs
    refine go ?_
    refine A.c1 rfl rfl (run_lda hs.swap ag_ev) ?_
    have key := HR.out (.slice none 0 0) w7 g (Hl.le_refl _)
    have hc := hc.out
    subst hc
    simp only [evQ, if_neg hK0] at key
    exact key ⟨by simp only; omega, hsq, htm, by simp only; omega, by simp only; omega, by simp only; omega, by simp, by simp, Pr.nil⟩ hs.drop.drop.drop.drop

set_option maxHeartbeats 1600000 in
set_option maxRecDepth 100000 in
theorem fwriter_any {R : Ending → World → Prop} {W w : World} {g : Hl} {H : List HP} {b db : Nat} {f : Fe} (hs : Sat W w g (feed b db f :: H))
    (hR : ∀ w', Sat W w' g (feed b db f :: H) → R (.returned (.int .i64 f.wr)) w') : Calls Tryz.prog 46 #[ptr b] w R := by
  have HR := Lib.hid hR
  clear hR
  obtain ⟨a, c, hok, hs⟩ := feed_open hs
  refine C.calls (args := [ptr b]) Tryz.func46 rfl rfl rfl ?_
  refine go ?_
  refine A.r1 ?_
  exact HR.out _ (feed_close hok hs)
set_option maxHeartbeats 1600000 in
set_option maxRecDepth 100000 in
theorem ffloor_any {R : Ending → World → Prop} {W w : World} {g : Hl} {H : List HP} {b db : Nat} {f : Fe} (hs : Sat W w g (feed b db f :: H))
    (hR : ∀ w', Sat W w' g (feed b db f :: H) → R (.returned (.int .u64 f.floor)) w') : Calls Tryz.prog 39 #[ptr b] w R := by
  have HR := Lib.hid hR
  clear hR
  obtain ⟨a, c, hok, hs⟩ := feed_open hs
  refine C.calls (args := [ptr b]) Tryz.func39 rfl rfl rfl ?_
  refine go ?_
  refine A.r1 ?_
  exact HR.out _ (feed_close hok hs)
/-- V feed of a new disk. -/
theorem fopen_new {R : Ending → World → Prop} {W w : World} {g : Hl} {H : List HP} {db wr fl tm : Nat} {room cap : Int} (hg : Gl g) (hwr : wr < 64) (hfl : fl ≤ 9223372036854775807) (htm : tm < 18446744073709551616) (hcap : -9223372036854775808 ≤ cap ∧ cap ≤ 9223372036854775807) (hs : Sat W w g (disk db ⟨[], room, -1, 0, 0, false⟩ :: H))
    (hR : ∀ b w' g', Hl.le g g' → Sat W w' g' (feed b db ⟨wr, cap, fl, tm, [], false⟩ :: disk db ⟨[], room, -1, 0, 0, false⟩ :: H) → R (.returned (.tuple #[ptr b, .int .i64 0])) w') :
    Calls Tryz.prog 34 #[ptr db, .int .i64 wr, .int .i64 cap, .int .u64 fl, .int .u64 tm] w R := by
  have hn : Dk.names ⟨[], room, -1, 0, 0, false⟩ (beginB wr) = ([] : List Nat).map (nameB wr) := by
    simp [Dk.names, rising]
  refine fopen_any (ns := []) hg hwr hfl htm hcap (fun p hp => by cases hp) (by simp) hn (fun n hn => by cases hn) hs (fun b l w' g' hg' _ hl hs => ?_) (fun w' g' _ h _ => absurd rfl h)
  have : l = [] := by
    simp only [fopR] at hl
    simpa using hl
  subst this
  exact hR b w' g' hg' hs

set_option maxHeartbeats 1600000 in
set_option maxRecDepth 100000 in
theorem awake9_any {R : Ending → World → Prop} {W w : World} {g : Hl} {H : List HP} (hg : Gl g) (hs : Sat W w g H) (hR : ∀ w' g', Hl.le g g' → Sat W w' g' H → R (.returned (.bool true)) w') : Calls Tryz.prog 33 #[] w R := by
  have HR := Lib.hid hR
  clear hR
  refine C.calls (args := []) Tryz.func33 rfl rfl rfl ?_
  refine go ?_
  refine E.callf Tryz.func16 rfl ?_
  refine new_any (by omega) hs ?_
  intro db w1 hs
  refine go ?_
  refine E.callf Tryz.func34 rfl ?_
  refine fopen_new (wr := 3) (fl := 4) (tm := 0) hg (by decide) (by decide) (by decide) (by decide) hs ?_
  intro b w2 g2 hg2 hs
  refine go ?_
  have hsm : Fe.small ⟨3, 100, 4, 0, [], false⟩ := fun s hs => by cases hs
  refine E.callf Tryz.func40 rfl ?_
  refine fnext_any hsm hs ?_
  intro w3 hs
  rw [show Fe.next ⟨3, 100, 4, 0, [], false⟩ = 5 from rfl]
  refine go ?_
  refine E.callf Tryz.func46 rfl ?_
  refine fwriter_any hs ?_
  intro w4 hs
  refine go ?_
  refine A.r1 ?_
  exact HR.out _ _ hg2 hs.drop.drop
end Go.Proofs.YtdkbpcibmipelaaGreatDoor
