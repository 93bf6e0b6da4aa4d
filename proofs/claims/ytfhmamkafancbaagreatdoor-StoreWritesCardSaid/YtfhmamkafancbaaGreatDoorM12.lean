/-
  Layer 14 (store): note; Clock and what else is asked of it.
-/
import Derived.Test.YtfhmamkafancbaaGreatDoorM11
import Derived.Test.YtfhmamkafancbaaGreatDoorM10
import Derived.Test.YtfhmamkafancbaaGreatDoorM08
import Derived.Test.YtfhmamkafancbaaGreatDoorM03
import Derived.Test.YtfhmamkafancbaaGreatDoorM09
import Derived.Test.YtfhmamkafancbaaGreatDoorM06
namespace Go.Proofs.YtfhmamkafancbaaGreatDoor
open Go.RowKit
set_option linter.unusedVariables false
set_option linter.unusedSimpArgs false
/-- Who joins, who retires, by an event. -/
def So.note (s : So) (e : Ev) : So := if e.kd = 5 then { s with jo := s.jo.set e.nd.toNat true } else if e.kd = 6 then { s with re := s.re.set e.wr.toNat true } else s
theorem So.note_ok {s : So} (h : s.ok) (e : Ev) : (s.note e).ok := by
  unfold So.note
  split
  · exact ⟨h.size, h.m, h.fs, h.clock, by simpa using h.jo, h.re⟩
  · split
    · exact ⟨h.size, h.m, h.fs, h.clock, h.jo, by simpa using h.re⟩
    · exact h
theorem So.note_m (s : So) (e : Ev) : (s.note e).m = s.m ∧ (s.note e).base = s.base ∧ (s.note e).fs = s.fs ∧ (s.note e).clock = s.clock ∧ (s.note e).size = s.size := by
  unfold So.note
  split
  · exact ⟨rfl, rfl, rfl, rfl, rfl⟩
  · split
    · exact ⟨rfl, rfl, rfl, rfl, rfl⟩
    · exact ⟨rfl, rfl, rfl, rfl, rfl⟩
theorem Si.ok.note {i : Si} {s : So} {g : Hl} (h : i.ok s g) (e : Ev) : i.ok (s.note e) g := by
  obtain ⟨h1, h2, h3, h4, h5⟩ := s.note_m e
  exact ⟨So.note_ok h.ok e, h.len, by rw [h1]; exact h.vec⟩
set_option maxHeartbeats 1600000 in
set_option maxRecDepth 100000 in
theorem note_any {R : Ending → World → Prop} {W w : World} {g : Hl} {H : List HP} {sb db : Nat} {i : Si} {s : So} {e : Ev} (hi : i.ok s g) (ho : e.ok g) (hn : e.kd = 5 → 0 ≤ e.nd ∧ e.nd < 64) (hw : e.kd = 6 → 0 ≤ e.wr ∧ e.wr < 64) (hs : Sat W w g (soB sb db i s :: H))
    (hR : ∀ w', Sat W w' g (soB sb db i (s.note e) :: H) → R (.returned (.tuple #[])) w') : Calls Tryz.prog 54 #[ptr sb, e.val] w R := by
  have HR := Lib.hid hR
  clear hR
  have ag1 := ag_ev
  have hfv := hi.fv
  have hjo := hi.ok.jo
  have hre := hi.ok.re
  simp only [soB] at hs
  obtain ⟨a, c, etv, hnc, _⟩ := ho.tv.len
  obtain ⟨wr, sq, tm, kd, key, text, num, nd, tv⟩ := e
  simp only at etv hn hw
  subst etv
  simp only [So.note] at HR
  refine C.calls (args := [ptr sb, .agg #[.int .i64 wr, .int .u64 sq, .int .u64 tm, .int .u8 kd, .string ⟨key.toArray⟩, .slice a text.length c, .float .f64 num, .int .i64 nd]]) Tryz.func54 rfl rfl rfl ?_
  refine go ?_
  refine E.bx hs ?_
  intro b3 w1 hs
  refine go ?_
  by_cases h5 : kd = 5
  · obtain ⟨h1, h2⟩ := hn h5
    obtain ⟨n, rfl⟩ := Int.eq_ofNat_of_zero_le h1
    have hn64 : n < 64 := by omega
    rw [decide_eq_true (show (kd : Int) = 5 by omega)]
    refine go ?_
    refine C.held1 b3 hs ?_
    intro w2 hk hs
    refine goh ?_
    refine EH.sto (vs := [.bool true]) (ys := stC db s.size s.m i.a i.c i.bb (i.bs.map ptr) s.clock (s.jo.set n true) s.re) hs ?_ (hv := rfl) (hsp := stC_setjo hfv hjo hn64 true) (hj := stC_fit hfv hjo hre (by simp only [List.length_singleton]; omega))
    intro w3 hs
    refine kept1 hs (fun hk => ?_)
    refine EH.done ?_
    refine go ?_
    refine A.e0 ?_
    have key := HR.out w3
    rw [if_pos h5] at key
    exact key hs.drop
  · rw [decide_eq_false (show ¬ (kd : Int) = 5 by omega)]
    refine go ?_
    by_cases h6 : kd = 6
    · obtain ⟨h1, h2⟩ := hw h6
      obtain ⟨n, rfl⟩ := Int.eq_ofNat_of_zero_le h1
      have hn64 : n < 64 := by omega
      rw [decide_eq_true (show (kd : Int) = 6 by omega)]
      refine go ?_
      refine C.held1 b3 hs ?_
      intro w2 hk hs
      refine goh ?_
      refine EH.sto (vs := [.bool true]) (ys := stC db s.size s.m i.a i.c i.bb (i.bs.map ptr) s.clock s.jo (s.re.set n true)) hs ?_ (hv := rfl) (hsp := stC_setre hfv hjo hre hn64 true) (hj := stC_fit hfv hjo hre (by simp only [List.length_singleton]; omega))
      intro w3 hs
      refine kept1 hs (fun hk => ?_)
      refine EH.done ?_
      refine go ?_
      refine A.e0 ?_
      have key := HR.out w3
      rw [if_neg h5, if_pos h6] at key
      exact key hs.drop
    · rw [decide_eq_false (show ¬ (kd : Int) = 6 by omega)]
      refine go ?_
      refine A.e0 ?_
      have key := HR.out w1
      rw [if_neg h5, if_neg h6] at key
      exact key hs.drop
end Go.Proofs.YtfhmamkafancbaaGreatDoor

/-
  Layer 14 (store): sweep.
-/
namespace Go.Proofs.YtfhmamkafancbaaGreatDoor
open Go.RowKit
set_option linter.unusedVariables false
set_option linter.unusedSimpArgs false
def hasS (p x : List UInt8) : Bool := decide (p.length ≤ x.length ∧ x.drop (x.length - p.length) = p)
set_option maxHeartbeats 1600000 in
set_option maxRecDepth 100000 in
theorem hasSuffix_lite {R : Ending → World → Prop} {w : World} {s p : List UInt8} (hsl : s.length ≤ 1000000000) (hpl : p.length ≤ 1000000000)
    (hR : R (.returned (.bool (hasS p s))) w) :
    Calls Tryz.prog 206 #[str s, str p] w R := by
  unfold hasS at hR
  have HR := Lib.hid hR
  clear hR
  refine C.calls (args := [str s, str p]) Tryz.func206 rfl rfl rfl ?_
  have e0 : str s = .string ⟨s.toArray⟩ := rfl
  have e1 : str p = .string ⟨p.toArray⟩ := rfl
  rw [e0, e1]
  clear e0 e1
  refine go ?_
  cases hle : decide ((p.length : Int) ≤ s.length)
  · have hn : ¬ p.length ≤ s.length := by simpa using hle
    refine go ?_
    refine A.r1 ?_
    have := HR.out
    rw [decide_eq_false (fun h => hn h.1)] at this
    exact this
  · have hn : p.length ≤ s.length := by simpa using hle
    refine go ?_
    refine E.pv (Pv.sfrom Tryz.underlying9 (s.length - p.length) (Nat.sub_le _ _) rfl rfl (by omega)) ?_
    refine go ?_
    refine A.r1 ?_
    have := HR.out
    have e : decide (p.length ≤ s.length ∧ s.drop (s.length - p.length) = p) = decide (s.drop (s.length - p.length) = p) := by simp [hn]
    rw [e] at this
    exact this
set_option maxHeartbeats 1600000 in
set_option maxRecDepth 100000 in
theorem hasSuffix_any {R : Ending → World → Prop} {w : World} {s p : List UInt8} (hsl : s.length ≤ 1000000000) (hpl : p.length ≤ 1000000000)
    (hR : R (.returned (.bool (hasS p s))) w) :
    Calls Tryz.prog 157 #[str s, str p] w R := by
  have HR := Lib.hid hR
  clear hR
  refine C.calls (args := [str s, str p]) Tryz.func157 rfl rfl rfl ?_
  refine go ?_
  refine E.callf Tryz.func206 rfl ?_
  refine hasSuffix_lite hsl hpl ?_
  refine go ?_
  refine A.r1 ?_
  exact HR.out
def foldN : List UInt8 := [102, 111, 108, 100, 45]
/-- Is a file one of those that are removed. -/
def swp (nm x : List UInt8) : Bool := hasS newB x || (hasP foldN x && !decide (x = nm))
def Dk.sweepL (nm : List UInt8) : List (List UInt8) → Dk → Int × Dk
  | [], d => (0, d)
  | x :: r, d => if swp nm x = true then (if (d.remove x).1 ≠ 0 then d.remove x else Dk.sweepL nm r (d.remove x).2) else Dk.sweepL nm r d
def Dk.sweep (d : Dk) (nm : List UInt8) : Int × Dk := d.sweepL nm (d.names [])
theorem names_len {d : Dk} {p : List UInt8} : (d.names p).length ≤ d.fs.length := by
  unfold Dk.names
  split
  · simp
  · have := List.length_filter_le (hasP p) (rising (d.fs.map Prod.fst))
    rw [(rising_perm _).length_eq, List.length_map] at this
    exact this
theorem names_mem {d : Dk} {p x : List UInt8} (h : x ∈ d.names p) : ∃ q ∈ d.fs, q.1 = x := by
  unfold Dk.names at h
  split at h
  · cases h
  · have := (rising_perm _).mem_iff.1 (List.mem_filter.1 h).1
    exact List.mem_map.1 this
set_option maxHeartbeats 3200000 in
set_option maxRecDepth 100000 in
theorem sweep_raw {R : Ending → World → Prop} {W w : World} {g : Hl} {H : List HP} {sb db c bb ck : Nat} {a : Option Addr} {sz : Int} {m : Mf} {fv : List Value} {jo re : List Bool} {d : Dk} (hnm : ∀ p ∈ d.fs, p.1.length ≤ 1000000) (hfl : d.fs.length ≤ 1000000000) (hs : Sat W w g (blk sb (stC db sz m a c bb fv ck jo re) 103 :: disk db d :: H))
    (hR : ∀ w' g', Hl.le g g' → Sat W w' g' (blk sb (stC db sz m a c bb fv ck jo re) 103 :: disk db (d.sweep m.name).2 :: H) → R (.returned (.int .i64 (d.sweep m.name).1)) w') : Calls Tryz.prog 90 #[ptr sb] w R := by
  unfold Dk.sweep at hR
  have HR := Lib.hid hR
  clear hR
  have hsub : ∀ x ∈ d.names [], x.length ≤ 1000000 := fun x hx => by
    obtain ⟨q, hq, rfl⟩ := names_mem hx
    exact hnm q hq
  have hnl := names_len (d := d) (p := [])
  refine C.calls (args := [ptr sb]) Tryz.func90 rfl rfl rfl ?_
  refine go ?_
  refine E.callf Tryz.func84 rfl ?_
  refine names_gen (p := []) (by simp) hnm hfl hs.swap ?_
  intro k a2 c2 w2 g2 hk hg2 hpn hs
  generalize d.names [] = ns at hk hpn hsub hnl HR
  subst hk
  refine gob ?_
  refine C.cut (fun _ : Unit => [(0, ptr sb)]) (fun _ w => (d.sweepL m.name ns).1 = 0 ∧ Sat W w g2 (blk sb (stC db sz m a c bb fv ck jo re) 103 :: disk db (d.sweepL m.name ns).2 :: H)) ?_ ?_
  · refine C.block ?_
    refine C.lp (fun q : Nat × Dk => [(0, ptr sb), (10, .slice a2 ns.length c2), (11, .int .i64 ns.length), (12, .int .i64 q.1)])
      (fun gk q w => gk = ns.length - q.1 ∧ q.1 ≤ ns.length ∧ d.sweepL m.name ns = q.2.sweepL m.name (ns.drop q.1) ∧ Sat W w g2 (disk db q.2 :: blk sb (stC db sz m a c bb fv ck jo re) 103 :: H)) ns.length (0, d) ⟨rfl, Nat.zero_le _, rfl, hs⟩ ?_
    clear hs
    rintro gk ⟨k, d1⟩ w4 ⟨rfl, hk, hT, hs⟩
    simp only at hk hT hs ⊢
    replace hT := Lib.hid hT
    refine go ?_
    refine C.cond_dec (p := (k : Int) < ns.length) rfl (fun h => ?_) (fun h => ?_)
    rotate_left
    · obtain rfl : k = ns.length := by omega
      have hT2 := hT.out
      rw [List.drop_length] at hT2
      replace hT2 := Lib.hid hT2
      refine go ?_
      refine A.mt () ⟨?_, ?_⟩
      · rw [hT2.out]; rfl
      · rw [hT2.out]; exact hs.swap
    have hil : k < ns.length := by omega
    have hdr : ns.drop k = ns[k] :: ns.drop (k + 1) := List.drop_eq_getElem_cons hil
    have hxl := hsub ns[k] (List.getElem_mem hil)
    have hT2 := hT.out
    rw [hdr, Dk.sweepL] at hT2
    replace hT2 := Lib.hid hT2
    refine go ?_
    refine E.ix el_strs hs hpn k (v := str ns[k]) (by simp [hil]) ?_
    intro b5 o5 hc5
    generalize ns[k] = x at hxl hT2 hc5
    refine go ?_
    have hskip : swp m.name x = false → d.sweepL m.name ns = d1.sweepL m.name (ns.drop (k + 1)) := fun h => by
      have := hT2.out
      rw [h] at this
      simpa using this
    have hrem : swp m.name x = true → d.sweepL m.name ns = if (d1.remove x).1 ≠ 0 then d1.remove x else (d1.remove x).2.sweepL m.name (ns.drop (k + 1)) := fun h => by
      have := hT2.out
      rw [h] at this
      simpa using this
    replace hskip := Lib.hid hskip
    replace hrem := Lib.hid hrem
    apply laterE (α := Unit) (f := fun _ => [(0, ptr sb), (4, str x), (10, .slice a2 ns.length c2), (11, .int .i64 ns.length), (12, .int .i64 k), (34, ptr db), (35, str x)]) (M := fun _ w => swp m.name x = true ∧ Sat W w g2 (disk db d1 :: blk sb (stC db sz m a c bb fv ck jo re) 103 :: H))
    · intro keyR
      refine E.callf Tryz.func157 rfl ?_
      refine hasSuffix_any (s := x) (p := newB) (by omega) (by decide) ?_
      cases hS : hasS newB x with
      | true =>
        refine go ?_
        exact E.forget wk_ (keyR () _ ⟨by simp [swp, hS], hs⟩)
      | false =>
        refine go ?_
        refine E.callf Tryz.func152 rfl ?_
        refine hasPrefix_any (s := x) (p := foldN) (by omega) (by decide) ?_
        have e1 : decide (foldN.length ≤ x.length ∧ x.take foldN.length = foldN) = hasP foldN x := rfl
        rw [e1]
        clear e1
        cases hP : hasP foldN x with
        | false =>
          refine go ?_
          refine A.rd (ns.length - (k + 1)) (k + 1, d1) ⟨rfl, by simp only; omega, hskip.out (by simp [swp, hS, hP]), hs⟩
        | true =>
          refine go ?_
          by_cases hx : x = m.name
          · have hdd : (!decide (x = m.name)) = false := by simp [hx]
            refine C.cond rfl (fun h => by rw [hdd] at h; cases h) (fun _ => ?_)
            have hsw : swp m.name x = false := by simp [swp, hS, hdd]
            clear hdd
            replace hx := Lib.hid hx
            refine go ?_
            exact A.rd (ns.length - (k + 1)) (k + 1, d1) ⟨rfl, by simp only; omega, hskip.out hsw, hs⟩
          · have hdd : (!decide (x = m.name)) = true := by simp [hx]
            refine C.cond rfl (fun _ => ?_) (fun h => by rw [hdd] at h; cases h)
            have hsw : swp m.name x = true := by simp [swp, hP, hdd]
            clear hdd
            replace hx := Lib.hid hx
            refine go ?_
            exact E.forget wk_ (keyR () _ ⟨hsw, hs⟩)
    clear hs
    rintro _ w5 ⟨hsw, hs⟩
    have hT3 := hrem.out hsw
    replace hT3 := Lib.hid hT3
    refine E.callf Tryz.func158 rfl ?_
    refine remove_any hs ?_
    intro w13 hs
    refine go ?_
    by_cases hz : (d1.remove x).1 = 0
    · have hdd : (!decide ((d1.remove x).1 = 0)) = false := by simp [hz]
      refine C.cond rfl (fun h => by rw [hdd] at h; cases h) (fun _ => ?_)
      clear hdd
      have hT4 := hT3.out
      rw [if_neg (by simp [hz])] at hT4
      replace hT4 := Lib.hid hT4
      replace hz := Lib.hid hz
      refine go ?_
      exact A.rd (ns.length - (k + 1)) (k + 1, (d1.remove x).2) ⟨rfl, by simp only; omega, hT4.out, hs⟩
    · have hdd : (!decide ((d1.remove x).1 = 0)) = true := by simp [hz]
      refine C.cond rfl (fun _ => ?_) (fun h => by rw [hdd] at h; cases h)
      clear hdd
      have hT4 := hT3.out
      rw [if_pos hz] at hT4
      have key := HR.out w13 g2 hg2
      rw [hT4] at key
      replace hT4 := Lib.hid hT4
      refine go ?_
      refine A.r1 ?_
      exact key hs.swap
  clear hs
  rintro _ w9 ⟨hz, hs⟩
  have key := HR.out w9 g2 hg2
  rw [hz] at key
  replace hz := Lib.hid hz
  refine go ?_
  refine A.r1 ?_
  exact key hs
end Go.Proofs.YtfhmamkafancbaaGreatDoor

/-
  Layer 9 (feed): Open where there is no segment.
-/
namespace Go.Proofs.YtfhmamkafancbaaGreatDoor
open Go.RowKit
set_option linter.unusedVariables false
set_option linter.unusedSimpArgs false
set_option maxHeartbeats 1600000 in
set_option maxRecDepth 100000 in
theorem ffloor_any {R : Ending → World → Prop} {W w : World} {g : Hl} {H : List HP} {b db : Nat} {f : Fe} (hs : Sat W w g (feed b db f :: H))
    (hR : ∀ w', Sat W w' g (feed b db f :: H) → R (.returned (.int .u64 f.floor)) w') : Calls Tryz.prog 162 #[ptr b] w R := by
  have HR := Lib.hid hR
  clear hR
  obtain ⟨a, c, hok, hs⟩ := feed_open hs
  refine C.calls (args := [ptr b]) Tryz.func162 rfl rfl rfl ?_
  refine go ?_
  refine A.r1 ?_
  exact HR.out _ (feed_close hok hs)
end Go.Proofs.YtfhmamkafancbaaGreatDoor

/-
  The law of layer 8: its events.
-/
namespace Go.Proofs.YtfhmamkafancbaaGreatDoor
open Go.RowKit
set_option linter.unusedVariables false
set_option linter.unusedSimpArgs false
def evP (K T w sq tm : Nat) (tv : Value) : Ev := ⟨w, sq, tm, 1 + K % 4, [UInt8.ofNat (97 + T % 3)], if 1 + K % 4 = 1 then List.replicate (T % 30) 0 else [], 0, 0, tv⟩
end Go.Proofs.YtfhmamkafancbaaGreatDoor

/-
  Layers 3 and 5, in plain lists: records that are laid are read again; a disk that doesn't stop.
-/
namespace Go.Proofs.YtfhmamkafancbaaGreatDoor
theorem fourB_len (n : Nat) : (fourB n).length = 4 := rfl
theorem openB_wrap (t r : List UInt8) (most : Nat) (h : t.length ≤ most) (hm : most ≤ 1000000000) : openB (wrapB t ++ r) most = .ok ((layN t.length).length, t.length) := by
  have h1 : wrapB t ++ r = layN t.length ++ (t ++ (fourB (crc (textB t)) ++ r)) := by simp [wrapB, textB]
  have h2 := takeGo_layN t.length (by omega) (t ++ (fourB (crc (textB t)) ++ r))
  have h3 : (wrapB t ++ r).take ((layN t.length).length + t.length) = textB t := by
    rw [wrapB, List.append_assoc, List.take_append_of_le_length (by simp [textB]), List.take_of_length_le (by simp [textB])]
  have h4 : (wrapB t ++ r).drop ((layN t.length).length + t.length) = fourB (crc (textB t)) ++ r := by
    rw [wrapB, List.append_assoc, List.drop_append_of_le_length (by simp [textB]), List.drop_eq_nil_of_le (by simp [textB])]; rfl
  have h5 : (wrapB t ++ r).length = (layN t.length).length + t.length + (4 + r.length) := by
    rw [h1]; simp [fourB_len]; omega
  unfold openB
  have h2' : takeGo 0 0 (wrapB t ++ r) = (t.length, (layN t.length).length, 0) := by rw [h1]; exact h2
  rw [h2']
  simp only [ne_eq, not_true_eq_false, if_false, h3, h4, h5]
  rw [if_neg (by omega), if_neg (by omega), if_neg (by omega), if_pos (by rw [List.take_append_of_le_length (by simp [fourB_len]), List.take_of_length_le (by simp [fourB_len])])]
theorem wrapB_length (t : List UInt8) : (wrapB t).length = (layN t.length).length + t.length + 4 := by
  simp [wrapB, textB, fourB_len, Nat.add_assoc]
theorem wrap_take (t r : List UInt8) : ((wrapB t ++ r).drop (layN t.length).length).take t.length = t := by
  have h1 : wrapB t ++ r = layN t.length ++ (t ++ (fourB (crc (textB t)) ++ r)) := by simp [wrapB, textB]
  rw [h1, List.drop_append_of_le_length (Nat.le_refl _), List.drop_eq_nil_of_le (Nat.le_refl _), List.nil_append, List.take_append_of_le_length (Nat.le_refl _), List.take_of_length_le (Nat.le_refl _)]
theorem wrap_drop (t r : List UInt8) : (wrapB t ++ r).drop ((layN t.length).length + t.length + 4) = r := by
  rw [← wrapB_length, List.drop_append_of_le_length (Nat.le_refl _), List.drop_eq_nil_of_le (Nat.le_refl _), List.nil_append]
/-- Records, and then any bytes. -/
theorem allC_cat (r : List UInt8) : ∀ (ls : List (List UInt8)), (∀ x ∈ ls, x.length ≤ 2097152) → allC (catB ls ++ r) = (ls ++ (allC r).1, (catB ls).length + (allC r).2.1, (allC r).2.2)
  | [], _ => by simp [catB]
  | x :: ls, h => by
    have hx := h x (by simp)
    have e : catB (x :: ls) ++ r = wrapB x ++ (catB ls ++ r) := by simp [catB]
    have ih := allC_cat r ls fun y hy => h y (by simp [hy])
    have hne : wrapB x ++ (catB ls ++ r) ≠ [] := by
      have : 0 < (wrapB x ++ (catB ls ++ r)).length := by rw [List.length_append, wrapB_length]; omega
      exact List.length_pos_iff.1 this
    unfold allC at ih ⊢
    rw [e]
    have hlen : (wrapB x ++ (catB ls ++ r)).length = (wrapB x).length + (catB ls ++ r).length := by simp
    rw [allB, if_neg hne, openB_wrap x _ _ hx (by decide)]
    simp only [wrap_take, wrap_drop]
    rw [allB_fuel 2097152 _ ((catB ls ++ r).length + 1) (catB ls ++ r) (by rw [hlen, wrapB_length]; omega) (by omega), ih]
    have e2 : (catB (x :: ls)).length = (wrapB x).length + (catB ls).length := by simp [catB]
    simp only [List.cons_append, Prod.mk.injEq, and_true, true_and, e2, wrapB_length]
    omega
theorem allC_nil : allC [] = ([], 0, 0) := by simp [allC, allB]
theorem scanB_lay (t : Ti) (ht : t.ok) (ls : List (List UInt8)) (hl : ∀ x ∈ ls, x.length ≤ 2097152) (r : List UInt8) :
    scanB (headB t ++ (catB ls ++ r)) = .ok ⟨t, ls ++ (allC r).1, (headB t).length + (catB ls).length + (allC r).2.1, (allC r).2.2⟩ := by
  have h1 := titleB_len ht
  unfold scanB headB
  rw [openB_wrap _ _ _ (by omega) (by decide)]
  simp only [wrap_take, wrap_drop, rdTitle_titleB t ht, allC_cat r ls hl]
  simp only [wrapB_length]
  congr 2
  omega
/-! A disk that doesn't stop. -/
def Dk.calm (d : Dk) : Prop := d.off = false ∧ d.fuse < 0
theorem Dk.calm.act {d : Dk} (h : d.calm) : d.act.1 = 0 ∧ d.act.2.fs = d.fs ∧ d.act.2.room = d.room ∧ d.act.2.calm ∧ d.act.2.torn = d.torn := by
  obtain ⟨h1, h2⟩ := h
  unfold Dk.act
  rw [if_neg (by rw [h1]; simp), if_neg (by omega), if_neg (by omega)]
  exact ⟨rfl, rfl, rfl, ⟨h1, h2⟩, rfl⟩
theorem Dk.calm.append {d : Dk} (h : d.calm) {name p : List UInt8} (hn : namedB name = true) (hr : (tk d.fs : Int) + p.length ≤ d.room) :
    ∃ d', d.append name p = (0, d') ∧ d'.fs = put name p d.fs ∧ d'.room = d.room ∧ d'.calm := by
  obtain ⟨a, b, c, e, _⟩ := h.act
  refine ⟨{ d.act.2 with fs := put name p d.fs }, ?_, rfl, c, e⟩
  unfold Dk.append
  rw [hn, a, if_neg (by simp), if_pos rfl, if_neg (by omega)]
theorem Dk.calm.full {d : Dk} (h : d.calm) {name p : List UInt8} (hn : namedB name = true) (hr : d.room < (tk d.fs : Int) + p.length) :
    ∃ d', d.append name p = (3, d') ∧ d'.fs = d.fs ∧ d'.room = d.room ∧ d'.calm := by
  obtain ⟨a, b, c, e, _⟩ := h.act
  refine ⟨_, ?_, b, c, e⟩
  unfold Dk.append
  rw [hn, a, if_neg (by simp), if_pos rfl, if_pos (by omega)]
theorem Dk.calm.sync {d : Dk} (h : d.calm) {name : List UInt8} {f : Fl} (hf : aget name d.fs = some f) :
    ∃ d', d.sync name = (0, d') ∧ d'.fs = aput name ⟨f.p, f.p.length⟩ d.fs ∧ d'.room = d.room ∧ d'.calm := by
  obtain ⟨a, b, c, e, _⟩ := h.act
  refine ⟨{ d.act.2 with fs := aput name ⟨f.p, f.p.length⟩ d.fs }, ?_, rfl, c, e⟩
  unfold Dk.sync
  rw [a, if_pos rfl, hf]
theorem Dk.calm.remove {d : Dk} (h : d.calm) {name : List UInt8} {f : Fl} (hf : aget name d.fs = some f) :
    ∃ d', d.remove name = (0, d') ∧ d'.fs = adrop name d.fs ∧ d'.room = d.room ∧ d'.calm := by
  obtain ⟨a, b, c, e, _⟩ := h.act
  refine ⟨{ d.act.2 with fs := adrop name d.fs }, ?_, rfl, c, e⟩
  unfold Dk.remove
  rw [a, if_pos rfl, hf]
theorem Dk.calm.remove_none {d : Dk} (h : d.calm) {name : List UInt8} (hf : aget name d.fs = none) :
    ∃ d', d.remove name = (2, d') ∧ d'.fs = d.fs ∧ d'.room = d.room ∧ d'.calm := by
  obtain ⟨a, b, c, e, _⟩ := h.act
  refine ⟨_, ?_, b, c, e⟩
  unfold Dk.remove
  rw [a, if_pos rfl, hf]
theorem Dk.calm.move {d : Dk} (h : d.calm) {src dst : List UInt8} {f : Fl} (hn : namedB dst = true) (hf : aget src d.fs = some f) :
    ∃ d', d.move src dst = (0, d') ∧ d'.fs = aput dst f (adrop src d.fs) ∧ d'.room = d.room ∧ d'.calm := by
  obtain ⟨a, b, c, e, _⟩ := h.act
  refine ⟨{ d.act.2 with fs := aput dst f (adrop src d.fs) }, ?_, rfl, c, e⟩
  unfold Dk.move
  rw [hn, a, if_neg (by simp), if_pos rfl, hf]
theorem Dk.calm.cut {d : Dk} (h : d.calm) {name : List UInt8} {f : Fl} {n : Nat} (hf : aget name d.fs = some f) (hn : n ≤ f.p.length) :
    ∃ d', d.cut name n = (0, d') ∧ d'.fs = aput name ⟨f.p.take n, n⟩ d.fs ∧ d'.room = d.room ∧ d'.calm := by
  obtain ⟨a, b, c, e, _⟩ := h.act
  refine ⟨{ d.act.2 with fs := aput name ⟨f.p.take n, n⟩ d.fs }, ?_, rfl, c, e⟩
  unfold Dk.cut
  rw [a, if_pos rfl, hf]
  simp only
  rw [if_neg (by omega)]
  simp
theorem Dk.calm.read {d : Dk} (h : d.calm) {name : List UInt8} {f : Fl} (hf : aget name d.fs = some f) : d.read name = .ok f.p := by
  unfold Dk.read
  rw [h.1, if_neg (by simp), hf]
theorem Dk.calm.read_none {d : Dk} (h : d.calm) {name : List UInt8} (hf : aget name d.fs = none) : d.read name = .error 2 := by
  unfold Dk.read
  rw [h.1, if_neg (by simp), hf]
end Go.Proofs.YtfhmamkafancbaaGreatDoor

/-
  The law of layer 8: a segment with events.
-/
namespace Go.Proofs.YtfhmamkafancbaaGreatDoor
open Go.RowKit
set_option linter.unusedVariables false
set_option linter.unusedSimpArgs false
theorem begin_calm8 {d : Dk} (h : d.calm) {name : List UInt8} {t : Ti} (hn : namedB name = true) (hf : aget name d.fs = none) (hr : (tk d.fs : Int) + (headB t).length ≤ d.room) :
    ∃ d', d.begin name t = (0, d') ∧ d'.fs = d.fs ++ [(name, ⟨headB t, (headB t).length⟩)] ∧ d'.room = d.room ∧ d'.calm := by
  obtain ⟨d1, e1, e2, e3, e4⟩ := h.append hn hr
  have e5 : d1.fs = d.fs ++ [(name, ⟨headB t, 0⟩)] := by
    rw [e2, put, hf, (as_none hf).1]; simp
  have e6 : aget name d1.fs = some ⟨headB t, 0⟩ := by
    rw [e5]; exact aget_last hf
  obtain ⟨d2, g1, g2, g3, g4⟩ := e4.sync e6
  refine ⟨d2, ?_, ?_, g3.trans e3, g4⟩
  · unfold Dk.begin
    rw [h.read_none hf, e1]
    simp only [if_true, g1]
  · rw [g2, e5]
    exact aput_last hf
theorem add_calm8 {d : Dk} (h : d.calm) {name p : List UInt8} (hp : p.length ≤ 2097152) (hn : namedB name = true) (hr : (tk d.fs : Int) + (wrapB p).length ≤ d.room) :
    ∃ d', d.add name p = (0, d') ∧ d'.fs = put name (wrapB p) d.fs ∧ d'.room = d.room ∧ d'.calm := by
  obtain ⟨d1, e1, e2, e3, e4⟩ := h.append hn hr
  refine ⟨d1, ?_, e2, e3, e4⟩
  unfold Dk.add
  rw [if_neg (by omega)]
  exact e1
/-- The event of a number. -/
def evK (ps : List (Nat × Nat)) (i f k : Nat) : Ev := evP (ps.getD k (0, 0)).1 (ps.getD k (0, 0)).2 i (f + k) (k + 1) (.slice none 0 0)
def evL (ps : List (Nat × Nat)) (i f n : Nat) : List Ev := (List.range n).map (evK ps i f)
theorem evL_succ (ps : List (Nat × Nat)) (i f n : Nat) : evL ps i f (n + 1) = evL ps i f n ++ [evK ps i f n] := by simp [evL, List.range_succ]
theorem evP_right {K T i sq tm : Nat} {tv : Value} (hi : i < 64) (h1 : 1 ≤ sq) (h2 : sq ≤ 9223372036854775807) (h3 : 1 ≤ tm) (h4 : tm ≤ 9223372036854775807) : (evP K T i sq tm tv).right = 0 := by
  have hl : (evP K T i sq tm tv).text.length ≤ 30 := by
    simp only [evP]; split
    · simp; omega
    · simp
  have hk : (evP K T i sq tm tv).key.length = 1 := rfl
  have hkd : (evP K T i sq tm tv).kd = 1 + K % 4 := rfl
  unfold Ev.right
  rw [hk, hkd, if_neg, if_neg, if_neg]
  · simp only [evP]; omega
  · omega
  · simp only [evP]; omega
end Go.Proofs.YtfhmamkafancbaaGreatDoor

/-
  The law of layer 8: fill, walked.
-/
namespace Go.Proofs.YtfhmamkafancbaaGreatDoor
open Go.RowKit
set_option linter.unusedVariables false
set_option linter.unusedSimpArgs false
/-- The file of the first so many events. -/
def fileP (ps : List (Nat × Nat)) (i f n : Nat) : List UInt8 := headB ⟨115, i, f⟩ ++ catB ((evL ps i f n).map Ev.enc)
theorem nameB_named {i f : Nat} (hi : i < 64) (hf : f < 18446744073709551616) : namedB (nameB i f) = true := by
  have h1 := padB_len hf
  have h2 := beginB_len (w := i) (by omega)
  have hh : ∀ d < 16, okB (hexD d) = true := by decide
  have hx : ∀ n, (hexN n).all okB = true := by
    intro n
    induction n using Nat.strongRecOn with
    | _ n ih =>
      by_cases h : n < 16
      · rw [hexN_small h]; simp [hh n h]
      · rw [hexN_step (by omega), List.all_append, ih _ (by omega)]
        simp [hh (n % 16) (by omega)]
  have hd : ∀ k < 64, (decN k).all okB = true := by
    intro k hk
    have h10 : ∀ q < 10, okB (UInt8.ofNat (48 + q)) = true := by decide
    by_cases h : k < 10
    · rw [decN_small h]; simp only [List.all_cons, List.all_nil, Bool.and_true]; exact h10 k h
    · rw [decN_two (by omega) (by omega)]
      simp only [List.all_cons, List.all_nil, Bool.and_true, Bool.and_eq_true]
      exact ⟨h10 _ (by omega), h10 _ (by omega)⟩
  have hr : (List.replicate (16 - (hexN f).length) (48 : UInt8)).all okB = true := by
    rw [List.all_eq_true]
    intro x hx
    obtain ⟨_, rfl⟩ := List.mem_replicate.1 hx
    decide
  unfold namedB
  rw [Bool.and_eq_true, Bool.and_eq_true]
  refine ⟨⟨?_, ?_⟩, ?_⟩
  · simp [nameB, beginB]
  · simp only [nameB, List.length_append, decide_eq_true_eq]; omega
  · simp only [nameB, beginB, padB, List.all_append, hd i hi, hx f, hr, Bool.and_true]
    decide
theorem evK_len {ps : List (Nat × Nat)} {i f k : Nat} (hi : i < 64) (hf : f ≤ 2000000000000000000) (hk : k ≤ 1000) : (evK ps i f k).enc.length ≤ 92 := by
  have hl : (evK ps i f k).text.length ≤ 30 := by
    simp only [evK, evP]; split
    · simp; omega
    · simp
  have h := Ev.enc_len (evK ps i f k) (by simp only [evK, evP]; omega) (by simp only [evK, evP]; omega) (by simp only [evK, evP]; omega) (by simp [evK, evP]) (by omega) (by simp [evK, evP])
  have hk1 : (evK ps i f k).key.length = 1 := rfl
  omega
/-- A segment that holds the first so many events. -/
structure Full (s : Sg) (d : Dk) (g : Hl) (ps : List (Nat × Nat)) (i f n : Nat) : Prop where
  wr : s.wr = i
  first : s.first = f
  x : s.x.ok g
  es : s.x.es.map Ev.raw = (evL ps i f n).map Ev.ep
  size : s.size = (fileP ps i f n).length
  calm : d.calm
  room : d.room = 65536
  fs : ∃ q, d.fs = [(nameB i f, ⟨fileP ps i f n, q⟩)]
theorem Full.len {s : Sg} {d : Dk} {g : Hl} {ps : List (Nat × Nat)} {i f n : Nat} (h : Full s d g ps i f n) : s.x.es.length = n := by
  have := congrArg List.length h.es
  simpa [evL] using this
theorem Full.mono {s : Sg} {d : Dk} {g g' : Hl} {ps : List (Nat × Nat)} {i f n : Nat} (h : Full s d g ps i f n) (hg : Hl.le g g') : Full s d g' ps i f n := ⟨h.wr, h.first, h.x.mono hg, h.es, h.size, h.calm, h.room, h.fs⟩
end Go.Proofs.YtfhmamkafancbaaGreatDoor

/-
  The law of layer 8, plain: what a filled segment's file is opened as.
-/
namespace Go.Proofs.YtfhmamkafancbaaGreatDoor
open Go.RowKit
set_option linter.unusedVariables false
set_option linter.unusedSimpArgs false
theorem evP_ep_right {K T i sq tm : Nat} {tv : Value} (hi : i < 64) (h1 : 1 ≤ sq) (h2 : sq ≤ 9223372036854775807) (h3 : 1 ≤ tm) (h4 : tm ≤ 9223372036854775807) : (evP K T i sq tm tv).ep.right = 0 := by
  have h5 : ((evP K T i sq tm tv).ep.ev tv) = evP K T i sq tm tv := by
    have hk : 1 ≤ 1 + K % 4 ∧ 1 + K % 4 ≤ 4 := by omega
    have hk5 : ¬ 1 + K % 4 = 5 := by omega
    show Ev.mk _ _ _ _ _ _ _ _ _ = Ev.mk _ _ _ _ _ _ _ _ _
    rw [Ev.mk.injEq]
    refine ⟨rfl, rfl, rfl, rfl, if_pos hk, ?_, ?_, ?_, rfl⟩
    · show (if 1 + K % 4 = 1 then (if 1 + K % 4 = 1 then List.replicate (T % 30) 0 else []) else []) = (if 1 + K % 4 = 1 then List.replicate (T % 30) (0 : UInt8) else [])
      by_cases h : 1 + K % 4 = 1
      · rw [if_pos h, if_pos h]
      · rw [if_neg h, if_neg h]
    · show (if 1 + K % 4 = 2 ∨ 1 + K % 4 = 3 then bitsF 0 else 0) = 0
      split
      · decide +kernel
      · rfl
    · show (((if 1 + K % 4 = 5 then (0 : Int).toNat else 0 : Nat)) : Int) = 0
      rw [if_neg hk5]; rfl
  rw [← Ep.right_ev _ tv, h5]
  exact evP_right hi h1 h2 h3 h4
theorem evK_dec {ps : List (Nat × Nat)} {i f k : Nat} (hi : i < 64) (hf0 : 1 ≤ f) (hf : f ≤ 2000000000000000000) (hk : k ≤ 1000) : decE (evK ps i f k).enc = .ok (evK ps i f k).ep := by
  have hl : (evK ps i f k).text.length ≤ 30 := by
    simp only [evK, evP]; split
    · simp; omega
    · simp
  have h := rdEv_enc (e := evK ps i f k) (by simp only [evK, evP]; omega) (by simp only [evK, evP]; omega) (by simp only [evK, evP]; omega) (by simp only [evK, evP]; omega) (by simp [evK, evP]) (by omega) (by simp [evK, evP]) (by simp [evK, evP])
  unfold decE
  rw [h]
  simp only
  rw [if_pos]
  exact evP_ep_right hi (by omega) (by omega) (by omega) (by omega)
/-- What is read back. -/
theorem opE_full {ps : List (Nat × Nat)} {i f : Nat} (hi : i < 64) (hf0 : 1 ≤ f) (hf : f ≤ 2000000000000000000) : ∀ (m k sz : Nat), k + m ≤ 1000 →
    opE i f ((evL ps i f k).map Ev.ep) sz ((List.range' k m).map fun q => (evK ps i f q).enc) = ((evL ps i f (k + m)).map Ev.ep, sz + (catB ((List.range' k m).map fun q => (evK ps i f q).enc)).length, false)
  | 0, k, sz, _ => by simp [opE, catB]
  | m + 1, k, sz, h => by
    rw [List.range'_succ, List.map_cons]
    have hd := evK_dec (ps := ps) hi hf0 hf (k := k) (by omega)
    simp only [opE, hd]
    have hlen : ((evL ps i f k).map Ev.ep).length = k := by simp [evL]
    rw [if_pos ⟨rfl, by rw [hlen]; simp only [evK, evP, Ev.ep]; omega⟩]
    have e1 : (evL ps i f k).map Ev.ep ++ [(evK ps i f k).ep] = (evL ps i f (k + 1)).map Ev.ep := by rw [evL_succ]; simp
    rw [e1, opE_full hi hf0 hf m (k + 1) _ (by omega)]
    have e2 : k + 1 + m = k + (m + 1) := by omega
    rw [e2]
    have e3 : ∀ (x : List UInt8) (r : List (List UInt8)), (catB (x :: r)).length = recN x.length + (catB r).length := by
      intro x r
      simp only [catB, List.map_cons, List.flatten_cons, List.length_append, wrapB_length]
      rfl
    rw [e3, Nat.add_assoc]
theorem Full.opn {s : Sg} {d : Dk} {g : Hl} {ps : List (Nat × Nat)} {i f n : Nat} (h : Full s d g ps i f n) (hi : i < 64) (hf0 : 1 ≤ f) (hf : f ≤ 2000000000000000000) (hn : n ≤ 1000) :
    d.opn i f = (.ok ((evL ps i f n).map Ev.ep, (fileP ps i f n).length, 0), d) ∧ (d.mend (nameB i f)).1 = .ok ⟨⟨115, i, f⟩, (evL ps i f n).map Ev.enc, (fileP ps i f n).length, 0⟩ := by
  have hto : Ti.ok ⟨115, i, f⟩ := ⟨by simp only; omega, by simp only; omega⟩
  obtain ⟨q, hq⟩ := h.fs
  have hrd : d.read (nameB i f) = .ok (fileP ps i f n) := h.calm.read (f := ⟨fileP ps i f n, q⟩) (by rw [hq]; simp [aget])
  have hlen : ∀ x ∈ (evL ps i f n).map Ev.enc, x.length ≤ 2097152 := by
    intro x hx
    obtain ⟨e, he, rfl⟩ := List.mem_map.1 hx
    obtain ⟨k, hk, rfl⟩ := List.mem_map.1 he
    have := evK_len (ps := ps) hi hf (k := k) (by have := List.mem_range.1 hk; omega)
    omega
  have hsc := scanB_lay ⟨115, i, f⟩ hto ((evL ps i f n).map Ev.enc) hlen []
  rw [List.append_nil, allC_nil] at hsc
  simp only [List.append_nil, Nat.add_zero] at hsc
  have hfl : (fileP ps i f n).length = (headB ⟨115, i, f⟩).length + (catB ((evL ps i f n).map Ev.enc)).length := by simp [fileP]
  have hm : d.mend (nameB i f) = (.ok ⟨⟨115, i, f⟩, (evL ps i f n).map Ev.enc, (fileP ps i f n).length, 0⟩, d) := by
    simp only [Dk.mend, Dk.sheet, hrd]
    rw [hfl]
    simp only [fileP, hsc, if_true]
  have hop := opE_full (ps := ps) hi hf0 hf n 0 (headB ⟨115, i, f⟩).length (by omega)
  have e0 : (evL ps i f 0).map Ev.ep = [] := rfl
  have e1 : (List.range' 0 n).map (fun q => (evK ps i f q).enc) = (evL ps i f n).map Ev.enc := by
    simp [evL, List.range_eq_range', Function.comp_def]
  rw [e0, e1, Nat.zero_add, ← hfl] at hop
  refine ⟨?_, by rw [hm]⟩
  simp only [Dk.opn, hm]
  rw [if_pos ⟨trivial, trivial, trivial⟩, hop]
  simp
end Go.Proofs.YtfhmamkafancbaaGreatDoor

/-
  A file that is torn, in plain lists: what is left of its records.
-/
namespace Go.Proofs.YtfhmamkafancbaaGreatDoor
set_option linter.unusedVariables false
set_option linter.unusedSimpArgs false
end Go.Proofs.YtfhmamkafancbaaGreatDoor

/-
  A segment's file in plain lists: any events that may be held there; a torn file.
-/
namespace Go.Proofs.YtfhmamkafancbaaGreatDoor
open Go.RowKit
set_option linter.unusedVariables false
set_option linter.unusedSimpArgs false
/-- What is read of an event that may be. -/
theorem ep_right {e : Ev} (h : e.right = 0) : e.ep.right = 0 := by
  obtain ⟨h1, h2, h3⟩ := right_zero h
  unfold Ev.right at h
  split at h
  · omega
  rename_i a1
  split at h
  · omega
  rename_i a2
  split at h
  · omega
  rename_i a3
  show (e.ep.ev (.slice none 0 0)).right = 0
  unfold Ev.right
  have hw : ((e.wr.toNat : Nat) : Int) = e.wr := by omega
  rw [if_neg, if_neg, if_neg]
  · simpa only [Ep.ev, Ev.ep] using a3
  · rintro (⟨b1, b2, b3⟩ | ⟨b1, b2⟩)
    · simp only [Ep.ev, Ev.ep] at b1 b2 b3
      rw [if_pos ⟨b1, b2⟩] at b3
      exact a2 (.inl ⟨b1, b2, b3⟩)
    · simp only [Ep.ev, Ev.ep] at b1 b2
      rw [if_pos b1] at b2
      exact a2 (.inr ⟨b1, b2⟩)
  · simp only [Ep.ev, Ev.ep]
    rw [hw]
    rintro (b | b | b | b | b | ⟨b1, b2⟩)
    · exact b ⟨h1, h2⟩
    · exact a1 (.inr (.inl b))
    · exact a1 (.inr (.inr (.inl b)))
    · exact a1 (.inr (.inr (.inr (.inl b))))
    · exact a1 (.inr (.inr (.inr (.inr (.inl b)))))
    · rw [if_pos b1] at b2
      have := h3 b1
      omega
theorem decE_enc {e : Ev} (h : e.right = 0) (hkd : e.kd < 256) (hk : e.key.length ≤ 64) (ht : e.text.length ≤ 1048576) (hn : e.num < 18446744073709551616) (hd : e.nd.toNat ≤ 63) : decE e.enc = .ok e.ep := by
  obtain ⟨h1, h2, h3⟩ := right_zero h
  have hr := ep_right h
  unfold Ev.right at h
  split at h
  · omega
  split at h
  · omega
  split at h
  · omega
  unfold decE
  rw [rdEv_enc (by omega) (by omega) (by omega) hkd hk ht hn hd]
  simp only
  rw [if_pos hr]
/-- Events that a segment of a writer holds, the one at k ahead. -/
def Fit (i f : Nat) : Nat → List Ev → Prop
  | _, [] => True
  | k, e :: r => (e.wr = i ∧ e.sq = (f + k) % 18446744073709551616 ∧ decE e.enc = .ok e.ep ∧ e.enc.length ≤ 2097152) ∧ Fit i f (k + 1) r
theorem Fit.append {i f : Nat} : ∀ {k : Nat} {a b : List Ev}, Fit i f k a → Fit i f (k + a.length) b → Fit i f k (a ++ b)
  | _, [], _, _, hb => by simpa using hb
  | k, e :: r, b, ha, hb => ⟨ha.1, ha.2.append (by
      have e1 : k + 1 + r.length = k + (r.length + 1) := by omega
      rw [e1]; exact hb)⟩
theorem Fit.take {i f : Nat} : ∀ {k : Nat} {a : List Ev} (n : Nat), Fit i f k a → Fit i f k (a.take n)
  | _, [], n, _ => by simp [Fit]
  | _, _ :: _, 0, _ => by simp [Fit]
  | _, _ :: _, n + 1, h => ⟨h.1, h.2.take n⟩
theorem Fit.len {i f : Nat} : ∀ {k : Nat} {a : List Ev}, Fit i f k a → ∀ x ∈ a.map Ev.enc, x.length ≤ 2097152
  | _, [], _, x, hx => by cases hx
  | _, e :: r, h, x, hx => by
    rw [List.map_cons] at hx
    rcases List.mem_cons.1 hx with rfl | hx
    · exact h.1.2.2.2
    · exact h.2.len x hx
end Go.Proofs.YtfhmamkafancbaaGreatDoor

/-
  Layer 9 (feed), plain: what stands on a disk that doesn't stop.
-/
namespace Go.Proofs.YtfhmamkafancbaaGreatDoor
open Go.RowKit
set_option linter.unusedVariables false
set_option linter.unusedSimpArgs false
section
variable {β : Type}
theorem aget_put (k : List UInt8) (v : β) : ∀ (l : List (List UInt8 × β)), aget k (aput k v l) = some v
  | [] => by simp [aput, aget]
  | (a, u) :: r => by
    simp only [aput]
    split
    · rename_i h; simp [aget, h]
    · rename_i h; simp only [aget, if_neg h, aget_put k v r]
theorem aget_put_ne {k k' : List UInt8} (v : β) (h : k' ≠ k) : ∀ (l : List (List UInt8 × β)), aget k' (aput k v l) = aget k' l
  | [] => by simp [aput, aget, h]
  | (a, u) :: r => by
    simp only [aput]
    split
    · rename_i h2
      subst h2
      simp [aget, h]
    · simp only [aget, aget_put_ne v h r]
end
/-- An event that is kept, as bytes. -/
def Ep.enc (p : Ep) : List UInt8 := (p.ev (.slice none 0 0)).enc
theorem enc_ep (e : Ev) : e.ep.enc = e.enc := by
  unfold Ep.enc Ev.enc
  have hk : ((e.ep.ev (.slice none 0 0)).keyB) = e.keyB := by
    simp only [Ev.keyB, Ep.ev, Ev.ep]
    split
    · rfl
    · rfl
  have hr : ((e.ep.ev (.slice none 0 0)).restB) = e.restB := by
    simp only [Ev.restB, Ep.ev, Ev.ep]
    by_cases h1 : e.kd = 1
    · simp [h1]
    · by_cases h2 : e.kd = 2 ∨ e.kd = 3
      · simp only [h1, if_false, if_pos h2, bitsF_twice]
      · by_cases h5 : e.kd = 5
        · simp only [h5, if_true, Int.toNat_natCast]; rfl
        · simp [h1, h2, h5]
  rw [hk, hr]
  simp only [Ep.ev, Ev.ep, Int.toNat_natCast]
theorem ep_ev_ep {e : Ev} {tv : Value} : (e.ep.ev tv).ep = e.ep := by
  simp only [Ev.ep, Ep.ev, Int.toNat_natCast, Ep.mk.injEq, true_and]
  refine ⟨?_, ?_, ?_, ?_⟩
  · split <;> rfl
  · split <;> rfl
  · by_cases h : e.kd = 2 ∨ e.kd = 3
    · simp only [if_pos h, bitsF_twice]
    · simp only [if_neg h]
  · split <;> rfl
/-- What is read of an event that may be, whatever else it bears. -/
theorem decE_right {e : Ev} (h : e.right = 0) (hkd : e.kd < 256) (hn : e.num < 18446744073709551616) : decE e.enc = .ok e.ep := by
  have h1 := ep_right h
  obtain ⟨w1, w2, w3⟩ := right_zero h
  have hd := h1
  rw [← Ep.right_ev _ (.slice none 0 0)] at hd
  have key : ∀ p : Ep, p.right = 0 → p.kd < 256 → p.num < 18446744073709551616 → (p.key.length ≤ 64) → p.text.length ≤ 1048576 → p.nd ≤ 63 → decE p.enc = .ok (p.ev (.slice none 0 0)).ep := by
    intro p hp a b c d e'
    exact decE_enc (e := p.ev (.slice none 0 0)) hp a c d b (by simpa [Ep.ev] using e')
  have hb := bitsF_lt hn
  unfold Ev.right at h
  split at h
  · omega
  split at h
  · omega
  rename_i a1 a2
  rw [← enc_ep, key e.ep h1 (by simpa [Ev.ep] using hkd) ?_ ?_ ?_ ?_]
  · rw [ep_ev_ep]
  · simp only [Ev.ep]; split <;> omega
  · simp only [Ev.ep]
    split
    · omega
    · simp
  · simp only [Ev.ep]
    split
    · omega
    · simp
  · simp only [Ev.ep]
    split
    · rename_i h5; have := w3 h5; omega
    · omega
/-- Events that a segment holds. -/
def FitP (i f : Nat) : Nat → List Ep → Prop
  | _, [] => True
  | k, p :: r => (p.wr = i ∧ p.sq = (f + k) % 18446744073709551616 ∧ decE p.enc = .ok p ∧ p.enc.length ≤ 2097152) ∧ FitP i f (k + 1) r
theorem FitP.append {i f : Nat} : ∀ {k : Nat} {a b : List Ep}, FitP i f k a → FitP i f (k + a.length) b → FitP i f k (a ++ b)
  | _, [], _, _, hb => by simpa using hb
  | k, e :: r, b, ha, hb => ⟨ha.1, ha.2.append (by
      have e1 : k + 1 + r.length = k + (r.length + 1) := by omega
      rw [e1]; exact hb)⟩
theorem FitP.len {i f : Nat} : ∀ {k : Nat} {a : List Ep}, FitP i f k a → ∀ x ∈ a.map Ep.enc, x.length ≤ 2097152
  | _, [], _, x, hx => by cases hx
  | _, e :: r, h, x, hx => by
    rw [List.map_cons] at hx
    rcases List.mem_cons.1 hx with rfl | hx
    · exact h.1.2.2.2
    · exact h.2.len x hx
theorem FitP.at {i f : Nat} : ∀ {k : Nat} {a : List Ep}, FitP i f k a → ∀ j (h : j < a.length), a[j].wr = i ∧ a[j].sq = (f + (k + j)) % 18446744073709551616
  | _, e :: r, h, 0, _ => ⟨h.1.1, h.1.2.1⟩
  | k, e :: r, h, j + 1, hj => by
    have := h.2.at j (by simpa using hj)
    rw [show k + 1 + j = k + (j + 1) by omega] at this
    exact this
/-- A segment's file. -/
def segP (i f : Nat) (ps : List Ep) : List UInt8 := headB ⟨115, i, f⟩ ++ catB (ps.map Ep.enc)
theorem segP_snoc (i f : Nat) (ps : List Ep) (p : Ep) : segP i f (ps ++ [p]) = segP i f ps ++ wrapB p.enc := by
  simp only [segP, List.map_append, List.map_cons, List.map_nil, catB_snoc, List.append_assoc]
end Go.Proofs.YtfhmamkafancbaaGreatDoor

/-
  Layer 9 (feed), plain: what a feed on a disk that doesn't stop keeps.
-/
namespace Go.Proofs.YtfhmamkafancbaaGreatDoor
open Go.RowKit
set_option linter.unusedVariables false
set_option linter.unusedSimpArgs false
def Sp.file (wr : Nat) (s : Sp) : List UInt8 := segP wr s.first s.es
def ChainP (floor : Nat) : List Sp → Prop
  | s :: t :: r => (s.first < t.first ∧ s.first + s.es.length ≤ t.first ∧ (t.first = s.first + s.es.length ∨ t.first ≤ floor + 1)) ∧ ChainP floor (t :: r)
  | _ => True
/-- A feed's segments, and its disk. -/
structure FInv (wr floor : Nat) (l : List Sp) (d : Dk) : Prop where
  lt : wr < 64
  calm : d.calm
  fit : ∀ s ∈ l, FitP wr s.first 0 s.es
  size : ∀ s ∈ l, s.size = (s.file wr).length
  first : ∀ s ∈ l, 1 ≤ s.first ∧ s.first + s.es.length ≤ 9223372036854775808
  chain : ChainP floor l
  files : ∀ s ∈ l, ∃ q, aget (nameB wr s.first) d.fs = some ⟨s.file wr, q⟩
  only : ∀ x, hasP (beginB wr) x = true → aget x d.fs ≠ none → ∃ s ∈ l, x = nameB wr s.first
  head : ∀ s, l.head? = some s → s.first ≤ floor + 1
  keys : (d.fs.map Prod.fst).Nodup
theorem FInv.frame {wr floor : Nat} {l : List Sp} {d d' : Dk} (h : FInv wr floor l d) (hk : (d'.fs.map Prod.fst).Nodup) (hc : d'.calm) (hf : ∀ x, hasP (beginB wr) x = true → aget x d'.fs = aget x d.fs) : FInv wr floor l d' :=
  ⟨h.lt, hc, h.fit, h.size, h.first, h.chain, fun s hs => by rw [hf (nameB wr s.first) (hasP_self _ _)]; exact h.files s hs, fun x hx hn => h.only x hx (by rw [← hf x hx]; exact hn), h.head, hk⟩
theorem chain_snoc {floor : Nat} {t : Sp} : ∀ {l : List Sp}, ChainP floor l → (∀ s, l.getLast? = some s → s.first < t.first ∧ s.first + s.es.length ≤ t.first ∧ (t.first = s.first + s.es.length ∨ t.first ≤ floor + 1)) → ChainP floor (l ++ [t])
  | [], _, _ => trivial
  | [s], _, h => ⟨h s rfl, trivial⟩
  | s :: u :: r, hc, h => ⟨hc.1, chain_snoc (l := u :: r) hc.2 (fun x hx => h x (by simpa using hx))⟩
theorem chain_last {floor : Nat} {s s' : Sp} (h : s'.first = s.first) : ∀ {L : List Sp}, ChainP floor (L ++ [s]) → ChainP floor (L ++ [s'])
  | [], _ => trivial
  | [u], hc => ⟨by rw [h]; exact hc.1, trivial⟩
  | u :: v :: r, hc => ⟨hc.1, chain_last h (L := v :: r) hc.2⟩
theorem chain_lt {floor : Nat} {s : Sp} : ∀ {L : List Sp}, ChainP floor (L ++ [s]) → ∀ u ∈ L, u.first < s.first
  | [], _, u, hu => by cases hu
  | [v], hc, u, hu => by
    rw [List.mem_singleton.1 hu]; exact hc.1.1
  | v :: w :: r, hc, u, hu => by
    have ih := chain_lt (L := w :: r) hc.2
    rcases List.mem_cons.1 hu with rfl | hu
    · exact Nat.lt_trans hc.1.1 (ih w (by simp))
    · exact ih u hu
theorem chain_floor {floor floor' : Nat} (h : floor ≤ floor') : ∀ {l : List Sp}, ChainP floor l → ChainP floor' l
  | [], _ => trivial
  | [_], _ => trivial
  | s :: t :: r, hc => ⟨⟨hc.1.1, hc.1.2.1, hc.1.2.2.imp id (fun x => by omega)⟩, chain_floor h (l := t :: r) hc.2⟩
theorem aget_snoc {β : Type} {k n : List UInt8} {v : β} : ∀ {l : List (List UInt8 × β)}, k ≠ n → aget k (l ++ [(n, v)]) = aget k l
  | [], h => by simp [aget, h]
  | (a, u) :: r, h => by
    simp only [List.cons_append, aget]
    split
    · rfl
    · exact aget_snoc h
/-- What one act on a file of a writer's leaves as it was. -/
structure Same (wr : Nat) (d d' : Dk) : Prop where
  calm : d'.calm
  room : d'.room = d.room
  frame : ∀ x, hasP (beginB wr) x = false → aget x d'.fs = aget x d.fs
theorem Same.trans {wr : Nat} {a b c : Dk} (h : Same wr a b) (k : Same wr b c) : Same wr a c := ⟨k.calm, k.room.trans h.room, fun x hx => (k.frame x hx).trans (h.frame x hx)⟩
theorem ne_of_hasP {p x y : List UInt8} (h : hasP p x = false) : x ≠ p ++ y := by
  rintro rfl
  rw [hasP_self] at h
  cases h
/-- A file is made safe. -/
theorem FInv.synced {wr floor : Nat} {l : List Sp} {d : Dk} (h : FInv wr floor l d) {s : Sp} (hs : s ∈ l) : ∃ d', d.sync (nameB wr s.first) = (0, d') ∧ FInv wr floor l d' ∧ Same wr d d' ∧ tk d'.fs = tk d.fs := by
  obtain ⟨q, hq⟩ := h.files s hs
  obtain ⟨d', e1, e2, e3, e4⟩ := h.calm.sync hq
  refine ⟨d', e1, ⟨h.lt, e4, h.fit, h.size, h.first, h.chain, fun t ht => ?_, fun x hx hn => ?_, h.head, by rw [e2]; exact put_keys h.keys⟩, ⟨e4, e3, fun x hx => ?_⟩, ?_⟩
  · by_cases he : nameB wr t.first = nameB wr s.first
    · have h1 := h.files t ht
      rw [he, hq] at h1
      obtain ⟨q1, h1⟩ := h1
      simp only [Option.some.injEq, Fl.mk.injEq] at h1
      refine ⟨(s.file wr).length, ?_⟩
      rw [he, e2, aget_put]
      simp only [h1.1]
    · rw [e2, aget_put_ne _ he]
      exact h.files t ht
  · rw [e2] at hn
    by_cases he : x = nameB wr s.first
    · exact ⟨s, hs, he⟩
    · rw [aget_put_ne _ he] at hn
      exact h.only x hx hn
  · rw [e2, aget_put_ne]
    exact ne_of_hasP hx
  · rw [e2]
    obtain ⟨l1, l2, h1, h2, -⟩ := al_split hq
    rw [h2, h1]
    simp only [tk_append, tk_cons]
/-- A new segment. -/
theorem FInv.begun {wr floor : Nat} {l : List Sp} {d : Dk} (h : FInv wr floor l d) {n : Nat} (h1 : 1 ≤ n) (h2 : n ≤ 9223372036854775807) (hl : ∀ s, l.getLast? = some s → s.first < n ∧ s.first + s.es.length ≤ n ∧ (n = s.first + s.es.length ∨ n ≤ floor + 1)) (hf : l = [] → n ≤ floor + 1) (hr : (tk d.fs : Int) + 39 ≤ d.room) :
    ∃ d', d.begin (nameB wr n) ⟨115, wr, n⟩ = (0, d') ∧ FInv wr floor (l ++ [⟨n, [], (headB ⟨115, wr, n⟩).length⟩]) d' ∧ Same wr d d' ∧ tk d'.fs ≤ tk d.fs + 39 := by
  have hwr := h.lt
  have hto : Ti.ok ⟨115, wr, n⟩ := ⟨by simp only; omega, by simp only; omega⟩
  have hhl := headB_len hto
  have hlt : ∀ s ∈ l, s.first < n := by
    intro s hs
    cases hla : l.getLast? with
    | none => rw [List.getLast?_eq_none_iff.1 hla] at hs; cases hs
    | some t =>
      have ht := (hl t hla).1
      obtain ⟨L, rfl⟩ := List.getLast?_eq_some_iff.1 hla
      rcases List.mem_append.1 hs with hs | hs
      · have := chain_lt h.chain s hs
        omega
      · rw [List.mem_singleton.1 hs]; exact ht
  have hnone : aget (nameB wr n) d.fs = none := by
    cases ha : aget (nameB wr n) d.fs with
    | none => rfl
    | some v =>
      obtain ⟨s, hs, he⟩ := h.only (nameB wr n) (hasP_self _ _) (by rw [ha]; simp)
      have h3 := hlt s hs
      have h4 := (h.first s hs).2
      have := nameB_inj (w := wr) (by omega) (by omega) he
      omega
  obtain ⟨d', e1, e2, e3, e4⟩ := begin_calm8 h.calm (t := ⟨115, wr, n⟩) (nameB_named (f := n) hwr (by omega)) hnone (by omega)
  refine ⟨d', e1, ⟨hwr, e4, fun s hs => ?_, fun s hs => ?_, fun s hs => ?_, chain_snoc h.chain hl, fun s hs => ?_, fun x hx hn => ?_, fun s hs => ?_, by rw [e2, ← (as_none hnone).1]; exact put_keys h.keys⟩, ⟨e4, e3, fun x hx => ?_⟩, ?_⟩
  · rcases List.mem_append.1 hs with hs | hs
    · exact h.fit s hs
    · rw [List.mem_singleton.1 hs]; trivial
  · rcases List.mem_append.1 hs with hs | hs
    · exact h.size s hs
    · rw [List.mem_singleton.1 hs]
      simp [Sp.file, segP, catB]
  · rcases List.mem_append.1 hs with hs | hs
    · exact h.first s hs
    · rw [List.mem_singleton.1 hs]
      simp only [List.length_nil]
      omega
  · rcases List.mem_append.1 hs with hs | hs
    · have h3 := hlt s hs
      have h4 := (h.first s hs).2
      have : nameB wr s.first ≠ nameB wr n := fun e => by
        have := nameB_inj (w := wr) (by omega) (by omega) e
        omega
      rw [e2, aget_snoc this]
      exact h.files s hs
    · rw [List.mem_singleton.1 hs]
      refine ⟨(headB ⟨115, wr, n⟩).length, ?_⟩
      simp only
      rw [e2, aget_last hnone]
      simp [Sp.file, segP, catB]
  · by_cases he : x = nameB wr n
    · exact ⟨_, List.mem_append_right _ (List.mem_singleton.2 rfl), he⟩
    · rw [e2, aget_snoc he] at hn
      obtain ⟨s, hs, h5⟩ := h.only x hx hn
      exact ⟨s, List.mem_append_left _ hs, h5⟩
  · cases l with
    | nil =>
      simp only [List.nil_append, List.head?_cons, Option.some.injEq] at hs
      subst hs
      exact hf rfl
    | cons a r => exact h.head s (by simpa using hs)
  · rw [e2, aget_snoc]
    exact ne_of_hasP hx
  · rw [e2, tk_append]
    simp only [tk, List.map_cons, List.map_nil, List.sum_cons, List.sum_nil] at hhl ⊢
    omega
/-- One more event in the last segment. -/
theorem FInv.added {wr floor : Nat} {L : List Sp} {s : Sp} {d : Dk} (h : FInv wr floor (L ++ [s]) d) {p : Ep} (hw : p.wr = wr) (hsq : p.sq = s.first + s.es.length) (h2 : p.sq ≤ 9223372036854775807) (hd : decE p.enc = .ok p) (hl : p.enc.length ≤ 2097152) (hr : (tk d.fs : Int) + (wrapB p.enc).length ≤ d.room) :
    ∃ d', d.add (nameB wr s.first) p.enc = (0, d') ∧ FInv wr floor (L ++ [⟨s.first, s.es ++ [p], s.size + recN p.enc.length⟩]) d' ∧ Same wr d d' ∧ tk d'.fs ≤ tk d.fs + (wrapB p.enc).length := by
  have hwr := h.lt
  have hsm : s ∈ L ++ [s] := by simp
  obtain ⟨q, hq⟩ := h.files s hsm
  have hf1 := h.first s hsm
  obtain ⟨d', e1, e2, e3, e4⟩ := add_calm8 h.calm hl (nameB_named (f := s.first) hwr (by omega)) hr
  have e5 : d'.fs = aput (nameB wr s.first) ⟨segP wr s.first (s.es ++ [p]), q⟩ d.fs := by
    rw [e2, put, hq]
    simp only [Option.getD_some, segP_snoc]
    rfl
  have hne : ∀ t ∈ L, nameB wr t.first ≠ nameB wr s.first := by
    intro t ht e
    have h3 := chain_lt h.chain t ht
    have := nameB_inj (w := wr) (by omega) (by omega) e
    omega
  refine ⟨d', e1, ⟨hwr, e4, fun t ht => ?_, fun t ht => ?_, fun t ht => ?_, chain_last (s := s) (s' := ⟨s.first, s.es ++ [p], s.size + recN p.enc.length⟩) rfl h.chain, fun t ht => ?_, fun x hx hn => ?_, fun t ht => ?_, by rw [e5]; exact put_keys h.keys⟩, ⟨e4, e3, fun x hx => ?_⟩, ?_⟩
  · rcases List.mem_append.1 ht with ht | ht
    · exact h.fit t (List.mem_append_left _ ht)
    · rw [List.mem_singleton.1 ht]
      exact (h.fit s hsm).append ⟨⟨hw, by rw [hsq]; omega, hd, hl⟩, trivial⟩
  · rcases List.mem_append.1 ht with ht | ht
    · exact h.size t (List.mem_append_left _ ht)
    · rw [List.mem_singleton.1 ht]
      have := h.size s hsm
      simp only [Sp.file] at this ⊢
      rw [segP_snoc, List.length_append, this, wrapB_length]
      rfl
  · rcases List.mem_append.1 ht with ht | ht
    · exact h.first t (List.mem_append_left _ ht)
    · rw [List.mem_singleton.1 ht]
      simp only [List.length_append, List.length_singleton]
      omega
  · rcases List.mem_append.1 ht with ht | ht
    · rw [e5, aget_put_ne _ (hne t ht)]
      exact h.files t (List.mem_append_left _ ht)
    · rw [List.mem_singleton.1 ht]
      exact ⟨q, by rw [e5, aget_put]; rfl⟩
  · by_cases he : x = nameB wr s.first
    · exact ⟨_, List.mem_append_right _ (List.mem_singleton.2 rfl), he⟩
    · rw [e5, aget_put_ne _ he] at hn
      obtain ⟨t, ht, h5⟩ := h.only x hx hn
      rcases List.mem_append.1 ht with ht | ht
      · exact ⟨t, List.mem_append_left _ ht, h5⟩
      · rw [List.mem_singleton.1 ht] at h5
        exact absurd h5 he
  · cases L with
    | nil =>
      simp only [List.nil_append, List.head?_cons, Option.some.injEq] at ht
      subst ht
      exact h.head s rfl
    | cons a r => exact h.head t (by simpa using ht)
  · rw [e5, aget_put_ne]
    exact ne_of_hasP hx
  · rw [e2, take_put_len]
    omega
end Go.Proofs.YtfhmamkafancbaaGreatDoor

/-
  Layer 9 (feed), plain: an event is added, a feed is folded, opened anew.
-/
namespace Go.Proofs.YtfhmamkafancbaaGreatDoor
open Go.RowKit
set_option linter.unusedVariables false
set_option linter.unusedSimpArgs false
def evS (l : List Sp) : List Ep := l.flatMap fun s => s.es
abbrev Fe.segs (f : Fe) : List Sp := f.l.map Sg.sp
/-- What a feed and its disk keep. -/
structure FGood (f : Fe) (d : Dk) : Prop where
  inv : FInv f.wr f.floor f.segs d
  own : ∀ s ∈ f.l, s.wr = f.wr
  dirty : f.dirty = true → f.l ≠ []
theorem feed_sync {f : Fe} {d : Dk} (h : FGood f d) : ∃ d', f.sync d = (0, { f with dirty := false }, d') ∧ FGood { f with dirty := false } d' ∧ Same f.wr d d' ∧ tk d'.fs = tk d.fs := by
  unfold Fe.sync
  cases hd : f.dirty with
  | false =>
    have e : ({ f with dirty := false } : Fe) = f := by cases f; simp only at hd; subst hd; rfl
    refine ⟨d, ?_, ?_, ⟨h.inv.calm, rfl, fun _ _ => rfl⟩, rfl⟩
    · simp [e]
    · rw [e]; exact h
  | true =>
    have hne := h.dirty hd
    cases hla : f.l.getLast? with
    | none => exact absurd (List.getLast?_eq_none_iff.1 hla) hne
    | some s =>
      have hs : s ∈ f.l := by
        obtain ⟨L, e⟩ := List.getLast?_eq_some_iff.1 hla
        rw [e]; simp
      obtain ⟨d', e1, e2, e3, e4⟩ := h.inv.synced (s := s.sp) (List.mem_map_of_mem hs)
      have e5 : d.sync (nameB s.wr s.first) = (0, d') := by rw [h.own s hs]; exact e1
      refine ⟨d', by simp [e5], ⟨e2, h.own, fun h => by cases h⟩, e3, e4⟩
theorem next_last {f : Fe} {d : Dk} (h : FGood f d) {L : List Sg} {s : Sg} (hl : f.l = L ++ [s]) : f.next = max (f.floor + 1) (s.first + s.x.es.length) ∧ s.next = s.first + s.x.es.length ∧ s.first + s.x.es.length ≤ 9223372036854775808 := by
  have h1 := (h.inv.first s.sp (List.mem_map_of_mem (by rw [hl]; simp))).2
  have h2 : s.first + s.x.es.length ≤ 9223372036854775808 := by simpa [Sg.sp] using h1
  have h3 : s.next = s.first + s.x.es.length := by unfold Sg.next; omega
  refine ⟨?_, h3, h2⟩
  simp [Fe.next, hl, h3]
theorem feed_rolled {f : Fe} {d : Dk} (h : FGood f d) {sq : Nat} (hsq : sq = f.next) (h2 : sq ≤ 9223372036854775807) (hr : (tk d.fs : Int) + 39 ≤ d.room) :
    ∃ f1 d1, f.rolled d sq = (0, f1, d1) ∧ FGood f1 d1 ∧ f1.wr = f.wr ∧ f1.floor = f.floor ∧ f1.time = f.time ∧ f1.cap = f.cap ∧ Same f.wr d d1 ∧ tk d1.fs ≤ tk d.fs + 39 ∧ (∃ L s, f1.l = L ++ [s] ∧ s.first + s.x.es.length = sq) ∧ evS f1.segs = evS f.segs ∧ f1.l.length ≤ f.l.length + 1 := by
  have roll : (∀ s, f.l.getLast? = some s → s.first < sq ∧ s.first + s.x.es.length ≤ sq ∧ (sq = s.first + s.x.es.length ∨ sq ≤ f.floor + 1)) → (f.l = [] → sq ≤ f.floor + 1) → 1 ≤ sq → f.full sq = true →
      ∃ f1 d1, f.rolled d sq = (0, f1, d1) ∧ FGood f1 d1 ∧ f1.wr = f.wr ∧ f1.floor = f.floor ∧ f1.time = f.time ∧ f1.cap = f.cap ∧ Same f.wr d d1 ∧ tk d1.fs ≤ tk d.fs + 39 ∧ (∃ L s, f1.l = L ++ [s] ∧ s.first + s.x.es.length = sq) ∧ evS f1.segs = evS f.segs ∧ f1.l.length ≤ f.l.length + 1 := by
    intro hl hn h1 hfu
    obtain ⟨d0, e1, e2, e3, e4⟩ := feed_sync h
    obtain ⟨d1, g1, g2, g3, g4⟩ := e2.inv.begun (n := sq) h1 h2 (fun s hs => by
      rw [List.getLast?_map] at hs
      cases hla : f.l.getLast? with
      | none => simp [hla] at hs
      | some t =>
        simp only [hla, Option.map_some, Option.some.injEq] at hs
        subst hs
        have := hl t hla
        simpa [Sg.sp] using this) (fun he => hn (by simpa using he)) (by rw [e3.room, e4]; exact hr)
    refine ⟨{ f with dirty := false, l := f.l ++ [sgNew 0 f.wr sq] }, d1, ?_, ⟨?_, ?_, fun h => by cases h⟩, rfl, rfl, rfl, rfl, e3.trans g3, by omega, ⟨f.l, sgNew 0 f.wr sq, rfl, by simp [sgNew]⟩, ?_, by simp⟩
    · simp only [Fe.rolled, hfu, if_true, Fe.roll, e1, ne_eq, not_true_eq_false, if_false]
      simp only at g1
      rw [g1]
      rfl
    · simp only [Fe.segs, List.map_append, List.map_cons, List.map_nil]
      exact g2
    · intro s hs
      rcases List.mem_append.1 hs with hs | hs
      · exact h.own s hs
      · rw [List.mem_singleton.1 hs]; rfl
    · simp [evS, Fe.segs, sgNew, Sg.sp]
  cases hla : f.l.getLast? with
  | none =>
    have hl0 := List.getLast?_eq_none_iff.1 hla
    have hnx : f.next = f.floor + 1 := by simp [Fe.next, hla]
    exact roll (fun s hs => by rw [hla] at hs; cases hs) (fun _ => by omega) (by omega) (by simp [Fe.full, hla])
  | some s =>
    obtain ⟨L, hl⟩ := List.getLast?_eq_some_iff.1 hla
    obtain ⟨n1, n2, n3⟩ := next_last h hl
    cases hfu : f.full sq with
    | true =>
      refine roll (fun t ht => ?_) (fun h0 => by rw [h0] at hla; cases hla) (by omega) hfu
      rw [hla] at ht
      simp only [Option.some.injEq] at ht
      subst ht
      simp only [Fe.full, hla, Bool.or_eq_true, Bool.and_eq_true, decide_eq_true_eq, Bool.not_eq_true', decide_eq_false_iff_not] at hfu
      omega
    | false =>
      simp only [Fe.full, hla, Bool.or_eq_false_iff, Bool.not_eq_false', decide_eq_true_eq] at hfu
      refine ⟨f, d, by simp [Fe.rolled, Fe.full, hla, hfu], h, rfl, rfl, rfl, rfl, ⟨h.inv.calm, rfl, fun _ _ => rfl⟩, by omega, ⟨L, s, hl, by omega⟩, rfl, by omega⟩
theorem Fe.next_ge (f : Fe) : f.floor + 1 ≤ f.next := by
  unfold Fe.next
  split <;> omega
/-- An event is added. -/
theorem feed_add {f : Fe} {d : Dk} (h : FGood f d) {e : Ev} (hp : f.addP e = 0) (hr : e.right = 0) (hkd : e.kd < 256) (hn : e.num < 18446744073709551616) (hlen : e.enc.length ≤ 2097152) (hroom : (tk d.fs : Int) + 39 + (wrapB e.enc).length ≤ d.room) :
    (f.addR d e).1 = 0 ∧ Same f.wr d (f.addR d e).2.2 ∧ tk (f.addR d e).2.2.fs ≤ tk d.fs + 39 + (wrapB e.enc).length ∧
      ∀ f', (f.addR d e).2.1.grown f' e → FGood f' (f.addR d e).2.2 ∧ f'.wr = f.wr ∧ f'.floor = f.floor ∧ f'.time = f.time ∧ f'.cap = f.cap ∧ f'.dirty = true ∧ evS f'.segs = evS f.segs ++ [e.ep] ∧ f'.next = e.sq + 1 ∧ f'.l.length ≤ f.l.length + 1 := by
  have hsq : e.wr = f.wr ∧ e.sq = f.next := by
    simp only [Fe.addP] at hp
    split at hp
    · cases hp
    · split at hp
      · cases hp
      · rename_i h2
        exact Classical.byContradiction fun h3 => h2 h3
  have h2 : e.sq ≤ 9223372036854775807 := by
    unfold Ev.right at hr
    split at hr
    · omega
    split at hr
    · omega
    split at hr
    · omega
    omega
  obtain ⟨f1, d1, r1, r2, r3, r4, r5, r6, r7, r8, ⟨L, s, r9, r10⟩, r11, r12⟩ := feed_rolled h hsq.2 h2 (by omega)
  have hla : f1.l.getLast? = some s := by rw [r9]; simp
  have hown := r2.own s (by rw [r9]; simp)
  have hinv := r2.inv
  simp only [Fe.segs, r9, List.map_append, List.map_cons, List.map_nil] at hinv
  obtain ⟨n1, n2, n3⟩ := next_last r2 r9
  have hw : e.ep.wr = f1.wr := by
    simp only [Ev.ep]; omega
  obtain ⟨d2, a1, a2, a3, a4⟩ := hinv.added (p := e.ep) hw (by simp only [Ev.ep, Sg.sp, List.length_map]; omega) (by simp only [Ev.ep]; omega) (by rw [enc_ep]; exact decE_right hr hkd hn) (by rw [enc_ep]; exact hlen) (by rw [enc_ep, r7.room]; omega)
  rw [enc_ep] at a1 a2 a4
  have hfit : s.fit e = 0 := by
    simp only [Sg.fit]
    rw [if_pos hr, if_pos]
    exact ⟨by omega, by omega⟩
  have hR : f.addR d e = (0, f1, d2) := by
    simp only [Fe.addR, hp, ne_eq, not_true_eq_false, if_false, r1, hla, Sg.addE, Sg.addD, hfit, if_true]
    rw [hown]
    simp only [Sg.sp] at a1
    rw [a1]
  rw [hR]
  refine ⟨rfl, r7.trans (by rw [← r3]; exact a3), by simp only; omega, ?_⟩
  rintro f' ⟨L', s0, s', q1, q2, rfl⟩
  have hLs : L' = L ∧ s0 = s := by
    have := q1.symm.trans r9
    have h1 := List.append_inj' this rfl
    exact ⟨h1.1, by simpa using h1.2⟩
  obtain ⟨rfl, rfl⟩ := hLs
  obtain ⟨tv, q3⟩ := q2.es
  have hsp : s'.sp = ⟨s0.sp.first, s0.sp.es ++ [e.ep], s0.sp.size + recN e.enc.length⟩ := by
    simp only [Sg.sp, q2.first, q3, q2.size, List.map_append, List.map_cons, List.map_nil, Ep.raw_ev]
  refine ⟨⟨?_, ?_, fun _ => by simp⟩, r3, r4, r5, r6, rfl, ?_, ?_, by rw [r9] at r12; simpa using r12⟩
  · simp only [Fe.segs, List.map_append, List.map_cons, List.map_nil, hsp]
    exact a2
  · intro t ht
    rcases List.mem_append.1 ht with ht | ht
    · exact r2.own t (by rw [r9]; exact List.mem_append_left _ ht)
    · rw [List.mem_singleton.1 ht]
      exact q2.wr.trans hown
  · rw [← r11]
    simp only [evS, Fe.segs, r9, List.map_append, List.map_cons, List.map_nil, hsp, List.flatMap_append, List.flatMap_cons, List.flatMap_nil, List.append_nil, List.append_assoc]
  · have : s'.next = e.sq + 1 := by
      unfold Sg.next
      rw [q2.first, q3, List.length_append, List.length_singleton]
      omega
    have hge := f.next_ge
    have h7 := hsq.2
    simp only [Fe.next, List.getLast?_concat, this]
    omega
end Go.Proofs.YtfhmamkafancbaaGreatDoor

/-
  Layer 9 (feed), plain: a feed is folded, opened anew.
-/
namespace Go.Proofs.YtfhmamkafancbaaGreatDoor
open Go.RowKit
set_option linter.unusedVariables false
set_option linter.unusedSimpArgs false
/-- The events behind a floor. -/
def liveP (floor : Nat) (l : List Sp) : List Ep := (evS l).filter fun p => decide (floor < p.sq)
theorem FInv.floor {wr floor floor' : Nat} {l : List Sp} {d : Dk} (h : FInv wr floor l d) (hf : floor ≤ floor') : FInv wr floor' l d :=
  ⟨h.lt, h.calm, h.fit, h.size, h.first, chain_floor hf h.chain, h.files, h.only, fun s hs => by have := h.head s hs; omega, h.keys⟩
end Go.Proofs.YtfhmamkafancbaaGreatDoor

/-
  Layer 9 (feed), plain: a feed that is opened anew has the same events.
-/
namespace Go.Proofs.YtfhmamkafancbaaGreatDoor
open Go.RowKit
set_option linter.unusedVariables false
set_option linter.unusedSimpArgs false
end Go.Proofs.YtfhmamkafancbaaGreatDoor

/-
  Layer 9 (feed), plain: the last event; how much there is.
-/
namespace Go.Proofs.YtfhmamkafancbaaGreatDoor
open Go.RowKit
set_option linter.unusedVariables false
set_option linter.unusedSimpArgs false
theorem all_raw (f : Fe) : f.all.map Ev.raw = liveP f.floor f.segs := by
  have h : ∀ l : List Ev, (l.filter fun e => decide (f.floor < e.sq)).map Ev.raw = (l.map Ev.raw).filter fun p => decide (f.floor < p.sq) := by
    intro l
    rw [List.filter_map]
    rfl
  have h2 : (f.l.flatMap fun s => s.x.es).map Ev.raw = evS f.segs := by
    simp only [evS, Fe.segs, List.map_flatMap, List.flatMap_map]
    rfl
  simp only [Fe.all, liveE, liveP, h, h2]
theorem tm_live (f : Fe) : f.tm = match (liveP f.floor f.segs).getLast? with | some p => p.tm | none => f.time := by
  rw [← all_raw, List.getLast?_map]
  unfold Fe.tm
  cases f.all.getLast? <;> rfl
theorem count_eq (f : Fe) : f.count = (evS f.segs).length := by
  have h2 : (f.l.flatMap fun s => s.x.es).map Ev.raw = evS f.segs := by
    simp only [evS, Fe.segs, List.map_flatMap, List.flatMap_map]
    rfl
  rw [← h2, List.length_map]
  rfl
theorem mem_flat_len {α β : Type} (h : α → List β) : ∀ {l : List α} {x : α}, x ∈ l → (h x).length ≤ (l.flatMap h).length
  | y :: r, x, hx => by
    rw [List.flatMap_cons, List.length_append]
    rcases List.mem_cons.1 hx with rfl | hx
    · omega
    · have := mem_flat_len h hx; omega
theorem small_of {f : Fe} {d : Dk} (h : FGood f d) (hc : (evS f.segs).length ≤ 1000000000) (ht : tk d.fs ≤ 1000000000) : f.small := by
  intro s hs
  have hm : s.sp ∈ f.segs := List.mem_map_of_mem hs
  obtain ⟨q, hq⟩ := h.inv.files _ hm
  have h1 := aget_tk hq
  have h2 := h.inv.size _ hm
  have h3 := mem_flat_len (fun s : Sp => s.es) hm
  simp only [Sg.sp, List.length_map] at h2 h3 h1
  simp only [evS] at hc
  constructor
  · rw [h2]
    simp only [Sp.file] at h1
    simp only [Sp.file]
    omega
  · omega
theorem FGood.new (wr : Nat) (cap room : Int) (floor time : Nat) (h : wr < 64) : FGood ⟨wr, cap, floor, time, [], false⟩ ⟨[], room, -1, 0, 0, false⟩ :=
  ⟨⟨h, ⟨rfl, by simp⟩, fun s hs => (by cases hs), fun s hs => (by cases hs), fun s hs => (by cases hs), trivial, fun s hs => (by cases hs), fun x _ hn => absurd rfl hn, fun s hs => (by cases hs), List.nodup_nil⟩, fun s hs => (by cases hs), fun h => (by cases h)⟩
/-- The same in other words: what is to be known of the feed that comes out. -/
theorem feed_sync1 {f : Fe} {d : Dk} (h : FGood f d) : ∃ f' d', f.sync d = (0, f', d') ∧ FGood f' d' ∧ Same f.wr d d' ∧ tk d'.fs = tk d.fs ∧ f'.l = f.l ∧ f'.wr = f.wr ∧ f'.floor = f.floor ∧ f'.time = f.time ∧ f'.cap = f.cap ∧ f'.dirty = false ∧ f'.next = f.next := by
  obtain ⟨d', h1, h2, h3, h4⟩ := feed_sync h
  exact ⟨_, d', h1, h2, h3, h4, rfl, rfl, rfl, rfl, rfl, rfl, rfl⟩
end Go.Proofs.YtfhmamkafancbaaGreatDoor

/-
  The stepping engine: a[j] of an array by value, an element of one cell.
-/
namespace Go.Proofs.YtfhmamkafancbaaGreatDoor
open Go.RowKit
section
variable {P : Program} {n : Fm} {ρ : List (Nat × Value)} {w : World} {Q : Exit → Act → World → Prop} {ops : Array Oper} {rest : List Oper} {d : Option Tmp} {ty : TypeId} {ps : String} {af : Array Edge} {x y : Operand} {e t : TypeId}
theorem run_index_agg {cs : Array Value} {v : Value} {j m : Nat} {kd : IntKind} {i : Int} (ht : P.underlying t = some (.array m e)) (hq : ∀ w, (sizeOf e).run P w = .ok 1 w) (hg : ∀ w, (isAgg e).run P w = .ok false w) (hi : i = (j : Int)) (hj : j < m) (hv : cs[j]? = some v) (w : World) : (Instr.index t (.agg cs) (.int kd i)).run P w = .ok v w := by
  subst hi
  simp [Instr.index, run_underlying ht, asIntOf, hq, hj, part, hg, hv]
theorem E.ixv {cs : Array Value} {v : Value} {m : Nat} {kd : IntKind} {i : Int} (j : Nat) (ht : P.underlying t = some (.array m e)) (hv : cs[j]? = some v) (h : E P n ops rest (pushv d v ρ) w Q) (hq : ∀ w, (sizeOf e).run P w = .ok 1 w := by intro w; exact sz_) (hg : ∀ w, (isAgg e).run P w = .ok false w := by intro w; go_simp; done)
    (hx : evo n ρ x = some (.agg cs) := by exact rfl) (hy : evo n ρ y = some (.int kd i) := by exact rfl) (hi : i = (j : Int) := by first | rfl | omega) (hj : j < m := by omega) : E P n ops (⟨d, .index t x y, ty, ps, af, none⟩ :: rest) ρ w Q :=
  E.pv (Pv.index hx hy (run_index_agg ht hq hg hi hj hv)) h
end
end Go.Proofs.YtfhmamkafancbaaGreatDoor

/-
  Layer 14 (store): load, its first loop: the feeds are opened.
-/
namespace Go.Proofs.YtfhmamkafancbaaGreatDoor
open Go.RowKit
set_option linter.unusedVariables false
set_option linter.unusedSimpArgs false
def tmP (fl time : Nat) (l : List Sp) : Nat := match (liveP fl l).getLast? with
  | some p => p.tm
  | none => time
/-- The clock, behind so many feeds. -/
def clkP (m : Mf) (segs : Nat → List Sp) : Nat → Nat
  | 0 => m.time
  | w + 1 => if vget m.floor w + 1 < nextP (vget m.floor w) (segs w) then max (clkP m segs w) (tmP (vget m.floor w) m.time (segs w)) else clkP m segs w
/-- What opens without a fault: the feeds of a disk, one behind the other. -/
structure LoadH (m : Mf) (d : Dk) (segs : Nat → List Sp) (dn : Nat → Dk) : Prop where
  d0 : dn 0 = d
  step : ∀ w, w < 64 → ∃ ns : List Nat, (dn w).names (beginB w) = ns.map (nameB w) ∧ (∀ n ∈ ns, n < 18446744073709551616) ∧ fopR w (vget m.floor w) ns [] (dn w) = (0, segs w, dn (w + 1))
  nm : ∀ w, w < 64 → (∀ p ∈ (dn w).fs, p.1.length ≤ 1000000) ∧ (dn w).fs.length ≤ 1000000000
  fl : ∀ w : Nat, w < 64 → vget m.floor w ≤ 9223372036854775807
  sm : ∀ w, w < 64 → ∀ s ∈ segs w, s.size ≤ 4000000000000000000 ∧ s.es.length ≤ 1000000000
  ct : ∀ w, w < 64 → (evS (segs w)).length ≤ 1000000000
  ck : clkP m segs 64 < 18446744073709551616
/-- A feed that has been opened. -/
def Opened (sz : Int) (m : Mf) (segs : Nat → List Sp) (w : Nat) (f : Fe) : Prop := f.wr = w ∧ f.cap = sz ∧ f.floor = vget m.floor w ∧ f.time = m.time ∧ f.dirty = false ∧ f.segs = segs w ∧ ∀ s ∈ f.l, ∀ e ∈ s.x.es, e.right = 0
def half (k : Nat) (l : List Bool) : List Bool := l.take k ++ List.replicate (64 - k) false
theorem half_len {k : Nat} {l : List Bool} (hk : k ≤ 64) (h : l.length = 64) : (half k l).length = 64 := by simp [half, h]; omega
theorem half_set {k : Nat} {l : List Bool} (hk : k < 64) (h : l.length = 64) : (half k l).set k (l.getD k false) = half (k + 1) l := by
  have e : l.getD k false = l[k]'(by omega) := by rw [List.getD_eq_getElem?_getD, List.getElem?_eq_getElem (by omega)]; rfl
  rw [e]
  unfold half
  rw [List.set_append_right _ _ (by simp; omega)]
  have e2 : k - (l.take k).length = 0 := by simp; omega
  have e3 : l.take (k + 1) = l.take k ++ [l[k]'(by omega)] := List.take_succ_eq_append_getElem (by omega)
  rw [e2, e3, show 64 - k = (64 - (k + 1)) + 1 by omega, List.replicate_succ, List.append_assoc]
  rfl
theorem half_all {l : List Bool} (h : l.length = 64) : half 64 l = l := by
  simp [half, ← h]
def fvP (bs : List Nat) : List Value := bs.map ptr ++ List.replicate (64 - bs.length) (.pointer none)
theorem fvP_len {bs : List Nat} (h : bs.length ≤ 64) : (fvP bs).length = 64 := by simp [fvP]; omega
theorem fvP_set {bs : List Nat} {b : Nat} (h : bs.length < 64) : (fvP bs).set bs.length (ptr b) = fvP (bs ++ [b]) := by
  unfold fvP
  rw [List.set_append_right _ _ (by simp)]
  have e2 : bs.length - (bs.map ptr).length = 0 := by simp
  rw [e2, show 64 - bs.length = (64 - (bs ++ [b]).length) + 1 by simp; omega, List.replicate_succ]
  simp
theorem fvP_all {bs : List Nat} (h : bs.length = 64) : fvP bs = bs.map ptr := by simp [fvP, h]
def So.notes (s : So) (l : List Ev) : So := l.foldl So.note s
theorem notes_append (s : So) (a b : List Ev) : s.notes (a ++ b) = (s.notes a).notes b := by simp [So.notes]
theorem ag_feeds : AggOf Tryz.prog 100 64 := ⟨_, Tryz.underlying100, rfl, by kernel_rfl⟩
set_option maxHeartbeats 6400000 in
set_option maxRecDepth 100000 in
theorem load_any {R : Ending → World → Prop} {W w : World} {g : Hl} {H : List HP} {sb db bb c : Nat} {a : Option Addr} {sz : Int} {m : Mf} {base : Fo} {d : Dk} {segs : Nat → List Sp} {dn : Nat → Dk} (hg : Gl g) (hL : LoadH m d segs dn) (hm : m.ok) (hb1 : base.mem.length = 64) (hb2 : base.ret.length = 64) (hsz : -9223372036854775808 ≤ sz ∧ sz ≤ 9223372036854775807) (hp : Pr 1 g (.slice a m.floor.length c) m.floor.length (us m.floor))
    (hs : Sat W w g (blk sb (stC db sz m a c bb (fvP []) 0 (half 0 base.mem) (half 0 base.ret)) 103 :: fold bb base :: disk db d :: H))
    (hR : ∀ (i : Si) (fs : List Fe) w' g', Hl.le g g' → i.bb = bb → i.ok ((So.mk sz m base fs (clkP m segs 64) base.mem base.ret).notes (fs.flatMap Fe.all)) g' → (∀ k (h : k < fs.length), Opened sz m segs k fs[k]) → Sat W w' g' (soB sb db i ((So.mk sz m base fs (clkP m segs 64) base.mem base.ret).notes (fs.flatMap Fe.all)) :: fold bb base :: bsep (feeds db i.bs fs) :: disk db (dn 64) :: H) → R (.returned (.int .i64 0)) w') : Calls Tryz.prog 91 #[ptr sb] w R := by
  have HR := Lib.hid hR
  clear hR
  refine C.calls (args := [ptr sb]) Tryz.func91 rfl rfl rfl ?_
  refine go ?_
  refine E.sto (vs := [.int .u64 m.time]) (ys := stC db sz m a c bb (fvP []) m.time (half 0 base.mem) (half 0 base.ret)) hs ?_ (hv := rfl) (hsp := stC_setck (fvP_len (by simp)) _) (hj := stC_fit (fvP_len (by simp)) (half_len (by decide) hb1) (half_len (by decide) hb2) (by simp))
  intro w2 hs
  refine gob ?_
  refine C.cut (fun _ : Unit => [(0, ptr sb)]) (fun _ w => ∃ (bs : List Nat) (fs : List Fe) (g' : Hl), Hl.le g g' ∧ bs.length = 64 ∧ fs.length = 64 ∧ (∀ k (h : k < fs.length), Opened sz m segs k fs[k]) ∧ Sat W w g' (blk sb (stC db sz m a c bb (fvP bs) (clkP m segs 64) (half 64 base.mem) (half 64 base.ret)) 103 :: fold bb base :: bsep (feeds db bs fs) :: disk db (dn 64) :: H)) ?_ ?_
  · refine C.block ?_
    refine C.lp (fun q : List Nat × List Fe => [(0, ptr sb), (18, .int .i64 q.1.length)])
      (fun gk q w => gk = 64 - q.1.length ∧ q.1.length ≤ 64 ∧ q.2.length = q.1.length ∧ (∀ k (h : k < q.2.length), Opened sz m segs k q.2[k]) ∧ ∃ g', Hl.le g g' ∧ Sat W w g' (blk sb (stC db sz m a c bb (fvP q.1) (clkP m segs q.1.length) (half q.1.length base.mem) (half q.1.length base.ret)) 103 :: fold bb base :: bsep (feeds db q.1 q.2) :: disk db (dn q.1.length) :: H)) 64 ([], []) ⟨rfl, by simp, rfl, (fun k h => by simp at h), g, Hl.le_refl _, ?_⟩ ?_
    · have := hs.mknothing
      rw [hL.d0.symm] at this
      exact this.push2
    · clear hs
      rintro gk ⟨bs, fs⟩ w3 ⟨rfl, hbl, hfl, hop, g3, hg3, hs⟩
      simp only at hbl hfl hop hs ⊢
      generalize hbk : bs.length = k at hbl hfl hs
      refine go ?_
      refine C.cond_dec (p := (k : Int) < 64) rfl (fun h => ?_) (fun h => ?_)
      rotate_left
      · obtain rfl : k = 64 := by omega
        refine go ?_
        exact A.mt () ⟨bs, fs, g3, hg3, hbk, hfl, hop, hs⟩
      have hk64 : k < 64 := by omega
      refine go ?_
      obtain ⟨ns, hns, hnlt, hfo⟩ := hL.step k hk64
      obtain ⟨hnm, hnf⟩ := hL.nm k hk64
      have hfl63 := hL.fl k hk64
      have htm := hm.time
      have hfln := hm.flen
      have hfvl := fvP_len (bs := bs) (by omega)
      have hml := half_len (k := k) hbl hb1
      have hrl := half_len (k := k) hbl hb2
      replace hbk := Lib.hid hbk
      refine C.held1 sb hs ?_
      intro w4 hk hs
      refine goh ?_
      refine EH.one (St.callf Tryz.func77 rfl ?_)
      refine vget_any (v := m.floor) (i := (k : Int)) hs (hp.mono hg3) rfl (by omega) ?_
      refine kept1 hs (fun hk => ?_) (Hl.le_refl _)
      refine goh ?_
      refine EH.one (St.callf Tryz.func159 rfl ?_)
      refine fopen_rt (g := g3) (wr := k) (fl := vget m.floor k) (tm := m.time) (cap := sz) (ns := ns) (hg.mono hg3) hk64 hfl63 htm hsz hnm hnf hns hnlt hs.pull3 ?_ ?_
      rotate_left
      · intro w5 g5 hg5 hne
        rw [hfo] at hne
        exact absurd rfl hne
      intro b l w5 g5 hg5 _ hl hrt hs
      rw [hfo] at hl hs
      simp only at hl hs
      replace hl := Lib.hid hl
      have hgg := hg3.trans hg5
      refine kept1 hs (fun hk => ?_) hg5
      refine goh ?_
      refine EH.done ?_
      refine go ?_
      clear hk
      refine C.heldN hs.pull2 ?_
      intro w6 hs
      have hk : Keeps g5 [(sb, stC db sz m a c bb (fvP bs) (clkP m segs k) (half k base.mem) (half k base.ret), 103)] w6 := Keeps.of1 hs (Hl.le_refl _)
      refine EH.tp 0 trivial ?_
      refine EH.tp 1 trivial ?_
      refine EH.tp 2 trivial ?_
      refine EH.tp 3 trivial ?_
      refine EH.tp 4 trivial ?_
      refine EH.tp 5 trivial ?_
      refine EH.tp 6 trivial ?_
      refine EH.tp 7 trivial ?_
      refine EH.tp 8 trivial ?_
      refine EH.tp 9 trivial ?_
      refine EH.tp 11 trivial ?_
      refine EH.tp 13 trivial ?_
      refine EH.tp 14 trivial ?_
      refine EH.tp 15 trivial ?_
      refine EH.tp 17 trivial ?_
      refine EH.tp 19 trivial ?_
      refine EH.tp 20 trivial ?_
      refine EH.tp 23 trivial ?_
      refine EH.tp 24 trivial ?_
      refine EH.tp 27 trivial ?_
      refine EH.tp 28 trivial ?_
      refine EH.tail 1717567488 2147150847 429916159 4 6 (Keeps g5 [(sb, stC db sz m a c bb (fvP bs) (clkP m segs k) (half k base.mem) (half k base.ret), 103)]) (fun _ _ => trivial) ?_
      refine goh ?_
      refine EH.one (St.callf Tryz.func160 rfl ?_)
      refine foldJoined_any hs.pull3 ?_
      refine kept1 hs (fun hk => ?_) (Hl.le_refl _)
      refine goh ?_
      refine EH.one (St.callf Tryz.func161 rfl ?_)
      refine foldRetired_any hs.pull3 ?_
      refine kept1 hs (fun hk => ?_) (Hl.le_refl _)
      refine goh ?_
      refine EH.done ?_
      refine A.mid ?_
      clear hk
      have hk : (fun _ : World => True) w6 := trivial
      refine goh ?_
      have hmd : (decide ((0 : Int) ≤ k) && base.mem.getD (k : Int).toNat false) = base.mem.getD k false := by simp
      have hrd : (decide ((0 : Int) ≤ k) && base.ret.getD (k : Int).toNat false) = base.ret.getD k false := by simp
      rw [hmd, hrd]
      clear hmd hrd
      have hfv1 : (fvP bs).set k (ptr b) = fvP (bs ++ [b]) := by
        have := hbk.out
        rw [← this]
        exact fvP_set (by omega)
      have hfv2 : (fvP (bs ++ [b])).length = 64 := fvP_len (by have := hbk.out; simp; omega)
      refine EH.sto (vs := [ptr b]) (ys := stC db sz m a c bb (fvP (bs ++ [b])) (clkP m segs k) (half k base.mem) (half k base.ret)) hs ?_ (hv := rfl) (hsp := by rw [stC_setfv hfvl hk64, hfv1]) (hj := stC_fit hfvl hml hrl (by simp only [List.length_singleton]; omega))
      intro w7 hs
      refine ⟨trivial, ?_⟩
      clear hk
      have hk : (fun _ : World => True) w7 := trivial
      refine goh ?_
      refine EH.sto (vs := [.bool (base.mem.getD k false)]) (ys := stC db sz m a c bb (fvP (bs ++ [b])) (clkP m segs k) (half (k + 1) base.mem) (half k base.ret)) hs ?_ (hv := rfl) (hsp := by rw [stC_setjo hfv2 hml hk64, half_set hk64 hb1]) (hj := stC_fit hfv2 hml hrl (by simp only [List.length_singleton]; omega))
      intro w8 hs
      refine ⟨trivial, ?_⟩
      clear hk
      have hk : (fun _ : World => True) w8 := trivial
      refine goh ?_
      have hml2 := half_len (k := k + 1) (by omega) hb1
      refine EH.sto (vs := [.bool (base.ret.getD k false)]) (ys := stC db sz m a c bb (fvP (bs ++ [b])) (clkP m segs k) (half (k + 1) base.mem) (half (k + 1) base.ret)) hs ?_ (hv := rfl) (hsp := by rw [stC_setre hfv2 hml2 hrl hk64, half_set hk64 hb2]) (hj := stC_fit hfv2 hml2 hrl (by simp only [List.length_singleton]; omega))
      intro w9 hs
      refine ⟨trivial, ?_⟩
      clear hk
      have hk : (fun _ : World => True) w9 := trivial
      refine goh ?_
      refine EH.done ?_
      refine go ?_
      have hsm : Fe.small ⟨k, sz, vget m.floor k, m.time, l, false⟩ := by
        intro u hu
        have h1 : u.sp ∈ segs k := by rw [← hl.out]; exact List.mem_map_of_mem hu
        have h2 := hL.sm k hk64 u.sp h1
        simpa [Sg.sp] using h2
      have hct : Fe.count ⟨k, sz, vget m.floor k, m.time, l, false⟩ ≤ 1000000000 := by
        rw [count_eq]
        have h2 := hL.ct k hk64
        have : Fe.segs ⟨k, sz, vget m.floor k, m.time, l, false⟩ = segs k := hl.out
        rw [this]
        exact h2
      have hnx : Fe.next ⟨k, sz, vget m.floor k, m.time, l, false⟩ = nextP (vget m.floor k) (segs k) := by
        rw [Fe.next_sp]
        simp only [hl.out]
      have htl : Fe.tm ⟨k, sz, vget m.floor k, m.time, l, false⟩ = tmP (vget m.floor k) m.time (segs k) := by
        rw [tm_live]
        have : Fe.segs ⟨k, sz, vget m.floor k, m.time, l, false⟩ = segs k := hl.out
        rw [this]
        rfl
      have hclk : clkP m segs (k + 1) = if vget m.floor k + 1 < nextP (vget m.floor k) (segs k) then max (clkP m segs k) (tmP (vget m.floor k) m.time (segs k)) else clkP m segs k := rfl
      replace htl := Lib.hid htl
      replace hnx := Lib.hid hnx
      replace hclk := Lib.hid hclk
      have hml2 := half_len (k := k + 1) (by omega) hb1
      have hrl2 := half_len (k := k + 1) (by omega) hb2
      have Hnext : ∀ w' g' (ck : Nat), Hl.le g5 g' → ck = clkP m segs (k + 1) → Sat W w' g' (feed b db ⟨k, sz, vget m.floor k, m.time, l, false⟩ :: blk sb (stC db sz m a c bb (fvP (bs ++ [b])) ck (half (k + 1) base.mem) (half (k + 1) base.ret)) 103 :: disk db (dn (k + 1)) :: fold bb base :: bsep (feeds db bs fs) :: H) →
          64 - (bs ++ [b]).length = 64 - (bs ++ [b]).length ∧ (bs ++ [b]).length ≤ 64 ∧ (fs ++ [(⟨k, sz, vget m.floor k, m.time, l, false⟩ : Fe)]).length = (bs ++ [b]).length ∧ (∀ j (h : j < (fs ++ [(⟨k, sz, vget m.floor k, m.time, l, false⟩ : Fe)]).length), Opened sz m segs j (fs ++ [(⟨k, sz, vget m.floor k, m.time, l, false⟩ : Fe)])[j]) ∧ ∃ g', Hl.le g g' ∧ Sat W w' g' (blk sb (stC db sz m a c bb (fvP (bs ++ [b])) (clkP m segs (bs ++ [b]).length) (half (bs ++ [b]).length base.mem) (half (bs ++ [b]).length base.ret)) 103 :: fold bb base :: bsep (feeds db (bs ++ [b]) (fs ++ [(⟨k, sz, vget m.floor k, m.time, l, false⟩ : Fe)])) :: disk db (dn (bs ++ [b]).length) :: H) := by
        intro w' g' ck hg' hck hs
        have hbl1 : (bs ++ [b]).length = k + 1 := by have := hbk.out; simp; omega
        refine ⟨rfl, by omega, by simp; have := hbk.out; omega, ?_, g', hg3.trans (hg5.trans hg'), ?_⟩
        · intro j hj
          by_cases hjk : j < fs.length
          · rw [List.getElem_append_left hjk]
            exact hop j hjk
          · have hj2 : j = fs.length := by simp at hj; omega
            subst hj2
            rw [List.getElem_append_right (Nat.le_refl _)]
            simp only [Nat.sub_self, List.getElem_cons_zero]
            refine ⟨by simp only; omega, rfl, ?_, rfl, rfl, ?_, hrt⟩
            · simp only; rw [hfl]
            · rw [hfl]; exact hl.out
        · rw [hbl1, ← hck]
          have h2 := feeds_snoc (by have := hbk.out; omega) hs.pull4.swap
          exact h2.pull3.pull2
      refine E.callf Tryz.func50 rfl ?_
      refine fnext_any hsm hs.swap ?_
      intro w10 hs
      rw [hnx.out]
      refine go ?_
      refine E.callf Tryz.func162 rfl ?_
      refine ffloor_any hs ?_
      intro w11 hs
      refine go ?_
      by_cases hlt : vget m.floor k + 1 < nextP (vget m.floor k) (segs k)
      · refine C.cond rfl (fun _ => ?_) (fun h => by
          rw [decide_eq_true (by simp only; omega)] at h; cases h)
        have hck := hclk.out
        rw [if_pos hlt] at hck
        clear hclk hlt
        replace hck := Lib.hid hck
        refine C.heldN hs ?_
        intro w12 hs
        have hk : Keeps g5 [(sb, stC db sz m a c bb (fvP (bs ++ [b])) (clkP m segs k) (half (k + 1) base.mem) (half (k + 1) base.ret), 103)] w12 := Keeps.of1 hs (Hl.le_refl _)
        refine EH.tail 1024 1024 1023 10 1 (Keeps g5 [(sb, stC db sz m a c bb (fvP (bs ++ [b])) (clkP m segs k) (half (k + 1) base.mem) (half (k + 1) base.ret), 103)]) (fun _ _ => trivial) ?_
        have rdc : Rd (Keeps g5 [(sb, stC db sz m a c bb (fvP (bs ++ [b])) (clkP m segs k) (half (k + 1) base.mem) (half (k + 1) base.ret), 103)]) sb 72 (.int .u64 (clkP m segs k)) := Rd.blk .here (stC_ck hfv2)
        refine goh ?_
        refine EH.one (St.callf Tryz.func108 rfl ?_)
        refine ftime_any hct hs ?_
        intro w13 g13 hg13 hs
        rw [htl.out]
        refine kept1 hs (fun hk => ?_) hg13
        refine goh ?_
        refine EH.done ?_
        refine A.mid ?_
        have emx : Max.max ((clkP m segs k : Nat) : Int) ((tmP (vget m.floor k) m.time (segs k) : Nat) : Int) = ((clkP m segs (k + 1) : Nat) : Int) := by
          rw [hck.out]; omega
        refine EH.sto (vs := [.int .u64 (clkP m segs (k + 1))]) (ys := stC db sz m a c bb (fvP (bs ++ [b])) (clkP m segs (k + 1)) (half (k + 1) base.mem) (half (k + 1) base.ret)) hs ?_ (hv := by rw [← emx]; rfl) (hsp := stC_setck hfv2 _) (hj := stC_fit hfv2 hml2 hrl2 (by simp only [List.length_singleton]; omega))
        intro w14 hs
        refine ⟨trivial, ?_⟩
        refine EH.done ?_
        have key := Hnext w14 g13 (clkP m segs (k + 1)) hg13 rfl hs
        have hbl1 : (bs ++ [b]).length = k + 1 := by have := hbk.out; simp; omega
        replace hck := Lib.hid hck
        replace key := Lib.hid key
        replace hbl1 := Lib.hid hbl1
        clear emx rdc
        refine go ?_
        refine A.rd (64 - (bs ++ [b]).length) (bs ++ [b], fs ++ [(⟨k, sz, vget m.floor k, m.time, l, false⟩ : Fe)]) key.out (hg := ?_) (hw := ?_)
        · have := hbl1.out; omega
        · simp only [hbl1.out]; exact wk_
      · refine C.cond rfl (fun h => by
          rw [decide_eq_false (by simp only; omega)] at h; cases h) (fun _ => ?_)
        have hck := hclk.out
        rw [if_neg hlt] at hck
        clear hclk hlt
        have key := Hnext w11 g5 (clkP m segs k) (Hl.le_refl _) hck.symm hs
        have hbl1 : (bs ++ [b]).length = k + 1 := by have := hbk.out; simp; omega
        replace hck := Lib.hid hck
        replace key := Lib.hid key
        replace hbl1 := Lib.hid hbl1
        refine go ?_
        refine A.rd (64 - (bs ++ [b]).length) (bs ++ [b], fs ++ [(⟨k, sz, vget m.floor k, m.time, l, false⟩ : Fe)]) key.out (hg := ?_) (hw := ?_)
        · have := hbl1.out; omega
        · simp only [hbl1.out]; exact wk_
  clear hs
  rintro _ w3 ⟨bs, fs, g3, hg3, hbl, hfl, hop, hs⟩
  rw [half_all hb1, half_all hb2, fvP_all hbl] at hs
  have hi0 : Si.ok ⟨a, c, bb, bs⟩ (So.mk sz m base fs (clkP m segs 64) base.mem base.ret) g3 := ⟨⟨hsz, hm, hfl, hL.ck, hb1, hb2⟩, hbl, hp.mono hg3⟩
  have hfvl : (bs.map ptr).length = 64 := by rw [List.length_map]; exact hbl
  have ag3 := ag_feeds
  have ag1 := ag_ev
  refine go ?_
  refine E.ldp (vs := bs.map ptr) hs ?_ (hv := stC_feeds hfvl) (hk := hfvl)
  replace hs : Sat W w3 g3 (soB sb db ⟨a, c, bb, bs⟩ (So.mk sz m base fs (clkP m segs 64) base.mem base.ret) :: fold bb base :: bsep (feeds db bs fs) :: disk db (dn 64) :: H) := hs
  generalize hs0 : So.mk sz m base fs (clkP m segs 64) base.mem base.ret = s0 at hi0 hs HR
  replace hs0 := Lib.hid hs0
  refine gob ?_
  refine C.cut (fun _ : Unit => []) (fun _ w => ∃ g', Hl.le g g' ∧ Si.ok ⟨a, c, bb, bs⟩ (s0.notes (fs.flatMap Fe.all)) g' ∧ Sat W w g' (soB sb db ⟨a, c, bb, bs⟩ (s0.notes (fs.flatMap Fe.all)) :: fold bb base :: bsep (feeds db bs fs) :: disk db (dn 64) :: H)) ?_ ?_
  rotate_left
  · clear hs
    rintro _ w4 ⟨g4, hg4, hi4, hs⟩
    refine go ?_
    refine A.r1 ?_
    refine HR.out ⟨a, c, bb, bs⟩ fs w4 g4 hg4 rfl ?_ hop ?_
    · rw [← hs0.out] at hi4; exact hi4
    · rw [← hs0.out] at hs; exact hs
  refine C.block ?_
  refine C.lp (fun j : Nat => [(0, ptr sb), (97, .agg (bs.map ptr).toArray), (98, .int .i64 j)])
    (fun gk j w => gk = 64 - j ∧ j ≤ 64 ∧ ∃ g', Hl.le g g' ∧ Si.ok ⟨a, c, bb, bs⟩ (s0.notes ((fs.take j).flatMap Fe.all)) g' ∧ Sat W w g' (soB sb db ⟨a, c, bb, bs⟩ (s0.notes ((fs.take j).flatMap Fe.all)) :: fold bb base :: bsep (feeds db bs fs) :: disk db (dn 64) :: H)) 64 0 ⟨rfl, by decide, g3, hg3, hi0, hs⟩ ?_
  clear hs hi0
  rintro gk j w4 ⟨rfl, hj, g4, hg4, hi4, hs⟩
  refine go ?_
  refine C.cond_dec (p := (j : Int) < 64) rfl (fun h => ?_) (fun h => ?_)
  rotate_left
  · obtain rfl : j = 64 := by omega
    have e64 : (fs.take 64).flatMap Fe.all = fs.flatMap Fe.all := by rw [← hfl, List.take_length]
    rw [e64] at hi4 hs
    replace e64 := Lib.hid e64
    refine go ?_
    exact A.mt () ⟨g4, hg4, hi4, hs⟩
  have hj64 : j < 64 := by omega
  have hjb : j < bs.length := by omega
  have hjf : j < fs.length := by omega
  refine go ?_
  refine E.ixv (v := ptr bs[j]) (cs := (bs.map ptr).toArray) j Tryz.underlying100 (by simp [hjb]) ?_
  have hopj := hop j hjf
  obtain ⟨o1, o2, o3, o4, o5, o6, hrt⟩ := hopj
  have hct : fs[j].count ≤ 1000000000 := by
    rw [count_eq, o6]
    exact hL.ct j hj64
  have hsucc : (fs.take (j + 1)).flatMap Fe.all = (fs.take j).flatMap Fe.all ++ fs[j].all := by
    rw [List.take_succ_eq_append_getElem hjf, List.flatMap_append]
    simp
  have hrta : ∀ e ∈ fs[j].all, e.right = 0 := by
    intro e he
    have h1 := (List.mem_filter.1 he).1
    rw [List.mem_flatMap] at h1
    obtain ⟨u, hu, heu⟩ := h1
    exact hrt u hu e heu
  obtain ⟨rest, hsf, hback⟩ := feeds_out (bs := bs) (fs := fs) (v := j) hjb hjf hs.pull2
  have hback2 : ∀ (W w : World) (g : Hl) (H : List HP), Sat W w g (feed bs[j] db fs[j] :: rest :: H) → Sat W w g (bsep (feeds db bs fs) :: H) := by
    intro W w g H h
    have := hback bs[j] fs[j] h
    rw [set_self hjb, set_self hjf] at this
    exact this
  clear hback
  replace hback2 := Lib.hid hback2
  generalize hbj : bs[j] = bj at hsf hback2 ⊢
  generalize hfj : fs[j] = fj at hsf hback2 hct hsucc hrta o1 o2 o3 o4 o5 o6
  clear hs o1 o2 o3 o4 o5 o6 hrt
  replace hsucc := Lib.hid hsucc
  replace hbj := Lib.hid hbj
  replace hfj := Lib.hid hfj
  refine go ?_
  refine E.callf Tryz.func95 rfl ?_
  refine fall_any hct hsf ?_
  intro x w5 g5 hg5 hx hxe hs
  clear hsf
  replace hs := (hback2.out _ _ _ _ hs).push2
  clear hback2
  have hxv : x.v = .slice x.a x.es.length x.c := rfl
  rw [← hxe] at hrta hsucc
  have hxl : x.es.length ≤ 1000000000 := by
    have h1 := liveE_len fj.floor fj.l
    have h2 : x.es.length = (liveE fj.floor fj.l).length := by rw [hxe]; rfl
    have h3 : fj.count = (fj.l.flatMap fun s => s.x.es).length := rfl
    omega
  rw [hxv]
  clear hxv hct
  have hi5 := hi4.mono hg5
  have hg45 := hg4.trans hg5
  generalize hs1 : s0.notes ((fs.take j).flatMap Fe.all) = s1 at hi5 hs
  replace hs1 := Lib.hid hs1
  replace hxe := Lib.hid hxe
  refine gob ?_
  refine C.cutQ (fun _ : Unit => [(0, ptr sb), (97, .agg (bs.map ptr).toArray), (98, .int .i64 j)]) (fun _ w => Si.ok ⟨a, c, bb, bs⟩ (s1.notes x.es) g5 ∧ Sat W w g5 (soB sb db ⟨a, c, bb, bs⟩ (s1.notes x.es) :: fold bb base :: bsep (feeds db bs fs) :: disk db (dn 64) :: H)) ?_ ?_
  rotate_left
  · clear hs hi5
    rintro _ w6 ⟨hi6, hs⟩
    have e6 : s0.notes ((fs.take (j + 1)).flatMap Fe.all) = s1.notes x.es := by
      rw [hsucc.out, notes_append, hs1.out]
    replace e6 := Lib.hid e6
    refine go ?_
    exact A.rd (64 - (j + 1)) (j + 1) ⟨rfl, by omega, g5, hg45, by rw [e6.out]; exact hi6, by rw [e6.out]; exact hs⟩
  refine C.block ?_
  refine C.lp (fun t : Nat => [(0, ptr sb), (97, .agg (bs.map ptr).toArray), (98, .int .i64 j), (102, .slice x.a x.es.length x.c), (103, .int .i64 x.es.length), (104, .int .i64 t)])
    (fun gk t w => gk = x.es.length - t ∧ t ≤ x.es.length ∧ Si.ok ⟨a, c, bb, bs⟩ (s1.notes (x.es.take t)) g5 ∧ Sat W w g5 (soB sb db ⟨a, c, bb, bs⟩ (s1.notes (x.es.take t)) :: fold bb base :: bsep (feeds db bs fs) :: disk db (dn 64) :: H)) x.es.length 0 ⟨rfl, Nat.zero_le _, hi5, hs⟩ ?_
  clear hs hi5
  rintro gk t w6 ⟨rfl, ht, hi6, hs⟩
  refine go ?_
  refine C.cond_dec (p := (t : Int) < x.es.length) rfl (fun h => ?_) (fun h => ?_)
  rotate_left
  · obtain rfl : t = x.es.length := by omega
    rw [List.take_length] at hi6 hs
    refine go ?_
    exact A.mt () ⟨hi6, hs⟩
  have htl : t < x.es.length := by omega
  have hsx : x.es.take (t + 1) = x.es.take t ++ [x.es[t]] := List.take_succ_eq_append_getElem htl
  have hee := hx.evs x.es[t] (List.getElem_mem htl)
  have hrte := hrta x.es[t] (List.getElem_mem htl)
  obtain ⟨hr1, hr2, hr3⟩ := right_zero hrte
  refine go ?_
  refine E.ixs el_ev hs hx.row t ?_
  intro b7 o7 hrg
  rw [evC_at htl] at hrg
  generalize x.es[t] = e at hsx hee hr1 hr2 hr3 hrg
  clear hrte
  replace hsx := Lib.hid hsx
  refine E.ldr hrg ag_ev rfl ?_
  refine go ?_
  refine E.al hs ?_
  intro b8 w8 hs
  refine E.sto (vs := e.cs) (ys := e.cs) hs ?_ (hv := rfl) (hsp := spl_all (by rfl)) (h1 := Ev.cs_one hee.1)
  intro w9 hs
  refine go ?_
  refine E.callf Tryz.func54 rfl ?_
  refine note_any (i := ⟨a, c, bb, bs⟩) hi6 hee.1 hr3 (fun _ => ⟨hr1, hr2⟩) hs.swap ?_
  intro w10 hs
  have e7 : s1.notes (x.es.take (t + 1)) = (s1.notes (x.es.take t)).note e := by
    rw [hsx.out, notes_append]; rfl
  have hi7 := hi6.note e
  replace e7 := Lib.hid e7
  refine go ?_
  exact A.rd (x.es.length - (t + 1)) (t + 1) ⟨rfl, by omega, by rw [e7.out]; exact hi7, by rw [e7.out]; exact hs.swap.drop⟩
end Go.Proofs.YtfhmamkafancbaaGreatDoor

/-
  Layer 14 (store): a new store's cells.
-/
namespace Go.Proofs.YtfhmamkafancbaaGreatDoor
open Go.RowKit
set_option linter.unusedVariables false
set_option linter.unusedSimpArgs false
def newC (db : Nat) (sz : Int) (m : Mf) (a : Option Addr) (c fb : Nat) : List Value := stC db sz m a c fb (List.replicate 64 (.pointer none)) 0 (List.replicate 64 false) (List.replicate 64 false)
theorem newC_eq (db : Nat) (sz : Int) (m : Mf) (a : Option Addr) (c fb : Nat) (l r : List Bool) : newC db sz m a c fb = stC db sz m a c fb (fvP []) 0 (half 0 l) (half 0 r) := by simp [newC, fvP, half]
set_option maxRecDepth 100000 in
theorem run_store_new (db : Nat) (sz : Int) (m : Mf) (a : Option Addr) (c fb : Nat) (w : World) : (Instr.build 103 [(0, ptr db), (1, .int .i64 sz), (2, .agg (List.take 5 (m.cs a c)).toArray), (3, ptr fb)].toArray).run Tryz.prog w = .ok (.agg (newC db sz m a c fb).toArray) w := by
  go_simp
  kernel_rfl
end Go.Proofs.YtfhmamkafancbaaGreatDoor

/-
  Layer 10 (manifest): Encode, walked.
-/
namespace Go.Proofs.YtfhmamkafancbaaGreatDoor
open Go.RowKit
set_option linter.unusedVariables false
set_option linter.unusedSimpArgs false
theorem Mf.enc_cat (m : Mf) : layN m.node ++ layN m.serial ++ (vecB m.floor) ++ layN m.time ++ textB m.name = m.enc := rfl
set_option maxHeartbeats 3200000 in
set_option maxRecDepth 100000 in
theorem menc_any {R : Ending → World → Prop} {W w : World} {g : Hl} {H : List HP} {m : Mf} {a : Option Addr} {c : Nat} (ho : m.ok) (hp : Pr 1 g (.slice a m.floor.length c) m.floor.length (us m.floor)) (hs : Sat W w g H)
    (hR : ∀ a' c' w' g', Hl.le g g' → Sat W w' g' (own 5 1 (.slice a' m.enc.length c') m.enc.length (bs m.enc) :: H) → R (.returned (.slice a' m.enc.length c')) w') :
    Calls Tryz.prog 155 #[.agg (m.cs a c).toArray] w R := by
  have HR := Lib.hid hR
  clear hR
  have hnode := ho.node
  have hserial := ho.serial
  have hflen := ho.flen
  have hflt := ho.flt
  have htime := ho.time
  have hname := ho.name
  have hel := Mf.enc_len ho
  rw [← Mf.enc_cat] at HR
  obtain ⟨node, serial, floor, time, name⟩ := m
  simp only [Mf.cs] at hp hnode hserial hflen hflt htime hname HR ⊢
  have l1 := layN_ten (n := node) (by omega)
  have l2 := layN_ten hserial
  have l3 := vecB_len floor hflen hflt
  have l4 := layN_ten htime
  refine C.calls (args := [.agg #[.int .i64 node, .int .u64 serial, .slice a floor.length c, .int .u64 time, .string ⟨name.toArray⟩]]) Tryz.func155 rfl rfl rfl ?_
  refine go ?_
  refine E.bx hs ?_
  intro b1 w1 hs
  refine go ?_
  refine C.held1 b1 hs ?_
  intro w hk hs
  refine goh ?_
  refine EH.one (St.callf Tryz.func126 rfl ?_)
  refine lay_any hs.nilOwn (by omega) (by omega) ?_
  intro a3 c3 w hs
  refine kept1 hs (fun hk => ?_)
  refine goh ?_
  refine EH.one (St.callf Tryz.func126 rfl ?_)
  refine lay_any hs hserial (by omega) ?_
  intro a4 c4 w hs
  refine kept1 hs (fun hk => ?_)
  refine goh ?_
  refine EH.done ?_
  refine go ?_
  simp only [Nat.zero_add, List.nil_append] at hs ⊢
  have Hend : ∀ a' c' n' w' g' xs, Hl.le g g' → n' = (layN node ++ layN serial ++ vecB floor ++ layN time ++ textB name).length → xs = bs (layN node ++ layN serial ++ vecB floor ++ layN time ++ textB name) → Sat W w' g' (own 5 1 (.slice a' n' c') n' xs :: H) → R (.returned (.slice a' n' c')) w' := by
    intro a' c' n' w' g' xs h1 h2 h3 h4
    subst h2 h3
    exact HR.out a' c' w' g' h1 h4
  clear HR
  replace Hend := Lib.hid Hend
  refine C.held1 b1 hs ?_
  intro w hk hs
  refine goh ?_
  refine EH.two (St.callf Tryz.func125 rfl ?_) (St.bytes (l := name) Tryz.underlying9 Tryz.underlying23 Tryz.underlying5 hs (by omega) ?_ (hx := rfl))
  · refine vlay_any hs hp rfl hflen hflt (by omega) ?_
    intro a5 c5 w g5 hg5 hs
    refine kept1 hs (fun hk => ?_) hg5
    refine goh ?_
    refine EH.two (St.callf Tryz.func126 rfl ?_) (St.bytes (l := name) Tryz.underlying9 Tryz.underlying23 Tryz.underlying5 hs (by omega) ?_ (hx := rfl))
    · refine lay_any hs htime (by omega) ?_
      intro a6 c6 w hs
      refine kept1 hs (fun hk => ?_) hg5
      refine goh ?_
      refine EH.one (St.bytes (l := name) Tryz.underlying9 Tryz.underlying23 Tryz.underlying5 hs (by omega) ?_ (hx := rfl))
      intro b9 c9 w9 g9 hg9 hs hp9
      refine kept1 hs (fun hk => ?_) (hg5.trans hg9)
      refine goh ?_
      refine EH.one (St.callf Tryz.func130 rfl ?_)
      refine layText_any hs hp9 rfl (by omega) (by omega) ?_
      intro a12 c12 w12 hs
      refine kept1 hs (fun hk => ?_) (hg5.trans hg9)
      refine goh ?_
      refine EH.done ?_
      refine go ?_
      refine A.r1 ?_
      exact Hend.out _ _ _ _ _ _ (hg5.trans hg9) (by simp [Nat.add_assoc]) (by simp [bs_append]) hs.swap.drop
    · intro b9 c9 w9 g9 hg9 hs hp9
      refine kept1 hs (fun hk => ?_) (hg5.trans hg9)
      refine goh ?_
      refine EH.one (St.callf Tryz.func126 rfl ?_)
      refine lay_any hs htime (by omega) ?_
      intro a6 c6 w hs
      refine kept1 hs (fun hk => ?_) (hg5.trans hg9)
      refine goh ?_
      refine EH.one (St.callf Tryz.func130 rfl ?_)
      refine layText_any hs hp9 rfl (by omega) (by omega) ?_
      intro a12 c12 w12 hs
      refine kept1 hs (fun hk => ?_) (hg5.trans hg9)
      refine goh ?_
      refine EH.done ?_
      refine go ?_
      refine A.r1 ?_
      exact Hend.out _ _ _ _ _ _ (hg5.trans hg9) (by simp [Nat.add_assoc]) (by simp [bs_append]) hs.swap.drop
  · intro b9 c9 w9 g9 hg9 hs hp9
    refine kept1 hs (fun hk => ?_) hg9
    refine goh ?_
    refine EH.one (St.callf Tryz.func125 rfl ?_)
    refine vlay_any hs (hp.mono hg9) rfl hflen hflt (by omega) ?_
    intro a5 c5 w g5 hg5 hs
    refine kept1 hs (fun hk => ?_) (hg9.trans hg5)
    refine goh ?_
    refine EH.one (St.callf Tryz.func126 rfl ?_)
    refine lay_any hs htime (by omega) ?_
    intro a6 c6 w hs
    refine kept1 hs (fun hk => ?_) (hg9.trans hg5)
    refine goh ?_
    refine EH.one (St.callf Tryz.func130 rfl ?_)
    refine layText_any hs (hp9.mono hg5) rfl (by omega) (by omega) ?_
    intro a12 c12 w12 hs
    refine kept1 hs (fun hk => ?_) (hg9.trans hg5)
    refine goh ?_
    refine EH.done ?_
    refine go ?_
    refine A.r1 ?_
    exact Hend.out _ _ _ _ _ _ (hg9.trans hg5) (by simp [Nat.add_assoc]) (by simp [bs_append]) hs.swap.drop
end Go.Proofs.YtfhmamkafancbaaGreatDoor
