/-
  The reference of layer 12: events of three writers, from numbers.
-/
import Derived.Test.YtdkbpcibmipelaaGreatDoorMl
import Derived.Test.YtdkbpcibmipelaaGreatDoorMc
import Derived.Laws.FloatBits
import Derived.RowKit
import Derived.WideShapes
import Derived.ChangeShapes
import Derived.ChangeSlices
import Derived.Test.YtdkbpcibmipelaaGreatDoorMk
import Derived.Test.YtdkbpcibmipelaaGreatDoorMd
namespace Go.Proofs.YtdkbpcibmipelaaGreatDoor
open Go.RowKit
set_option linter.unusedVariables false
set_option linter.unusedSimpArgs false

theorem el_u16s : ElemOf Tryz.prog 89 53 (.int .u16 0) 1 2 := .of Tryz.underlying89 (by kernel_rfl) rfl (by decide)
theorem el_u64s : ElemOf Tryz.prog 90 22 (.int .u64 0) 1 8 := .of Tryz.underlying90 (by kernel_rfl) rfl (by decide)
/-- The cells of small numbers. -/
def hs16 (v : List Nat) : List Value := v.map fun (n : Nat) => .int .u16 (n : Int)

/-- A writer's event, from numbers. -/
structure Ev.fine (e : Ev) (g : Hl) (w : Nat) (last : Nat) : Prop where
  ok : e.ok g
  wr : e.wr = w
  kd : 1 ≤ e.kd ∧ e.kd ≤ 4
  key : e.key.length = 1
  text : e.text.length ≤ 1
  nd : e.nd = 0
  tm : 1 ≤ e.tm ∧ e.tm ≤ last
theorem Ev.fine.mono {e : Ev} {g g' : Hl} {w l l' : Nat} (h : e.fine g w l) (hg : Hl.le g g') (hl : l ≤ l') : e.fine g' w l' := ⟨h.ok.mono hg, h.wr, h.kd, h.key, h.text, h.nd, h.tm.1, by have := h.tm.2; omega⟩
structure Feed (g : Hl) (w : Nat) (es : List Ev) (last : Nat) : Prop where
  evs : ∀ e ∈ es, e.fine g w last
  sq : ∀ q (h : q < es.length), es[q].sq = q + 1
  up : es.Pairwise fun a b => a.tm < b.tm
theorem Feed.mono {g g' : Hl} {w l : Nat} {es : List Ev} (h : Feed g w es l) (hg : Hl.le g g') : Feed g' w es l := ⟨fun e he => (h.evs e he).mono hg (Nat.le_refl _), h.sq, h.up⟩
theorem Feed.add {g g' : Hl} {w l l' : Nat} {es : List Ev} {e : Ev} (h : Feed g w es l) (hg : Hl.le g g') (hl : l < e.tm) (he : e.fine g' w l') (hll : l ≤ l') (hsq : e.sq = es.length + 1) : Feed g' w (es ++ [e]) l' := by
  refine ⟨fun x hx => ?_, fun q hq => ?_, ?_⟩
  · rcases List.mem_append.1 hx with hx | hx
    · exact (h.evs x hx).mono hg hll
    · simp only [List.mem_singleton] at hx; subst hx; exact he
  · rcases Nat.lt_or_ge q es.length with hlt | hge
    · rw [List.getElem_append_left hlt]; exact h.sq q hlt
    · have : q = es.length := by simp at hq; omega
      subst this
      simp [hsq]
  · refine List.pairwise_append.2 ⟨h.up, List.pairwise_singleton _ _, fun a ha b hb => ?_⟩
    simp only [List.mem_singleton] at hb
    subst hb
    have := (h.evs a ha).tm.2
    omega

theorem made1 (v : Value) (k : Nat) : (madeCells #[v] k).toList = List.replicate k v := by
  apply List.ext_getElem?
  intro j
  by_cases hj : j < k
  · simp [madeCells, hj, Nat.mod_one]
  · simp [madeCells, hj]
section
variable {P : Program} {n : Fm} {ρ : List (Nat × Value)} {W w : World} {g : Hl} {H : List HP} {Q : Exit → Act → World → Prop} {ops : Array Oper} {rest : List Oper} {d : Option Tmp} {ty : TypeId} {ps : String} {af : Array Edge} {x y : Operand}
theorem E.fdiv {s s' : TypeId} {a b r : Nat} (hr : Ieee.double.div a b = some r) (h : E P n ops rest (pushv d (.float .f64 r) ρ) w Q)
    (hx : evo n ρ x = some (.float .f64 a) := by exact rfl) (hy : evo n ρ y = some (.float .f64 b) := by exact rfl) : E P n ops (⟨d, .binOp .quo s x y s', ty, ps, af, none⟩ :: rest) ρ w Q := by
  refine E.cons (St.val (v := .float .f64 r) (w' := w) (fun ac ha => ?_) h)
  have e0 : FloatKind.f64.format.div a b = some r := hr
  simp [execOp, ha.eval hx, ha.eval hy, eqGuard, binOp, Op.floatArith, e0]
end
theorem quarter : ∀ i : Nat, i < 60 → ∃ r, Ieee.double.div (FloatKind.f64.nearest (i : Int)) 4616189618054758400 = some r ∧ r < 18446744073709551616 := by
  intro i hi
  have h : ∀ j : Fin 60, (Ieee.double.div (FloatKind.f64.nearest (j.val : Int)) 4616189618054758400).isSome = true := by decide +kernel
  have h1 := h ⟨i, hi⟩
  obtain ⟨r, hr⟩ := Option.isSome_iff_exists.1 h1
  exact ⟨r, hr, Ieee.Format.div_lt _ hr⟩
/-- A list that is being made. -/
def fown (x : El) : HP := own 46 8 x.v x.es.length (evC x.es)
theorem bsep_out {W w : World} {g : Hl} {H : List HP} {l1 l2 : List HP} {p : HP} (hs : Sat W w g (bsep (l1 ++ p :: l2) :: H)) : Sat W w g (p :: bsep (l1 ++ l2) :: H) := by
  have h1 := hs.bopen
  simp only [List.append_assoc, List.cons_append] at h1
  have h2 := h1.toFront
  rw [← List.append_assoc] at h2
  exact (Sat.bclose (l := l1 ++ l2) (h2.toBack)).swap
theorem bsep_in {W w : World} {g : Hl} {H : List HP} {l1 l2 : List HP} {p : HP} (hs : Sat W w g (p :: bsep (l1 ++ l2) :: H)) : Sat W w g (bsep (l1 ++ p :: l2) :: H) := by
  have h1 := hs.swap.bopen
  simp only [List.append_assoc] at h1
  apply Sat.bclose
  simp only [List.append_assoc, List.cons_append]
  refine h1.perm ?_
  refine List.Perm.append_left _ ?_
  exact List.perm_middle

theorem mkFine {g : Hl} {v len t kd : Nat} {kb : UInt8} {text : List UInt8} {num : Nat} {tv : Value} (hv : v < 3) (hl : len ≤ 60) (ht : 1 ≤ t ∧ t ≤ 300) (hk : 1 ≤ kd ∧ kd ≤ 4) (hx : text.length ≤ 1) (hn : num < 18446744073709551616) (hp : Pr 1 g tv text.length (bs text)) :
    Ev.fine ⟨(v : Nat), len + 1, t, kd, [kb], text, num, 0, tv⟩ g v t := ⟨⟨by simp only; omega, by simp only; omega, by simp only; omega, by simp only; omega, hn, by simp only; omega, by simp, by simp only; omega, hp⟩, rfl, hk, rfl, hx, rfl, ht.1, Nat.le_refl _⟩
set_option maxHeartbeats 3200000 in
set_option maxRecDepth 100000 in
theorem feeds_any {R : Ending → World → Prop} {W w : World} {g : Hl} {H : List HP} {a : Option Addr} {n c : Nat} {zs : List Nat} (hp : Pr 1 g (.slice a n c) n (hs16 zs)) (hn : zs.length = n) (hz : ∀ z ∈ zs, z < 65536) (hn2 : n ≤ 60) (hs : Sat W w g H)
    (hR : ∀ a' c' (outs : List El) w' g', Hl.le g g' → outs.length = 3 → (∀ w (h : w < outs.length), ∃ last, last ≤ 240 ∧ Feed g' w outs[w].es last ∧ outs[w].es.length ≤ 60) → (∀ x ∈ outs, x.ok g') → Pr 1 g' (.slice a' 3 c') 3 (outs.map El.v) → Sat W w' g' H → R (.returned (.slice a' 3 c')) w') :
    Calls Tryz.prog 56 #[.slice a n c, .int .i64 3] w R := by
  have HR := Lib.hid hR
  clear hR
  refine C.calls (args := [.slice a n c, .int .i64 3]) Tryz.func56 rfl rfl rfl ?_
  refine go ?_
  refine E.mk (k2 := 3) el_lists hs ?_
  intro a1 w1 hs
  refine go ?_
  refine E.mk (k2 := 3) el_u64s hs ?_
  intro a2 w2 hs
  obtain ⟨bl, ls0, rfl, hl0, _, _, hl1, hs⟩ := own_open (by decide) hs
  obtain ⟨bo, os0, rfl, ho0, _, _, ho1, hs⟩ := own_open (by decide) hs.swap
  have hls : ls0 = us [0, 0, 0] := by rw [← List.take_of_length_le (l := ls0) (Nat.le_of_eq hl0), hl1]; exact made1 (.int .u64 0) 3
  have hos : os0 = ([⟨none, 0, []⟩, ⟨none, 0, []⟩, ⟨none, 0, []⟩] : List El).map El.v := by rw [← List.take_of_length_le (l := os0) (Nat.le_of_eq ho0), ho1]; exact made1 (.slice none 0 0) 3
  subst hls hos
  have hs3 : Sat W w2 g (bsep (([⟨none, 0, []⟩, ⟨none, 0, []⟩, ⟨none, 0, []⟩] : List El).map fown) :: blk bo (([⟨none, 0, []⟩, ⟨none, 0, []⟩, ⟨none, 0, []⟩] : List El).map El.v) 27 :: blk bl (us [0, 0, 0]) 22 :: H) := Sat.bclose (l := ([⟨none, 0, []⟩, ⟨none, 0, []⟩, ⟨none, 0, []⟩] : List El).map fown) hs.nilOwn.nilOwn.nilOwn
  clear hs hl0 hl1 ho0 ho1
  have hs := hs3
  clear hs3
  refine gob ?_
  refine C.cut (fun _ : Unit => [(5, .slice (some ⟨bo, 0, none⟩) 3 3)]) (fun _ w => ∃ (outs : List El) (lasts : List Nat) (g' : Hl), outs.length = 3 ∧ lasts.length = 3 ∧ Hl.le g g' ∧ (∀ w (h : w < outs.length) (h' : w < lasts.length), Feed g' w outs[w].es lasts[w] ∧ lasts[w] ≤ 240 ∧ outs[w].es.length ≤ 60) ∧ Sat W w g' (bsep (outs.map fown) :: blk bo (outs.map El.v) 27 :: blk bl (us lasts) 22 :: H)) ?_ ?_
  · refine C.block ?_
    refine C.lp (fun i : Nat => [(0, .slice a n c), (1, .int .i64 3), (5, .slice (some ⟨bo, 0, none⟩) 3 3), (6, .slice (some ⟨bl, 0, none⟩) 3 3), (7, .int .i64 i)])
      (fun gk i w => gk = n - i ∧ i ≤ n ∧ ∃ (outs : List El) (lasts : List Nat) (g' : Hl), outs.length = 3 ∧ lasts.length = 3 ∧ Hl.le g g' ∧ (∀ w (h : w < outs.length) (h' : w < lasts.length), Feed g' w outs[w].es lasts[w] ∧ lasts[w] ≤ 4 * i ∧ outs[w].es.length ≤ i) ∧ Sat W w g' (bsep (outs.map fown) :: blk bo (outs.map El.v) 27 :: blk bl (us lasts) 22 :: H)) n 0
      ⟨rfl, Nat.zero_le _, [⟨none, 0, []⟩, ⟨none, 0, []⟩, ⟨none, 0, []⟩], [0, 0, 0], g, rfl, rfl, Hl.le_refl _, ?_, hs⟩ ?_
    · intro w h h'
      have : w = 0 ∨ w = 1 ∨ w = 2 := by simp at h; omega
      rcases this with rfl | rfl | rfl <;> exact ⟨⟨by simp, by simp, by simp⟩, by simp, by simp⟩
    clear hs
    rintro gk i w3 ⟨rfl, hi, outs, lasts, g3, ho3, hl3, hg3, hF, hs⟩
    refine go ?_
    cases hd : decide ((i : Int) < n) with
    | false =>
      refine go ?_
      refine A.mt () ⟨outs, lasts, g3, ho3, hl3, hg3, fun w h h' => ?_, hs⟩
      obtain ⟨f1, f2, f3⟩ := hF w h h'
      exact ⟨f1, by omega, by omega⟩
    | true =>
    have hd := of_decide_eq_true hd
    refine go ?_
    rw [show decide ((i : Int) < 60) = true from decide_eq_true (by omega)]
    refine go ?_
    have hil : i < zs.length := by omega
    have hz1 := hz zs[i] (List.getElem_mem hil)
    obtain ⟨lb, lo, ha⟩ := pr_some hp (by omega)
    subst ha
    have hp3 := hp.mono hg3
    have hzc : (hs16 zs)[i]? = some (.int .u16 (zs[i] : Nat)) := by simp [hs16, hil]
    have hcell : w3.cell? ⟨lb, lo + i, none⟩ = some (.int .u16 (zs[i] : Nat)) := ((hp3.row hs).cellAt rfl hzc).2
    generalize hzz : zs[i] = z at hz1 hzc hcell
    clear hzz
    refine go ?_
    have ew : (z : Int).tmod 3 = ((z % 3 : Nat) : Int) := (Int.ofNat_tmod z 3).symm
    have hw3 : z % 3 < 3 := Nat.mod_lt _ (by decide)
    rw [ew]
    generalize hwz : z % 3 = v at hw3
    clear hwz ew
    have hvo : v < outs.length := by omega
    have hvl : v < lasts.length := by omega
    obtain ⟨f1, f2, f3⟩ := hF v hvo hvl
    have hv3 : (v : Int) < 3 := by omega
    have hlv : (us lasts)[v]? = some (.int .u64 (lasts[v] : Nat)) := us_get hvl
    refine C.held0 hs ?_
    intro w4 hk hs
    have rl : Rd (Keeps g3 []) lb (lo + i) (.int .u16 (z : Nat)) := Rd.pool hp3 hzc
    refine goh ?_
    refine EH.ld hs ?_ (hf := .there (.there .here)) (hj := hlv)
    refine kept0 hs (fun hk => ?_)
    refine goh ?_
    have htb : lasts[v] + (1 + z / 16 % 4) ≤ 4 * (i + 1) := by omega
    have htl : lasts[v] < lasts[v] + (1 + z / 16 % 4) := by omega
    generalize htt : lasts[v] + (1 + z / 16 % 4) = t at htb htl
    have hus : spl (us lasts) v [.int .u64 (t : Nat)] = us (lasts.set v t) := by simp [spl, us]
    refine EH.sto hs ?_ (hf := .there (.there .here)) (hsp := hus) (hu := .there (.there .here)) (hj := Nat.ble_eq ▸ (by simp only [List.length_cons, List.length_nil, us_length]; omega))
    intro w5 hs
    refine kept0 hs (fun hk => ?_)
    refine EH.done ?_
    refine go ?_
    have hlt2 : (us (lasts.set v t))[v]? = some (.int .u64 (t : Nat)) := by simp [us, hvl]
    have hov : (outs.map El.v)[v]? = some (.slice outs[v].a outs[v].es.length outs[v].c) := by rw [List.getElem?_map, List.getElem?_eq_getElem hvo]; rfl
    refine C.cut (fun x : Nat => [(0, .slice (some ⟨lb, lo, none⟩) n c), (1, .int .i64 3), (5, .slice (some ⟨bo, 0, none⟩) 3 3), (6, .slice (some ⟨bl, 0, none⟩) 3 3), (7, .int .i64 i), (8, .int .i64 v), (9, .pointer (some ⟨x, 0, none⟩))])
      (fun b9 w => Sat W w g3 (blk b9 [.int .i64 v, .int .u64 (outs[v].es.length + 1 : Nat), .int .u64 (t : Nat), .int .u8 (1 + z / 64 % 256 % 4 : Nat), .string ⟨[UInt8.ofNat (97 + z / 256 % 4)].toArray⟩, .slice none 0 0, .float .f64 0, .int .i64 0] 46 :: bsep (outs.map fown) :: blk bo (outs.map El.v) 27 :: blk bl (us (lasts.set v t)) 22 :: H)) ?_ ?_
    · refine C.held2 bo bl hs ?_
      intro w6 hk hs
      have rl2 : Rd (Keeps g3 [(bo, outs.map El.v, 27), (bl, us (lasts.set v t), 22)]) lb (lo + i) (.int .u16 (z : Nat)) := Rd.pool hp3 hzc
      have rO : Rd (Keeps g3 [(bo, outs.map El.v, 27), (bl, us (lasts.set v t), 22)]) bo v (.slice outs[v].a outs[v].es.length outs[v].c) := Rd.blk .here hov
      have rL : Rd (Keeps g3 [(bo, outs.map El.v, 27), (bl, us (lasts.set v t), 22)]) bl v (.int .u64 (t : Nat)) := Rd.blk (.there .here) hlt2
      refine goh ?_
      have eb : bs [UInt8.ofNat (97 + z / 256 % 4)] = [.int .u8 (97 + z / 256 % 4 : Nat)] := by
        have : (97 + z / 256 % 4) % 256 = 97 + z / 256 % 4 := by omega
        simp only [bs, List.map_cons, List.map_nil, UInt8.toNat_ofNat']
        rw [show 2 ^ 8 = 256 by rfl, this]
      refine EH.ba hs ?_ ?_
      · intro b7 w7 hs
        refine kept2 hs (fun hk => ?_)
        refine EH.ora hs (St.string rfl Tryz.underlying33 Tryz.underlying5 Tryz.underlying9 ((by rw [eb]; exact hs.rowOf (size := 1) 1 rfl (by decide) : Row 1 _ (fun _ => True) _ 1 (bs [UInt8.ofNat (97 + z / 256 % 4)]))) ?_) ?_
        · refine kept2 hs (fun hk => ?_)
          refine goh ?_
          refine EH.al hs ?_
          intro b9 w9 hs
          refine kept2 hs (fun hk => ?_)
          refine goh ?_
          refine EH.sto hs ?_
          intro w10 hs
          refine kept2 hs (fun hk => ?_)
          refine EH.done ?_
          exact A.mt b9 (by have := hs.swap.drop; simpa using this)
        · intro b9 w9 hs
          refine kept2 hs (fun hk => ?_)
          refine EH.one (St.string rfl Tryz.underlying33 Tryz.underlying5 Tryz.underlying9 ((by rw [eb]; exact hs.swap.rowOf (size := 1) 1 rfl (by decide) : Row 1 _ (fun _ => True) _ 1 (bs [UInt8.ofNat (97 + z / 256 % 4)]))) ?_)
          refine kept2 hs (fun hk => ?_)
          refine goh ?_
          refine EH.sto hs ?_
          intro w10 hs
          refine kept2 hs (fun hk => ?_)
          refine EH.done ?_
          exact A.mt b9 (by have := hs.swap.drop; simpa using this)
      · intro b9 w9 hs
        refine kept2 hs (fun hk => ?_)
        refine EH.bsl hs ?_
        intro b7 w7 hs
        refine kept2 hs (fun hk => ?_)
        refine EH.one (St.string rfl Tryz.underlying33 Tryz.underlying5 Tryz.underlying9 ((by rw [eb]; exact hs.rowOf (size := 1) 1 rfl (by decide) : Row 1 _ (fun _ => True) _ 1 (bs [UInt8.ofNat (97 + z / 256 % 4)]))) ?_)
        refine kept2 hs (fun hk => ?_)
        refine goh ?_
        refine EH.sto hs ?_
        intro w10 hs
        refine kept2 hs (fun hk => ?_)
        refine EH.done ?_
        exact A.mt b9 (by have := hs.drop; simpa using this)
    clear hs
    rintro b9 w11 hs
    have hkd : 1 ≤ 1 + z / 64 % 256 % 4 ∧ 1 + z / 64 % 256 % 4 ≤ 4 := by omega
    generalize 1 + z / 64 % 256 % 4 = kd at hkd hs
    obtain ⟨qr, hqr, hqr2⟩ := quarter i (by omega)
    have hi60 : i < 60 := by omega
    have hk100 : (97 + z / 256 % 4) < 256 := by omega
    apply later (f := fun _ : Ev × Hl => [(0, .slice (some ⟨lb, lo, none⟩) n c), (1, .int .i64 3), (5, .slice (some ⟨bo, 0, none⟩) 3 3), (6, .slice (some ⟨bl, 0, none⟩) 3 3), (7, .int .i64 i), (8, .int .i64 v), (9, .pointer (some ⟨b9, 0, none⟩))])
      (M := fun x w => Hl.le g3 x.2 ∧ x.1.fine x.2 v t ∧ x.1.sq = outs[v].es.length + 1 ∧ x.1.tm = t ∧ Sat W w x.2 (blk b9 x.1.cs 46 :: bsep (outs.map fown) :: blk bo (outs.map El.v) 27 :: blk bl (us (lasts.set v t)) 22 :: H))
    · intro key
      have hF1 : ∀ {kd' : Nat} {text : List UInt8} {num : Nat} {tv : Value} {g' : Hl}, 1 ≤ kd' ∧ kd' ≤ 4 → text.length ≤ 1 → num < 18446744073709551616 → Pr 1 g' tv text.length (bs text) → Ev.fine ⟨(v : Nat), outs[v].es.length + 1, t, kd', [UInt8.ofNat (97 + z / 256 % 4)], text, num, 0, tv⟩ g' v t :=
        fun h1 h2 h3 h4 => mkFine hw3 (by omega) (by omega) h1 h2 h3 h4
      have hcases : kd = 1 ∨ kd = 2 ∨ kd = 3 ∨ kd = 4 := by omega
      rcases hcases with rfl | rfl | rfl | rfl
      · refine go ?_
        refine E.bsl hs ?_
        intro b12 w12 hs
        refine go ?_
        refine E.sto hs ?_
        intro w13 hs
        have hbs : [.int .u8 (i : Nat)] = bs [UInt8.ofNat i] := by
          have : i % 256 = i := by omega
          simp [bs, this]
        obtain ⟨g14, hg14, hp14, hs⟩ := (hs.blkOwn (size := 1) 1 rfl (by decide)).publishOwn
        rw [hbs] at hp14
        refine go ?_
        exact C.forget wk_ (key (_, g14) _ ⟨hg14, hF1 (kd' := 1) (text := [UInt8.ofNat i]) (num := 0) (by decide) (by simp) (by decide) hp14, rfl, rfl, hs⟩)
      · refine go ?_
        refine E.fdiv hqr ?_
        refine go ?_
        refine E.sto hs ?_
        intro w13 hs
        refine go ?_
        exact C.forget wk_ (key (_, g3) _ ⟨Hl.le_refl _, hF1 (kd' := 2) (text := []) (num := qr) (by decide) (by simp) hqr2 Pr.nil, rfl, rfl, hs⟩)
      · refine go ?_
        refine E.fdiv hqr ?_
        refine go ?_
        refine E.sto hs ?_
        intro w13 hs
        refine go ?_
        exact C.forget wk_ (key (_, g3) _ ⟨Hl.le_refl _, hF1 (kd' := 3) (text := []) (num := qr) (by decide) (by simp) hqr2 Pr.nil, rfl, rfl, hs⟩)
      · refine go ?_
        exact C.forget wk_ (key (_, g3) _ ⟨Hl.le_refl _, hF1 (kd' := 4) (text := []) (num := 0) (by decide) (by simp) (by decide) Pr.nil, rfl, rfl, hs⟩)
    clear hs
    rintro ⟨e, g15⟩ w15 ⟨hg15, hfe, hsq, htm, hs⟩
    simp only at hg15 hfe hsq htm hs
    have hov9 : outs[v].es.length ≤ 60 := by omega
    have hsplit : outs.map fown = (outs.take v).map fown ++ fown outs[v] :: (outs.drop (v + 1)).map fown := by
      rw [← List.map_cons, ← List.map_append, ← List.drop_eq_getElem_cons hvo, List.take_append_drop]
    have ag1 := ag_ev
    have hspl : ∀ a17 c17, spl (outs.map El.v) v [.slice a17 (outs[v].es.length + 1) c17] = (outs.set v ⟨a17, c17, outs[v].es ++ [e]⟩).map El.v := fun a17 c17 => by
      simp [spl, List.map_set, El.v]
    have bj : ∀ a17 c17, Nat.ble (v + [Value.slice a17 (outs[v].es.length + 1) c17].length) (outs.map El.v).length = true := fun a17 c17 => by rw [Nat.ble_eq]; simp only [List.length_cons, List.length_nil, List.length_map]; omega
    apply laterA (α := (Option Addr × Nat)) (f := fun x => [(0, .slice (some ⟨lb, lo, none⟩) n c), (1, .int .i64 3), (5, .slice (some ⟨bo, 0, none⟩) 3 3), (6, .slice (some ⟨bl, 0, none⟩) 3 3), (7, .int .i64 i)])
      (M := fun x w => Sat W w g15 (own 46 8 (.slice x.1 (outs[v].es.length + 1) x.2) (outs[v].es.length + 1) (evC outs[v].es ++ e.cs) :: bsep ((outs.take v).map fown ++ (outs.drop (v + 1)).map fown) :: blk bo ((outs.set v ⟨x.1, x.2, outs[v].es ++ [e]⟩).map El.v) 27 :: blk bl (us (lasts.set v t)) 22 :: H))
    · intro key
      refine C.held1 b9 hs ?_
      intro w16 hk hs
      refine goh ?_
      refine EH.lbe el_ev hs (cs := e.cs) rfl hov ?_ ?_
      · refine kept1 hs (fun hk => ?_)
        refine EH.bsle el_ev hs (cs := e.cs) rfl ?_
        intro b17 w17 hs
        refine kept1 hs (fun hk => ?_)
        refine EH.app el_ev (bsep_out (l1 := (outs.take v).map fown) (l2 := (outs.drop (v + 1)).map fown) (p := fown outs[v]) (by rw [← hsplit]; exact hs.pull2)) (hs.rowOf (size := 8) 1 rfl (by decide)) ?_ (h1 := fun u hu => List.all_eq_true.1 (Ev.cs_one hfe.ok) u hu)
        intro a17 c17 w17 _ _ hs
        refine kept1 hs (fun hk => ?_)
        refine goh ?_
        refine EH.sto (vs := [.slice a17 (outs[v].es.length + 1) c17]) (ys := (outs.set v ⟨a17, c17, outs[v].es ++ [e]⟩).map El.v) hs ?_ (hv := rfl) (hf := .there (.there (.there (.there .here)))) (hu := .there (.there (.there (.there .here)))) (hsp := hspl a17 c17) (hj := bj a17 c17)
        intro w18 hs
        refine kept1 hs (fun hk => ?_)
        refine EH.done ?_
        refine A.forget wk_ (key (a17, c17) _ ?_)
        exact hs.pull2.drop.pull2.drop
      · intro b17 w17 hs
        refine kept1 hs (fun hk => ?_)
        refine EH.ld hs ?_ (hf := .there (.there (.there .here))) (hj := hov)
        refine kept1 hs (fun hk => ?_)
        refine EH.app el_ev (bsep_out (l1 := (outs.take v).map fown) (l2 := (outs.drop (v + 1)).map fown) (p := fown outs[v]) (by rw [← hsplit]; exact hs.pull2)) (hs.rowOf (size := 8) 1 rfl (by decide)) ?_ (h1 := fun u hu => List.all_eq_true.1 (Ev.cs_one hfe.ok) u hu)
        intro a17 c17 w17 _ _ hs
        refine kept1 hs (fun hk => ?_)
        refine goh ?_
        refine EH.sto (vs := [.slice a17 (outs[v].es.length + 1) c17]) (ys := (outs.set v ⟨a17, c17, outs[v].es ++ [e]⟩).map El.v) hs ?_ (hv := rfl) (hf := .there (.there (.there (.there .here)))) (hu := .there (.there (.there (.there .here)))) (hsp := hspl a17 c17) (hj := bj a17 c17)
        intro w18 hs
        refine kept1 hs (fun hk => ?_)
        refine EH.done ?_
        refine A.forget wk_ (key (a17, c17) _ ?_)
        exact hs.pull2.drop.pull2.drop
    clear hs
    rintro ⟨a17, c17⟩ w19 hs
    simp only at hs ⊢
    refine go ?_
    refine A.rd (n - (i + 1)) (i + 1) ⟨rfl, by omega, outs.set v ⟨a17, c17, outs[v].es ++ [e]⟩, lasts.set v t, g15, by simpa using ho3, by simpa using hl3, hg3.trans hg15, fun u h h' => ?_, ?_⟩
    · simp only [List.length_set] at h h'
      obtain ⟨q1, q2, q3⟩ := hF u h h'
      rcases Nat.decEq v u with hne | rfl
      · rw [List.getElem_set_ne hne, List.getElem_set_ne hne]
        exact ⟨q1.mono hg15, by omega, by omega⟩
      · rw [List.getElem_set_self, List.getElem_set_self]
        refine ⟨q1.add hg15 (by omega) hfe (by omega) hsq, by omega, by simp; omega⟩
    · have e1 : (outs.set v ⟨a17, c17, outs[v].es ++ [e]⟩).map fown = (outs.take v).map fown ++ fown ⟨a17, c17, outs[v].es ++ [e]⟩ :: (outs.drop (v + 1)).map fown := by
        rw [List.set_eq_take_append_cons_drop, if_pos hvo, List.map_append, List.map_cons]
      rw [e1]
      refine bsep_in ?_
      have e2 : fown ⟨a17, c17, outs[v].es ++ [e]⟩ = own 46 8 (.slice a17 (outs[v].es.length + 1) c17) (outs[v].es.length + 1) (evC outs[v].es ++ e.cs) := by
        simp only [fown, El.v, List.length_append, List.length_cons, List.length_nil, evC_append]
        simp [evC]
      rw [e2]
      exact hs
  · clear hs
    rintro _ w20 ⟨outs, lasts, g4, ho3, hl3, hg4, hF, hs⟩
    match outs, lasts, ho3, hl3 with
    | [x0, x1, x2], [l0, l1, l2], _, _ =>
    have hs := Sat.bopen hs
    simp only [List.map_cons, List.map_nil, List.cons_append, List.nil_append] at hs
    obtain ⟨g5, hg5, hp5, hs⟩ := hs.publishOwn
    obtain ⟨g6, hg6, hp6, hs⟩ := hs.publishOwn
    obtain ⟨g7, hg7, hp7, hs⟩ := hs.publishOwn
    obtain ⟨g8, hg8, hp8, hs⟩ := (hs.blkOwn (size := 1) 3 rfl (by decide)).publishOwn
    refine go ?_
    refine A.r1 ?_
    have hg48 := ((hg5.trans hg6).trans hg7).trans hg8
    refine HR.out _ _ [x0, x1, x2] _ g8 (hg4.trans hg48) rfl (fun u h => ?_) (fun x hx => ?_) hp8 hs.drop
    · have h' : u < [l0, l1, l2].length := by simpa using h
      obtain ⟨q1, q2, q3⟩ := hF u h h'
      exact ⟨_, q2, q1.mono hg48, q3⟩
    · have f0 := (hF 0 (by simp) (by simp)).1.mono hg48
      have f1 := (hF 1 (by simp) (by simp)).1.mono hg48
      have f2 := (hF 2 (by simp) (by simp)).1.mono hg48
      have low : ∀ {w l : Nat} {es : List Ev}, w < 3 → Feed g8 w es l → ∀ e ∈ es, e.ok g8 ∧ e.low := fun hw hf e he => by
        have := hf.evs e he
        exact ⟨this.ok, by unfold Ev.low; rw [this.wr]; omega⟩
      simp only [List.mem_cons, List.not_mem_nil, or_false] at hx
      rcases hx with rfl | rfl | rfl
      · exact ⟨((hp5.mono hg6).mono hg7).mono hg8, low (by decide) f0⟩
      · exact ⟨(hp6.mono hg7).mono hg8, low (by decide) f1⟩
      · exact ⟨hp7.mono hg8, low (by decide) f2⟩
end Go.Proofs.YtdkbpcibmipelaaGreatDoor

/-
  What came in, layer 15: rows of small numbers; a place.
-/
namespace Go.Proofs.YtdkbpcibmipelaaGreatDoor
open Go.RowKit Go.ChangeShapes Go.WideShapes
set_option linter.unusedVariables false
set_option linter.unusedSimpArgs false

section
variable {H : Type} {enc : TypeId × Value → H} {P : Program} {w : World} {base : Nat} {held : Bool}
theorem in_hs16 {t e : TypeId} {fuel : Nat} {cs : List Value} {x : DataW H × List MemPlace} (ht : P.underlying t = some (.slice e)) (he : P.underlying e = some (.int .u16)) (hc : P.cellsOf e = 1)
    (h : DataW.trod enc P w base (fun _ => true) held fuel t cs = some x) : ∃ a n c zs, cs = [.slice a n c] ∧ zs.length = n ∧ (∀ z ∈ zs, z < 65536) ∧ Pr 1 (fun b => w.heap[b]?) (.slice a n c) n (hs16 zs) := by
  have key : ∀ (a : Option Addr) (n c : Nat) (is : List Int), ((a = none ∧ n = 0 ∧ c = 0 ∧ is = []) ∨ ∃ x, a = some x ∧ n ≤ c ∧ c ≤ maxLen ∧ is.length = c ∧ (∀ i, i < is.length → w.cell? (x.add i) = some (.int .u16 (is.getD i 0))) ∧ ∀ n ∈ is, (Lit.int .u16 n).wf = true) →
      ∃ zs : List Nat, zs.length = n ∧ (∀ z ∈ zs, z < 65536) ∧ Pr 1 (fun b => w.heap[b]?) (.slice a n c) n (hs16 zs) := by
    intro a n c is h
    obtain ⟨h1, h2, h3⟩ := pr_ints h
    have h4 : ∀ i ∈ is, 0 ≤ i ∧ i < 65536 := by
      intro i hi
      have := h3 i hi
      simp [Lit.wf, IntKind.min, IntKind.max, IntKind.signed, IntKind.bits] at this
      omega
    refine ⟨(is.take n).map Int.toNat, by simp [h2], fun z hz => ?_, ?_⟩
    · obtain ⟨i, hi, rfl⟩ := List.mem_map.1 hz
      have := h4 i (List.mem_of_mem_take hi)
      omega
    · have e : hs16 ((is.take n).map Int.toNat) = (is.take n).map (Value.int .u16) := by
        unfold hs16
        rw [List.map_map]
        refine List.map_congr_left fun i hi => ?_
        have := h4 i (List.mem_of_mem_take hi)
        simp only [Function.comp_apply]
        rw [Int.toNat_of_nonneg this.1]
      rw [e]
      exact h1
  rcases open_ints ht he hc h with ⟨hcs, _⟩ | ⟨x, l, c, is, hcs, _, hl, hm, hz, _, hcell, hwz⟩
  · obtain ⟨zs, h1, h2, h3⟩ := key none 0 0 [] (.inl ⟨rfl, rfl, rfl, rfl⟩)
    exact ⟨none, 0, 0, zs, hcs, h1, h2, h3⟩
  · obtain ⟨zs, h1, h2, h3⟩ := key (some x) l c is (.inr ⟨_, rfl, hl, hm, by simpa using hz, hcell, hwz⟩)
    exact ⟨some x, l, c, zs, hcs, h1, h2, h3⟩
end
theorem in_ints2 {H : Type} {enc : TypeId × Value → H} {P : Program} {w : World} {base : Nat} {held : Bool} {r : Reach} {b0 : Nat} {t : TypeId} {v : Value} {d : DataW H} {ps : List MemPlace} {f0 f1 : Field} {k0 k1 : IntKind} (ht : P.underlying t = some (.struct #[f0, f1])) (h3 : P.cellsOf t = 2)
    (o0 : f0.offset = 0 ∧ P.cellsOf f0.type = 1) (u0 : P.underlying f0.type = some (.int k0)) (o1 : f1.offset = 1 ∧ P.cellsOf f1.type = 1) (u1 : P.underlying f1.type = some (.int k1))
    (hval : Value.okWide P w r b0 t v) (h : DataW.Trod enc P w base (fun _ => true) held t v d ps) :
    ∃ x y : Int, v = .agg #[.int k0 x, .int k1 y] ∧ (Lit.int k0 x).wf = true ∧ (Lit.int k1 y).wf = true := by
  obtain ⟨fuel, hf⟩ := h
  obtain ⟨cs, rfl, hsz⟩ : ∃ cs, v = .agg cs ∧ cs.size = P.cellsOf t := by
    unfold Value.okWide at hval
    rw [ht] at hval
    obtain ⟨cs, h1, h2, _⟩ := hval
    exact ⟨cs, h1, h2⟩
  obtain ⟨xs, n, _, _, hl, hlen, hfi⟩ := DataW.trod_struct ht hf
  rw [h3] at hsz
  match cs, hsz with
  | ⟨[c0, c1]⟩, _ =>
    have hx : xs.length = 2 := hlen
    have g0 := hfi 0 f0 rfl
    have g1 := hfi 1 f1 rfl
    rw [o0.1, o0.2, List.getElem?_eq_getElem (by omega)] at g0
    rw [o1.1, o1.2, List.getElem?_eq_getElem (by omega)] at g1
    obtain ⟨x, e0, _, w0⟩ := DataW.trod_int u0 g0
    obtain ⟨y, e1, _, w1⟩ := DataW.trod_int u1 g1
    simp [Value.cells] at e0 e1
    subst e0 e1
    exact ⟨x, y, rfl, w0, w1⟩
set_option maxRecDepth 100000 in
theorem in_spot {H : Type} {enc : TypeId × Value → H} {w : World} {base : Nat} {held : Bool} {r : Reach} {b0 : Nat} {v : Value} {d : DataW H} {ps : List MemPlace} (hval : Value.okWide Tryz.prog w r b0 105 v) (h : DataW.Trod enc Tryz.prog w base (fun _ => true) held 105 v d ps) :
    ∃ (t : Nat) (wr : Int), v = spot t wr := by
  obtain ⟨x, y, rfl, w0, w1⟩ := in_ints2 Tryz.underlying105 (by kernel_rfl) ⟨rfl, by kernel_rfl⟩ Tryz.underlying22 ⟨rfl, by kernel_rfl⟩ Tryz.underlying3 hval h
  simp [Lit.wf, IntKind.min, IntKind.max, IntKind.signed, IntKind.bits] at w0
  refine ⟨x.toNat, y, ?_⟩
  have e0 : (x.toNat : Int) = x := by omega
  simp only [spot, e0]
theorem in_u8 {n : Int} (h : (Lit.int .u8 n).wf = true) : ∃ m : Nat, n = m ∧ m < 256 := by
  simp [Lit.wf, IntKind.min, IntKind.max, IntKind.signed, IntKind.bits] at h
  exact ⟨n.toNat, by omega, by omega⟩
end Go.Proofs.YtdkbpcibmipelaaGreatDoor

/-
  What came in, layer 8: one small event.
-/
namespace Go.Proofs.YtdkbpcibmipelaaGreatDoor
open Go.RowKit Go.ChangeShapes Go.WideShapes
set_option linter.unusedVariables false
set_option linter.unusedSimpArgs false
set_option maxRecDepth 100000 in
theorem in_put {H : Type} {enc : TypeId × Value → H} {w : World} {base : Nat} {held : Bool} {r : Reach} {b0 : Nat} {v : Value} {d : DataW H} {ps : List MemPlace} (hval : Value.okWide Tryz.prog w r b0 49 v) (h : DataW.Trod enc Tryz.prog w base (fun _ => true) held 49 v d ps) :
    ∃ K T : Nat, v = .agg #[.int .u8 K, .int .u8 T] ∧ K < 256 ∧ T < 256 := by
  obtain ⟨x, y, rfl, w0, w1⟩ := in_ints2 Tryz.underlying49 (by kernel_rfl) ⟨rfl, by kernel_rfl⟩ Tryz.underlying5 ⟨rfl, by kernel_rfl⟩ Tryz.underlying5 hval h
  obtain ⟨K, rfl, hK⟩ := in_u8 w0
  obtain ⟨T, rfl, hT⟩ := in_u8 w1
  exact ⟨K, T, rfl, hK, hT⟩
end Go.Proofs.YtdkbpcibmipelaaGreatDoor

/-
  A file that is torn, in plain lists: what is left of its records.
-/
namespace Go.Proofs.YtdkbpcibmipelaaGreatDoor
set_option linter.unusedVariables false
set_option linter.unusedSimpArgs false

/-- Taking what is not all there. -/
theorem takeGo_torn : ∀ (k i s n m : Nat), n < 128 ^ k → 1 ≤ k → i + k ≤ 10 → (i = 0 ∨ 0 < n) → (k + i = 10 → n < 2 * 128 ^ (k - 1)) → m < (layN n).length →
    takeGo i s ((layN n).take m) = (0, 0, 5)
  | 0, _, _, _, _, _, hk, _, _, _, _ => by omega
  | k + 1, i, s, n, m, hn, _, hik, hi0, h10, hm => by
    by_cases h : n < 128
    · rw [layN_small h] at hm ⊢
      simp only [List.length_cons, List.length_nil] at hm
      have : m = 0 := by omega
      subst this
      simp [takeGo]
    · rw [layN_big h] at hm ⊢
      cases m with
      | zero => simp [takeGo]
      | succ m =>
        obtain ⟨o1, o2, o3⟩ := or128 (n % 256) (Nat.mod_lt _ (by decide))
        have h8 : (UInt8.ofNat ((n % 256) ||| 128)).toNat = (n % 256) ||| 128 := by rw [UInt8.toNat_ofNat', Nat.mod_eq_of_lt (by simpa using o1)]
        have hk1 : 1 ≤ k := by
          rcases Nat.eq_zero_or_pos k with rfl | h'
          · simp at hn; omega
          · exact h'
        have hbad : ¬ ((i = 9 ∧ 1 < ((n % 256) ||| 128)) ∨ (0 < i ∧ ((n % 256) ||| 128) = 0)) := by omega
        simp only [List.take_succ_cons, takeGo, h8]
        rw [if_neg hbad, if_neg (by omega)]
        have e7 : (2 : Nat) ^ 7 = 128 := rfl
        simp only [List.length_cons] at hm
        rw [e7] at hm ⊢
        refine takeGo_torn k (i + 1) _ (n / 128) m ?_ hk1 (by omega) (.inr (by omega)) ?_ (by omega)
        · rw [Nat.div_lt_iff_lt_mul (by decide)]
          rw [Nat.pow_succ] at hn; exact hn
        · intro h'
          have := h10 (by omega)
          obtain ⟨k', rfl⟩ : ∃ k', k = k' + 1 := ⟨k - 1, by omega⟩
          simp only [Nat.add_sub_cancel] at this ⊢
          rw [Nat.div_lt_iff_lt_mul (by decide)]
          rw [Nat.pow_succ] at this; omega
theorem takeGo_layN_torn (n : Nat) (hn : n < 18446744073709551616) (m : Nat) (hm : m < (layN n).length) : takeGo 0 0 ((layN n).take m) = (0, 0, 5) :=
  takeGo_torn 10 0 0 n m (by omega) (by decide) (by decide) (.inl rfl) (fun _ => by omega) hm
theorem openB_torn (t : List UInt8) (most m : Nat) (h : t.length ≤ most) (hm : most ≤ 1000000000) (hml : m < (wrapB t).length) : openB ((wrapB t).take m) most = .error 5 := by
  have h1 : wrapB t = layN t.length ++ (t ++ fourB (crc (textB t))) := by simp [wrapB, textB]
  have hw := wrapB_length t
  by_cases hk : m < (layN t.length).length
  · have h2 : (wrapB t).take m = (layN t.length).take m := by
      rw [h1, List.take_append_of_le_length (by omega)]
    unfold openB
    rw [h2, takeGo_layN_torn _ (by omega) m hk]
    simp
  · have h2 : (wrapB t).take m = layN t.length ++ (t ++ fourB (crc (textB t))).take (m - (layN t.length).length) := by
      rw [h1, List.take_append, List.take_of_length_le (by omega)]
    have h3 := takeGo_layN t.length (by omega) ((t ++ fourB (crc (textB t))).take (m - (layN t.length).length))
    have hlen : ((wrapB t).take m).length = m := by rw [List.length_take]; omega
    unfold openB
    have h3' : takeGo 0 0 ((wrapB t).take m) = (t.length, (layN t.length).length, 0) := by rw [h2]; exact h3
    rw [h3']
    simp only [ne_eq, not_true_eq_false, if_false, hlen]
    rw [if_neg (by omega)]
    split
    · rfl
    · rw [if_pos (by omega)]
theorem catB_cons (x : List UInt8) (ls : List (List UInt8)) : catB (x :: ls) = wrapB x ++ catB ls := by simp [catB]
theorem allC_cons (x : List UInt8) (r : List UInt8) (hx : x.length ≤ 2097152) : allC (wrapB x ++ r) = (x :: (allC r).1, (wrapB x).length + (allC r).2.1, (allC r).2.2) := by
  have := allC_cat r [x] (by simpa using hx)
  simpa [catB] using this
/-- The records of the first so many bytes. -/
theorem allC_torn : ∀ (ls : List (List UInt8)) (m : Nat), (∀ x ∈ ls, x.length ≤ 2097152) → m ≤ (catB ls).length →
    ∃ k e, k ≤ ls.length ∧ allC ((catB ls).take m) = (ls.take k, (catB (ls.take k)).length, e) ∧ (catB (ls.take k)).length ≤ m ∧ (k < ls.length → m < (catB (ls.take (k + 1))).length) ∧ (e = 0 → m = (catB (ls.take k)).length)
  | [], m, _, hm => ⟨0, 0, by simp, by simp [catB, allC_nil], by simp [catB], by simp, fun _ => by simpa [catB] using hm⟩
  | x :: ls, m, hx, hm => by
    have hx0 := hx x (by simp)
    rw [catB_cons, List.length_append] at hm
    by_cases h : m < (wrapB x).length
    · have h1 : (catB (x :: ls)).take m = (wrapB x).take m := by rw [catB_cons, List.take_append_of_le_length (by omega)]
      have h5 : (catB ((x :: ls).take (0 + 1))).length = (wrapB x).length := by simp [catB]
      rw [h1]
      by_cases h0 : m = 0
      · subst h0
        exact ⟨0, 0, by simp, by simp [catB, allC_nil], by simp [catB], fun _ => by rw [h5]; omega, fun _ => by simp [catB]⟩
      · refine ⟨0, 5, by simp, ?_, by simp [catB], fun _ => by rw [h5]; omega, fun e => by cases e⟩
        have hne : (wrapB x).take m ≠ [] := by
          have : 0 < ((wrapB x).take m).length := by rw [List.length_take]; omega
          exact List.length_pos_iff.1 this
        unfold allC
        rw [allB, if_neg hne, openB_torn x _ m hx0 (by decide) h]
        simp [catB]
    · obtain ⟨k, e, q1, q2, q3, q4, q5⟩ := allC_torn ls (m - (wrapB x).length) (fun y hy => hx y (by simp [hy])) (by omega)
      refine ⟨k + 1, e, by simpa using q1, ?_, ?_, ?_, ?_⟩
      · have h1 : (catB (x :: ls)).take m = wrapB x ++ (catB ls).take (m - (wrapB x).length) := by
          rw [catB_cons, List.take_append, List.take_of_length_le (by omega)]
        rw [h1, allC_cons _ _ hx0, q2, List.take_succ_cons, catB_cons, List.length_append]
      · rw [List.take_succ_cons, catB_cons, List.length_append]; omega
      · intro hk
        rw [List.take_succ_cons, catB_cons, List.length_append]
        have := q4 (by simpa using hk)
        omega
      · intro he
        rw [List.take_succ_cons, catB_cons, List.length_append]
        have := q5 he
        omega
theorem catB_take (ls : List (List UInt8)) (k : Nat) : (catB ls).take (catB (ls.take k)).length = catB (ls.take k) := by
  have : catB ls = catB (ls.take k) ++ catB (ls.drop k) := by
    unfold catB
    rw [← List.flatten_append, ← List.map_append, List.take_append_drop]
  rw [this, List.take_append_of_le_length (Nat.le_refl _), List.take_of_length_le (Nat.le_refl _)]
/-- A torn file is mended. -/
theorem mend_torn {d : Dk} (h : d.calm) {name : List UInt8} {t : Ti} (ht : t.ok) {ls : List (List UInt8)} {m s : Nat} (hl : ∀ x ∈ ls, x.length ≤ 2097152) (hm : m ≤ (catB ls).length) (hf : aget name d.fs = some ⟨headB t ++ (catB ls).take m, s⟩) :
    ∃ k d' s', k ≤ ls.length ∧ (catB (ls.take k)).length ≤ m ∧ (k < ls.length → m < (catB (ls.take (k + 1))).length) ∧
      d.mend name = (.ok ⟨t, ls.take k, (headB t).length + (catB (ls.take k)).length, 0⟩, d') ∧ d'.fs = aput name ⟨headB t ++ catB (ls.take k), s'⟩ d.fs ∧ d'.room = d.room ∧ d'.calm := by
  obtain ⟨k, e, q1, q2, q3, q4, q5⟩ := allC_torn ls m hl hm
  have hscan := scanB_lay t ht [] (by simp) ((catB ls).take m)
  rw [q2] at hscan
  have e0 : catB [] = [] := rfl
  simp only [e0, List.nil_append, List.length_nil, Nat.add_zero] at hscan
  have hsheet : d.sheet name = .ok ⟨t, ls.take k, (headB t).length + (catB (ls.take k)).length, e⟩ := by
    unfold Dk.sheet
    rw [h.read hf]
    exact hscan
  by_cases he : e = 0
  · have hm2 := q5 he
    refine ⟨k, d, s, q1, q3, q4, ?_, ?_, rfl, h⟩
    · unfold Dk.mend
      rw [hsheet]
      simp [he]
    · rw [hm2, catB_take] at hf
      exact (aput_same hf).symm
  · obtain ⟨d', c1, c2, c3, c4⟩ := h.cut (n := (headB t).length + (catB (ls.take k)).length) hf (by rw [List.length_append, List.length_take]; omega)
    refine ⟨k, d', (headB t).length + (catB (ls.take k)).length, q1, q3, q4, ?_, ?_, c3, c4⟩
    · unfold Dk.mend
      rw [hsheet]
      simp only [he, if_false, c1, if_true]
    · rw [c2]
      simp only
      rw [List.take_append, List.take_of_length_le (by omega), Nat.add_sub_cancel_left, List.take_take, Nat.min_eq_left q3, catB_take]
where aput_same {name : List UInt8} {f : Fl} : ∀ {fs : List (List UInt8 × Fl)}, aget name fs = some f → aput name f fs = fs
  | [], h => by cases h
  | (a, u) :: r, h => by
    simp only [aget, aput] at h ⊢
    split at h
    · rename_i heq
      simp only [Option.some.injEq] at h
      subst h
      rw [if_pos heq]
    · rename_i hne
      rw [if_neg hne, aput_same h]
end Go.Proofs.YtdkbpcibmipelaaGreatDoor

/-
  A segment's file in plain lists: any events that may be held there; a torn file.
-/
namespace Go.Proofs.YtdkbpcibmipelaaGreatDoor
open Go.RowKit
set_option linter.unusedVariables false
set_option linter.unusedSimpArgs false

/-- What is read of an event that may be. -/
theorem ep_right {e : Ev} (h : e.right = 0) : e.ep.right = 0 := by
  obtain ⟨h1, h2, h3⟩ := right_zero h
  unfold Ev.right at h
  split at h
  · omega
  rename_i a1
  split at h
  · omega
  rename_i a2
  split at h
  · omega
  rename_i a3
  show (e.ep.ev (.slice none 0 0)).right = 0
  unfold Ev.right
  have hw : ((e.wr.toNat : Nat) : Int) = e.wr := by omega
  rw [if_neg, if_neg, if_neg]
  · simpa only [Ep.ev, Ev.ep] using a3
  · rintro (⟨b1, b2, b3⟩ | ⟨b1, b2⟩)
    · simp only [Ep.ev, Ev.ep] at b1 b2 b3
      rw [if_pos ⟨b1, b2⟩] at b3
      exact a2 (.inl ⟨b1, b2, b3⟩)
    · simp only [Ep.ev, Ev.ep] at b1 b2
      rw [if_pos b1] at b2
      exact a2 (.inr ⟨b1, b2⟩)
  · simp only [Ep.ev, Ev.ep]
    rw [hw]
    rintro (b | b | b | b | b | ⟨b1, b2⟩)
    · exact b ⟨h1, h2⟩
    · exact a1 (.inr (.inl b))
    · exact a1 (.inr (.inr (.inl b)))
    · exact a1 (.inr (.inr (.inr (.inl b))))
    · exact a1 (.inr (.inr (.inr (.inr (.inl b)))))
    · rw [if_pos b1] at b2
      have := h3 b1
      omega
theorem decE_enc {e : Ev} (h : e.right = 0) (hkd : e.kd < 256) (hk : e.key.length ≤ 64) (ht : e.text.length ≤ 1048576) (hn : e.num < 18446744073709551616) (hd : e.nd.toNat ≤ 63) : decE e.enc = .ok e.ep := by
  obtain ⟨h1, h2, h3⟩ := right_zero h
  have hr := ep_right h
  unfold Ev.right at h
  split at h
  · omega
  split at h
  · omega
  split at h
  · omega
  unfold decE
  rw [rdEv_enc (by omega) (by omega) (by omega) hkd hk ht hn hd]
  simp only
  rw [if_pos hr]
/-- Events that a segment of a writer holds, the one at k ahead. -/
def Fit (i f : Nat) : Nat → List Ev → Prop
  | _, [] => True
  | k, e :: r => (e.wr = i ∧ e.sq = (f + k) % 18446744073709551616 ∧ decE e.enc = .ok e.ep ∧ e.enc.length ≤ 2097152) ∧ Fit i f (k + 1) r
theorem Fit.append {i f : Nat} : ∀ {k : Nat} {a b : List Ev}, Fit i f k a → Fit i f (k + a.length) b → Fit i f k (a ++ b)
  | _, [], _, _, hb => by simpa using hb
  | k, e :: r, b, ha, hb => ⟨ha.1, ha.2.append (by
      have e1 : k + 1 + r.length = k + (r.length + 1) := by omega
      rw [e1]; exact hb)⟩
theorem Fit.take {i f : Nat} : ∀ {k : Nat} {a : List Ev} (n : Nat), Fit i f k a → Fit i f k (a.take n)
  | _, [], n, _ => by simp [Fit]
  | _, _ :: _, 0, _ => by simp [Fit]
  | _, _ :: _, n + 1, h => ⟨h.1, h.2.take n⟩
theorem Fit.len {i f : Nat} : ∀ {k : Nat} {a : List Ev}, Fit i f k a → ∀ x ∈ a.map Ev.enc, x.length ≤ 2097152
  | _, [], _, x, hx => by cases hx
  | _, e :: r, h, x, hx => by
    rw [List.map_cons] at hx
    rcases List.mem_cons.1 hx with rfl | hx
    · exact h.1.2.2.2
    · exact h.2.len x hx
theorem catB_len1 (x : List UInt8) (r : List (List UInt8)) : (catB (x :: r)).length = recN x.length + (catB r).length := by
  simp only [catB, List.map_cons, List.flatten_cons, List.length_append, wrapB_length]
  rfl
/-- What is read back of the events that are held; and then of others. -/
theorem opE_fit {i f : Nat} : ∀ {es : List Ev} {acc : List Ep} {sz : Nat} (rest : List (List UInt8)), Fit i f acc.length es →
    opE i f acc sz (es.map Ev.enc ++ rest) = opE i f (acc ++ es.map Ev.ep) (sz + (catB (es.map Ev.enc)).length) rest
  | [], acc, sz, rest, _ => by simp [catB]
  | e :: r, acc, sz, rest, h => by
    rw [List.map_cons, List.cons_append]
    simp only [opE, h.1.2.2.1]
    have hw : e.ep.wr = i := by
      have := h.1.1
      simp only [Ev.ep]; omega
    rw [if_pos ⟨hw, h.1.2.1⟩, opE_fit (es := r) rest (by simpa using h.2)]
    rw [List.map_cons, catB_len1, List.append_assoc, Nat.add_assoc]
    rfl
theorem opE_all {i f : Nat} {es : List Ev} {sz : Nat} (h : Fit i f 0 es) : opE i f [] sz (es.map Ev.enc) = (es.map Ev.ep, sz + (catB (es.map Ev.enc)).length, false) := by
  have := opE_fit (acc := []) (sz := sz) [] h
  rw [List.append_nil, List.nil_append] at this
  rw [this]
  rfl
/-- A segment's file. -/
def segB (i f : Nat) (es : List Ev) : List UInt8 := headB ⟨115, i, f⟩ ++ catB (es.map Ev.enc)
theorem segB_len (i f : Nat) (es : List Ev) : (segB i f es).length = (headB ⟨115, i, f⟩).length + (catB (es.map Ev.enc)).length := by simp [segB]
theorem segB_snoc (i f : Nat) (es : List Ev) (e : Ev) : segB i f (es ++ [e]) = segB i f es ++ wrapB e.enc := by
  simp only [segB, List.map_append, List.map_cons, List.map_nil, catB_snoc, List.append_assoc]
/-- A torn file is opened: the first events. -/
theorem opn_torn {d : Dk} (h : d.calm) {i f : Nat} (hi : i < 64) (hf : f < 18446744073709551616) {es : List Ev} {m s : Nat} (hes : Fit i f 0 es) (hm : m ≤ (catB (es.map Ev.enc)).length) (ha : aget (nameB i f) d.fs = some ⟨headB ⟨115, i, f⟩ ++ (catB (es.map Ev.enc)).take m, s⟩) :
    ∃ k d' s', k ≤ es.length ∧ (segB i f (es.take k)).length ≤ (headB ⟨115, i, f⟩).length + m ∧ d.opn i f = (.ok ((es.take k).map Ev.ep, (segB i f (es.take k)).length, 0), d') ∧
      (d.mend (nameB i f)).1 = .ok ⟨⟨115, i, f⟩, (es.take k).map Ev.enc, (segB i f (es.take k)).length, 0⟩ ∧ d'.fs = aput (nameB i f) ⟨segB i f (es.take k), s'⟩ d.fs ∧ d'.room = d.room ∧ d'.calm := by
  have hto : Ti.ok ⟨115, i, f⟩ := ⟨by simp only; omega, hf⟩
  obtain ⟨k, d', s', h1, h2, h3, h4, h5, h6, h7⟩ := mend_torn h hto hes.len hm ha
  rw [← List.map_take] at h2 h4 h5
  rw [List.length_map] at h1
  have hsl := segB_len i f (es.take k)
  refine ⟨k, d', s', h1, by omega, ?_, by rw [h4, hsl], h5, h6, h7⟩
  simp only [Dk.opn, h4]
  rw [if_pos ⟨trivial, trivial, trivial⟩, opE_all (hes.take k), hsl]
  simp
theorem mend_whole {d : Dk} (h : d.calm) {i f : Nat} (hi : i < 64) (hf : f < 18446744073709551616) {ls : List (List UInt8)} {s : Nat} (hl : ∀ x ∈ ls, x.length ≤ 2097152) (ha : aget (nameB i f) d.fs = some ⟨headB ⟨115, i, f⟩ ++ catB ls, s⟩) :
    d.mend (nameB i f) = (.ok ⟨⟨115, i, f⟩, ls, (headB ⟨115, i, f⟩ ++ catB ls).length, 0⟩, d) := by
  have hto : Ti.ok ⟨115, i, f⟩ := ⟨by simp only; omega, hf⟩
  have hrd : d.read (nameB i f) = .ok (headB ⟨115, i, f⟩ ++ catB ls) := h.read ha
  have hsc := scanB_lay ⟨115, i, f⟩ hto ls hl []
  rw [List.append_nil, allC_nil] at hsc
  simp only [List.append_nil, Nat.add_zero] at hsc
  simp only [Dk.mend, Dk.sheet, hrd, hsc, List.length_append, if_true]
theorem opn_whole {d : Dk} (h : d.calm) {i f : Nat} (hi : i < 64) (hf : f < 18446744073709551616) {es : List Ev} {s : Nat} (hes : Fit i f 0 es) (ha : aget (nameB i f) d.fs = some ⟨segB i f es, s⟩) :
    d.opn i f = (.ok (es.map Ev.ep, (segB i f es).length, 0), d) ∧ (d.mend (nameB i f)).1 = .ok ⟨⟨115, i, f⟩, es.map Ev.enc, (segB i f es).length, 0⟩ := by
  have hm := mend_whole h hi hf hes.len ha
  refine ⟨?_, by rw [hm]; rfl⟩
  simp only [Dk.opn, hm]
  rw [if_pos ⟨trivial, trivial, trivial⟩, opE_all hes, segB_len]
  simp
end Go.Proofs.YtdkbpcibmipelaaGreatDoor

/-
  Layer 8 (segment): what is opened is never too much; Open of any disk.
-/
namespace Go.Proofs.YtdkbpcibmipelaaGreatDoor
open Go.RowKit
set_option linter.unusedVariables false
set_option linter.unusedSimpArgs false

theorem openB_few {l : List UInt8} {most k v : Nat} (h : openB l most = .ok (k, v)) : v ≤ most ∧ k + v + 4 ≤ l.length := by
  unfold openB at h
  generalize takeGo 0 0 l = q at h
  obtain ⟨v', k', e⟩ := q
  simp only at h
  split at h
  · cases h
  split at h
  · cases h
  split at h
  · cases h
  split at h
  · cases h
  split at h
  · simp only [Except.ok.injEq, Prod.mk.injEq] at h
    obtain ⟨rfl, rfl⟩ := h
    omega
  · cases h
theorem allB_few (most : Nat) : ∀ (fuel : Nat) (l : List UInt8), (∀ p ∈ (allB most fuel l).1, p.length ≤ most) ∧ (allB most fuel l).1.length ≤ l.length
  | 0, l => by simp [allB]
  | fuel + 1, l => by
    rw [allB]
    split
    · simp
    · cases ho : openB l most with
      | error e => simp
      | ok q =>
        obtain ⟨k, v⟩ := q
        obtain ⟨h1, h2⟩ := openB_few ho
        obtain ⟨h3, h4⟩ := allB_few most fuel (l.drop (k + v + 4))
        rw [List.length_drop] at h4
        refine ⟨?_, ?_⟩
        · intro p hp
          simp only [List.mem_cons] at hp
          rcases hp with rfl | hp
          · rw [List.length_take]; omega
          · exact h3 p hp
        · simp only [List.length_cons]
          omega
theorem scanB_few {l : List UInt8} {s : Sh} (h : scanB l = .ok s) : (∀ p ∈ s.l, p.length ≤ 2097152) ∧ s.l.length ≤ l.length := by
  unfold scanB at h
  cases ho : openB l 2097152 with
  | error e => rw [ho] at h; cases h
  | ok q =>
    obtain ⟨k, v⟩ := q
    rw [ho] at h
    simp only at h
    split at h
    · cases h
    · simp only [Except.ok.injEq] at h
      subst h
      obtain ⟨h3, h4⟩ := allB_few 2097152 ((l.drop (k + v + 4)).length + 1) (l.drop (k + v + 4))
      refine ⟨h3, ?_⟩
      rw [List.length_drop] at h4
      simp only [allC, List.length_drop] at h4 ⊢
      omega
theorem aget_tk {name : List UInt8} {f : Fl} : ∀ {fs : List (List UInt8 × Fl)}, aget name fs = some f → f.p.length ≤ tk fs
  | [], h => by cases h
  | (a, u) :: r, h => by
    simp only [aget] at h
    simp only [tk, List.map_cons, List.sum_cons]
    split at h
    · simp only [Option.some.injEq] at h
      subst h
      omega
    · have := aget_tk h
      simp only [tk] at this
      omega
theorem mend_few {d : Dk} (hd : d.ok) {name : List UInt8} {s : Sh} (h : (d.mend name).1 = .ok s) : (∀ p ∈ s.l, p.length ≤ 2097152) ∧ s.l.length ≤ 1000000000 := by
  have key : ∀ s, d.sheet name = .ok s → (∀ p ∈ s.l, p.length ≤ 2097152) ∧ s.l.length ≤ 1000000000 := by
    intro s hs
    unfold Dk.sheet Dk.read at hs
    split at hs
    · rename_i h1
      cases hs
    · rename_i p h1
      split at h1
      · cases h1
      · split at h1
        · cases h1
        · rename_i f hf
          simp only [Except.ok.injEq] at h1
          subst h1
          obtain ⟨h2, h3⟩ := scanB_few hs
          have := aget_tk hf
          have := hd.total
          exact ⟨h2, by omega⟩
  unfold Dk.mend at h
  cases hs : d.sheet name with
  | error e => rw [hs] at h; cases h
  | ok s' =>
    have hk := key s' hs
    rw [hs] at h
    simp only at h
    split at h
    · cases h
      exact hk
    · split at h
      · cases h
        exact hk
      · cases h
theorem disk_ok {W w : World} {g : Hl} {H : List HP} {b : Nat} {d : Dk} (hs : Sat W w g (disk b d :: H)) : d.ok := by
  obtain ⟨_, _, _, h, _⟩ := disk_open hs
  exact h
theorem sgOpen_all {R : Ending → World → Prop} {W w : World} {g : Hl} {H : List HP} {b : Nat} {d : Dk} {i n : Nat} (hg : Gl g) (hi : i < 64) (hn : n < 18446744073709551616) (hs : Sat W w g (disk b d :: H))
    (hE : ∀ e w' g', Hl.le g g' → (d.opn i n).1 = .error e → e ≠ 0 → Sat W w' g' (disk b (d.opn i n).2 :: H) → R (.returned (.tuple #[noSg, .int .i64 e])) w')
    (hOK : ∀ x sz er w' g', Hl.le g g' → (d.opn i n).1 = .ok (x.es.map Ev.raw, sz, er) → El.ok x g' → (∀ e ∈ x.es, e.right = 0) → Sat W w' g' (disk b (d.opn i n).2 :: H) → R (.returned (.tuple #[Sg.val ⟨i, n, x, sz⟩, .int .i64 er])) w') :
    Calls Tryz.prog 20 #[ptr b, str (nameB i n)] w R :=
  sgOpen_any hg hi hn (fun s h => mend_few (disk_ok hs) h) hs hE hOK
end Go.Proofs.YtdkbpcibmipelaaGreatDoor

/-
  SegmentMends, walked.
-/
namespace Go.Proofs.YtdkbpcibmipelaaGreatDoor
open Go.RowKit
set_option linter.unusedVariables false
set_option linter.unusedSimpArgs false

theorem evP_num {K T i sq tm : Nat} {tv : Value} : (evP K T i sq tm tv).num = 0 := rfl
theorem evP_dec {K T i sq tm : Nat} {tv : Value} (hi : i < 64) (h1 : 1 ≤ sq) (h2 : sq ≤ 9223372036854775807) (h3 : 1 ≤ tm) (h4 : tm ≤ 9223372036854775807) : decE (evP K T i sq tm tv).enc = .ok (evP K T i sq tm tv).ep := by
  have hl : (evP K T i sq tm tv).text.length ≤ 30 := by
    simp only [evP]; split
    · simp; omega
    · simp
  exact decE_enc (evP_right hi h1 h2 h3 h4) (by simp only [evP]; omega) (by simp [evP]) (by omega) (by simp [evP]) (by simp [evP])
theorem evP_len {K T i sq tm : Nat} {tv : Value} (hi : i < 64) (h2 : sq < 18446744073709551616) (h4 : tm < 18446744073709551616) : (evP K T i sq tm tv).enc.length ≤ 92 := by
  have hl : (evP K T i sq tm tv).text.length ≤ 30 := by
    simp only [evP]; split
    · simp; omega
    · simp
  have h := Ev.enc_len (evP K T i sq tm tv) (by simp only [evP]; omega) h2 h4 (by simp [evP]) (by omega) (by simp [evP])
  have hk1 : (evP K T i sq tm tv).key.length = 1 := rfl
  omega
theorem evL_len (ps : List (Nat × Nat)) (i f n : Nat) : (evL ps i f n).length = n := by simp [evL]
theorem evL_fit {ps : List (Nat × Nat)} {i f : Nat} (hi : i < 64) (hf0 : 1 ≤ f) (hf : f ≤ 2000000000000000000) : ∀ n, n ≤ 1000 → Fit i f 0 (evL ps i f n)
  | 0, _ => trivial
  | n + 1, h => by
    rw [evL_succ]
    refine (evL_fit hi hf0 hf n (by omega)).append ⟨⟨rfl, ?_, evK_dec hi hf0 hf (by omega), ?_⟩, trivial⟩
    · rw [evL_len, Nat.mod_eq_of_lt (by omega)]
      simp only [evK, evP]; omega
    · have := evK_len (ps := ps) hi hf (k := n) (by omega)
      omega
theorem sameE_raw {a b : List Ev} (h : a.map Ev.raw = b.map Ev.raw) : sameE a b = true := by
  have h2 : ∀ l : List Ev, l.map Ev.enc = (l.map Ev.raw).map (fun p => (p.ev (.slice none 0 0)).enc) := fun l => by
    rw [List.map_map]; rfl
  simp only [sameE, decide_eq_true_eq]
  rw [h2, h2 b, h]
/-- What is kept of events that are none of a node that joins can be told again. -/
theorem fit_raw {y : El} {g : Hl} {l : List Ev} (hy : y.ok g) (h : y.es.map Ev.raw = l.map Ev.ep) (hl : ∀ e ∈ l, 1 ≤ e.kd ∧ e.kd ≤ 4) : ∀ e ∈ y.es, e.fit := by
  intro e he
  have hm : e.raw ∈ l.map Ev.ep := by rw [← h]; exact List.mem_map_of_mem he
  obtain ⟨e2, he2, heq⟩ := List.mem_map.1 hm
  have hkd : e.kd = e2.kd := (congrArg Ep.kd heq).symm
  have := hl e2 he2
  have hlow := (hy.evs e he).2
  exact ⟨hlow.1, by omega, fun h => by omega⟩
theorem evL_kd {ps : List (Nat × Nat)} {i f n : Nat} : ∀ e ∈ evL ps i f n, 1 ≤ e.kd ∧ e.kd ≤ 4 := by
  intro e he
  obtain ⟨k, hk, rfl⟩ := List.mem_map.1 he
  simp only [evK, evP]
  omega
theorem El.ok.take {x : El} {g : Hl} (hx : x.ok g) (k : Nat) {a' : Option Addr} {c' : Nat} (h : Pr 8 g (.slice a' (min k x.es.length) c') (min k x.es.length) (evC (x.es.take k))) : El.ok ⟨a', c', x.es.take k⟩ g :=
  ⟨by simp only [El.v, List.length_take]; exact h, fun e he => hx.evs e (List.mem_of_mem_take he)⟩

set_option maxHeartbeats 6400000 in
set_option maxRecDepth 100000 in
theorem segMends_any {R : Ending → World → Prop} {W w : World} {g : Hl} {H : List HP} {cut K T n c : Nat} {a : Option Addr} {ps : List (Nat × Nat)} (hg : Gl g) (hcut : cut < 65536) (hK : K < 256) (hT : T < 256) (hp : Pr 2 g (.slice a n c) n (putC ps)) (hn : ps.length = n) (hps : ∀ p ∈ ps, p.1 < 256 ∧ p.2 < 256) (hs : Sat W w g H)
    (hR : ∀ w' g', Hl.le g g' → Sat W w' g' H → R (.returned (.bool true)) w') :
    Calls Tryz.prog 4 #[.slice a n c, .int .u16 cut, .agg #[.int .u8 K, .int .u8 T]] w R := by
  have HR := Lib.hid hR
  clear hR
  have ag1 := ag_sg
  have ag2 := ag_put
  have ag3 := ag_title
  refine C.calls (args := [.slice a n c, .int .u16 cut, (.agg #[.int .u8 K, .int .u8 T])]) Tryz.func4 rfl rfl rfl ?_
  refine go ?_
  refine E.bx hs ?_
  intro b5 w0 hs
  refine go ?_
  refine E.callf Tryz.func15 rfl ?_
  refine awake8_any hg hs ?_
  intro w1 hs
  refine go ?_
  cases h20 : decide ((20 : Int) < n) with
  | true =>
    refine go ?_
    refine E.callf Tryz.func15 rfl ?_
    refine awake8_any hg hs ?_
    intro w2 hs
    refine go ?_
    refine A.r1 ?_
    exact HR.out _ _ (Hl.le_refl _) hs.drop
  | false =>
  have h20 := of_decide_eq_false h20
  refine go ?_
  refine E.callf Tryz.func16 rfl ?_
  refine new_any (by omega) hs ?_
  intro b w2 hs
  refine go ?_
  refine E.callf Tryz.func17 rfl ?_
  refine fill8_any (i := 5) (f := 1) hg (by decide) (by decide) (by decide) hp hn (by omega) hps ⟨rfl, by simp⟩ rfl rfl hs ?_
  intro s d w3 g3 hg3 hfull hs
  refine go ?_
  refine E.al hs ?_
  intro b8 w4 hs
  refine E.sto (vs := s.cs) (ys := s.cs) hs ?_ (hv := rfl) (hsp := rfl)
  intro w5 hs
  refine go ?_
  refine E.callf Tryz.func18 rfl ?_
  refine segName_any (i := 5) (n := 1) (hg.mono hg3) (by decide) (by decide) hs ?_
  intro w6 hs
  refine go ?_
  have hto : Ti.ok ⟨115, 5, 1⟩ := ⟨by decide, by decide⟩
  refine E.callf Tryz.func21 rfl ?_
  refine head_any (t := ⟨115, 5, 1⟩) hs hto ?_
  intro ah ch w7 g7 hg7 hs
  replace hs := hs.drop
  have hhl := headB_len hto
  have hes : Fit 5 1 0 (evL ps 5 1 n) := evL_fit (by decide) (by decide) (by decide) n (by omega)
  have hfl : (fileP ps 5 1 n).length = (headB ⟨115, 5, 1⟩).length + (catB ((evL ps 5 1 n).map Ev.enc)).length := by simp [fileP]
  have hfl2 := fileP_len (ps := ps) (i := 5) (f := 1) (by decide) (by decide) n (by omega)
  obtain ⟨m, hmd⟩ : ∃ m : Nat, m = cut % ((catB ((evL ps 5 1 n).map Ev.enc)).length + 1) := ⟨_, rfl⟩
  have hm1 : m ≤ (catB ((evL ps 5 1 n).map Ev.enc)).length := by have := Nat.mod_lt cut (show 0 < (catB ((evL ps 5 1 n).map Ev.enc)).length + 1 by omega); omega
  have hsz := hfull.size
  refine go ?_
  refine E.pv (Pv.remn (a := cut) (b := (catB ((evL ps 5 1 n).map Ev.enc)).length + 1) rfl rfl rfl (by omega) (by omega)) ?_
  rw [← hmd]
  clear hmd
  refine go ?_
  obtain ⟨q, hfsd⟩ := hfull.fs
  have hget : aget (nameB 5 1) d.fs = some ⟨fileP ps 5 1 n, q⟩ := by rw [hfsd]; simp [aget]
  obtain ⟨d1, f1, f2, f3, f4⟩ := hfull.calm.cut (n := (headB ⟨115, 5, 1⟩).length + m) hget (by simp only; omega)
  have hk1 : (((headB ⟨115, 5, 1⟩).length : Int) + (m : Int)) = (((headB ⟨115, 5, 1⟩).length + m : Nat) : Int) := by omega
  rw [hk1]
  refine E.callf Tryz.func27 rfl ?_
  refine cut_any (b := b) (d := d) (name := nameB 5 1) (k := (((headB ⟨115, 5, 1⟩).length + m : Nat) : Int)) hs.swap ?_
  intro w8 hs
  rw [f1] at hs ⊢
  replace hs : Sat W w8 g7 (disk b d1 :: blk b8 s.cs 29 :: blk b5 [.int .u8 K, .int .u8 T] 49 :: H) := hs
  have f5 : aget (nameB 5 1) d1.fs = some ⟨headB ⟨115, 5, 1⟩ ++ (catB ((evL ps 5 1 n).map Ev.enc)).take m, (headB ⟨115, 5, 1⟩).length + m⟩ := by
    rw [f2, hfsd, aput_one, aget_one]
    simp only [fileP]
    rw [List.take_append, List.take_of_length_le (by omega), Nat.add_sub_cancel_left]
  obtain ⟨k, d2, s2, k1, k2, k3, k4, k5, k6, k7⟩ := opn_torn f4 (by decide) (by decide) hes hm1 f5
  rw [evL_len] at k1
  rw [f2, hfsd, aput_one, aput_one] at k5
  rw [f3, hfull.room] at k6
  clear f1 f2 f3 f4 f5 k4
  refine go ?_
  refine E.callf Tryz.func20 rfl ?_
  refine sgOpen_all (i := 5) (n := 1) (hg.mono (hg3.trans hg7)) (by decide) (by decide) hs ?_ ?_
  · intro e w9 g9 _ h
    rw [k3] at h; cases h
  intro x sz er w9 g9 hg9 hox hxo hxr hs
  rw [k3] at hox hs
  simp only [Except.ok.injEq, Prod.mk.injEq] at hox
  obtain ⟨hox1, rfl, rfl⟩ := hox
  clear k3
  have hxl : x.es.length = k := by
    have := congrArg List.length hox1
    simp only [List.length_map, List.length_take, evL_len] at this
    omega
  have hkn : ¬ (n : Int) < (x.es.length : Int) := by omega
  have hsxl := hfull.len
  refine go ?_
  refine E.al hs ?_
  intro b13 w10 hs
  refine E.sto (vs := [.int .i64 5, .int .u64 1, x.v, .int .i64 ((segB 5 1 ((evL ps 5 1 n).take k)).length : Nat)]) (ys := [.int .i64 5, .int .u64 1, x.v, .int .i64 ((segB 5 1 ((evL ps 5 1 n).take k)).length : Nat)]) hs ?_ (hv := rfl) (hsp := rfl)
  intro w11 hs
  refine gob ?_
  refine C.held2 b13 b8 hs ?_
  intro w12 hk hs
  refine goh ?_
  rw [decide_eq_false hkn]
  refine goh ?_
  have hsx := hfull.x.mono (hg7.trans hg9)
  refine EH.slq el_ev hsx.row 0 k hk (fun a16 c16 hp16 => ?_)
  have hyo : El.ok ⟨a16, c16, s.x.es.take k⟩ g9 := hsx.take k (by
    rw [Nat.min_eq_left (by omega)]
    simpa [evC_take] using hp16)
  have hyl : (s.x.es.take k).length = k := by rw [List.length_take]; omega
  have hyraw : (s.x.es.take k).map Ev.raw = ((evL ps 5 1 n).take k).map Ev.ep := by rw [List.map_take, hfull.es, List.map_take]
  simp only [Nat.sub_zero]
  refine goh ?_
  have hyv : (⟨a16, c16, s.x.es.take k⟩ : El).v = .slice a16 k c16 := by simp only [El.v, hyl]
  rw [← hyv]
  refine EH.one (St.guard rfl rfl (St.callf Tryz.func25 rfl ?_))
  refine sameAll_any (x := x) (y := ⟨a16, c16, s.x.es.take k⟩) hxo hyo (fit_raw hxo hox1.symm (fun e he => evL_kd e (List.mem_of_mem_take he))) (fit_raw hyo hyraw (fun e he => evL_kd e (List.mem_of_mem_take he))) (by omega) (by simp only; omega) hs ?_
  intro w13 g13 hg13 hs
  rw [sameE_raw (a := x.es) (b := s.x.es.take k) (by rw [hyraw]; exact hox1.symm)]
  refine kept2 hs (fun hk => ?_) hg13
  refine goh ?_
  rw [decide_eq_false (show ¬ (((headB ⟨115, 5, 1⟩).length + m : Nat) : Int) < ((segB 5 1 ((evL ps 5 1 n).take k)).length : Nat) by omega)]
  refine EH.done ?_
  refine gob ?_
  have hnx : Sg.next ⟨5, 1, x, (segB 5 1 ((evL ps 5 1 n).take k)).length⟩ = 1 + k := by
    simp only [Sg.next, hxl]; omega
  have hel := evP_len (K := K) (T := T) (i := 5) (sq := 1 + k) (tm := 999) (tv := .slice none 0 0) (by decide) (by omega) (by decide)
  have hwl := wrapB_len (evP K T 5 (1 + k) 999 (.slice none 0 0)).enc (by omega)
  obtain ⟨d3, q1, q2, q3, q4⟩ := add_calm8 k7 (name := nameB 5 1) (p := (evP K T 5 (1 + k) 999 (.slice none 0 0)).enc) (by omega) (nameB_named (by decide) (by decide)) (by rw [k5, tk_one8, k6]; simp only; omega)
  have hfit : ∀ tv, Sg.fit ⟨5, 1, x, (segB 5 1 ((evL ps 5 1 n).take k)).length⟩ (evP K T 5 (1 + k) 999 tv) = 0 := by
    intro tv
    simp only [Sg.fit]
    rw [if_pos (evP_right (by decide) (by omega) (by omega) (by decide) (by decide)), if_pos]
    exact ⟨rfl, by rw [hnx]; rfl⟩
  have hgg : Hl.le g g13 := hg3.trans (hg7.trans (hg9.trans hg13))
  have hxo := hxo.mono hg13
  have hvu : (⟨5, 1, x, (segB 5 1 ((evL ps 5 1 n).take k)).length⟩ : Sg).val = .agg #[.int .i64 5, .int .u64 1, x.v, .int .i64 ((segB 5 1 ((evL ps 5 1 n).take k)).length : Nat)] := rfl
  refine C.held2 b13 b5 hs ?_
  intro w14 hk hs
  apply laterH (α := Nat × (Option Addr × Nat × Value) × Hl) (f := fun q => [(7, ptr b), (10, str (nameB 5 1)), (13, ptr b13), (15, ptr q.1), (96, Sg.val ⟨5, 1, ⟨q.2.1.1, q.2.1.2.1, x.es ++ [(evP K T 5 (1 + k) 999 (.slice none 0 0)).ep.ev q.2.1.2.2]⟩, (segB 5 1 ((evL ps 5 1 n).take k)).length + recN (evP K T 5 (1 + k) 999 (.slice none 0 0)).enc.length⟩), (97, .int .i64 0)])
    (M := fun q w => Hl.le g13 q.2.2 ∧ El.ok ⟨q.2.1.1, q.2.1.2.1, x.es ++ [(evP K T 5 (1 + k) 999 (.slice none 0 0)).ep.ev q.2.1.2.2]⟩ q.2.2 ∧ Sat W w q.2.2 (blk q.1 [.int .i64 0, .int .u64 0, .slice none 0 0, .int .i64 0] 29 :: blk b13 [.int .i64 5, .int .u64 1, x.v, .int .i64 ((segB 5 1 ((evL ps 5 1 n).take k)).length : Nat)] 29 :: disk b d3 :: blk b8 s.cs 29 :: blk b5 [.int .u8 K, .int .u8 T] 49 :: H))
  · intro B3
    apply laterH (α := Nat × Value × Hl) (f := fun q => [(7, ptr b), (10, str (nameB 5 1)), (13, ptr b13), (15, ptr q.1), (89, .agg #[.int .i64 5, .int .u64 1, x.v, .int .i64 ((segB 5 1 ((evL ps 5 1 n).take k)).length : Nat)]), (90, ptr b), (94, (evP K T 5 (1 + k) 999 q.2.1).val)])
      (M := fun q w => Hl.le g13 q.2.2 ∧ (evP K T 5 (1 + k) 999 q.2.1).ok q.2.2 ∧ Sat W w q.2.2 (blk q.1 [.int .i64 0, .int .u64 0, .slice none 0 0, .int .i64 0] 29 :: blk b13 [.int .i64 5, .int .u64 1, x.v, .int .i64 ((segB 5 1 ((evL ps 5 1 n).take k)).length : Nat)] 29 :: disk b d2 :: blk b8 s.cs 29 :: blk b5 [.int .u8 K, .int .u8 T] 49 :: H))
    · intro B2
      apply laterH (α := Nat × Unit) (f := fun q => [(7, ptr b), (10, str (nameB 5 1)), (13, ptr b13), (15, ptr q.1), (89, .agg #[.int .i64 5, .int .u64 1, x.v, .int .i64 ((segB 5 1 ((evL ps 5 1 n).take k)).length : Nat)]), (90, ptr b), (91, .agg #[.int .u8 K, .int .u8 T]), (93, .int .u64 (1 + k : Nat))])
        (M := fun q w => Sat W w g13 (blk q.1 [.int .i64 0, .int .u64 0, .slice none 0 0, .int .i64 0] 29 :: blk b13 [.int .i64 5, .int .u64 1, x.v, .int .i64 ((segB 5 1 ((evL ps 5 1 n).take k)).length : Nat)] 29 :: disk b d2 :: blk b8 s.cs 29 :: blk b5 [.int .u8 K, .int .u8 T] 49 :: H))
      · intro B1
        refine goh ?_
        rw [← hvu]
        refine EH.ora hs (St.callf Tryz.func26 rfl ?_) ?_
        · refine sgNext_any (s := ⟨5, 1, x, (segB 5 1 ((evL ps 5 1 n).take k)).length⟩) (show (1 : Nat) < 18446744073709551616 by decide) (by simp only; omega) hs ?_
          intro w15 hs
          rw [hnx]
          refine kept2 hs (fun hk => ?_) (Hl.le_refl _)
          refine goh ?_
          refine EH.ora hs (St.callf Tryz.func24 rfl ?_) ?_
          · refine event8_any (K := K) (T := T) (i := 5) (sq := 1 + k) (tm := 999) (by decide) hK hT (by omega) (by decide) hs ?_
            intro tv w16 g16 hg16 heo hs
            refine kept2 hs (fun hk => ?_) hg16
            refine goh ?_
            refine EH.ora hs (St.callf Tryz.func28 rfl ?_) ?_
            · refine sgAdd_any (s := ⟨5, 1, x, (segB 5 1 ((evL ps 5 1 n).take k)).length⟩) (e := evP K T 5 (1 + k) 999 tv) (hg.mono (hgg.trans hg16)) heo (hxo.mono hg16) (show (5 : Nat) < 64 by decide) (show (1 : Nat) < 18446744073709551616 by decide) (by simp only; omega) (by simp only; omega) hs.swap ?_ ?_ ?_
              · intro w' g' _ h _
                exact absurd (hfit tv) h
              · intro w' g' _ _ h _
                exact absurd (congrArg Prod.fst q1) h
              intro a8 c8 tv2 w17 g17 hg17 _ _ hxo8 hs
              replace hs : Sat W w17 g17 (disk b (d2.add (nameB 5 1) (evP K T 5 (1 + k) 999 (.slice none 0 0)).enc).2 :: _) := hs
              rw [q1] at hs
              refine kept2 hs (fun hk => ?_) (hg16.trans hg17)
              refine goh ?_
              refine EH.al hs ?_
              intro b15 w18 hs
              refine kept2 hs (fun hk => ?_) (hg16.trans hg17)
              refine goh ?_
              exact EH.forget wk_ (B3 (b15, (a8, c8, tv2), g17) _ ⟨hg16.trans hg17, hxo8, hs.pull2.swap⟩)
            · intro b15 w17 hs
              refine kept2 hs (fun hk => ?_) hg16
              refine goh ?_
              exact EH.forget wk_ (B2 (b15, tv, g16) _ ⟨hg16, heo, hs⟩)
          · intro b15 w16 hs
            refine kept2 hs (fun hk => ?_)
            refine goh ?_
            exact EH.forget wk_ (B1 (b15, ()) _ hs)
        · intro b15 w15 hs
          refine kept2 hs (fun hk => ?_)
          refine goh ?_
          refine EH.one (St.callf Tryz.func26 rfl ?_)
          refine sgNext_any (s := ⟨5, 1, x, (segB 5 1 ((evL ps 5 1 n).take k)).length⟩) (show (1 : Nat) < 18446744073709551616 by decide) (by simp only; omega) hs ?_
          intro w16 hs
          rw [hnx]
          refine kept2 hs (fun hk => ?_) (Hl.le_refl _)
          refine goh ?_
          exact EH.forget wk_ (B1 (b15, ()) _ hs)
      · clear hs hk
        rintro ⟨b15, _⟩ w15 hs
        simp only at hs ⊢
        have hk := Keeps.of2 hs (Hl.le_refl _) (b1 := b13) (b2 := b5)
        refine goh ?_
        refine EH.one (St.callf Tryz.func24 rfl ?_)
        refine event8_any (K := K) (T := T) (i := 5) (sq := 1 + k) (tm := 999) (by decide) hK hT (by omega) (by decide) hs ?_
        intro tv w16 g16 hg16 heo hs
        refine kept2 hs (fun hk => ?_) hg16
        refine goh ?_
        exact EH.forget wk_ (B2 (b15, tv, g16) _ ⟨hg16, heo, hs⟩)
    · clear hs hk
      rintro ⟨b15, tv, g16⟩ w16 ⟨hg16, heo, hs⟩
      simp only at hg16 heo hs ⊢
      rw [← hvu]
      have hk := Keeps.of2 hs hg16 (b1 := b13) (b2 := b5)
      refine goh ?_
      refine EH.one (St.callf Tryz.func28 rfl ?_)
      refine sgAdd_any (s := ⟨5, 1, x, (segB 5 1 ((evL ps 5 1 n).take k)).length⟩) (e := evP K T 5 (1 + k) 999 tv) (hg.mono (hgg.trans hg16)) heo (hxo.mono hg16) (show (5 : Nat) < 64 by decide) (show (1 : Nat) < 18446744073709551616 by decide) (by simp only; omega) (by simp only; omega) hs.pull2 ?_ ?_ ?_
      · intro w' g' _ h _
        exact absurd (hfit tv) h
      · intro w' g' _ _ h _
        exact absurd (congrArg Prod.fst q1) h
      intro a8 c8 tv2 w17 g17 hg17 _ _ hxo8 hs
      replace hs : Sat W w17 g17 (disk b (d2.add (nameB 5 1) (evP K T 5 (1 + k) 999 (.slice none 0 0)).enc).2 :: _) := hs
      rw [q1] at hs
      refine kept2 hs (fun hk => ?_) (hg16.trans hg17)
      refine goh ?_
      exact EH.forget wk_ (B3 (b15, (a8, c8, tv2), g17) _ ⟨hg16.trans hg17, hxo8, hs.push2⟩)
  clear hs hk
  rintro ⟨b15, ⟨a8, c8, tv2⟩, g17⟩ w17 ⟨hg17, hxo8, hs⟩
  simp only at hg17 hxo8 hs ⊢
  have hk := Keeps.of2 hs hg17 (b1 := b13) (b2 := b5)
  generalize hs3 : (⟨5, 1, ⟨a8, c8, x.es ++ [(evP K T 5 (1 + k) 999 (.slice none 0 0)).ep.ev tv2]⟩, (segB 5 1 ((evL ps 5 1 n).take k)).length + recN (evP K T 5 (1 + k) 999 (.slice none 0 0)).enc.length⟩ : Sg) = s3
  refine goh ?_
  refine EH.sto (vs := s3.cs) (ys := s3.cs) hs ?_ (hv := rfl) (hsp := rfl)
  intro w18 hs
  refine kept2 hs (fun hk => ?_) hg17
  refine goh ?_
  refine EH.done ?_
  refine go ?_
  have hes3 : Fit 5 1 0 ((evL ps 5 1 n).take k ++ [evP K T 5 (1 + k) 999 (.slice none 0 0)]) := (hes.take k).append ⟨⟨rfl, by rw [List.length_take, evL_len, Nat.min_eq_left (by omega), Nat.mod_eq_of_lt (by omega)]; simp only [evP]; omega, evP_dec (by decide) (by omega) (by omega) (by decide) (by decide), by omega⟩, trivial⟩
  have hf3 : aget (nameB 5 1) d3.fs = some ⟨segB 5 1 ((evL ps 5 1 n).take k ++ [evP K T 5 (1 + k) 999 (.slice none 0 0)]), s2⟩ := by
    rw [q2, k5, put_one, aget_one, segB_snoc]
  obtain ⟨o1, _⟩ := opn_whole q4 (by decide) (by decide) hes3 hf3
  refine E.callf Tryz.func20 rfl ?_
  refine sgOpen_all (i := 5) (n := 1) (hg.mono (hgg.trans hg17)) (by decide) (by decide) hs.pull2 ?_ ?_
  · intro e w9 g9 _ h
    rw [o1] at h; cases h
  intro y sz er w19 g19 hg19 hox hyo3 hyr hs
  rw [o1] at hox hs
  simp only [Except.ok.injEq, Prod.mk.injEq] at hox
  obtain ⟨hy1, rfl, rfl⟩ := hox
  have hyl3 : y.es.length = k + 1 := by
    have := congrArg List.length hy1
    simp only [List.length_map, List.length_append, List.length_take, evL_len, List.length_singleton] at this
    omega
  refine go ?_
  refine E.al hs ?_
  intro b17 w20 hs
  refine E.sto (vs := [.int .i64 5, .int .u64 1, y.v, .int .i64 ((segB 5 1 ((evL ps 5 1 n).take k ++ [evP K T 5 (1 + k) 999 (.slice none 0 0)])).length : Nat)]) (ys := [.int .i64 5, .int .u64 1, y.v, .int .i64 ((segB 5 1 ((evL ps 5 1 n).take k ++ [evP K T 5 (1 + k) 999 (.slice none 0 0)])).length : Nat)]) hs ?_ (hv := rfl) (hsp := rfl)
  intro w21 hs
  have hs3x : s3.x = ⟨a8, c8, x.es ++ [(evP K T 5 (1 + k) 999 (.slice none 0 0)).ep.ev tv2]⟩ := by rw [← hs3]
  have hok3 : s3.x.ok g19 := by rw [hs3x]; exact hxo8.mono hg19
  have hraw3 : s3.x.es.map Ev.raw = ((evL ps 5 1 n).take k ++ [evP K T 5 (1 + k) 999 (.slice none 0 0)]).map Ev.ep := by
    rw [hs3x]
    simp only [List.map_append, List.map_cons, List.map_nil, ← hox1, Ep.raw_ev]
  have hkd3 : ∀ e ∈ (evL ps 5 1 n).take k ++ [evP K T 5 (1 + k) 999 (.slice none 0 0)], 1 ≤ e.kd ∧ e.kd ≤ 4 := by
    intro e he
    rcases List.mem_append.1 he with h | h
    · exact evL_kd e (List.mem_of_mem_take h)
    · rw [List.mem_singleton.1 h]
      simp only [evP]; omega
  have hl3 : s3.x.es.length = k + 1 := by rw [hs3x]; simp [hxl]
  refine go ?_
  refine E.callf Tryz.func25 rfl ?_
  refine sameAll_any (x := s3.x) (y := y) hok3 hyo3 (fit_raw hok3 hraw3 hkd3) (fit_raw hyo3 hy1.symm hkd3) (by omega) (by omega) hs ?_
  intro w22 g22 hg22 hs
  rw [sameE_raw (a := s3.x.es) (b := y.es) (by rw [hraw3]; exact hy1)]
  refine go ?_
  rw [decide_eq_true (show (y.es.length : Int) = (x.es.length : Int) + 1 by omega)]
  refine go ?_
  refine A.r1 ?_
  exact HR.out _ g22 (hgg.trans (hg17.trans (hg19.trans hg22))) hs.drop.drop.drop.drop.drop.drop
end Go.Proofs.YtdkbpcibmipelaaGreatDoor
