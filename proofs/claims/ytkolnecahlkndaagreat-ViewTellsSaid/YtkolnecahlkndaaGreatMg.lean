/-
  The reference of layer 12: events of three writers, from numbers.
-/
import Derived.Test.YtkolnecahlkndaaGreatMf
import Derived.Test.YtkolnecahlkndaaGreatMe
import Derived.Test.YtkolnecahlkndaaGreatMc
import Derived.Laws.FloatBits
import Derived.Test.YtkolnecahlkndaaGreatMd
import Derived.Test.YtkolnecahlkndaaGreatMb
import Derived.Sort.KeysCollected
import Derived.Maps.Own
import Derived.Laws.Slices
import Derived.Shelf.SlIter.Nil
import Derived.Shelf.SortM.Plain
import Derived.Shelf.SortM.SortNone
import Derived.Test.YtkolnecahlkndaaGreatProg
namespace Go.Proofs.YtkolnecahlkndaaGreat
open Go.RowKit
set_option linter.unusedVariables false
set_option linter.unusedSimpArgs false

theorem el_u16s : ElemOf Tryz.prog 22 49 (.int .u16 0) 1 2 := .of Tryz.underlying22 (by kernel_rfl) rfl (by decide)
theorem el_u64s : ElemOf Tryz.prog 48 28 (.int .u64 0) 1 8 := .of Tryz.underlying48 (by kernel_rfl) rfl (by decide)
/-- The cells of small numbers. -/
def hs16 (v : List Nat) : List Value := v.map fun (n : Nat) => .int .u16 (n : Int)

/-- A writer's event, from numbers. -/
structure Ev.fine (e : Ev) (g : Hl) (w : Nat) (last : Nat) : Prop where
  ok : e.ok g
  wr : e.wr = w
  kd : 1 ≤ e.kd ∧ e.kd ≤ 4
  key : e.key.length = 1
  text : e.text.length ≤ 1
  nd : e.nd = 0
  tm : 1 ≤ e.tm ∧ e.tm ≤ last
theorem Ev.fine.mono {e : Ev} {g g' : Hl} {w l l' : Nat} (h : e.fine g w l) (hg : Hl.le g g') (hl : l ≤ l') : e.fine g' w l' := ⟨h.ok.mono hg, h.wr, h.kd, h.key, h.text, h.nd, h.tm.1, by have := h.tm.2; omega⟩
structure Feed (g : Hl) (w : Nat) (es : List Ev) (last : Nat) : Prop where
  evs : ∀ e ∈ es, e.fine g w last
  sq : ∀ q (h : q < es.length), es[q].sq = q + 1
  up : es.Pairwise fun a b => a.tm < b.tm
theorem Feed.mono {g g' : Hl} {w l : Nat} {es : List Ev} (h : Feed g w es l) (hg : Hl.le g g') : Feed g' w es l := ⟨fun e he => (h.evs e he).mono hg (Nat.le_refl _), h.sq, h.up⟩
theorem Feed.add {g g' : Hl} {w l l' : Nat} {es : List Ev} {e : Ev} (h : Feed g w es l) (hg : Hl.le g g') (hl : l < e.tm) (he : e.fine g' w l') (hll : l ≤ l') (hsq : e.sq = es.length + 1) : Feed g' w (es ++ [e]) l' := by
  refine ⟨fun x hx => ?_, fun q hq => ?_, ?_⟩
  · rcases List.mem_append.1 hx with hx | hx
    · exact (h.evs x hx).mono hg hll
    · simp only [List.mem_singleton] at hx; subst hx; exact he
  · rcases Nat.lt_or_ge q es.length with hlt | hge
    · rw [List.getElem_append_left hlt]; exact h.sq q hlt
    · have : q = es.length := by simp at hq; omega
      subst this
      simp [hsq]
  · refine List.pairwise_append.2 ⟨h.up, List.pairwise_singleton _ _, fun a ha b hb => ?_⟩
    simp only [List.mem_singleton] at hb
    subst hb
    have := (h.evs a ha).tm.2
    omega

theorem made1 (v : Value) (k : Nat) : (madeCells #[v] k).toList = List.replicate k v := by
  apply List.ext_getElem?
  intro j
  by_cases hj : j < k
  · simp [madeCells, hj, Nat.mod_one]
  · simp [madeCells, hj]
section
variable {P : Program} {n : Fm} {ρ : List (Nat × Value)} {W w : World} {g : Hl} {H : List HP} {Q : Exit → Act → World → Prop} {ops : Array Oper} {rest : List Oper} {d : Option Tmp} {ty : TypeId} {ps : String} {af : Array Edge} {x y : Operand}
theorem E.fdiv {s s' : TypeId} {a b r : Nat} (hr : Ieee.double.div a b = some r) (h : E P n ops rest (pushv d (.float .f64 r) ρ) w Q)
    (hx : evo n ρ x = some (.float .f64 a) := by exact rfl) (hy : evo n ρ y = some (.float .f64 b) := by exact rfl) : E P n ops (⟨d, .binOp .quo s x y s', ty, ps, af, none⟩ :: rest) ρ w Q := by
  refine E.cons (St.val (v := .float .f64 r) (w' := w) (fun ac ha => ?_) h)
  have e0 : FloatKind.f64.format.div a b = some r := hr
  simp [execOp, ha.eval hx, ha.eval hy, eqGuard, binOp, Op.floatArith, e0]
end
theorem quarter : ∀ i : Nat, i < 60 → ∃ r, Ieee.double.div (FloatKind.f64.nearest (i : Int)) 4616189618054758400 = some r ∧ r < 18446744073709551616 := by
  intro i hi
  have h : ∀ j : Fin 60, (Ieee.double.div (FloatKind.f64.nearest (j.val : Int)) 4616189618054758400).isSome = true := by decide +kernel
  have h1 := h ⟨i, hi⟩
  obtain ⟨r, hr⟩ := Option.isSome_iff_exists.1 h1
  exact ⟨r, hr, Ieee.Format.div_lt _ hr⟩
/-- A list that is being made. -/
def fown (x : El) : HP := own 32 8 x.v x.es.length (evC x.es)
theorem bsep_out {W w : World} {g : Hl} {H : List HP} {l1 l2 : List HP} {p : HP} (hs : Sat W w g (bsep (l1 ++ p :: l2) :: H)) : Sat W w g (p :: bsep (l1 ++ l2) :: H) := by
  have h1 := hs.bopen
  simp only [List.append_assoc, List.cons_append] at h1
  have h2 := h1.toFront
  rw [← List.append_assoc] at h2
  exact (Sat.bclose (l := l1 ++ l2) (h2.toBack)).swap
theorem bsep_in {W w : World} {g : Hl} {H : List HP} {l1 l2 : List HP} {p : HP} (hs : Sat W w g (p :: bsep (l1 ++ l2) :: H)) : Sat W w g (bsep (l1 ++ p :: l2) :: H) := by
  have h1 := hs.swap.bopen
  simp only [List.append_assoc] at h1
  apply Sat.bclose
  simp only [List.append_assoc, List.cons_append]
  refine h1.perm ?_
  refine List.Perm.append_left _ ?_
  exact List.perm_middle

theorem mkFine {g : Hl} {v len t kd : Nat} {kb : UInt8} {text : List UInt8} {num : Nat} {tv : Value} (hv : v < 3) (hl : len ≤ 60) (ht : 1 ≤ t ∧ t ≤ 300) (hk : 1 ≤ kd ∧ kd ≤ 4) (hx : text.length ≤ 1) (hn : num < 18446744073709551616) (hp : Pr 1 g tv text.length (bs text)) :
    Ev.fine ⟨(v : Nat), len + 1, t, kd, [kb], text, num, 0, tv⟩ g v t := ⟨⟨by simp only; omega, by simp only; omega, by simp only; omega, by simp only; omega, hn, by simp only; omega, by simp, by simp only; omega, hp⟩, rfl, hk, rfl, hx, rfl, ht.1, Nat.le_refl _⟩
set_option maxHeartbeats 3200000 in
set_option maxRecDepth 100000 in
theorem feeds_any {R : Ending → World → Prop} {W w : World} {g : Hl} {H : List HP} {a : Option Addr} {n c : Nat} {zs : List Nat} (hp : Pr 1 g (.slice a n c) n (hs16 zs)) (hn : zs.length = n) (hz : ∀ z ∈ zs, z < 65536) (hn2 : n ≤ 60) (hs : Sat W w g H)
    (hR : ∀ a' c' (outs : List El) w' g', Hl.le g g' → outs.length = 3 → (∀ w (h : w < outs.length), ∃ last, last ≤ 240 ∧ Feed g' w outs[w].es last ∧ outs[w].es.length ≤ 60) → (∀ x ∈ outs, x.ok g') → Pr 1 g' (.slice a' 3 c') 3 (outs.map El.v) → Sat W w' g' H → R (.returned (.slice a' 3 c')) w') :
    Calls Tryz.prog 6 #[.slice a n c, .int .i64 3] w R := by
  have HR := Lib.hid hR
  clear hR
  refine C.calls (args := [.slice a n c, .int .i64 3]) Tryz.func6 rfl rfl rfl ?_
  refine go ?_
  refine E.mk (k2 := 3) el_lists hs ?_
  intro a1 w1 hs
  refine go ?_
  refine E.mk (k2 := 3) el_u64s hs ?_
  intro a2 w2 hs
  obtain ⟨bl, ls0, rfl, hl0, _, _, hl1, hs⟩ := own_open (by decide) hs
  obtain ⟨bo, os0, rfl, ho0, _, _, ho1, hs⟩ := own_open (by decide) hs.swap
  have hls : ls0 = us [0, 0, 0] := by rw [← List.take_of_length_le (l := ls0) (Nat.le_of_eq hl0), hl1]; exact made1 (.int .u64 0) 3
  have hos : os0 = ([⟨none, 0, []⟩, ⟨none, 0, []⟩, ⟨none, 0, []⟩] : List El).map El.v := by rw [← List.take_of_length_le (l := os0) (Nat.le_of_eq ho0), ho1]; exact made1 (.slice none 0 0) 3
  subst hls hos
  have hs3 : Sat W w2 g (bsep (([⟨none, 0, []⟩, ⟨none, 0, []⟩, ⟨none, 0, []⟩] : List El).map fown) :: blk bo (([⟨none, 0, []⟩, ⟨none, 0, []⟩, ⟨none, 0, []⟩] : List El).map El.v) 24 :: blk bl (us [0, 0, 0]) 28 :: H) := Sat.bclose (l := ([⟨none, 0, []⟩, ⟨none, 0, []⟩, ⟨none, 0, []⟩] : List El).map fown) hs.nilOwn.nilOwn.nilOwn
  clear hs hl0 hl1 ho0 ho1
  have hs := hs3
  clear hs3
  refine gob ?_
  refine C.cut (fun _ : Unit => [(5, .slice (some ⟨bo, 0, none⟩) 3 3)]) (fun _ w => ∃ (outs : List El) (lasts : List Nat) (g' : Hl), outs.length = 3 ∧ lasts.length = 3 ∧ Hl.le g g' ∧ (∀ w (h : w < outs.length) (h' : w < lasts.length), Feed g' w outs[w].es lasts[w] ∧ lasts[w] ≤ 240 ∧ outs[w].es.length ≤ 60) ∧ Sat W w g' (bsep (outs.map fown) :: blk bo (outs.map El.v) 24 :: blk bl (us lasts) 28 :: H)) ?_ ?_
  · refine C.block ?_
    refine C.lp (fun i : Nat => [(0, .slice a n c), (1, .int .i64 3), (5, .slice (some ⟨bo, 0, none⟩) 3 3), (6, .slice (some ⟨bl, 0, none⟩) 3 3), (7, .int .i64 i)])
      (fun gk i w => gk = n - i ∧ i ≤ n ∧ ∃ (outs : List El) (lasts : List Nat) (g' : Hl), outs.length = 3 ∧ lasts.length = 3 ∧ Hl.le g g' ∧ (∀ w (h : w < outs.length) (h' : w < lasts.length), Feed g' w outs[w].es lasts[w] ∧ lasts[w] ≤ 4 * i ∧ outs[w].es.length ≤ i) ∧ Sat W w g' (bsep (outs.map fown) :: blk bo (outs.map El.v) 24 :: blk bl (us lasts) 28 :: H)) n 0
      ⟨rfl, Nat.zero_le _, [⟨none, 0, []⟩, ⟨none, 0, []⟩, ⟨none, 0, []⟩], [0, 0, 0], g, rfl, rfl, Hl.le_refl _, ?_, hs⟩ ?_
    · intro w h h'
      have : w = 0 ∨ w = 1 ∨ w = 2 := by simp at h; omega
      rcases this with rfl | rfl | rfl <;> exact ⟨⟨by simp, by simp, by simp⟩, by simp, by simp⟩
    clear hs
    rintro gk i w3 ⟨rfl, hi, outs, lasts, g3, ho3, hl3, hg3, hF, hs⟩
    refine go ?_
    cases hd : decide ((i : Int) < n) with
    | false =>
      refine go ?_
      refine A.mt () ⟨outs, lasts, g3, ho3, hl3, hg3, fun w h h' => ?_, hs⟩
      obtain ⟨f1, f2, f3⟩ := hF w h h'
      exact ⟨f1, by omega, by omega⟩
    | true =>
    have hd := of_decide_eq_true hd
    refine go ?_
    rw [show decide ((i : Int) < 60) = true from decide_eq_true (by omega)]
    refine go ?_
    have hil : i < zs.length := by omega
    have hz1 := hz zs[i] (List.getElem_mem hil)
    obtain ⟨lb, lo, ha⟩ := pr_some hp (by omega)
    subst ha
    have hp3 := hp.mono hg3
    have hzc : (hs16 zs)[i]? = some (.int .u16 (zs[i] : Nat)) := by simp [hs16, hil]
    have hcell : w3.cell? ⟨lb, lo + i, none⟩ = some (.int .u16 (zs[i] : Nat)) := ((hp3.row hs).cellAt rfl hzc).2
    generalize hzz : zs[i] = z at hz1 hzc hcell
    clear hzz
    refine go ?_
    have ew : (z : Int).tmod 3 = ((z % 3 : Nat) : Int) := (Int.ofNat_tmod z 3).symm
    have hw3 : z % 3 < 3 := Nat.mod_lt _ (by decide)
    rw [ew]
    generalize hwz : z % 3 = v at hw3
    clear hwz ew
    have hvo : v < outs.length := by omega
    have hvl : v < lasts.length := by omega
    obtain ⟨f1, f2, f3⟩ := hF v hvo hvl
    have hv3 : (v : Int) < 3 := by omega
    have hlv : (us lasts)[v]? = some (.int .u64 (lasts[v] : Nat)) := us_get hvl
    refine C.held0 hs ?_
    intro w4 hk hs
    have rl : Rd (Keeps g3 []) lb (lo + i) (.int .u16 (z : Nat)) := Rd.pool hp3 hzc
    refine goh ?_
    refine EH.ld hs ?_ (hf := .there (.there .here)) (hj := hlv)
    refine kept0 hs (fun hk => ?_)
    refine goh ?_
    have htb : lasts[v] + (1 + z / 16 % 4) ≤ 4 * (i + 1) := by omega
    have htl : lasts[v] < lasts[v] + (1 + z / 16 % 4) := by omega
    generalize htt : lasts[v] + (1 + z / 16 % 4) = t at htb htl
    have hus : spl (us lasts) v [.int .u64 (t : Nat)] = us (lasts.set v t) := by simp [spl, us]
    refine EH.sto hs ?_ (hf := .there (.there .here)) (hsp := hus) (hu := .there (.there .here)) (hj := Nat.ble_eq ▸ (by simp only [List.length_cons, List.length_nil, us_length]; omega))
    intro w5 hs
    refine kept0 hs (fun hk => ?_)
    refine EH.done ?_
    refine go ?_
    have hlt2 : (us (lasts.set v t))[v]? = some (.int .u64 (t : Nat)) := by simp [us, hvl]
    have hov : (outs.map El.v)[v]? = some (.slice outs[v].a outs[v].es.length outs[v].c) := by rw [List.getElem?_map, List.getElem?_eq_getElem hvo]; rfl
    refine C.cut (fun x : Nat => [(0, .slice (some ⟨lb, lo, none⟩) n c), (1, .int .i64 3), (5, .slice (some ⟨bo, 0, none⟩) 3 3), (6, .slice (some ⟨bl, 0, none⟩) 3 3), (7, .int .i64 i), (8, .int .i64 v), (9, .pointer (some ⟨x, 0, none⟩))])
      (fun b9 w => Sat W w g3 (blk b9 [.int .i64 v, .int .u64 (outs[v].es.length + 1 : Nat), .int .u64 (t : Nat), .int .u8 (1 + z / 64 % 256 % 4 : Nat), .string ⟨[UInt8.ofNat (97 + z / 256 % 4)].toArray⟩, .slice none 0 0, .float .f64 0, .int .i64 0] 32 :: bsep (outs.map fown) :: blk bo (outs.map El.v) 24 :: blk bl (us (lasts.set v t)) 28 :: H)) ?_ ?_
    · refine C.held2 bo bl hs ?_
      intro w6 hk hs
      have rl2 : Rd (Keeps g3 [(bo, outs.map El.v, 24), (bl, us (lasts.set v t), 28)]) lb (lo + i) (.int .u16 (z : Nat)) := Rd.pool hp3 hzc
      have rO : Rd (Keeps g3 [(bo, outs.map El.v, 24), (bl, us (lasts.set v t), 28)]) bo v (.slice outs[v].a outs[v].es.length outs[v].c) := Rd.blk .here hov
      have rL : Rd (Keeps g3 [(bo, outs.map El.v, 24), (bl, us (lasts.set v t), 28)]) bl v (.int .u64 (t : Nat)) := Rd.blk (.there .here) hlt2
      refine goh ?_
      have eb : bs [UInt8.ofNat (97 + z / 256 % 4)] = [.int .u8 (97 + z / 256 % 4 : Nat)] := by
        have : (97 + z / 256 % 4) % 256 = 97 + z / 256 % 4 := by omega
        simp only [bs, List.map_cons, List.map_nil, UInt8.toNat_ofNat']
        rw [show 2 ^ 8 = 256 by rfl, this]
      refine EH.ba hs ?_ ?_
      · intro b7 w7 hs
        refine kept2 hs (fun hk => ?_)
        refine EH.ora hs (St.string rfl Tryz.underlying29 Tryz.underlying5 Tryz.underlying9 ((by rw [eb]; exact hs.rowOf (size := 1) 1 rfl (by decide) : Row 1 _ (fun _ => True) _ 1 (bs [UInt8.ofNat (97 + z / 256 % 4)]))) ?_) ?_
        · refine kept2 hs (fun hk => ?_)
          refine goh ?_
          refine EH.al hs ?_
          intro b9 w9 hs
          refine kept2 hs (fun hk => ?_)
          refine goh ?_
          refine EH.sto hs ?_
          intro w10 hs
          refine kept2 hs (fun hk => ?_)
          refine EH.done ?_
          exact A.mt b9 (by have := hs.swap.drop; simpa using this)
        · intro b9 w9 hs
          refine kept2 hs (fun hk => ?_)
          refine EH.one (St.string rfl Tryz.underlying29 Tryz.underlying5 Tryz.underlying9 ((by rw [eb]; exact hs.swap.rowOf (size := 1) 1 rfl (by decide) : Row 1 _ (fun _ => True) _ 1 (bs [UInt8.ofNat (97 + z / 256 % 4)]))) ?_)
          refine kept2 hs (fun hk => ?_)
          refine goh ?_
          refine EH.sto hs ?_
          intro w10 hs
          refine kept2 hs (fun hk => ?_)
          refine EH.done ?_
          exact A.mt b9 (by have := hs.swap.drop; simpa using this)
      · intro b9 w9 hs
        refine kept2 hs (fun hk => ?_)
        refine EH.bsl hs ?_
        intro b7 w7 hs
        refine kept2 hs (fun hk => ?_)
        refine EH.one (St.string rfl Tryz.underlying29 Tryz.underlying5 Tryz.underlying9 ((by rw [eb]; exact hs.rowOf (size := 1) 1 rfl (by decide) : Row 1 _ (fun _ => True) _ 1 (bs [UInt8.ofNat (97 + z / 256 % 4)]))) ?_)
        refine kept2 hs (fun hk => ?_)
        refine goh ?_
        refine EH.sto hs ?_
        intro w10 hs
        refine kept2 hs (fun hk => ?_)
        refine EH.done ?_
        exact A.mt b9 (by have := hs.drop; simpa using this)
    clear hs
    rintro b9 w11 hs
    have hkd : 1 ≤ 1 + z / 64 % 256 % 4 ∧ 1 + z / 64 % 256 % 4 ≤ 4 := by omega
    generalize 1 + z / 64 % 256 % 4 = kd at hkd hs
    obtain ⟨qr, hqr, hqr2⟩ := quarter i (by omega)
    have hi60 : i < 60 := by omega
    have hk100 : (97 + z / 256 % 4) < 256 := by omega
    apply later (f := fun _ : Ev × Hl => [(0, .slice (some ⟨lb, lo, none⟩) n c), (1, .int .i64 3), (5, .slice (some ⟨bo, 0, none⟩) 3 3), (6, .slice (some ⟨bl, 0, none⟩) 3 3), (7, .int .i64 i), (8, .int .i64 v), (9, .pointer (some ⟨b9, 0, none⟩))])
      (M := fun x w => Hl.le g3 x.2 ∧ x.1.fine x.2 v t ∧ x.1.sq = outs[v].es.length + 1 ∧ x.1.tm = t ∧ Sat W w x.2 (blk b9 x.1.cs 32 :: bsep (outs.map fown) :: blk bo (outs.map El.v) 24 :: blk bl (us (lasts.set v t)) 28 :: H))
    · intro key
      have hF1 : ∀ {kd' : Nat} {text : List UInt8} {num : Nat} {tv : Value} {g' : Hl}, 1 ≤ kd' ∧ kd' ≤ 4 → text.length ≤ 1 → num < 18446744073709551616 → Pr 1 g' tv text.length (bs text) → Ev.fine ⟨(v : Nat), outs[v].es.length + 1, t, kd', [UInt8.ofNat (97 + z / 256 % 4)], text, num, 0, tv⟩ g' v t :=
        fun h1 h2 h3 h4 => mkFine hw3 (by omega) (by omega) h1 h2 h3 h4
      have hcases : kd = 1 ∨ kd = 2 ∨ kd = 3 ∨ kd = 4 := by omega
      rcases hcases with rfl | rfl | rfl | rfl
      · refine go ?_
        refine E.bsl hs ?_
        intro b12 w12 hs
        refine go ?_
        refine E.sto hs ?_
        intro w13 hs
        have hbs : [.int .u8 (i : Nat)] = bs [UInt8.ofNat i] := by
          have : i % 256 = i := by omega
          simp [bs, this]
        obtain ⟨g14, hg14, hp14, hs⟩ := (hs.blkOwn (size := 1) 1 rfl (by decide)).publishOwn
        rw [hbs] at hp14
        refine go ?_
        exact C.forget wk_ (key (_, g14) _ ⟨hg14, hF1 (kd' := 1) (text := [UInt8.ofNat i]) (num := 0) (by decide) (by simp) (by decide) hp14, rfl, rfl, hs⟩)
      · refine go ?_
        refine E.fdiv hqr ?_
        refine go ?_
        refine E.sto hs ?_
        intro w13 hs
        refine go ?_
        exact C.forget wk_ (key (_, g3) _ ⟨Hl.le_refl _, hF1 (kd' := 2) (text := []) (num := qr) (by decide) (by simp) hqr2 Pr.nil, rfl, rfl, hs⟩)
      · refine go ?_
        refine E.fdiv hqr ?_
        refine go ?_
        refine E.sto hs ?_
        intro w13 hs
        refine go ?_
        exact C.forget wk_ (key (_, g3) _ ⟨Hl.le_refl _, hF1 (kd' := 3) (text := []) (num := qr) (by decide) (by simp) hqr2 Pr.nil, rfl, rfl, hs⟩)
      · refine go ?_
        exact C.forget wk_ (key (_, g3) _ ⟨Hl.le_refl _, hF1 (kd' := 4) (text := []) (num := 0) (by decide) (by simp) (by decide) Pr.nil, rfl, rfl, hs⟩)
    clear hs
    rintro ⟨e, g15⟩ w15 ⟨hg15, hfe, hsq, htm, hs⟩
    simp only at hg15 hfe hsq htm hs
    have hov9 : outs[v].es.length ≤ 60 := by omega
    have hsplit : outs.map fown = (outs.take v).map fown ++ fown outs[v] :: (outs.drop (v + 1)).map fown := by
      rw [← List.map_cons, ← List.map_append, ← List.drop_eq_getElem_cons hvo, List.take_append_drop]
    have ag1 := ag_ev
    have hspl : ∀ a17 c17, spl (outs.map El.v) v [.slice a17 (outs[v].es.length + 1) c17] = (outs.set v ⟨a17, c17, outs[v].es ++ [e]⟩).map El.v := fun a17 c17 => by
      simp [spl, List.map_set, El.v]
    have bj : ∀ a17 c17, Nat.ble (v + [Value.slice a17 (outs[v].es.length + 1) c17].length) (outs.map El.v).length = true := fun a17 c17 => by rw [Nat.ble_eq]; simp only [List.length_cons, List.length_nil, List.length_map]; omega
    apply laterA (α := (Option Addr × Nat)) (f := fun x => [(0, .slice (some ⟨lb, lo, none⟩) n c), (1, .int .i64 3), (5, .slice (some ⟨bo, 0, none⟩) 3 3), (6, .slice (some ⟨bl, 0, none⟩) 3 3), (7, .int .i64 i)])
      (M := fun x w => Sat W w g15 (own 32 8 (.slice x.1 (outs[v].es.length + 1) x.2) (outs[v].es.length + 1) (evC outs[v].es ++ e.cs) :: bsep ((outs.take v).map fown ++ (outs.drop (v + 1)).map fown) :: blk bo ((outs.set v ⟨x.1, x.2, outs[v].es ++ [e]⟩).map El.v) 24 :: blk bl (us (lasts.set v t)) 28 :: H))
    · intro key
      refine C.held1 b9 hs ?_
      intro w16 hk hs
      refine goh ?_
      refine EH.lbe el_ev hs (cs := e.cs) rfl hov ?_ ?_
      · refine kept1 hs (fun hk => ?_)
        refine EH.bsle el_ev hs (cs := e.cs) rfl ?_
        intro b17 w17 hs
        refine kept1 hs (fun hk => ?_)
        refine EH.app el_ev (bsep_out (l1 := (outs.take v).map fown) (l2 := (outs.drop (v + 1)).map fown) (p := fown outs[v]) (by rw [← hsplit]; exact hs.pull2)) (hs.rowOf (size := 8) 1 rfl (by decide)) ?_ (h1 := fun u hu => List.all_eq_true.1 (Ev.cs_one hfe.ok) u hu)
        intro a17 c17 w17 _ _ hs
        refine kept1 hs (fun hk => ?_)
        refine goh ?_
        refine EH.sto (vs := [.slice a17 (outs[v].es.length + 1) c17]) (ys := (outs.set v ⟨a17, c17, outs[v].es ++ [e]⟩).map El.v) hs ?_ (hv := rfl) (hf := .there (.there (.there (.there .here)))) (hu := .there (.there (.there (.there .here)))) (hsp := hspl a17 c17) (hj := bj a17 c17)
        intro w18 hs
        refine kept1 hs (fun hk => ?_)
        refine EH.done ?_
        refine A.forget wk_ (key (a17, c17) _ ?_)
        exact hs.pull2.drop.pull2.drop
      · intro b17 w17 hs
        refine kept1 hs (fun hk => ?_)
        refine EH.ld hs ?_ (hf := .there (.there (.there .here))) (hj := hov)
        refine kept1 hs (fun hk => ?_)
        refine EH.app el_ev (bsep_out (l1 := (outs.take v).map fown) (l2 := (outs.drop (v + 1)).map fown) (p := fown outs[v]) (by rw [← hsplit]; exact hs.pull2)) (hs.rowOf (size := 8) 1 rfl (by decide)) ?_ (h1 := fun u hu => List.all_eq_true.1 (Ev.cs_one hfe.ok) u hu)
        intro a17 c17 w17 _ _ hs
        refine kept1 hs (fun hk => ?_)
        refine goh ?_
        refine EH.sto (vs := [.slice a17 (outs[v].es.length + 1) c17]) (ys := (outs.set v ⟨a17, c17, outs[v].es ++ [e]⟩).map El.v) hs ?_ (hv := rfl) (hf := .there (.there (.there (.there .here)))) (hu := .there (.there (.there (.there .here)))) (hsp := hspl a17 c17) (hj := bj a17 c17)
        intro w18 hs
        refine kept1 hs (fun hk => ?_)
        refine EH.done ?_
        refine A.forget wk_ (key (a17, c17) _ ?_)
        exact hs.pull2.drop.pull2.drop
    clear hs
    rintro ⟨a17, c17⟩ w19 hs
    simp only at hs ⊢
    refine go ?_
    refine A.rd (n - (i + 1)) (i + 1) ⟨rfl, by omega, outs.set v ⟨a17, c17, outs[v].es ++ [e]⟩, lasts.set v t, g15, by simpa using ho3, by simpa using hl3, hg3.trans hg15, fun u h h' => ?_, ?_⟩
    · simp only [List.length_set] at h h'
      obtain ⟨q1, q2, q3⟩ := hF u h h'
      rcases Nat.decEq v u with hne | rfl
      · rw [List.getElem_set_ne hne, List.getElem_set_ne hne]
        exact ⟨q1.mono hg15, by omega, by omega⟩
      · rw [List.getElem_set_self, List.getElem_set_self]
        refine ⟨q1.add hg15 (by omega) hfe (by omega) hsq, by omega, by simp; omega⟩
    · have e1 : (outs.set v ⟨a17, c17, outs[v].es ++ [e]⟩).map fown = (outs.take v).map fown ++ fown ⟨a17, c17, outs[v].es ++ [e]⟩ :: (outs.drop (v + 1)).map fown := by
        rw [List.set_eq_take_append_cons_drop, if_pos hvo, List.map_append, List.map_cons]
      rw [e1]
      refine bsep_in ?_
      have e2 : fown ⟨a17, c17, outs[v].es ++ [e]⟩ = own 32 8 (.slice a17 (outs[v].es.length + 1) c17) (outs[v].es.length + 1) (evC outs[v].es ++ e.cs) := by
        simp only [fown, El.v, List.length_append, List.length_cons, List.length_nil, evC_append]
        simp [evC]
      rw [e2]
      exact hs
  · clear hs
    rintro _ w20 ⟨outs, lasts, g4, ho3, hl3, hg4, hF, hs⟩
    match outs, lasts, ho3, hl3 with
    | [x0, x1, x2], [l0, l1, l2], _, _ =>
    have hs := Sat.bopen hs
    simp only [List.map_cons, List.map_nil, List.cons_append, List.nil_append] at hs
    obtain ⟨g5, hg5, hp5, hs⟩ := hs.publishOwn
    obtain ⟨g6, hg6, hp6, hs⟩ := hs.publishOwn
    obtain ⟨g7, hg7, hp7, hs⟩ := hs.publishOwn
    obtain ⟨g8, hg8, hp8, hs⟩ := (hs.blkOwn (size := 1) 3 rfl (by decide)).publishOwn
    refine go ?_
    refine A.r1 ?_
    have hg48 := ((hg5.trans hg6).trans hg7).trans hg8
    refine HR.out _ _ [x0, x1, x2] _ g8 (hg4.trans hg48) rfl (fun u h => ?_) (fun x hx => ?_) hp8 hs.drop
    · have h' : u < [l0, l1, l2].length := by simpa using h
      obtain ⟨q1, q2, q3⟩ := hF u h h'
      exact ⟨_, q2, q1.mono hg48, q3⟩
    · have f0 := (hF 0 (by simp) (by simp)).1.mono hg48
      have f1 := (hF 1 (by simp) (by simp)).1.mono hg48
      have f2 := (hF 2 (by simp) (by simp)).1.mono hg48
      have low : ∀ {w l : Nat} {es : List Ev}, w < 3 → Feed g8 w es l → ∀ e ∈ es, e.ok g8 ∧ e.low := fun hw hf e he => by
        have := hf.evs e he
        exact ⟨this.ok, by unfold Ev.low; rw [this.wr]; omega⟩
      simp only [List.mem_cons, List.not_mem_nil, or_false] at hx
      rcases hx with rfl | rfl | rfl
      · exact ⟨((hp5.mono hg6).mono hg7).mono hg8, low (by decide) f0⟩
      · exact ⟨(hp6.mono hg7).mono hg8, low (by decide) f1⟩
      · exact ⟨hp7.mono hg8, low (by decide) f2⟩
end Go.Proofs.YtkolnecahlkndaaGreat

/-
  Layer 15 (view), plain: events of three writers follow one another.
-/
namespace Go.Proofs.YtkolnecahlkndaaGreat
open Go.RowKit
set_option linter.unusedVariables false
set_option linter.unusedSimpArgs false

/-- An event that may stand anywhere. -/
structure Ev.good (e : Ev) : Prop where
  right : e.right = 0
  wr : 0 ≤ e.wr ∧ e.wr < 3
  kd : 1 ≤ e.kd ∧ e.kd ≤ 4
  nd : e.nd = 0
  sq : 1 ≤ e.sq ∧ e.sq ≤ 60
  tm : 1 ≤ e.tm ∧ e.tm ≤ 240
  key : e.key.length ≤ 1
  text : e.text.length ≤ 1
  keyn : 1 ≤ e.key.length
theorem Ev.good.fit {e : Ev} (h : e.good) : e.fit := ⟨h.wr.1, h.kd.1, fun _ => by have := h.nd; omega⟩
theorem Ev.good.low {e : Ev} (h : e.good) : e.low := by have := h.wr; unfold Ev.low; omega

theorem fits_go : ∀ (S : List Ev) (f : Fo), (∀ e ∈ S, e.good) → Up1 S → (∀ e ∈ S, ¬ cmpS e.tm e.wr f.tm f.wr ≤ 0) → (∀ u : Int, ∀ q, ∀ h : q < (S.filter fun e => decide (e.wr = u)).length, ((S.filter fun e => decide (e.wr = u))[q]).sq = vget f.vec u + q + 1) → f.fits S
  | [], _, _, _, _, _ => trivial
  | e :: S, f, hg, hu, ho, hq => by
    have he := hg e (List.mem_cons_self ..)
    have h0 := hq e.wr 0 (by simp)
    have e0 : ((e :: S).filter fun x => decide (x.wr = e.wr)) = e :: S.filter fun x => decide (x.wr = e.wr) := by simp
    simp only [e0, List.getElem_cons_zero] at h0
    refine ⟨?_, fits_go S (f.add e) (fun x hx => hg x (List.mem_cons_of_mem _ hx)) (List.pairwise_cons.1 hu).2 (fun x hx => ?_) (fun u q h => ?_)⟩
    · have h1 := he.right
      have h2 := ho e (List.mem_cons_self ..)
      have h3 : e.sq = (vget f.vec e.wr + 1) % 18446744073709551616 := by
        have := he.sq
        rw [Nat.mod_eq_of_lt (by omega)]
        omega
      unfold Fo.step
      rw [if_neg (fun h => h h1), if_neg h2, if_neg (fun h => h h3)]
    · have h1 := (List.pairwise_cons.1 hu).1 x hx
      have h2 := (ky_lt he.low (hg x (List.mem_cons_of_mem _ hx)).low).2 h1
      have e1 : (f.add e).tm = e.tm := rfl
      have e2 : (f.add e).wr = e.wr := rfl
      rw [e1, e2]
      rw [cmpS_lt] at h2
      rw [cmpS_le]
      omega
    · have e1 : (f.add e).vec = vwith f.vec e.wr e.sq := rfl
      have := he.wr
      rw [e1, vwith_get _ _ _ (by omega)]
      by_cases hue : u = e.wr
      · subst hue
        rw [if_pos rfl]
        have h1 := hq e.wr (q + 1) (by rw [e0]; simpa using h)
        simp only [e0, List.getElem_cons_succ] at h1
        omega
      · rw [if_neg hue]
        have e2 : ((e :: S).filter fun x => decide (x.wr = u)) = S.filter fun x => decide (x.wr = u) := by
          exact List.filter_cons_of_neg (by simpa using fun h : e.wr = u => hue h.symm)
        have h1 := hq u q (by rw [e2]; exact h)
        rw [← h1]
        simp only [e2]

/-- Three lists, as the reference makes them. -/
structure Three (g : Hl) (outs : List El) : Prop where
  len : outs.length = 3
  feed : ∀ w (h : w < outs.length), ∃ last, last ≤ 240 ∧ Feed g w outs[w].es last ∧ outs[w].es.length ≤ 60

theorem Three.get {g : Hl} {outs : List El} (h : Three g outs) : ∃ x y z, outs = [x, y, z] ∧ (∃ l, l ≤ 240 ∧ Feed g 0 x.es l ∧ x.es.length ≤ 60) ∧ (∃ l, l ≤ 240 ∧ Feed g 1 y.es l ∧ y.es.length ≤ 60) ∧ (∃ l, l ≤ 240 ∧ Feed g 2 z.es l ∧ z.es.length ≤ 60) := by
  obtain ⟨h1, h2⟩ := h
  match outs, h1 with
  | [x, y, z], _ => exact ⟨x, y, z, rfl, h2 0 (by simp), h2 1 (by simp), h2 2 (by simp)⟩

theorem Feed.good {g : Hl} {w l : Nat} {es : List Ev} (h : Feed g w es l) (hw : w < 3) (hl : l ≤ 240) (hn : es.length ≤ 60) : ∀ e ∈ es, e.good := by
  intro e he
  have hf := h.evs e he
  obtain ⟨q, hq, rfl⟩ := List.mem_iff_getElem.1 he
  have hs := h.sq q hq
  have h1 := hf.wr
  have h2 := hf.tm
  have h3 := hf.kd
  have h4 := hf.key
  have h5 := hf.text
  have h6 := hf.nd
  refine ⟨?_, by omega, h3, h6, by omega, by omega, by omega, by omega, by omega⟩
  unfold Ev.right
  rw [if_neg (by omega), if_neg (by omega), if_neg (by omega)]
theorem Feed.keys {g : Hl} {w l : Nat} {es : List Ev} (h : Feed g w es l) : Up1 es := by
  refine (List.Pairwise.imp_of_mem (fun {a b} ha hb hab => ?_) h.up)
  have h1 := (h.evs a ha).wr
  have h2 := (h.evs b hb).wr
  unfold Ev.ky
  rw [h1, h2]
  omega
theorem Feed.across {g g' : Hl} {w v l m : Nat} {es fs : List Ev} (h : Feed g w es l) (h' : Feed g' v fs m) (hw : w < 64) (hv : v < 64) (hne : w ≠ v) : ∀ a ∈ es, ∀ b ∈ fs, a.ky ≠ b.ky := by
  intro a ha b hb
  have h1 := (h.evs a ha).wr
  have h2 := (h'.evs b hb).wr
  unfold Ev.ky
  rw [h1, h2]
  omega
theorem Feed.all {g : Hl} {w l : Nat} {es : List Ev} (h : Feed g w es l) (u : Int) : (es.filter fun e => decide (e.wr = u)) = if (w : Int) = u then es else [] := by
  split
  · rename_i e
    exact List.filter_eq_self.2 fun x hx => by simp [(h.evs x hx).wr, e]
  · rename_i e
    exact List.filter_eq_nil_iff.2 fun x hx => by simp [(h.evs x hx).wr, e]

theorem Three.good {g : Hl} {outs : List El} (h : Three g outs) : ∀ e ∈ outs.flatMap El.es, e.good := by
  obtain ⟨x, y, z, rfl, ⟨_, h1, h2, h3⟩, ⟨_, h4, h5, h6⟩, ⟨_, h7, h8, h9⟩⟩ := h.get
  intro e he
  simp only [List.flatMap_cons, List.flatMap_nil, List.append_nil, List.mem_append] at he
  rcases he with he | he | he
  · exact h2.good (by decide) h1 h3 e he
  · exact h5.good (by decide) h4 h6 e he
  · exact h8.good (by decide) h7 h9 e he
theorem Three.few {g : Hl} {outs : List El} (h : Three g outs) : (outs.flatMap El.es).length ≤ 180 := by
  obtain ⟨x, y, z, rfl, ⟨_, h1, h2, h3⟩, ⟨_, h4, h5, h6⟩, ⟨_, h7, h8, h9⟩⟩ := h.get
  simp only [List.flatMap_cons, List.flatMap_nil, List.append_nil, List.length_append]
  omega
theorem Three.apart {g : Hl} {outs : List El} (h : Three g outs) : (outs.flatMap El.es).Pairwise fun a b => a.ky ≠ b.ky := by
  obtain ⟨x, y, z, rfl, ⟨_, h1, h2, h3⟩, ⟨_, h4, h5, h6⟩, ⟨_, h7, h8, h9⟩⟩ := h.get
  simp only [List.flatMap_cons, List.flatMap_nil, List.append_nil]
  have hx := h2.across h5 (by decide) (by decide) (by decide)
  have hy := h2.across h8 (by decide) (by decide) (by decide)
  have hz := h5.across h8 (by decide) (by decide) (by decide)
  refine List.pairwise_append.2 ⟨h2.keys.imp fun {a b} h => Nat.ne_of_lt h, List.pairwise_append.2 ⟨h5.keys.imp fun {a b} h => Nat.ne_of_lt h, h8.keys.imp fun {a b} h => Nat.ne_of_lt h, hz⟩, fun a ha b hb => ?_⟩
  rcases List.mem_append.1 hb with hb | hb
  · exact hx a ha b hb
  · exact hy a ha b hb
theorem Three.each {g : Hl} {outs : List El} (h : Three g outs) (u : Int) : Up1 ((outs.flatMap El.es).filter fun e => decide (e.wr = u)) ∧ ∀ q (hq : q < ((outs.flatMap El.es).filter fun e => decide (e.wr = u)).length), ((outs.flatMap El.es).filter fun e => decide (e.wr = u))[q].sq = q + 1 := by
  obtain ⟨x, y, z, rfl, ⟨_, h1, h2, h3⟩, ⟨_, h4, h5, h6⟩, ⟨_, h7, h8, h9⟩⟩ := h.get
  simp only [List.flatMap_cons, List.flatMap_nil, List.append_nil, List.filter_append, h2.all, h5.all, h8.all]
  by_cases e0 : ((0 : Nat) : Int) = u
  · subst e0
    simp only [if_true, if_neg (show ¬ ((1 : Nat) : Int) = ((0 : Nat) : Int) by decide), if_neg (show ¬ ((2 : Nat) : Int) = ((0 : Nat) : Int) by decide), List.append_nil]
    exact ⟨h2.keys, h2.sq⟩
  · by_cases e1 : ((1 : Nat) : Int) = u
    · subst e1
      simp only [if_true, if_neg (show ¬ ((0 : Nat) : Int) = ((1 : Nat) : Int) by decide), if_neg (show ¬ ((2 : Nat) : Int) = ((1 : Nat) : Int) by decide), List.append_nil, List.nil_append]
      exact ⟨h5.keys, h5.sq⟩
    · by_cases e2 : ((2 : Nat) : Int) = u
      · subst e2
        simp only [if_true, if_neg (show ¬ ((0 : Nat) : Int) = ((2 : Nat) : Int) by decide), if_neg (show ¬ ((1 : Nat) : Int) = ((2 : Nat) : Int) by decide), List.append_nil, List.nil_append]
        exact ⟨h8.keys, h8.sq⟩
      · simp only [if_neg e0, if_neg e1, if_neg e2, List.append_nil]
        exact ⟨List.Pairwise.nil, fun q hq => absurd hq (Nat.not_lt_zero _)⟩

/-- All of them in order. -/
structure Tale (T : List Ev) : Prop where
  good : ∀ e ∈ T, e.good
  up : Up1 T
  few : T.length ≤ 180
  fits : (foNew 3).fits T
theorem Three.tale {g : Hl} {outs : List El} {T : List Ev} (h : Three g outs) (hp : T.Perm (outs.flatMap El.es)) (hu : UpE T) : Tale T := by
  have hg : ∀ e ∈ T, e.good := fun e he => h.good e (hp.mem_iff.1 he)
  have ha : T.Pairwise fun a b => a.ky ≠ b.ky := (hp.pairwise_iff (fun {x y} hxy => Ne.symm hxy)).2 h.apart
  have hup : Up1 T := (List.Pairwise.and hu ha).imp fun {a b} h => by omega
  refine ⟨hg, hup, by rw [hp.length_eq]; exact h.few, ?_⟩
  refine fits_go T (foNew 3) hg hup (fun e he => ?_) (fun u q hq => ?_)
  · have h1 := (hg e he).tm
    have e1 : (foNew 3).tm = 0 := rfl
    rw [cmpS_le, e1]
    omega
  · obtain ⟨h1, h2⟩ := h.each u
    have hpf := hp.filter fun e => decide (e.wr = u)
    have heq : (T.filter fun e => decide (e.wr = u)) = (outs.flatMap El.es).filter fun e => decide (e.wr = u) :=
      hpf.eq_of_pairwise (le := fun a b : Ev => a.ky < b.ky) (fun a b ha hb h1 h2 => by omega) (hup.filter _) h1
    have e1 : vget (foNew 3).vec u = 0 := by unfold vget; simp [foNew]
    rw [e1]
    have h3 := h2 q (by rw [← heq]; exact hq)
    simp only [heq]
    omega

theorem Tale.fits_at {T : List Ev} (h : Tale T) (k : Nat) : (foNew 3).fits (T.take k) ∧ ((foNew 3).adds (T.take k)).fits (T.drop k) := by
  have h1 := h.fits
  rw [← List.take_append_drop k T, fits_append] at h1
  exact h1
theorem adds_tm {f : Fo} : ∀ (l : List Ev) (e : Ev), (f.adds (l ++ [e])).tm = e.tm ∧ (f.adds (l ++ [e])).wr = e.wr := by
  intro l e
  rw [adds_append]
  exact ⟨rfl, rfl⟩
theorem Tale.last {T : List Ev} {k : Nat} (hk : k ≤ T.length) : (k = 0 ∧ ((foNew 3).adds (T.take k)).tm = 0 ∧ ((foNew 3).adds (T.take k)).wr = 0) ∨ ∃ h : k - 1 < T.length, 0 < k ∧ ((foNew 3).adds (T.take k)).tm = T[k - 1].tm ∧ ((foNew 3).adds (T.take k)).wr = T[k - 1].wr := by
  rcases Nat.eq_zero_or_pos k with rfl | h
  · exact .inl ⟨rfl, rfl, rfl⟩
  · obtain ⟨m, rfl⟩ : ∃ m, k = m + 1 := ⟨k - 1, by omega⟩
    refine .inr ⟨by omega, h, ?_⟩
    simp only [Nat.add_sub_cancel]
    rw [List.take_succ_eq_append_getElem (by omega)]
    exact adds_tm _ _

/-- What is behind a place: in a list that rises those that are dropped are all ahead. -/
theorem drop_filter {t : Nat} {wr : Int} : ∀ {S : List Ev}, (∀ e ∈ S, e.low) → Up1 S → S.dropWhile (upto t wr) = S.filter fun e => decide (cmpS t wr e.tm e.wr < 0)
  | [], _, _ => rfl
  | e :: S, hl, hu => by
    have hs : ∀ x : Ev, upto t wr x = !decide (cmpS t wr x.tm x.wr < 0) := by
      intro x
      unfold upto
      rw [← decide_not]
      apply decide_eq_decide.2
      rw [cmpS_lt, cmpS_le]
      omega
    by_cases h : upto t wr e = true
    · have h2 : decide (cmpS t wr e.tm e.wr < 0) = false := by rw [hs] at h; simpa using h
      rw [List.dropWhile_cons_of_pos h, drop_filter (fun x hx => hl x (List.mem_cons_of_mem _ hx)) (List.pairwise_cons.1 hu).2, List.filter_cons_of_neg (by rw [h2]; simp)]
    · have h2 : decide (cmpS t wr e.tm e.wr < 0) = true := by rw [hs] at h; simpa using h
      rw [List.dropWhile_cons_of_neg h]
      refine (List.filter_eq_self.2 fun x hx => ?_).symm
      rcases List.mem_cons.1 hx with rfl | hx
      · exact h2
      · have h3 := (List.pairwise_cons.1 hu).1 x hx
        have h4 := (ky_lt (hl e (List.mem_cons_self ..)) (hl x (List.mem_cons_of_mem _ hx))).2 h3
        have h5 := of_decide_eq_true h2
        apply decide_eq_true
        rw [cmpS_lt] at h4 h5 ⊢
        omega
theorem Tale.drop {T : List Ev} (h : Tale T) (k : Nat) : Up1 (T.drop k) ∧ (T.drop k).length ≤ 180 ∧ ∀ e ∈ T.drop k, e.good := by
  refine ⟨h.up.sublist (List.drop_sublist k T), ?_, fun e he => h.good e ((List.drop_sublist k T).subset he)⟩
  have := h.few
  rw [List.length_drop]
  omega
end Go.Proofs.YtkolnecahlkndaaGreat

/-
  Layer 7 (vector): as bytes.
-/
namespace Go.Proofs.YtkolnecahlkndaaGreat
open Go.RowKit
set_option linter.unusedVariables false
set_option linter.unusedSimpArgs false

/-- A vector as bytes: how many, and they. -/
def vecB (v : List Nat) : List UInt8 := layN (vtrim v).length ++ (vtrim v).flatMap layN
theorem flat_ten : ∀ (l : List Nat), (∀ x ∈ l, x < 18446744073709551616) → (l.flatMap layN).length ≤ 10 * l.length
  | [], _ => by simp
  | x :: r, h => by
    have h1 := flat_ten r fun y hy => h y (List.mem_cons_of_mem _ hy)
    have h2 := layN_ten (h x (List.mem_cons_self ..))
    simp only [List.flatMap_cons, List.length_append, List.length_cons]
    omega
theorem vecB_len (v : List Nat) (h : v.length ≤ 64) (hlt : ∀ x ∈ v, x < 18446744073709551616) : (vecB v).length ≤ 700 := by
  have htl := vtrim_len v
  have h1 := flat_ten (vtrim v) fun x hx => hlt x (List.mem_of_mem_take hx)
  have h2 := layN_ten (n := (vtrim v).length) (by omega)
  simp only [vecB, List.length_append]
  omega

set_option maxHeartbeats 1600000 in
set_option maxRecDepth 100000 in
theorem vlay_any {R : Ending → World → Prop} {W w : World} {g : Hl} {H : List HP} {a : Option Addr} {n c k : Nat} {v : List Nat} {u : Value} {xs : List Value} (hs : Sat W w g (own 5 1 u k xs :: H)) (hp : Pr 1 g (.slice a n c) n (us v)) (hv : v.length = n) (hn : n ≤ 64) (hlt : ∀ x ∈ v, x < 18446744073709551616) (hk : k ≤ 100000000)
    (hR : ∀ a' c' w' g', Hl.le g g' → Sat W w' g' (own 5 1 (.slice a' (k + (vecB v).length) c') (k + (vecB v).length) (xs ++ bs (vecB v)) :: H) → R (.returned (.slice a' (k + (vecB v).length) c')) w') :
    Calls Tryz.prog 29 #[.slice a n c, u] w R := by
  simp only [vecB] at hR
  have HR := Lib.hid hR
  clear hR
  obtain ⟨a1, c1, rfl, hkc, hcm, _⟩ := hs.ownLen
  refine C.calls (args := [.slice a n c, .slice a1 k c1]) Tryz.func29 rfl rfl rfl ?_
  refine go ?_
  refine E.callf Tryz.func63 rfl ?_
  refine vtrim_any hs hp hv (by omega) ?_
  intro a2 c2 w2 g2 hg2 hp2 hs
  have htl := vtrim_len v
  have htlt : ∀ x ∈ vtrim v, x < 18446744073709551616 := fun x hx => hlt x (List.mem_of_mem_take hx)
  generalize vtrim v = t at hp2 hs HR htl htlt
  have hl1 := layN_ten (n := t.length) (by omega)
  refine go ?_
  refine E.callf Tryz.func30 rfl ?_
  refine lay_any hs (by omega) (by omega) ?_
  intro a3 c3 w3 hs
  refine gob ?_
  refine C.cut (fun x : Option Addr × Nat => [(1, .slice x.1 (k + (layN t.length ++ t.flatMap layN).length) x.2)])
    (fun x w => Sat W w g2 (own 5 1 (.slice x.1 (k + (layN t.length ++ t.flatMap layN).length) x.2) (k + (layN t.length ++ t.flatMap layN).length) (xs ++ bs (layN t.length ++ t.flatMap layN)) :: H)) ?_ ?_
  · refine C.block ?_
    refine C.lp (fun x : Nat × Option Addr × Nat => [(1, .slice x.2.1 (k + (layN t.length ++ (t.take x.1).flatMap layN).length) x.2.2), (14, .slice a2 t.length c2), (15, .int .i64 t.length), (16, .int .i64 x.1)])
      (fun gk x w => gk = t.length - x.1 ∧ x.1 ≤ t.length ∧ Sat W w g2 (own 5 1 (.slice x.2.1 (k + (layN t.length ++ (t.take x.1).flatMap layN).length) x.2.2) (k + (layN t.length ++ (t.take x.1).flatMap layN).length) (xs ++ bs (layN t.length ++ (t.take x.1).flatMap layN)) :: H)) t.length (0, a3, c3) ⟨rfl, Nat.zero_le _, ?_⟩ ?_ (hw := ?_)
    · simpa using hs
    · clear hs
      rintro gk ⟨i, a4, c4⟩ w4 ⟨hgk, hi, hs⟩
      simp only at hgk hi hs ⊢
      have hft := flat_ten (t.take i) fun x hx => htlt x (List.mem_of_mem_take hx)
      have hBl : (layN t.length ++ (t.take i).flatMap layN).length ≤ 700 := by
        rw [List.length_append]
        rw [List.length_take] at hft
        omega
      have hsucc : ∀ h : i < t.length, layN t.length ++ (t.take (i + 1)).flatMap layN = (layN t.length ++ (t.take i).flatMap layN) ++ layN t[i] := fun h => by
        rw [List.take_succ_eq_append_getElem h, List.flatMap_append, List.append_assoc]
        simp
      generalize hB : layN t.length ++ (t.take i).flatMap layN = B at hs hBl hsucc ⊢
      replace hB := Lib.hid hB
      refine go ?_
      refine C.cond_dec (p := (i : Int) < t.length) rfl (fun h => ?_) (fun h => ?_)
      · have hil : i < t.length := by omega
        have hsucc := Lib.hid (hsucc hil)
        refine go ?_
        refine E.ix el_vec hs hp2 i (us_get hil) ?_
        intro b5 o5 hc5
        refine go ?_
        refine E.callf Tryz.func30 rfl ?_
        refine lay_any hs (htlt _ (List.getElem_mem hil)) (by omega) ?_
        intro a6 c6 w6 hs
        refine go ?_
        have e1 : k + (B ++ layN t[i]).length = k + B.length + (layN t[i]).length := by rw [List.length_append]; omega
        refine A.rd (t.length - (i + 1)) (i + 1, a6, c6) ⟨rfl, by omega, ?_⟩ (hw := ?_)
        · simp only [hsucc.out, e1, bs_append]
          rw [← List.append_assoc]
          exact hs
        · simp only [hsucc.out, e1]
          exact wk_
      · obtain rfl : i = t.length := by omega
        have hB := hB.out
        rw [List.take_length] at hB
        subst hB
        refine go ?_
        exact A.mt (a4, c4) hs
    · simp only [List.take_zero, List.flatMap_nil, List.append_nil]
      exact wk_
  clear hs
  rintro ⟨a7, c7⟩ w7 hs
  simp only at hs ⊢
  refine go ?_
  refine A.r1 ?_
  exact HR.out a7 c7 w7 g2 hg2 hs
end Go.Proofs.YtkolnecahlkndaaGreat

/-
  Layer 11 (fold): the mark; a list of members as bytes.
-/
namespace Go.Proofs.YtkolnecahlkndaaGreat
open Go.RowKit
set_option linter.unusedVariables false
set_option linter.unusedSimpArgs false

set_option maxHeartbeats 1600000 in
set_option maxRecDepth 100000 in
theorem foldMark_any {R : Ending → World → Prop} {W w : World} {g : Hl} {H : List HP} {b : Nat} {f : Fo} (hs : Sat W w g (fold b f :: H))
    (hR : R (.returned (.int .u64 f.mark)) w) : Calls Tryz.prog 52 #[ptr b] w R := by
  have HR := Lib.hid hR
  clear hR
  obtain ⟨i, hi, hs⟩ := fold_open hs
  have h1 := hi.ok.mem
  have h2 := hi.ok.ret
  simp only [foB] at hs
  refine C.calls (args := [.pointer (some ⟨b, 0, none⟩)]) Tryz.func52 rfl rfl rfl ?_
  refine go ?_
  refine E.ld hs ?_ (hj := foC_132 h1 h2)
  refine go ?_
  refine A.r1 ?_
  exact HR.out

/-- Which of the first are there, as a number's bits. -/
def maskN (l : List Bool) : Nat → Nat
  | 0 => 0
  | i + 1 => if l.getD i false = true then maskN l i ||| 2 ^ i else maskN l i
theorem maskN_lt (l : List Bool) : ∀ i, maskN l i < 2 ^ i
  | 0 => by simp [maskN]
  | i + 1 => by
    have := maskN_lt l i
    have h2 : 2 ^ i < 2 ^ (i + 1) := Nat.pow_lt_pow_right (by decide) (by omega)
    simp only [maskN]
    split
    · exact Nat.or_lt_two_pow (by omega) h2
    · omega

set_option maxHeartbeats 1600000 in
set_option maxRecDepth 100000 in
theorem list_any {R : Ending → World → Prop} {W w : World} {g : Hl} {H : List HP} {b o k : Nat} {l : List Bool} {cs xs : List Value} {u : Value} (hc : ∀ i, i < 64 → cs[o + i]? = some (.bool (l.getD i false))) (hk : k ≤ 100000000) (hs : Sat W w g (own 5 1 u k xs :: blk b cs 79 :: H))
    (hR : ∀ a' c' w', Sat W w' g (own 5 1 (.slice a' (k + 8) c') (k + 8) (xs ++ bs (fixB (maskN l 64))) :: blk b cs 79 :: H) → R (.returned (.slice a' (k + 8) c')) w') :
    Calls Tryz.prog 32 #[u, .pointer (some ⟨b, o, none⟩)] w R := by
  have HR := Lib.hid hR
  clear hR
  obtain ⟨a, c, rfl, hkc, hcm, _⟩ := hs.ownLen
  refine C.calls (args := [.slice a k c, .pointer (some ⟨b, o, none⟩)]) Tryz.func32 rfl rfl rfl ?_
  refine gob ?_
  refine C.cut (fun _ : Unit => [(0, .slice a k c), (5, .int .u64 (maskN l 64))]) (fun _ w => Sat W w g (own 5 1 (.slice a k c) k xs :: blk b cs 79 :: H)) ?_ ?_
  · refine C.block ?_
    refine C.lp (fun i : Nat => [(0, .slice a k c), (5, .int .u64 (maskN l i)), (8, .pointer (some ⟨b, o, none⟩)), (9, .int .i64 i)]) (fun gk i w => gk = 64 - i ∧ i ≤ 64 ∧ Sat W w g (own 5 1 (.slice a k c) k xs :: blk b cs 79 :: H)) 64 0 ⟨rfl, Nat.zero_le _, hs⟩ ?_
    clear hs
    rintro gk i w2 ⟨rfl, hi, hs⟩
    refine go ?_
    refine C.cond_dec (p := (i : Int) < 64) rfl (fun h => ?_) (fun h => ?_)
    · have hi64 : i < 64 := by omega
      have hci := hc i hi64
      refine go ?_
      refine C.held1 b hs ?_
      intro w3 hk hs
      have rd : Rd (Keeps g [(b, cs, 79)]) b (o + i) (.bool (l.getD i false)) := Rd.blk .here hci
      refine goh ?_
      refine EH.done ?_
      refine go ?_
      have hm := maskN_lt l i
      have hp2 : 2 ^ i < 18446744073709551616 := by
        have h1 : 2 ^ i < 2 ^ 64 := Nat.pow_lt_pow_right (by decide) hi64
        exact h1
      have hm2 : maskN l i < 18446744073709551616 := by omega
      cases hb : l.getD i false with
      | true =>
        refine go ?_
        rw [Nat.one_mul]
        refine A.rd (64 - (i + 1)) (i + 1) ⟨rfl, by omega, hs⟩ (hw := ?_)
        simp only [maskN, hb, if_true]
        exact wk_
      | false =>
        refine go ?_
        refine A.rd (64 - (i + 1)) (i + 1) ⟨rfl, by omega, hs⟩ (hw := ?_)
        simp only [maskN, hb, Bool.false_eq_true, if_false]
        exact wk_
    · obtain rfl : i = 64 := by omega
      refine go ?_
      exact A.mt () hs
  clear hs
  rintro _ w4 hs
  have hm := maskN_lt l 64
  refine go ?_
  refine E.callf Tryz.func31 rfl ?_
  refine fixed_any hs hm (by omega) ?_
  intro a5 c5 w5 hs
  refine go ?_
  refine A.r1 ?_
  exact HR.out a5 c5 w5 hs
end Go.Proofs.YtkolnecahlkndaaGreat

/-
  A map that a call owns, as the kit's maps read it; names, rising.
-/
namespace Go.Proofs.YtkolnecahlkndaaGreat
open Go.RowKit Go.Maps Go.Sort Go.WideElems Go.ChangeShapes Go.WideShapes Go.MapKept Go.ChangeMaps
set_option linter.unusedVariables false
set_option linter.unusedSimpArgs false

/-- A string's bytes. -/
def bytesOf : Value → List UInt8
  | .string s => s.data.toList
  | _ => []
theorem bytesOf_str (l : List UInt8) : bytesOf (str l) = l := by simp [bytesOf, str]

theorem mp_owns {P : Program} {k : TypeId} {W w : World} {g : Hl} {H : List HP} {mb : Nat} {l : List (List UInt8 × Value)} (hkt : P.underlying k = some .string) (hs : Sat W w g (mp str mb l :: H)) (hn : (l.map Prod.fst).Nodup) (hlen : l.length ≤ maxLen) (hk : ∀ p ∈ l, p.1.length ≤ maxLen) :
    ∃ D : DataW Unit, w.ownsMap P k (fun _ => some (.nil, [])) mb l.length D ∧ (strKeys D).Perm (l.map Prod.fst) ∧ Maps.size D = l.length := by
  obtain ⟨es, clock, he, ho⟩ := mp_open hs
  have hb := ho.heap
  have hes : es.size = l.length := by
    have := congrArg List.length he.1
    simpa using this
  have hkey : ∀ x ∈ es.toList, ∃ p ∈ l, x.key = str p.1 := by
    intro x hx
    have h1 : entOf x ∈ es.toList.map entOf := List.mem_map_of_mem hx
    rw [he.1] at h1
    obtain ⟨p, hp, e⟩ := List.mem_map.1 h1
    exact ⟨p, hp, by have := congrArg Prod.fst e; simpa [entOf] using this.symm⟩
  have hrd : ∀ x ∈ es.toList, WideElems.rd (H := Unit) P k (fun _ => some (.nil, [])) x = some (.string (bytesOf x.key), .nil) := by
    intro x hx
    obtain ⟨p, hp, e⟩ := hkey x hx
    have h1 := hk p hp
    simp [WideElems.rd, e, str, keyOf, hkt, mapKey, ByteArray.size, bytesOf, h1]
  have hkeys : es.toList.map (fun x => bytesOf x.key) = l.map Prod.fst := by
    have h1 := congrArg (List.map fun q : Value × Value => bytesOf q.1) he.1
    rw [List.map_map, List.map_map] at h1
    have e1 : ((fun q : Value × Value => bytesOf q.1) ∘ entOf) = fun x : MapEntry => bytesOf x.key := rfl
    have e2 : ((fun q : Value × Value => bytesOf q.1) ∘ fun p : List UInt8 × Value => (str p.1, p.2)) = Prod.fst := by
      funext p
      exact bytesOf_str p.1
    rw [e1, e2] at h1
    exact h1
  have hst : Stamped es clock := by
    refine ⟨he.2.1, he.2.2, ?_⟩
    have h2 : ((es.toList.map (·.key)).map bytesOf).Nodup := by
      rw [List.map_map]
      have : (bytesOf ∘ fun x : MapEntry => x.key) = fun x => bytesOf x.key := rfl
      rw [this, hkeys]
      exact hn
    exact List.Pairwise.of_map bytesOf (fun a b hab e => hab (by rw [e])) h2
  refine ⟨_, ⟨es, clock, hb, ⟨by omega, hst, fun x hx => ⟨_, hrd x hx⟩⟩, by omega, rfl⟩, ?_, ?_⟩
  · have h3 := sorted_perm (es.toList.map (WideElems.rg (H := Unit) P k (fun _ => some (.nil, []))))
    have h4 := h3.map (fun p => strOf p.1)
    have h5 : (es.toList.map (WideElems.rg (H := Unit) P k (fun _ => some (.nil, [])))).map (fun p => strOf p.1) = l.map Prod.fst := by
      rw [List.map_map, ← hkeys]
      apply List.map_congr_left
      intro x hx
      simp [WideElems.rg, hrd x hx, strOf]
    rw [h5] at h4
    exact h4
  · have h3 := (sorted_perm (es.toList.map (WideElems.rg (H := Unit) P k (fun _ => some (.nil, []))))).length_eq
    simp only [Maps.size, h3, List.length_map, Array.length_toList, hes]
/-- Names, rising. -/
def rising (l : List (List UInt8)) : List (List UInt8) := l.mergeSort fun x y => decide (x ≤ y)
theorem rising_perm (l : List (List UInt8)) : (rising l).Perm l := List.mergeSort_perm _ _
end Go.Proofs.YtkolnecahlkndaaGreat

/-
  The kit's contracts on slices.Sorted(maps.Keys(m)), laid by lay.py at this seat (numbers are the seat's).
-/
namespace Go.Proofs.YtkolnecahlkndaaGreat
open Go.RowKit Go.Maps Go.Sort Go.Shelf

-- maps.Keys[map[string]anabranch/api.Cell,string,anabranch/api.Cell] (function 65; its iterator 88) · slices.Sorted[string] (64) · slices.Sort[[]string,string] (87) · the map's type 76, the keys' 9
def Tryz.keys65_ren : Go.Shelf.Ren := ⟨fun | 7 => 65 | 10 => 88 | n => n, fun | 23 => 76 | 26 => 9 | 3 => 68 | 28 => 105 | 0 => 0 | 27 => 104 | 33 => 126 | 4 => 4 | n => n, fun | n => n⟩
theorem Tryz.keys65 : Go.Proofs.SlLaysZ.n7 Tryz.prog Tryz.keys65_ren := {
  mixed := by kernel_rfl
  f7 := ⟨"maps.Keys[map[string]anabranch/api.Cell,string,anabranch/api.Cell]", by decide, Tryz.func65.trans (congrArg some (by kernel_rfl))⟩
  f10 := ⟨"maps.Keys[map[string]anabranch/api.Cell,string,anabranch/api.Cell]$1", by decide, Tryz.func88.trans (congrArg some (by kernel_rfl))⟩
  t0 := Tryz.underlying0
  a0 := Tryz.isAgg0
  z0 := Tryz.sizeOf0
  v0 := Tryz.zeroValue0
  t4 := Tryz.underlying4
  a4 := Tryz.isAgg4
  z4 := Tryz.sizeOf4
  v4 := Tryz.zeroValue4
  t23 := Tryz.underlying76
  a23 := Tryz.isAgg76
  z23 := Tryz.sizeOf76
  v23 := Tryz.zeroValue76
  t26 := Tryz.underlying9
  a26 := Tryz.isAgg9
  z26 := Tryz.sizeOf9
  v26 := Tryz.zeroValue9
  t27 := Tryz.underlying104
  a27 := Tryz.isAgg104
  z27 := Tryz.sizeOf104
  v27 := Tryz.zeroValue104
  t28 := Tryz.underlying105
  a28 := Tryz.isAgg105
  z28 := Tryz.sizeOf105
  v28 := Tryz.zeroValue105
  t33 := Tryz.underlying126
  a33 := Tryz.isAgg126
  z33 := Tryz.sizeOf126
  v33 := Tryz.zeroValue126 }


def Tryz.sorted64_ren : Go.Shelf.Ren := ⟨fun | 6 => 64 | 8 => 86 | 9 => 87 | 11 => 96 | 13 => 98 | 12 => 97 | 23 => 110 | 24 => 111 | 14 => 101 | 15 => 102 | 16 => 103 | 17 => 104 | 18 => 105 | 19 => 106 | 20 => 107 | 21 => 108 | 22 => 109 | 25 => 112 | 26 => 113 | 27 => 114 | 28 => 115 | 29 => 116 | 30 => 117 | 31 => 118 | n => n, fun | 26 => 9 | 28 => 105 | 24 => 65 | 0 => 0 | 3 => 3 | 37 => 102 | 48 => 152 | 50 => 28 | 4 => 4 | 40 => 145 | 39 => 144 | 45 => 121 | 5 => 5 | 9 => 9 | 51 => 155 | 55 => 158 | 57 => 160 | 58 => 161 | 33 => 126 | n => n, fun | n => n⟩
theorem Tryz.sorted64 : Go.Proofs.SlLaysZ.n6 Tryz.prog Tryz.sorted64_ren := {
  mixed := by kernel_rfl
  f6 := ⟨"slices.Sorted[string]", by decide, Tryz.func64.trans (congrArg some (by kernel_rfl))⟩
  f8 := ⟨"slices.Collect[string]", by decide, Tryz.func86.trans (congrArg some (by kernel_rfl))⟩
  f11 := ⟨"slices.AppendSeq[[]string,string]", by decide, Tryz.func96.trans (congrArg some (by kernel_rfl))⟩
  t0 := Tryz.underlying0
  a0 := Tryz.isAgg0
  z0 := Tryz.sizeOf0
  v0 := Tryz.zeroValue0
  t24 := Tryz.underlying65
  a24 := Tryz.isAgg65
  z24 := Tryz.sizeOf65
  v24 := Tryz.zeroValue65
  t26 := Tryz.underlying9
  a26 := Tryz.isAgg9
  z26 := Tryz.sizeOf9
  v26 := Tryz.zeroValue9
  t28 := Tryz.underlying105
  a28 := Tryz.isAgg105
  z28 := Tryz.sizeOf105
  v28 := Tryz.zeroValue105
  i26 := by kernel_rfl }


def Tryz.sort87_ren : Go.Shelf.Ren := ⟨fun | 6 => 87 | 8 => 98 | 9 => 97 | 19 => 110 | 20 => 111 | 21 => 101 | 22 => 102 | 23 => 103 | 24 => 104 | 25 => 105 | 26 => 106 | 27 => 107 | 28 => 108 | 29 => 109 | 36 => 112 | 31 => 113 | 32 => 114 | 37 => 115 | 38 => 116 | 39 => 117 | 41 => 118 | n => n, fun | 27 => 65 | 29 => 9 | 3 => 3 | 32 => 102 | 26 => 65 | 0 => 0 | 44 => 152 | 46 => 28 | 4 => 4 | 36 => 145 | 35 => 144 | 41 => 121 | 5 => 5 | 9 => 9 | 53 => 155 | 57 => 158 | 63 => 160 | 64 => 161 | n => n, fun | n => n⟩
theorem Tryz.sort87 : Go.Proofs.SlLaysM.n6 Tryz.prog Tryz.sort87_ren := {
  mixed := by kernel_rfl
  f6 := ⟨"slices.Sort[[]string,string]", by decide, Tryz.func87.trans (congrArg some (by kernel_rfl))⟩
  f8 := Tryz.func98.trans (congrArg some (by kernel_rfl))
  f9 := ⟨"slices.pdqsortOrdered[string]", by decide, Tryz.func97.trans (congrArg some (by kernel_rfl))⟩
  f19 := Tryz.func110.trans (congrArg some (by kernel_rfl))
  f20 := Tryz.func111.trans (congrArg some (by kernel_rfl))
  f21 := ⟨"slices.insertionSortOrdered[string]", by decide, Tryz.func101.trans (congrArg some (by kernel_rfl))⟩
  f22 := ⟨"slices.heapSortOrdered[string]", by decide, Tryz.func102.trans (congrArg some (by kernel_rfl))⟩
  f23 := ⟨"slices.breakPatternsOrdered[string]", by decide, Tryz.func103.trans (congrArg some (by kernel_rfl))⟩
  f24 := ⟨"slices.choosePivotOrdered[string]", by decide, Tryz.func104.trans (congrArg some (by kernel_rfl))⟩
  f25 := ⟨"slices.reverseRangeOrdered[string]", by decide, Tryz.func105.trans (congrArg some (by kernel_rfl))⟩
  f26 := ⟨"slices.partialInsertionSortOrdered[string]", by decide, Tryz.func106.trans (congrArg some (by kernel_rfl))⟩
  f27 := ⟨"cmp.Less[string]", by decide, Tryz.func107.trans (congrArg some (by kernel_rfl))⟩
  f28 := ⟨"slices.partitionEqualOrdered[string]", by decide, Tryz.func108.trans (congrArg some (by kernel_rfl))⟩
  f29 := ⟨"slices.partitionOrdered[string]", by decide, Tryz.func109.trans (congrArg some (by kernel_rfl))⟩
  f31 := Tryz.func113.trans (congrArg some (by kernel_rfl))
  f32 := Tryz.func114.trans (congrArg some (by kernel_rfl))
  f36 := ⟨"slices.siftDownOrdered[string]", by decide, Tryz.func112.trans (congrArg some (by kernel_rfl))⟩
  f37 := ⟨"slices.medianAdjacentOrdered[string]", by decide, Tryz.func115.trans (congrArg some (by kernel_rfl))⟩
  f38 := ⟨"slices.medianOrdered[string]", by decide, Tryz.func116.trans (congrArg some (by kernel_rfl))⟩
  f39 := ⟨"cmp.isNaN[string]", by decide, Tryz.func117.trans (congrArg some (by kernel_rfl))⟩
  f41 := ⟨"slices.order2Ordered[string]", by decide, Tryz.func118.trans (congrArg some (by kernel_rfl))⟩
  t0 := Tryz.underlying0
  a0 := Tryz.isAgg0
  z0 := Tryz.sizeOf0
  v0 := Tryz.zeroValue0
  t3 := Tryz.underlying3
  a3 := Tryz.isAgg3
  z3 := Tryz.sizeOf3
  v3 := Tryz.zeroValue3
  t4 := Tryz.underlying4
  a4 := Tryz.isAgg4
  z4 := Tryz.sizeOf4
  v4 := Tryz.zeroValue4
  t5 := Tryz.underlying5
  a5 := Tryz.isAgg5
  z5 := Tryz.sizeOf5
  v5 := Tryz.zeroValue5
  t9 := Tryz.underlying9
  a9 := Tryz.isAgg9
  z9 := Tryz.sizeOf9
  v9 := Tryz.zeroValue9
  t26 := Tryz.underlying65
  a26 := Tryz.isAgg65
  z26 := Tryz.sizeOf65
  v26 := Tryz.zeroValue65
  t27 := Tryz.underlying65
  a27 := Tryz.isAgg65
  z27 := Tryz.sizeOf65
  v27 := Tryz.zeroValue65
  t29 := Tryz.underlying9
  a29 := Tryz.isAgg9
  z29 := Tryz.sizeOf9
  v29 := Tryz.zeroValue9
  t32 := Tryz.underlying102
  a32 := Tryz.isAgg102
  z32 := Tryz.sizeOf102
  v32 := Tryz.zeroValue102
  t35 := Tryz.underlying144
  a35 := Tryz.isAgg144
  z35 := Tryz.sizeOf144
  v35 := Tryz.zeroValue144
  t36 := Tryz.underlying145
  a36 := Tryz.isAgg145
  z36 := Tryz.sizeOf145
  v36 := Tryz.zeroValue145
  t41 := Tryz.underlying121
  a41 := Tryz.isAgg121
  z41 := Tryz.sizeOf121
  v41 := Tryz.zeroValue121
  t44 := Tryz.underlying152
  a44 := Tryz.isAgg152
  z44 := Tryz.sizeOf152
  v44 := Tryz.zeroValue152
  t46 := Tryz.underlying28
  a46 := Tryz.isAgg28
  z46 := Tryz.sizeOf28
  v46 := Tryz.zeroValue28
  t53 := Tryz.underlying155
  a53 := Tryz.isAgg155
  z53 := Tryz.sizeOf155
  v53 := Tryz.zeroValue155
  t57 := Tryz.underlying158
  a57 := Tryz.isAgg158
  z57 := Tryz.sizeOf158
  v57 := Tryz.zeroValue158
  t63 := Tryz.underlying160
  a63 := Tryz.isAgg160
  z63 := Tryz.sizeOf160
  v63 := Tryz.zeroValue160
  t64 := Tryz.underlying161
  a64 := Tryz.isAgg161
  z64 := Tryz.sizeOf161
  v64 := Tryz.zeroValue161 }


/-- slices.Sort's two contracts at this dump, at the fence that asks nothing. -/
theorem Tryz.sorts64 (m : Nat) : AnyZ.SortsIn Tryz.prog Tryz.sorted64_ren Fence.wide m :=
  ⟨fun blk off cap ss W hH hblk hsz => callsIn_wide.2 (AnyM.slices_Sort_string Tryz.sort87 blk off cap ss W hH hblk hsz),
   fun p cap W => callsIn_wide.2 (AnyM.slices_Sort_string_none Tryz.sort87 p cap W)⟩

/-- **maps.Keys[map[string]anabranch/api.Cell,string,anabranch/api.Cell], at whatever map, the nil one too:** a function value over ONE NEW BLOCK, which holds the map. -/
theorem Tryz.maps_Keys_65 (mb : Option Nat) (W : World) : CallsIn Fence.wide 5 Tryz.prog 65 #[.map mb] W fun e w' => e = .returned (.func (.func 88) #[] #[.pointer (some ⟨W.heap.size, 0, none⟩)]) ∧ w' = W.alloc (.cells #[.map mb] 76) :=
  AnyZ.keys_in Tryz.keys65 Fence.wide 5 trivial rfl mb W

set_option maxHeartbeats 1000000 in
/-- **slices.Sorted[string] AT WHAT maps.Keys[map[string]anabranch/api.Cell,string,anabranch/api.Cell] HANDED BACK FOR A MAP THAT IS NOT nil** ('w': the world AHEAD of maps.Keys' call): A NEW SLICE THAT HOLDS THE MAP's KEYS, SORTED; nil just where it has none; nothing that lay before has turned. -/
theorem Tryz.slices_Sorted_keys_64_65 {H : Type} (b nn : Nat) (D0 : DataW H) (R : Value → Option (DataW H × List MemPlace)) (w : World) (hown : w.ownsMap Tryz.prog 9 R b nn D0) (hmax : Maps.size D0 ≤ maxLen) (hbytes : Maps.size D0 * 16 ≤ 140737488355328) :
    CallsIn Fence.wide 5 Tryz.prog 64 #[.func (.func 88) #[] #[.pointer (some ⟨w.heap.size, 0, none⟩)]] (w.alloc (.cells #[.map (some b)] 76)) fun e w' => ∃ (v : Value) (ss : List (List UInt8)), e = .returned v ∧ ss.Perm (strKeys D0) ∧
      w'.ownsRow (w.alloc (.cells #[.map (some b)] 76)).heap.size 9 1 v ss.length ((ss.mergeSort (fun x y => decide (x ≤ y))).map encStr) ∧ (v = .slice none 0 0 ↔ ss = []) ∧ Below (w.alloc (.cells #[.map (some b)] 76)).heap.size (w.alloc (.cells #[.map (some b)] 76)) w' := by
  have hbl := hown.lt
  have hseq : SeqGives Fence.wide 2 Tryz.prog 88 #[.pointer (some ⟨w.heap.size, 0, none⟩)] encStr (fun ss => ss.Perm (strKeys D0)) (Maps.size D0) (w.alloc (.cells #[.map (some b)] 76)) :=
    AnyZ.keys_gives (ρ := Tryz.keys65_ren) { Tryz.keys65 with } Fence.wide _ trivial rfl (by omega) w.heap.size b nn D0 _ (by simp) (by simp) (by
      obtain ⟨es, clock, hb, Ft, hs, hD⟩ := hown
      exact ⟨es, clock, (Below.heap_alloc _ _ b hbl).trans hb, Ft, hs, hD⟩)
  exact AnyZ.sorted_in Tryz.sorted64 Fence.wide 5 trivial trivial trivial trivial rfl (by omega) (Tryz.sorts64 _) (enters_of Tryz.func87 (by kernel_rfl) rfl) 88 #[.pointer (some ⟨w.heap.size, 0, none⟩)] trivial (enters_of Tryz.func88 (by kernel_rfl) rfl) _ _ hmax hbytes _ hseq

set_option maxHeartbeats 1000000 in
/-- **.. AND FOR THE nil MAP: nil.** -/
theorem Tryz.slices_Sorted_keys_nil_64_65 (w : World) :
    CallsIn Fence.wide 5 Tryz.prog 64 #[.func (.func 88) #[] #[.pointer (some ⟨w.heap.size, 0, none⟩)]] (w.alloc (.cells #[.map none] 76)) fun e w' => ∃ (v : Value) (ss : List (List UInt8)), e = .returned v ∧ ss = [] ∧
      w'.ownsRow (w.alloc (.cells #[.map none] 76)).heap.size 9 1 v ss.length ((ss.mergeSort (fun x y => decide (x ≤ y))).map encStr) ∧ (v = .slice none 0 0 ↔ ss = []) ∧ Below (w.alloc (.cells #[.map none] 76)).heap.size (w.alloc (.cells #[.map none] 76)) w' := by
  have hseq : SeqGives Fence.wide 2 Tryz.prog 88 #[.pointer (some ⟨w.heap.size, 0, none⟩)] encStr (fun ss : List (List UInt8) => ss = []) 0 (w.alloc (.cells #[.map none] 76)) :=
    AnyZ.keys_gives_nil (ρ := Tryz.keys65_ren) { Tryz.keys65 with } Fence.wide _ trivial rfl w.heap.size _ (by simp) (by simp)
  exact AnyZ.sorted_in Tryz.sorted64 Fence.wide 5 trivial trivial trivial trivial rfl (by omega) (Tryz.sorts64 _) (enters_of Tryz.func87 (by kernel_rfl) rfl) 88 #[.pointer (some ⟨w.heap.size, 0, none⟩)] trivial (enters_of Tryz.func88 (by kernel_rfl) rfl) _ 0 (Nat.zero_le _) (by omega) _ hseq

end Go.Proofs.YtkolnecahlkndaaGreat

/-
  Layer 11 (fold): the keys, rising.
-/
namespace Go.Proofs.YtkolnecahlkndaaGreat
open Go.RowKit Go.Maps Go.Sort
set_option linter.unusedVariables false
set_option linter.unusedSimpArgs false

set_option maxRecDepth 100000 in
theorem fkeys_call {R : Ending → World → Prop} {w : World} {mb : Nat} (hR : R (.returned (.func (.func 88) #[] #[.pointer (some ⟨w.heap.size, 0, none⟩)])) (w.alloc (.cells #[.map (some mb)] 76))) :
    Calls Tryz.prog 65 #[.map (some mb)] w R := by
  refine (callsIn_wide.1 (Tryz.maps_Keys_65 (some mb) w)).mono ?_
  rintro e w' ⟨rfl, rfl⟩
  exact hR
set_option maxRecDepth 100000 in
theorem fsorted_call {R : Ending → World → Prop} {W w : World} {g : Hl} {H : List HP} {mb : Nat} {l : List (List UInt8 × Value)} (hs : Sat W w g (mp str mb l :: H)) (hn : (l.map Prod.fst).Nodup) (hlen : l.length ≤ 1000000000) (hk : ∀ p ∈ l, p.1.length ≤ maxLen)
    (hR : ∀ a c w' g', Hl.le g g' → Pr 1 g' (.slice a l.length c) l.length ((rising (l.map Prod.fst)).map str) → Sat W w' g' (mp str mb l :: H) → R (.returned (.slice a l.length c)) w') :
    Calls Tryz.prog 64 #[.func (.func 88) #[] #[.pointer (some ⟨w.heap.size, 0, none⟩)]] (w.alloc (.cells #[.map (some mb)] 76)) R := by
  obtain ⟨D, hown, hp, hsz⟩ := mp_owns (P := Tryz.prog) Tryz.underlying9 hs hn (by unfold maxLen; omega) hk
  refine (callsIn_wide.1 (Tryz.slices_Sorted_keys_64_65 mb l.length D _ w hown (by unfold maxLen; omega) (by omega))).mono ?_
  rintro e w' ⟨v, ss, rfl, hss, hrow, hnil, hb⟩
  have hpm := hss.trans hp
  have hsl : ss.length = l.length := by have := hpm.length_eq; simpa using this
  have hms : ss.mergeSort (fun x y => decide (x ≤ y)) = rising (l.map Prod.fst) := mergeSort_of_perm hpm
  rw [hms, hsl] at hrow
  have hs2 := (hs.garbage (.cells #[.map (some mb)] 76)).newOwn hrow hb
  obtain ⟨a, c, rfl, _⟩ := hs2.ownLen
  obtain ⟨g', hg', hpr, hs3⟩ := hs2.publishOwn
  exact hR a c w' g' hg' hpr hs3

/-- The keys of a fold, rising. -/
def Fo.keys (f : Fo) : List (List UInt8) := rising (f.cells.map Prod.fst)
theorem Fo.keys_length (f : Fo) : f.keys.length = f.cells.length := by
  have := (rising_perm (f.cells.map Prod.fst)).length_eq
  simpa [Fo.keys] using this

set_option maxHeartbeats 1600000 in
set_option maxRecDepth 100000 in
theorem foldKeys_any {R : Ending → World → Prop} {W w : World} {g : Hl} {H : List HP} {b : Nat} {i : Fi} {f : Fo} (hi : i.ok f g) (hl : f.cells.length ≤ 1000000000) (hs : Sat W w g (foB b i f :: cmap i.mb i.L :: H))
    (hR : ∀ a' c' w' g', Hl.le g g' → Pr 1 g' (.slice a' f.cells.length c') f.cells.length (f.keys.map str) → Sat W w' g' (foB b i f :: cmap i.mb i.L :: H) → R (.returned (.slice a' f.cells.length c')) w') : Calls Tryz.prog 33 #[ptr b] w R := by
  have HR := Lib.hid hR
  clear hR
  have h1 := hi.ok.mem
  have h2 := hi.ok.ret
  have e1 : ((i.L.map fun p => (p.1, ceV p.2.1 p.2.2)).map Prod.fst) = f.cells.map Prod.fst := by
    rw [← hi.plain]
    simp [Cs.plain]
  have e2 : (i.L.map fun p => (p.1, ceV p.2.1 p.2.2)).length = f.cells.length := by
    rw [← hi.plain]
    simp [Cs.plain]
  simp only [foB] at hs HR
  refine C.calls (args := [.pointer (some ⟨b, 0, none⟩)]) Tryz.func33 rfl rfl rfl ?_
  refine go ?_
  refine E.callf Tryz.func65 rfl ?_
  refine fkeys_call ?_
  refine go ?_
  refine E.callf Tryz.func64 rfl ?_
  refine fsorted_call (l := i.L.map fun p => (p.1, ceV p.2.1 p.2.2)) hs.swap (by rw [e1]; exact hi.ok.keys) (by rw [e2]; exact hl) (fun p hp => ?_) ?_
  · obtain ⟨q, hq, rfl⟩ := List.mem_map.1 hp
    have h3 : (q.1, q.2.1) ∈ f.cells := by rw [← hi.plain]; exact List.mem_map.2 ⟨q, hq, rfl⟩
    have := (hi.ok.cells _ h3).2
    simp only [maxLen] at this ⊢
    omega
  intro a3 c3 w3 g3 hg3 hp3 hs
  rw [e1, e2] at hp3
  rw [e2]
  refine go ?_
  refine A.r1 ?_
  exact HR.out a3 c3 w3 g3 hg3 hp3 hs.swap
end Go.Proofs.YtkolnecahlkndaaGreat

/-
  s[l:h] of a row of structs in a drawn region; a rest within a region that is walked once.
-/
namespace Go.Proofs.YtkolnecahlkndaaGreat
open Go.RowKit
set_option linter.unusedVariables false
set_option linter.unusedSimpArgs false
section
variable {P : Program} {n : Fm} {ρ : List (Nat × Value)} {W w w' : World} {g g' : Hl} {H H' : List HP} {Q : Exit → Act → World → Prop} {l : List Oper} {S : World → Prop} {fuel m : Nat} {d : Option Tmp} {ty : TypeId} {ps : String} {af : Array Edge} {gd : Option (Nat × Bool)} {v u : Value} {x y : Operand} {o : Op} {F : List (Nat × List Value × TypeId)} {i b k s : Nat} {rs : List Nat} {t e : TypeId} {z : Value} {bytes : Nat} {a : Option Addr} {len c : Nat} {lo hi mx : Option Operand} {vl vh vm : Option Value}
/-- s[l:h] of a row of the pool's, in a drawn region: the first operation that may come up. -/
theorem EH.slq {xs : List Value} (he : ElemOf P t e z s bytes) (hp : Pr s g (.slice a len c) len xs) (q h : Nat) (hS : S w) (kk : ∀ a' c', Pr s g (.slice a' (h - q) c') (h - q) ((xs.drop (q * s)).take ((h - q) * s)) → EH P n l S fuel (bset m i) (pushv d (.slice a' (h - q) c') ρ) w Q)
    (hr : rdy m l.length 0 l = i :: rs := by exact rfl) (hnth : nth l i = some ⟨d, .slice t x lo hi none, ty, ps, af, gd⟩ := by exact rfl) (hg : want n l ρ gd = some true := by exact rfl)
    (hx : evo n ρ x = some (.slice a len c) := by exact rfl) (h1 : evm n ρ lo = some vl := by exact rfl) (h2 : evm n ρ hi = some vh := by exact rfl) (hlo : Lo vl q := by first | exact .inl ⟨rfl, rfl⟩ | exact .inr ⟨_, _, rfl, by omega⟩) (hhi : Hi vh len h := by first | exact .inl ⟨rfl, rfl⟩ | exact .inr ⟨_, _, rfl, by omega⟩) (hl : q ≤ h := by omega) (hh : h ≤ len := by omega)
    (hsel : Region.noSelect l.toArray = true := by kernel_rfl) (hf : Region.free .any l.toArray (bits m l.length) i = true := by decide +kernel)
    (hQ : ∀ v c a w, Q (.panic c) (a.put d v) w → Q (.panic c) a w := by exact fun _ _ _ _ h => h) : EH P n l S (fuel + 1) m ρ w Q := by
  obtain ⟨a', c', h3, h4⟩ := run_slice_pr (P := P) he hp hlo hhi hl hh
  exact EH.take i (by rw [hr]; simp) hnth hsel hf hQ hS (yif (oi := ⟨d, .slice t x lo hi none, ty, ps, af, gd⟩) hg (Pf.pv (Pv.slice hx h1 h2 rfl h3))) (kk _ _ h4)
/-- s[l:h] of a row of the pool's, in a drawn region: the second operation that may come up. -/
theorem EH.slq1 {xs : List Value} (he : ElemOf P t e z s bytes) (hp : Pr s g (.slice a len c) len xs) (q h : Nat) (hS : S w) (kk : ∀ a' c', Pr s g (.slice a' (h - q) c') (h - q) ((xs.drop (q * s)).take ((h - q) * s)) → EH P n l S fuel (bset m i) (pushv d (.slice a' (h - q) c') ρ) w Q)
    {i1 : Nat} (hr : rdy m l.length 0 l = i1 :: i :: rs := by exact rfl) (hnth : nth l i = some ⟨d, .slice t x lo hi none, ty, ps, af, gd⟩ := by exact rfl) (hg : want n l ρ gd = some true := by exact rfl)
    (hx : evo n ρ x = some (.slice a len c) := by exact rfl) (h1 : evm n ρ lo = some vl := by exact rfl) (h2 : evm n ρ hi = some vh := by exact rfl) (hlo : Lo vl q := by first | exact .inl ⟨rfl, rfl⟩ | exact .inr ⟨_, _, rfl, by omega⟩) (hhi : Hi vh len h := by first | exact .inl ⟨rfl, rfl⟩ | exact .inr ⟨_, _, rfl, by omega⟩) (hl : q ≤ h := by omega) (hh : h ≤ len := by omega)
    (hsel : Region.noSelect l.toArray = true := by kernel_rfl) (hf : Region.free .any l.toArray (bits m l.length) i = true := by decide +kernel)
    (hQ : ∀ v c a w, Q (.panic c) (a.put d v) w → Q (.panic c) a w := by exact fun _ _ _ _ h => h) : EH P n l S (fuel + 1) m ρ w Q := by
  obtain ⟨a', c', h3, h4⟩ := run_slice_pr (P := P) he hp hlo hhi hl hh
  exact EH.take i (by rw [hr]; simp) hnth hsel hf hQ hS (yif (oi := ⟨d, .slice t x lo hi none, ty, ps, af, gd⟩) hg (Pf.pv (Pv.slice hx h1 h2 rfl h3))) (kk _ _ h4)
end
section
variable {P : Program} {n : Fm} {ρ : List (Nat × Value)} {W w w' : World} {g g' : Hl} {H H' : List HP} {N : List (Nat × Value) → World → Prop} {Q : Exit → Act → World → Prop} {ops : Array Oper} {rest : List Oper} {d : Option Tmp} {ty : TypeId} {ps : String} {af : Array Edge} {v u : Value} {x y : Operand} {e t : TypeId}
/-- []byte(s): the bytes are the pool's. -/
theorem St.bytes {l : List UInt8} {dt : TypeId} (h1 : P.underlying t = some .string) (h2 : P.underlying dt = some (.slice e)) (h3 : P.underlying e = some (.int .u8)) (hs : Sat W w g H) (hl : l.length ≤ 1000000000)
    (h : ∀ b c w' g', Hl.le g g' → Sat W w' g' H → Pr 1 g' (.slice (some ⟨b, 0, none⟩) l.length c) l.length (bs l) → N (pushv d (.slice (some ⟨b, 0, none⟩) l.length c) ρ) w') (hx : evo n ρ x = some (.string ⟨l.toArray⟩) := by exact rfl) :
    St P n ops ⟨d, .convert t dt x, ty, ps, af, none⟩ ρ w N Q := by
  have hr := Go.Lib.run_convert_string_bytes w t dt e ⟨l.toArray⟩ h1 h2 h3
  have hsz : (⟨l.toArray⟩ : ByteArray).size = l.length := by simp [ByteArray.size]
  rw [hsz] at hr
  have hn : Sat W (Go.Lib.bytesWorld w e ⟨l.toArray⟩) g (obj w.heap.size (.cells (Go.Lib.bytesCells w e ⟨l.toArray⟩) e ((Go.Lib.bytesCells w e ⟨l.toArray⟩).size, (Go.Lib.bytesCells w e ⟨l.toArray⟩).size + 1)) :: H) := by
    refine hs.new (Nat.le_refl _) ?_ ?_ ?_ (fun k hk => Go.Lib.bytesWorld_at_old w e _ k hk) (Go.Lib.bytesWorld_at_new w e _)
    · simp [Go.Lib.bytesWorld, World.freeze, World.alloc, World.drew, -World.alloc_eq, -World.drew_eq]
    · simp [Go.Lib.bytesWorld, World.freeze, World.alloc, World.drew, -World.alloc_eq, -World.drew_eq]
    · simp [Go.Lib.bytesWorld, World.freeze, World.alloc, World.drew, -World.alloc_eq, -World.drew_eq]
  obtain ⟨h1, e1, e2, e3, hs2⟩ := hn.publish
  have e1' : h1 = Hl.one w.heap.size (.cells (Go.Lib.bytesCells w e ⟨l.toArray⟩) e ((Go.Lib.bytesCells w e ⟨l.toArray⟩).size, (Go.Lib.bytesCells w e ⟨l.toArray⟩).size + 1)) := e1
  have hcap : l.length ≤ grownCap w l.length 0 e ∧ grownCap w l.length 0 e ≤ 9223372036854775807 := by
    unfold grownCap
    simp only [Question.cut]
    have h0 : 0 < 2 ^ 63 - l.length := by omega
    generalize w.tape w.drawn (Question.appendCap l.length 0 e) = T
    have h1 := Nat.mod_lt T h0
    generalize T % (2 ^ 63 - l.length) = T' at h1 ⊢
    constructor <;> omega
  refine (St.val (v := .slice (some ⟨w.heap.size, 0, none⟩) l.length (grownCap w l.length 0 e)) (w' := Go.Lib.bytesWorld w e ⟨l.toArray⟩) (fun a ha => by simp [execOp, ha.eval hx, hr]) (h _ _ _ _ e2 hs2 ?_))
  refine ⟨by simp, some ⟨w.heap.size, 0, none⟩, grownCap w l.length 0 e, rfl, hcap.1, by unfold maxLen; omega, fun q => by simp at q, Or.inr ⟨w.heap.size, 0, _, _, _, rfl, e3 _ _ (show h1 w.heap.size = some _ from by rw [e1']; simp only [Hl.one, if_true]; rfl), ?_⟩⟩
  simp only [Go.Lib.bytesCells, List.drop_zero, Nat.mul_one, Array.toList_append, Array.toList_map, List.map_toArray]
  rw [List.take_append_of_le_length (by simp), List.take_of_length_le (by simp)]
  simp [bs]

/-- len(m). -/
theorem E.lenm {κ : Type} [DecidableEq κ] {enc : κ → Value} {b : Nat} {l : List (κ × Value)} {xs : Array Operand} {kt et : TypeId} (ht : P.underlying t = some (.map kt et)) (hs : Sat W w g H) (hf : Has (mp enc b l) H) (h : E P n ops rest (pushv d (.int .i64 l.length) ρ) w Q) (hx : evs n ρ xs.toList = some [.map (some b)] := by exact rfl) :
    E P n ops (⟨d, .call ⟨.builtin .len, xs, #[t]⟩, ty, ps, af, none⟩ :: rest) ρ w Q := by
  obtain ⟨H', hs'⟩ := hf.front hs
  obtain ⟨es, clock, he, ho⟩ := mp_open hs'
  have hb := ho.heap
  have hl : es.size = l.length := by
    have := congrArg List.length he.1
    simpa using this
  have hr : (Builtin.len_ #[t] ty #[.map (some b)]).run P w = .ok (.int .i64 l.length) w := by
    simp [Builtin.len_, run_underlying ht, run_getObj_map w b es clock hb, goInt, hl]
  exact E.cons (St.val (fun a ha => by simp [execOp, resolve, ha.args hx, invoke, builtin, hr]) h)
end
theorem E.forget {P : Program} {n : Fm} {ρ ρ' : List (Nat × Value)} {w : World} {Q : Exit → Act → World → Prop} {ops : Array Oper} {rest : List Oper} (hw : Weak ρ ρ') (h : E P n ops rest ρ' w Q) : E P n ops rest ρ w Q := by
  unfold E at *
  exact fun a ha => h a (ha.weak hw)
/-- The same as 'later' within a region. -/
theorem laterE {α : Type} {P : Program} {n : Fm} {ops : Array Oper} {rest : List Oper} {Q : Exit → Act → World → Prop} {f : α → List (Nat × Value)} {M : α → World → Prop} {G : Prop} (main : (∀ x w, M x w → E P n ops rest (f x) w Q) → G) (key : ∀ x w, M x w → E P n ops rest (f x) w Q) : G := main key
theorem EH.forget {P : Program} {n : Fm} {l : List Oper} {S : World → Prop} {fuel m : Nat} {ρ ρ' : List (Nat × Value)} {w : World} {Q : Exit → Act → World → Prop} (hw : Weak ρ ρ') (h : EH P n l S fuel m ρ' w Q) : EH P n l S fuel m ρ w Q := by
  unfold EH at *
  exact fun a ha => h a (ha.weak hw)
/-- The same as 'later' within a drawn region. -/
theorem laterH {α : Type} {P : Program} {n : Fm} {l : List Oper} {S : World → Prop} {fuel m : Nat} {Q : Exit → Act → World → Prop} {f : α → List (Nat × Value)} {M : α → World → Prop} {G : Prop} (main : (∀ x w, M x w → EH P n l S fuel m (f x) w Q) → G) (key : ∀ x w, M x w → EH P n l S fuel m (f x) w Q) : G := main key
end Go.Proofs.YtkolnecahlkndaaGreat

/-
  Layer 11 (fold): a fold as bytes.
-/
namespace Go.Proofs.YtkolnecahlkndaaGreat
open Go.RowKit
set_option linter.unusedVariables false
set_option linter.unusedSimpArgs false

/-- What a key has, as bytes. -/
def cellB (k : List UInt8) (c : Ce) : List UInt8 := textB k ++ [UInt8.ofNat c.kd] ++ (if c.kd = 1 then textB c.text else fixB (bitsF c.num))
def Fo.row (f : Fo) (k : List UInt8) : List UInt8 := cellB k ((f.cell k).getD ⟨0, [], 0⟩)
def Fo.wrN (f : Fo) : Nat := (f.wr % 18446744073709551616).toNat
def Fo.headB (f : Fo) : List UInt8 := vecB f.vec ++ layN f.tm ++ layN f.wrN ++ fixB (maskN f.mem 64) ++ fixB (maskN f.ret 64) ++ fixB f.mark ++ layN f.cells.length
/-- A fold as bytes. -/
def Fo.enc (f : Fo) : List UInt8 := f.headB ++ f.keys.flatMap f.row
theorem el_strs : ElemOf Tryz.prog 65 9 (.string ⟨#[]⟩) 1 16 := .of Tryz.underlying65 (by kernel_rfl) rfl (by decide)

set_option maxHeartbeats 3200000 in
set_option maxRecDepth 100000 in
theorem foldEncode_any {R : Ending → World → Prop} {W w : World} {g : Hl} {H : List HP} {b : Nat} {f : Fo} (hb : f.enc.length ≤ 10000000) (hl : f.cells.length ≤ 10000000) (hs : Sat W w g (fold b f :: H))
    (hR : ∀ a' c' w' g', Hl.le g g' → Sat W w' g' (own 5 1 (.slice a' f.enc.length c') f.enc.length (bs f.enc) :: fold b f :: H) → R (.returned (.slice a' f.enc.length c')) w') : Calls Tryz.prog 11 #[ptr b] w R := by
  have HR := Lib.hid hR
  clear hR
  obtain ⟨i, hi, hs⟩ := fold_open hs
  have h1 := hi.ok.mem
  have h2 := hi.ok.ret
  have htm := hi.ok.tm
  have hmk := hi.ok.mark
  have hvl := hi.ok.vec
  have hkl := f.keys_length
  simp only [foB] at hs
  have lv := vecB_len f.vec hvl hi.ok.vlt
  have lt := layN_ten htm
  have hwn : f.wrN < 18446744073709551616 := by unfold Fo.wrN; omega
  have lw := layN_ten hwn
  have ewr : IntKind.u64.wrap f.wr = (f.wrN : Int) := by
    simp [IntKind.wrap, IntKind.bits, IntKind.signed, Fo.wrN]
    omega
  refine C.calls (args := [.pointer (some ⟨b, 0, none⟩)]) Tryz.func11 rfl rfl rfl ?_
  refine go ?_
  refine E.ld hs ?_ (hj := foC_129 h1 h2)
  refine go ?_
  refine E.callf Tryz.func29 rfl ?_
  refine vlay_any hs.nilOwn hi.vec rfl hvl hi.ok.vlt (by decide) ?_
  intro a2 c2 w2 g2 hg2 hs
  simp only [Nat.zero_add, List.nil_append] at hs ⊢
  refine go ?_
  refine C.held1 b hs ?_
  intro w3 hk hs
  have rd1 : Rd (Keeps g2 [(b, foC i.mb (i.hv f) f, 79)]) b 130 (.int .u64 f.tm) := Rd.blk .here (foC_130 h1 h2)
  have rd2 : Rd (Keeps g2 [(b, foC i.mb (i.hv f) f, 79)]) b 131 (.int .i64 f.wr) := Rd.blk .here (foC_131 h1 h2)
  refine goh ?_
  refine EH.one (St.callf Tryz.func30 rfl ?_)
  refine lay_any hs htm (by omega) ?_
  intro a3 c3 w4 hs
  refine kept1 hs (fun hk => ?_)
  refine goh ?_
  refine EH.one (St.callf Tryz.func30 rfl ?_)
  refine lay_any hs hwn (by omega) ?_
  intro a4 c4 w5 hs
  refine kept1 hs (fun hk => ?_)
  refine goh ?_
  refine EH.done ?_
  clear rd1 rd2 hk
  refine go ?_
  refine C.held1 b hs ?_
  intro w6 hk hs
  have rd3 : Rd (Keeps g2 [(b, foC i.mb (i.hv f) f, 79)]) b 132 (.int .u64 f.mark) := Rd.blk .here (foC_132 h1 h2)
  refine goh ?_
  refine EH.one (St.callf Tryz.func32 rfl ?_)
  refine list_any (l := f.mem) (fun q hq => foC_mem h1 hq) (by omega) hs ?_
  intro a7 c7 w7 hs
  refine kept1 hs (fun hk => ?_)
  refine goh ?_
  refine EH.one (St.callf Tryz.func32 rfl ?_)
  refine list_any (l := f.ret) (fun q hq => foC_ret h1 h2 hq) (by omega) hs ?_
  intro a8 c8 w8 hs
  refine kept1 hs (fun hk => ?_)
  refine goh ?_
  refine EH.one (St.callf Tryz.func31 rfl ?_)
  refine fixed_any hs hmk (by omega) ?_
  intro a9 c9 w9 hs
  refine kept1 hs (fun hk => ?_)
  refine goh ?_
  refine EH.done ?_
  clear rd3 hk
  refine go ?_
  refine E.lenm Tryz.underlying76 hs (.there (.there .here)) ?_
  have eln : (i.L.map fun p => (p.1, ceV p.2.1 p.2.2)).length = f.cells.length := by
    rw [← hi.plain]
    simp [Cs.plain]
  rw [eln]
  have lc := layN_ten (n := f.cells.length) (by omega)
  refine go ?_
  refine E.callf Tryz.func30 rfl ?_
  refine lay_any hs (by omega) (by omega) ?_
  intro a10 c10 w10 hs
  have eN : (vecB f.vec).length + (layN f.tm).length + (layN f.wrN).length + 8 + 8 + 8 + (layN f.cells.length).length = f.headB.length := by
    simp only [Fo.headB, List.length_append, fixB_len]
  have eX : bs (vecB f.vec) ++ bs (layN f.tm) ++ bs (layN f.wrN) ++ bs (fixB (maskN f.mem 64)) ++ bs (fixB (maskN f.ret 64)) ++ bs (fixB f.mark) ++ bs (layN f.cells.length) = bs f.headB := by
    simp only [Fo.headB, bs_append]
  rw [eN, eX] at hs
  rw [eN]
  have hhl : f.headB.length ≤ 10000000 := by
    have := hb
    simp only [Fo.enc, List.length_append] at this
    omega
  clear eN eX lv lt lw lc ewr
  refine go ?_
  refine E.callf Tryz.func33 rfl ?_
  refine foldKeys_any (i := i) (f := f) (hi.mono hg2) (by omega) hs.swap.pull2.swap ?_
  intro ak ck w11 g3 hg3 hpk hs
  have hs2 := hs.pull2
  clear hs
  have hs := hs2
  clear hs2
  simp only [foB] at hs
  refine gob ?_
  refine C.cut (fun x : Option Addr × Nat => [(3, .slice x.1 f.enc.length x.2)]) (fun x w => ∃ g', Hl.le g3 g' ∧ Sat W w g' (own 5 1 (.slice x.1 f.enc.length x.2) f.enc.length (bs f.enc) :: blk b (foC i.mb (i.hv f) f) 79 :: cmap i.mb i.L :: H)) ?_ ?_
  · refine C.block ?_
    refine C.lp (fun x : Nat × Option Addr × Nat => [(0, .pointer (some ⟨b, 0, none⟩)), (3, .slice x.2.1 (f.headB ++ (f.keys.take x.1).flatMap f.row).length x.2.2), (51, .slice ak f.cells.length ck), (52, .int .i64 f.cells.length), (53, .int .i64 x.1)])
      (fun gk x w => gk = f.cells.length - x.1 ∧ x.1 ≤ f.cells.length ∧ ∃ g', Hl.le g3 g' ∧ Sat W w g' (own 5 1 (.slice x.2.1 (f.headB ++ (f.keys.take x.1).flatMap f.row).length x.2.2) (f.headB ++ (f.keys.take x.1).flatMap f.row).length (bs (f.headB ++ (f.keys.take x.1).flatMap f.row)) :: blk b (foC i.mb (i.hv f) f) 79 :: cmap i.mb i.L :: H)) f.cells.length (0, a10, c10) ⟨rfl, Nat.zero_le _, g3, Hl.le_refl _, ?_⟩ ?_ (hw := ?_)
    · simp only [List.take_zero, List.flatMap_nil, List.append_nil]
      exact hs
    · clear hs
      rintro gk ⟨j, a4, c4⟩ w4 ⟨hgk, hj, g4, hg4, hs⟩
      simp only at hgk hj hs ⊢
      have hsucc : ∀ h : j < f.keys.length, f.headB ++ (f.keys.take (j + 1)).flatMap f.row = (f.headB ++ (f.keys.take j).flatMap f.row) ++ f.row f.keys[j] := fun h => by
        rw [List.take_succ_eq_append_getElem h, List.flatMap_append, List.append_assoc]
        simp
      have hBl : (f.headB ++ (f.keys.take j).flatMap f.row).length ≤ 10000000 := by
        have h3 : f.keys.flatMap f.row = (f.keys.take j).flatMap f.row ++ (f.keys.drop j).flatMap f.row := by rw [← List.flatMap_append, List.take_append_drop]
        have h4 := hb
        rw [Fo.enc, h3] at h4
        simp only [List.length_append] at h4 ⊢
        omega
      generalize hB : f.headB ++ (f.keys.take j).flatMap f.row = B at hs hBl hsucc ⊢
      replace hB := Lib.hid hB
      refine go ?_
      refine C.cond_dec (p := (j : Int) < f.cells.length) rfl (fun h => ?_) (fun h => ?_)
      · have hjk : j < f.keys.length := by omega
        have hsucc := Lib.hid (hsucc hjk)
        have hpk4 := hpk.mono hg4
        have hkey : f.keys[j].length ≤ 100000000 := by
          have h3 : f.keys[j] ∈ f.cells.map Prod.fst := (rising_perm _).mem_iff.1 (List.getElem_mem hjk)
          obtain ⟨p, hp, e3⟩ := List.mem_map.1 h3
          rw [← e3]
          exact (hi.ok.cells p hp).2
        have hi4 := hi.mono (hg2.trans (hg3.trans hg4))
        have hget : (f.keys.map str)[j]? = some (.string ⟨f.keys[j].toArray⟩) := by rw [List.getElem?_map, List.getElem?_eq_getElem hjk]; rfl
        have hrow : f.row f.keys[j] = cellB f.keys[j] ((f.cell f.keys[j]).getD ⟨0, [], 0⟩) := rfl
        generalize f.keys[j] = k at hkey hget hrow hsucc
        obtain ⟨cc, at_, ct, hcc, hcell, hptv, hck⟩ : ∃ (cc : Ce) (a : Option Addr) (c : Nat), (f.cell k).getD ⟨0, [], 0⟩ = cc ∧ (alook k (i.L.map fun p => (p.1, ceV p.2.1 p.2.2))).getD (.agg #[.int .u8 0, .slice none 0 0, .float .f64 0]) = .agg #[.int .u8 cc.kd, .slice a cc.text.length c, .float .f64 cc.num] ∧ Pr 1 g4 (.slice a cc.text.length c) cc.text.length (bs cc.text) ∧ cc.ok := by
          have e1 := alook_map (fun p : Ce × Value => ceV p.1 p.2) k i.L
          have e2 := al_map (Prod.fst : Ce × Value → Ce) k i.L
          rw [e1]
          have e3 : f.cell k = (aget k i.L).map Prod.fst := by rw [Fo.cell, ← hi4.plain]; exact e2
          rw [e3]
          cases hL : aget k i.L with
          | none => exact ⟨⟨0, [], 0⟩, none, 0, rfl, rfl, Pr.nil, ⟨by decide, by decide, by simp⟩⟩
          | some p =>
            have h5 := hi4.tvs _ (aget_mem hL)
            obtain ⟨a, c, ep, _⟩ := h5.len
            simp only at ep h5
            have h6 : (k, p.1) ∈ f.cells := by rw [← hi4.plain]; exact List.mem_map.2 ⟨(k, p), aget_mem hL, rfl⟩
            refine ⟨p.1, a, c, rfl, ?_, by rw [← ep]; exact h5, (hi4.ok.cells _ h6).1⟩
            simp only [Option.map_some, Option.getD_some, ceV, ep]
        rw [hcc] at hrow
        replace hrow := Lib.hid hrow
        clear hcc
        have ckd := hck.kd
        have cnum := hck.num
        have ctext := hck.text
        refine go ?_
        refine E.ix el_strs hs hpk4 j hget ?_
        intro b5 o5 hc5
        clear hget
        refine go ?_
        refine E.cons (St.lookup (z := .agg #[.int .u8 0, .slice none 0 0, .float .f64 0]) (k := k) ky_str Tryz.underlying76 (by go_simp; first | done | rfl) hs (.there (.there .here)) rfl rfl ?_)
        simp only [Bool.false_eq_true, if_false, hcell]
        clear hcell
        refine E.al hs ?_
        intro b6 w6 hs
        refine E.sto (vs := [.int .u8 cc.kd, .slice at_ cc.text.length ct, .float .f64 cc.num]) (ys := [.int .u8 cc.kd, .slice at_ cc.text.length ct, .float .f64 cc.num]) hs ?_ (hv := rfl) (hsp := rfl)
        intro w7 hs
        have hkt := textB_len k (by omega)
        have htt := textB_len cc.text (by omega)
        have e8 : (UInt8.ofNat cc.kd).toNat = cc.kd := by simp; omega
        refine go ?_
        refine C.cut (fun x : Option Addr × Nat => [(0, .pointer (some ⟨b, 0, none⟩)), (3, .slice x.1 (B ++ textB k ++ [UInt8.ofNat cc.kd]).length x.2), (6, .pointer (some ⟨b6, 0, none⟩)), (51, .slice ak f.cells.length ck), (52, .int .i64 f.cells.length), (53, .int .i64 j)])
          (fun x w => ∃ g', Hl.le g4 g' ∧ Sat W w g' (own 5 1 (.slice x.1 (B ++ textB k ++ [UInt8.ofNat cc.kd]).length x.2) (B ++ textB k ++ [UInt8.ofNat cc.kd]).length (bs (B ++ textB k ++ [UInt8.ofNat cc.kd])) :: blk b6 [.int .u8 cc.kd, .slice at_ cc.text.length ct, .float .f64 cc.num] 68 :: blk b (foC i.mb (i.hv f) f) 79 :: cmap i.mb i.L :: H)) ?_ ?_
        · refine C.held1 b6 hs ?_
          intro w8 hk hs
          refine goh ?_
          refine EH.orb hs (St.bytes (l := k) Tryz.underlying9 Tryz.underlying29 Tryz.underlying5 hs (by omega) ?_ (hx := rfl)) ?_
          · intro b9 c9 w9 g9 hg9 hs hp9
            refine kept1 hs (fun hk => ?_) hg9
            refine goh ?_
            refine EH.orb hs (St.callf Tryz.func34 rfl ?_) ?_
            · refine layText_any hs.swap hp9 rfl (by omega) (by omega) ?_
              intro a12 c12 w12 hs
              refine kept1 hs (fun hk => ?_) hg9
              refine goh ?_
              refine EH.bsl hs ?_
              intro b13 w13 hs
              refine kept1 hs (fun hk => ?_) hg9
              refine goh ?_
              refine EH.app el_u8 hs.swap (hs.rowOf (size := 1) 1 rfl (by decide)) ?_
              intro a14 c14 w14 _ _ hs
              refine kept1 hs (fun hk => ?_)
              refine goh ?_
              refine EH.done ?_
              refine A.mt (a14, c14) ⟨g9, hg9, ?_⟩ (hw := ?_)
              · have := hs.swap.drop
                simpa [bs_append, bs, e8, Nat.add_assoc] using this
              · simp only [List.length_append, List.length_cons, List.length_nil, Nat.add_assoc]
                exact wk_
            · intro b13 w13 hs
              refine kept1 hs (fun hk => ?_) hg9
              refine goh ?_
              refine EH.one (St.callf Tryz.func34 rfl ?_)
              refine layText_any hs.pull2 hp9 rfl (by omega) (by omega) ?_
              intro a12 c12 w12 hs
              refine kept1 hs (fun hk => ?_) hg9
              refine goh ?_
              refine EH.app el_u8 hs (hs.swap.rowOf (size := 1) 1 rfl (by decide)) ?_
              intro a14 c14 w14 _ _ hs
              refine kept1 hs (fun hk => ?_)
              refine goh ?_
              refine EH.done ?_
              refine A.mt (a14, c14) ⟨g9, hg9, ?_⟩ (hw := ?_)
              · have := hs.swap.drop
                simpa [bs_append, bs, e8, Nat.add_assoc] using this
              · simp only [List.length_append, List.length_cons, List.length_nil, Nat.add_assoc]
                exact wk_
          · intro b13 w13 hs
            refine kept1 hs (fun hk => ?_)
            refine goh ?_
            refine EH.one (St.bytes (l := k) Tryz.underlying9 Tryz.underlying29 Tryz.underlying5 hs (by omega) ?_ (hx := rfl))
            intro b9 c9 w9 g9 hg9 hs hp9
            refine kept1 hs (fun hk => ?_) hg9
            refine goh ?_
            refine EH.one (St.callf Tryz.func34 rfl ?_)
            refine layText_any hs.pull2 hp9 rfl (by omega) (by omega) ?_
            intro a12 c12 w12 hs
            refine kept1 hs (fun hk => ?_) hg9
            refine goh ?_
            refine EH.app el_u8 hs (hs.swap.rowOf (size := 1) 1 rfl (by decide)) ?_
            intro a14 c14 w14 _ _ hs
            refine kept1 hs (fun hk => ?_)
            refine goh ?_
            refine EH.done ?_
            refine A.mt (a14, c14) ⟨g9, hg9, ?_⟩ (hw := ?_)
            · have := hs.swap.drop
              simpa [bs_append, bs, e8, Nat.add_assoc] using this
            · simp only [List.length_append, List.length_cons, List.length_nil, Nat.add_assoc]
              exact wk_
        clear hs
        rintro ⟨a15, c15⟩ w15 ⟨g5, hg5, hs⟩
        simp only at hs ⊢
        have hBl2 : (B ++ textB k ++ [UInt8.ofNat cc.kd]).length ≤ 200000000 := by simp only [List.length_append, List.length_cons, List.length_nil]; omega
        have hrow2 : f.row k = (textB k ++ [UInt8.ofNat cc.kd]) ++ (if cc.kd = 1 then textB cc.text else fixB (bitsF cc.num)) := hrow.out
        have hB2 : B ++ f.row k = (B ++ textB k ++ [UInt8.ofNat cc.kd]) ++ (if cc.kd = 1 then textB cc.text else fixB (bitsF cc.num)) := by rw [hrow2]; simp only [List.append_assoc]
        replace hB2 := Lib.hid hB2
        clear hrow2 hrow
        generalize B ++ textB k ++ [UInt8.ofNat cc.kd] = C0 at hs hBl2 hB2 ⊢
        refine go ?_
        cases hq : decide ((cc.kd : Int) = 1) with
        | true =>
          have hq : cc.kd = 1 := by have := of_decide_eq_true hq; omega
          refine go ?_
          refine E.callf Tryz.func34 rfl ?_
          refine layText_any hs (hptv.mono hg5) rfl (by omega) (by omega) ?_
          intro a16 c16 w16 hs
          refine go ?_
          have hB2 := hB2.out
          have e1 : (C0 ++ textB cc.text).length = C0.length + (textB cc.text).length := List.length_append
          rw [if_pos hq] at hB2
          refine A.rd (f.cells.length - (j + 1)) (j + 1, a16, c16) ⟨rfl, by omega, g5, hg4.trans hg5, ?_⟩ (hw := ?_)
          · simp only [hsucc.out, hB2, e1, bs_append]
            exact hs.swap.drop
          · simp only [hsucc.out, hB2, e1]
            exact wk_
        | false =>
          have hq : ¬ cc.kd = 1 := by have := of_decide_eq_false hq; omega
          refine go ?_
          refine E.callf Tryz.func35 rfl ?_
          refine bits_any ?_
          refine go ?_
          refine E.callf Tryz.func31 rfl ?_
          refine fixed_any hs (bitsF_lt cnum) (by omega) ?_
          intro a16 c16 w16 hs
          refine go ?_
          have hB2 := hB2.out
          have e1 : (C0 ++ fixB (bitsF cc.num)).length = C0.length + 8 := by rw [List.length_append, fixB_len]
          rw [if_neg hq] at hB2
          refine A.rd (f.cells.length - (j + 1)) (j + 1, a16, c16) ⟨rfl, by omega, g5, hg4.trans hg5, ?_⟩ (hw := ?_)
          · simp only [hsucc.out, hB2, e1, bs_append]
            exact hs.swap.drop
          · simp only [hsucc.out, hB2, e1]
            exact wk_
      · have hB := hB.out
        have hje : j = f.keys.length := by omega
        rw [hje, List.take_length] at hB
        have hB3 : B = f.enc := hB.symm
        subst hB3
        refine go ?_
        exact A.mt (a4, c4) ⟨g4, hg4, hs⟩
    · simp only [List.take_zero, List.flatMap_nil, List.append_nil]
      exact wk_
  clear hs
  rintro ⟨a17, c17⟩ w17 ⟨g17, hg17, hs⟩
  simp only at hs ⊢
  refine go ?_
  refine A.r1 ?_
  have hgl := hg2.trans (hg3.trans hg17)
  refine HR.out a17 c17 _ g17 hgl ?_
  exact (fold_close i (hi.mono hgl) hs.push2).swap
end Go.Proofs.YtkolnecahlkndaaGreat

/-
  Layer 15 (view): Mark, Fold; how long a fold of few events is.
-/
namespace Go.Proofs.YtkolnecahlkndaaGreat
open Go.RowKit
set_option linter.unusedVariables false
set_option linter.unusedSimpArgs false

set_option maxHeartbeats 1600000 in
set_option maxRecDepth 100000 in
theorem vwMark_any {R : Ending → World → Prop} {W w : World} {g : Hl} {H : List HP} {vb b b' : Nat} {x : El} {f : Fo} (hs : Sat W w g (vw vb b b' x :: fold b' f :: H)) (hR : R (.returned (.int .u64 f.mark)) w) : Calls Tryz.prog 20 #[ptr vb] w R := by
  have HR := Lib.hid hR
  clear hR
  simp only [vw, El.v] at hs
  refine C.calls (args := [.pointer (some ⟨vb, 0, none⟩)]) Tryz.func20 rfl rfl rfl ?_
  refine go ?_
  refine E.callf Tryz.func52 rfl ?_
  refine foldMark_any hs.swap ?_
  refine go ?_
  refine A.r1 ?_
  exact HR.out

set_option maxHeartbeats 1600000 in
set_option maxRecDepth 100000 in
theorem vwFold_any {R : Ending → World → Prop} {W w : World} {g : Hl} {H : List HP} {vb b b' : Nat} {x : El} {f : Fo} (hs : Sat W w g (vw vb b b' x :: fold b' f :: H))
    (hR : ∀ b2 w', Sat W w' g (fold b2 f :: vw vb b b' x :: fold b' f :: H) → R (.returned (ptr b2)) w') : Calls Tryz.prog 21 #[ptr vb] w R := by
  have HR := Lib.hid hR
  clear hR
  simp only [vw, El.v] at hs HR
  refine C.calls (args := [.pointer (some ⟨vb, 0, none⟩)]) Tryz.func21 rfl rfl rfl ?_
  refine go ?_
  refine E.callf Tryz.func17 rfl ?_
  refine foldCopy_any hs.swap ?_
  intro b2 w2 hs
  rw [show ptr b2 = .pointer (some ⟨b2, 0, none⟩) from rfl]
  refine go ?_
  refine A.r1 ?_
  exact HR.out b2 _ (hs.perm (List.Perm.cons _ (.swap _ _ _)))

/-- Keys and texts are short. -/
def Fo.short (f : Fo) : Prop := ∀ p ∈ f.cells, p.1.length ≤ 1 ∧ p.2.text.length ≤ 1
theorem aput_len {κ β : Type} [DecidableEq κ] (k : κ) (v : β) (l : List (κ × β)) : (aput k v l).length ≤ l.length + 1 := by
  rcases aput_keys (k := k) (v := v) l with ⟨h, _⟩ | ⟨h, _⟩
  · have := congrArg List.length h
    simp only [List.length_map] at this
    omega
  · have := congrArg List.length h
    simp only [List.length_map, List.length_append, List.length_cons, List.length_nil] at this
    omega
theorem Fo.short_add {f : Fo} {e : Ev} (h : f.short) (he : e.good) : (f.add e).short ∧ (f.add e).cells.length ≤ f.cells.length + 1 := by
  have key : ∀ (c : Ce), c.text.length ≤ 1 → (∀ p ∈ aput e.key c f.cells, p.1.length ≤ 1 ∧ p.2.text.length ≤ 1) ∧ (aput e.key c f.cells).length ≤ f.cells.length + 1 := fun c hc => ⟨fun p hp => by
    rcases aput_mem hp with rfl | hp
    · exact ⟨he.key, hc⟩
    · exact h p hp, aput_len _ _ _⟩
  unfold Fo.short
  simp only [Fo.add]
  split
  · exact key _ he.text
  split
  · exact key _ (by simp)
  split
  · exact key _ (by simp)
  split
  · exact ⟨fun p hp => h p ((adrop_sub _ _).subset hp), by have := (adrop_sub e.key f.cells).length_le; omega⟩
  · exact ⟨h, by omega⟩
theorem Fo.short_adds : ∀ (T : List Ev) (f : Fo), f.short → (∀ e ∈ T, e.good) → (f.adds T).short ∧ (f.adds T).cells.length ≤ f.cells.length + T.length
  | [], f, h, _ => ⟨h, by simp [Fo.adds]⟩
  | e :: T, f, h, hg => by
    obtain ⟨h1, h2⟩ := Fo.short_add h (hg e (List.mem_cons_self ..))
    obtain ⟨h3, h4⟩ := Fo.short_adds T (f.add e) h1 fun x hx => hg x (List.mem_cons_of_mem _ hx)
    refine ⟨h3, ?_⟩
    simp only [List.length_cons]
    have e1 : f.adds (e :: T) = (f.add e).adds T := rfl
    rw [e1]
    omega
theorem flat_le {α : Type} (r : α → List UInt8) (n : Nat) : ∀ (l : List α), (∀ x ∈ l, (r x).length ≤ n) → (l.flatMap r).length ≤ n * l.length
  | [], _ => by simp
  | x :: t, h => by
    have h1 := flat_le r n t fun y hy => h y (List.mem_cons_of_mem _ hy)
    have h2 := h x (List.mem_cons_self ..)
    simp only [List.flatMap_cons, List.length_append, List.length_cons, Nat.mul_add, Nat.mul_one]
    omega
theorem Fo.enc_len {f : Fo} (ho : f.ok) (h : f.short) (hc : f.cells.length ≤ 180) : f.enc.length ≤ 10000000 := by
  have h1 := vecB_len f.vec ho.vec ho.vlt
  have h2 := layN_ten ho.tm
  have h3 := layN_ten (n := f.wrN) (by unfold Fo.wrN; omega)
  have h4 := layN_ten (n := f.cells.length) (by omega)
  have h5 : f.headB.length ≤ 800 := by
    simp only [Fo.headB, List.length_append, fixB_len]
    omega
  have h6 : ∀ k ∈ f.keys, (f.row k).length ≤ 30 := by
    intro k hk
    have hk1 : k.length ≤ 1 := by
      have h7 : k ∈ f.cells.map Prod.fst := (rising_perm _).mem_iff.1 hk
      obtain ⟨p, hp, rfl⟩ := List.mem_map.1 h7
      exact (h p hp).1
    have hx : ((f.cell k).getD ⟨0, [], 0⟩).text.length ≤ 1 := by
      cases hq : f.cell k with
      | none => simp
      | some c => exact (h _ (aget_mem hq)).2
    have h8 := textB_len k (by omega)
    have h9 := textB_len ((f.cell k).getD ⟨0, [], 0⟩).text (by omega)
    unfold Fo.row cellB
    generalize (f.cell k).getD ⟨0, [], 0⟩ = c at hx h9
    simp only [List.length_append, List.length_cons, List.length_nil]
    split
    · omega
    · rw [fixB_len]; omega
  have h7 := flat_le f.row 30 f.keys h6
  rw [f.keys_length] at h7
  simp only [Fo.enc, List.length_append]
  omega
theorem Tale.short {T : List Ev} (h : Tale T) : ((foNew 3).adds T).short ∧ ((foNew 3).adds T).cells.length ≤ 180 := by
  obtain ⟨h1, h2⟩ := Fo.short_adds T (foNew 3) (fun p hp => by simp [foNew] at hp) h.good
  refine ⟨h1, ?_⟩
  have h3 := h.few
  have h4 : (foNew 3).cells.length = 0 := rfl
  omega
end Go.Proofs.YtkolnecahlkndaaGreat
