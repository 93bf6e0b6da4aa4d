/-
  The reference of layer 12: events of three writers, from numbers.
-/
import Derived.Test.YtkolnecahlkndaaUc
import Derived.Test.YtkolnecahlkndaaVd
import Derived.Test.YtkolnecahlkndaaBs
import Derived.Laws.FloatBits
namespace Go.Proofs.Ytkolnecahlkndaa
open Go.RowKit
set_option linter.unusedVariables false
set_option linter.unusedSimpArgs false

theorem el_u16s : ElemOf Try.prog 22 57 (.int .u16 0) 1 2 := .of Try.underlying22 (by kernel_rfl) rfl (by decide)
theorem el_u64s : ElemOf Try.prog 56 23 (.int .u64 0) 1 8 := .of Try.underlying56 (by kernel_rfl) rfl (by decide)
/-- The cells of small numbers. -/
def hs16 (v : List Nat) : List Value := v.map fun (n : Nat) => .int .u16 (n : Int)

/-- A writer's event, from numbers. -/
structure Ev.fine (e : Ev) (g : Hl) (w : Nat) (last : Nat) : Prop where
  ok : e.ok g
  wr : e.wr = w
  kd : 1 ≤ e.kd ∧ e.kd ≤ 4
  key : e.key.length = 1
  text : e.text.length ≤ 1
  nd : e.nd = 0
  tm : 1 ≤ e.tm ∧ e.tm ≤ last
theorem Ev.fine.mono {e : Ev} {g g' : Hl} {w l l' : Nat} (h : e.fine g w l) (hg : Hl.le g g') (hl : l ≤ l') : e.fine g' w l' := ⟨h.ok.mono hg, h.wr, h.kd, h.key, h.text, h.nd, h.tm.1, by have := h.tm.2; omega⟩
structure Feed (g : Hl) (w : Nat) (es : List Ev) (last : Nat) : Prop where
  evs : ∀ e ∈ es, e.fine g w last
  sq : ∀ q (h : q < es.length), es[q].sq = q + 1
  up : es.Pairwise fun a b => a.tm < b.tm
theorem Feed.mono {g g' : Hl} {w l : Nat} {es : List Ev} (h : Feed g w es l) (hg : Hl.le g g') : Feed g' w es l := ⟨fun e he => (h.evs e he).mono hg (Nat.le_refl _), h.sq, h.up⟩
theorem Feed.add {g g' : Hl} {w l l' : Nat} {es : List Ev} {e : Ev} (h : Feed g w es l) (hg : Hl.le g g') (hl : l < e.tm) (he : e.fine g' w l') (hll : l ≤ l') (hsq : e.sq = es.length + 1) : Feed g' w (es ++ [e]) l' := by
  refine ⟨fun x hx => ?_, fun q hq => ?_, ?_⟩
  · rcases List.mem_append.1 hx with hx | hx
    · exact (h.evs x hx).mono hg hll
    · simp only [List.mem_singleton] at hx; subst hx; exact he
  · rcases Nat.lt_or_ge q es.length with hlt | hge
    · rw [List.getElem_append_left hlt]; exact h.sq q hlt
    · have : q = es.length := by simp at hq; omega
      subst this
      simp [hsq]
  · refine List.pairwise_append.2 ⟨h.up, List.pairwise_singleton _ _, fun a ha b hb => ?_⟩
    simp only [List.mem_singleton] at hb
    subst hb
    have := (h.evs a ha).tm.2
    omega

theorem made1 (v : Value) (k : Nat) : (madeCells #[v] k).toList = List.replicate k v := by
  apply List.ext_getElem?
  intro j
  by_cases hj : j < k
  · simp [madeCells, hj, Nat.mod_one]
  · simp [madeCells, hj]
section
variable {P : Program} {n : Fm} {ρ : List (Nat × Value)} {W w : World} {g : Hl} {H : List HP} {Q : Exit → Act → World → Prop} {ops : Array Oper} {rest : List Oper} {d : Option Tmp} {ty : TypeId} {ps : String} {af : Array Edge} {x y : Operand}
theorem E.fdiv {s s' : TypeId} {a b r : Nat} (hr : Ieee.double.div a b = some r) (h : E P n ops rest (pushv d (.float .f64 r) ρ) w Q)
    (hx : evo n ρ x = some (.float .f64 a) := by exact rfl) (hy : evo n ρ y = some (.float .f64 b) := by exact rfl) : E P n ops (⟨d, .binOp .quo s x y s', ty, ps, af, none⟩ :: rest) ρ w Q := by
  refine E.cons (St.val (v := .float .f64 r) (w' := w) (fun ac ha => ?_) h)
  have e0 : FloatKind.f64.format.div a b = some r := hr
  simp [execOp, ha.eval hx, ha.eval hy, eqGuard, binOp, Op.floatArith, e0]
end
theorem quarter : ∀ i : Nat, i < 60 → ∃ r, Ieee.double.div (FloatKind.f64.nearest (i : Int)) 4616189618054758400 = some r ∧ r < 18446744073709551616 := by
  intro i hi
  have h : ∀ j : Fin 60, (Ieee.double.div (FloatKind.f64.nearest (j.val : Int)) 4616189618054758400).isSome = true := by decide +kernel
  have h1 := h ⟨i, hi⟩
  obtain ⟨r, hr⟩ := Option.isSome_iff_exists.1 h1
  exact ⟨r, hr, Ieee.Format.div_lt _ hr⟩
/-- A list that is being made. -/
def fown (x : El) : HP := own 43 8 x.v x.es.length (evC x.es)
theorem bsep_out {W w : World} {g : Hl} {H : List HP} {l1 l2 : List HP} {p : HP} (hs : Sat W w g (bsep (l1 ++ p :: l2) :: H)) : Sat W w g (p :: bsep (l1 ++ l2) :: H) := by
  have h1 := hs.bopen
  simp only [List.append_assoc, List.cons_append] at h1
  have h2 := h1.toFront
  rw [← List.append_assoc] at h2
  exact (Sat.bclose (l := l1 ++ l2) (h2.toBack)).swap
theorem bsep_in {W w : World} {g : Hl} {H : List HP} {l1 l2 : List HP} {p : HP} (hs : Sat W w g (p :: bsep (l1 ++ l2) :: H)) : Sat W w g (bsep (l1 ++ p :: l2) :: H) := by
  have h1 := hs.swap.bopen
  simp only [List.append_assoc] at h1
  apply Sat.bclose
  simp only [List.append_assoc, List.cons_append]
  refine h1.perm ?_
  refine List.Perm.append_left _ ?_
  exact List.perm_middle

theorem mkFine {g : Hl} {v len t kd : Nat} {kb : UInt8} {text : List UInt8} {num : Nat} {tv : Value} (hv : v < 3) (hl : len ≤ 60) (ht : 1 ≤ t ∧ t ≤ 300) (hk : 1 ≤ kd ∧ kd ≤ 4) (hx : text.length ≤ 1) (hn : num < 18446744073709551616) (hp : Pr 1 g tv text.length (bs text)) :
    Ev.fine ⟨(v : Nat), len + 1, t, kd, [kb], text, num, 0, tv⟩ g v t := ⟨⟨by simp only; omega, by simp only; omega, by simp only; omega, by simp only; omega, hn, by simp only; omega, by simp, by simp only; omega, hp⟩, rfl, hk, rfl, hx, rfl, ht.1, Nat.le_refl _⟩
set_option maxHeartbeats 3200000 in
set_option maxRecDepth 100000 in
theorem feeds_any {R : Ending → World → Prop} {W w : World} {g : Hl} {H : List HP} {a : Option Addr} {n c : Nat} {zs : List Nat} (hp : Pr 1 g (.slice a n c) n (hs16 zs)) (hn : zs.length = n) (hz : ∀ z ∈ zs, z < 65536) (hn2 : n ≤ 60) (hs : Sat W w g H)
    (hR : ∀ a' c' (outs : List El) w' g', Hl.le g g' → outs.length = 3 → (∀ w (h : w < outs.length), ∃ last, last ≤ 240 ∧ Feed g' w outs[w].es last ∧ outs[w].es.length ≤ 60) → (∀ x ∈ outs, x.ok g') → Pr 1 g' (.slice a' 3 c') 3 (outs.map El.v) → Sat W w' g' H → R (.returned (.slice a' 3 c')) w') :
    Calls Try.prog 7 #[.slice a n c, .int .i64 3] w R := by
  have HR := Lib.hid hR
  clear hR
  refine C.calls (args := [.slice a n c, .int .i64 3]) Try.func7 rfl rfl rfl ?_
  refine go ?_
  refine E.mk (k2 := 3) el_lists hs ?_
  intro a1 w1 hs
  refine go ?_
  refine E.mk (k2 := 3) el_u64s hs ?_
  intro a2 w2 hs
  obtain ⟨bl, ls0, rfl, hl0, _, _, hl1, hs⟩ := own_open (by decide) hs
  obtain ⟨bo, os0, rfl, ho0, _, _, ho1, hs⟩ := own_open (by decide) hs.swap
  have hls : ls0 = us [0, 0, 0] := by rw [← List.take_of_length_le (l := ls0) (Nat.le_of_eq hl0), hl1]; exact made1 (.int .u64 0) 3
  have hos : os0 = ([⟨none, 0, []⟩, ⟨none, 0, []⟩, ⟨none, 0, []⟩] : List El).map El.v := by rw [← List.take_of_length_le (l := os0) (Nat.le_of_eq ho0), ho1]; exact made1 (.slice none 0 0) 3
  subst hls hos
  have hs3 : Sat W w2 g (bsep (([⟨none, 0, []⟩, ⟨none, 0, []⟩, ⟨none, 0, []⟩] : List El).map fown) :: blk bo (([⟨none, 0, []⟩, ⟨none, 0, []⟩, ⟨none, 0, []⟩] : List El).map El.v) 27 :: blk bl (us [0, 0, 0]) 23 :: H) := Sat.bclose (l := ([⟨none, 0, []⟩, ⟨none, 0, []⟩, ⟨none, 0, []⟩] : List El).map fown) hs.nilOwn.nilOwn.nilOwn
  clear hs hl0 hl1 ho0 ho1
  have hs := hs3
  clear hs3
  refine gob ?_
  refine C.cut (fun _ : Unit => [(5, .slice (some ⟨bo, 0, none⟩) 3 3)]) (fun _ w => ∃ (outs : List El) (lasts : List Nat) (g' : Hl), outs.length = 3 ∧ lasts.length = 3 ∧ Hl.le g g' ∧ (∀ w (h : w < outs.length) (h' : w < lasts.length), Feed g' w outs[w].es lasts[w] ∧ lasts[w] ≤ 240 ∧ outs[w].es.length ≤ 60) ∧ Sat W w g' (bsep (outs.map fown) :: blk bo (outs.map El.v) 27 :: blk bl (us lasts) 23 :: H)) ?_ ?_
  · refine C.block ?_
    refine C.lp (fun i : Nat => [(0, .slice a n c), (1, .int .i64 3), (5, .slice (some ⟨bo, 0, none⟩) 3 3), (6, .slice (some ⟨bl, 0, none⟩) 3 3), (7, .int .i64 i)])
      (fun gk i w => gk = n - i ∧ i ≤ n ∧ ∃ (outs : List El) (lasts : List Nat) (g' : Hl), outs.length = 3 ∧ lasts.length = 3 ∧ Hl.le g g' ∧ (∀ w (h : w < outs.length) (h' : w < lasts.length), Feed g' w outs[w].es lasts[w] ∧ lasts[w] ≤ 4 * i ∧ outs[w].es.length ≤ i) ∧ Sat W w g' (bsep (outs.map fown) :: blk bo (outs.map El.v) 27 :: blk bl (us lasts) 23 :: H)) n 0
      ⟨rfl, Nat.zero_le _, [⟨none, 0, []⟩, ⟨none, 0, []⟩, ⟨none, 0, []⟩], [0, 0, 0], g, rfl, rfl, Hl.le_refl _, ?_, hs⟩ ?_
    · intro w h h'
      have : w = 0 ∨ w = 1 ∨ w = 2 := by simp at h; omega
      rcases this with rfl | rfl | rfl <;> exact ⟨⟨by simp, by simp, by simp⟩, by simp, by simp⟩
    clear hs
    rintro gk i w3 ⟨rfl, hi, outs, lasts, g3, ho3, hl3, hg3, hF, hs⟩
    refine go ?_
    cases hd : decide ((i : Int) < n) with
    | false =>
      refine go ?_
      refine A.mt () ⟨outs, lasts, g3, ho3, hl3, hg3, fun w h h' => ?_, hs⟩
      obtain ⟨f1, f2, f3⟩ := hF w h h'
      exact ⟨f1, by omega, by omega⟩
    | true =>
    have hd := of_decide_eq_true hd
    refine go ?_
    rw [show decide ((i : Int) < 60) = true from decide_eq_true (by omega)]
    refine go ?_
    have hil : i < zs.length := by omega
    have hz1 := hz zs[i] (List.getElem_mem hil)
    obtain ⟨lb, lo, ha⟩ := pr_some hp (by omega)
    subst ha
    have hp3 := hp.mono hg3
    have hzc : (hs16 zs)[i]? = some (.int .u16 (zs[i] : Nat)) := by simp [hs16, hil]
    have hcell : w3.cell? ⟨lb, lo + i, none⟩ = some (.int .u16 (zs[i] : Nat)) := ((hp3.row hs).cellAt rfl hzc).2
    generalize hzz : zs[i] = z at hz1 hzc hcell
    clear hzz
    refine go ?_
    have ew : (z : Int).tmod 3 = ((z % 3 : Nat) : Int) := (Int.ofNat_tmod z 3).symm
    have hw3 : z % 3 < 3 := Nat.mod_lt _ (by decide)
    rw [ew]
    generalize hwz : z % 3 = v at hw3
    clear hwz ew
    have hvo : v < outs.length := by omega
    have hvl : v < lasts.length := by omega
    obtain ⟨f1, f2, f3⟩ := hF v hvo hvl
    have hv3 : (v : Int) < 3 := by omega
    have hlv : (us lasts)[v]? = some (.int .u64 (lasts[v] : Nat)) := us_get hvl
    refine C.held0 hs ?_
    intro w4 hk hs
    have rl : Rd (Keeps g3 []) lb (lo + i) (.int .u16 (z : Nat)) := Rd.pool hp3 hzc
    refine goh ?_
    refine EH.ld hs ?_ (hf := .there (.there .here)) (hj := hlv)
    refine kept0 hs (fun hk => ?_)
    refine goh ?_
    have htb : lasts[v] + (1 + z / 16 % 4) ≤ 4 * (i + 1) := by omega
    have htl : lasts[v] < lasts[v] + (1 + z / 16 % 4) := by omega
    generalize htt : lasts[v] + (1 + z / 16 % 4) = t at htb htl
    have hus : spl (us lasts) v [.int .u64 (t : Nat)] = us (lasts.set v t) := by simp [spl, us]
    refine EH.sto hs ?_ (hf := .there (.there .here)) (hsp := hus) (hu := .there (.there .here)) (hj := Nat.ble_eq ▸ (by simp only [List.length_cons, List.length_nil, us_length]; omega))
    intro w5 hs
    refine kept0 hs (fun hk => ?_)
    refine EH.done ?_
    refine go ?_
    have hlt2 : (us (lasts.set v t))[v]? = some (.int .u64 (t : Nat)) := by simp [us, hvl]
    have hov : (outs.map El.v)[v]? = some (.slice outs[v].a outs[v].es.length outs[v].c) := by rw [List.getElem?_map, List.getElem?_eq_getElem hvo]; rfl
    refine C.cut (fun x : Nat => [(0, .slice (some ⟨lb, lo, none⟩) n c), (1, .int .i64 3), (5, .slice (some ⟨bo, 0, none⟩) 3 3), (6, .slice (some ⟨bl, 0, none⟩) 3 3), (7, .int .i64 i), (8, .int .i64 v), (9, .pointer (some ⟨x, 0, none⟩))])
      (fun b9 w => Sat W w g3 (blk b9 [.int .i64 v, .int .u64 (outs[v].es.length + 1 : Nat), .int .u64 (t : Nat), .int .u8 (1 + z / 64 % 256 % 4 : Nat), .string ⟨[UInt8.ofNat (97 + z / 256 % 4)].toArray⟩, .slice none 0 0, .float .f64 0, .int .i64 0] 43 :: bsep (outs.map fown) :: blk bo (outs.map El.v) 27 :: blk bl (us (lasts.set v t)) 23 :: H)) ?_ ?_
    · refine C.held2 bo bl hs ?_
      intro w6 hk hs
      have rl2 : Rd (Keeps g3 [(bo, outs.map El.v, 27), (bl, us (lasts.set v t), 23)]) lb (lo + i) (.int .u16 (z : Nat)) := Rd.pool hp3 hzc
      have rO : Rd (Keeps g3 [(bo, outs.map El.v, 27), (bl, us (lasts.set v t), 23)]) bo v (.slice outs[v].a outs[v].es.length outs[v].c) := Rd.blk .here hov
      have rL : Rd (Keeps g3 [(bo, outs.map El.v, 27), (bl, us (lasts.set v t), 23)]) bl v (.int .u64 (t : Nat)) := Rd.blk (.there .here) hlt2
      refine goh ?_
      have eb : bs [UInt8.ofNat (97 + z / 256 % 4)] = [.int .u8 (97 + z / 256 % 4 : Nat)] := by
        have : (97 + z / 256 % 4) % 256 = 97 + z / 256 % 4 := by omega
        simp only [bs, List.map_cons, List.map_nil, UInt8.toNat_ofNat']
        rw [show 2 ^ 8 = 256 by rfl, this]
      refine EH.ba hs ?_ ?_
      · intro b7 w7 hs
        refine kept2 hs (fun hk => ?_)
        refine EH.ora hs (St.string rfl Try.underlying40 Try.underlying5 Try.underlying9 ((by rw [eb]; exact hs.rowOf (size := 1) 1 rfl (by decide) : Row 1 _ (fun _ => True) _ 1 (bs [UInt8.ofNat (97 + z / 256 % 4)]))) ?_) ?_
        · refine kept2 hs (fun hk => ?_)
          refine goh ?_
          refine EH.al hs ?_
          intro b9 w9 hs
          refine kept2 hs (fun hk => ?_)
          refine goh ?_
          refine EH.sto hs ?_
          intro w10 hs
          refine kept2 hs (fun hk => ?_)
          refine EH.done ?_
          exact A.mt b9 (by have := hs.swap.drop; simpa using this)
        · intro b9 w9 hs
          refine kept2 hs (fun hk => ?_)
          refine EH.one (St.string rfl Try.underlying40 Try.underlying5 Try.underlying9 ((by rw [eb]; exact hs.swap.rowOf (size := 1) 1 rfl (by decide) : Row 1 _ (fun _ => True) _ 1 (bs [UInt8.ofNat (97 + z / 256 % 4)]))) ?_)
          refine kept2 hs (fun hk => ?_)
          refine goh ?_
          refine EH.sto hs ?_
          intro w10 hs
          refine kept2 hs (fun hk => ?_)
          refine EH.done ?_
          exact A.mt b9 (by have := hs.swap.drop; simpa using this)
      · intro b9 w9 hs
        refine kept2 hs (fun hk => ?_)
        refine EH.bsl hs ?_
        intro b7 w7 hs
        refine kept2 hs (fun hk => ?_)
        refine EH.one (St.string rfl Try.underlying40 Try.underlying5 Try.underlying9 ((by rw [eb]; exact hs.rowOf (size := 1) 1 rfl (by decide) : Row 1 _ (fun _ => True) _ 1 (bs [UInt8.ofNat (97 + z / 256 % 4)]))) ?_)
        refine kept2 hs (fun hk => ?_)
        refine goh ?_
        refine EH.sto hs ?_
        intro w10 hs
        refine kept2 hs (fun hk => ?_)
        refine EH.done ?_
        exact A.mt b9 (by have := hs.drop; simpa using this)
    clear hs
    rintro b9 w11 hs
    have hkd : 1 ≤ 1 + z / 64 % 256 % 4 ∧ 1 + z / 64 % 256 % 4 ≤ 4 := by omega
    generalize 1 + z / 64 % 256 % 4 = kd at hkd hs
    obtain ⟨qr, hqr, hqr2⟩ := quarter i (by omega)
    have hi60 : i < 60 := by omega
    have hk100 : (97 + z / 256 % 4) < 256 := by omega
    apply later (f := fun _ : Ev × Hl => [(0, .slice (some ⟨lb, lo, none⟩) n c), (1, .int .i64 3), (5, .slice (some ⟨bo, 0, none⟩) 3 3), (6, .slice (some ⟨bl, 0, none⟩) 3 3), (7, .int .i64 i), (8, .int .i64 v), (9, .pointer (some ⟨b9, 0, none⟩))])
      (M := fun x w => Hl.le g3 x.2 ∧ x.1.fine x.2 v t ∧ x.1.sq = outs[v].es.length + 1 ∧ x.1.tm = t ∧ Sat W w x.2 (blk b9 x.1.cs 43 :: bsep (outs.map fown) :: blk bo (outs.map El.v) 27 :: blk bl (us (lasts.set v t)) 23 :: H))
    · intro key
      have hF1 : ∀ {kd' : Nat} {text : List UInt8} {num : Nat} {tv : Value} {g' : Hl}, 1 ≤ kd' ∧ kd' ≤ 4 → text.length ≤ 1 → num < 18446744073709551616 → Pr 1 g' tv text.length (bs text) → Ev.fine ⟨(v : Nat), outs[v].es.length + 1, t, kd', [UInt8.ofNat (97 + z / 256 % 4)], text, num, 0, tv⟩ g' v t :=
        fun h1 h2 h3 h4 => mkFine hw3 (by omega) (by omega) h1 h2 h3 h4
      have hcases : kd = 1 ∨ kd = 2 ∨ kd = 3 ∨ kd = 4 := by omega
      rcases hcases with rfl | rfl | rfl | rfl
      · refine go ?_
        refine E.bsl hs ?_
        intro b12 w12 hs
        refine go ?_
        refine E.sto hs ?_
        intro w13 hs
        have hbs : [.int .u8 (i : Nat)] = bs [UInt8.ofNat i] := by
          have : i % 256 = i := by omega
          simp [bs, this]
        obtain ⟨g14, hg14, hp14, hs⟩ := (hs.blkOwn (size := 1) 1 rfl (by decide)).publishOwn
        rw [hbs] at hp14
        refine go ?_
        exact C.forget wk_ (key (_, g14) _ ⟨hg14, hF1 (kd' := 1) (text := [UInt8.ofNat i]) (num := 0) (by decide) (by simp) (by decide) hp14, rfl, rfl, hs⟩)
      · refine go ?_
        refine E.fdiv hqr ?_
        refine go ?_
        refine E.sto hs ?_
        intro w13 hs
        refine go ?_
        exact C.forget wk_ (key (_, g3) _ ⟨Hl.le_refl _, hF1 (kd' := 2) (text := []) (num := qr) (by decide) (by simp) hqr2 Pr.nil, rfl, rfl, hs⟩)
      · refine go ?_
        refine E.fdiv hqr ?_
        refine go ?_
        refine E.sto hs ?_
        intro w13 hs
        refine go ?_
        exact C.forget wk_ (key (_, g3) _ ⟨Hl.le_refl _, hF1 (kd' := 3) (text := []) (num := qr) (by decide) (by simp) hqr2 Pr.nil, rfl, rfl, hs⟩)
      · refine go ?_
        exact C.forget wk_ (key (_, g3) _ ⟨Hl.le_refl _, hF1 (kd' := 4) (text := []) (num := 0) (by decide) (by simp) (by decide) Pr.nil, rfl, rfl, hs⟩)
    clear hs
    rintro ⟨e, g15⟩ w15 ⟨hg15, hfe, hsq, htm, hs⟩
    simp only at hg15 hfe hsq htm hs
    have hov9 : outs[v].es.length ≤ 60 := by omega
    have hsplit : outs.map fown = (outs.take v).map fown ++ fown outs[v] :: (outs.drop (v + 1)).map fown := by
      rw [← List.map_cons, ← List.map_append, ← List.drop_eq_getElem_cons hvo, List.take_append_drop]
    have ag1 := ag_ev
    have hspl : ∀ a17 c17, spl (outs.map El.v) v [.slice a17 (outs[v].es.length + 1) c17] = (outs.set v ⟨a17, c17, outs[v].es ++ [e]⟩).map El.v := fun a17 c17 => by
      simp [spl, List.map_set, El.v]
    have bj : ∀ a17 c17, Nat.ble (v + [Value.slice a17 (outs[v].es.length + 1) c17].length) (outs.map El.v).length = true := fun a17 c17 => by rw [Nat.ble_eq]; simp only [List.length_cons, List.length_nil, List.length_map]; omega
    apply laterA (α := (Option Addr × Nat)) (f := fun x => [(0, .slice (some ⟨lb, lo, none⟩) n c), (1, .int .i64 3), (5, .slice (some ⟨bo, 0, none⟩) 3 3), (6, .slice (some ⟨bl, 0, none⟩) 3 3), (7, .int .i64 i)])
      (M := fun x w => Sat W w g15 (own 43 8 (.slice x.1 (outs[v].es.length + 1) x.2) (outs[v].es.length + 1) (evC outs[v].es ++ e.cs) :: bsep ((outs.take v).map fown ++ (outs.drop (v + 1)).map fown) :: blk bo ((outs.set v ⟨x.1, x.2, outs[v].es ++ [e]⟩).map El.v) 27 :: blk bl (us (lasts.set v t)) 23 :: H))
    · intro key
      refine C.held1 b9 hs ?_
      intro w16 hk hs
      refine goh ?_
      refine EH.lbe el_ev hs (cs := e.cs) rfl hov ?_ ?_
      · refine kept1 hs (fun hk => ?_)
        refine EH.bsle el_ev hs (cs := e.cs) rfl ?_
        intro b17 w17 hs
        refine kept1 hs (fun hk => ?_)
        refine EH.app el_ev (bsep_out (l1 := (outs.take v).map fown) (l2 := (outs.drop (v + 1)).map fown) (p := fown outs[v]) (by rw [← hsplit]; exact hs.pull2)) (hs.rowOf (size := 8) 1 rfl (by decide)) ?_ (h1 := fun u hu => List.all_eq_true.1 (Ev.cs_one hfe.ok) u hu)
        intro a17 c17 w17 _ _ hs
        refine kept1 hs (fun hk => ?_)
        refine goh ?_
        refine EH.sto (vs := [.slice a17 (outs[v].es.length + 1) c17]) (ys := (outs.set v ⟨a17, c17, outs[v].es ++ [e]⟩).map El.v) hs ?_ (hv := rfl) (hf := .there (.there (.there (.there .here)))) (hu := .there (.there (.there (.there .here)))) (hsp := hspl a17 c17) (hj := bj a17 c17)
        intro w18 hs
        refine kept1 hs (fun hk => ?_)
        refine EH.done ?_
        refine A.forget wk_ (key (a17, c17) _ ?_)
        exact hs.pull2.drop.pull2.drop
      · intro b17 w17 hs
        refine kept1 hs (fun hk => ?_)
        refine EH.ld hs ?_ (hf := .there (.there (.there .here))) (hj := hov)
        refine kept1 hs (fun hk => ?_)
        refine EH.app el_ev (bsep_out (l1 := (outs.take v).map fown) (l2 := (outs.drop (v + 1)).map fown) (p := fown outs[v]) (by rw [← hsplit]; exact hs.pull2)) (hs.rowOf (size := 8) 1 rfl (by decide)) ?_ (h1 := fun u hu => List.all_eq_true.1 (Ev.cs_one hfe.ok) u hu)
        intro a17 c17 w17 _ _ hs
        refine kept1 hs (fun hk => ?_)
        refine goh ?_
        refine EH.sto (vs := [.slice a17 (outs[v].es.length + 1) c17]) (ys := (outs.set v ⟨a17, c17, outs[v].es ++ [e]⟩).map El.v) hs ?_ (hv := rfl) (hf := .there (.there (.there (.there .here)))) (hu := .there (.there (.there (.there .here)))) (hsp := hspl a17 c17) (hj := bj a17 c17)
        intro w18 hs
        refine kept1 hs (fun hk => ?_)
        refine EH.done ?_
        refine A.forget wk_ (key (a17, c17) _ ?_)
        exact hs.pull2.drop.pull2.drop
    clear hs
    rintro ⟨a17, c17⟩ w19 hs
    simp only at hs ⊢
    refine go ?_
    refine A.rd (n - (i + 1)) (i + 1) ⟨rfl, by omega, outs.set v ⟨a17, c17, outs[v].es ++ [e]⟩, lasts.set v t, g15, by simpa using ho3, by simpa using hl3, hg3.trans hg15, fun u h h' => ?_, ?_⟩
    · simp only [List.length_set] at h h'
      obtain ⟨q1, q2, q3⟩ := hF u h h'
      rcases Nat.decEq v u with hne | rfl
      · rw [List.getElem_set_ne hne, List.getElem_set_ne hne]
        exact ⟨q1.mono hg15, by omega, by omega⟩
      · rw [List.getElem_set_self, List.getElem_set_self]
        refine ⟨q1.add hg15 (by omega) hfe (by omega) hsq, by omega, by simp; omega⟩
    · have e1 : (outs.set v ⟨a17, c17, outs[v].es ++ [e]⟩).map fown = (outs.take v).map fown ++ fown ⟨a17, c17, outs[v].es ++ [e]⟩ :: (outs.drop (v + 1)).map fown := by
        rw [List.set_eq_take_append_cons_drop, if_pos hvo, List.map_append, List.map_cons]
      rw [e1]
      refine bsep_in ?_
      have e2 : fown ⟨a17, c17, outs[v].es ++ [e]⟩ = own 43 8 (.slice a17 (outs[v].es.length + 1) c17) (outs[v].es.length + 1) (evC outs[v].es ++ e.cs) := by
        simp only [fown, El.v, List.length_append, List.length_cons, List.length_nil, evC_append]
        simp [evC]
      rw [e2]
      exact hs
  · clear hs
    rintro _ w20 ⟨outs, lasts, g4, ho3, hl3, hg4, hF, hs⟩
    match outs, lasts, ho3, hl3 with
    | [x0, x1, x2], [l0, l1, l2], _, _ =>
    have hs := Sat.bopen hs
    simp only [List.map_cons, List.map_nil, List.cons_append, List.nil_append] at hs
    obtain ⟨g5, hg5, hp5, hs⟩ := hs.publishOwn
    obtain ⟨g6, hg6, hp6, hs⟩ := hs.publishOwn
    obtain ⟨g7, hg7, hp7, hs⟩ := hs.publishOwn
    obtain ⟨g8, hg8, hp8, hs⟩ := (hs.blkOwn (size := 1) 3 rfl (by decide)).publishOwn
    refine go ?_
    refine A.r1 ?_
    have hg48 := ((hg5.trans hg6).trans hg7).trans hg8
    refine HR.out _ _ [x0, x1, x2] _ g8 (hg4.trans hg48) rfl (fun u h => ?_) (fun x hx => ?_) hp8 hs.drop
    · have h' : u < [l0, l1, l2].length := by simpa using h
      obtain ⟨q1, q2, q3⟩ := hF u h h'
      exact ⟨_, q2, q1.mono hg48, q3⟩
    · have f0 := (hF 0 (by simp) (by simp)).1.mono hg48
      have f1 := (hF 1 (by simp) (by simp)).1.mono hg48
      have f2 := (hF 2 (by simp) (by simp)).1.mono hg48
      have low : ∀ {w l : Nat} {es : List Ev}, w < 3 → Feed g8 w es l → ∀ e ∈ es, e.ok g8 ∧ e.low := fun hw hf e he => by
        have := hf.evs e he
        exact ⟨this.ok, by unfold Ev.low; rw [this.wr]; omega⟩
      simp only [List.mem_cons, List.not_mem_nil, or_false] at hx
      rcases hx with rfl | rfl | rfl
      · exact ⟨((hp5.mono hg6).mono hg7).mono hg8, low (by decide) f0⟩
      · exact ⟨(hp6.mono hg7).mono hg8, low (by decide) f1⟩
      · exact ⟨hp7.mono hg8, low (by decide) f2⟩
end Go.Proofs.Ytkolnecahlkndaa
