/-
  Layer 12 (order): lists of events, by their first ones: what lies in memory; Len, Less, Swap, Pop.
-/
import Derived.Test.YtkolnecahlkndaaVb
import Derived.Test.YtkolnecahlkndaaHb
namespace Go.Proofs.Ytkolnecahlkndaa
open Go.RowKit
set_option linter.unusedVariables false
set_option linter.unusedSimpArgs false

/-- The cells of events. -/
def evC (l : List Ev) : List Value := l.flatMap Ev.cs
@[simp] theorem evC_length (l : List Ev) : (evC l).length = l.length * 8 := by
  induction l with
  | nil => rfl
  | cons x r ih => simp only [evC, List.flatMap_cons, List.length_append, List.length_cons] at ih ⊢; rw [ih]; simp [Ev.cs]; omega
theorem evC_drop : ∀ (l : List Ev) (j : Nat), (evC l).drop (j * 8) = evC (l.drop j)
  | l, 0 => by simp
  | [], j + 1 => by simp [evC]
  | x :: r, j + 1 => by
    have : (j + 1) * 8 = 8 + j * 8 := by omega
    rw [this, ← List.drop_drop]
    have h8 : (evC (x :: r)).drop 8 = evC r := by simp [evC, Ev.cs]
    rw [h8, evC_drop r j]
    rfl
theorem evC_take : ∀ (l : List Ev) (j : Nat), (evC l).take (j * 8) = evC (l.take j)
  | l, 0 => by simp [evC]
  | [], j + 1 => by simp [evC]
  | x :: r, j + 1 => by
    have : (j + 1) * 8 = 8 + j * 8 := by omega
    have e1 : evC (x :: r) = x.cs ++ evC r := rfl
    have e2 : x.cs.length = 8 := rfl
    rw [this, e1, List.take_append, e2, List.take_of_length_le (by rw [e2]; omega), show 8 + j * 8 - 8 = j * 8 by omega, evC_take r j]
    rfl
theorem evC_at {l : List Ev} {j : Nat} (h : j < l.length) : ((evC l).drop (j * 8)).take 8 = l[j].cs := by
  rw [evC_drop, List.drop_eq_getElem_cons h]
  exact (evC_take (l[j] :: l.drop (j + 1)) 1).trans (by simp only [List.take_succ_cons, List.take_zero, evC, List.flatMap_cons, List.flatMap_nil, List.append_nil])
theorem evC_append (a b : List Ev) : evC (a ++ b) = evC a ++ evC b := by simp [evC]
theorem el_ev : ElemOf Try.prog 27 43 (.agg #[.int .i64 0, .int .u64 0, .int .u64 0, .int .u8 0, .string ⟨#[]⟩, .slice none 0 0, .float .f64 0, .int .i64 0]) 8 88 := .of Try.underlying27 (by kernel_rfl) rfl (by decide)

/-- Events that may be in order: their writers are small. -/
def Ev.low (e : Ev) : Prop := 0 ≤ e.wr ∧ e.wr < 64
def Ev.ky (e : Ev) : Nat := e.tm * 64 + e.wr.toNat
theorem ky_lt {a b : Ev} (ha : a.low) (hb : b.low) : cmpS a.tm a.wr b.tm b.wr < 0 ↔ a.ky < b.ky := by
  rw [cmpS_lt]; unfold Ev.ky Ev.low at *; omega

/-- A list that isn't empty, and where it lies. -/
structure Hd where
  b : Nat
  o : Nat
  c : Nat
  es : List Ev
def Hd.v (x : Hd) : Value := .slice (some ⟨x.b, x.o, none⟩) x.es.length x.c
def Hd.hd (x : Hd) : Ev := x.es.headD ⟨0, 0, 0, 0, [], [], 0, 0, .slice none 0 0⟩
structure Hd.ok (x : Hd) (g : Hl) : Prop where
  row : Pr 8 g x.v x.es.length (evC x.es)
  ne : x.es ≠ []
  evs : ∀ e ∈ x.es, e.ok g ∧ e.low
theorem Hd.ok.mono {x : Hd} {g g' : Hl} (h : x.ok g) (hg : Hl.le g g') : x.ok g' := ⟨h.row.mono hg, h.ne, fun e he => ⟨(h.evs e he).1.mono hg, (h.evs e he).2⟩⟩
theorem hd_zero {x : Hd} (h : 0 < x.es.length) : x.es[0] = x.hd := by
  unfold Hd.hd
  rw [List.headD_eq_head?_getD, List.head?_eq_getElem?, List.getElem?_eq_getElem h]
  rfl
def Hd.ky (x : Hd) : Nat := x.hd.ky
theorem Hd.hd_mem {x : Hd} (h : x.es ≠ []) : x.hd ∈ x.es := by
  unfold Hd.hd
  cases hx : x.es with
  | nil => exact absurd hx h
  | cons a r => simp
theorem el_hds : ElemOf Try.prog 106 27 (.slice none 0 0) 1 24 := .of Try.underlying106 (by kernel_rfl) rfl (by decide)

/-- The lists' own row. -/
def hrow (v : Value) (n : Nat) (L : List Hd) : HP := own 27 1 v n (L.map Hd.v)

/-- An own row, with all its places. -/
theorem own_open {W w : World} {g : Hl} {H : List HP} {E : TypeId} {n c : Nat} {a : Option Addr} {xs : List Value} (hn : 0 < n) (hs : Sat W w g (own E 1 (.slice a n c) n xs :: H)) :
    ∃ b ys, a = some ⟨b, 0, none⟩ ∧ ys.length = c ∧ n ≤ c ∧ c ≤ 9223372036854775807 ∧ ys.take n = xs ∧ Sat W w g (blk b ys E :: H) := by
  obtain ⟨h1, h2, h3, h, ⟨x1, x2, d, ed, ⟨hl, hp⟩, s⟩, dg, ag⟩ := hs
  rcases hp with ⟨e1, e2⟩ | ⟨b, cap, cur, e1, hnc, hcm, hcs, ht, he⟩
  · simp only [Value.slice.injEq] at e1; omega
  · simp only [Value.slice.injEq] at e1
    obtain ⟨rfl, -, rfl⟩ := e1
    refine ⟨b, cur.toList, rfl, by simpa using hcs, hnc, by unfold maxLen at hcm; omega, by simpa using ht, h1, h2, h3, h, ⟨x1, x2, d, ed, ?_, s⟩, dg, ag⟩
    rw [he]
    rfl
theorem own_close {W w : World} {g : Hl} {H : List HP} {E : TypeId} {n c b : Nat} {ys xs : List Value} (hyc : ys.length = c) (hn : n ≤ c) (hc : c ≤ 9223372036854775807) (ht : ys.take n = xs) (hs : Sat W w g (blk b ys E :: H)) : Sat W w g (own E 1 (.slice (some ⟨b, 0, none⟩) n c) n xs :: H) := hs.conv fun h e => by
  refine ⟨?_, .inr ⟨b, c, ys.toArray, rfl, hn, by unfold maxLen; omega, by simpa using hyc, by simpa using ht, e⟩⟩
  rw [← ht, List.length_take]; omega

/-- A struct out of a pool's row, while some is held. -/
theorem Pf.loadpr {P : Program} {n : Fm} {ρ : List (Nat × Value)} {g : Hl} {F : List (Nat × List Value × TypeId)} {t ty : TypeId} {x : Operand} {s m c b o j : Nat} {xs vs : List Value} (st : AggOf P t s) (hp : Pr s g (.slice (some ⟨b, o, none⟩) m c) m xs) (hj : j < m) (hv : (xs.drop (j * s)).take s = vs) (hl : vs.length = s)
    (hx : evo n ρ x = some (.pointer (some ⟨b, o + j * s, none⟩))) : Pf P n (Keeps g F) ρ (.load t x) ty (.agg vs.toArray) := fun a ha w hS d ps af g' => by
  have hr : w.rangeAt b (o + j * s) vs := by
    obtain ⟨h1, a0, c0, e1, hn, hc, hN, h⟩ := hp
    simp only [Value.slice.injEq] at e1
    obtain ⟨rfl, _, rfl⟩ := e1
    rcases h with rfl | ⟨b', o', cur, t', fz, e2, hg, ht⟩
    · omega
    · simp only [Option.some.injEq, Addr.mk.injEq] at e2
      obtain ⟨rfl, rfl, _⟩ := e2
      intro q v hq
      have hb := hS.1 _ _ hg
      rw [← hv, List.getElem?_take] at hq
      split at hq
      · rw [List.getElem?_drop, ← ht, List.getElem?_take] at hq
        split at hq
        · rw [List.getElem?_drop] at hq
          simp only [World.cell?, hb]
          rw [show o + j * s + q = o + (j * s + q) by omega]
          simpa using hq
        · cases hq
      · cases hq
  obtain ⟨d', h1, h2, h3⟩ := st
  subst hl
  have := run_loadVar_mid w b (o + j * vs.length) t vs d' hr h1 (by cases d' <;> first | rfl | simp at h2) h3 (P := P)
  simp [execOp, ha.eval hx, Instr.loadAt, Instr.sureAddr, this]

set_option maxHeartbeats 1600000 in
set_option maxRecDepth 100000 in
theorem hlen_any {R : Ending → World → Prop} {w : World} {a : Option Addr} {n c : Nat} (hR : R (.returned (.int .i64 n)) w) : Calls Try.prog 117 #[.slice a n c] w R := by
  have HR := Lib.hid hR
  clear hR
  refine C.calls (args := [.slice a n c]) Try.func117 rfl rfl rfl ?_
  refine go ?_
  refine A.r1 ?_
  exact HR.out

set_option maxHeartbeats 1600000 in
set_option maxRecDepth 100000 in
theorem hless_any {R : Ending → World → Prop} {W w : World} {g : Hl} {H : List HP} {v : Value} {n i j : Nat} {L : List Hd} (hok : ∀ x ∈ L, x.ok g) (hn : L.length = n) (hi : i < n) (hj : j < n) (hs : Sat W w g (hrow v n L :: H))
    (hR : ∀ w', Sat W w' g (hrow v n L :: H) → R (.returned (.bool (decide (kat Hd.ky L i < kat Hd.ky L j)))) w') : Calls Try.prog 118 #[v, .int .i64 i, .int .i64 j] w R := by
  have HR := Lib.hid hR
  clear hR
  obtain ⟨a, c, rfl, hnc, hcm, _⟩ := Sat.ownLen hs
  obtain ⟨b, ys, rfl, hyc, _, _, hyt, hs⟩ := own_open (by omega) hs
  have hiL : i < L.length := by omega
  have hjL : j < L.length := by omega
  have oi := hok L[i] (List.getElem_mem hiL)
  have oj := hok L[j] (List.getElem_mem hjL)
  have li : 0 < L[i].es.length := by have := oi.ne; cases h : L[i].es <;> simp_all
  have lj : 0 < L[j].es.length := by have := oj.ne; cases h : L[j].es <;> simp_all
  have yi : ys[i]? = some (.slice (some ⟨L[i].b, L[i].o, none⟩) L[i].es.length L[i].c) := by
    have : (ys.take n)[i]? = (L.map Hd.v)[i]? := by rw [hyt]
    rw [List.getElem?_take, if_pos hi, List.getElem?_map, List.getElem?_eq_getElem hiL] at this
    exact this
  have yj : ys[j]? = some (.slice (some ⟨L[j].b, L[j].o, none⟩) L[j].es.length L[j].c) := by
    have : (ys.take n)[j]? = (L.map Hd.v)[j]? := by rw [hyt]
    rw [List.getElem?_take, if_pos hj, List.getElem?_map, List.getElem?_eq_getElem hjL] at this
    exact this
  have hi' : (i : Int) < n := by omega
  have hj' : (j : Int) < n := by omega
  have li' : (0 : Int) < (L[i].es.length : Nat) := by omega
  have lj' : (0 : Int) < (L[j].es.length : Nat) := by omega
  refine C.calls (args := [.slice (some ⟨b, 0, none⟩) n c, .int .i64 i, .int .i64 j]) Try.func118 rfl rfl rfl ?_
  refine go ?_
  refine C.held1 b hs ?_
  intro w1 hk hs
  have ri : Rd (Keeps g [(b, ys, 27)]) b i (.slice (some ⟨L[i].b, L[i].o, none⟩) L[i].es.length L[i].c) := Rd.blk .here yi
  have rj : Rd (Keeps g [(b, ys, 27)]) b j (.slice (some ⟨L[j].b, L[j].o, none⟩) L[j].es.length L[j].c) := Rd.blk .here yj
  refine goh ?_
  have vi : ((evC L[i].es).drop (0 * 8)).take 8 = L[i].hd.cs := by rw [evC_at li, hd_zero li]
  have vj : ((evC L[j].es).drop (0 * 8)).take 8 = L[j].hd.cs := by rw [evC_at lj, hd_zero lj]
  refine EH.t0 hk ?_ (hy := Pf.loadpr ag_ev oi.row li vi rfl rfl)
  refine EH.t1 hk ?_ (hy := Pf.loadpr ag_ev oj.row lj vj rfl rfl)
  refine EH.one (St.callf Try.func39 rfl ?_)
  refine at_any (e := L[i].hd) hs ?_
  intro w2 hs
  refine kept1 hs (fun hk => ?_)
  refine EH.one (St.callf Try.func39 rfl ?_)
  refine at_any (e := L[j].hd) hs ?_
  intro w3 hs
  refine kept1 hs (fun hk => ?_)
  refine EH.one (St.callf Try.func24 rfl ?_)
  refine compare_any (t1 := L[i].hd.tm) (w1 := L[i].hd.wr) (t2 := L[j].hd.tm) (w2 := L[j].hd.wr) hs ?_
  intro w4 hs
  refine kept1 hs (fun hk => ?_)
  refine goh ?_
  refine EH.done ?_
  refine go ?_
  refine A.r1 ?_
  have := HR.out w4 (own_close hyc hnc hcm hyt hs)
  have e : decide (kat Hd.ky L i < kat Hd.ky L j) = decide (cmpS L[i].hd.tm L[i].hd.wr L[j].hd.tm L[j].hd.wr < 0) := by
    rw [decide_eq_decide, ky_lt (oi.evs _ (Hd.hd_mem oi.ne)).2 (oj.evs _ (Hd.hd_mem oj.ne)).2]
    simp [kat, hiL, hjL, Hd.ky]
  rw [e] at this
  exact this

set_option maxHeartbeats 1600000 in
set_option maxRecDepth 100000 in
theorem hswap_any {R : Ending → World → Prop} {W w : World} {g : Hl} {H : List HP} {v : Value} {n i j : Nat} {L : List Hd} (hn : L.length = n) (hi : i < n) (hj : j < n) (hs : Sat W w g (hrow v n L :: H))
    (hR : ∀ w', Sat W w' g (hrow v n (sw L i j) :: H) → R (.returned (.tuple #[])) w') : Calls Try.prog 119 #[v, .int .i64 i, .int .i64 j] w R := by
  have HR := Lib.hid hR
  clear hR
  obtain ⟨a, c, rfl, hnc, hcm, _⟩ := Sat.ownLen hs
  obtain ⟨b, ys, rfl, hyc, _, _, hyt, hs⟩ := own_open (by omega) hs
  have hiL : i < L.length := by omega
  have hjL : j < L.length := by omega
  have yi : ys[i]? = some L[i].v := by
    have : (ys.take n)[i]? = (L.map Hd.v)[i]? := by rw [hyt]
    rw [List.getElem?_take, if_pos hi, List.getElem?_map, List.getElem?_eq_getElem hiL] at this
    exact this
  have yj : ys[j]? = some L[j].v := by
    have : (ys.take n)[j]? = (L.map Hd.v)[j]? := by rw [hyt]
    rw [List.getElem?_take, if_pos hj, List.getElem?_map, List.getElem?_eq_getElem hjL] at this
    exact this
  have hi' : (i : Int) < n := by omega
  have hj' : (j : Int) < n := by omega
  have fin : ∀ w', Sat W w' g (blk b ((ys.set i L[j].v).set j L[i].v) 27 :: H) → R (.returned (.tuple #[])) w' := fun w' hs' => by
    refine HR.out w' (own_close (by simpa using hyc) hnc hcm ?_ hs')
    rw [sw_eq hiL hjL, List.take_set, List.take_set, hyt, List.map_set, List.map_set]
  clear HR
  have HR := Lib.hid fin
  clear fin
  refine C.calls (args := [.slice (some ⟨b, 0, none⟩) n c, .int .i64 i, .int .i64 j]) Try.func119 rfl rfl rfl ?_
  refine go ?_
  refine C.held0 hs ?_
  intro w1 hk hs
  refine goh ?_
  have bi : Nat.ble (i + [L[j].v].length) ys.length = true := Nat.ble_eq ▸ (by simp only [List.length_cons, List.length_nil]; omega)
  have bj : Nat.ble (j + [L[i].v].length) (ys.set i L[j].v).length = true := Nat.ble_eq ▸ (by simp only [List.length_cons, List.length_nil, List.length_set]; omega)
  refine EH.ll hs yj yi ?_ ?_
  · refine kept0 hs (fun hk => ?_)
    refine goh ?_
    refine EH.ld hs ?_ (hj := yi)
    refine kept0 hs (fun hk => ?_)
    refine goh ?_
    refine EH.sto (vs := [L[j].v]) (ys := ys.set i L[j].v) hs ?_ (hv := rfl) (hsp := rfl) (hj := bi)
    intro w2 hs
    refine kept0 hs (fun hk => ?_)
    refine goh ?_
    refine EH.sto (vs := [L[i].v]) (ys := (ys.set i L[j].v).set j L[i].v) hs ?_ (hv := rfl) (hsp := rfl) (hj := bj)
    intro w3 hs
    refine kept0 hs (fun hk => ?_)
    refine goh ?_
    refine EH.done ?_
    refine go ?_
    refine A.e0 ?_
    exact HR.out _ hs
  · refine kept0 hs (fun hk => ?_)
    refine goh ?_
    refine EH.ld hs ?_ (hj := yj)
    refine kept0 hs (fun hk => ?_)
    refine goh ?_
    refine EH.sto (vs := [L[j].v]) (ys := ys.set i L[j].v) hs ?_ (hv := rfl) (hsp := rfl) (hj := bi)
    intro w2 hs
    refine kept0 hs (fun hk => ?_)
    refine goh ?_
    refine EH.sto (vs := [L[i].v]) (ys := (ys.set i L[j].v).set j L[i].v) hs ?_ (hv := rfl) (hsp := rfl) (hj := bj)
    intro w3 hs
    refine kept0 hs (fun hk => ?_)
    refine goh ?_
    refine EH.done ?_
    refine go ?_
    refine A.e0 ?_
    exact HR.out _ hs
end Go.Proofs.Ytkolnecahlkndaa
