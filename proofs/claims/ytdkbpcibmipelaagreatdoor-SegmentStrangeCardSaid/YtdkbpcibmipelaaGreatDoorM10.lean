/-
  Layer 12 (order): lists of events, by their first ones: what lies in memory; Len, Less, Swap, Pop.
-/
import Derived.Test.YtdkbpcibmipelaaGreatDoorM09
import Derived.Test.YtdkbpcibmipelaaGreatDoorM04
import Derived.Test.YtdkbpcibmipelaaGreatDoorM08
import Derived.Test.YtdkbpcibmipelaaGreatDoorM03
import Derived.Test.YtdkbpcibmipelaaGreatDoorM02
namespace Go.Proofs.YtdkbpcibmipelaaGreatDoor
open Go.RowKit
set_option linter.unusedVariables false
set_option linter.unusedSimpArgs false

/-- The cells of events. -/
def evC (l : List Ev) : List Value := l.flatMap Ev.cs
@[simp] theorem evC_length (l : List Ev) : (evC l).length = l.length * 8 := by
  induction l with
  | nil => rfl
  | cons x r ih => simp only [evC, List.flatMap_cons, List.length_append, List.length_cons] at ih ⊢; rw [ih]; simp [Ev.cs]; omega
theorem evC_drop : ∀ (l : List Ev) (j : Nat), (evC l).drop (j * 8) = evC (l.drop j)
  | l, 0 => by simp
  | [], j + 1 => by simp [evC]
  | x :: r, j + 1 => by
    have : (j + 1) * 8 = 8 + j * 8 := by omega
    rw [this, ← List.drop_drop]
    have h8 : (evC (x :: r)).drop 8 = evC r := by simp [evC, Ev.cs]
    rw [h8, evC_drop r j]
    rfl
theorem evC_take : ∀ (l : List Ev) (j : Nat), (evC l).take (j * 8) = evC (l.take j)
  | l, 0 => by simp [evC]
  | [], j + 1 => by simp [evC]
  | x :: r, j + 1 => by
    have : (j + 1) * 8 = 8 + j * 8 := by omega
    have e1 : evC (x :: r) = x.cs ++ evC r := rfl
    have e2 : x.cs.length = 8 := rfl
    rw [this, e1, List.take_append, e2, List.take_of_length_le (by rw [e2]; omega), show 8 + j * 8 - 8 = j * 8 by omega, evC_take r j]
    rfl
theorem evC_at {l : List Ev} {j : Nat} (h : j < l.length) : ((evC l).drop (j * 8)).take 8 = l[j].cs := by
  rw [evC_drop, List.drop_eq_getElem_cons h]
  exact (evC_take (l[j] :: l.drop (j + 1)) 1).trans (by simp only [List.take_succ_cons, List.take_zero, evC, List.flatMap_cons, List.flatMap_nil, List.append_nil])
theorem evC_append (a b : List Ev) : evC (a ++ b) = evC a ++ evC b := by simp [evC]
theorem el_ev : ElemOf Tryz.prog 27 46 (.agg #[.int .i64 0, .int .u64 0, .int .u64 0, .int .u8 0, .string ⟨#[]⟩, .slice none 0 0, .float .f64 0, .int .i64 0]) 8 88 := .of Tryz.underlying27 (by kernel_rfl) rfl (by decide)

/-- Events that may be in order: their writers are small. -/
def Ev.low (e : Ev) : Prop := 0 ≤ e.wr ∧ e.wr < 64
def Ev.ky (e : Ev) : Nat := e.tm * 64 + e.wr.toNat
theorem ky_lt {a b : Ev} (ha : a.low) (hb : b.low) : cmpS a.tm a.wr b.tm b.wr < 0 ↔ a.ky < b.ky := by
  rw [cmpS_lt]; unfold Ev.ky Ev.low at *; omega

/-- A list that isn't empty, and where it lies. -/
structure Hd where
  b : Nat
  o : Nat
  c : Nat
  es : List Ev
def Hd.v (x : Hd) : Value := .slice (some ⟨x.b, x.o, none⟩) x.es.length x.c
def Hd.hd (x : Hd) : Ev := x.es.headD ⟨0, 0, 0, 0, [], [], 0, 0, .slice none 0 0⟩
structure Hd.ok (x : Hd) (g : Hl) : Prop where
  row : Pr 8 g x.v x.es.length (evC x.es)
  ne : x.es ≠ []
  evs : ∀ e ∈ x.es, e.ok g ∧ e.low
theorem Hd.ok.mono {x : Hd} {g g' : Hl} (h : x.ok g) (hg : Hl.le g g') : x.ok g' := ⟨h.row.mono hg, h.ne, fun e he => ⟨(h.evs e he).1.mono hg, (h.evs e he).2⟩⟩
theorem hd_zero {x : Hd} (h : 0 < x.es.length) : x.es[0] = x.hd := by
  unfold Hd.hd
  rw [List.headD_eq_head?_getD, List.head?_eq_getElem?, List.getElem?_eq_getElem h]
  rfl
def Hd.ky (x : Hd) : Nat := x.hd.ky
theorem Hd.hd_mem {x : Hd} (h : x.es ≠ []) : x.hd ∈ x.es := by
  unfold Hd.hd
  cases hx : x.es with
  | nil => exact absurd hx h
  | cons a r => simp
theorem el_hds : ElemOf Tryz.prog 348 27 (.slice none 0 0) 1 24 := .of Tryz.underlying348 (by kernel_rfl) rfl (by decide)

/-- The lists' own row. -/
def hrow (v : Value) (n : Nat) (L : List Hd) : HP := own 27 1 v n (L.map Hd.v)

/-- An own row, with all its places. -/
theorem own_open {W w : World} {g : Hl} {H : List HP} {E : TypeId} {n c : Nat} {a : Option Addr} {xs : List Value} (hn : 0 < n) (hs : Sat W w g (own E 1 (.slice a n c) n xs :: H)) :
    ∃ b ys, a = some ⟨b, 0, none⟩ ∧ ys.length = c ∧ n ≤ c ∧ c ≤ 9223372036854775807 ∧ ys.take n = xs ∧ Sat W w g (blk b ys E :: H) := by
  obtain ⟨h1, h2, h3, h, ⟨x1, x2, d, ed, ⟨hl, hp⟩, s⟩, dg, ag⟩ := hs
  rcases hp with ⟨e1, e2⟩ | ⟨b, cap, cur, e1, hnc, hcm, hcs, ht, he⟩
  · simp only [Value.slice.injEq] at e1; omega
  · simp only [Value.slice.injEq] at e1
    obtain ⟨rfl, -, rfl⟩ := e1
    refine ⟨b, cur.toList, rfl, by simpa using hcs, hnc, by unfold maxLen at hcm; omega, by simpa using ht, h1, h2, h3, h, ⟨x1, x2, d, ed, ?_, s⟩, dg, ag⟩
    rw [he]
    rfl
theorem own_close {W w : World} {g : Hl} {H : List HP} {E : TypeId} {n c b : Nat} {ys xs : List Value} (hyc : ys.length = c) (hn : n ≤ c) (hc : c ≤ 9223372036854775807) (ht : ys.take n = xs) (hs : Sat W w g (blk b ys E :: H)) : Sat W w g (own E 1 (.slice (some ⟨b, 0, none⟩) n c) n xs :: H) := hs.conv fun h e => by
  refine ⟨?_, .inr ⟨b, c, ys.toArray, rfl, hn, by unfold maxLen; omega, by simpa using hyc, by simpa using ht, e⟩⟩
  rw [← ht, List.length_take]; omega

/-- A struct out of a pool's row, while some is held. -/
theorem Pf.loadpr {P : Program} {n : Fm} {ρ : List (Nat × Value)} {g : Hl} {F : List (Nat × List Value × TypeId)} {t ty : TypeId} {x : Operand} {s m c b o j : Nat} {xs vs : List Value} (st : AggOf P t s) (hp : Pr s g (.slice (some ⟨b, o, none⟩) m c) m xs) (hj : j < m) (hv : (xs.drop (j * s)).take s = vs) (hl : vs.length = s)
    (hx : evo n ρ x = some (.pointer (some ⟨b, o + j * s, none⟩))) : Pf P n (Keeps g F) ρ (.load t x) ty (.agg vs.toArray) := fun a ha w hS d ps af g' => by
  have hr : w.rangeAt b (o + j * s) vs := by
    obtain ⟨h1, a0, c0, e1, hn, hc, hN, h⟩ := hp
    simp only [Value.slice.injEq] at e1
    obtain ⟨rfl, _, rfl⟩ := e1
    rcases h with rfl | ⟨b', o', cur, t', fz, e2, hg, ht⟩
    · omega
    · simp only [Option.some.injEq, Addr.mk.injEq] at e2
      obtain ⟨rfl, rfl, _⟩ := e2
      intro q v hq
      have hb := hS.1 _ _ hg
      rw [← hv, List.getElem?_take] at hq
      split at hq
      · rw [List.getElem?_drop, ← ht, List.getElem?_take] at hq
        split at hq
        · rw [List.getElem?_drop] at hq
          simp only [World.cell?, hb]
          rw [show o + j * s + q = o + (j * s + q) by omega]
          simpa using hq
        · cases hq
      · cases hq
  obtain ⟨d', h1, h2, h3⟩ := st
  subst hl
  have := run_loadVar_mid w b (o + j * vs.length) t vs d' hr h1 (by cases d' <;> first | rfl | simp at h2) h3 (P := P)
  simp [execOp, ha.eval hx, Instr.loadAt, Instr.sureAddr, this]

set_option maxHeartbeats 1600000 in
set_option maxRecDepth 100000 in
theorem hlen_any {R : Ending → World → Prop} {w : World} {a : Option Addr} {n c : Nat} (hR : R (.returned (.int .i64 n)) w) : Calls Tryz.prog 342 #[.slice a n c] w R := by
  have HR := Lib.hid hR
  clear hR
  refine C.calls (args := [.slice a n c]) Tryz.func342 rfl rfl rfl ?_
  refine go ?_
  refine A.r1 ?_
  exact HR.out

set_option maxHeartbeats 1600000 in
set_option maxRecDepth 100000 in
theorem hless_any {R : Ending → World → Prop} {W w : World} {g : Hl} {H : List HP} {v : Value} {n i j : Nat} {L : List Hd} (hok : ∀ x ∈ L, x.ok g) (hn : L.length = n) (hi : i < n) (hj : j < n) (hs : Sat W w g (hrow v n L :: H))
    (hR : ∀ w', Sat W w' g (hrow v n L :: H) → R (.returned (.bool (decide (kat Hd.ky L i < kat Hd.ky L j)))) w') : Calls Tryz.prog 343 #[v, .int .i64 i, .int .i64 j] w R := by
  have HR := Lib.hid hR
  clear hR
  obtain ⟨a, c, rfl, hnc, hcm, _⟩ := Sat.ownLen hs
  obtain ⟨b, ys, rfl, hyc, _, _, hyt, hs⟩ := own_open (by omega) hs
  have hiL : i < L.length := by omega
  have hjL : j < L.length := by omega
  have oi := hok L[i] (List.getElem_mem hiL)
  have oj := hok L[j] (List.getElem_mem hjL)
  have li : 0 < L[i].es.length := by have := oi.ne; cases h : L[i].es <;> simp_all
  have lj : 0 < L[j].es.length := by have := oj.ne; cases h : L[j].es <;> simp_all
  have yi : ys[i]? = some (.slice (some ⟨L[i].b, L[i].o, none⟩) L[i].es.length L[i].c) := by
    have : (ys.take n)[i]? = (L.map Hd.v)[i]? := by rw [hyt]
    rw [List.getElem?_take, if_pos hi, List.getElem?_map, List.getElem?_eq_getElem hiL] at this
    exact this
  have yj : ys[j]? = some (.slice (some ⟨L[j].b, L[j].o, none⟩) L[j].es.length L[j].c) := by
    have : (ys.take n)[j]? = (L.map Hd.v)[j]? := by rw [hyt]
    rw [List.getElem?_take, if_pos hj, List.getElem?_map, List.getElem?_eq_getElem hjL] at this
    exact this
  have hi' : (i : Int) < n := by omega
  have hj' : (j : Int) < n := by omega
  have li' : (0 : Int) < (L[i].es.length : Nat) := by omega
  have lj' : (0 : Int) < (L[j].es.length : Nat) := by omega
  refine C.calls (args := [.slice (some ⟨b, 0, none⟩) n c, .int .i64 i, .int .i64 j]) Tryz.func343 rfl rfl rfl ?_
  refine go ?_
  refine C.held1 b hs ?_
  intro w1 hk hs
  have ri : Rd (Keeps g [(b, ys, 27)]) b i (.slice (some ⟨L[i].b, L[i].o, none⟩) L[i].es.length L[i].c) := Rd.blk .here yi
  have rj : Rd (Keeps g [(b, ys, 27)]) b j (.slice (some ⟨L[j].b, L[j].o, none⟩) L[j].es.length L[j].c) := Rd.blk .here yj
  refine goh ?_
  have vi : ((evC L[i].es).drop (0 * 8)).take 8 = L[i].hd.cs := by rw [evC_at li, hd_zero li]
  have vj : ((evC L[j].es).drop (0 * 8)).take 8 = L[j].hd.cs := by rw [evC_at lj, hd_zero lj]
  refine EH.t0 hk ?_ (hy := Pf.loadpr ag_ev oi.row li vi rfl rfl)
  refine EH.t1 hk ?_ (hy := Pf.loadpr ag_ev oj.row lj vj rfl rfl)
  refine EH.one (St.callf Tryz.func190 rfl ?_)
  refine at_any (e := L[i].hd) hs ?_
  intro w2 hs
  refine kept1 hs (fun hk => ?_)
  refine EH.one (St.callf Tryz.func190 rfl ?_)
  refine at_any (e := L[j].hd) hs ?_
  intro w3 hs
  refine kept1 hs (fun hk => ?_)
  refine EH.one (St.callf Tryz.func189 rfl ?_)
  refine compare_any (t1 := L[i].hd.tm) (w1 := L[i].hd.wr) (t2 := L[j].hd.tm) (w2 := L[j].hd.wr) hs ?_
  intro w4 hs
  refine kept1 hs (fun hk => ?_)
  refine goh ?_
  refine EH.done ?_
  refine go ?_
  refine A.r1 ?_
  have := HR.out w4 (own_close hyc hnc hcm hyt hs)
  have e : decide (kat Hd.ky L i < kat Hd.ky L j) = decide (cmpS L[i].hd.tm L[i].hd.wr L[j].hd.tm L[j].hd.wr < 0) := by
    rw [decide_eq_decide, ky_lt (oi.evs _ (Hd.hd_mem oi.ne)).2 (oj.evs _ (Hd.hd_mem oj.ne)).2]
    simp [kat, hiL, hjL, Hd.ky]
  rw [e] at this
  exact this

set_option maxHeartbeats 1600000 in
set_option maxRecDepth 100000 in
theorem hswap_any {R : Ending → World → Prop} {W w : World} {g : Hl} {H : List HP} {v : Value} {n i j : Nat} {L : List Hd} (hn : L.length = n) (hi : i < n) (hj : j < n) (hs : Sat W w g (hrow v n L :: H))
    (hR : ∀ w', Sat W w' g (hrow v n (sw L i j) :: H) → R (.returned (.tuple #[])) w') : Calls Tryz.prog 344 #[v, .int .i64 i, .int .i64 j] w R := by
  have HR := Lib.hid hR
  clear hR
  obtain ⟨a, c, rfl, hnc, hcm, _⟩ := Sat.ownLen hs
  obtain ⟨b, ys, rfl, hyc, _, _, hyt, hs⟩ := own_open (by omega) hs
  have hiL : i < L.length := by omega
  have hjL : j < L.length := by omega
  have yi : ys[i]? = some L[i].v := by
    have : (ys.take n)[i]? = (L.map Hd.v)[i]? := by rw [hyt]
    rw [List.getElem?_take, if_pos hi, List.getElem?_map, List.getElem?_eq_getElem hiL] at this
    exact this
  have yj : ys[j]? = some L[j].v := by
    have : (ys.take n)[j]? = (L.map Hd.v)[j]? := by rw [hyt]
    rw [List.getElem?_take, if_pos hj, List.getElem?_map, List.getElem?_eq_getElem hjL] at this
    exact this
  have hi' : (i : Int) < n := by omega
  have hj' : (j : Int) < n := by omega
  have fin : ∀ w', Sat W w' g (blk b ((ys.set i L[j].v).set j L[i].v) 27 :: H) → R (.returned (.tuple #[])) w' := fun w' hs' => by
    refine HR.out w' (own_close (by simpa using hyc) hnc hcm ?_ hs')
    rw [sw_eq hiL hjL, List.take_set, List.take_set, hyt, List.map_set, List.map_set]
  clear HR
  have HR := Lib.hid fin
  clear fin
  refine C.calls (args := [.slice (some ⟨b, 0, none⟩) n c, .int .i64 i, .int .i64 j]) Tryz.func344 rfl rfl rfl ?_
  refine go ?_
  refine C.held0 hs ?_
  intro w1 hk hs
  refine goh ?_
  have bi : Nat.ble (i + [L[j].v].length) ys.length = true := Nat.ble_eq ▸ (by simp only [List.length_cons, List.length_nil]; omega)
  have bj : Nat.ble (j + [L[i].v].length) (ys.set i L[j].v).length = true := Nat.ble_eq ▸ (by simp only [List.length_cons, List.length_nil, List.length_set]; omega)
  refine EH.ll hs yj yi ?_ ?_
  · refine kept0 hs (fun hk => ?_)
    refine goh ?_
    refine EH.ld hs ?_ (hj := yi)
    refine kept0 hs (fun hk => ?_)
    refine goh ?_
    refine EH.sto (vs := [L[j].v]) (ys := ys.set i L[j].v) hs ?_ (hv := rfl) (hsp := rfl) (hj := bi)
    intro w2 hs
    refine kept0 hs (fun hk => ?_)
    refine goh ?_
    refine EH.sto (vs := [L[i].v]) (ys := (ys.set i L[j].v).set j L[i].v) hs ?_ (hv := rfl) (hsp := rfl) (hj := bj)
    intro w3 hs
    refine kept0 hs (fun hk => ?_)
    refine goh ?_
    refine EH.done ?_
    refine go ?_
    refine A.e0 ?_
    exact HR.out _ hs
  · refine kept0 hs (fun hk => ?_)
    refine goh ?_
    refine EH.ld hs ?_ (hj := yj)
    refine kept0 hs (fun hk => ?_)
    refine goh ?_
    refine EH.sto (vs := [L[j].v]) (ys := ys.set i L[j].v) hs ?_ (hv := rfl) (hsp := rfl) (hj := bi)
    intro w2 hs
    refine kept0 hs (fun hk => ?_)
    refine goh ?_
    refine EH.sto (vs := [L[i].v]) (ys := (ys.set i L[j].v).set j L[i].v) hs ?_ (hv := rfl) (hsp := rfl) (hj := bj)
    intro w3 hs
    refine kept0 hs (fun hk => ?_)
    refine goh ?_
    refine EH.done ?_
    refine go ?_
    refine A.e0 ?_
    exact HR.out _ hs
end Go.Proofs.YtdkbpcibmipelaaGreatDoor

/-
  Layer 12 (order): the library's heap over lists of events: down, Fix, Init, Pop.
-/
namespace Go.Proofs.YtdkbpcibmipelaaGreatDoor
open Go.RowKit
set_option linter.unusedVariables false
set_option linter.unusedSimpArgs false

theorem m_len : MethOf Tryz.prog 352 "Len" 342 false := .mk (by kernel_rfl)
theorem m_less : MethOf Tryz.prog 352 "Less" 343 false := .mk (by kernel_rfl)
theorem m_swap : MethOf Tryz.prog 352 "Swap" 344 false := .mk (by kernel_rfl)
theorem m_pop : MethOf Tryz.prog 352 "Pop" 345 true := .mk (by kernel_rfl)

/-- A cursor, and its lists. -/
def cur (cb : Nat) (L : List Hd) : HP := exs fun q : Option Addr × Nat => wit (fun g => ∀ x ∈ L, x.ok g) (fun _ _ hg h x hx => (h x hx).mono hg) (sep (blk cb [.slice q.1 L.length q.2] 350) (hrow (.slice q.1 L.length q.2) L.length L))
theorem cur_open {W w : World} {g : Hl} {H : List HP} {cb : Nat} {L : List Hd} (hs : Sat W w g (cur cb L :: H)) : ∃ a c, (∀ x ∈ L, x.ok g) ∧ Sat W w g (blk cb [.slice a L.length c] 350 :: hrow (.slice a L.length c) L.length L :: H) := by
  obtain ⟨⟨a, c⟩, h⟩ := hs.unexs
  exact ⟨a, c, h.unwit.1, h.unwit.2.split⟩
theorem cur_close {W w : World} {g : Hl} {H : List HP} {cb n : Nat} {L : List Hd} {a : Option Addr} {c : Nat} (hn : L.length = n) (hok : ∀ x ∈ L, x.ok g) (hs : Sat W w g (blk cb [.slice a n c] 350 :: hrow (.slice a n c) n L :: H)) : Sat W w g (cur cb L :: H) := by
  subst hn
  exact Sat.mkexs (a, c) (Sat.mkwit hok hs.join)
def ci (cb : Nat) : Value := .iface 352 (.pointer (some ⟨cb, 0, none⟩))

section
variable {n : Fm} {ρ : List (Nat × Value)} {W w : World} {g : Hl} {H : List HP} {Q : Exit → Act → World → Prop} {ops : Array Oper} {rest : List Oper} {d : Option Tmp} {ty : TypeId} {ps : String} {af : Array Edge} {cb i j : Nat} {L : List Hd} {recv x y : Operand} {ts : Array TypeId}
theorem E.hless (hs : Sat W w g (cur cb L :: H)) (hi : i < L.length) (hj : j < L.length) (h : ∀ w', Sat W w' g (cur cb L :: H) → E Tryz.prog n ops rest (pushv d (.bool (decide (kat Hd.ky L i < kat Hd.ky L j))) ρ) w' Q)
    {xi xj : Int} (hv : evo n ρ recv = some (ci cb) := by exact rfl) (hx : evs n ρ [x, y] = some [.int .i64 xi, .int .i64 xj] := by exact rfl) (ei : xi = (i : Int) := by omega) (ej : xj = (j : Int) := by omega) : E Tryz.prog n ops (⟨d, .call ⟨.invoke recv "Less", #[x, y], ts⟩, ty, ps, af, none⟩ :: rest) ρ w Q := by
  subst ei ej
  obtain ⟨a, c, hok, hs1⟩ := cur_open hs
  refine E.inv Tryz.func343 (run_meth_val m_less Tryz.underlying352 (run_ld hs1)) (hless_any hok rfl hi hj hs1.swap ?_) hv hx
  intro w' hs2
  exact h _ (cur_close rfl hok hs2.swap)
theorem E.hswap (hs : Sat W w g (cur cb L :: H)) (hi : i < L.length) (hj : j < L.length) (h : ∀ w', Sat W w' g (cur cb (sw L i j) :: H) → E Tryz.prog n ops rest (pushv d (.tuple #[]) ρ) w' Q)
    {xi xj : Int} (hv : evo n ρ recv = some (ci cb) := by exact rfl) (hx : evs n ρ [x, y] = some [.int .i64 xi, .int .i64 xj] := by exact rfl) (ei : xi = (i : Int) := by omega) (ej : xj = (j : Int) := by omega) : E Tryz.prog n ops (⟨d, .call ⟨.invoke recv "Swap", #[x, y], ts⟩, ty, ps, af, none⟩ :: rest) ρ w Q := by
  subst ei ej
  obtain ⟨a, c, hok, hs1⟩ := cur_open hs
  refine E.inv Tryz.func344 (run_meth_val m_swap Tryz.underlying352 (run_ld hs1)) (hswap_any rfl hi hj hs1.swap ?_) hv hx
  intro w' hs2
  refine h _ (cur_close (sw_len L i j) ?_ hs2.swap)
  intro x hx
  exact hok x ((sw_perm hi hj).mem_iff.1 hx)
theorem E.hlen (hs : Sat W w g (cur cb L :: H)) (h : E Tryz.prog n ops rest (pushv d (.int .i64 L.length) ρ) w Q)
    (hv : evo n ρ recv = some (ci cb) := by exact rfl) : E Tryz.prog n ops (⟨d, .call ⟨.invoke recv "Len", #[], ts⟩, ty, ps, af, none⟩ :: rest) ρ w Q := by
  obtain ⟨a, c, hok, hs1⟩ := cur_open hs
  exact E.inv Tryz.func342 (run_meth_val m_len Tryz.underlying352 (run_ld hs1)) (hlen_any h) hv rfl
end

set_option maxHeartbeats 1600000 in
set_option maxRecDepth 100000 in
theorem down_any {R : Ending → World → Prop} {W w : World} {g : Hl} {H : List HP} {cb i0 n : Nat} {L : List Hd} (hn : n ≤ L.length) (hl : L.length ≤ 1000000000) (hi0 : i0 ≤ L.length) (hinv : HInv (kat Hd.ky L) i0 n i0) (hs : Sat W w g (cur cb L :: H))
    (hR : ∀ w' L' bb, L'.Perm L → Heap (kat Hd.ky L') i0 n → (∀ q, n ≤ q → L'[q]? = L[q]?) → Sat W w' g (cur cb L' :: H) → R (.returned (.bool bb)) w') : Calls Tryz.prog 317 #[ci cb, .int .i64 i0, .int .i64 n] w R := by
  have HR := Lib.hid hR
  clear hR
  refine C.calls (args := [ci cb, .int .i64 i0, .int .i64 n]) Tryz.func317 rfl rfl rfl ?_
  refine gob ?_
  refine C.cut (fun i : Nat => [(1, .int .i64 i0), (7, .int .i64 i)]) (fun i w => ∃ L' : List Hd, L'.Perm L ∧ Heap (kat Hd.ky L') i0 n ∧ (∀ q, n ≤ q → L'[q]? = L[q]?) ∧ Sat W w g (cur cb L' :: H)) ?_ ?_
  · refine C.block ?_
    refine C.lp (fun x : Nat × List Hd => [(0, ci cb), (1, .int .i64 i0), (2, .int .i64 n), (7, .int .i64 x.1)])
      (fun gk x w => gk = n - x.1 ∧ i0 ≤ x.1 ∧ x.1 ≤ L.length ∧ x.2.Perm L ∧ HInv (kat Hd.ky x.2) i0 n x.1 ∧ (∀ q, n ≤ q → x.2[q]? = L[q]?) ∧ Sat W w g (cur cb x.2 :: H)) (n - i0) (i0, L) ⟨rfl, Nat.le_refl _, hi0, List.Perm.refl _, hinv, fun _ _ => rfl, hs⟩ ?_
    clear hs
    rintro gk ⟨i, L1⟩ w1 ⟨hgk, hi, hiL, hp, hv, hq, hs⟩
    simp only at hgk hi hiL hp hv hq hs ⊢
    have hl1 : L1.length = L.length := hp.length_eq
    have ce : ∀ i, ((i : Nat) : Int) = (i : Int) := fun _ => rfl
    refine go ?_
    cases h1 : decide ((n : Int) ≤ 2 * (i : Int) + 1) with
    | true =>
      have h1 := of_decide_eq_true h1
      refine go ?_
      refine A.mt i ⟨L1, hp, heap_done hv (fun c hc h => by omega), hq, hs⟩
    | false =>
    have h1 := of_decide_eq_false h1
    refine go ?_
    rw [show decide (2 * (i : Int) + 1 < 0) = false from decide_eq_false (by omega)]
    refine go ?_
    cases h2 : decide (2 * (i : Int) + 1 + 1 < n) with
    | false =>
      have h2 := of_decide_eq_false h2
      have hmin : ∀ c, c < n → c = 2 * i + 1 ∨ c = 2 * i + 2 → kat Hd.ky L1 (2 * i + 1) ≤ kat Hd.ky L1 c := fun c hc h => by
        obtain rfl : c = 2 * i + 1 := by omega
        exact Nat.le_refl _
      refine go ?_
      refine E.hless (i := 2 * i + 1) (j := i) hs (by omega) (by omega) ?_
      intro w3 hs
      refine go ?_
      cases h4 : decide (kat Hd.ky L1 (2 * i + 1) < kat Hd.ky L1 i) with
      | false =>
        have h4 := of_decide_eq_false h4
        refine go ?_
        refine A.mt i ⟨L1, hp, heap_done hv (fun c hc h => ?_), hq, hs⟩
        have := hmin c hc h
        omega
      | true =>
      have h4 := of_decide_eq_true h4
      refine go ?_
      refine E.hswap (i := i) (j := 2 * i + 1) hs (by omega) (by omega) ?_
      intro w4 hs
      refine go ?_
      refine A.rd (n - (2 * i + 1)) (2 * i + 1, sw L1 i (2 * i + 1)) ⟨rfl, by simp only; omega, by simp only; omega, (sw_perm (by omega) (by omega)).trans hp, ?_, ?_, hs⟩ (hg := by omega)
      · exact heap_step hv hi (by omega) (by omega) h4 hmin (kat_sw Hd.ky (by omega) (by omega))
      · intro q hqn
        simp only
        rw [sw_get (by omega) (by omega), if_neg (by omega), if_neg (by omega)]
        exact hq q hqn
    | true =>
    have h2 := of_decide_eq_true h2
    refine go ?_
    refine E.hless (i := 2 * i + 2) (j := 2 * i + 1) hs (by omega) (by omega) ?_
    intro w2 hs
    refine go ?_
    cases h3 : decide (kat Hd.ky L1 (2 * i + 2) < kat Hd.ky L1 (2 * i + 1)) with
    | true =>
      have h3 := of_decide_eq_true h3
      have hmin : ∀ c, c < n → c = 2 * i + 1 ∨ c = 2 * i + 2 → kat Hd.ky L1 (2 * i + 2) ≤ kat Hd.ky L1 c := fun c hc h => by
        rcases h with rfl | rfl
        · omega
        · exact Nat.le_refl _
      refine go ?_
      refine E.hless (i := 2 * i + 2) (j := i) hs (by omega) (by omega) ?_
      intro w3 hs
      refine go ?_
      cases h4 : decide (kat Hd.ky L1 (2 * i + 2) < kat Hd.ky L1 i) with
      | false =>
        have h4 := of_decide_eq_false h4
        refine go ?_
        refine A.mt i ⟨L1, hp, heap_done hv (fun c hc h => ?_), hq, hs⟩
        have := hmin c hc h
        omega
      | true =>
      have h4 := of_decide_eq_true h4
      refine go ?_
      refine E.hswap (i := i) (j := 2 * i + 2) hs (by omega) (by omega) ?_
      intro w4 hs
      refine go ?_
      refine A.rd (n - (2 * i + 2)) (2 * i + 2, sw L1 i (2 * i + 2)) ⟨rfl, by simp only; omega, by simp only; omega, (sw_perm (by omega) (by omega)).trans hp, ?_, ?_, hs⟩ (hg := by omega)
      · exact heap_step hv hi (by omega) (by omega) h4 hmin (kat_sw Hd.ky (by omega) (by omega))
      · intro q hqn
        simp only
        rw [sw_get (by omega) (by omega), if_neg (by omega), if_neg (by omega)]
        exact hq q hqn
    | false =>
      have h3 := of_decide_eq_false h3
      have hmin : ∀ c, c < n → c = 2 * i + 1 ∨ c = 2 * i + 2 → kat Hd.ky L1 (2 * i + 1) ≤ kat Hd.ky L1 c := fun c hc h => by
        rcases h with rfl | rfl
        · exact Nat.le_refl _
        · omega
      refine go ?_
      refine E.hless (i := 2 * i + 1) (j := i) hs (by omega) (by omega) ?_
      intro w3 hs
      refine go ?_
      cases h4 : decide (kat Hd.ky L1 (2 * i + 1) < kat Hd.ky L1 i) with
      | false =>
        have h4 := of_decide_eq_false h4
        refine go ?_
        refine A.mt i ⟨L1, hp, heap_done hv (fun c hc h => ?_), hq, hs⟩
        have := hmin c hc h
        omega
      | true =>
      have h4 := of_decide_eq_true h4
      refine go ?_
      refine E.hswap (i := i) (j := 2 * i + 1) hs (by omega) (by omega) ?_
      intro w4 hs
      refine go ?_
      refine A.rd (n - (2 * i + 1)) (2 * i + 1, sw L1 i (2 * i + 1)) ⟨rfl, by simp only; omega, by simp only; omega, (sw_perm (by omega) (by omega)).trans hp, ?_, ?_, hs⟩ (hg := by omega)
      · exact heap_step hv hi (by omega) (by omega) h4 hmin (kat_sw Hd.ky (by omega) (by omega))
      · intro q hqn
        simp only
        rw [sw_get (by omega) (by omega), if_neg (by omega), if_neg (by omega)]
        exact hq q hqn
  · clear hs
    rintro i w5 ⟨L', hp, hh, hq, hs⟩
    refine go ?_
    refine A.r1 ?_
    exact HR.out _ L' _ hp hh hq hs
end Go.Proofs.YtdkbpcibmipelaaGreatDoor

/-
  Layer 12 (order): the library's heap over lists of events: Init, Fix, Pop.
-/
namespace Go.Proofs.YtdkbpcibmipelaaGreatDoor
open Go.RowKit
set_option linter.unusedVariables false
set_option linter.unusedSimpArgs false

set_option maxHeartbeats 1600000 in
set_option maxRecDepth 100000 in
/-- up, from the root: nothing. -/
theorem up_any {R : Ending → World → Prop} {w : World} {cb : Nat} (hR : R (.returned (.tuple #[])) w) : Calls Tryz.prog 318 #[ci cb, .int .i64 0] w R := by
  have HR := Lib.hid hR
  clear hR
  refine C.calls (args := [ci cb, .int .i64 0]) Tryz.func318 rfl rfl rfl ?_
  refine gob ?_
  refine C.block ?_
  refine C.lp (fun _ : Unit => [(0, ci cb), (1, .int .i64 0)]) (fun gk _ w' => w' = w) 0 () rfl ?_
  rintro gk _ w' rfl
  refine go ?_
  refine A.e0 ?_
  exact HR.out

set_option maxHeartbeats 1600000 in
set_option maxRecDepth 100000 in
theorem fix_any {R : Ending → World → Prop} {W w : World} {g : Hl} {H : List HP} {cb : Nat} {L : List Hd} (hl : L.length ≤ 1000000000) (hinv : HInv (kat Hd.ky L) 0 L.length 0) (hs : Sat W w g (cur cb L :: H))
    (hR : ∀ w' L', L'.Perm L → Heap (kat Hd.ky L') 0 L'.length → Sat W w' g (cur cb L' :: H) → R (.returned (.tuple #[])) w') : Calls Tryz.prog 301 #[ci cb, .int .i64 0] w R := by
  have HR := Lib.hid hR
  clear hR
  refine C.calls (args := [ci cb, .int .i64 0]) Tryz.func301 rfl rfl rfl ?_
  refine go ?_
  refine E.hlen hs ?_
  refine E.callf Tryz.func317 rfl ?_
  refine down_any (i0 := 0) (Nat.le_refl _) hl (Nat.zero_le _) hinv hs ?_
  intro w2 L' bb hp hh hq hs
  rw [← hp.length_eq] at hh
  refine go ?_
  cases bb with
  | true =>
    refine go ?_
    refine A.e0 ?_
    exact HR.out _ L' hp hh hs
  | false =>
    refine go ?_
    refine E.callf Tryz.func318 rfl ?_
    refine up_any ?_
    refine go ?_
    refine A.e0 ?_
    exact HR.out _ L' hp hh hs

set_option maxHeartbeats 1600000 in
set_option maxRecDepth 100000 in
theorem init_any {R : Ending → World → Prop} {W w : World} {g : Hl} {H : List HP} {cb : Nat} {L : List Hd} (hl : L.length ≤ 1000000000) (hs : Sat W w g (cur cb L :: H))
    (hR : ∀ w' L', L'.Perm L → Heap (kat Hd.ky L') 0 L'.length → Sat W w' g (cur cb L' :: H) → R (.returned (.tuple #[])) w') : Calls Tryz.prog 300 #[ci cb] w R := by
  have HR := Lib.hid hR
  clear hR
  refine C.calls (args := [ci cb]) Tryz.func300 rfl rfl rfl ?_
  refine go ?_
  refine E.hlen hs ?_
  have ew : IntKind.i64.wrap (IntKind.i64.wrap ((L.length : Int).tdiv 2) - 1) = ((L.length / 2 : Nat) : Int) - 1 := by
    have e1 : (L.length : Int).tdiv 2 = ((L.length / 2 : Nat) : Int) := (Int.ofNat_tdiv L.length 2).symm
    have e2 : IntKind.i64.wrap ((L.length / 2 : Nat) : Int) = ((L.length / 2 : Nat) : Int) := wrap64_id (by omega) (by omega)
    rw [e1, e2, wrap64_id (by omega) (by omega)]
  refine gob ?_
  rw [ew]
  refine C.block ?_
  refine C.lp (fun x : Nat × List Hd => [(0, ci cb), (2, .int .i64 L.length), (3, .int .i64 ((x.1 : Int) - 1))]) (fun gk x w' => gk = x.1 ∧ x.1 ≤ L.length / 2 ∧ x.2.Perm L ∧ Heap (kat Hd.ky x.2) x.1 L.length ∧ Sat W w' g (cur cb x.2 :: H)) (L.length / 2) (L.length / 2, L)
    ⟨rfl, Nat.le_refl _, List.Perm.refl _, fun c h1 h2 h3 => by simp only at h3; omega, hs⟩ ?_
  clear hs
  rintro gk ⟨i, L1⟩ w1 ⟨hgk, hi, hp, hh, hs⟩
  simp only at hgk hi hp hh hs ⊢
  have hl1 := hp.length_eq
  refine go ?_
  refine C.cond_dec (p := (0 : Int) ≤ (i : Int) - 1) rfl (fun h => ?_) (fun h => ?_)
  · obtain ⟨j, rfl⟩ : ∃ j, i = j + 1 := ⟨i - 1, by omega⟩
    have ej : ((j + 1 : Nat) : Int) - 1 = j := by omega
    rw [ej]
    refine go ?_
    rw [← hl1] at hh
    refine E.callf Tryz.func317 rfl ?_
    refine down_any (i0 := j) (n := L.length) (by omega) (by omega) (by omega) (heap_start (by rw [← hl1]; exact hh)) hs ?_
    intro w2 L2 bb hp2 hh2 hq2 hs
    refine go ?_
    exact A.rd j (j, L2) ⟨rfl, by simp only; omega, hp2.trans hp, hh2, hs⟩
  · have hi0 : i = 0 := by omega
    subst hi0
    refine go ?_
    refine A.e0 ?_
    exact HR.out _ L1 hp (by rw [hl1]; exact hh) hs

set_option maxHeartbeats 1600000 in
set_option maxRecDepth 100000 in
theorem hpop_any {R : Ending → World → Prop} {W w : World} {g : Hl} {H : List HP} {cb : Nat} {L : List Hd} (h0 : 0 < L.length) (hl : L.length ≤ 1000000000) (hs : Sat W w g (cur cb L :: H))
    (hR : ∀ w' v, Sat W w' g (cur cb (L.take (L.length - 1)) :: H) → R (.returned v) w') : Calls Tryz.prog 345 #[.pointer (some ⟨cb, 0, none⟩)] w R := by
  have HR := Lib.hid hR
  clear hR
  obtain ⟨a, c, hok, hs⟩ := cur_open hs
  obtain ⟨_, _, eq, hnc, hcm, _⟩ := Sat.ownLen hs.swap
  simp only [Value.slice.injEq] at eq
  obtain ⟨rfl, -, rfl⟩ := eq
  obtain ⟨hb, ys, rfl, hyc, _, _, hyt, hs⟩ := own_open h0 hs.swap
  have hlt : L.length - 1 < L.length := by omega
  have hy : ys[L.length - 1]? = some (.slice (some ⟨L[L.length - 1].b, L[L.length - 1].o, none⟩) L[L.length - 1].es.length L[L.length - 1].c) := by
    have : (ys.take L.length)[L.length - 1]? = (L.map Hd.v)[L.length - 1]? := by rw [hyt]
    rw [List.getElem?_take, if_pos hlt, List.getElem?_map, List.getElem?_eq_getElem hlt] at this
    exact this
  have e1 : (L.length : Int) - 1 = ((L.length - 1 : Nat) : Int) := by omega
  have hlt' : ((L.length - 1 : Nat) : Int) < L.length := by omega
  have hok2 : ∀ x ∈ L.take (L.length - 1), x.ok g := fun x hx => hok x (List.mem_of_mem_take hx)
  have hfin : (ys.take (L.length - 1)) = (L.take (L.length - 1)).map Hd.v := by
    rw [List.map_take, ← hyt, List.take_take, Nat.min_eq_left (by omega)]
  have hl3 : (L.take (L.length - 1)).length = L.length - 1 := by rw [List.length_take]; omega
  generalize hm : L.length - 1 = m at *
  refine C.calls (args := [.pointer (some ⟨cb, 0, none⟩)]) Tryz.func345 rfl rfl rfl ?_
  refine go ?_
  rw [e1]
  refine go ?_
  refine E.ld hs ?_ (hj := hy)
  refine go ?_
  rw [e1]
  refine go ?_
  refine E.pv (Pv.slice rfl rfl rfl rfl (fun w => run_slice_h_at el_hds (by omega) w)) ?_
  refine go ?_
  refine E.sto hs ?_
  intro w2 hs
  refine go ?_
  refine A.r1 ?_
  exact HR.out _ _ (cur_close hl3 hok2 (Sat.swap (own_close hyc (by omega) hcm hfin hs)))

set_option maxHeartbeats 1600000 in
set_option maxRecDepth 100000 in
/-- The list at the root is taken out. -/
theorem heapPop_any {R : Ending → World → Prop} {W w : World} {g : Hl} {H : List HP} {cb : Nat} {x : Hd} {L : List Hd} (hl : (x :: L).length ≤ 1000000000) (hh : Heap (kat Hd.ky (x :: L)) 0 (x :: L).length) (hs : Sat W w g (cur cb (x :: L) :: H))
    (hR : ∀ w' v L', L'.Perm L → Heap (kat Hd.ky L') 0 L'.length → Sat W w' g (cur cb L' :: H) → R (.returned v) w') : Calls Tryz.prog 302 #[ci cb] w R := by
  have HR := Lib.hid hR
  clear hR
  refine C.calls (args := [ci cb]) Tryz.func302 rfl rfl rfl ?_
  refine go ?_
  refine E.hlen hs ?_
  have e1 : ((x :: L).length : Int) - 1 = (L.length : Int) := by simp
  have h0 : 0 < (x :: L).length := by simp
  have hn : L.length < (x :: L).length := by simp
  refine go ?_
  rw [e1]
  refine go ?_
  refine E.hswap (i := 0) (j := L.length) hs h0 hn ?_
  intro w2 hs
  refine go ?_
  have hi : HInv (kat Hd.ky (sw (x :: L) 0 L.length)) 0 L.length 0 := by
    refine heap_root (f := kat Hd.ky (x :: L)) (fun c h1 h2 h3 => hh c h1 (by omega) h3) fun q h1 h2 => ?_
    rw [kat_sw Hd.ky h0 hn, if_neg (by omega), if_neg (by omega)]
  have hsl := sw_len (x :: L) 0 L.length
  refine E.callf Tryz.func317 rfl ?_
  refine down_any (i0 := 0) (n := L.length) (by rw [hsl]; omega) (by rw [hsl]; exact hl) (Nat.zero_le _) hi hs ?_
  intro w3 L2 bb hp hh2 hq hs
  have hl2 : L2.length = (x :: L).length := by rw [hp.length_eq, hsl]
  refine go ?_
  refine E.inv Tryz.func345 (run_meth_ptr m_pop Tryz.underlying352 _) ?_
  refine hpop_any (by rw [hl2]; exact h0) (by rw [hl2]; exact hl) hs ?_
  intro w4 v hs
  refine go ?_
  refine A.r1 ?_
  have hl3 : L2.length - 1 = L.length := by rw [hl2]; simp
  rw [hl3] at hs
  have hlast : L2[L.length]? = some x := by rw [hq L.length (Nat.le_refl _), sw_get h0 hn, if_pos rfl]; rfl
  have hlt2 : L.length < L2.length := by rw [hl2]; exact hn
  have hsplit : L2.take L.length ++ [x] = L2 := by
    have h1 := List.take_succ_eq_append_getElem (l := L2) (i := L.length) hlt2
    have h2 : L2[L.length] = x := by
      have := List.getElem?_eq_getElem hlt2
      rw [hlast] at this
      simpa using this.symm
    rw [h2] at h1
    rw [← h1, List.take_of_length_le (by rw [hl2]; simp)]
  have hperm : (L2.take L.length).Perm L := by
    have h1 : (L2.take L.length ++ [x]).Perm (x :: L) := by
      rw [hsplit]
      exact hp.trans (sw_perm h0 hn)
    exact (List.perm_cons x).1 ((List.perm_append_comm (l₁ := [x]) (l₂ := L2.take L.length)).trans h1)
  refine HR.out _ _ _ hperm ?_ hs
  rw [hperm.length_eq]
  intro c h1 h2 h3
  have hk : ∀ q, q < L.length → kat Hd.ky (L2.take L.length) q = kat Hd.ky L2 q := fun q hq => by unfold kat; rw [List.getElem?_take, if_pos hq]
  rw [hk _ h2, hk _ (by omega)]
  exact hh2 c h1 h2 h3
end Go.Proofs.YtdkbpcibmipelaaGreatDoor

/-
  Layer 12 (order): a cursor: New, Next.
-/
namespace Go.Proofs.YtdkbpcibmipelaaGreatDoor
open Go.RowKit
set_option linter.unusedVariables false
set_option linter.unusedSimpArgs false

/-- A list of events, as a slice of the pool's. -/
structure El where
  a : Option Addr
  c : Nat
  es : List Ev
def El.v (x : El) : Value := .slice x.a x.es.length x.c
structure El.ok (x : El) (g : Hl) : Prop where
  row : Pr 8 g x.v x.es.length (evC x.es)
  evs : ∀ e ∈ x.es, e.ok g ∧ e.low
theorem El.ok.mono {x : El} {g g' : Hl} (h : x.ok g) (hg : Hl.le g g') : x.ok g' := ⟨h.row.mono hg, fun e he => ⟨(h.evs e he).1.mono hg, (h.evs e he).2⟩⟩
theorem el_lists : ElemOf Tryz.prog 92 27 (.slice none 0 0) 1 24 := .of Tryz.underlying92 (by kernel_rfl) rfl (by decide)
theorem pr_some {s : Nat} {g : Hl} {a : Option Addr} {n c : Nat} {xs : List Value} (h : Pr s g (.slice a n c) n xs) (hn : 0 < n) : ∃ b o, a = some ⟨b, o, none⟩ := by
  obtain ⟨_, a0, c0, e, _, _, _, h0 | ⟨b, o, cur, t, fz, e2, _, _⟩⟩ := h
  · omega
  · simp only [Value.slice.injEq] at e
    exact ⟨b, o, e.1.trans e2⟩
theorem El.toHd {x : El} {g : Hl} (h : x.ok g) (hn : x.es ≠ []) : ∃ y : Hd, y.v = x.v ∧ y.es = x.es ∧ y.ok g := by
  have hl : 0 < x.es.length := by cases hx : x.es <;> simp_all
  obtain ⟨b, o, ha⟩ := pr_some h.row hl
  have ev : (⟨b, o, x.c, x.es⟩ : Hd).v = x.v := by simp only [Hd.v, El.v, ha]
  exact ⟨⟨b, o, x.c, x.es⟩, ev, rfl, ⟨by rw [ev]; exact h.row, hn, h.evs⟩⟩

/-- Rising strictly. -/
def Up1 (l : List Ev) : Prop := l.Pairwise fun a b => a.ky < b.ky
structure CrOk (L : List Hd) (T : List Ev) : Prop where
  heap : Heap (kat Hd.ky L) 0 L.length
  each : ∀ x ∈ L, Up1 x.es
  up : Up1 T
  perm : T.Perm (L.flatMap Hd.es)
  few : L.length ≤ 1000000000
/-- A cursor ahead of these events. -/
def crs (cb : Nat) (T : List Ev) : HP := exs fun L : List Hd => wit (fun _ => CrOk L T) (fun _ _ _ h => h) (cur cb L)
theorem crs_open {W w : World} {g : Hl} {H : List HP} {cb : Nat} {T : List Ev} (hs : Sat W w g (crs cb T :: H)) : ∃ L, CrOk L T ∧ Sat W w g (cur cb L :: H) := by
  obtain ⟨L, h⟩ := hs.unexs
  exact ⟨L, h.unwit⟩
theorem crs_close {W w : World} {g : Hl} {H : List HP} {cb : Nat} {T : List Ev} (L : List Hd) (h : CrOk L T) (hs : Sat W w g (cur cb L :: H)) : Sat W w g (crs cb T :: H) := Sat.mkexs L (Sat.mkwit h hs)

theorem CrOk.root {x : Hd} {L : List Hd} {T : List Ev} (h : CrOk (x :: L) T) (hne : ∀ y ∈ x :: L, y.es ≠ []) : ∃ T', T = x.hd :: T' ∧ T'.Perm (x.es.tail ++ L.flatMap Hd.es) := by
  have hmin : ∀ y ∈ T, x.hd.ky ≤ y.ky := by
    intro y hy
    obtain ⟨z, hz, hyz⟩ := List.mem_flatMap.1 (h.perm.mem_iff.1 hy)
    obtain ⟨q, hq, rfl⟩ := List.mem_iff_getElem.1 hz
    have h1 := heap_min h.heap q hq
    have e0 : kat Hd.ky (x :: L) 0 = x.hd.ky := rfl
    have e1 : kat Hd.ky (x :: L) q = (x :: L)[q].hd.ky := by simp only [kat, List.getElem?_eq_getElem hq]; rfl
    rw [e0, e1] at h1
    have h2 := h.each _ hz
    have hn2 := hne _ hz
    have h3 : (x :: L)[q].hd.ky ≤ y.ky := by
      unfold Up1 at h2
      unfold Hd.hd
      cases hes : (x :: L)[q].es with
      | nil => exact absurd hes hn2
      | cons a r =>
        rw [hes] at h2 hyz
        simp only [List.headD_cons]
        rcases List.mem_cons.1 hyz with rfl | hyr
        · exact Nat.le_refl _
        · exact Nat.le_of_lt ((List.pairwise_cons.1 h2).1 y hyr)
    omega
  have hxne := hne x (List.mem_cons_self ..)
  have hxT : x.hd ∈ T := h.perm.mem_iff.2 (List.mem_flatMap.2 ⟨x, List.mem_cons_self .., Hd.hd_mem hxne⟩)
  cases T with
  | nil => cases hxT
  | cons e T' =>
    have he : x.hd = e := by
      rcases List.mem_cons.1 hxT with h1 | h1
      · exact h1
      · have h2 := (List.pairwise_cons.1 h.up).1 _ h1
        have h3 := hmin e (List.mem_cons_self ..)
        omega
    subst he
    refine ⟨T', rfl, ?_⟩
    have h1 : x.es = x.hd :: x.es.tail := by
      unfold Hd.hd
      cases hes : x.es with
      | nil => exact absurd hes hxne
      | cons a r => rfl
    have h2 := h.perm
    rw [List.flatMap_cons, h1, List.cons_append] at h2
    exact (List.perm_cons _).1 h2

theorem pr_range {W w : World} {g : Hl} {H : List HP} {s m c b o j : Nat} {xs vs : List Value} (hs : Sat W w g H) (hp : Pr s g (.slice (some ⟨b, o, none⟩) m c) m xs) (hj : j < m) (hv : (xs.drop (j * s)).take s = vs) : w.rangeAt b (o + j * s) vs := by
  obtain ⟨h1, a0, c0, e1, hn, hc, hN, h⟩ := hp
  simp only [Value.slice.injEq] at e1
  obtain ⟨rfl, _, rfl⟩ := e1
  rcases h with rfl | ⟨b', o', cur, t', fz, e2, hg, ht⟩
  · omega
  · simp only [Option.some.injEq, Addr.mk.injEq] at e2
    obtain ⟨rfl, rfl, _⟩ := e2
    intro q v hq
    have hb := hs.pool hg
    rw [← hv, List.getElem?_take] at hq
    split at hq
    · rw [List.getElem?_drop, ← ht, List.getElem?_take] at hq
      split at hq
      · rw [List.getElem?_drop] at hq
        simp only [World.cell?, hb]
        rw [show o + j * s + q = o + (j * s + q) by omega]
        simpa using hq
      · cases hq
    · cases hq
theorem pr_head {W w : World} {g : Hl} {H : List HP} {x : Hd} (hs : Sat W w g H) (h : x.ok g) : w.rangeAt x.b x.o x.hd.cs := by
  have hl : 0 < x.es.length := by have := h.ne; cases hx : x.es <;> simp_all
  have := pr_range hs h.row hl (evC_at hl)
  rw [hd_zero hl] at this
  simpa using this

/-- No event. -/
def evZ : Value := .agg #[.int .i64 0, .int .u64 0, .int .u64 0, .int .u8 0, .string ⟨#[]⟩, .slice none 0 0, .float .f64 0, .int .i64 0]
set_option maxHeartbeats 1600000 in
set_option maxRecDepth 100000 in
theorem next_any {R : Ending → World → Prop} {W w : World} {g : Hl} {H : List HP} {cb : Nat} {T : List Ev} (hs : Sat W w g (crs cb T :: H))
    (h0 : T = [] → ∀ w', Sat W w' g (crs cb [] :: H) → R (.returned (.tuple #[evZ, .bool false])) w')
    (h1 : ∀ e T', T = e :: T' → e.ok g → e.low → ∀ w', Sat W w' g (crs cb T' :: H) → R (.returned (.tuple #[e.val, .bool true])) w') : Calls Tryz.prog 257 #[ptr cb] w R := by
  have HR0 := Lib.hid h0
  have HR1 := Lib.hid h1
  clear h0 h1
  have ag1 := ag_ev
  obtain ⟨L, hc, hs'⟩ := crs_open hs
  clear hs
  have hs := hs'
  clear hs'
  cases L with
  | nil =>
    have hT : T = [] := List.eq_nil_of_length_eq_zero (by have := hc.perm.length_eq; simpa using this)
    obtain ⟨a, c, hok, hs⟩ := cur_open hs
    refine C.calls (args := [.pointer (some ⟨cb, 0, none⟩)]) Tryz.func257 rfl rfl rfl ?_
    refine go ?_
    refine E.al hs ?_
    intro b2 w2 hs
    refine go ?_
    refine E.sto (vs := [.int .i64 0, .int .u64 0, .int .u64 0, .int .u8 0, .string ⟨#[]⟩, .slice none 0 0, .float .f64 0, .int .i64 0]) hs ?_ (hv := rfl)
    intro w3 hs
    refine go ?_
    refine A.c1t1 rfl rfl rfl (run_lda hs ag_ev) ?_
    subst hT
    exact HR0.out rfl _ (crs_close [] hc (cur_close rfl hok hs.drop))
  | cons x L =>
  obtain ⟨a, c, hok, hs⟩ := cur_open hs
  have hx := hok x (List.mem_cons_self ..)
  obtain ⟨T', rfl, hperm⟩ := hc.root fun y hy => (hok y hy).ne
  have hev := hx.evs _ (Hd.hd_mem hx.ne)
  have HR := Lib.hid (HR1.out x.hd T' rfl hev.1 hev.2)
  clear HR0 HR1
  have hxl : 0 < x.es.length := by have := hx.ne; cases h : x.es <;> simp_all
  obtain ⟨_, _, eq, hnc, hcm, _⟩ := Sat.ownLen hs.swap
  simp only [Value.slice.injEq] at eq
  obtain ⟨rfl, -, rfl⟩ := eq
  obtain ⟨hb, ys, rfl, hyc, _, _, hyt, hs⟩ := own_open (by simp) hs.swap
  have hy : ys[0]? = some (.slice (some ⟨x.b, x.o, none⟩) x.es.length x.c) := by
    have : (ys.take (x :: L).length)[0]? = ((x :: L).map Hd.v)[0]? := by rw [hyt]
    rw [List.getElem?_take, if_pos (by simp)] at this
    exact this
  have hlc : (x :: L).length = L.length + 1 := rfl
  have hf := hc.few
  refine C.calls (args := [.pointer (some ⟨cb, 0, none⟩)]) Tryz.func257 rfl rfl rfl ?_
  refine go ?_
  refine E.al hs ?_
  intro b2 w2 hs
  refine go ?_
  refine E.ld hs ?_ (hj := hy)
  refine go ?_
  refine E.ldr (pr_head hs hx) ag_ev rfl ?_
  refine E.al hs ?_
  intro b4 w4 hs
  refine E.sto (vs := x.hd.cs) (ys := x.hd.cs) hs ?_ (hv := rfl) (hsp := spl_all (by rfl)) (h1 := Ev.cs_one hev.1)
  intro w5 hs
  refine go ?_
  refine E.ld hs ?_ (hj := hy)
  refine go ?_
  refine E.slp el_ev hx.row 1 x.es.length ?_
  intro a6 c6 hp6
  have e6 : ((evC x.es).drop (1 * 8)).take ((x.es.length - 1) * 8) = evC x.es.tail := by
    rw [evC_drop, evC_take, List.drop_one, List.take_of_length_le (by simp)]
  rw [e6] at hp6
  have hup : Up1 T' := (List.pairwise_cons.1 hc.up).2
  have hxup : Up1 x.es.tail := by
    have := hc.each x (List.mem_cons_self ..)
    exact this.sublist (List.tail_sublist _)
  have hf' := hc.few
  simp only [List.length_cons] at hf'
  have tl : x.es.tail.length = x.es.length - 1 := List.length_tail
  refine go ?_
  cases hz : decide ((0 : Int) < ((x.es.length - 1 : Nat) : Int)) with
  | true =>
    have hz := of_decide_eq_true hz
    obtain ⟨b7, o7, rfl⟩ := pr_some hp6 (by omega)
    have hx' : (⟨b7, o7, c6, x.es.tail⟩ : Hd).ok g := by
      refine ⟨?_, fun h => by simp only at h; rw [h] at tl; simp at tl; omega, fun e he => hx.evs e (List.mem_of_mem_tail he)⟩
      simp only [Hd.v, tl]
      exact hp6
    have hok' : ∀ y ∈ (⟨b7, o7, c6, x.es.tail⟩ : Hd) :: L, y.ok g := fun y hy => by
      rcases List.mem_cons.1 hy with rfl | hy
      · exact hx'
      · exact hok y (List.mem_cons_of_mem _ hy)
    refine go ?_
    refine E.sto (vs := [.slice (some ⟨b7, o7, none⟩) (x.es.length - 1) c6]) (ys := ys.set 0 (.slice (some ⟨b7, o7, none⟩) (x.es.length - 1) c6)) hs ?_ (hv := rfl) (hsp := rfl) (hj := Nat.ble_eq ▸ (by simp only [List.length_cons, List.length_nil]; omega))
    intro w8 hs
    have hyt' : (ys.set 0 (.slice (some ⟨b7, o7, none⟩) (x.es.length - 1) c6)).take (x :: L).length = ((⟨b7, o7, c6, x.es.tail⟩ : Hd) :: L).map Hd.v := by
      rw [List.take_set, hyt]
      simp only [List.map_cons, List.set_cons_zero, Hd.v, tl]
    have hs := cur_close (cb := cb) (L := ⟨b7, o7, c6, x.es.tail⟩ :: L) (n := (x :: L).length) rfl hok' ((own_close (by simpa using hyc) hnc hcm hyt' hs.pull2).pull3)
    have hinv : HInv (kat Hd.ky ((⟨b7, o7, c6, x.es.tail⟩ : Hd) :: L)) 0 ((⟨b7, o7, c6, x.es.tail⟩ : Hd) :: L).length 0 := by
      refine heap_root (f := kat Hd.ky (x :: L)) hc.heap fun q h1 h2 => ?_
      obtain ⟨q, rfl⟩ : ∃ m, q = m + 1 := ⟨q - 1, by omega⟩
      rfl
    refine go ?_
    refine E.callf Tryz.func301 rfl ?_
    refine fix_any (by simp only [List.length_cons]; exact hf') hinv hs ?_
    intro w9 L2 hp2 hh2 hs
    refine go ?_
    refine E.sto (vs := x.hd.cs) (ys := x.hd.cs) hs ?_ (hv := rfl) (hf := .there (.there .here)) (hsp := spl_all (by rfl)) (h1 := Ev.cs_one hev.1)
    intro w10 hs
    refine go ?_
    refine A.c1t1 rfl rfl rfl (run_lda hs ag_ev (hf := .there (.there .here))) ?_
    refine HR.out _ (crs_close L2 ⟨hh2, fun y hy => ?_, hup, ?_, by rw [hp2.length_eq]; exact hf'⟩ (hs.swap.drop.swap.drop))
    · rcases List.mem_cons.1 (hp2.mem_iff.1 hy) with rfl | hy
      · exact hxup
      · exact hc.each y (List.mem_cons_of_mem _ hy)
    · have hfm : (L2.flatMap Hd.es).Perm (x.es.tail ++ L.flatMap Hd.es) := hp2.flatMap_right Hd.es
      exact hperm.trans hfm.symm
  | false =>
    have hz := of_decide_eq_false hz
    have htl : x.es.tail = [] := List.eq_nil_of_length_eq_zero (by omega)
    rw [htl, List.nil_append] at hperm
    have hs := cur_close (cb := cb) (L := x :: L) (n := (x :: L).length) rfl hok ((own_close hyc hnc hcm hyt hs.pull2).pull3)
    refine go ?_
    refine E.callf Tryz.func302 rfl ?_
    refine heapPop_any hc.few hc.heap hs ?_
    intro w9 v9 L2 hp2 hh2 hs
    refine go ?_
    refine E.sto (vs := x.hd.cs) (ys := x.hd.cs) hs ?_ (hv := rfl) (hf := .there (.there .here)) (hsp := spl_all (by rfl)) (h1 := Ev.cs_one hev.1)
    intro w10 hs
    refine go ?_
    refine A.c1t1 rfl rfl rfl (run_lda hs ag_ev (hf := .there (.there .here))) ?_
    refine HR.out _ (crs_close L2 ⟨hh2, fun y hy => hc.each y (List.mem_cons_of_mem _ (hp2.mem_iff.1 hy)), hup, ?_, by rw [hp2.length_eq]; omega⟩ (hs.swap.drop.swap.drop))
    exact hperm.trans (hp2.flatMap_right _).symm

set_option maxHeartbeats 1600000 in
set_option maxRecDepth 100000 in
theorem crsNew_any {R : Ending → World → Prop} {W w : World} {g : Hl} {H : List HP} {a : Option Addr} {n c : Nat} {ls : List El} {T : List Ev} (hp : Pr 1 g (.slice a n c) n (ls.map El.v)) (hn : ls.length = n) (hn2 : n ≤ 1000000000) (hok : ∀ x ∈ ls, x.ok g) (hup : ∀ x ∈ ls, Up1 x.es) (hT : Up1 T) (hperm : T.Perm (ls.flatMap El.es)) (hs : Sat W w g H)
    (hR : ∀ cb w', Sat W w' g (crs cb T :: H) → R (.returned (ptr cb)) w') : Calls Tryz.prog 255 #[.slice a n c] w R := by
  have HR := Lib.hid hR
  clear hR
  refine C.calls (args := [.slice a n c]) Tryz.func255 rfl rfl rfl ?_
  refine go ?_
  refine E.bx hs ?_
  intro cb w1 hs
  refine gob ?_
  refine C.cut (fun _ : Unit => [(3, .pointer (some ⟨cb, 0, none⟩))]) (fun _ w => ∃ L : List Hd, (∀ x ∈ L, Up1 x.es) ∧ L.flatMap Hd.es = ls.flatMap El.es ∧ L.length ≤ n ∧ Sat W w g (cur cb L :: H)) ?_ ?_
  · refine C.block ?_
    refine C.lp (fun i : Nat => [(3, .pointer (some ⟨cb, 0, none⟩)), (8, .slice a n c), (9, .int .i64 n), (10, .int .i64 i)])
      (fun gk i w => gk = n - i ∧ i ≤ n ∧ ∃ L : List Hd, (∀ x ∈ L, Up1 x.es) ∧ L.flatMap Hd.es = (ls.take i).flatMap El.es ∧ L.length ≤ i ∧ Sat W w g (cur cb L :: H)) n 0 ⟨rfl, Nat.zero_le _, [], by simp, by simp, Nat.le_refl _, cur_close rfl (by simp) hs.nilOwn.swap⟩ ?_
    clear hs
    rintro gk i w2 ⟨rfl, hi, L, hLu, hLf, hLl, hs⟩
    refine go ?_
    refine C.cond_dec (p := (i : Int) < n) rfl (fun h => ?_) (fun h => ?_)
    · have hil : i < ls.length := by omega
      have ho := hok ls[i] (List.getElem_mem hil)
      refine go ?_
      refine E.ix el_lists hs hp i (v := .slice ls[i].a ls[i].es.length ls[i].c) (by rw [List.getElem?_map, List.getElem?_eq_getElem hil]; rfl) ?_
      intro b3 o3 hc3
      refine go ?_
      have hsucc : (ls.take (i + 1)).flatMap El.es = (ls.take i).flatMap El.es ++ ls[i].es := by
        rw [List.take_succ_eq_append_getElem hil, List.flatMap_append]; simp
      cases hz : decide ((0 : Int) < (ls[i].es.length : Nat)) with
      | true =>
        have hz := of_decide_eq_true hz
        obtain ⟨y, hyv, hye, hyo⟩ := El.toHd ho (fun h => by rw [h] at hz; simp at hz)
        obtain ⟨a4, c4, hokL, hs⟩ := cur_open hs
        refine go ?_
        refine E.bsl hs ?_
        intro b5 w5 hs
        have hrow5 := hs.rowOf (size := 1) 1 rfl (by decide)
        refine E.app el_hds hs.pull2 hrow5 ?_
        intro a6 c6 w6 _ _ hs
        refine go ?_
        refine E.sto hs ?_
        intro w7 hs
        refine go ?_
        refine A.rd (n - (i + 1)) (i + 1) ⟨rfl, by omega, L ++ [y], ?_, ?_, by simp; omega, ?_⟩
        · intro x hx
          rcases List.mem_append.1 hx with hx | hx
          · exact hLu x hx
          · simp only [List.mem_singleton] at hx
            subst hx
            rw [hye]
            exact hup _ (List.getElem_mem hil)
        · rw [hsucc, List.flatMap_append, hLf]
          simp [hye]
        · refine cur_close (n := L.length + 1) (by simp) ?_ ?_ (a := a6) (c := c6)
          · intro x hx
            rcases List.mem_append.1 hx with hx | hx
            · exact hokL x hx
            · simp only [List.mem_singleton] at hx
              subst hx
              exact hyo
          · have e1 : (L ++ [y]).map Hd.v = L.map Hd.v ++ [.slice ls[i].a ls[i].es.length ls[i].c] := by
              rw [List.map_append, List.map_cons, List.map_nil, hyv]; rfl
            unfold hrow
            rw [e1]
            exact (hs.swap.drop).swap
      | false =>
        have hz := of_decide_eq_false hz
        refine go ?_
        refine A.rd (n - (i + 1)) (i + 1) ⟨rfl, by omega, L, hLu, ?_, by omega, hs⟩
        have : ls[i].es = [] := List.eq_nil_of_length_eq_zero (by omega)
        rw [hsucc, hLf, this, List.append_nil]
    · obtain rfl : i = n := by omega
      rw [List.take_of_length_le (by omega)] at hLf
      refine go ?_
      exact A.mt () ⟨L, hLu, hLf, by omega, hs⟩
  clear hs
  rintro _ w8 ⟨L, hLu, hLf, hLl, hs⟩
  refine go ?_
  refine E.callf Tryz.func300 rfl ?_
  refine init_any (by omega) hs ?_
  intro w9 L2 hp2 hh2 hs
  refine go ?_
  refine A.r1 ?_
  refine HR.out _ _ (crs_close L2 ⟨hh2, fun x hx => hLu x (hp2.mem_iff.1 hx), hT, ?_, by rw [hp2.length_eq]; omega⟩ hs)
  rw [← hLf] at hperm
  exact hperm.trans (hp2.flatMap_right Hd.es).symm
end Go.Proofs.YtdkbpcibmipelaaGreatDoor

/-
  Layer 8 (segment): how long a record is, a new segment.
-/
namespace Go.Proofs.YtdkbpcibmipelaaGreatDoor
open Go.RowKit
set_option linter.unusedVariables false
set_option linter.unusedSimpArgs false

theorem ag_sg : AggOf Tryz.prog 29 4 := ⟨_, Tryz.underlying29, rfl, by kernel_rfl⟩
/-- How many bytes a record has. -/
def recN (n : Nat) : Nat := (layN n).length + n + 4
/-- A segment. -/
structure Sg where
  wr : Nat
  first : Nat
  x : El
  size : Nat
def Sg.cs (s : Sg) : List Value := [.int .i64 s.wr, .int .u64 s.first, s.x.v, .int .i64 s.size]
def Sg.val (s : Sg) : Value := .agg s.cs.toArray
def Sg.next (s : Sg) : Nat := (s.first + s.x.es.length) % 18446744073709551616
def noSg : Value := .agg #[.int .i64 0, .int .u64 0, .slice none 0 0, .int .i64 0]

set_option maxHeartbeats 1600000 in
set_option maxRecDepth 100000 in
theorem digitsSize_any {R : Ending → World → Prop} {w : World} {n : Nat} (hn : n < 18446744073709551616) (hR : ∀ w', w' = w → R (.returned (.int .i64 (layN n).length)) w') : Calls Tryz.prog 168 #[.int .u64 n] w R := by
  have HR := Lib.hid hR
  clear hR
  have hlen := layN_ten hn
  refine C.calls (args := [.int .u64 n]) Tryz.func168 rfl rfl rfl ?_
  refine gob ?_
  refine C.cut (fun _ : Unit => [(3, .int .i64 ((layN n).length : Nat))]) (fun _ w' => w' = w) ?_ ?_
  · refine C.block ?_
    refine C.lp (fun x : Nat × Nat => [(0, .int .u64 x.1), (3, .int .i64 (x.2 : Nat))]) (fun gk x w' => gk = x.1 ∧ x.1 < 18446744073709551616 ∧ x.2 + (layN x.1).length = (layN n).length + 1 ∧ w' = w) n (n, 1) ⟨rfl, hn, by simp only; omega, rfl⟩ ?_
    rintro m ⟨m, k⟩ w1 ⟨rfl, hm, hk, hw⟩
    simp only at hm hk ⊢
    refine go ?_
    refine C.cond_dec (p := (128 : Int) ≤ m) rfl (fun hlt => ?_) (fun hlt => ?_)
    · refine go ?_
      have hb := layN_big (n := m) (by omega)
      rw [hb, List.length_cons] at hk
      refine A.rd (m / 2 ^ 7) (m / 2 ^ 7, k + 1) ⟨rfl, by simp only; omega, by simp only; omega, hw⟩
    · refine go ?_
      have hb := layN_small (n := m) (by omega)
      rw [hb, List.length_singleton] at hk
      obtain rfl : k = (layN n).length := by omega
      exact A.mt () hw
  · rintro _ w1 hw
    refine go ?_
    refine A.r1 ?_
    exact HR.out _ hw

set_option maxHeartbeats 1600000 in
set_option maxRecDepth 100000 in
theorem checkSize_any {R : Ending → World → Prop} {w : World} {n : Nat} (hn : n ≤ 1000000000) (hR : R (.returned (.int .i64 (recN n))) w) : Calls Tryz.prog 92 #[.int .i64 n] w R := by
  have HR := Lib.hid hR
  clear hR
  have hlen := layN_ten (n := n) (by omega)
  refine C.calls (args := [.int .i64 n]) Tryz.func92 rfl rfl rfl ?_
  refine go ?_
  rw [show Max.max (n : Int) 0 = (n : Int) by omega]
  refine go ?_
  refine E.callf Tryz.func168 rfl ?_
  refine digitsSize_any (n := n) (by omega) ?_
  rintro _ rfl
  refine go ?_
  rw [show Max.max (n : Int) 0 = (n : Int) by omega]
  refine go ?_
  refine A.r1 ?_
  exact HR.out

set_option maxHeartbeats 1600000 in
set_option maxRecDepth 100000 in
theorem sgNext_any {R : Ending → World → Prop} {W w : World} {g : Hl} {H : List HP} {s : Sg} (hf : s.first < 18446744073709551616) (hl : s.x.es.length ≤ 1000000000) (hs : Sat W w g H)
    (hR : ∀ w', Sat W w' g H → R (.returned (.int .u64 s.next)) w') : Calls Tryz.prog 26 #[s.val] w R := by
  have HR := Lib.hid hR
  clear hR
  obtain ⟨wr, first, ⟨a, c, es⟩, size⟩ := s
  simp only at hf hl
  simp only [Sg.val, Sg.cs, El.v]
  refine C.calls (args := [(.agg #[.int .i64 wr, .int .u64 first, .slice a es.length c, .int .i64 size])]) Tryz.func26 rfl rfl rfl ?_
  refine go ?_
  refine E.bx hs ?_
  intro b1 w1 hs
  refine go ?_
  have key := HR.out _ hs.drop
  simp only [Sg.next] at key
  refine A.r1 ?_
  exact key

set_option maxHeartbeats 1600000 in
set_option maxRecDepth 100000 in
theorem sgCreate_any {R : Ending → World → Prop} {W w : World} {g : Hl} {H : List HP} {b : Nat} {d : Dk} {i n : Nat} (hg : Gl g) (hi : i < 64) (hn : n < 18446744073709551616) (h0 : n ≠ 0) (hs : Sat W w g (disk b d :: H))
    (hOK : ∀ w' g', Hl.le g g' → (d.begin (nameB i n) ⟨115, i, n⟩).1 = 0 → Sat W w' g' (disk b (d.begin (nameB i n) ⟨115, i, n⟩).2 :: H) → R (.returned (.tuple #[Sg.val ⟨i, n, ⟨none, 0, []⟩, (headB ⟨115, i, n⟩).length⟩, .int .i64 0])) w')
    (hE : ∀ w' g', Hl.le g g' → (d.begin (nameB i n) ⟨115, i, n⟩).1 ≠ 0 → Sat W w' g' (disk b (d.begin (nameB i n) ⟨115, i, n⟩).2 :: H) → R (.returned (.tuple #[noSg, .int .i64 (d.begin (nameB i n) ⟨115, i, n⟩).1])) w') :
    Calls Tryz.prog 83 #[ptr b, .int .i64 i, .int .u64 n] w R := by
  have HOK := Lib.hid hOK
  have HE := Lib.hid hE
  clear hOK hE
  have ag1 := ag_sg
  have ag2 := ag_title
  refine C.calls (args := [ptr b, .int .i64 i, .int .u64 n]) Tryz.func83 rfl rfl rfl ?_
  refine go ?_
  refine E.al hs ?_
  intro b6 w1 hs
  refine go ?_
  rw [show decide ((64 : Int) ≤ i) = false by rw [decide_eq_false_iff_not]; omega]
  refine go ?_
  have hne : decide ((n : Int) = 0) = false := by rw [decide_eq_false_iff_not]; omega
  refine C.cond rfl (fun h => by rw [hne] at h; cases h) (fun _ => ?_)
  clear hne
  refine go ?_
  refine E.al hs ?_
  intro b8 w2 hs
  refine go ?_
  refine E.sto hs ?_
  intro w3 hs
  refine go ?_
  refine C.held1 b8 hs ?_
  intro w4 hk hs
  refine goh ?_
  have hto : Ti.ok ⟨115, i, n⟩ := ⟨by simp only; omega, hn⟩
  refine EH.one (St.callf Tryz.func18 rfl ?_)
  refine segName_any hg (by omega) hn hs ?_
  intro w5 hs
  refine kept1 hs (fun hk => ?_) (Hl.le_refl _)
  refine goh ?_
  refine EH.one (St.callf Tryz.func154 rfl ?_)
  refine begin_any (t := ⟨115, i, n⟩) hto hs.pull2 ?_
  intro w6 g6 hg6 hs
  refine kept1 hs (fun hk => ?_) hg6
  refine goh ?_
  refine EH.done ?_
  refine go ?_
  by_cases hb : (d.begin (nameB i n) ⟨115, i, n⟩).1 = 0
  · have hd : (!decide ((d.begin (nameB i n) ⟨115, i, n⟩).1 = 0)) = false := by simp [hb]
    refine C.cond rfl (fun h => by rw [hd] at h; cases h) (fun _ => ?_)
    clear hd
    refine go ?_
    have hhl := headB_len hto
    refine E.callf Tryz.func21 rfl ?_
    refine head_any (t := ⟨115, i, n⟩) hs hto ?_
    intro a c w7 g7 hg7 hs
    refine go ?_
    refine E.sto hs ?_
    intro w8 hs
    refine go ?_
    refine A.c1t1 rfl rfl rfl (run_lda hs.pull3 ag_sg) ?_
    exact HOK.out _ _ (hg6.trans hg7) hb hs.drop.pull2.drop.swap.drop
  · have hd : (!decide ((d.begin (nameB i n) ⟨115, i, n⟩).1 = 0)) = true := by simp [hb]
    refine C.cond rfl (fun _ => ?_) (fun h => by rw [hd] at h; cases h)
    clear hd
    refine go ?_
    refine E.sto hs ?_
    intro w7 hs
    refine go ?_
    refine A.c1t1 rfl rfl rfl (run_lda hs.pull2 ag_sg) ?_
    exact HE.out _ _ hg6 hb hs.pull2.drop.swap.drop
end Go.Proofs.YtdkbpcibmipelaaGreatDoor

/-
  append(s[:len(s):len(s)], e) of a row of the pool's: a new row; in a drawn region.
-/
namespace Go.Proofs.YtdkbpcibmipelaaGreatDoor
open Go.RowKit
set_option linter.unusedVariables false
set_option linter.unusedSimpArgs false
section
variable {P : Program} {n : Fm} {ρ : List (Nat × Value)} {W w w' : World} {g g' : Hl} {H H' : List HP} {Q : Exit → Act → World → Prop} {l : List Oper} {S : World → Prop} {fuel m : Nat} {d : Option Tmp} {ty : TypeId} {ps : String} {af : Array Edge} {gd : Option (Nat × Bool)} {v u : Value} {x y : Operand} {t e : TypeId} {z : Value} {s bytes : Nat} {a : Option Addr} {k c i : Nat} {xs news : List Value}

theorem run_slf (he : ElemOf P t e z s bytes) (hp : Pr s g (.slice a k c) k xs) (kd kd' : IntKind) :
    ∃ a', (∀ w, (Instr.sliceAt t (.slice a k c) none (some (.int kd k)) (some (.int kd' k))).run P w = .ok (.slice a' k k) w) ∧ Pr s g (.slice a' k k) k xs := by
  obtain ⟨h1, a0, c0, e1, hn, hc, h0, h⟩ := hp
  simp only [Value.slice.injEq] at e1
  obtain ⟨rfl, _, rfl⟩ := e1
  refine ⟨a, fun w => ?_, h1, a, k, rfl, Nat.le_refl _, by omega, fun ha => ⟨(h0 ha).1, (h0 ha).1⟩, h⟩
  rw [run_slice_any he (l := 0) (h := k) (m := k) (.inl ⟨rfl, rfl⟩) (.inr ⟨_, _, rfl, rfl⟩) (.inr ⟨rfl, _, _, rfl, rfl⟩) hn (Nat.zero_le _) (Nat.le_refl _) hn (fun h => by cases h) w]
  by_cases hk : k = 0
  · rw [if_pos hk]; rfl
  · rw [if_neg hk]
    rcases h with h | ⟨b, o, cur, t', fz, rfl, _⟩
    · exact absurd h hk
    · simp [Addr.add_lit]

theorem run_appendp (he : ElemOf P t e z s bytes) (hp : Pr s g (.slice a k k) k xs) (hs : Sat W w g H) {q : Nat} {D : Nat → Prop} (hrow : Row s w D u q news) (hq : 0 < q) (h1 : ∀ x ∈ news, x.oneCell' = true) (h63 : k + q ≤ 9223372036854775807) (hbytes : (k + q) * bytes ≤ 140737488355328) :
    ∃ a' c' w', (Builtin.append_ #[t, t] ty #[.slice a k k, u]).run P w = .ok (.slice a' (k + q) c') w' ∧ Sat W w' g (own e s (.slice a' (k + q) c') (k + q) (xs ++ news) :: H) := by
  obtain ⟨hl, a0, c0, e1, _, _, hnone, _⟩ := id hp
  simp only [Value.slice.injEq] at e1
  obtain ⟨rfl, _, rfl⟩ := e1
  obtain ⟨ht, ⟨inf, hi, hz, hsz, hb⟩, hzs, hpos⟩ := he
  rcases hrow.news with ⟨_, h0, _⟩ | ⟨a', c', rfl, hnl, hnc⟩
  · omega
  have fin : ∀ v' w', w'.ownsRow w.heap.size e s v' (k + q) (xs ++ news) → w.grownBy w' none → ∃ a2 c2, v' = .slice a2 (k + q) c2 ∧ Sat W w' g (own e s (.slice a2 (k + q) c2) (k + q) (xs ++ news) :: H) := by
    intro v' w' ho hg
    have hs2 := (hs.newOwn ho ⟨hg.os, hg.tape, hg.output, hg.size, fun q hq => hg.block q hq (by simp)⟩)
    obtain ⟨a2, c2, rfl, _⟩ := hs2.ownLen
    exact ⟨a2, c2, rfl, hs2⟩
  cases ha : a with
  | none =>
    subst ha
    obtain ⟨rfl, _⟩ := hnone rfl
    obtain rfl : xs = [] := List.eq_nil_of_length_eq_zero (by simpa using hl)
    obtain ⟨v', w', hrun, r1, r2, _⟩ := run_append_own (P := P) w w.heap.size t ty e inf z s bytes ht hi hz hsz hb hzs hpos (.slice none 0 0) 0 [] (World.ownsRow_nil w _ e s) a' q c' news hnl hnc h1 (by unfold maxLen; omega) hbytes (Nat.le_refl _)
    obtain ⟨a2, c2, rfl, h2⟩ := fin v' w' r1 r2
    exact ⟨a2, c2, w', hrun, h2⟩
  | some ad =>
    subst ha
    have hc0 : ∀ j u, xs[j]? = some u → w.cell? (ad.add j) = some u := by
      rcases (hp.row hs).news with ⟨e, _⟩ | ⟨a, c, e, _, hc⟩
      · cases e
      · simp only [Value.slice.injEq, Option.some.injEq] at e
        obtain ⟨rfl, _⟩ := e
        exact hc
    obtain ⟨v', w', hrun, r1, r2⟩ := run_append_arg_grows (P := P) w t ty e inf z s bytes ht hi hz hsz hb hzs hpos ad k k xs hl hc0 a' q c' news hnl hnc (by omega) (by unfold maxLen; omega) hbytes
    obtain ⟨a2, c2, rfl, h2⟩ := fin v' w' r1 r2
    exact ⟨a2, c2, w', hrun, h2⟩

theorem St.appp {N : List (Nat × Value) → World → Prop} {ops : Array Oper} (he : ElemOf P t e z s bytes) (hp : Pr s g (.slice a k k) k xs) (hs : Sat W w g H) {q : Nat} {D : Nat → Prop} (hrow : Row s w D u q news) (hq : 0 < q) (h1 : ∀ x ∈ news, x.oneCell' = true) (h63 : k + q ≤ 9223372036854775807) (hbytes : (k + q) * bytes ≤ 140737488355328)
    (hx : evo n ρ x = some (.slice a k k)) (hy : evo n ρ y = some u)
    (h : ∀ a' c' w', Sat W w' g (own e s (.slice a' (k + q) c') (k + q) (xs ++ news) :: H) → N (pushv d (.slice a' (k + q) c') ρ) w') :
    St P n ops ⟨d, .call ⟨.builtin .append, #[x, y], #[t, t]⟩, ty, ps, af, none⟩ ρ w N Q := by
  obtain ⟨a', c', w', hr, hs'⟩ := run_appendp (P := P) (ty := ty) he hp hs hrow hq h1 h63 hbytes
  refine St.val (v := .slice a' (k + q) c') (w' := w') (fun ac ha => ?_) (h a' c' w' hs')
  simp only [execOp, resolve, invoke, builtin, Sem.run_bind, Sem.run_pure, Result.andThen_ok, List.map_toArray, List.map_cons, List.map_nil, ha.eval hx, ha.eval hy, hr]

theorem EH.appp (he : ElemOf P t e z s bytes) (hp : Pr s g (.slice a k k) k xs) (hs : Sat W w g H) {q : Nat} {D : Nat → Prop} (hrow : Row s w D u q news)
    (h : ∀ a' c' w', Sat W w' g (own e s (.slice a' (k + q) c') (k + q) (xs ++ news) :: H) → S w' ∧ EH P n l S fuel (bset m i) (pushv d (.slice a' (k + q) c') ρ) w' Q)
    (hr : rdy m l.length 0 l = [i] := by exact rfl) (hi : nth l i = some ⟨d, .call ⟨.builtin .append, #[x, y], #[t, t]⟩, ty, ps, af, none⟩ := by exact rfl) (hq : 0 < q := by omega) (h63 : k + q ≤ 9223372036854775807 := by omega) (hbytes : (k + q) * bytes ≤ 140737488355328 := by omega)
    (hx : evo n ρ x = some (.slice a k k) := by exact rfl) (hy : evo n ρ y = some u := by exact rfl) (h1 : ∀ x ∈ news, x.oneCell' = true := by first | exact bs_one _ | (intro u hu; simp only [List.mem_cons, List.not_mem_nil, or_false] at hu; rcases hu with rfl | rfl | rfl <;> exact rfl)) :
    EH P n l S (fuel + 1) m ρ w Q := EH.one (St.appp he hp hs hrow hq h1 h63 hbytes hx hy h) hr hi

/-- s[:len:len] in a drawn region: the first that may come up. -/
theorem EH.slf {rs : List Nat} {hi' mx : Operand} {kd kd' : IntKind} (he : ElemOf P t e z s bytes) (hp : Pr s g (.slice a k c) k xs) (hS : S w) (kk : ∀ a', Pr s g (.slice a' k k) k xs → EH P n l S fuel (bset m i) (pushv d (.slice a' k k) ρ) w Q)
    (hr : rdy m l.length 0 l = i :: rs := by exact rfl) (hnth : nth l i = some ⟨d, .slice t x none (some hi') (some mx), ty, ps, af, gd⟩ := by exact rfl) (hg : want n l ρ gd = some true := by exact rfl)
    (hx : evo n ρ x = some (.slice a k c) := by exact rfl) (h1 : evo n ρ hi' = some (.int kd k) := by exact rfl) (h2 : evo n ρ mx = some (.int kd' k) := by exact rfl)
    (hsel : Region.noSelect l.toArray = true := by kernel_rfl) (hf : Region.free .any l.toArray (bits m l.length) i = true := by decide +kernel)
    (hQ : ∀ v c a w, Q (.panic c) (a.put d v) w → Q (.panic c) a w := by exact fun _ _ _ _ h => h) : EH P n l S (fuel + 1) m ρ w Q := by
  obtain ⟨a', h3, h4⟩ := run_slf (P := P) he hp kd kd'
  exact EH.take i (by rw [hr]; simp) hnth hsel hf hQ hS (yif (oi := ⟨d, .slice t x none (some hi') (some mx), ty, ps, af, gd⟩) hg (Pf.pv (Pv.slice hx rfl (by simp only [evm, h1, Option.map_some]) (by simp only [evm, h2, Option.map_some]) h3))) (kk _ h4)
end
end Go.Proofs.YtdkbpcibmipelaaGreatDoor

/-
  A drawn region whose last operations (stores) wait for all the others: the first ones while S holds, then the last.
-/
namespace Go.Proofs.YtdkbpcibmipelaaGreatDoor
open Go.RowKit
set_option linter.unusedVariables false
set_option linter.unusedSimpArgs false
section
variable {P : Program} {Q : Exit → Act → World → Prop}
def midQ (P : Program) (S0 : World → Prop) (o2 : Array Oper) (Q : Exit → Act → World → Prop) (k : Nat) (M : Array Bool) : Exit → Act → World → Prop
  | .normal, a, w => wpAnyH P .any o2 Q S0 k M a w
  | e, a, w => Q e a w
theorem upon_mid {S0 : World → Prop} {o2 : Array Oper} {k : Nat} {M : Array Bool} {o : Oper} {a : Act} {w : World} {K : Act → World → Prop} (h : o.wp P a w K (midQ P S0 o2 Q k M)) : o.wp P a w K Q := by
  unfold Oper.wp at *
  generalize (execOp a.eval o).run P w = r at *
  cases r with
  | ok n w' =>
    cases n <;> simp only [Oper.upon] at h ⊢ <;>
      first
        | exact h
        | exact Calls.mono h (fun e w'' he => by cases e <;> exact he)
        | exact Rows.mono h (fun _ _ he => he)
  | halt x w' => cases x <;> simp only [Oper.upon] at h ⊢ <;> exact h
theorem least_false (L : Array Bool) : ∀ n, (∀ i < n, L.getD i true = true) ∨ ∃ i, i < n ∧ L.getD i true = false ∧ ∀ j < i, L.getD j true = true
  | 0 => .inl fun i h => by omega
  | n + 1 => by
    rcases least_false L n with h | ⟨i, h1, h2, h3⟩
    · cases hn : L.getD n true with
      | true =>
        refine .inl ?_
        intro i hi
        by_cases h0 : i = n
        · rw [h0]; exact hn
        · exact h i (by omega)
      | false => exact .inr ⟨n, by omega, hn, h⟩
    · exact .inr ⟨i, by omega, h2, h3⟩
theorem getD_of (L : Array Bool) {i : Nat} (h : i < L.size) : L[i]? = some (L.getD i true) := by
  rw [Array.getD_eq_getD_getElem?, Array.getElem?_eq_getElem h]; rfl

theorem last_false (L : Array Bool) : ∀ (d m : Nat), L.size - m ≤ d → L.getD m true = false → ∃ j, L.getD j true = false ∧ ∀ q, j < q → L.getD q true = true
  | d, m, hd, hm => by
    by_cases h : ∃ q, m < q ∧ L.getD q true = false
    · obtain ⟨q, hq, hf⟩ := h
      have hqs : q < L.size := by
        apply Nat.lt_of_not_le
        intro hge
        rw [Array.getD_eq_getD_getElem?, Array.getElem?_eq_none (by omega)] at hf; cases hf
      cases d with
      | zero => omega
      | succ d => exact last_false L d q (by omega) hf
    · refine ⟨m, hm, fun q hq => ?_⟩
      cases hb : L.getD q true with
      | true => rfl
      | false => exact absurd ⟨q, hq, hb⟩ h
theorem tail_any {S0 S : World → Prop} (himp : ∀ w, S w → S0 w) {o2 : Array Oper} {k : Nat} {M1 : Array Bool} {T U : Nat → Bool}
    (hac : ∀ (i : Nat) (o : Oper), o2[i]? = some o → T i = false → U i = true → ∀ e ∈ o.after, Region.binds .any e = true → e.on < i ∧ T e.on = false)
    (hwait : ∀ (i : Nat) (o : Oper), o2[i]? = some o → T i = true → ∀ j < o2.size, T j = false → U j = true → (∃ e ∈ o.after, Region.binds .any e = true ∧ T e.on = true ∧ e.on < o2.size) ∨ (∃ e ∈ o.after, Region.binds .any e = true ∧ e.on = j) ∨ ∃ (q : Nat) (oq : Oper), o2[q]? = some oq ∧ T q = false ∧ U q = true ∧ j < q ∧ ∃ e ∈ oq.after, Region.binds .any e = true ∧ e.on = j)
    (hM1 : ∀ i, i < o2.size → M1[i]? = some (!T i)) (hMs : M1.size = o2.size) :
    ∀ (f : Nat) (L M : Array Bool) (a : Act) (w : World), L.size = o2.size → M.size = o2.size → (∀ i, T i = false → M[i]? = L[i]?) → (∀ i, i < o2.size → T i = true → M[i]? = some false ∧ L[i]? = some true) → (∀ j, L.getD j true = false → U j = true) → (∀ (j : Nat) (o : Oper), o2[j]? = some o → T j = false → U j = true → L.getD j false = true → ∀ e ∈ o.after, Region.binds .any e = true → L.getD e.on false = true) → L.toList.count false = f →
      wpAnyH P .any o2 (midQ P S0 o2 Q k M1) S f L a w → wpAnyH P .any o2 Q S0 (f + k) M a w := by
  intro f
  induction f with
  | zero =>
    intro L M a w hL hM hlo hhi hu hcl hc h
    have hall : ∀ i < o2.size, L[i]? = some true := by
      intro i hi
      have hi' : i < L.size := by omega
      rw [Array.getElem?_eq_getElem hi']
      cases hb : L[i] with
      | true => rfl
      | false =>
        have : false ∈ L.toList := by
          rw [← hb]; simp
        have := List.count_pos_iff.2 this
        omega
    have e : M = M1 := by
      apply Array.ext_getElem?
      intro i
      by_cases hi : i < o2.size
      · rw [hM1 i hi]
        cases ht : T i with
        | false => rw [hlo i ht, hall i hi]; rfl
        | true => rw [(hhi i hi ht).1]; rfl
      · rw [Array.getElem?_eq_none (by omega), Array.getElem?_eq_none (by omega)]
    subst e
    rw [Nat.zero_add]
    exact h.2
  | succ f ih =>
    intro L M a w hL hM hlo hhi hu hcl hc h
    have hlg : ∀ i, T i = false → M.getD i true = L.getD i true := fun i hi => by rw [Array.getD_eq_getD_getElem?, Array.getD_eq_getD_getElem?, hlo i hi]
    have hlgf : ∀ i, T i = false → M.getD i false = L.getD i false := fun i hi => by rw [Array.getD_eq_getD_getElem?, Array.getD_eq_getD_getElem?, hlo i hi]
    obtain ⟨m, hm, hmf, hmin⟩ : ∃ i, i < o2.size ∧ L.getD i true = false ∧ ∀ j < i, L.getD j true = true := by
      rcases least_false L o2.size with h0 | h0
      · exfalso
        have : false ∈ L.toList := List.count_pos_iff.1 (by omega)
        obtain ⟨i, hi, he⟩ := List.mem_iff_getElem.1 this
        have hi' : i < L.size := by simpa using hi
        have := h0 i (by omega)
        rw [Array.getD_eq_getD_getElem?, Array.getElem?_eq_getElem hi'] at this
        simp at he this
        rw [he] at this; cases this
      · exact h0
    have hnt : ∀ i, L.getD i true = false → T i = false := by
      intro i hi
      cases ht : T i with
      | false => rfl
      | true =>
        by_cases hi2 : i < o2.size
        · rw [Array.getD_eq_getD_getElem?, (hhi i hi2 ht).2] at hi; cases hi
        · rw [Array.getD_eq_getD_getElem?, Array.getElem?_eq_none (by omega)] at hi; cases hi
    have hmT := hnt m hmf
    have hmf' : L.getD m false = false := by
      rw [Array.getD_eq_getD_getElem?, getD_of L (by omega), hmf]; rfl
    have hready : m ∈ Region.ready .any o2 M := by
      rw [mem_ready]
      refine ⟨by rw [hlg m hmT]; exact hmf, ?_⟩
      have ho : o2[m]? = some o2[m] := Array.getElem?_eq_getElem hm
      refine ⟨o2[m], ho, fun e he hb => ?_⟩
      obtain ⟨hlt, hT⟩ := hac m _ ho hmT (hu m hmf) e he hb
      rw [hlgf _ hT, Array.getD_eq_getD_getElem?, getD_of L (by omega), hmin _ hlt]; rfl
    rw [Nat.add_right_comm]
    refine ⟨fun h0 => (by rw [h0] at hready; cases hready), fun i hi => ?_⟩
    obtain ⟨hiu, o, ho, hall⟩ := mem_ready.1 hi
    have hi1 : i < o2.size := (Array.getElem?_eq_some_iff.1 ho).1
    have hiT : T i = false := by
      cases ht : T i with
      | false => rfl
      | true =>
        obtain ⟨m2, hm2, hmax⟩ := last_false L _ m (Nat.le_refl _) hmf
        have hmT2 := hnt m2 hm2
        have hm2s : m2 < o2.size := by
          apply Nat.lt_of_not_le
          intro hge
          rw [Array.getD_eq_getD_getElem?, Array.getElem?_eq_none (by omega)] at hm2; cases hm2
        have hmf2 : L.getD m2 false = false := by
          rw [Array.getD_eq_getD_getElem?, getD_of L (by omega), hm2]; rfl
        rcases hwait i o ho ht m2 hm2s hmT2 (hu m2 hm2) with ⟨e, he, hb, hT, hons⟩ | ⟨e, he, hb, hon⟩ | ⟨q, oq, hoq, hqT, hqU, hlt, e, he, hb, hon⟩
        · have := hall e he hb
          rw [Array.getD_eq_getD_getElem?, (hhi _ hons hT).1] at this
          cases this
        · have := hall e he hb
          rw [hon, hlgf m2 hmT2, hmf2] at this
          cases this
        · have hqs : q < o2.size := (Array.getElem?_eq_some_iff.1 hoq).1
          have hql : L.getD q false = true := by
            rw [Array.getD_eq_getD_getElem?, getD_of L (by omega), hmax q hlt]; rfl
          have := hcl q oq hoq hqT hqU hql e he hb
          rw [hon, hmf2] at this
          cases this
    have hLi : L.getD i true = false := by rw [← hlg i hiT]; exact hiu
    have hiU := hu i hLi
    have hir : i ∈ Region.ready .any o2 L := by
      rw [mem_ready]
      refine ⟨by rw [← hlg i hiT]; exact hiu, o, ho, fun e he hb => ?_⟩
      rw [← hlgf _ (hac i o ho hiT hiU e he hb).2]; exact hall e he hb
    have hst := h.2 i hir
    have hiL : i < L.size := by omega
    have hcount : (L.setIfInBounds i true).toList.count false = f := by
      have hLi2 : L[i] = false := by
        rw [Array.getD_eq_getD_getElem?, Array.getElem?_eq_getElem hiL] at hLi
        exact hLi
      rw [Array.toList_setIfInBounds, List.count_set (by simpa using hiL), hc]
      simp [hLi2]
    have next : ∀ a w, (S w ∧ wpAnyH P .any o2 (midQ P S0 o2 Q k M1) S f (L.setIfInBounds i true) a w) → (S0 w ∧ wpAnyH P .any o2 Q S0 (f + k) (M.setIfInBounds i true) a w) := fun a w hh =>
      ⟨himp _ hh.1, ih _ _ a w (by simpa using hL) (by simpa using hM) (fun j hj => by
        rw [Array.getElem?_setIfInBounds, Array.getElem?_setIfInBounds, hlo j hj]
        by_cases hij : i = j
        · subst hij; simp [hiL, show i < M.size by omega]
        · simp [hij]) (fun j hj hj2 => by
        have hne : i ≠ j := fun h => by rw [h] at hiT; rw [hiT] at hj2; cases hj2
        rw [Array.getElem?_setIfInBounds_ne hne, Array.getElem?_setIfInBounds_ne hne]
        exact hhi j hj hj2) (fun j hj => by
        refine hu j ?_
        by_cases hij : i = j
        · subst hij; exact hLi
        · rw [getD_set_ne true hij] at hj; exact hj) (fun j oj hoj hjT hjU hjl e he hb => by
        by_cases hij : i = j
        · subst hij
          rw [ho] at hoj; cases hoj
          have h5 := hall e he hb
          rw [hlgf _ (hac i _ ho hiT hiU e he hb).2] at h5
          exact getD_set_true h5
        · rw [getD_set_ne false hij] at hjl
          exact getD_set_true (hcl j oj hoj hjT hjU hjl e he hb)) hcount hh.2⟩
    have hst := wpOp_mono next hst
    unfold wpOp at hst ⊢
    rw [ho] at hst ⊢
    simp only at hst ⊢
    split
    · rename_i hw
      rw [if_pos hw] at hst
      rcases hst with hst | ⟨ha, a', w', hl⟩
      · exact .inl (upon_mid hst)
      · exact .inr ⟨ha, a', w', hl⟩
    · rename_i hw
      rw [if_neg hw] at hst
      exact hst
/-- Those that have come up (m), the last ones (t), both (mt), all but the last (m1). -/
def tlB (l : List Oper) (m t mt m1 f : Nat) : Bool :=
  ((List.range l.length).all fun i => (bt mt i == (bt m i || bt t i)) && (bt m1 i == !bt t i) && !(bt m i && bt t i)) &&
  (l.zipIdx.all fun (o, i) => bt t i || bt m i || o.after.all fun e => !Region.binds .any e || (Nat.blt e.on i && !bt t e.on)) &&
  (l.zipIdx.all fun (o, i) => !bt t i || (List.range l.length).all fun j => bt t j || bt m j || (o.after.any fun e => Region.binds .any e && (bt t e.on && Nat.blt e.on l.length)) || (o.after.any fun e => Region.binds .any e && Nat.beq e.on j) || l.zipIdx.any fun (oq, q) => !bt t q && !bt m q && Nat.blt j q && oq.after.any fun e => Region.binds .any e && Nat.beq e.on j) &&
  Nat.beq (((List.range l.length).map (bt mt)).count false) f

variable {n : Fm} {ρ : List (Nat × Value)} {W w w' : World} {g g' : Hl} {H H' : List HP} {l l1 : List Oper} {S : World → Prop}
theorem EH.tail (t mt m1 f k : Nat) {m F : Nat} {S0 : World → Prop} (S : World → Prop) (himp : ∀ w, S w → S0 w) (h : EH P n l S f mt ρ w (midQ P S0 l.toArray Q k (bits m1 l.length))) (hF : F = f + k := by exact rfl)
    (hb : tlB l m t mt m1 f = true := by kernel_rfl) : EH P n l S0 F m ρ w Q := fun a ha => by
  subst hF
  have h0 := h a ha
  simp only [tlB, Bool.and_eq_true, List.all_eq_true] at hb
  obtain ⟨⟨⟨hb1, hb2⟩, hb3⟩, hb4⟩ := hb
  have hb1 : ∀ i < l.length, bt mt i = (bt m i || bt t i) ∧ bt m1 i = !bt t i ∧ (bt m i && bt t i) = false := fun i hi => by
    have := hb1 i (by simpa using hi)
    obtain ⟨⟨h1, h2⟩, h3⟩ := this
    exact ⟨by simpa using h1, by simpa using h2, by rw [Bool.not_eq_true'] at h3; exact h3⟩
  refine (tail_any himp (T := bt t) (U := fun j => !bt m j) (M1 := bits m1 l.length) ?_ ?_ ?_ (by rw [bits_size]; simp) f (bits mt l.length) (bits m l.length) a w (by rw [bits_size]; simp) (by rw [bits_size]; simp) ?_ ?_ ?_ ?_ ?_ h0)
  · intro i o ho hT hU e he hbd
    simp only [Bool.not_eq_true'] at hU
    have hi : l[i]? = some o := by simpa using ho
    have := hb2 (o, i) (by rw [List.mem_zipIdx_iff_getElem?]; exact hi)
    simp only [hT, hU, Bool.false_or] at this
    rw [Array.all_eq_true_iff_forall_mem] at this
    have := this e he
    simp only [hbd, Bool.not_true, Bool.false_or, Bool.and_eq_true, Bool.not_eq_true'] at this
    exact ⟨Nat.le_of_ble_eq_true this.1, this.2⟩
  · intro i o ho hT j hj hTj hU
    have hi : l[i]? = some o := by simpa using ho
    have := hb3 (o, i) (by rw [List.mem_zipIdx_iff_getElem?]; exact hi)
    simp only [hT, Bool.not_true, Bool.false_or, List.all_eq_true] at this
    have := this j (by simpa using hj)
    simp only [Bool.not_eq_true'] at hU
    simp only [hTj, hU, Bool.false_or, Bool.or_eq_true] at this
    rcases this with (this | this) | this
    · rw [Array.any_eq_true'] at this
      obtain ⟨e, he, h2⟩ := this
      simp only [Bool.and_eq_true] at h2
      have h3 : e.on < l.length := Nat.le_of_ble_eq_true h2.2.2
      exact .inl ⟨e, he, h2.1, h2.2.1, by simpa using h3⟩
    · rw [Array.any_eq_true'] at this
      obtain ⟨e, he, h2⟩ := this
      simp only [Bool.and_eq_true] at h2
      exact .inr (.inl ⟨e, he, h2.1, Nat.eq_of_beq_eq_true h2.2⟩)
    · rw [List.any_eq_true] at this
      obtain ⟨⟨oq, q⟩, hmem, h2⟩ := this
      simp only [Bool.and_eq_true, Bool.not_eq_true'] at h2
      obtain ⟨⟨⟨h3, h4⟩, h5⟩, h6⟩ := h2
      rw [Array.any_eq_true'] at h6
      obtain ⟨e, he, h7⟩ := h6
      simp only [Bool.and_eq_true] at h7
      rw [List.mem_zipIdx_iff_getElem?] at hmem
      exact .inr (.inr ⟨q, oq, by simpa using hmem, h3, by rw [h4]; rfl, Nat.le_of_ble_eq_true h5, e, he, h7.1, Nat.eq_of_beq_eq_true h7.2⟩)
  · intro i hi
    have hi : i < l.length := by simpa using hi
    rw [bits_get _ _ _ hi, (hb1 i hi).2.1]
  · intro i hT
    by_cases hi : i < l.length
    · rw [bits_get _ _ _ hi, bits_get _ _ _ hi, (hb1 i hi).1, hT, Bool.or_false]
    · rw [Array.getElem?_eq_none (by rw [bits_size]; omega), Array.getElem?_eq_none (by rw [bits_size]; omega)]
  · intro i hi hT
    have hi : i < l.length := by simpa using hi
    have h3 := (hb1 i hi).2.2
    rw [hT, Bool.and_true] at h3
    rw [bits_get _ _ _ hi, bits_get _ _ _ hi, (hb1 i hi).1, hT, Bool.or_true, h3]
    exact ⟨rfl, rfl⟩
  · intro j hj
    rw [bits_getD] at hj
    split at hj
    · rename_i hi
      rw [(hb1 j hi).1] at hj
      cases hm : bt m j
      · rfl
      · rw [hm] at hj; cases hj
    · cases hj
  · intro j o ho hT hU hj e he hbd
    have hi : l[j]? = some o := by simpa using ho
    have hjl : j < l.length := (List.getElem?_eq_some_iff.1 hi).1
    rw [bits_getD, if_pos hjl, (hb1 j hjl).1, hT, Bool.or_false] at hj
    simp only [hj] at hU
    cases hU
  · have := Nat.eq_of_beq_eq_true hb4
    rw [← this]
    simp [bits]
theorem A.mid {k m : Nat} {S0 : World → Prop} (h : EH P n l S0 k m ρ w Q) : A n .normal ρ w (midQ P S0 l.toArray Q k (bits m l.length)) := A.mk fun a ha => by
  simp only [midQ]
  exact h a ha
/-- This one first. -/
theorem EH.tp (i : Nat) {m fuel : Nat} {oi : Oper} {v : Value} (hS : S w) (h : EH P n l S fuel (bset m i) (pushv oi.dst v ρ) w Q) (hr : (rdy m l.length 0 l).contains i = true := by kernel_rfl) (hi : nth l i = some oi := by exact rfl) (hg : want n l ρ oi.guard = some true := by exact rfl) (hy : Pf P n S ρ oi.op oi.type v := by exact pft) (hsel : Region.noSelect l.toArray = true := by kernel_rfl) (hf : Region.free .any l.toArray (bits m l.length) i = true := by decide +kernel)
    (hQ : ∀ v c a w, Q (.panic c) (a.put oi.dst v) w → Q (.panic c) a w := by exact fun _ _ _ _ h => h) : EH P n l S (fuel + 1) m ρ w Q :=
  EH.take i (by simpa using hr) hi hsel hf hQ hS (yif hg hy) h
/-- The beginning, nothing held. -/
theorem C.heldN {id : Nat} (hs : Sat W w g H) (h : ∀ w', Sat W w' g H → EH P n l (fun _ => True) l.length 0 ρ w' Q) (hm : P.follows .mixedOrders = true := by kernel_rfl) : C P n (.region id l.toArray true) ρ w Q := C.held _ hs h hm
end
end Go.Proofs.YtdkbpcibmipelaaGreatDoor

/-
  Layer 8 (segment): one more event.
-/
namespace Go.Proofs.YtdkbpcibmipelaaGreatDoor
open Go.RowKit
set_option linter.unusedVariables false
set_option linter.unusedSimpArgs false

theorem right_zero {e : Ev} (h : e.right = 0) : 0 ≤ e.wr ∧ e.wr < 64 ∧ (e.kd = 5 → 0 ≤ e.nd ∧ e.nd < 64) := by
  unfold Ev.right at h
  split at h
  · omega
  · rename_i h1
    refine ⟨by omega, by omega, fun h5 => ?_⟩
    have : ¬ (e.kd = 5 ∧ ¬ (0 ≤ e.nd ∧ e.nd < 64)) := fun h6 => h1 (.inr (.inr (.inr (.inr (.inr h6)))))
    omega
def szAt (b n : Nat) : World → Prop := fun w => w.cell? ⟨b, 3, none⟩ = some (.int .i64 n)
/-- May an event be added. -/
def Sg.fit (s : Sg) (e : Ev) : Int := if e.right = 0 then (if e.wr = s.wr ∧ e.sq = s.next then 0 else 9) else e.right

set_option maxHeartbeats 3200000 in
set_option maxRecDepth 100000 in
theorem sgAdd_any {R : Ending → World → Prop} {W w : World} {g : Hl} {H : List HP} {b : Nat} {d : Dk} {s : Sg} {e : Ev} (hg : Gl g) (ho : e.ok g) (hx : s.x.ok g) (hwr : s.wr < 64) (hf : s.first < 18446744073709551616) (hsz : s.size ≤ 4000000000000000000) (hl : s.x.es.length ≤ 1000000000) (hs : Sat W w g (disk b d :: H))
    (hN : ∀ w' g', Hl.le g g' → s.fit e ≠ 0 → Sat W w' g' (disk b d :: H) → R (.returned (.tuple #[s.val, .int .i64 (s.fit e)])) w')
    (hE : ∀ w' g', Hl.le g g' → s.fit e = 0 → (d.add (nameB s.wr s.first) e.enc).1 ≠ 0 → Sat W w' g' (disk b (d.add (nameB s.wr s.first) e.enc).2 :: H) → R (.returned (.tuple #[s.val, .int .i64 (d.add (nameB s.wr s.first) e.enc).1])) w')
    (hOK : ∀ a' c' tv w' g', Hl.le g g' → s.fit e = 0 → (d.add (nameB s.wr s.first) e.enc).1 = 0 → El.ok ⟨a', c', s.x.es ++ [e.ep.ev tv]⟩ g' → Sat W w' g' (disk b (d.add (nameB s.wr s.first) e.enc).2 :: H) → R (.returned (.tuple #[Sg.val ⟨s.wr, s.first, ⟨a', c', s.x.es ++ [e.ep.ev tv]⟩, s.size + recN e.enc.length⟩, .int .i64 0])) w') :
    Calls Tryz.prog 28 #[s.val, ptr b, e.val] w R := by
  have HN := Lib.hid hN
  have HE := Lib.hid hE
  have HOK := Lib.hid hOK
  clear hN hE hOK
  have ag1 := ag_sg
  have ag2 := ag_ev
  obtain ⟨ea, ec, etv, hnc, _⟩ := ho.tv.len
  obtain ⟨wr, first, ⟨a, c, es⟩, size⟩ := s
  simp only at hx hwr hf hsz hl
  simp only [Sg.val, Sg.cs, El.v]
  refine C.calls (args := [(.agg #[.int .i64 wr, .int .u64 first, .slice a es.length c, .int .i64 size]), ptr b, e.val]) Tryz.func28 rfl rfl rfl ?_
  refine go ?_
  refine E.bx hs ?_
  intro b3 w1 hs
  refine E.bx hs (xs := e.cs) ?_ (hx := rfl)
  intro b5 w2 hs
  refine go ?_
  refine E.al hs ?_
  intro b6 w3 hs
  refine go ?_
  refine E.callf Tryz.func101 rfl ?_
  refine right_any (e := e) ho hs ?_
  intro w4 hs
  refine go ?_
  cases hr : decide (e.right = 0) with
  | false =>
    have hr := of_decide_eq_false hr
    refine go ?_
    refine E.sto hs ?_
    intro w5 hs
    refine go ?_
    refine A.c1t1 rfl rfl rfl (run_lda hs ag_sg) ?_
    have key := HN.out w5 g (Hl.le_refl _)
    simp only [Sg.fit, if_neg hr] at key
    exact key hr hs.drop.drop.drop
  | true =>
  have hr := of_decide_eq_true hr
  obtain ⟨hw0, hw1, hnd⟩ := right_zero hr
  refine go ?_
  refine C.held2 b5 b3 hs ?_
  intro w5 hk hs
  refine goh ?_
  cases hc : decide (e.wr = (wr : Int)) with
  | false =>
    have hc := of_decide_eq_false hc
    refine goh ?_
    refine EH.done ?_
    refine go ?_
    refine E.sto hs ?_
    intro w6 hs
    refine go ?_
    refine A.c1t1 rfl rfl rfl (run_lda hs ag_sg) ?_
    have key := HN.out w6 g (Hl.le_refl _)
    simp only [Sg.fit, if_pos hr, hc, false_and, if_false] at key
    exact key (by decide) hs.drop.drop.drop
  | true =>
  have hc := of_decide_eq_true hc
  refine goh ?_
  refine EH.one (St.guard rfl rfl (St.callf Tryz.func26 rfl ?_))
  refine sgNext_any (s := ⟨wr, first, ⟨a, c, es⟩, size⟩) hf (by simp only; omega) hs ?_
  intro w6 hs
  refine kept2 hs (fun hk => ?_) (Hl.le_refl _)
  refine goh ?_
  refine EH.done ?_
  refine go ?_
  cases hn : decide ((e.sq : Int) = (Sg.next ⟨wr, first, ⟨a, c, es⟩, size⟩ : Nat)) with
  | false =>
    have hn := of_decide_eq_false hn
    refine go ?_
    refine E.sto hs ?_
    intro w7 hs
    refine go ?_
    refine A.c1t1 rfl rfl rfl (run_lda hs ag_sg) ?_
    have key := HN.out w7 g (Hl.le_refl _)
    simp only [Sg.fit, if_pos hr] at key
    rw [if_neg (by rintro ⟨_, h⟩; exact hn (by rw [h]))] at key
    exact key (by decide) hs.drop.drop.drop
  | true =>
  have hn := of_decide_eq_true hn
  have hfit : Sg.fit ⟨wr, first, ⟨a, c, es⟩, size⟩ e = 0 := by
    simp only [Sg.fit, if_pos hr]
    exact if_pos ⟨hc, by exact_mod_cast hn⟩
  clear hn
  refine go ?_
  refine E.callf Tryz.func102 rfl ?_
  refine encode_any (e := e) ho hw0 (fun h => (hnd h).1) hs ?_
  intro pa pc w7 g7 hg7 hs
  obtain ⟨g8, hg8, hp8, hs⟩ := hs.publishOwn
  refine go ?_
  refine E.callf Tryz.func18 rfl ?_
  refine segName_any (hg.mono (hg7.trans hg8)) (by omega) hf hs ?_
  intro w8 hs
  refine go ?_
  refine E.callf Tryz.func30 rfl ?_
  refine add_any hs.pull3 hp8 rfl ?_
  intro w9 g9 hg9 hs
  refine go ?_
  by_cases hb : (d.add (nameB wr first) e.enc).1 = 0
  · have hd : (!decide ((d.add (nameB wr first) e.enc).1 = 0)) = false := by simp [hb]
    refine C.cond rfl (fun h => by rw [hd] at h; cases h) (fun _ => ?_)
    clear hd
    refine go ?_
    refine C.heldN hs ?_
    intro w10 hs
    have rz : ∀ w, Keeps g9 [(b5, e.cs, 46), (b3, [.int .i64 wr, .int .u64 first, .slice a es.length c, .int .i64 size], 29)] w → szAt b3 size w := fun w hw => Rd.blk (.there .here) rfl w hw
    have hk : Keeps g9 [(b5, e.cs, 46), (b3, [.int .i64 wr, .int .u64 first, .slice a es.length c, .int .i64 size], 29)] w10 := Keeps.of2 hs (Hl.le_refl _)
    have hz := rz _ hk
    have hrd : Rd (szAt b3 size) b3 3 (.int .i64 size) := fun w h => h
    refine EH.tail 4194304 4194304 4194303 22 1 (szAt b3 size) (fun _ _ => trivial) ?_
    refine EH.tp 13 hz ?_
    refine EH.tp 14 hz ?_
    refine EH.tp 15 hz ?_
    refine EH.tp 16 hz ?_
    refine EH.tail 4063232 8380416 4325375 13 5 (Keeps g9 [(b5, e.cs, 46), (b3, [.int .i64 wr, .int .u64 first, .slice a es.length c, .int .i64 size], 29)]) rz ?_
    have hen : e.enc.length ≤ 2097152 := by
      simp only [Dk.add] at hb
      split at hb
      · simp at hb
      · omega
    have hrec : recN e.enc.length ≤ 2097166 := by
      have := layN_ten (n := e.enc.length) (by omega)
      unfold recN; omega
    have hrow : Pr 8 g9 (.slice a es.length c) es.length (evC es) := hx.row.mono ((hg7.trans hg8).trans hg9)
    refine goh ?_
    refine EH.slf el_ev hrow hk ?_
    intro a3 hrow
    refine goh ?_
    refine EH.one (St.callf Tryz.func103 rfl ?_)
    refine eplain_any (e := e) (ho.mono ((hg7.trans hg8).trans hg9)) hw0 (fun h => (hnd h).1) hs ?_
    intro tv w11 g11 hg11 hpo hs
    refine kept2 hs (fun hk => ?_) hg11
    refine goh ?_
    replace hrow := hrow.mono hg11
    refine EH.bsle el_ev hs (cs := (e.ep.ev tv).cs) rfl ?_
    intro b12 w12 hs
    refine kept2 hs (fun hk => ?_) hg11
    refine goh ?_
    refine EH.appp el_ev hrow hs (hs.rowOf (size := 8) 1 rfl (by decide)) ?_ (h1 := fun u hu => List.all_eq_true.1 (Ev.cs_one hpo) u hu)
    intro a13 c13 w13 hs
    refine kept2 hs (fun hk => ?_) hg11
    refine goh ?_
    refine EH.done ?_
    refine A.mid ?_
    have hz : szAt b3 size w13 := Rd.blk (g := g11) (.here) rfl w13 (Keeps.of1 hs (Hl.le_refl _) (b1 := b3) (x1 := [.int .i64 wr, .int .u64 first, .slice a es.length c, .int .i64 size]))
    refine EH.tp 19 hz ?_
    refine EH.one (St.callf Tryz.func92 rfl ?_)
    refine checkSize_any (n := e.enc.length) (by omega) ?_
    refine ⟨hz, ?_⟩
    refine EH.tp 18 hz ?_
    refine EH.sto (vs := [.slice a13 (es.length + 1) c13]) (ys := [.int .i64 wr, .int .u64 first, .slice a13 (es.length + 1) c13, .int .i64 size]) hs ?_ (hv := rfl) (hsp := rfl)
    intro w14 hs
    have hz : szAt b3 size w14 := Rd.blk (g := g11) (.here) rfl w14 (Keeps.of1 hs (Hl.le_refl _) (b1 := b3) (x1 := [.int .i64 wr, .int .u64 first, .slice a13 (es.length + 1) c13, .int .i64 size]))
    refine ⟨hz, ?_⟩
    refine EH.tp 21 hz ?_
    refine EH.done ?_
    refine A.mid ?_
    refine EH.sto (vs := [.int .i64 (size + recN e.enc.length : Nat)]) (ys := [.int .i64 wr, .int .u64 first, .slice a13 (es.length + 1) c13, .int .i64 (size + recN e.enc.length : Nat)]) hs ?_ (hv := rfl) (hsp := rfl)
    intro w15 hs
    refine ⟨trivial, ?_⟩
    refine EH.done ?_
    refine go ?_
    refine E.sto hs ?_
    intro w16 hs
    refine go ?_
    obtain ⟨g17, hg17, hpl, hs⟩ := hs.publishOwn
    refine A.c1t1 rfl rfl rfl (run_lda hs.pull2 ag_sg) ?_
    have hgg : Hl.le g g17 := (((hg7.trans hg8).trans hg9).trans hg11).trans hg17
    have hlow : (e.ep.ev tv).low := by
      simp only [Ev.low, Ep.ev, Ev.ep]
      omega
    have hel : El.ok ⟨a13, c13, es ++ [e.ep.ev tv]⟩ g17 := ⟨by
      have := hpl
      simp only [El.v, List.length_append, List.length_singleton, evC_append]
      simpa [evC] using this, fun e' he' => by
      rcases List.mem_append.1 he' with h | h
      · exact ⟨(hx.evs e' h).1.mono hgg, (hx.evs e' h).2⟩
      · rw [List.mem_singleton.1 h]
        exact ⟨hpo.mono hg17, hlow⟩⟩
    have key := HOK.out a13 c13 tv w16 g17 hgg hfit hb hel hs.drop.swap.drop.swap.drop.swap.drop
    simp only [Sg.val, Sg.cs, El.v, List.length_append, List.length_singleton] at key
    exact key
  · have hd : (!decide ((d.add (nameB wr first) e.enc).1 = 0)) = true := by simp [hb]
    refine C.cond rfl (fun _ => ?_) (fun h => by rw [hd] at h; cases h)
    clear hd
    refine go ?_
    refine E.sto hs ?_
    intro w10 hs
    refine go ?_
    refine A.c1t1 rfl rfl rfl (run_lda hs.swap ag_sg) ?_
    exact HE.out _ _ ((hg7.trans hg8).trans hg9) hfit hb hs.swap.drop.swap.drop.swap.drop
end Go.Proofs.YtdkbpcibmipelaaGreatDoor

/-
  Layer 8 (segment): a writer and a number out of a file's name.
-/
namespace Go.Proofs.YtdkbpcibmipelaaGreatDoor
open Go.RowKit
set_option linter.unusedVariables false
set_option linter.unusedSimpArgs false

theorem ixB_at (c : UInt8) : ∀ (l m : List UInt8), (∀ x ∈ l, x ≠ c) → ixB c (l ++ c :: m) = l.length
  | [], m, _ => by simp [ixB]
  | x :: l, m, h => by
    have ih := ixB_at c l m fun y hy => h y (List.mem_cons_of_mem _ hy)
    have hx := h x (List.mem_cons_self ..)
    simp only [List.cons_append, ixB, if_neg hx, ih, List.length_cons]
    rw [if_neg (by omega)]
    omega
theorem padB_val {n : Nat} (h : n < 18446744073709551616) : hexV (padB n) = n ∧ (padB n).all hexB = true := by
  obtain ⟨h1, h2⟩ := hexV_hexN 16 n h
  unfold padB
  have h0 : ∀ k, hexV (List.replicate k 48) = 0 := by
    intro k
    induction k with
    | zero => rfl
    | succ k ih =>
      rw [List.replicate_succ', hexV_append, ih]
      decide +kernel
  refine ⟨?_, ?_⟩
  · rw [hexV_append, h0]
    exact h1
  · rw [List.all_append, h2, Bool.and_true, List.all_eq_true]
    intro x hx
    obtain ⟨_, rfl⟩ := List.mem_replicate.1 hx
    decide +kernel

set_option maxHeartbeats 3200000 in
set_option maxRecDepth 100000 in
theorem split_any {R : Ending → World → Prop} {W w : World} {g : Hl} {H : List HP} {i n : Nat} (hg : Gl g) (hi : i < 100) (hn : n < 18446744073709551616) (hs : Sat W w g H)
    (hR : ∀ w' g', Hl.le g g' → Sat W w' g' H → R (.returned (.tuple #[.int .i64 i, .int .u64 n, .bool true])) w') : Calls Tryz.prog 89 #[str (nameB i n)] w R := by
  have HR := Lib.hid hR
  clear hR
  have hl := decN_len hi
  have hp := padB_len hn
  obtain ⟨hv1, hv2⟩ := padB_val hn
  obtain ⟨hd1, hd2⟩ := decV_decN hi
  have hnl : (nameB i n).length ≤ 100 := by
    have := beginB_len hi
    unfold nameB
    rw [List.length_append]
    omega
  have hne : nameB i n = ([102, 101, 101, 100, 45] : List UInt8) ++ (decN i ++ 45 :: padB n) := by simp [nameB, beginB]
  have hix : ixB 45 (decN i ++ 45 :: padB n) = (decN i).length := ixB_at 45 _ _ fun x hx => by
    have := List.all_eq_true.1 hd2 x hx
    rintro rfl
    exact absurd this (by decide)
  have hsl : (decN i ++ 45 :: padB n).length ≤ 1000 := by simp only [List.length_append, List.length_cons]; omega
  have htk : (decN i ++ 45 :: padB n).take (decN i).length = decN i := List.take_left
  have hdk : (decN i ++ 45 :: padB n).drop ((decN i).length + 1) = padB n := by
    rw [← List.drop_drop, List.drop_left]
    rfl
  rw [hne] at hnl ⊢
  replace hne := Lib.hid hne
  generalize hrest : decN i ++ 45 :: padB n = rest at hix hsl htk hdk hnl hne ⊢
  refine C.calls (args := [str (([102, 101, 101, 100, 45] : List UInt8) ++ rest)]) Tryz.func89 rfl rfl rfl ?_
  refine go ?_
  refine E.callf Tryz.func162 rfl ?_
  refine cutPrefix_has (p := [102, 101, 101, 100, 45]) (r := rest) (by omega) ?_
  refine go ?_
  refine E.callf Tryz.func163 rfl ?_
  refine cut1_any (s := rest) (c := 45) (by omega) hs ?_ ?_
  · intro k hk hkl w2 hs
    obtain rfl : k = (decN i).length := by omega
    rw [htk, hdk]
    clear htk hdk hk hix hrest
    refine go ?_
    refine E.callf Tryz.func164 rfl ?_
    refine atoi_any (l := decN i) hl.1 (by omega) hd2 hs ?_
    intro w3 g3 hg3 hs
    rw [hd1]
    refine go ?_
    refine E.callf Tryz.func165 rfl ?_
    refine parseUint_any (l := padB n) (by omega) (by omega) hv2 (by omega) hs ?_
    intro w4 g4 hg4 hs
    rw [hv1]
    refine go ?_
    rw [show decide ((i : Int) < 0) = false from decide_eq_false (by omega)]
    refine go ?_
    refine E.callf Tryz.func18 rfl ?_
    refine segName_any (i := i) (n := n) ((hg.mono hg3).mono hg4) hi hn hs ?_
    intro w5 hs
    rw [hne.out]
    have e0 : str (([102, 101, 101, 100, 45] : List UInt8) ++ rest) = .string ⟨(([102, 101, 101, 100, 45] : List UInt8) ++ rest).toArray⟩ := rfl
    rw [e0]
    refine go ?_
    rw [decide_eq_true (rfl : (([102, 101, 101, 100, 45] : List UInt8) ++ rest) = ([102, 101, 101, 100, 45] : List UInt8) ++ rest)]
    refine go ?_
    refine A.r3 ?_
    exact HR.out _ g4 (hg3.trans hg4) hs
  · intro hk
    omega
end Go.Proofs.YtdkbpcibmipelaaGreatDoor
