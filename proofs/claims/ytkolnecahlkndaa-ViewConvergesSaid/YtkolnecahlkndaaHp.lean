/-
  General words on memory, over no program: what a call may turn ('Mods'), a row of cells that is read ('Row'), and how both are carried along.
-/
import Derived.WalkKit
import Derived.WalkSpells
import Derived.Deep.QuietTactic
import Derived.BigQuiet
import Derived.StillTailTactics
import Derived.Deep.RegionWith
import Derived.Deep.RegionLaw
import Derived.Deep.RegionHeld3
import Derived.Deep.DeepCutAuto
import Derived.KernelRfl
import Derived.Lib.Hide
import Derived.Maps.RangeWalk
namespace Go.Proofs.Ytkolnecahlkndaa
open Go.RowKit

/-- Only the blocks of D (and new ones) may have turned. -/
structure Mods (D : Nat → Prop) (w w' : World) : Prop where
  os : w'.os = w.os
  tape : w'.tape = w.tape
  output : w'.output = w.output
  size : w.heap.size ≤ w'.heap.size
  block : ∀ k, k < w.heap.size → ¬ D k → w'.heap[k]? = w.heap[k]?

namespace Mods
variable {D E : Nat → Prop} {a b c w w' : World}

theorem refl (D : Nat → Prop) (w : World) : Mods D w w := ⟨rfl, rfl, rfl, Nat.le_refl _, fun _ _ _ => rfl⟩

/-- Two steps: the second may turn what the first one may, and what is new behind it. -/
theorem trans (h : Mods D a b) (k : Mods E b c) (hE : ∀ i, i < a.heap.size → E i → D i) : Mods D a c :=
  ⟨k.os.trans h.os, k.tape.trans h.tape, k.output.trans h.output, Nat.le_trans h.size k.size,
    fun i hi hd => (k.block i (Nat.lt_of_lt_of_le hi h.size) (fun he => hd (hE i hi he))).trans (h.block i hi hd)⟩

theorem mono (h : Mods D w w') (hE : ∀ i, i < w.heap.size → D i → E i) : Mods E w w' :=
  ⟨h.os, h.tape, h.output, h.size, fun i hi he => h.block i hi (fun hd => he (hE i hi hd))⟩

theorem drewN (h : Mods D a w) (n : Nat) : Mods D a (w.drewN n) := ⟨h.os, h.tape, h.output, h.size, h.block⟩
theorem drew (h : Mods D a w) : Mods D a w.drew := ⟨h.os, h.tape, h.output, h.size, h.block⟩

theorem alloc (h : Mods D a w) (o : Obj) : Mods D a (w.alloc o) :=
  ⟨h.os, h.tape, h.output, Nat.le_trans h.size (by simp), fun k hk hd => (Below.heap_alloc w o k (Nat.lt_of_lt_of_le hk h.size)).trans (h.block k hk hd)⟩

theorem setCell (h : Mods D a w) {p : Addr} (hp : D p.block ∨ a.heap.size ≤ p.block) (u : Value) : Mods D a (w.setCell p u) :=
  ⟨h.os, h.tape, h.output, by simpa [World.setCell] using h.size, fun k hk hd => by
    rw [← h.block k hk hd]
    refine Below.heap_setCell w p u k fun e => ?_
    subst e
    rcases hp with hp | hp
    · exact hd hp
    · omega⟩

theorem of_below (h : Below w.heap.size w w') : Mods D w w' := ⟨h.os, h.tape, h.output, h.size, fun k hk _ => h.block k hk⟩

theorem of_grown {row : Option Nat} (h : w.grownBy w' row) (hr : ∀ k, row = some k → D k) : Mods D w w' :=
  ⟨h.os, h.tape, h.output, h.size, fun k hk hd => h.block k hk (fun e => hd (hr k e.symm))⟩

theorem below (h : Mods D w w') {B : Nat} (hB : B ≤ w.heap.size) (hD : ∀ i, i < B → ¬ D i) : Below B w w' :=
  ⟨h.os, h.tape, h.output, h.size, fun k hk => h.block k (Nat.lt_of_lt_of_le hk hB) (hD k hk)⟩

theorem cell (h : Mods D w w') {p : Addr} (hp : p.block < w.heap.size) (hd : ¬ D p.block) : w'.cell? p = w.cell? p := World.cell?_of_block (h.block p.block hp hd)
theorem frozen (h : Mods D w w') {p : Addr} (hp : p.block < w.heap.size) (hd : ¬ D p.block) : w'.frozen? p = w.frozen? p := World.frozen?_of_block (h.block p.block hp hd)

/-- The two rules that the walk takes. -/
theorem rules (h : Mods D w w') : (∀ b o, b < w.heap.size → ¬ D b → w'.cell? ⟨b, o, none⟩ = w.cell? ⟨b, o, none⟩) ∧ (∀ b o, b < w.heap.size → ¬ D b → w'.frozen? ⟨b, o, none⟩ = w.frozen? ⟨b, o, none⟩) :=
  ⟨fun b o hb hd => h.cell (p := ⟨b, o, none⟩) hb hd, fun b o hb hd => h.frozen (p := ⟨b, o, none⟩) hb hd⟩
end Mods

/-- A block of cells, not frozen. -/
abbrev Blk (w : World) (b : Nat) (xs : List Value) (e : TypeId) : Prop := w.heap[b]? = some (.cells xs.toArray e (0, 0))

theorem blk_cell {w : World} {b : Nat} {xs : List Value} {e : TypeId} (h : Blk w b xs e) (j : Nat) : w.cell? ⟨b, j, none⟩ = xs[j]? := by
  simp only [Blk] at h
  simp [World.cell?, h]
theorem blk_free {w : World} {b : Nat} {xs : List Value} {e : TypeId} (h : Blk w b xs e) (j : Nat) : w.frozen? ⟨b, j, none⟩ = false := by
  simp only [Blk] at h
  simp [World.frozen?, h]
theorem blk_lt {w : World} {b : Nat} {xs : List Value} {e : TypeId} (h : Blk w b xs e) : b < w.heap.size := lt_of_block h
theorem blk_set {w : World} {b : Nat} {xs : List Value} {e : TypeId} (h : Blk w b xs e) (j : Nat) (u : Value) : Blk (w.setCell ⟨b, j, none⟩ u) b (xs.set j u) e := by
  simp only [Blk] at h ⊢
  have hb := lt_of_block h
  have hg : w.heap[b] = .cells xs.toArray e (0, 0) := by rw [Array.getElem?_eq_getElem hb] at h; exact Option.some.inj h
  simp only [World.setCell]
  rw [Array.getElem?_eq_getElem (by simpa using hb)]
  simp [Array.getElem_modify, hg]

/-- A slice value that reads as the cells xs: n elements of 'size' cells; its cells lie in D. -/
def Row (size : Nat) (w : World) (D : Nat → Prop) (v : Value) (n : Nat) (xs : List Value) : Prop :=
  xs.length = n * size ∧ ∃ a c, v = .slice a n c ∧ n ≤ c ∧ c ≤ maxLen ∧ (a = none → n = 0 ∧ c = 0) ∧
    (n = 0 ∨ ∃ g o cur e fz, a = some ⟨g, o, none⟩ ∧ D g ∧ w.heap[g]? = some (.cells cur e fz) ∧ (cur.toList.drop o).take (n * size) = xs)

namespace Row
variable {size : Nat} {w w' : World} {D D' : Nat → Prop} {v : Value} {n : Nat} {xs : List Value}

theorem carry (h : Row size w D v n xs) (hk : ∀ k o, D k → w.heap[k]? = some o → w'.heap[k]? = some o) : Row size w' D v n xs := by
  obtain ⟨h1, a, c, hv, hn, hc, ha, h⟩ := h
  refine ⟨h1, a, c, hv, hn, hc, ha, h.imp id ?_⟩
  rintro ⟨g, o, cur, t, fz, e, hd, hg, ht⟩
  exact ⟨g, o, cur, t, fz, e, hd, hk g _ hd hg, ht⟩

theorem mods {M : Nat → Prop} (h : Row size w D v n xs) (hm : Mods M w w') (hd : ∀ k, D k → ¬ M k) : Row size w' D v n xs :=
  h.carry fun k o hk ho => by rw [hm.block k (lt_of_block ho) (hd k hk)]; exact ho

theorem mono (h : Row size w D v n xs) (hd : ∀ k, D k → D' k) : Row size w D' v n xs := by
  obtain ⟨h1, a, c, hv, hn, hc, ha, h⟩ := h
  refine ⟨h1, a, c, hv, hn, hc, ha, h.imp id ?_⟩
  rintro ⟨g, o, cur, t, fz, e, hD, hg, ht⟩
  exact ⟨g, o, cur, t, fz, e, hd g hD, hg, ht⟩

theorem nil (w : World) (D : Nat → Prop) : Row size w D (.slice none 0 0) 0 [] := ⟨by simp, none, 0, rfl, Nat.le_refl _, Nat.zero_le _, fun _ => ⟨rfl, rfl⟩, .inl rfl⟩

theorem of_owns {base : Nat} {E : TypeId} (h : w.ownsRow base E size v n xs) (hd : ∀ k, v.ownBlock = some k → D k) : Row size w D v n xs := by
  obtain ⟨h1, h⟩ := h
  rcases h with ⟨rfl, rfl⟩ | ⟨g, cap, cur, rfl, _, hg, hn, hc, _, ht⟩
  · exact ⟨h1, none, 0, rfl, Nat.le_refl _, Nat.zero_le _, fun _ => ⟨rfl, rfl⟩, .inl rfl⟩
  · exact ⟨h1, _, cap, rfl, hn, hc, fun e => by simp at e, .inr ⟨g, 0, cur, _, _, rfl, hd g rfl, hg, by simpa using ht⟩⟩

/-- What an append asks of what is appended. -/
theorem news (h : Row size w D v n xs) : v = .slice none 0 0 ∧ n = 0 ∧ xs = [] ∨ ∃ a c, v = .slice (some a) n c ∧ xs.length = n * size ∧ ∀ j u, xs[j]? = some u → w.cell? (a.add j) = some u := by
  obtain ⟨h1, a, c, rfl, hn, hc, ha, h⟩ := h
  cases a with
  | none =>
    obtain ⟨rfl, rfl⟩ := ha rfl
    exact .inl ⟨rfl, rfl, List.eq_nil_of_length_eq_zero (by simpa using h1)⟩
  | some a =>
    refine .inr ⟨a, c, rfl, h1, ?_⟩
    rcases h with rfl | ⟨g, o, cur, t, fz, e, _, hg, ht⟩
    · have : xs = [] := List.eq_nil_of_length_eq_zero (by simpa using h1)
      subst this
      intro j u hu; simp at hu
    · simp only [Option.some.injEq] at e
      subst e
      intro j u hu
      have hadd : (⟨g, o, none⟩ : Addr).add j = ⟨g, o + j, none⟩ := by unfold Addr.add; split <;> simp_all
      rw [hadd]
      rw [← ht, List.getElem?_take] at hu
      split at hu
      · simp only [World.cell?, hg]
        simpa using hu
      · cases hu

theorem cellAt (h : Row size w D v n xs) {g o c : Nat} {s : Option Nat} {m : Nat} (hv : v = .slice (some ⟨g, o, s⟩) m c) {j : Nat} {u : Value} (hu : xs[j]? = some u) : s = none ∧ w.cell? ⟨g, o + j, none⟩ = some u := by
  obtain ⟨h1, a, c', rfl, hn, hc, ha, h⟩ := h
  simp only [Value.slice.injEq] at hv
  obtain ⟨rfl, rfl, rfl⟩ := hv
  rcases h with rfl | ⟨g', o', cur, t, fz, e, _, hg, ht⟩
  · have : xs = [] := List.eq_nil_of_length_eq_zero (by simpa using h1)
    subst this
    simp at hu
  · simp only [Option.some.injEq, Addr.mk.injEq] at e
    obtain ⟨rfl, rfl, rfl⟩ := e
    refine ⟨rfl, ?_⟩
    rw [← ht, List.getElem?_take] at hu
    split at hu
    · simp only [World.cell?, hg]
      simpa using hu
    · cases hu

theorem len (h : Row size w D v n xs) : ∃ a c, v = .slice a n c ∧ n ≤ c ∧ c ≤ maxLen := by
  obtain ⟨_, a, c, hv, hn, hc, _⟩ := h
  exact ⟨a, c, hv, hn, hc⟩
end Row


theorem Row.alloc {size : Nat} {w : World} {D : Nat → Prop} {v : Value} {n : Nat} {xs : List Value} (h : Row size w D v n xs) (o : Obj) : Row size (w.alloc o) D v n xs :=
  h.carry fun k _ _ ho => (Below.heap_alloc w o k (lt_of_block ho)).trans ho
theorem Row.drew {size : Nat} {w : World} {D : Nat → Prop} {v : Value} {n : Nat} {xs : List Value} (h : Row size w D v n xs) : Row size w.drew D v n xs := h

/-- What the program's tables say of a slice type t and its elements. -/
def ElemOf (P : Program) (t e : TypeId) (z : Value) (size bytes : Nat) : Prop :=
  P.underlying t = some (.slice e) ∧ (∃ i, P.info? e = some i ∧ i.zero = some z ∧ i.size = size ∧ i.bytes = bytes) ∧ z.cells.size = size ∧ 0 < size
theorem ElemOf.of {P : Program} {t e : TypeId} {z : Value} {size bytes : Nat} (h1 : P.underlying t = some (.slice e)) (h2 : (P.info? e).map (fun i => (i.zero, i.size, i.bytes)) = some (some z, size, bytes)) (h3 : z.cells.size = size) (h4 : 0 < size) : ElemOf P t e z size bytes :=
  ⟨h1, info_parts h2, h3, h4⟩

section
variable {P : Program} {w : World} {t e : TypeId} {z : Value} {size bytes : Nat}

/-- append(own, row...): 'own' is the call's own; 'row' any row, nil too. -/
theorem run_append_row (he : ElemOf P t e z size bytes) (ty : TypeId) {base : Nat} {v : Value} {n : Nat} {xs : List Value} (hown : w.ownsRow base e size v n xs) {D : Nat → Prop} {u : Value} {m : Nat} {news : List Value}
    (hrow : Row size w D u m news) (h1 : ∀ x ∈ news, x.oneCell' = true) (h63 : n + m ≤ maxLen) (hbytes : (n + m) * bytes ≤ 140737488355328) (hbase : base ≤ w.heap.size) :
    ∃ v' w', (Builtin.append_ #[t, t] ty #[v, u]).run P w = .ok v' w' ∧ w'.ownsRow base e size v' (n + m) (xs ++ news) ∧ w.grownBy w' v.ownBlock ∧ (v' = .slice none 0 0 ↔ v = .slice none 0 0 ∧ m = 0) ∧ (v'.ownBlock = v.ownBlock ∨ ∃ k, v'.ownBlock = some k ∧ w.heap.size ≤ k) := by
  obtain ⟨ht, ⟨i, hi, hz, hs, hb⟩, hzs, hsz⟩ := he
  rcases hrow.news with ⟨rfl, rfl, rfl⟩ | ⟨a, c, rfl, hl, hn⟩
  · have hrun := run_append_owned_none (P := P) (w := w) base t ty e i size ht hi v n xs hown
    exact ⟨v, w, hrun, by simpa using hown, World.grownBy.refl _ _, by simp, .inl rfl⟩
  · obtain ⟨v', w', hr, g1, g2, g3⟩ := run_append_own (P := P) w base t ty e i z size bytes ht hi hz hs hb hzs hsz v n xs hown a m c news hl hn h1 h63 hbytes hbase
    refine ⟨v', w', hr, g1, g2, g3, ?_⟩
    by_cases hv : v'.ownBlock = v.ownBlock
    · exact .inl hv
    cases hk : v'.ownBlock with
    | none =>
      rcases g1.2 with ⟨h0, _⟩ | ⟨g, cap, cur, hvv, _⟩
      · obtain ⟨hvn, _⟩ := g3.1 h0
        rw [h0, hvn] at hv
        exact absurd rfl hv
      · rw [hvv] at hk
        simp [Value.ownBlock] at hk
    | some k =>
      refine .inr ⟨k, rfl, ?_⟩
      rcases Nat.lt_or_ge k w.heap.size with hlt | hge
      · exfalso
        subst hs
        subst hb
        -- an old block, and not the one that was appended to: append never hands such a one back
        rcases hown.2 with ⟨rfl, rfl⟩ | ⟨g, cap, cur, rfl, hbg, hg, hnc, hcm, hcs, htake⟩
        · by_cases hm : m = 0
          · subst hm
            rw [g3.2 ⟨rfl, rfl⟩] at hk
            simp [Value.ownBlock] at hk
          · have hge := run_append_nil (P := P) w t ty e i z ht hi hz a m c news hl hn (by omega) (by simp only [maxLen] at h63; omega) (by
              rw [Nat.zero_add] at hbytes
              omega)
            rw [hr] at hge
            simp only [Result.ok.injEq] at hge
            rw [hge.1] at hk
            simp [Value.ownBlock] at hk
            omega
        · by_cases hroom : n + m ≤ cap
          · have hfit : n * i.size + news.length ≤ cur.size := by
              rw [hl, hcs, ← Nat.add_mul]; exact Nat.mul_le_mul_right _ hroom
            have hrr := run_append_room (P := P) w t ty e i ht hi g n cap cur hg a m c news hl hn h1 hroom hfit
            rw [hr] at hrr
            simp only [Result.ok.injEq] at hrr
            rw [hrr.1] at hv
            exact hv rfl
          · have hlo : xs.length = n * i.size := hown.1
            have hrr := run_append_grow (P := P) w t ty e i z ht hi hz ⟨g, 0, none⟩ n cap xs hlo (hown.cells (g := g) rfl) a m c news hl hn (by omega) (by simp only [maxLen] at h63; omega) (growslice_fits (by omega) hbytes)
            rw [hr] at hrr
            simp only [Result.ok.injEq] at hrr
            rw [hrr.1] at hk
            simp [Value.ownBlock] at hk
            omega
      · exact hge

/-- The same for the walk. -/
theorem app_row {ops : Array Oper} {rest : List Oper} {o : Oper} {a : Act} {Q : Exit → Act → World → Prop} (hgd : o.guard = none) (s x : Operand)
    (he : ElemOf P t e z size bytes) (ho : o.op = .call { callee := .builtin .append, args := #[s, x], argTypes := #[t, t] }) {base : Nat} {v : Value} {n : Nat} {xs : List Value} (hs : a.eval s = v) (hown : w.ownsRow base e size v n xs)
    {D : Nat → Prop} {u : Value} {m : Nat} {news : List Value} (hx : a.eval x = u)
    (hrow : Row size w D u m news) (h1 : ∀ x ∈ news, x.oneCell' = true) (h63 : n + m ≤ maxLen) (hbytes : (n + m) * bytes ≤ 140737488355328) (hbase : base ≤ w.heap.size)
    (h : ∀ v' w', w'.ownsRow base e size v' (n + m) (xs ++ news) → w.grownBy w' v.ownBlock → (v' = .slice none 0 0 ↔ v = .slice none 0 0 ∧ m = 0) → (v'.ownBlock = v.ownBlock ∨ ∃ k, v'.ownBlock = some k ∧ w.heap.size ≤ k) → wpList P ops Q rest (a.put o.dst v') w') :
    wpList P ops Q (o :: rest) a w := by
  refine wpList_plain hgd fun K hK => ?_
  obtain ⟨v', w', hr, h2, h3, h4, h5⟩ := run_append_row (P := P) he o.type hown hrow h1 h63 hbytes hbase
  unfold Oper.wp execOp
  simp only [ho, resolve, invoke, builtin, Sem.run_bind, Sem.run_pure, Result.andThen_ok, List.map_toArray, List.map_cons, List.map_nil, hs, hx, hr]
  exact hK _ _ (h v' w' h2 h3 h4 h5)

/-- The same as one step of a region that draws its order. -/
theorem step_row {ops : Array Oper} {o : Oper} {a : Act} {K : Act → World → Prop} {Q : Exit → Act → World → Prop} {E : Prop} (hgd : o.guard = none) (s x : Operand)
    (he : ElemOf P t e z size bytes) (ho : o.op = .call { callee := .builtin .append, args := #[s, x], argTypes := #[t, t] }) {base : Nat} {v : Value} {n : Nat} {xs : List Value} (hs : a.eval s = v) (hown : w.ownsRow base e size v n xs)
    {D : Nat → Prop} {u : Value} {m : Nat} {news : List Value} (hx : a.eval x = u)
    (hrow : Row size w D u m news) (h1 : ∀ x ∈ news, x.oneCell' = true) (h63 : n + m ≤ maxLen) (hbytes : (n + m) * bytes ≤ 140737488355328) (hbase : base ≤ w.heap.size)
    (h : ∀ v' w', w'.ownsRow base e size v' (n + m) (xs ++ news) → w.grownBy w' v.ownBlock → (v' = .slice none 0 0 ↔ v = .slice none 0 0 ∧ m = 0) → (v'.ownBlock = v.ownBlock ∨ ∃ k, v'.ownBlock = some k ∧ w.heap.size ≤ k) → K (a.put o.dst v') w') :
    if Region.wanted o (yielded ops a.tmps) = true then Oper.wp P o a w K Q else E := by
  have hw : Region.wanted o (yielded ops a.tmps) = true := by simp [Region.wanted, hgd]
  rw [if_pos hw]
  obtain ⟨v', w', hr, h2, h3, h4, h5⟩ := run_append_row (P := P) he o.type hown hrow h1 h63 hbytes hbase
  unfold Oper.wp execOp
  simp only [ho, resolve, invoke, builtin, Sem.run_bind, Sem.run_pure, Result.andThen_ok, List.map_toArray, List.map_cons, List.map_nil, hs, hx, hr]
  exact h v' w' h2 h3 h4 h5

/-- append(s[:i], s[j:]...) in one array. -/
theorem run_cut (he : ElemOf P t e z size bytes) (ty : TypeId) {base g n cap : Nat} {xs : List Value} (hown : w.ownsRow base e size (.slice (some ⟨g, 0, none⟩) n cap) n xs) {i j : Nat} (hij : i ≤ j) (hj : j ≤ n)
    (h1 : ∀ x ∈ xs, x.oneCell' = true) (A : Addr) (hA : n - j = 0 ∨ A = ⟨g, j * size, none⟩) (c : Nat) :
    ∃ w', (Builtin.append_ #[t, t] ty #[.slice (some ⟨g, 0, none⟩) i cap, .slice (some A) (n - j) c]).run P w = .ok (.slice (some ⟨g, 0, none⟩) (i + (n - j)) cap) w' ∧
      w'.ownsRow base e size (.slice (some ⟨g, 0, none⟩) (i + (n - j)) cap) (i + (n - j)) (xs.take (i * size) ++ xs.drop (j * size)) ∧ w.grownBy w' (some g) := by
  obtain ⟨ht, ⟨ti, hi, hz, hs, hb⟩, hzs, hsz⟩ := he
  subst hs
  obtain ⟨hx, h⟩ := hown
  rcases h with ⟨h0, _⟩ | ⟨g', cap', cur, hv, hbg, hg, hnc, hcm, hcs, htake⟩
  · cases h0
  simp only [Value.slice.injEq, Option.some.injEq, Addr.mk.injEq] at hv
  obtain ⟨⟨rfl, _⟩, _, rfl⟩ := hv
  have hjs : j * ti.size ≤ n * ti.size := Nat.mul_le_mul_right _ hj
  have hijs : i * ti.size ≤ j * ti.size := Nat.mul_le_mul_right _ hij
  have hncs : n * ti.size ≤ cur.size := by rw [hcs]; exact Nat.mul_le_mul_right _ hnc
  have hl : (xs.drop (j * ti.size)).length = (n - j) * ti.size := by rw [List.length_drop, hx, Nat.sub_mul]
  have hnews : ∀ k u, (xs.drop (j * ti.size))[k]? = some u → w.cell? (A.add k) = some u := by
    intro k u hu
    rcases hA with hA | rfl
    · rw [hA, Nat.zero_mul] at hl
      rw [List.length_eq_zero_iff.1 hl] at hu
      simp at hu
    · rw [Addr.add_lit, cell_of_row w g _ cur e (0, 0) hg]
      rw [List.getElem?_drop, ← htake, List.getElem?_take] at hu
      split at hu
      · simpa using hu
      · cases hu
  have hfit : i * ti.size + (xs.drop (j * ti.size)).length ≤ cur.size := by rw [hl, Nat.sub_mul]; omega
  have hr := run_append_room (P := P) w t ty e ti ht hi g i cap cur hg A (n - j) c (xs.drop (j * ti.size)) hl hnews (fun u hu => h1 u (List.mem_of_mem_drop hu)) (by omega) hfit
  refine ⟨_, hr, ⟨?_, .inr ⟨g, cap, _, rfl, hbg, setRow_heap w g cur _ e (0, 0) hg, by omega, hcm, ?_, ?_⟩⟩, ⟨rfl, rfl, rfl, by simp, fun k hk hne => setRow_other w g k _ (fun e => hne (by rw [e]))⟩⟩
  · rw [List.length_append, List.length_take, hl, Nat.add_mul, hx]; omega
  · simp only [List.size_toArray, List.length_append, List.length_take, List.length_drop, Array.length_toList]
    rw [hx]; omega
  · have e1 : cur.toList.take (i * ti.size) = xs.take (i * ti.size) := by
      rw [← htake, List.take_take, Nat.min_eq_left (by omega)]
    rw [e1, Nat.add_mul, List.append_assoc, ← List.append_assoc]
    have e2 : (xs.take (i * ti.size) ++ xs.drop (j * ti.size)).length = i * ti.size + (n - j) * ti.size := by
      rw [List.length_append, List.length_take, hl, hx]; omega
    rw [← e2]
    exact List.take_left

theorem step_cut {ops : Array Oper} {o : Oper} {a : Act} {K : Act → World → Prop} {Q : Exit → Act → World → Prop} {E : Prop} (hgd : o.guard = none) (s x : Operand)
    (he : ElemOf P t e z size bytes) (ho : o.op = .call { callee := .builtin .append, args := #[s, x], argTypes := #[t, t] }) {base g n cap : Nat} {xs : List Value} (hown : w.ownsRow base e size (.slice (some ⟨g, 0, none⟩) n cap) n xs)
    {i j : Nat} (hij : i ≤ j) (hj : j ≤ n) (h1 : ∀ x ∈ xs, x.oneCell' = true) (A : Addr) (hA : n - j = 0 ∨ A = ⟨g, j * size, none⟩) (c : Nat)
    (hs : a.eval s = .slice (some ⟨g, 0, none⟩) i cap) (hx : a.eval x = .slice (some A) (n - j) c)
    (h : ∀ w', w'.ownsRow base e size (.slice (some ⟨g, 0, none⟩) (i + (n - j)) cap) (i + (n - j)) (xs.take (i * size) ++ xs.drop (j * size)) → w.grownBy w' (some g) → K (a.put o.dst (.slice (some ⟨g, 0, none⟩) (i + (n - j)) cap)) w') :
    if Region.wanted o (yielded ops a.tmps) = true then Oper.wp P o a w K Q else E := by
  have hw : Region.wanted o (yielded ops a.tmps) = true := by simp [Region.wanted, hgd]
  rw [if_pos hw]
  obtain ⟨w', hr, h2, h3⟩ := run_cut (P := P) he o.type hown hij hj h1 A hA c
  unfold Oper.wp execOp
  simp only [ho, resolve, invoke, builtin, Sem.run_bind, Sem.run_pure, Result.andThen_ok, List.map_toArray, List.map_cons, List.map_nil, hs, hx, hr]
  exact h w' h2 h3

/-- clear(s[n:n+m]) behind an own row's elements. -/
theorem run_clear_tail (he : ElemOf P t e z size bytes) (ty : TypeId) {base g n cap : Nat} {xs : List Value} (hown : w.ownsRow base e size (.slice (some ⟨g, 0, none⟩) n cap) n xs) {m c : Nat} (hm : n + m ≤ cap) (hzc : ∀ u ∈ z.cells.toList, u.oneCell' = true) :
    ∃ w', (Builtin.clear_ #[t] ty #[.slice (some ⟨g, n * size, none⟩) m c]).run P w = .ok (.tuple #[]) w' ∧ w'.ownsRow base e size (.slice (some ⟨g, 0, none⟩) n cap) n xs ∧ w.grownBy w' (some g) := by
  obtain ⟨ht, ⟨ti, hi, hz, hs, hb⟩, hzs, hsz⟩ := he
  subst hs
  have hown0 := hown
  obtain ⟨hx, h⟩ := hown
  rcases h with ⟨h0, _⟩ | ⟨g', cap', cur, hv, hbg, hg, hnc, hcm, hcs, htake⟩
  · cases h0
  simp only [Value.slice.injEq, Option.some.injEq, Addr.mk.injEq] at hv
  obtain ⟨⟨rfl, _⟩, _, rfl⟩ := hv
  cases m with
  | zero =>
    refine ⟨w, ?_, hown0, World.grownBy.refl _ _⟩
    simp [Builtin.clear_, run_underlying ht]
  | succ m =>
    have hzl : (Builtin.zeroCells z.cells (m + 1)).toList.length = (m + 1) * ti.size := by rw [Array.length_toList, size_zeroCells, hzs]
    have hfit : n * ti.size + (Builtin.zeroCells z.cells (m + 1)).toList.length ≤ cur.size := by
      rw [hzl, hcs, ← Nat.add_mul]; exact Nat.mul_le_mul_right _ hm
    have h1 : ∀ u ∈ (Builtin.zeroCells z.cells (m + 1)).toList, u.oneCell' = true := by
      intro u hu
      simp only [Builtin.zeroCells, Array.toList_map, List.mem_map] at hu
      obtain ⟨k, _, rfl⟩ := hu
      have hk : k % z.cells.size < z.cells.size := Nat.mod_lt _ (by omega)
      rw [getElem!_pos z.cells _ hk]
      exact hzc _ (by simp)
    have hst := run_storeCells_at P g (n * ti.size) e (Builtin.zeroCells z.cells (m + 1)).toList 0 cur w hg (by simpa using hfit) h1
    simp only [Nat.add_zero] at hst
    refine ⟨_, by simp [Builtin.clear_, run_underlying ht, zeroValue, typeInfo, hi, hz, hst]; rfl, ⟨hx, .inr ⟨g, cap, _, rfl, hbg, setRow_heap w g cur _ e (0, 0) hg, hnc, hcm, ?_, ?_⟩⟩, ⟨rfl, rfl, rfl, by simp, fun k hk hne => setRow_other w g k _ (fun e => hne (by rw [e]))⟩⟩
    · simp only [List.size_toArray, List.length_append, List.length_take, List.length_drop, Array.length_toList] at hfit ⊢
      omega
    · have e2 : (cur.toList.take (n * ti.size)).length = n * ti.size := by rw [List.length_take, Array.length_toList]; omega
      show List.take (n * ti.size) (List.take (n * ti.size) cur.toList ++ _) = xs
      conv => lhs; arg 1; rw [← e2]
      rw [List.take_left, htake]

theorem clear_tail {ops : Array Oper} {rest : List Oper} {o : Oper} {a : Act} {Q : Exit → Act → World → Prop} (hgd : o.guard = none) (x : Operand)
    (he : ElemOf P t e z size bytes) (ho : o.op = .call { callee := .builtin .clear, args := #[x], argTypes := #[t] }) {base g n cap : Nat} {xs : List Value} (hown : w.ownsRow base e size (.slice (some ⟨g, 0, none⟩) n cap) n xs)
    {m c : Nat} (hm : n + m ≤ cap) (hzc : ∀ u ∈ z.cells.toList, u.oneCell' = true) (hx : a.eval x = .slice (some ⟨g, n * size, none⟩) m c)
    (h : ∀ w', w'.ownsRow base e size (.slice (some ⟨g, 0, none⟩) n cap) n xs → w.grownBy w' (some g) → wpList P ops Q rest (a.put o.dst (.tuple #[])) w') :
    wpList P ops Q (o :: rest) a w := by
  refine wpList_plain hgd fun K hK => ?_
  obtain ⟨w', hr, h2, h3⟩ := run_clear_tail (P := P) he o.type hown (c := c) hm hzc
  unfold Oper.wp execOp
  simp only [ho, resolve, invoke, builtin, Sem.run_bind, Sem.run_pure, Result.andThen_ok, List.map_toArray, List.map_cons, List.map_nil, hx, hr]
  exact hK _ _ (h w' h2 h3)
end

theorem _root_.Go.World.grownBy.ofDrew {w w' : World} {row : Option Nat} (h : w.drew.grownBy w' row) : w.grownBy w' row := ⟨h.os, h.tape, h.output, h.size, h.block⟩
theorem _root_.Go.World.grownBy.ofDrewN {w w' : World} {n : Nat} {row : Option Nat} (h : (w.drewN n).grownBy w' row) : w.grownBy w' row := ⟨h.os, h.tape, h.output, h.size, h.block⟩

theorem owns_mods {w w' : World} {M : Nat → Prop} {base : Nat} {e : TypeId} {size : Nat} {v : Value} {n : Nat} {xs : List Value} (h : w.ownsRow base e size v n xs) (hm : Mods M w w') (hv : ∀ k, v.ownBlock = some k → ¬ M k) : w'.ownsRow base e size v n xs := by
  refine ⟨h.1, ?_⟩
  rcases h.2 with hn | ⟨g, cap, cur, rfl, hb, hgg, rest⟩
  · exact .inl hn
  · refine .inr ⟨g, cap, cur, rfl, hb, ?_, rest⟩
    rw [hm.block g (lt_of_block hgg) (hv g rfl)]
    exact hgg
theorem owns_len {w : World} {base : Nat} {e : TypeId} {size : Nat} {v : Value} {n : Nat} {xs : List Value} (h : w.ownsRow base e size v n xs) : ∃ a c, v = .slice a n c ∧ n ≤ c ∧ c ≤ 9223372036854775807 ∧ (a = none ∨ ∃ g, a = some ⟨g, 0, none⟩) := by
  rcases h.2 with ⟨rfl, rfl⟩ | ⟨g, cap, cur, rfl, hb, hgg, h1, h2, _⟩
  · exact ⟨none, 0, rfl, Nat.le_refl _, by decide, .inl rfl⟩
  · exact ⟨_, cap, rfl, h1, by unfold maxLen at h2; omega, .inr ⟨g, rfl⟩⟩
theorem owns_base {w : World} {base base' : Nat} {e : TypeId} {size : Nat} {v : Value} {n : Nat} {xs : List Value} (h : w.ownsRow base e size v n xs) (hb : ∀ k, v.ownBlock = some k → base' ≤ k) : w.ownsRow base' e size v n xs := by
  refine ⟨h.1, ?_⟩
  rcases h.2 with hn | ⟨g, cap, cur, rfl, _, rest⟩
  · exact .inl hn
  · exact .inr ⟨g, cap, cur, rfl, hb g rfl, rest⟩
/-- Of which type the cells of an own row are. -/
theorem owns_type {w : World} {base : Nat} {e : TypeId} {size : Nat} {v : Value} {n : Nat} {xs : List Value} (h : w.ownsRow base e size v n xs) {k : Nat} (hk : v.ownBlock = some k) : ∃ cur, w.heap[k]? = some (.cells cur e (0, 0)) := by
  rcases h.2 with ⟨rfl, _⟩ | ⟨g, cap, cur, rfl, _, hg, _⟩
  · simp [Value.ownBlock] at hk
  · simp only [Value.ownBlock, Option.some.injEq] at hk
    subst hk
    exact ⟨cur, hg⟩
theorem Row.made {E : TypeId} {size : Nat} {X : World} {cs : List Value} {g n : Nat} (hg : g = X.heap.size) (hl : cs.length = n * size) (hm : n ≤ maxLen) : Row size (X.alloc (.cells cs.toArray E)) (fun _ => True) (.slice (some ⟨g, 0, none⟩) n n) n cs := by
  subst hg
  exact ⟨hl, _, n, rfl, Nat.le_refl _, hm, fun e => by simp at e, .inr ⟨_, 0, _, _, _, rfl, trivial, heap_alloc_new X _, by simp [← hl]⟩⟩
theorem Mods.base {w w1 : World} {o : Obj} (h : Below (w.alloc o).heap.size (w.alloc o) w1) : Mods (fun _ => False) w w1 := ((Mods.refl _ w).alloc o).trans (Mods.of_below h) (fun _ _ h => h)

end Go.Proofs.Ytkolnecahlkndaa
