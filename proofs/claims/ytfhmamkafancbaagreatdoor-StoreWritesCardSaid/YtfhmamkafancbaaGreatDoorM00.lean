/-
  General words on memory, over no program: what a call may turn ('Mods'), a row of cells that is read ('Row'), and how both are carried along.
-/
import Derived.WalkKit
import Derived.WalkSpells
import Derived.Deep.QuietTactic
import Derived.BigQuiet
import Derived.StillTailTactics
import Derived.Deep.RegionWith
import Derived.Deep.RegionLaw
import Derived.Deep.RegionHeld3
import Derived.Deep.DeepCutAuto
import Derived.KernelRfl
import Derived.Lib.Hide
import Derived.Maps.RangeWalk
namespace Go.Proofs.YtfhmamkafancbaaGreatDoor
open Go.RowKit
/-- Only the blocks of D (and new ones) may have turned. -/
structure Mods (D : Nat → Prop) (w w' : World) : Prop where
  os : w'.os = w.os
  tape : w'.tape = w.tape
  output : w'.output = w.output
  size : w.heap.size ≤ w'.heap.size
  block : ∀ k, k < w.heap.size → ¬ D k → w'.heap[k]? = w.heap[k]?
namespace Mods
variable {D E : Nat → Prop} {a b c w w' : World}
theorem refl (D : Nat → Prop) (w : World) : Mods D w w := ⟨rfl, rfl, rfl, Nat.le_refl _, fun _ _ _ => rfl⟩
/-- Two steps: the second may turn what the first one may, and what is new behind it. -/
theorem trans (h : Mods D a b) (k : Mods E b c) (hE : ∀ i, i < a.heap.size → E i → D i) : Mods D a c :=
  ⟨k.os.trans h.os, k.tape.trans h.tape, k.output.trans h.output, Nat.le_trans h.size k.size,
    fun i hi hd => (k.block i (Nat.lt_of_lt_of_le hi h.size) (fun he => hd (hE i hi he))).trans (h.block i hi hd)⟩
theorem mono (h : Mods D w w') (hE : ∀ i, i < w.heap.size → D i → E i) : Mods E w w' :=
  ⟨h.os, h.tape, h.output, h.size, fun i hi he => h.block i hi (fun hd => he (hE i hi hd))⟩
theorem drewN (h : Mods D a w) (n : Nat) : Mods D a (w.drewN n) := ⟨h.os, h.tape, h.output, h.size, h.block⟩
theorem drew (h : Mods D a w) : Mods D a w.drew := ⟨h.os, h.tape, h.output, h.size, h.block⟩
theorem alloc (h : Mods D a w) (o : Obj) : Mods D a (w.alloc o) :=
  ⟨h.os, h.tape, h.output, Nat.le_trans h.size (by simp), fun k hk hd => (Below.heap_alloc w o k (Nat.lt_of_lt_of_le hk h.size)).trans (h.block k hk hd)⟩
theorem setCell (h : Mods D a w) {p : Addr} (hp : D p.block ∨ a.heap.size ≤ p.block) (u : Value) : Mods D a (w.setCell p u) :=
  ⟨h.os, h.tape, h.output, by simpa [World.setCell] using h.size, fun k hk hd => by
    rw [← h.block k hk hd]
    refine Below.heap_setCell w p u k fun e => ?_
    subst e
    rcases hp with hp | hp
    · exact hd hp
    · omega⟩
theorem of_below (h : Below w.heap.size w w') : Mods D w w' := ⟨h.os, h.tape, h.output, h.size, fun k hk _ => h.block k hk⟩
theorem below (h : Mods D w w') {B : Nat} (hB : B ≤ w.heap.size) (hD : ∀ i, i < B → ¬ D i) : Below B w w' :=
  ⟨h.os, h.tape, h.output, h.size, fun k hk => h.block k (Nat.lt_of_lt_of_le hk hB) (hD k hk)⟩
theorem cell (h : Mods D w w') {p : Addr} (hp : p.block < w.heap.size) (hd : ¬ D p.block) : w'.cell? p = w.cell? p := World.cell?_of_block (h.block p.block hp hd)
end Mods
/-- A block of cells, not frozen. -/
abbrev Blk (w : World) (b : Nat) (xs : List Value) (e : TypeId) : Prop := w.heap[b]? = some (.cells xs.toArray e (0, 0))
theorem blk_cell {w : World} {b : Nat} {xs : List Value} {e : TypeId} (h : Blk w b xs e) (j : Nat) : w.cell? ⟨b, j, none⟩ = xs[j]? := by
  simp only [Blk] at h
  simp [World.cell?, h]
theorem blk_free {w : World} {b : Nat} {xs : List Value} {e : TypeId} (h : Blk w b xs e) (j : Nat) : w.frozen? ⟨b, j, none⟩ = false := by
  simp only [Blk] at h
  simp [World.frozen?, h]
theorem blk_set {w : World} {b : Nat} {xs : List Value} {e : TypeId} (h : Blk w b xs e) (j : Nat) (u : Value) : Blk (w.setCell ⟨b, j, none⟩ u) b (xs.set j u) e := by
  simp only [Blk] at h ⊢
  have hb := lt_of_block h
  have hg : w.heap[b] = .cells xs.toArray e (0, 0) := by rw [Array.getElem?_eq_getElem hb] at h; exact Option.some.inj h
  simp only [World.setCell]
  rw [Array.getElem?_eq_getElem (by simpa using hb)]
  simp [Array.getElem_modify, hg]
/-- A slice value that reads as the cells xs: n elements of 'size' cells; its cells lie in D. -/
def Row (size : Nat) (w : World) (D : Nat → Prop) (v : Value) (n : Nat) (xs : List Value) : Prop :=
  xs.length = n * size ∧ ∃ a c, v = .slice a n c ∧ n ≤ c ∧ c ≤ maxLen ∧ (a = none → n = 0 ∧ c = 0) ∧
    (n = 0 ∨ ∃ g o cur e fz, a = some ⟨g, o, none⟩ ∧ D g ∧ w.heap[g]? = some (.cells cur e fz) ∧ (cur.toList.drop o).take (n * size) = xs)
namespace Row
variable {size : Nat} {w w' : World} {D D' : Nat → Prop} {v : Value} {n : Nat} {xs : List Value}
theorem carry (h : Row size w D v n xs) (hk : ∀ k o, D k → w.heap[k]? = some o → w'.heap[k]? = some o) : Row size w' D v n xs := by
  obtain ⟨h1, a, c, hv, hn, hc, ha, h⟩ := h
  refine ⟨h1, a, c, hv, hn, hc, ha, h.imp id ?_⟩
  rintro ⟨g, o, cur, t, fz, e, hd, hg, ht⟩
  exact ⟨g, o, cur, t, fz, e, hd, hk g _ hd hg, ht⟩
theorem mono (h : Row size w D v n xs) (hd : ∀ k, D k → D' k) : Row size w D' v n xs := by
  obtain ⟨h1, a, c, hv, hn, hc, ha, h⟩ := h
  refine ⟨h1, a, c, hv, hn, hc, ha, h.imp id ?_⟩
  rintro ⟨g, o, cur, t, fz, e, hD, hg, ht⟩
  exact ⟨g, o, cur, t, fz, e, hd g hD, hg, ht⟩
theorem nil (w : World) (D : Nat → Prop) : Row size w D (.slice none 0 0) 0 [] := ⟨by simp, none, 0, rfl, Nat.le_refl _, Nat.zero_le _, fun _ => ⟨rfl, rfl⟩, .inl rfl⟩
theorem of_owns {base : Nat} {E : TypeId} (h : w.ownsRow base E size v n xs) (hd : ∀ k, v.ownBlock = some k → D k) : Row size w D v n xs := by
  obtain ⟨h1, h⟩ := h
  rcases h with ⟨rfl, rfl⟩ | ⟨g, cap, cur, rfl, _, hg, hn, hc, _, ht⟩
  · exact ⟨h1, none, 0, rfl, Nat.le_refl _, Nat.zero_le _, fun _ => ⟨rfl, rfl⟩, .inl rfl⟩
  · exact ⟨h1, _, cap, rfl, hn, hc, fun e => by simp at e, .inr ⟨g, 0, cur, _, _, rfl, hd g rfl, hg, by simpa using ht⟩⟩
/-- What an append asks of what is appended. -/
theorem news (h : Row size w D v n xs) : v = .slice none 0 0 ∧ n = 0 ∧ xs = [] ∨ ∃ a c, v = .slice (some a) n c ∧ xs.length = n * size ∧ ∀ j u, xs[j]? = some u → w.cell? (a.add j) = some u := by
  obtain ⟨h1, a, c, rfl, hn, hc, ha, h⟩ := h
  cases a with
  | none =>
    obtain ⟨rfl, rfl⟩ := ha rfl
    exact .inl ⟨rfl, rfl, List.eq_nil_of_length_eq_zero (by simpa using h1)⟩
  | some a =>
    refine .inr ⟨a, c, rfl, h1, ?_⟩
    rcases h with rfl | ⟨g, o, cur, t, fz, e, _, hg, ht⟩
    · have : xs = [] := List.eq_nil_of_length_eq_zero (by simpa using h1)
      subst this
      intro j u hu; simp at hu
    · simp only [Option.some.injEq] at e
      subst e
      intro j u hu
      have hadd : (⟨g, o, none⟩ : Addr).add j = ⟨g, o + j, none⟩ := by unfold Addr.add; split <;> simp_all
      rw [hadd]
      rw [← ht, List.getElem?_take] at hu
      split at hu
      · simp only [World.cell?, hg]
        simpa using hu
      · cases hu
theorem cellAt (h : Row size w D v n xs) {g o c : Nat} {s : Option Nat} {m : Nat} (hv : v = .slice (some ⟨g, o, s⟩) m c) {j : Nat} {u : Value} (hu : xs[j]? = some u) : s = none ∧ w.cell? ⟨g, o + j, none⟩ = some u := by
  obtain ⟨h1, a, c', rfl, hn, hc, ha, h⟩ := h
  simp only [Value.slice.injEq] at hv
  obtain ⟨rfl, rfl, rfl⟩ := hv
  rcases h with rfl | ⟨g', o', cur, t, fz, e, _, hg, ht⟩
  · have : xs = [] := List.eq_nil_of_length_eq_zero (by simpa using h1)
    subst this
    simp at hu
  · simp only [Option.some.injEq, Addr.mk.injEq] at e
    obtain ⟨rfl, rfl, rfl⟩ := e
    refine ⟨rfl, ?_⟩
    rw [← ht, List.getElem?_take] at hu
    split at hu
    · simp only [World.cell?, hg]
      simpa using hu
    · cases hu
theorem len (h : Row size w D v n xs) : ∃ a c, v = .slice a n c ∧ n ≤ c ∧ c ≤ maxLen := by
  obtain ⟨_, a, c, hv, hn, hc, _⟩ := h
  exact ⟨a, c, hv, hn, hc⟩
end Row
theorem Row.alloc {size : Nat} {w : World} {D : Nat → Prop} {v : Value} {n : Nat} {xs : List Value} (h : Row size w D v n xs) (o : Obj) : Row size (w.alloc o) D v n xs :=
  h.carry fun k _ _ ho => (Below.heap_alloc w o k (lt_of_block ho)).trans ho
theorem Row.drew {size : Nat} {w : World} {D : Nat → Prop} {v : Value} {n : Nat} {xs : List Value} (h : Row size w D v n xs) : Row size w.drew D v n xs := h
/-- What the program's tables say of a slice type t and its elements. -/
def ElemOf (P : Program) (t e : TypeId) (z : Value) (size bytes : Nat) : Prop :=
  P.underlying t = some (.slice e) ∧ (∃ i, P.info? e = some i ∧ i.zero = some z ∧ i.size = size ∧ i.bytes = bytes) ∧ z.cells.size = size ∧ 0 < size
theorem ElemOf.of {P : Program} {t e : TypeId} {z : Value} {size bytes : Nat} (h1 : P.underlying t = some (.slice e)) (h2 : (P.info? e).map (fun i => (i.zero, i.size, i.bytes)) = some (some z, size, bytes)) (h3 : z.cells.size = size) (h4 : 0 < size) : ElemOf P t e z size bytes :=
  ⟨h1, info_parts h2, h3, h4⟩
section
variable {P : Program} {w : World} {t e : TypeId} {z : Value} {size bytes : Nat}
/-- append(own, row...): 'own' is the call's own; 'row' any row, nil too. -/
theorem run_append_row (he : ElemOf P t e z size bytes) (ty : TypeId) {base : Nat} {v : Value} {n : Nat} {xs : List Value} (hown : w.ownsRow base e size v n xs) {D : Nat → Prop} {u : Value} {m : Nat} {news : List Value}
    (hrow : Row size w D u m news) (h1 : ∀ x ∈ news, x.oneCell' = true) (h63 : n + m ≤ maxLen) (hbytes : (n + m) * bytes ≤ 140737488355328) (hbase : base ≤ w.heap.size) :
    ∃ v' w', (Builtin.append_ #[t, t] ty #[v, u]).run P w = .ok v' w' ∧ w'.ownsRow base e size v' (n + m) (xs ++ news) ∧ w.grownBy w' v.ownBlock ∧ (v' = .slice none 0 0 ↔ v = .slice none 0 0 ∧ m = 0) ∧ (v'.ownBlock = v.ownBlock ∨ ∃ k, v'.ownBlock = some k ∧ w.heap.size ≤ k) := by
  obtain ⟨ht, ⟨i, hi, hz, hs, hb⟩, hzs, hsz⟩ := he
  rcases hrow.news with ⟨rfl, rfl, rfl⟩ | ⟨a, c, rfl, hl, hn⟩
  · have hrun := run_append_owned_none (P := P) (w := w) base t ty e i size ht hi v n xs hown
    exact ⟨v, w, hrun, by simpa using hown, World.grownBy.refl _ _, by simp, .inl rfl⟩
  · obtain ⟨v', w', hr, g1, g2, g3⟩ := run_append_own (P := P) w base t ty e i z size bytes ht hi hz hs hb hzs hsz v n xs hown a m c news hl hn h1 h63 hbytes hbase
    refine ⟨v', w', hr, g1, g2, g3, ?_⟩
    by_cases hv : v'.ownBlock = v.ownBlock
    · exact .inl hv
    cases hk : v'.ownBlock with
    | none =>
      rcases g1.2 with ⟨h0, _⟩ | ⟨g, cap, cur, hvv, _⟩
      · obtain ⟨hvn, _⟩ := g3.1 h0
        rw [h0, hvn] at hv
        exact absurd rfl hv
      · rw [hvv] at hk
        simp [Value.ownBlock] at hk
    | some k =>
      refine .inr ⟨k, rfl, ?_⟩
      rcases Nat.lt_or_ge k w.heap.size with hlt | hge
      · exfalso
        subst hs
        subst hb
        -- an old block, and not the one that was appended to: append never hands such a one back
        rcases hown.2 with ⟨rfl, rfl⟩ | ⟨g, cap, cur, rfl, hbg, hg, hnc, hcm, hcs, htake⟩
        · by_cases hm : m = 0
          · subst hm
            rw [g3.2 ⟨rfl, rfl⟩] at hk
            simp [Value.ownBlock] at hk
          · have hge := run_append_nil (P := P) w t ty e i z ht hi hz a m c news hl hn (by omega) (by simp only [maxLen] at h63; omega) (by
              rw [Nat.zero_add] at hbytes
              omega)
            rw [hr] at hge
            simp only [Result.ok.injEq] at hge
            rw [hge.1] at hk
            simp [Value.ownBlock] at hk
            omega
        · by_cases hroom : n + m ≤ cap
          · have hfit : n * i.size + news.length ≤ cur.size := by
              rw [hl, hcs, ← Nat.add_mul]; exact Nat.mul_le_mul_right _ hroom
            have hrr := run_append_room (P := P) w t ty e i ht hi g n cap cur hg a m c news hl hn h1 hroom hfit
            rw [hr] at hrr
            simp only [Result.ok.injEq] at hrr
            rw [hrr.1] at hv
            exact hv rfl
          · have hlo : xs.length = n * i.size := hown.1
            have hrr := run_append_grow (P := P) w t ty e i z ht hi hz ⟨g, 0, none⟩ n cap xs hlo (hown.cells (g := g) rfl) a m c news hl hn (by omega) (by simp only [maxLen] at h63; omega) (growslice_fits (by omega) hbytes)
            rw [hr] at hrr
            simp only [Result.ok.injEq] at hrr
            rw [hrr.1] at hk
            simp [Value.ownBlock] at hk
            omega
      · exact hge
/-- The same as one step of a region that draws its order. -/
theorem step_row {ops : Array Oper} {o : Oper} {a : Act} {K : Act → World → Prop} {Q : Exit → Act → World → Prop} {E : Prop} (hgd : o.guard = none) (s x : Operand)
    (he : ElemOf P t e z size bytes) (ho : o.op = .call { callee := .builtin .append, args := #[s, x], argTypes := #[t, t] }) {base : Nat} {v : Value} {n : Nat} {xs : List Value} (hs : a.eval s = v) (hown : w.ownsRow base e size v n xs)
    {D : Nat → Prop} {u : Value} {m : Nat} {news : List Value} (hx : a.eval x = u)
    (hrow : Row size w D u m news) (h1 : ∀ x ∈ news, x.oneCell' = true) (h63 : n + m ≤ maxLen) (hbytes : (n + m) * bytes ≤ 140737488355328) (hbase : base ≤ w.heap.size)
    (h : ∀ v' w', w'.ownsRow base e size v' (n + m) (xs ++ news) → w.grownBy w' v.ownBlock → (v' = .slice none 0 0 ↔ v = .slice none 0 0 ∧ m = 0) → (v'.ownBlock = v.ownBlock ∨ ∃ k, v'.ownBlock = some k ∧ w.heap.size ≤ k) → K (a.put o.dst v') w') :
    if Region.wanted o (yielded ops a.tmps) = true then Oper.wp P o a w K Q else E := by
  have hw : Region.wanted o (yielded ops a.tmps) = true := by simp [Region.wanted, hgd]
  rw [if_pos hw]
  obtain ⟨v', w', hr, h2, h3, h4, h5⟩ := run_append_row (P := P) he o.type hown hrow h1 h63 hbytes hbase
  unfold Oper.wp execOp
  simp only [ho, resolve, invoke, builtin, Sem.run_bind, Sem.run_pure, Result.andThen_ok, List.map_toArray, List.map_cons, List.map_nil, hs, hx, hr]
  exact h v' w' h2 h3 h4 h5
/-- clear(s[n:n+m]) behind an own row's elements. -/
theorem run_clear_tail (he : ElemOf P t e z size bytes) (ty : TypeId) {base g n cap : Nat} {xs : List Value} (hown : w.ownsRow base e size (.slice (some ⟨g, 0, none⟩) n cap) n xs) {m c : Nat} (hm : n + m ≤ cap) (hzc : ∀ u ∈ z.cells.toList, u.oneCell' = true) :
    ∃ w', (Builtin.clear_ #[t] ty #[.slice (some ⟨g, n * size, none⟩) m c]).run P w = .ok (.tuple #[]) w' ∧ w'.ownsRow base e size (.slice (some ⟨g, 0, none⟩) n cap) n xs ∧ w.grownBy w' (some g) := by
  obtain ⟨ht, ⟨ti, hi, hz, hs, hb⟩, hzs, hsz⟩ := he
  subst hs
  have hown0 := hown
  obtain ⟨hx, h⟩ := hown
  rcases h with ⟨h0, _⟩ | ⟨g', cap', cur, hv, hbg, hg, hnc, hcm, hcs, htake⟩
  · cases h0
  simp only [Value.slice.injEq, Option.some.injEq, Addr.mk.injEq] at hv
  obtain ⟨⟨rfl, _⟩, _, rfl⟩ := hv
  cases m with
  | zero =>
    refine ⟨w, ?_, hown0, World.grownBy.refl _ _⟩
    simp [Builtin.clear_, run_underlying ht]
  | succ m =>
    have hzl : (Builtin.zeroCells z.cells (m + 1)).toList.length = (m + 1) * ti.size := by rw [Array.length_toList, size_zeroCells, hzs]
    have hfit : n * ti.size + (Builtin.zeroCells z.cells (m + 1)).toList.length ≤ cur.size := by
      rw [hzl, hcs, ← Nat.add_mul]; exact Nat.mul_le_mul_right _ hm
    have h1 : ∀ u ∈ (Builtin.zeroCells z.cells (m + 1)).toList, u.oneCell' = true := by
      intro u hu
      simp only [Builtin.zeroCells, Array.toList_map, List.mem_map] at hu
      obtain ⟨k, _, rfl⟩ := hu
      have hk : k % z.cells.size < z.cells.size := Nat.mod_lt _ (by omega)
      rw [getElem!_pos z.cells _ hk]
      exact hzc _ (by simp)
    have hst := run_storeCells_at P g (n * ti.size) e (Builtin.zeroCells z.cells (m + 1)).toList 0 cur w hg (by simpa using hfit) h1
    simp only [Nat.add_zero] at hst
    refine ⟨_, by simp [Builtin.clear_, run_underlying ht, zeroValue, typeInfo, hi, hz, hst]; rfl, ⟨hx, .inr ⟨g, cap, _, rfl, hbg, setRow_heap w g cur _ e (0, 0) hg, hnc, hcm, ?_, ?_⟩⟩, ⟨rfl, rfl, rfl, by simp, fun k hk hne => setRow_other w g k _ (fun e => hne (by rw [e]))⟩⟩
    · simp only [List.size_toArray, List.length_append, List.length_take, List.length_drop, Array.length_toList] at hfit ⊢
      omega
    · have e2 : (cur.toList.take (n * ti.size)).length = n * ti.size := by rw [List.length_take, Array.length_toList]; omega
      show List.take (n * ti.size) (List.take (n * ti.size) cur.toList ++ _) = xs
      conv => lhs; arg 1; rw [← e2]
      rw [List.take_left, htake]
end
theorem _root_.Go.World.grownBy.ofDrew {w w' : World} {row : Option Nat} (h : w.drew.grownBy w' row) : w.grownBy w' row := ⟨h.os, h.tape, h.output, h.size, h.block⟩
theorem _root_.Go.World.grownBy.ofDrewN {w w' : World} {n : Nat} {row : Option Nat} (h : (w.drewN n).grownBy w' row) : w.grownBy w' row := ⟨h.os, h.tape, h.output, h.size, h.block⟩
theorem owns_len {w : World} {base : Nat} {e : TypeId} {size : Nat} {v : Value} {n : Nat} {xs : List Value} (h : w.ownsRow base e size v n xs) : ∃ a c, v = .slice a n c ∧ n ≤ c ∧ c ≤ 9223372036854775807 ∧ (a = none ∨ ∃ g, a = some ⟨g, 0, none⟩) := by
  rcases h.2 with ⟨rfl, rfl⟩ | ⟨g, cap, cur, rfl, hb, hgg, h1, h2, _⟩
  · exact ⟨none, 0, rfl, Nat.le_refl _, by decide, .inl rfl⟩
  · exact ⟨_, cap, rfl, h1, by unfold maxLen at h2; omega, .inr ⟨g, rfl⟩⟩
theorem owns_base {w : World} {base base' : Nat} {e : TypeId} {size : Nat} {v : Value} {n : Nat} {xs : List Value} (h : w.ownsRow base e size v n xs) (hb : ∀ k, v.ownBlock = some k → base' ≤ k) : w.ownsRow base' e size v n xs := by
  refine ⟨h.1, ?_⟩
  rcases h.2 with hn | ⟨g, cap, cur, rfl, _, rest⟩
  · exact .inl hn
  · exact .inr ⟨g, cap, cur, rfl, hb g rfl, rest⟩
theorem Mods.base {w w1 : World} {o : Obj} (h : Below (w.alloc o).heap.size (w.alloc o) w1) : Mods (fun _ => False) w w1 := ((Mods.refl _ w).alloc o).trans (Mods.of_below h) (fun _ _ h => h)
end Go.Proofs.YtfhmamkafancbaaGreatDoor

/-
  A small logic of what a call owns: the pool (blocks that are never written any more), and a list of things that are owned, apart from one another and from the pool.
-/
namespace Go.Proofs.YtfhmamkafancbaaGreatDoor
open Go.RowKit
/-- Some blocks and what they hold. -/
abbrev Hl := Nat → Option Obj
namespace Hl
def le (g g' : Hl) : Prop := ∀ k o, g k = some o → g' k = some o
def disj (a b : Hl) : Prop := ∀ k, a k = none ∨ b k = none
def un (a b : Hl) : Hl := fun k => (a k).or (b k)
def emp : Hl := fun _ => none
def one (b : Nat) (o : Obj) : Hl := fun k => if k = b then some o else none
theorem le_refl (g : Hl) : le g g := fun _ _ h => h
theorem le.trans {a b c : Hl} (h : le a b) (k : le b c) : le a c := fun i o hi => k i o (h i o hi)
theorem disj.symm {a b : Hl} (h : disj a b) : disj b a := fun k => (h k).symm
theorem emp_un (a : Hl) : un emp a = a := by funext k; simp [un, emp]
theorem disj_emp (a : Hl) : disj a emp := fun _ => .inr rfl
theorem emp_disj (a : Hl) : disj emp a := fun _ => .inl rfl
theorem un_assoc (a b c : Hl) : un (un a b) c = un a (un b c) := by funext k; simp [un, Option.or_assoc]
theorem un_comm {a b : Hl} (h : disj a b) : un a b = un b a := by
  funext k
  rcases h k with e | e <;> simp [un, e]
theorem disj_un {a b c : Hl} : disj a (un b c) ↔ disj a b ∧ disj a c := by
  constructor
  · intro h
    refine ⟨fun k => (h k).imp id fun e => ?_, fun k => (h k).imp id fun e => ?_⟩ <;> simp [un] at e
    · exact e.1
    · exact e.2
  · rintro ⟨h1, h2⟩ k
    rcases h1 k with e | e
    · exact .inl e
    · rcases h2 k with e2 | e2
      · exact .inl e2
      · exact .inr (by simp [un, e, e2])
theorem un_disj {a b c : Hl} : disj (un a b) c ↔ disj a c ∧ disj b c := by
  constructor
  · intro h
    have := disj_un.1 h.symm
    exact ⟨this.1.symm, this.2.symm⟩
  · rintro ⟨h1, h2⟩
    exact (disj_un.2 ⟨h1.symm, h2.symm⟩).symm
theorem le_un_left (a b : Hl) : le a (un a b) := fun k o h => by simp [un, h]
theorem le_un_right {a b : Hl} (h : disj a b) : le b (un a b) := fun k o hb => by
  rcases h k with e | e
  · simp [un, e, hb]
  · rw [e] at hb; cases hb
end Hl
/-- A thing that is owned: what it says of the pool and of its own blocks. -/
structure HP where
  p : Hl → Hl → Prop
  mono : ∀ g g' h, Hl.le g g' → p g h → p g' h
def Star : List HP → Hl → Hl → Prop
  | [], _, h => h = Hl.emp
  | P :: r, g, h => ∃ h1 h2, Hl.disj h1 h2 ∧ h = Hl.un h1 h2 ∧ P.p g h1 ∧ Star r g h2
theorem Star.mono {H : List HP} {g g' h : Hl} (hg : Hl.le g g') (hs : Star H g h) : Star H g' h := by
  induction H generalizing h with
  | nil => exact hs
  | cons P r ih =>
    obtain ⟨h1, h2, d, e, p, s⟩ := hs
    exact ⟨h1, h2, d, e, P.mono _ _ _ hg p, ih s⟩
theorem Star.swap {P Q : HP} {r : List HP} {g h : Hl} (hs : Star (P :: Q :: r) g h) : Star (Q :: P :: r) g h := by
  obtain ⟨h1, h', d, rfl, p, h2, h3, d2, rfl, q, s⟩ := hs
  have d' := Hl.disj_un.1 d
  refine ⟨h2, Hl.un h1 h3, Hl.disj_un.2 ⟨d'.1.symm, d2⟩, ?_, q, h1, h3, d'.2, rfl, p, s⟩
  rw [← Hl.un_assoc, ← Hl.un_assoc, Hl.un_comm d'.1]
theorem Star.perm {H H' : List HP} (hp : H.Perm H') : ∀ {g h : Hl}, Star H g h → Star H' g h := by
  induction hp with
  | nil => exact fun h => h
  | cons x _ ih => exact fun ⟨h1, h2, d, e, p, s⟩ => ⟨h1, h2, d, e, p, ih s⟩
  | swap x y l => exact fun h => h.swap
  | trans _ _ ih1 ih2 => exact fun h => ih2 (ih1 h)
/-- The world w, in a call that began in W: the pool g, and what is owned. -/
structure Sat (W w : World) (g : Hl) (H : List HP) : Prop where
  os : w.os = W.os
  tape : w.tape = W.tape
  output : w.output = W.output
  ex : ∃ h, Star H g h ∧ Hl.disj g h ∧ ∀ k o, Hl.un g h k = some o → w.heap[k]? = some o
namespace Sat
variable {W w w' : World} {g g' : Hl} {P Q A B C D' : HP} {H H' : List HP}
theorem perm (hs : Sat W w g H) (hp : H.Perm H') : Sat W w g H' := by
  obtain ⟨h1, h2, h3, h, s, d, a⟩ := hs
  exact ⟨h1, h2, h3, h, s.perm hp, d, a⟩
theorem swap (hs : Sat W w g (A :: B :: H)) : Sat W w g (B :: A :: H) := hs.perm (.swap _ _ _)
theorem pull2 (hs : Sat W w g (A :: B :: C :: H)) : Sat W w g (C :: A :: B :: H) := hs.perm ((List.Perm.cons _ (.swap _ _ _)).trans (.swap _ _ _))
theorem pull3 (hs : Sat W w g (A :: B :: C :: D' :: H)) : Sat W w g (D' :: A :: B :: C :: H) :=
  hs.perm ((List.Perm.cons _ ((List.Perm.cons _ (.swap _ _ _)).trans (.swap _ _ _))).trans (.swap _ _ _))
theorem push2 (hs : Sat W w g (A :: B :: C :: H)) : Sat W w g (B :: C :: A :: H) := hs.perm ((List.Perm.swap _ _ _).trans (List.Perm.cons _ (.swap _ _ _)))
/-- The front thing behind all others of a list. -/
theorem toBack (hs : Sat W w g (A :: (H ++ H'))) : Sat W w g (H ++ A :: H') := hs.perm List.perm_middle.symm
theorem toFront (hs : Sat W w g (H ++ A :: H')) : Sat W w g (A :: (H ++ H')) := hs.perm List.perm_middle
theorem drop (hs : Sat W w g (P :: H)) : Sat W w g H := by
  obtain ⟨h1, h2, h3, h, ⟨a, b, d, rfl, _, s⟩, dg, ag⟩ := hs
  have dg' := Hl.disj_un.1 dg
  refine ⟨h1, h2, h3, b, s, dg'.2, fun k o hk => ag k o ?_⟩
  simp only [Hl.un] at hk ⊢
  rcases dg k with e | e
  · rw [e] at hk ⊢
    rcases d k with e2 | e2
    · simpa [e2] using hk
    · simp [e2] at hk
  · simp [Hl.un] at e
    simpa [e.1, e.2] using hk
/-- Read the front thing differently. -/
theorem conv (hs : Sat W w g (P :: H)) (hpq : ∀ h, P.p g h → Q.p g h) : Sat W w g (Q :: H) := by
  obtain ⟨h1, h2, h3, h, ⟨a, b, d, e, p, s⟩, dg, ag⟩ := hs
  exact ⟨h1, h2, h3, h, ⟨a, b, d, e, hpq _ p, s⟩, dg, ag⟩
/-- A fact that the front thing bears. -/
theorem fact {F : Prop} (hs : Sat W w g (P :: H)) (hpq : ∀ h, P.p g h → F) : F := by
  obtain ⟨h1, h2, h3, h, ⟨a, b, d, e, p, s⟩, dg, ag⟩ := hs
  exact hpq _ p
theorem opens {α : Sort _} {F : α → HP} (hs : Sat W w g (P :: H)) (hpq : ∀ h, P.p g h → ∃ x, (F x).p g h) : ∃ x, Sat W w g (F x :: H) := by
  obtain ⟨h1, h2, h3, h, ⟨a, b, d, e, p, s⟩, dg, ag⟩ := hs
  obtain ⟨x, hx⟩ := hpq _ p
  exact ⟨x, h1, h2, h3, h, ⟨a, b, d, e, hx, s⟩, dg, ag⟩
theorem pool (hs : Sat W w g H) {k : Nat} {o : Obj} (hk : g k = some o) : w.heap[k]? = some o := by
  obtain ⟨h1, h2, h3, h, s, dg, ag⟩ := hs
  exact ag k o (by simp [Hl.un, hk])
theorem drew (hs : Sat W w g H) : Sat W w.drew g H := ⟨hs.os, hs.tape, hs.output, hs.ex⟩
theorem drewN (hs : Sat W w g H) (n : Nat) : Sat W (w.drewN n) g H := ⟨hs.os, hs.tape, hs.output, hs.ex⟩
end Sat
/-- One block of any kind. -/
def obj (b : Nat) (o : Obj) : HP := ⟨fun _ h => h = Hl.one b o, fun _ _ _ _ h => h⟩
/-- One block of cells. -/
def blk (b : Nat) (xs : List Value) (e : TypeId) : HP := obj b (.cells xs.toArray e (0, 0))
/-- Two things as one. -/
def sep (P Q : HP) : HP := ⟨fun g h => ∃ h1 h2, Hl.disj h1 h2 ∧ h = Hl.un h1 h2 ∧ P.p g h1 ∧ Q.p g h2, fun _ _ _ hg ⟨h1, h2, d, e, p, q⟩ => ⟨h1, h2, d, e, P.mono _ _ _ hg p, Q.mono _ _ _ hg q⟩⟩
/-- A thing beside a fact on the pool. -/
def wit (F : Hl → Prop) (hF : ∀ g g', Hl.le g g' → F g → F g') (P : HP) : HP := ⟨fun g h => F g ∧ P.p g h, fun _ _ _ hg ⟨f, p⟩ => ⟨hF _ _ hg f, P.mono _ _ _ hg p⟩⟩
def exs {α : Type} (P : α → HP) : HP := ⟨fun g h => ∃ x, (P x).p g h, fun _ _ _ hg ⟨x, p⟩ => ⟨x, (P x).mono _ _ _ hg p⟩⟩
def nothing : HP := ⟨fun _ h => h = Hl.emp, fun _ _ _ _ h => h⟩
namespace Sat
variable {W w w' : World} {g g' : Hl} {P Q A B C : HP} {H H' : List HP}
theorem split (hs : Sat W w g (sep P Q :: H)) : Sat W w g (P :: Q :: H) := by
  obtain ⟨h1, h2, h3, h, ⟨a, b, d, rfl, ⟨x, y, d2, rfl, p, q⟩, s⟩, dg, ag⟩ := hs
  have d' := Hl.un_disj.1 d
  exact ⟨h1, h2, h3, _, ⟨x, Hl.un y b, Hl.disj_un.2 ⟨d2, d'.1⟩, Hl.un_assoc _ _ _, p, y, b, d'.2, rfl, q, s⟩, dg, ag⟩
theorem join (hs : Sat W w g (P :: Q :: H)) : Sat W w g (sep P Q :: H) := by
  obtain ⟨h1, h2, h3, h, ⟨x, y', d, rfl, p, y, b, d2, rfl, q, s⟩, dg, ag⟩ := hs
  have d' := Hl.disj_un.1 d
  exact ⟨h1, h2, h3, _, ⟨Hl.un x y, b, Hl.un_disj.2 ⟨d'.2, d2⟩, (Hl.un_assoc _ _ _).symm, ⟨x, y, d'.1, rfl, p, q⟩, s⟩, dg, ag⟩
theorem unwit {F : Hl → Prop} {hF : ∀ g g', Hl.le g g' → F g → F g'} (hs : Sat W w g (wit F hF P :: H)) : F g ∧ Sat W w g (P :: H) :=
  ⟨hs.fact fun _ h => h.1, hs.conv fun _ h => h.2⟩
theorem mkwit {F : Hl → Prop} {hF : ∀ g g', Hl.le g g' → F g → F g'} (f : F g) (hs : Sat W w g (P :: H)) : Sat W w g (wit F hF P :: H) := hs.conv fun _ h => ⟨f, h⟩
theorem unexs {α : Type} {P : α → HP} (hs : Sat W w g (exs P :: H)) : ∃ x, Sat W w g (P x :: H) := hs.opens fun _ h => h
theorem mkexs {α : Type} {P : α → HP} (x : α) (hs : Sat W w g (P x :: H)) : Sat W w g (exs P :: H) := hs.conv fun _ h => ⟨x, h⟩
theorem mknothing (hs : Sat W w g H) : Sat W w g (nothing :: H) := by
  obtain ⟨h1, h2, h3, h, s, dg, ag⟩ := hs
  exact ⟨h1, h2, h3, h, ⟨Hl.emp, h, Hl.emp_disj _, (Hl.emp_un _).symm, rfl, s⟩, dg, ag⟩
/-- The front thing becomes the pool's: it is never written any more. -/
theorem publish (hs : Sat W w g (P :: H)) : ∃ h, P.p g h ∧ Hl.le g (Hl.un g h) ∧ Hl.le h (Hl.un g h) ∧ Sat W w (Hl.un g h) H := by
  obtain ⟨h1, h2, h3, h, ⟨a, b, d, rfl, p, s⟩, dg, ag⟩ := hs
  have dg' := Hl.disj_un.1 dg
  refine ⟨a, p, Hl.le_un_left _ _, Hl.le_un_right dg'.1, h1, h2, h3, b, s.mono (Hl.le_un_left _ _), Hl.un_disj.2 ⟨dg'.2, d⟩, fun k o hk => ag k o ?_⟩
  rw [← Hl.un_assoc]; exact hk
theorem heap {b : Nat} {o : Obj} (hs : Sat W w g (obj b o :: H)) : w.heap[b]? = some o := by
  obtain ⟨h1, h2, h3, h, ⟨a, b', d, rfl, rfl, s⟩, dg, ag⟩ := hs
  refine ag b o ?_
  rcases dg b with e | e
  · simp [Hl.un, e, Hl.one]
  · simp [Hl.un, Hl.one] at e
theorem lt {b : Nat} {o : Obj} (hs : Sat W w g (obj b o :: H)) : b < w.heap.size := lt_of_block hs.heap
theorem block {b : Nat} {xs : List Value} {e : TypeId} (hs : Sat W w g (blk b xs e :: H)) : Blk w b xs e := hs.heap
theorem blt {b : Nat} {xs : List Value} {e : TypeId} (hs : Sat W w g (blk b xs e :: H)) : b < w.heap.size := lt_of_block hs.heap
theorem cell {b : Nat} {xs : List Value} {e : TypeId} (hs : Sat W w g (blk b xs e :: H)) (j : Nat) : w.cell? ⟨b, j, none⟩ = xs[j]? := blk_cell hs.block j
theorem free {b : Nat} {xs : List Value} {e : TypeId} (hs : Sat W w g (blk b xs e :: H)) (j : Nat) : w.frozen? ⟨b, j, none⟩ = false := blk_free hs.block j
/-- In the front thing's place: one block, of its own or a new one; nothing else has turned. -/
theorem replace {b : Nat} {o : Obj} (hs : Sat W w g (P :: H)) (hos : w'.os = w.os) (htape : w'.tape = w.tape) (hout : w'.output = w.output)
    (hP : ∀ a, P.p g a → (∀ k, k < w.heap.size → a k = none → w'.heap[k]? = w.heap[k]?) ∧ (a b ≠ none ∨ w.heap.size ≤ b)) (hb : w'.heap[b]? = some o) : Sat W w' g (obj b o :: H) := by
  obtain ⟨h1, h2, h3, h, ⟨a, x, d, rfl, p, s⟩, dg, ag⟩ := hs
  obtain ⟨hk, hfr⟩ := hP a p
  have dg' := Hl.disj_un.1 dg
  have hlt : ∀ k, Hl.un g (Hl.un a x) k ≠ none → k < w.heap.size := fun k hk => by
    obtain ⟨o, ho⟩ := Option.ne_none_iff_exists'.1 hk
    exact lt_of_block (ag k o ho)
  have hgb : g b = none := by
    rcases hfr with hf | hf
    · exact (dg'.1 b).resolve_right hf
    · cases e : g b with
      | none => rfl
      | some o => have := hlt b (by simp [Hl.un, e]); omega
  have hxb : x b = none := by
    rcases hfr with hf | hf
    · exact (d b).resolve_left hf
    · cases e : x b with
      | none => rfl
      | some o => have := hlt b (by simp [Hl.un, e]); omega
  have d1 : Hl.disj (Hl.one b o) x := fun k => by
    by_cases e : k = b
    · subst e; exact .inr hxb
    · exact .inl (by simp [Hl.one, e])
  have d2 : Hl.disj g (Hl.one b o) := fun k => by
    by_cases e : k = b
    · subst e; exact .inl hgb
    · exact .inr (by simp [Hl.one, e])
  refine ⟨hos.trans h1, htape.trans h2, hout.trans h3, _, ⟨_, x, d1, rfl, rfl, s⟩, Hl.disj_un.2 ⟨d2, dg'.2⟩, fun k o2 hk2 => ?_⟩
  by_cases e : k = b
  · subst e
    simp [Hl.un, Hl.one, hgb] at hk2
    rw [← hk2]; exact hb
  · have hak : a k = none := by
      cases eg : g k with
      | some o' => exact (dg'.1 k).resolve_left (by simp [eg])
      | none =>
        have : x k ≠ none := by intro ex; simp [Hl.un, Hl.one, e, eg, ex] at hk2
        exact (d k).resolve_right this
    have : Hl.un g (Hl.un a x) k = some o2 := by
      simp only [Hl.un, Hl.one, e, if_false, hak] at hk2 ⊢
      exact hk2
    have h4 := ag k o2 this
    rw [hk k (lt_of_block h4) hak]; exact h4
/-- The front block holds another thing now, and nothing else has turned. -/
theorem update {b : Nat} {o o' : Obj} (hs : Sat W w g (obj b o :: H)) (hos : w'.os = w.os) (htape : w'.tape = w.tape) (hout : w'.output = w.output)
    (hb : w'.heap[b]? = some o') (hk : ∀ k, k < w.heap.size → k ≠ b → w'.heap[k]? = w.heap[k]?) : Sat W w' g (obj b o' :: H) :=
  hs.replace hos htape hout (fun a ha => by
    cases ha
    exact ⟨fun k h1 h2 => hk k h1 (by rintro rfl; simp [Hl.one] at h2), .inl (by simp [Hl.one])⟩) hb
theorem set {b : Nat} {xs : List Value} {e : TypeId} (hs : Sat W w g (blk b xs e :: H)) (j : Nat) (u : Value) : Sat W (w.setCell ⟨b, j, none⟩ u) g (blk b (xs.set j u) e :: H) :=
  update hs rfl rfl rfl (blk_set hs.block j u) fun k _ hk => Below.heap_setCell w _ u k hk
/-- What is not owned and not the pool's has turned, or is new. -/
theorem grow (hs : Sat W w g H) (hos : w'.os = w.os) (htape : w'.tape = w.tape) (hout : w'.output = w.output) (hk : ∀ k, k < w.heap.size → w'.heap[k]? = w.heap[k]?) : Sat W w' g H := by
  obtain ⟨h1, h2, h3, h, s, dg, ag⟩ := hs
  exact ⟨hos.trans h1, htape.trans h2, hout.trans h3, h, s, dg, fun k o h => by have h4 := ag k o h; rw [hk k (lt_of_block h4)]; exact h4⟩
/-- A new block. -/
theorem new {b : Nat} {o : Obj} (hs : Sat W w g H) (hb : w.heap.size ≤ b) (hos : w'.os = w.os) (htape : w'.tape = w.tape) (hout : w'.output = w.output) (hk : ∀ k, k < w.heap.size → w'.heap[k]? = w.heap[k]?) (hn : w'.heap[b]? = some o) :
    Sat W w' g (obj b o :: H) :=
  hs.mknothing.replace hos htape hout (fun _ _ => ⟨fun k h1 _ => hk k h1, .inr hb⟩) hn
theorem alloc (hs : Sat W w g H) (o : Obj) : Sat W (w.alloc o) g (obj w.heap.size o :: H) :=
  hs.new (Nat.le_refl _) rfl rfl rfl (fun k hk => Below.heap_alloc w o k hk) (heap_alloc_new w o)
theorem garbage (hs : Sat W w g H) (o : Obj) : Sat W (w.alloc o) g H := (hs.alloc o).drop
end Sat
/-- An own row as a thing: a slice value, its elements' cells. -/
def ownP (E : TypeId) (size : Nat) (v : Value) (n : Nat) (xs : List Value) (h : Hl) : Prop :=
  xs.length = n * size ∧ ((v = .slice none 0 0 ∧ n = 0 ∧ h = Hl.emp) ∨
    ∃ (b cap : Nat) (cur : Array Value), v = .slice (some ⟨b, 0, none⟩) n cap ∧ n ≤ cap ∧ cap ≤ maxLen ∧ cur.size = cap * size ∧ cur.toList.take (n * size) = xs ∧ h = Hl.one b (.cells cur E (0, 0)))
def own (E : TypeId) (size : Nat) (v : Value) (n : Nat) (xs : List Value) : HP := ⟨fun _ h => ownP E size v n xs h, fun _ _ _ _ h => h⟩
namespace Sat
variable {W w w' : World} {g g' : Hl} {P Q A B C : HP} {H H' : List HP} {E : TypeId} {size : Nat} {v : Value} {n : Nat} {xs : List Value}
theorem owns (hs : Sat W w g (own E size v n xs :: H)) : w.ownsRow 0 E size v n xs := by
  obtain ⟨h1, h2, h3, h, ⟨a, x, d, rfl, ⟨hl, hp⟩, s⟩, dg, ag⟩ := hs
  refine ⟨hl, ?_⟩
  rcases hp with ⟨rfl, rfl, _⟩ | ⟨b, cap, cur, rfl, hn, hm, hcs, ht, rfl⟩
  · exact .inl ⟨rfl, rfl⟩
  · refine .inr ⟨b, cap, cur, rfl, Nat.zero_le _, ag b _ ?_, hn, hm, hcs, ht⟩
    rcases dg b with e | e
    · simp [Hl.un, e, Hl.one]
    · simp [Hl.un, Hl.one] at e
/-- An own row that has turned, in its old block or a new one. -/
theorem turn {v' : Value} {n' : Nat} {xs' : List Value} (hs : Sat W w g (own E size v n xs :: H)) (hown : w'.ownsRow 0 E size v' n' xs') (hgr : w.grownBy w' v.ownBlock) (hv : v'.ownBlock = v.ownBlock ∨ ∃ k, v'.ownBlock = some k ∧ w.heap.size ≤ k) :
    Sat W w' g (own E size v' n' xs' :: H) := by
  have key : ∀ a, (own E size v n xs).p g a → ∀ k, k < w.heap.size → a k = none → w'.heap[k]? = w.heap[k]? := by
    rintro a ⟨_, hp⟩ k hk hak
    refine hgr.block k hk fun e => ?_
    rcases hp with ⟨rfl, _, _⟩ | ⟨b', cap, cur, rfl, _, _, _, _, rfl⟩
    · simp [Value.ownBlock] at e
    · simp only [Value.ownBlock, Option.some.injEq] at e
      subst e
      simp [Hl.one] at hak
  have hblk : ∀ b a, (own E size v n xs).p g a → v.ownBlock = some b → a b ≠ none := by
    rintro b a ⟨_, hp⟩ e
    rcases hp with ⟨rfl, _, _⟩ | ⟨b', cap, cur, rfl, _, _, _, _, rfl⟩
    · simp [Value.ownBlock] at e
    · simp only [Value.ownBlock, Option.some.injEq] at e
      subst e
      simp [Hl.one]
  rcases hown.2 with ⟨rfl, rfl⟩ | ⟨b, cap, cur, rfl, _, hb, hn, hm, hcs, ht⟩
  · -- nil: nothing was there
    have hvn : v.ownBlock = none := by
      rcases hv with h | ⟨k, h, _⟩
      · rw [← h]; rfl
      · simp [Value.ownBlock] at h
    have h2 : Sat W w' g H := hs.drop.grow hgr.os hgr.tape hgr.output fun k hk => hgr.block k hk (by rw [hvn]; simp)
    exact h2.mknothing.conv fun h e => ⟨hown.1, .inl ⟨rfl, rfl, e⟩⟩
  · refine (hs.replace hgr.os hgr.tape hgr.output (fun a ha => ⟨key a ha, ?_⟩) hb).conv fun h e => ⟨hown.1, .inr ⟨b, cap, cur, rfl, hn, hm, hcs, ht, e⟩⟩
    rcases hv with h | ⟨k, h, hge⟩
    · exact .inl (hblk b a ha h.symm)
    · simp only [Value.ownBlock, Option.some.injEq] at h
      subst h
      exact .inr hge
/-- A new own row. -/
theorem newOwn (hs : Sat W w g H) (hown : w'.ownsRow w.heap.size E size v n xs) (hb : Below w.heap.size w w') : Sat W w' g (own E size v n xs :: H) := by
  have h1 : Sat W w g (own E size (.slice none 0 0) 0 [] :: H) := hs.mknothing.conv fun h e => ⟨by simp, .inl ⟨rfl, rfl, e⟩⟩
  have hlt := hown.lt
  refine h1.turn (owns_base hown fun _ _ => Nat.zero_le _) ⟨hb.os, hb.tape, hb.output, hb.size, fun k hk _ => hb.block k hk⟩ ?_
  cases e : v.ownBlock with
  | none => exact .inl rfl
  | some k => exact .inr ⟨k, rfl, (hlt k e).1⟩
theorem nilOwn (hs : Sat W w g H) : Sat W w g (own E size (.slice none 0 0) 0 [] :: H) := hs.mknothing.conv fun h e => ⟨by simp, .inl ⟨rfl, rfl, e⟩⟩
end Sat
/-- A row of the pool's: a slice value that reads as the cells xs. -/
def Pr (size : Nat) (g : Hl) (v : Value) (n : Nat) (xs : List Value) : Prop :=
  xs.length = n * size ∧ ∃ a c, v = .slice a n c ∧ n ≤ c ∧ c ≤ maxLen ∧ (a = none → n = 0 ∧ c = 0) ∧
    (n = 0 ∨ ∃ b o cur e fz, a = some ⟨b, o, none⟩ ∧ g b = some (.cells cur e fz) ∧ (cur.toList.drop o).take (n * size) = xs)
namespace Pr
variable {size : Nat} {g g' : Hl} {v : Value} {n : Nat} {xs : List Value}
theorem mono (h : Pr size g v n xs) (hg : Hl.le g g') : Pr size g' v n xs := by
  obtain ⟨h1, a, c, hv, hn, hc, ha, h⟩ := h
  refine ⟨h1, a, c, hv, hn, hc, ha, h.imp id ?_⟩
  rintro ⟨b, o, cur, t, fz, e, hb, ht⟩
  exact ⟨b, o, cur, t, fz, e, hg _ _ hb, ht⟩
theorem row {W w : World} {H : List HP} (h : Pr size g v n xs) (hs : Sat W w g H) : Row size w (fun _ => True) v n xs := by
  obtain ⟨h1, a, c, hv, hn, hc, ha, h⟩ := h
  refine ⟨h1, a, c, hv, hn, hc, ha, h.imp id ?_⟩
  rintro ⟨b, o, cur, t, fz, e, hb, ht⟩
  exact ⟨b, o, cur, t, fz, e, trivial, hs.pool hb, ht⟩
theorem nil : Pr size g (.slice none 0 0) 0 [] := ⟨by simp, none, 0, rfl, Nat.le_refl _, Nat.zero_le _, fun _ => ⟨rfl, rfl⟩, .inl rfl⟩
theorem len (h : Pr size g v n xs) : ∃ a c, v = .slice a n c ∧ n ≤ c ∧ c ≤ 9223372036854775807 := by
  obtain ⟨_, a, c, hv, hn, hc, _⟩ := h
  exact ⟨a, c, hv, hn, by unfold maxLen at hc; omega⟩
end Pr
namespace Sat
variable {W w w' : World} {g g' : Hl} {P Q A B C : HP} {H H' : List HP} {E : TypeId} {size : Nat} {v : Value} {n : Nat} {xs : List Value}
/-- An own row becomes the pool's. -/
theorem publishOwn (hs : Sat W w g (own E size v n xs :: H)) : ∃ g', Hl.le g g' ∧ Pr size g' v n xs ∧ Sat W w g' H := by
  obtain ⟨h, ⟨hl, hp⟩, h1, h2, h3⟩ := hs.publish
  refine ⟨_, h1, ?_, h3⟩
  rcases hp with ⟨rfl, rfl, _⟩ | ⟨b, cap, cur, rfl, hn, hm, hcs, ht, rfl⟩
  · obtain rfl : xs = [] := List.eq_nil_of_length_eq_zero (by simpa using hl)
    exact Pr.nil
  · exact ⟨hl, _, cap, rfl, hn, hm, fun e => by simp at e, .inr ⟨b, 0, cur, E, (0, 0), rfl, h2 _ _ (by simp [Hl.one]), by simpa using ht⟩⟩
end Sat
section
variable {Pg : Program} {W w : World} {g : Hl} {H : List HP} {t e : TypeId} {z : Value} {size bytes : Nat}
/-- The same as one step of a region that draws its order. -/
theorem step_own {ops : Array Oper} {o : Oper} {a : Act} {K : Act → World → Prop} {Q : Exit → Act → World → Prop} {E : Prop} (hgd : o.guard = none) (s x : Operand)
    (he : ElemOf Pg t e z size bytes) (ho : o.op = .call { callee := .builtin .append, args := #[s, x], argTypes := #[t, t] }) {v u : Value} {n m : Nat} {xs news : List Value} (hs : a.eval s = v) (hx : a.eval x = u)
    (hsat : Sat W w g (own e size v n xs :: H)) {D : Nat → Prop} (hrow : Row size w D u m news) (h1 : ∀ x ∈ news, x.oneCell' = true) (h63 : n + m ≤ maxLen) (hbytes : (n + m) * bytes ≤ 140737488355328)
    (h : ∀ v' w', Sat W w' g (own e size v' (n + m) (xs ++ news) :: H) → (v' = .slice none 0 0 ↔ v = .slice none 0 0 ∧ m = 0) → K (a.put o.dst v') w') :
    if Region.wanted o (yielded ops a.tmps) = true then Oper.wp Pg o a w K Q else E :=
  step_row hgd s x he ho hs hsat.owns hx hrow h1 h63 hbytes (Nat.zero_le _) fun v' w' h1 h2 h3 h4 => h v' w' (hsat.turn h1 h2 h4) h3
end
namespace Sat
variable {W w : World} {g : Hl} {H : List HP} {E : TypeId} {size : Nat} {v : Value} {n : Nat} {xs : List Value}
theorem ownLen (hs : Sat W w g (own E size v n xs :: H)) : ∃ a c, v = .slice a n c ∧ n ≤ c ∧ c ≤ 9223372036854775807 ∧ (a = none ∨ ∃ b, a = some ⟨b, 0, none⟩) := owns_len hs.owns
theorem allocAt (hs : Sat W w g H) (b : Nat) (xs : List Value) (e : TypeId) (hb : b = w.heap.size) : Sat W (w.alloc (.cells xs.toArray e)) g (blk b xs e :: H) := by subst hb; exact hs.alloc _
theorem rowOf {b : Nat} {e : TypeId} (hs : Sat W w g (blk b xs e :: H)) (n : Nat) (hl : xs.length = n * size) (hm : n ≤ maxLen) : Row size w (fun _ => True) (.slice (some ⟨b, 0, none⟩) n n) n xs :=
  ⟨hl, _, n, rfl, Nat.le_refl _, hm, fun e => by simp at e, .inr ⟨_, 0, _, _, _, rfl, trivial, hs.block, by simp [← hl]⟩⟩
theorem pull4 {A B C D' E' : HP} (hs : Sat W w g (A :: B :: C :: D' :: E' :: H)) : Sat W w g (E' :: A :: B :: C :: D' :: H) := hs.perm ((List.Perm.cons _ ((List.Perm.cons _ ((List.Perm.cons _ (.swap _ _ _)).trans (.swap _ _ _))).trans (.swap _ _ _))).trans (.swap _ _ _))
theorem pull5 {A B C D' E' F' : HP} (hs : Sat W w g (A :: B :: C :: D' :: E' :: F' :: H)) : Sat W w g (F' :: A :: B :: C :: D' :: E' :: H) := (hs.perm (List.Perm.cons _ ((List.Perm.cons _ ((List.Perm.cons _ ((List.Perm.cons _ (.swap _ _ _)).trans (.swap _ _ _))).trans (.swap _ _ _))).trans (.swap _ _ _)))).swap
/-- A block of cells as an own row without spare places. -/
theorem blkOwn {b : Nat} {e : TypeId} (hs : Sat W w g (blk b xs e :: H)) (n : Nat) (hl : xs.length = n * size) (hm : n ≤ maxLen) : Sat W w g (own e size (.slice (some ⟨b, 0, none⟩) n n) n xs :: H) :=
  hs.conv fun _ h => ⟨hl, .inr ⟨b, n, xs.toArray, rfl, Nat.le_refl _, hm, by simpa using hl, by simp [← hl], h⟩⟩
end Sat
/-- A struct's or an array's type, of so many cells. -/
def AggOf (P : Program) (ty : TypeId) (n : Nat) : Prop := ∃ d, P.underlying ty = some d ∧ (match d with | .struct _ | .array _ _ => true | _ => false) = true ∧ (P.info? ty).map (·.size) = some n
section
variable {Pg : Program} {w : World} {fn : Func} {R : Ending → World → Prop} {a : Act} {b : Nat} {xs : List Value} {e ty : TypeId} {p u : Tmp}
theorem run_load_blk (st : AggOf Pg ty xs.length) (hb : Blk w b xs e) : (loadVar ty ⟨b, 0, none⟩).run Pg w = .ok (.agg xs.toArray) w := by
  obtain ⟨d, h1, h2, h3⟩ := st
  exact run_loadVar_row w b e ty xs.toArray (0, 0) d hb h1 (by cases d <;> first | rfl | simp at h2) (by simpa using h3)
end
namespace Sat
variable {W w : World} {g : Hl} {H : List HP} {E : TypeId} {size : Nat} {n c b : Nat} {xs : List Value}
end Sat
/-- Where a thing has a block of its own. -/
def At (P : HP) (b : Nat) : Prop := ∀ g h, P.p g h → h b ≠ none
theorem Sat.ne {W w : World} {g : Hl} {H : List HP} {P Q : HP} {b b' : Nat} (hs : Sat W w g (P :: Q :: H)) (hP : At P b) (hQ : At Q b') : b ≠ b' := by
  obtain ⟨_, _, _, h, ⟨a, x, d, rfl, p, y, z, d2, rfl, q, s⟩, dg, ag⟩ := hs
  rintro rfl
  rcases (Hl.disj_un.1 d).1 b with e | e
  · exact hP _ _ p e
  · exact hQ _ _ q e
namespace Sat
theorem start (W : World) : Sat W W (fun k => W.heap[k]?) [] := ⟨rfl, rfl, rfl, Hl.emp, rfl, Hl.disj_emp _, fun k o h => by simpa [Hl.un, Hl.emp] using h⟩
theorem below {W w : World} {g : Hl} {H : List HP} (hs : Sat W w g H) (hg : Hl.le (fun k => W.heap[k]?) g) : Below W.heap.size W w := by
  have hb : ∀ k, k < W.heap.size → w.heap[k]? = W.heap[k]? := fun k hk => by
    have h : W.heap[k]? = some W.heap[k] := Array.getElem?_eq_getElem hk
    rw [h]
    exact hs.pool (hg k _ h)
  refine ⟨hs.os, hs.tape, hs.output, ?_, hb⟩
  rcases Nat.eq_zero_or_pos W.heap.size with h | h
  · omega
  · have h1 := hb (W.heap.size - 1) (by omega)
    rw [Array.getElem?_eq_getElem (show W.heap.size - 1 < W.heap.size by omega)] at h1
    have := lt_of_block h1
    omega
end Sat
/-- The cells of bytes. -/
def bs (l : List UInt8) : List Value := l.map fun b => .int .u8 b.toNat
theorem bs_one (l : List UInt8) : ∀ u ∈ bs l, u.oneCell' = true := by
  intro u hu
  obtain ⟨x, _, rfl⟩ := List.mem_map.1 hu
  rfl
@[simp] theorem bs_length (l : List UInt8) : (bs l).length = l.length := by simp [bs]
theorem bs_get {l : List UInt8} {j : Nat} (h : j < l.length) : (bs l)[j]? = some (.int .u8 (l[j].toNat : Int)) := by simp [bs, h]
theorem bs_append (a b : List UInt8) : bs (a ++ b) = bs a ++ bs b := by simp [bs]
/-- A slice of integers that came in, as a row of the pool's. -/
theorem pr_ints {k : IntKind} {w : World} {a : Option Addr} {len cap : Nat} {zs : List Int}
    (h : (a = none ∧ len = 0 ∧ cap = 0 ∧ zs = []) ∨ ∃ x, a = some x ∧ len ≤ cap ∧ cap ≤ maxLen ∧ zs.length = cap ∧ (∀ i, i < zs.length → w.cell? (x.add i) = some (.int k (zs.getD i 0))) ∧ ∀ n ∈ zs, (Lit.int k n).wf = true) :
    Pr 1 (fun b => w.heap[b]?) (.slice a len cap) len ((zs.take len).map (Value.int k)) ∧ len ≤ zs.length ∧ ∀ n ∈ zs, (Lit.int k n).wf = true := by
  rcases h with ⟨rfl, rfl, rfl, rfl⟩ | ⟨x, rfl, hl, hm, hz, hc, hwf⟩
  · exact ⟨Pr.nil, Nat.le_refl _, fun n h => by cases h⟩
  · refine ⟨⟨by simp [hz, hl], _, cap, rfl, hl, hm, fun e => by simp at e, ?_⟩, by omega, hwf⟩
    rcases Nat.eq_zero_or_pos len with h0 | h0
    · exact .inl h0
    · obtain ⟨b, o, sp⟩ := x
      have c0 := hc 0 (by omega)
      simp only [Addr.add, if_true] at c0
      have hsp : sp = none := by simpa using World.cell?_spot c0
      subst hsp
      unfold World.cell? at c0
      simp only at c0
      cases hb : w.heap[b]? with
      | none => rw [hb] at c0; simp at c0
      | some ob =>
        cases ob with
        | cells cur e fz =>
          refine .inr ⟨b, o, cur, e, fz, rfl, hb, ?_⟩
          apply List.ext_getElem?
          intro j
          rw [List.getElem?_take, Nat.mul_one]
          by_cases hj : j < len
          · rw [if_pos hj]
            have cj := hc j (by omega)
            rw [Addr.add_lit] at cj
            simp only [World.cell?, hb] at cj
            simp at cj
            rw [List.getElem?_drop, Array.getElem?_toList, cj]
            have hjz : j < zs.length := by omega
            rw [List.getElem?_map, List.getElem?_take]
            simp [hj, hjz]
          · rw [if_neg hj, List.getElem?_eq_none (by simp; omega)]
        | _ => rw [hb] at c0; simp at c0
/-- Bytes that came in. -/
theorem pr_bytes {w : World} {a : Option Addr} {len cap : Nat} {zs : List Int}
    (h : (a = none ∧ len = 0 ∧ cap = 0 ∧ zs = []) ∨ ∃ x, a = some x ∧ len ≤ cap ∧ cap ≤ maxLen ∧ zs.length = cap ∧ (∀ i, i < zs.length → w.cell? (x.add i) = some (.int .u8 (zs.getD i 0))) ∧ ∀ n ∈ zs, (Lit.int .u8 n).wf = true) :
    ∃ l : List UInt8, l.length = len ∧ Pr 1 (fun b => w.heap[b]?) (.slice a len cap) len (bs l) := by
  obtain ⟨h1, h2, h3⟩ := pr_ints h
  refine ⟨(zs.take len).map fun n => UInt8.ofNat n.toNat, by simp [h2], ?_⟩
  have e : bs ((zs.take len).map fun n => UInt8.ofNat n.toNat) = (zs.take len).map (Value.int .u8) := by
    unfold bs
    rw [List.map_map]
    refine List.map_congr_left fun n hn => ?_
    have := h3 n (List.mem_of_mem_take hn)
    simp [Lit.wf, IntKind.min, IntKind.max, IntKind.signed, IntKind.bits] at this
    simp
    omega
  rw [e]
  exact h1
/-- string(b). -/
theorem run_string {P : Program} {w : World} {src dst e : TypeId} (hs : P.underlying src = some (.slice e)) (he : P.underlying e = some (.int .u8)) (hd : P.underlying dst = some .string)
    {D : Nat → Prop} {v : Value} {n : Nat} {l : List UInt8} (h : Row 1 w D v n (bs l)) : (convert src dst v).run P w = .ok (.string ⟨l.toArray⟩) w := by
  rcases h.news with ⟨rfl, rfl, e0⟩ | ⟨a, c, rfl, hl, hc⟩
  · have : l = [] := by simpa [bs] using e0
    subst this
    simp [convert, run_underlying hs, run_underlying hd, run_underlying he, Conv.bytesToString]
    rfl
  · obtain rfl : l.length = n := by simpa using hl
    exact run_convert_bytes_back w src dst e a c l hs he hd fun j hj => hc j _ (bs_get hj)
section
variable {Pg : Program} {W w : World} {g : Hl} {H : List HP} {t e : TypeId} {z : Value} {size bytes : Nat}
/-- append onto a full row that is only read: a new one. -/
theorem app_full {ops : Array Oper} {rest : List Oper} {o : Oper} {a : Act} {Q : Exit → Act → World → Prop} (hgd : o.guard = none) (s x : Operand)
    (he : ElemOf Pg t e z size bytes) (ho : o.op = .call { callee := .builtin .append, args := #[s, x], argTypes := #[t, t] }) {u : Value} {b : Addr} {n m : Nat} {olds news : List Value} (hs : a.eval s = .slice (some b) n n) (hx : a.eval x = u)
    (hsat : Sat W w g H) (hlo : olds.length = n * size) (holds : ∀ j u, olds[j]? = some u → w.cell? (b.add j) = some u)
    {D : Nat → Prop} (hrow : Row size w D u m news) (h1 : ∀ x ∈ news, x.oneCell' = true) (hm : 0 < m) (h63 : n + m ≤ maxLen) (hbytes : (n + m) * bytes ≤ 140737488355328)
    (h : ∀ v' w', Sat W w' g (own e size v' (n + m) (olds ++ news) :: H) → wpList Pg ops Q rest (a.put o.dst v') w') : wpList Pg ops Q (o :: rest) a w := by
  obtain ⟨ht, ⟨i, hi, hz, hs', hb⟩, hzs, hsz⟩ := he
  rcases hrow.news with ⟨rfl, rfl, _⟩ | ⟨a', c', rfl, hl, hc⟩
  · omega
  · refine wpList_append_grows w hgd s x t ho e i z size bytes ht hi hz hs' hb hzs hsz (some b) n n olds hs (fun h => by cases h) hlo (fun b' hb' => by cases hb'; exact holds) a' m c' news hx hl hc h1 (by omega) h63 hbytes ?_
    intro v' w' hown hgr
    exact h v' w' (hsat.newOwn hown ⟨hgr.os, hgr.tape, hgr.output, hgr.size, fun k hk => hgr.block k hk (by simp)⟩)
end
end Go.Proofs.YtfhmamkafancbaaGreatDoor
