/-
  slices.IndexFunc and slices.DeleteFunc over names, whatever is deleted.
-/
import Derived.Test.YtdkbpcibmipelaaGreatDoorM03
import Derived.Test.YtdkbpcibmipelaaGreatDoorM12
import Derived.Test.YtdkbpcibmipelaaGreatDoorM01
import Derived.Sort.KeysCollected
import Derived.Maps.Own
import Derived.Laws.Slices
import Derived.Shelf.SlIter.Nil
import Derived.Shelf.SortM.Plain
import Derived.Shelf.SortM.SortNone
import Derived.Test.YtdkbpcibmipelaaGreatDoorProg
import Derived.Test.YtdkbpcibmipelaaGreatDoorM04
import Derived.Test.YtdkbpcibmipelaaGreatDoorM10
namespace Go.Proofs.YtdkbpcibmipelaaGreatDoor
open Go.RowKit
set_option linter.unusedVariables false
set_option linter.unusedSimpArgs false

theorem el_strs : ElemOf Tryz.prog 74 9 (.string ⟨#[]⟩) 1 16 := .of Tryz.underlying74 (by kernel_rfl) rfl (by decide)
/-- What a function's value says of a name. -/
structure Says (fid : FuncId) (caps : List Value) (K : HP) (del : List UInt8 → Bool) : Prop where
  body : ∃ fn cd, Tryz.prog.funcs[fid]? = some fn ∧ fn.body = some cd ∧ (fn.name == "runtime.NumGoroutine") = false
  says : ∀ {R : Ending → World → Prop} {W w : World} {g : Hl} {H : List HP} {x : List UInt8}, x.length ≤ 1000000000 → Sat W w g (K :: H) → R (.returned (.bool (del x))) w → Calls Tryz.prog fid (str x :: caps).toArray w R

set_option maxHeartbeats 1600000 in
set_option maxRecDepth 100000 in
theorem index_gen {R : Ending → World → Prop} {W w : World} {g : Hl} {H : List HP} {n c : Nat} {a : Option Addr} {ls : List (List UInt8)} {fid : FuncId} {caps : List Value} {K : HP} {del : List UInt8 → Bool} (hd : Says fid caps K del) (hs : Sat W w g (own 9 1 (.slice a n c) n (ls.map str) :: K :: H)) (hn : ls.length = n) (hl : ∀ x ∈ ls, x.length ≤ 1000000000)
    (hN : (∀ x ∈ ls, del x = false) → ∀ w', Sat W w' g (own 9 1 (.slice a n c) n (ls.map str) :: K :: H) → R (.returned (.int .i64 (-1))) w')
    (hK : ∀ k (h : k < ls.length), (∀ x ∈ ls.take k, del x = false) → del ls[k] = true → ∀ w', Sat W w' g (own 9 1 (.slice a n c) n (ls.map str) :: K :: H) → R (.returned (.int .i64 k)) w') :
    Calls Tryz.prog 180 #[.slice a n c, .func (.func fid) #[] caps.toArray] w R := by
  have HN := Lib.hid hN
  have HK := Lib.hid hK
  clear hN hK
  obtain ⟨fn, cd, hf1, hf2, hf3⟩ := hd.body
  have hf2 := Lib.hid hf2
  obtain ⟨_, _, e0, hnc, hcm, _⟩ := hs.ownLen
  simp only [Value.slice.injEq] at e0
  obtain ⟨-, -, rfl⟩ := e0
  refine C.calls (args := [.slice a n c, .func (.func fid) #[] caps.toArray]) Tryz.func180 rfl rfl rfl ?_
  refine gob ?_
  refine C.cutQ (fun _ : Unit => []) (fun _ w => (∀ x ∈ ls, del x = false) ∧ Sat W w g (own 9 1 (.slice a n c) n (ls.map str) :: K :: H)) ?_ ?_
  · refine C.block ?_
    refine C.lp (fun i : Nat => [(0, .slice a n c), (1, .func (.func fid) #[] caps.toArray), (7, .int .i64 n), (8, .int .i64 i)]) (fun gk i w => gk = n - i ∧ i ≤ n ∧ (∀ x ∈ ls.take i, del x = false) ∧ Sat W w g (own 9 1 (.slice a n c) n (ls.map str) :: K :: H)) n 0 ⟨rfl, Nat.zero_le _, (fun x hx => by cases hx), hs⟩ ?_
    clear hs
    rintro gk i w1 ⟨rfl, hi, hall, hs⟩
    refine go ?_
    refine C.cond_dec (p := (i : Int) < n) rfl (fun hlt => ?_) (fun hlt => ?_)
    rotate_left
    · refine go ?_
      refine A.mt () ⟨fun x hx => hall x ?_, hs⟩
      rw [List.take_of_length_le (by omega)]
      exact hx
    · have hil : i < ls.length := by omega
      have h1 := hl ls[i] (List.getElem_mem hil)
      refine go ?_
      refine E.ixr el_strs (Row.of_owns (D := fun _ => True) hs.owns (fun _ _ => trivial)) i (v := str ls[i]) (by simp [hil]) ?_
      intro b2 o2 hc2
      refine go ?_
      refine E.callv hf1 rfl rfl (as' := str ls[i] :: caps) (by simp) ?_ (hb := hf2.out) (hnm := hf3)
      refine hd.says h1 hs.swap ?_
      cases hdl : del ls[i] with
      | false =>
        refine go ?_
        refine A.rd (n - (i + 1)) (i + 1) ⟨rfl, by omega, ?_, hs⟩
        intro x hx
        rw [List.take_add_one, List.getElem?_eq_getElem hil] at hx
        rcases List.mem_append.1 hx with h | h
        · exact hall x h
        · simp only [Option.toList_some, List.mem_singleton] at h
          rw [h]; exact hdl
      | true =>
        refine go ?_
        refine A.r1 ?_
        exact HK.out i hil hall hdl _ hs
  clear hs
  rintro _ w2 ⟨hall, hs⟩
  refine go ?_
  refine A.r1 ?_
  exact HN.out hall _ hs

section
variable {P : Program} {W w w' : World} {g g' : Hl} {H H' : List HP} {t e ty : TypeId} {z : Value} {size bytes : Nat} {n : Fm} {ρ : List (Nat × Value)} {Q : Exit → Act → World → Prop} {ops : Array Oper} {rest : List Oper} {d : Option Tmp} {ps : String} {af : Array Edge} {x y : Operand} {N : List (Nat × Value) → World → Prop}
/-- An own row, opened as a block; and closed with fewer elements. -/
theorem Sat.ownOpen {b k c : Nat} {xs : List Value} (hs : Sat W w g (own e size (.slice (some ⟨b, 0, none⟩) k c) k xs :: H)) : ∃ cur, cur.length = c * size ∧ cur.take (k * size) = xs ∧ k ≤ c ∧ c ≤ maxLen ∧ Sat W w g (blk b cur e :: H) := by
  obtain ⟨q1, q2, q3, h, ⟨x1, x2, d, ed, ⟨_, hp⟩, s⟩, dg, ag⟩ := hs
  rcases hp with ⟨e1, _⟩ | ⟨b', cap, cur, e1, h1, h2, hcs, htk, rfl⟩
  · cases e1
  · simp only [Value.slice.injEq, Option.some.injEq, Addr.mk.injEq] at e1
    obtain ⟨⟨rfl, -⟩, -, rfl⟩ := e1
    exact ⟨cur.toList, by simpa using hcs, htk, h1, h2, q1, q2, q3, h, ⟨_, x2, d, ed, by simp [blk, obj], s⟩, dg, ag⟩
theorem Sat.ownClose {b k c : Nat} {cur : List Value} (hs : Sat W w g (blk b cur e :: H)) (hl : cur.length = c * size) (hk : k ≤ c) (hc : c ≤ maxLen) : Sat W w g (own e size (.slice (some ⟨b, 0, none⟩) k c) k (cur.take (k * size)) :: H) := hs.conv fun h he => ⟨by
  have := Nat.mul_le_mul_right size hk
  rw [List.length_take]; omega, .inr ⟨b, c, cur.toArray, rfl, hk, hc, by simpa using hl, by simp, he⟩⟩
/-- clear(s[k:]) behind an own row's elements. -/
theorem E.clr {b k c m c' : Nat} {xs : List Value} (he : ElemOf P t e z size bytes) (hs : Sat W w g (own e size (.slice (some ⟨b, 0, none⟩) k c) k xs :: H)) (hm : k + m ≤ c) (hzc : ∀ u ∈ z.cells.toList, u.oneCell' = true)
    (h : ∀ w', Sat W w' g (own e size (.slice (some ⟨b, 0, none⟩) k c) k xs :: H) → E P n ops rest (pushv d (.tuple #[]) ρ) w' Q) (hx : evo n ρ x = some (.slice (some ⟨b, k * size, none⟩) m c')) :
    E P n ops (⟨d, .call ⟨.builtin .clear, #[x], #[t]⟩, ty, ps, af, none⟩ :: rest) ρ w Q := by
  obtain ⟨w', hr, h2, h3⟩ := run_clear_tail (P := P) he ty hs.owns (m := m) (c := c') hm hzc
  refine E.cons (St.val (v := .tuple #[]) (w' := w') (fun ac ha => ?_) (h w' (hs.turn h2 h3 (.inl rfl))))
  simp only [execOp, resolve, invoke, builtin, Sem.run_bind, Sem.run_pure, Result.andThen_ok, List.map_toArray, List.map_cons, List.map_nil, ha.eval hx, hr]
end
theorem filter_none {p : List UInt8 → Bool} {ls : List (List UInt8)} (h : ∀ x ∈ ls, p x = false) : ls.filter (fun x => !p x) = ls := by
  rw [List.filter_eq_self]
  intro x hx
  simp [h x hx]

set_option maxHeartbeats 3200000 in
set_option maxRecDepth 100000 in
theorem delete_gen {R : Ending → World → Prop} {W w : World} {g : Hl} {H : List HP} {n c : Nat} {a : Option Addr} {ls : List (List UInt8)} {fid : FuncId} {caps : List Value} {K : HP} {del : List UInt8 → Bool} (hd : Says fid caps K del) (hs : Sat W w g (own 9 1 (.slice a n c) n (ls.map str) :: K :: H)) (hn : ls.length = n) (hl : ∀ x ∈ ls, x.length ≤ 1000000000)
    (hR : ∀ k a' c' w' g', k = (ls.filter (fun x => !del x)).length → Hl.le g g' → Pr 1 g' (.slice a' k c') k ((ls.filter (fun x => !del x)).map str) → Sat W w' g' (K :: H) → R (.returned (.slice a' k c')) w') :
    Calls Tryz.prog 109 #[.slice a n c, .func (.func fid) #[] caps.toArray] w R := by
  have HR := Lib.hid hR
  clear hR
  obtain ⟨fn, cd, hf1, hf2, hf3⟩ := hd.body
  have hf2 := Lib.hid hf2
  obtain ⟨_, _, e0, hnc, hcm, _⟩ := hs.ownLen
  simp only [Value.slice.injEq] at e0
  obtain ⟨-, -, rfl⟩ := e0
  refine C.calls (args := [.slice a n c, .func (.func fid) #[] caps.toArray]) Tryz.func109 rfl rfl rfl ?_
  refine go ?_
  refine E.callf Tryz.func180 rfl ?_
  refine index_gen hd hs hn hl ?_ ?_
  · intro hall w1 hs
    refine go ?_
    refine A.r1 ?_
    obtain ⟨g', hg', hp, hs⟩ := hs.publishOwn
    refine HR.out n a c _ g' (by rw [filter_none hall, hn]) hg' (by rw [filter_none hall]; exact hp) hs
  intro i hil hall hdl w1 hs
  have hne : decide ((i : Int) = -1) = false := decide_eq_false (by omega)
  refine gob ?_
  obtain ⟨b, rfl⟩ : ∃ b, a = some ⟨b, 0, none⟩ := hs.ownAt (by omega)
  obtain ⟨cur, hcl, htk, -, hcm2, hs⟩ := hs.ownOpen
  rw [Nat.mul_one] at hcl htk
  have hdn := Lib.hid hd
  refine C.cutQ (fun q : Nat => [(0, .slice (some ⟨b, 0, none⟩) n c), (5, .int .i64 q)]) (fun q w => ∃ cur, cur.length = c ∧ q < n ∧ cur.take q = (ls.filter fun x => !del x).map str ∧ q = (ls.filter fun x => !del x).length ∧ Sat W w g (blk b cur 9 :: K :: H)) ?_ ?_
  · refine C.block ?_
    refine C.lp (fun q : Nat × Nat => [(0, .slice (some ⟨b, 0, none⟩) n c), (1, .func (.func fid) #[] caps.toArray), (5, .int .i64 q.1), (6, .int .i64 q.2)])
      (fun gk q w => gk = n - q.2 ∧ q.1 < q.2 ∧ q.2 ≤ n ∧ ∃ cur, cur.length = c ∧ cur.take q.1 = ((ls.take q.2).filter fun x => !del x).map str ∧ q.1 = ((ls.take q.2).filter fun x => !del x).length ∧ (∀ j, q.2 ≤ j → (h : j < ls.length) → cur[j]? = some (str ls[j])) ∧ Sat W w g (blk b cur 9 :: K :: H)) (n - (i + 1)) (i, i + 1) ⟨rfl, by simp only; omega, by simp only; omega, cur, hcl, ?_, ?_, ?_, hs⟩ ?_
    · rw [List.take_add_one, List.getElem?_eq_getElem hil]
      simp only [Option.toList_some, List.filter_append, filter_none hall, List.filter_cons, hdl, Bool.not_true, Bool.false_eq_true, if_false, List.filter_nil, List.append_nil]
      have := congrArg (List.take i) htk
      rw [List.take_take, Nat.min_eq_left (by omega), ← List.map_take] at this
      exact this
    · rw [List.take_add_one, List.getElem?_eq_getElem hil]
      simp only [Option.toList_some, List.filter_append, filter_none hall, List.filter_cons, hdl, Bool.not_true, Bool.false_eq_true, if_false, List.filter_nil, List.append_nil, List.length_take]
      omega
    · intro j hj hjl
      have : (cur.take n)[j]? = some (str ls[j]) := by rw [htk, List.getElem?_map, List.getElem?_eq_getElem hjl]; rfl
      rwa [List.getElem?_take, if_pos (by omega)] at this
    clear hs htk hcl cur
    rintro gk ⟨i2, j⟩ w2 ⟨rfl, hij, hj, cur, hcl, htk, hi2, hrest, hs⟩
    simp only at hij hj htk hi2 hrest ⊢
    have hi3 := hi2
    have Hi2 := Lib.hid hi2
    clear hi2 hi3
    refine go ?_
    refine C.cond_dec (p := (j : Int) < n) rfl (fun hlt => ?_) (fun hlt => ?_)
    rotate_left
    · refine go ?_
      have e : ls.take j = ls := List.take_of_length_le (by omega)
      rw [e] at htk Hi2
      exact A.mt i2 ⟨cur, hcl, by omega, htk, Hi2.out, hs⟩
    have hjl : j < ls.length := by omega
    have h1 := hl ls[j] (List.getElem_mem hjl)
    have hr1 := hrest j (Nat.le_refl _) hjl
    refine go ?_
    refine E.ld hs ?_ (hj := hr1)
    refine go ?_
    refine E.callv hf1 rfl rfl (as' := str ls[j] :: caps) (by simp) ?_ (hb := hf2.out) (hnm := hf3)
    refine hdn.out.says h1 hs.swap ?_
    have hsucc : ls.take (j + 1) = ls.take j ++ [ls[j]] := by
      rw [List.take_add_one, List.getElem?_eq_getElem hjl]; rfl
    cases hd2 : del ls[j] with
    | true =>
      refine go ?_
      refine A.rd (n - (j + 1)) (i2, j + 1) ⟨rfl, by simp only; omega, by simp only; omega, cur, hcl, ?_, ?_, fun k hk hkl => hrest k (by simp only at hk; omega) hkl, hs⟩
      · simp only [hsucc, List.filter_append, List.filter_cons, hd2, Bool.not_true, Bool.false_eq_true, if_false, List.filter_nil, List.append_nil]
        exact htk
      · simp only [hsucc, List.filter_append, List.filter_cons, hd2, Bool.not_true, Bool.false_eq_true, if_false, List.filter_nil, List.append_nil]
        exact Hi2.out
    | false =>
      have hi2n : i2 < n := by omega
      refine go ?_
      refine E.sto (b := b) (j := i2) (v := str ls[j]) (vs := [str ls[j]]) (ys := cur.set i2 (str ls[j])) hs ?_ (hv := rfl) (hsp := rfl) (hj := by simp only [List.length_singleton, Nat.ble_eq]; omega)
      intro w3 hs
      refine go ?_
      refine A.rd (n - (j + 1)) (i2 + 1, j + 1) ⟨rfl, by simp only; omega, by simp only; omega, cur.set i2 (str ls[j]), by rw [List.length_set]; exact hcl, ?_, ?_, fun k hk hkl => ?_, hs⟩
      · simp only [hsucc, List.filter_append, List.filter_cons, hd2, Bool.not_false, if_true, List.filter_nil, List.map_append, List.map_cons, List.map_nil]
        rw [List.take_add_one, List.getElem?_set_self (by omega), List.take_set_of_le (Nat.le_refl _), htk]
        rfl
      · simp only [hsucc, List.filter_append, List.filter_cons, hd2, Bool.not_false, if_true, List.filter_nil, List.length_append, List.length_singleton]
        have := Hi2.out
        omega
      · simp only at hk
        rw [List.getElem?_set_ne (by omega)]
        exact hrest k (by omega) hkl
  clear hs htk hcl cur
  rintro q w4 ⟨cur, hcl, hq, htk, hql, hs⟩
  have hs := hs.ownClose (size := 1) (k := q) (c := c) (by omega) (by omega) hcm2
  rw [Nat.mul_one, htk] at hs
  have Hql := Lib.hid hql
  clear hql htk
  have hr := fun w => run_slice_any (P := Tryz.prog) (a := some ⟨b, 0, none⟩) (vl := some (.int .i64 q)) (vh := none) (vm := none) (l := q) (h := n) (m := c) el_strs (.inr ⟨_, _, rfl, rfl⟩) (.inl ⟨rfl, rfl⟩) (.inl ⟨rfl, rfl⟩) hnc (by omega) hnc (Nat.le_refl _) (fun _ => hnc) w
  rw [if_neg (by omega)] at hr
  have hr2 := fun w => run_slice_any (P := Tryz.prog) (a := some ⟨b, 0, none⟩) (vl := none) (vh := some (.int .i64 q)) (vm := none) (l := 0) (h := q) (m := c) el_strs (.inl ⟨rfl, rfl⟩) (.inr ⟨_, _, rfl, rfl⟩) (.inl ⟨rfl, rfl⟩) hnc (by omega) (by omega) (Nat.le_refl _) (fun h => by cases h) w
  refine go ?_
  refine E.pv (v := .slice (some ⟨b, q * 1, none⟩) (n - q) (c - q)) (Pv.slice (l := some (.int .i64 q)) (h := none) (m := none) rfl rfl rfl rfl (fun w => by rw [hr w]; simp [Addr.add]; omega)) ?_
  refine E.clr el_strs hs (m := n - q) (by omega) (by simp [Value.cells, Value.oneCell']) ?_ rfl
  intro w5 hs
  refine go ?_
  refine E.pv (v := .slice (some ⟨b, 0, none⟩) q c) (Pv.slice (l := none) (h := some (.int .i64 q)) (m := none) rfl rfl rfl rfl (fun w => by
    rw [hr2 w]
    simp only [Nat.sub_zero, Nat.zero_mul]
    split <;> simp [Addr.add] <;> omega)) ?_
  refine go ?_
  refine A.r1 ?_
  obtain ⟨g', hg', hp, hs⟩ := hs.publishOwn
  exact HR.out q _ c _ g' Hql.out hg' hp hs
end Go.Proofs.YtdkbpcibmipelaaGreatDoor

/-
  A map that a call owns, as the kit's maps read it; names, rising.
-/
namespace Go.Proofs.YtdkbpcibmipelaaGreatDoor
open Go.RowKit Go.Maps Go.Sort Go.WideElems Go.ChangeShapes Go.WideShapes Go.MapKept Go.ChangeMaps
set_option linter.unusedVariables false
set_option linter.unusedSimpArgs false

/-- A string's bytes. -/
def bytesOf : Value → List UInt8
  | .string s => s.data.toList
  | _ => []
theorem bytesOf_str (l : List UInt8) : bytesOf (str l) = l := by simp [bytesOf, str]

theorem mp_owns {P : Program} {k : TypeId} {W w : World} {g : Hl} {H : List HP} {mb : Nat} {l : List (List UInt8 × Value)} (hkt : P.underlying k = some .string) (hs : Sat W w g (mp str mb l :: H)) (hn : (l.map Prod.fst).Nodup) (hlen : l.length ≤ maxLen) (hk : ∀ p ∈ l, p.1.length ≤ maxLen) :
    ∃ D : DataW Unit, w.ownsMap P k (fun _ => some (.nil, [])) mb l.length D ∧ (strKeys D).Perm (l.map Prod.fst) ∧ Maps.size D = l.length := by
  obtain ⟨es, clock, he, ho⟩ := mp_open hs
  have hb := ho.heap
  have hes : es.size = l.length := by
    have := congrArg List.length he.1
    simpa using this
  have hkey : ∀ x ∈ es.toList, ∃ p ∈ l, x.key = str p.1 := by
    intro x hx
    have h1 : entOf x ∈ es.toList.map entOf := List.mem_map_of_mem hx
    rw [he.1] at h1
    obtain ⟨p, hp, e⟩ := List.mem_map.1 h1
    exact ⟨p, hp, by have := congrArg Prod.fst e; simpa [entOf] using this.symm⟩
  have hrd : ∀ x ∈ es.toList, WideElems.rd (H := Unit) P k (fun _ => some (.nil, [])) x = some (.string (bytesOf x.key), .nil) := by
    intro x hx
    obtain ⟨p, hp, e⟩ := hkey x hx
    have h1 := hk p hp
    simp [WideElems.rd, e, str, keyOf, hkt, mapKey, ByteArray.size, bytesOf, h1]
  have hkeys : es.toList.map (fun x => bytesOf x.key) = l.map Prod.fst := by
    have h1 := congrArg (List.map fun q : Value × Value => bytesOf q.1) he.1
    rw [List.map_map, List.map_map] at h1
    have e1 : ((fun q : Value × Value => bytesOf q.1) ∘ entOf) = fun x : MapEntry => bytesOf x.key := rfl
    have e2 : ((fun q : Value × Value => bytesOf q.1) ∘ fun p : List UInt8 × Value => (str p.1, p.2)) = Prod.fst := by
      funext p
      exact bytesOf_str p.1
    rw [e1, e2] at h1
    exact h1
  have hst : Stamped es clock := by
    refine ⟨he.2.1, he.2.2, ?_⟩
    have h2 : ((es.toList.map (·.key)).map bytesOf).Nodup := by
      rw [List.map_map]
      have : (bytesOf ∘ fun x : MapEntry => x.key) = fun x => bytesOf x.key := rfl
      rw [this, hkeys]
      exact hn
    exact List.Pairwise.of_map bytesOf (fun a b hab e => hab (by rw [e])) h2
  refine ⟨_, ⟨es, clock, hb, ⟨by omega, hst, fun x hx => ⟨_, hrd x hx⟩⟩, by omega, rfl⟩, ?_, ?_⟩
  · have h3 := sorted_perm (es.toList.map (WideElems.rg (H := Unit) P k (fun _ => some (.nil, []))))
    have h4 := h3.map (fun p => strOf p.1)
    have h5 : (es.toList.map (WideElems.rg (H := Unit) P k (fun _ => some (.nil, [])))).map (fun p => strOf p.1) = l.map Prod.fst := by
      rw [List.map_map, ← hkeys]
      apply List.map_congr_left
      intro x hx
      simp [WideElems.rg, hrd x hx, strOf]
    rw [h5] at h4
    exact h4
  · have h3 := (sorted_perm (es.toList.map (WideElems.rg (H := Unit) P k (fun _ => some (.nil, []))))).length_eq
    simp only [Maps.size, h3, List.length_map, Array.length_toList, hes]
/-- Names, rising. -/
def rising (l : List (List UInt8)) : List (List UInt8) := l.mergeSort fun x y => decide (x ≤ y)
theorem rising_perm (l : List (List UInt8)) : (rising l).Perm l := List.mergeSort_perm _ _
end Go.Proofs.YtdkbpcibmipelaaGreatDoor

/-
  The kit's contracts on slices.Sorted(maps.Keys(m)), laid by lay.py at this seat (numbers are the seat's).
-/
namespace Go.Proofs.YtdkbpcibmipelaaGreatDoor
open Go.RowKit Go.Maps Go.Sort Go.Shelf

-- maps.Keys[map[string]*anabranch/disk.file,string,*anabranch/disk.file] (function 111; its iterator 183) · slices.Sorted[string] (110) · slices.Sort[[]string,string] (182) · the map's type 136, the keys' 9
def Tryz.keys111_ren : Go.Shelf.Ren := ⟨fun | 7 => 111 | 10 => 183 | n => n, fun | 23 => 136 | 26 => 9 | 3 => 143 | 28 => 172 | 0 => 0 | 27 => 171 | 33 => 163 | 4 => 4 | n => n, fun | n => n⟩
theorem Tryz.keys111 : Go.Proofs.SlLaysZ.n7 Tryz.prog Tryz.keys111_ren := {
  mixed := by kernel_rfl
  f7 := ⟨"maps.Keys[map[string]*anabranch/disk.file,string,*anabranch/disk.file]", by decide, Tryz.func111.trans (congrArg some (by kernel_rfl))⟩
  f10 := ⟨"maps.Keys[map[string]*anabranch/disk.file,string,*anabranch/disk.file]$1", by decide, Tryz.func183.trans (congrArg some (by kernel_rfl))⟩
  t0 := Tryz.underlying0
  a0 := Tryz.isAgg0
  z0 := Tryz.sizeOf0
  v0 := Tryz.zeroValue0
  t4 := Tryz.underlying4
  a4 := Tryz.isAgg4
  z4 := Tryz.sizeOf4
  v4 := Tryz.zeroValue4
  t23 := Tryz.underlying136
  a23 := Tryz.isAgg136
  z23 := Tryz.sizeOf136
  v23 := Tryz.zeroValue136
  t26 := Tryz.underlying9
  a26 := Tryz.isAgg9
  z26 := Tryz.sizeOf9
  v26 := Tryz.zeroValue9
  t27 := Tryz.underlying171
  a27 := Tryz.isAgg171
  z27 := Tryz.sizeOf171
  v27 := Tryz.zeroValue171
  t28 := Tryz.underlying172
  a28 := Tryz.isAgg172
  z28 := Tryz.sizeOf172
  v28 := Tryz.zeroValue172
  t33 := Tryz.underlying163
  a33 := Tryz.isAgg163
  z33 := Tryz.sizeOf163
  v33 := Tryz.zeroValue163 }


def Tryz.sorted110_ren : Go.Shelf.Ren := ⟨fun | 6 => 110 | 8 => 181 | 9 => 182 | 11 => 246 | 13 => 248 | 12 => 247 | 23 => 296 | 24 => 265 | 14 => 287 | 15 => 288 | 16 => 289 | 17 => 290 | 18 => 291 | 19 => 292 | 20 => 293 | 21 => 294 | 22 => 295 | 25 => 311 | 26 => 312 | 27 => 313 | 28 => 314 | 29 => 315 | 30 => 316 | 31 => 321 | n => n, fun | 26 => 9 | 28 => 172 | 24 => 74 | 0 => 0 | 3 => 3 | 37 => 160 | 48 => 158 | 50 => 22 | 4 => 4 | 40 => 341 | 39 => 340 | 45 => 175 | 5 => 5 | 9 => 9 | 51 => 360 | 55 => 363 | 57 => 376 | 58 => 115 | 33 => 163 | n => n, fun | n => n⟩
theorem Tryz.sorted110 : Go.Proofs.SlLaysZ.n6 Tryz.prog Tryz.sorted110_ren := {
  mixed := by kernel_rfl
  f6 := ⟨"slices.Sorted[string]", by decide, Tryz.func110.trans (congrArg some (by kernel_rfl))⟩
  f8 := ⟨"slices.Collect[string]", by decide, Tryz.func181.trans (congrArg some (by kernel_rfl))⟩
  f11 := ⟨"slices.AppendSeq[[]string,string]", by decide, Tryz.func246.trans (congrArg some (by kernel_rfl))⟩
  t0 := Tryz.underlying0
  a0 := Tryz.isAgg0
  z0 := Tryz.sizeOf0
  v0 := Tryz.zeroValue0
  t24 := Tryz.underlying74
  a24 := Tryz.isAgg74
  z24 := Tryz.sizeOf74
  v24 := Tryz.zeroValue74
  t26 := Tryz.underlying9
  a26 := Tryz.isAgg9
  z26 := Tryz.sizeOf9
  v26 := Tryz.zeroValue9
  t28 := Tryz.underlying172
  a28 := Tryz.isAgg172
  z28 := Tryz.sizeOf172
  v28 := Tryz.zeroValue172
  i26 := by kernel_rfl }


def Tryz.sort182_ren : Go.Shelf.Ren := ⟨fun | 6 => 182 | 8 => 248 | 9 => 247 | 19 => 296 | 20 => 265 | 21 => 287 | 22 => 288 | 23 => 289 | 24 => 290 | 25 => 291 | 26 => 292 | 27 => 293 | 28 => 294 | 29 => 295 | 36 => 311 | 31 => 312 | 32 => 313 | 37 => 314 | 38 => 315 | 39 => 316 | 41 => 321 | n => n, fun | 27 => 74 | 29 => 9 | 3 => 3 | 32 => 160 | 26 => 74 | 0 => 0 | 44 => 158 | 46 => 22 | 4 => 4 | 36 => 341 | 35 => 340 | 41 => 175 | 5 => 5 | 9 => 9 | 53 => 360 | 57 => 363 | 63 => 376 | 64 => 115 | n => n, fun | n => n⟩
theorem Tryz.sort182 : Go.Proofs.SlLaysM.n6 Tryz.prog Tryz.sort182_ren := {
  mixed := by kernel_rfl
  f6 := ⟨"slices.Sort[[]string,string]", by decide, Tryz.func182.trans (congrArg some (by kernel_rfl))⟩
  f8 := Tryz.func248.trans (congrArg some (by kernel_rfl))
  f9 := ⟨"slices.pdqsortOrdered[string]", by decide, Tryz.func247.trans (congrArg some (by kernel_rfl))⟩
  f19 := Tryz.func296.trans (congrArg some (by kernel_rfl))
  f20 := Tryz.func265.trans (congrArg some (by kernel_rfl))
  f21 := ⟨"slices.insertionSortOrdered[string]", by decide, Tryz.func287.trans (congrArg some (by kernel_rfl))⟩
  f22 := ⟨"slices.heapSortOrdered[string]", by decide, Tryz.func288.trans (congrArg some (by kernel_rfl))⟩
  f23 := ⟨"slices.breakPatternsOrdered[string]", by decide, Tryz.func289.trans (congrArg some (by kernel_rfl))⟩
  f24 := ⟨"slices.choosePivotOrdered[string]", by decide, Tryz.func290.trans (congrArg some (by kernel_rfl))⟩
  f25 := ⟨"slices.reverseRangeOrdered[string]", by decide, Tryz.func291.trans (congrArg some (by kernel_rfl))⟩
  f26 := ⟨"slices.partialInsertionSortOrdered[string]", by decide, Tryz.func292.trans (congrArg some (by kernel_rfl))⟩
  f27 := ⟨"cmp.Less[string]", by decide, Tryz.func293.trans (congrArg some (by kernel_rfl))⟩
  f28 := ⟨"slices.partitionEqualOrdered[string]", by decide, Tryz.func294.trans (congrArg some (by kernel_rfl))⟩
  f29 := ⟨"slices.partitionOrdered[string]", by decide, Tryz.func295.trans (congrArg some (by kernel_rfl))⟩
  f31 := Tryz.func312.trans (congrArg some (by kernel_rfl))
  f32 := Tryz.func313.trans (congrArg some (by kernel_rfl))
  f36 := ⟨"slices.siftDownOrdered[string]", by decide, Tryz.func311.trans (congrArg some (by kernel_rfl))⟩
  f37 := ⟨"slices.medianAdjacentOrdered[string]", by decide, Tryz.func314.trans (congrArg some (by kernel_rfl))⟩
  f38 := ⟨"slices.medianOrdered[string]", by decide, Tryz.func315.trans (congrArg some (by kernel_rfl))⟩
  f39 := ⟨"cmp.isNaN[string]", by decide, Tryz.func316.trans (congrArg some (by kernel_rfl))⟩
  f41 := ⟨"slices.order2Ordered[string]", by decide, Tryz.func321.trans (congrArg some (by kernel_rfl))⟩
  t0 := Tryz.underlying0
  a0 := Tryz.isAgg0
  z0 := Tryz.sizeOf0
  v0 := Tryz.zeroValue0
  t3 := Tryz.underlying3
  a3 := Tryz.isAgg3
  z3 := Tryz.sizeOf3
  v3 := Tryz.zeroValue3
  t4 := Tryz.underlying4
  a4 := Tryz.isAgg4
  z4 := Tryz.sizeOf4
  v4 := Tryz.zeroValue4
  t5 := Tryz.underlying5
  a5 := Tryz.isAgg5
  z5 := Tryz.sizeOf5
  v5 := Tryz.zeroValue5
  t9 := Tryz.underlying9
  a9 := Tryz.isAgg9
  z9 := Tryz.sizeOf9
  v9 := Tryz.zeroValue9
  t26 := Tryz.underlying74
  a26 := Tryz.isAgg74
  z26 := Tryz.sizeOf74
  v26 := Tryz.zeroValue74
  t27 := Tryz.underlying74
  a27 := Tryz.isAgg74
  z27 := Tryz.sizeOf74
  v27 := Tryz.zeroValue74
  t29 := Tryz.underlying9
  a29 := Tryz.isAgg9
  z29 := Tryz.sizeOf9
  v29 := Tryz.zeroValue9
  t32 := Tryz.underlying160
  a32 := Tryz.isAgg160
  z32 := Tryz.sizeOf160
  v32 := Tryz.zeroValue160
  t35 := Tryz.underlying340
  a35 := Tryz.isAgg340
  z35 := Tryz.sizeOf340
  v35 := Tryz.zeroValue340
  t36 := Tryz.underlying341
  a36 := Tryz.isAgg341
  z36 := Tryz.sizeOf341
  v36 := Tryz.zeroValue341
  t41 := Tryz.underlying175
  a41 := Tryz.isAgg175
  z41 := Tryz.sizeOf175
  v41 := Tryz.zeroValue175
  t44 := Tryz.underlying158
  a44 := Tryz.isAgg158
  z44 := Tryz.sizeOf158
  v44 := Tryz.zeroValue158
  t46 := Tryz.underlying22
  a46 := Tryz.isAgg22
  z46 := Tryz.sizeOf22
  v46 := Tryz.zeroValue22
  t53 := Tryz.underlying360
  a53 := Tryz.isAgg360
  z53 := Tryz.sizeOf360
  v53 := Tryz.zeroValue360
  t57 := Tryz.underlying363
  a57 := Tryz.isAgg363
  z57 := Tryz.sizeOf363
  v57 := Tryz.zeroValue363
  t63 := Tryz.underlying376
  a63 := Tryz.isAgg376
  z63 := Tryz.sizeOf376
  v63 := Tryz.zeroValue376
  t64 := Tryz.underlying115
  a64 := Tryz.isAgg115
  z64 := Tryz.sizeOf115
  v64 := Tryz.zeroValue115 }


/-- slices.Sort's two contracts at this dump, at the fence that asks nothing. -/
theorem Tryz.sorts110 (m : Nat) : AnyZ.SortsIn Tryz.prog Tryz.sorted110_ren Fence.wide m :=
  ⟨fun blk off cap ss W hH hblk hsz => callsIn_wide.2 (AnyM.slices_Sort_string Tryz.sort182 blk off cap ss W hH hblk hsz),
   fun p cap W => callsIn_wide.2 (AnyM.slices_Sort_string_none Tryz.sort182 p cap W)⟩

/-- **maps.Keys[map[string]*anabranch/disk.file,string,*anabranch/disk.file], at whatever map, the nil one too:** a function value over ONE NEW BLOCK, which holds the map. -/
theorem Tryz.maps_Keys_111 (mb : Option Nat) (W : World) : CallsIn Fence.wide 5 Tryz.prog 111 #[.map mb] W fun e w' => e = .returned (.func (.func 183) #[] #[.pointer (some ⟨W.heap.size, 0, none⟩)]) ∧ w' = W.alloc (.cells #[.map mb] 136) :=
  AnyZ.keys_in Tryz.keys111 Fence.wide 5 trivial rfl mb W

set_option maxHeartbeats 1000000 in
/-- **slices.Sorted[string] AT WHAT maps.Keys[map[string]*anabranch/disk.file,string,*anabranch/disk.file] HANDED BACK FOR A MAP THAT IS NOT nil** ('w': the world AHEAD of maps.Keys' call): A NEW SLICE THAT HOLDS THE MAP's KEYS, SORTED; nil just where it has none; nothing that lay before has turned. -/
theorem Tryz.slices_Sorted_keys_110_111 {H : Type} (b nn : Nat) (D0 : DataW H) (R : Value → Option (DataW H × List MemPlace)) (w : World) (hown : w.ownsMap Tryz.prog 9 R b nn D0) (hmax : Maps.size D0 ≤ maxLen) (hbytes : Maps.size D0 * 16 ≤ 140737488355328) :
    CallsIn Fence.wide 5 Tryz.prog 110 #[.func (.func 183) #[] #[.pointer (some ⟨w.heap.size, 0, none⟩)]] (w.alloc (.cells #[.map (some b)] 136)) fun e w' => ∃ (v : Value) (ss : List (List UInt8)), e = .returned v ∧ ss.Perm (strKeys D0) ∧
      w'.ownsRow (w.alloc (.cells #[.map (some b)] 136)).heap.size 9 1 v ss.length ((ss.mergeSort (fun x y => decide (x ≤ y))).map encStr) ∧ (v = .slice none 0 0 ↔ ss = []) ∧ Below (w.alloc (.cells #[.map (some b)] 136)).heap.size (w.alloc (.cells #[.map (some b)] 136)) w' := by
  have hbl := hown.lt
  have hseq : SeqGives Fence.wide 2 Tryz.prog 183 #[.pointer (some ⟨w.heap.size, 0, none⟩)] encStr (fun ss => ss.Perm (strKeys D0)) (Maps.size D0) (w.alloc (.cells #[.map (some b)] 136)) :=
    AnyZ.keys_gives (ρ := Tryz.keys111_ren) { Tryz.keys111 with } Fence.wide _ trivial rfl (by omega) w.heap.size b nn D0 _ (by simp) (by simp) (by
      obtain ⟨es, clock, hb, Ft, hs, hD⟩ := hown
      exact ⟨es, clock, (Below.heap_alloc _ _ b hbl).trans hb, Ft, hs, hD⟩)
  exact AnyZ.sorted_in Tryz.sorted110 Fence.wide 5 trivial trivial trivial trivial rfl (by omega) (Tryz.sorts110 _) (enters_of Tryz.func182 (by kernel_rfl) rfl) 183 #[.pointer (some ⟨w.heap.size, 0, none⟩)] trivial (enters_of Tryz.func183 (by kernel_rfl) rfl) _ _ hmax hbytes _ hseq

set_option maxHeartbeats 1000000 in
/-- **.. AND FOR THE nil MAP: nil.** -/
theorem Tryz.slices_Sorted_keys_nil_110_111 (w : World) :
    CallsIn Fence.wide 5 Tryz.prog 110 #[.func (.func 183) #[] #[.pointer (some ⟨w.heap.size, 0, none⟩)]] (w.alloc (.cells #[.map none] 136)) fun e w' => ∃ (v : Value) (ss : List (List UInt8)), e = .returned v ∧ ss = [] ∧
      w'.ownsRow (w.alloc (.cells #[.map none] 136)).heap.size 9 1 v ss.length ((ss.mergeSort (fun x y => decide (x ≤ y))).map encStr) ∧ (v = .slice none 0 0 ↔ ss = []) ∧ Below (w.alloc (.cells #[.map none] 136)).heap.size (w.alloc (.cells #[.map none] 136)) w' := by
  have hseq : SeqGives Fence.wide 2 Tryz.prog 183 #[.pointer (some ⟨w.heap.size, 0, none⟩)] encStr (fun ss : List (List UInt8) => ss = []) 0 (w.alloc (.cells #[.map none] 136)) :=
    AnyZ.keys_gives_nil (ρ := Tryz.keys111_ren) { Tryz.keys111 with } Fence.wide _ trivial rfl w.heap.size _ (by simp) (by simp)
  exact AnyZ.sorted_in Tryz.sorted110 Fence.wide 5 trivial trivial trivial trivial rfl (by omega) (Tryz.sorts110 _) (enters_of Tryz.func182 (by kernel_rfl) rfl) 183 #[.pointer (some ⟨w.heap.size, 0, none⟩)] trivial (enters_of Tryz.func183 (by kernel_rfl) rfl) _ 0 (Nat.zero_le _) (by omega) _ hseq

end Go.Proofs.YtdkbpcibmipelaaGreatDoor

/-
  Layer 4 (disk): Names: those that begin so, rising.
-/
namespace Go.Proofs.YtdkbpcibmipelaaGreatDoor
open Go.RowKit Go.Maps Go.Sort
set_option linter.unusedVariables false
set_option linter.unusedSimpArgs false

/-- Does a name begin so. -/
def hasP (p x : List UInt8) : Bool := decide (p.length ≤ x.length ∧ x.take p.length = p)
/-- The names of a disk that begin so, rising. -/
def Dk.names (d : Dk) (p : List UInt8) : List (List UInt8) := if d.off then [] else (rising (d.fs.map Prod.fst)).filter (hasP p)

set_option maxRecDepth 100000 in
theorem dkeys_call {R : Ending → World → Prop} {w : World} {mb : Nat} (hR : R (.returned (.func (.func 183) #[] #[.pointer (some ⟨w.heap.size, 0, none⟩)])) (w.alloc (.cells #[.map (some mb)] 136))) :
    Calls Tryz.prog 111 #[.map (some mb)] w R := by
  refine (callsIn_wide.1 (Tryz.maps_Keys_111 (some mb) w)).mono ?_
  rintro e w' ⟨rfl, rfl⟩
  exact hR
set_option maxRecDepth 100000 in
theorem dsorted_call {R : Ending → World → Prop} {W w : World} {g : Hl} {H : List HP} {mb : Nat} {l : List (List UInt8 × Value)} (hs : Sat W w g (mp str mb l :: H)) (hn : (l.map Prod.fst).Nodup) (hlen : l.length ≤ 1000000000) (hk : ∀ p ∈ l, p.1.length ≤ maxLen)
    (hR : ∀ a c w', Sat W w' g (own 9 1 (.slice a l.length c) l.length ((rising (l.map Prod.fst)).map str) :: mp str mb l :: H) → R (.returned (.slice a l.length c)) w') :
    Calls Tryz.prog 110 #[.func (.func 183) #[] #[.pointer (some ⟨w.heap.size, 0, none⟩)]] (w.alloc (.cells #[.map (some mb)] 136)) R := by
  obtain ⟨D, hown, hp, hsz⟩ := mp_owns (P := Tryz.prog) Tryz.underlying9 hs hn (by unfold maxLen; omega) hk
  refine (callsIn_wide.1 (Tryz.slices_Sorted_keys_110_111 mb l.length D _ w hown (by unfold maxLen; omega) (by omega))).mono ?_
  rintro e w' ⟨v, ss, rfl, hss, hrow, hnil, hb⟩
  have hpm := hss.trans hp
  have hsl : ss.length = l.length := by have := hpm.length_eq; simpa using this
  have hms : ss.mergeSort (fun x y => decide (x ≤ y)) = rising (l.map Prod.fst) := mergeSort_of_perm hpm
  rw [hms, hsl] at hrow
  have hs2 := (hs.garbage (.cells #[.map (some mb)] 136)).newOwn hrow hb
  obtain ⟨a, c, rfl, _⟩ := hs2.ownLen
  exact hR a c w' hs2

set_option maxHeartbeats 1600000 in
set_option maxRecDepth 100000 in
theorem names_says {bb : Nat} {p : List UInt8} (hpl : p.length ≤ 1000000000) : Says 112 [ptr bb] (blk bb [str p] 9) (fun x => !hasP p x) where
  body := ⟨_, _, Tryz.func112, rfl, rfl⟩
  says := fun {R W w g H x} hx hs hR => by
    have HR := Lib.hid hR
    clear hR
    refine C.calls (args := [str x, ptr bb]) Tryz.func112 rfl rfl rfl ?_
    refine go ?_
    refine E.callf Tryz.func113 rfl ?_
    refine hasPrefix_any hx hpl ?_
    refine go ?_
    refine A.r1 ?_
    exact HR.out

set_option maxHeartbeats 1600000 in
set_option maxRecDepth 100000 in
theorem names_gen {R : Ending → World → Prop} {W w : World} {g : Hl} {H : List HP} {b : Nat} {d : Dk} {p : List UInt8} (hpl : p.length ≤ 1000000000) (hnm : ∀ p ∈ d.fs, p.1.length ≤ 1000000) (hfl : d.fs.length ≤ 1000000000) (hs : Sat W w g (disk b d :: H))
    (hR : ∀ k a c w' g', k = (d.names p).length → Hl.le g g' → Pr 1 g' (.slice a k c) k ((d.names p).map str) → Sat W w' g' (disk b d :: H) → R (.returned (.slice a k c)) w') :
    Calls Tryz.prog 42 #[ptr b, str p] w R := by
  have HR := Lib.hid hR
  clear hR
  obtain ⟨mb, L, hL, hok, hs⟩ := disk_open hs
  have hLl : L.length = d.fs.length := by rw [← hL]; simp [Fs.plain]
  have hLk : L.map Prod.fst = d.fs.map Prod.fst := by rw [← hL]; simp [Fs.plain, Function.comp_def]
  refine C.calls (args := [ptr b, str p]) Tryz.func42 rfl rfl rfl ?_
  refine go ?_
  refine E.bx hs ?_
  intro b1 w1 hs
  replace hs : Sat W w1 g (blk b1 [str p] 9 :: dsk b mb d :: dmap mb L :: bsep (dfiles L) :: H) := hs
  refine go ?_
  refine E.callf Tryz.func87 rfl ?_
  refine on_dsk hs.swap ?_
  cases hoff : d.off with
  | true =>
    refine go ?_
    refine A.r1 ?_
    refine HR.out 0 none 0 _ g (by simp [Dk.names, hoff]) (Hl.le_refl _) ?_ (disk_close hL hok hs.drop)
    simp only [Dk.names, hoff, if_true, List.map_nil]
    exact Pr.nil
  | false =>
  have hd : d.names p = (rising (d.fs.map Prod.fst)).filter (hasP p) := by simp [Dk.names, hoff]
  rw [hd] at HR
  clear hd
  have hoff := Lib.hid hoff
  simp only [dsk] at hs
  refine go ?_
  refine E.callf Tryz.func111 rfl ?_
  refine dkeys_call ?_
  refine E.callf Tryz.func110 rfl ?_
  refine dsorted_call (l := L.map fun p => (p.1, ptr p.2.1)) hs.pull2 (by have := hok.keys; rw [← hLk] at this; simpa [Function.comp_def] using this) (by rw [List.length_map]; omega) (by
    intro p hp
    obtain ⟨q, hq, rfl⟩ := List.mem_map.1 hp
    have h1 := hnm (q.1, q.2.2) (by rw [← hL]; exact List.mem_map_of_mem hq)
    unfold maxLen
    simp only at h1 ⊢
    omega) ?_
  intro a2 c2 w2 hs
  have e1 : (L.map fun p => (p.1, ptr p.2.1)).length = d.fs.length := by rw [List.length_map]; exact hLl
  have e2 : (L.map fun p => (p.1, ptr p.2.1)).map Prod.fst = d.fs.map Prod.fst := by rw [← hLk]; simp [Function.comp_def]
  rw [e1, e2] at hs
  rw [e1]
  have hpm : (rising (d.fs.map Prod.fst)).Perm (d.fs.map Prod.fst) := List.mergeSort_perm _ _
  refine go ?_
  refine E.callf Tryz.func109 rfl ?_
  refine delete_gen (names_says (bb := b1) hpl) hs.pull2.swap (by rw [hpm.length_eq, List.length_map]) (by
    intro x hx
    have h1 := hpm.mem_iff.1 hx
    obtain ⟨q, hq, rfl⟩ := List.mem_map.1 h1
    have := hnm q hq
    omega) ?_
  intro k a3 c3 w3 g3 hk hg3 hp3 hs
  refine go ?_
  refine A.r1 ?_
  simp only [Bool.not_not] at hk hp3
  refine HR.out k a3 c3 _ g3 hk hg3 hp3 (disk_close hL hok hs.drop.swap)
end Go.Proofs.YtdkbpcibmipelaaGreatDoor

/-
  Layer 9 (feed), plain: how the names of a writer's segments stand.
-/
namespace Go.Proofs.YtdkbpcibmipelaaGreatDoor
open Go.RowKit Go.Maps Go.Sort
set_option linter.unusedVariables false
set_option linter.unusedSimpArgs false

theorem snoc_lt {x y : UInt8} : ∀ {a b : List UInt8}, a.length = b.length → (a ++ [x] < b ++ [y] ↔ a < b ∨ a = b ∧ x < y)
  | [], [], _ => by simp [List.cons_lt_cons_iff]
  | p :: a, q :: b, h => by
    have ih := snoc_lt (x := x) (y := y) (a := a) (b := b) (by simpa using h)
    simp only [List.cons_append, List.cons_lt_cons_iff, ih, List.cons.injEq]
    constructor
    · rintro (h | ⟨h1, h2 | ⟨h2, h3⟩⟩)
      · exact .inl (.inl h)
      · exact .inl (.inr ⟨h1, h2⟩)
      · exact .inr ⟨⟨h1, h2⟩, h3⟩
    · rintro ((h | ⟨h1, h2⟩) | ⟨⟨h1, h2⟩, h3⟩)
      · exact .inl h
      · exact .inr ⟨h1, .inl h2⟩
      · exact .inr ⟨h1, .inr ⟨h2, h3⟩⟩
  | [], _ :: _, h => by simp at h
  | _ :: _, [], h => by simp at h
/-- So many digits to base sixteen. -/
def padK : Nat → Nat → List UInt8
  | 0, _ => []
  | k + 1, n => padK k (n / 16) ++ [hexD (n % 16)]
theorem padK_len : ∀ (k n : Nat), (padK k n).length = k
  | 0, _ => rfl
  | k + 1, n => by simp [padK, padK_len k]
theorem padK_zero : ∀ k, padK k 0 = List.replicate k 48
  | 0 => rfl
  | k + 1 => by
    rw [padK, Nat.zero_div, padK_zero k, List.replicate_succ']
    rfl
theorem padK_hexN : ∀ (k n : Nat), 1 ≤ k → n < 16 ^ k → padK k n = List.replicate (k - (hexN n).length) 48 ++ hexN n
  | 0, _, h, _ => by omega
  | k + 1, n, _, h => by
    have hpow : 16 ^ (k + 1) = 16 * 16 ^ k := by rw [Nat.pow_succ, Nat.mul_comm]
    by_cases h1 : n < 16
    · rw [hexN_small h1, padK, Nat.div_eq_of_lt h1, Nat.mod_eq_of_lt h1, padK_zero]
      rfl
    · have hk : 1 ≤ k := by
        rcases Nat.eq_zero_or_pos k with rfl | hk
        · simp at h; omega
        · exact hk
      have h2 := hexN_step (n := n) (by omega)
      have h3 := padK_hexN k (n / 16) hk (by rw [hpow] at h; omega)
      rw [padK, h3, h2, List.append_assoc, List.length_append]
      simp only [List.length_cons, List.length_nil]
      rw [show k + 1 - ((hexN (n / 16)).length + (0 + 1)) = k - (hexN (n / 16)).length by omega]
theorem hexD_lt : ∀ a < 16, ∀ b < 16, (hexD a < hexD b ↔ a < b) := by decide
theorem padK_lt : ∀ (k m n : Nat), m < 16 ^ k → n < 16 ^ k → (padK k m < padK k n ↔ m < n)
  | 0, m, n, hm, hn => by
    simp only [Nat.pow_zero] at hm hn
    have h1 : ¬ m < n := by omega
    simp [padK, h1]
  | k + 1, m, n, hm, hn => by
    rw [Nat.pow_succ] at hm hn
    have ih := padK_lt k (m / 16) (n / 16) (by omega) (by omega)
    have ih2 := padK_lt k (n / 16) (m / 16) (by omega) (by omega)
    have hd := hexD_lt (m % 16) (Nat.mod_lt _ (by decide)) (n % 16) (Nat.mod_lt _ (by decide))
    simp only [padK]
    rw [snoc_lt (by rw [padK_len, padK_len]), ih, hd]
    constructor
    · rintro (h | ⟨h1, h2⟩)
      · omega
      · have h3 : ¬ m / 16 < n / 16 := by rw [← ih, h1]; exact List.lt_irrefl _
        have h4 : ¬ n / 16 < m / 16 := by rw [← ih2, h1]; exact List.lt_irrefl _
        omega
    · intro h
      by_cases h1 : m / 16 < n / 16
      · exact .inl h1
      · have h2 : m / 16 = n / 16 := by omega
        exact .inr ⟨by rw [h2], by omega⟩
theorem prefix_lt {a b : List UInt8} : ∀ (p : List UInt8), (p ++ a < p ++ b ↔ a < b)
  | [] => Iff.rfl
  | x :: p => by
    simp only [List.cons_append, List.cons_lt_cons_iff, prefix_lt p]
    constructor
    · rintro (h | ⟨_, h⟩)
      · exact absurd h (UInt8.lt_irrefl x)
      · exact h
    · exact fun h => .inr ⟨trivial, h⟩
theorem nameB_lt {w m n : Nat} (hm : m < 18446744073709551616) (hn : n < 18446744073709551616) : (nameB w m < nameB w n ↔ m < n) := by
  have h1 := padK_hexN 16 m (by decide) (by simpa using hm)
  have h2 := padK_hexN 16 n (by decide) (by simpa using hn)
  have h3 := padK_lt 16 m n (by simpa using hm) (by simpa using hn)
  unfold nameB padB
  rw [prefix_lt, ← h1, ← h2, h3]
theorem nameB_inj {w m n : Nat} (hm : m < 18446744073709551616) (hn : n < 18446744073709551616) (h : nameB w m = nameB w n) : m = n := by
  have h1 := nameB_lt (w := w) hm hn
  have h2 := nameB_lt (w := w) hn hm
  rw [h] at h1 h2
  have h3 : ¬ nameB w n < nameB w n := List.lt_irrefl _
  have h4 : ¬ m < n := fun e => h3 (h1.2 e)
  have h5 : ¬ n < m := fun e => h3 (h2.2 e)
  omega
theorem hasP_self (p x : List UInt8) : hasP p (p ++ x) = true := by simp [hasP]
theorem hasP_iff {p x : List UInt8} : hasP p x = true ↔ ∃ y, x = p ++ y := by
  simp only [hasP, decide_eq_true_eq]
  constructor
  · rintro ⟨h1, h2⟩
    exact ⟨x.drop p.length, by conv => lhs; rw [← List.take_append_drop p.length x, h2]⟩
  · rintro ⟨y, rfl⟩
    simp
/-- The names of a writer's segments, where these are all that begin so. -/
theorem names_firsts {d : Dk} {w : Nat} {fs : List Nat} (hoff : d.off = false) (hp : ((d.fs.map Prod.fst).filter (hasP (beginB w))).Perm (fs.map (nameB w))) (hs : fs.Pairwise (· < ·)) (hlt : ∀ f ∈ fs, f < 18446744073709551616) : d.names (beginB w) = fs.map (nameB w) := by
  have hsorted : (fs.map (nameB w)).Pairwise fun a b => decide (a ≤ b) = true := by
    rw [List.pairwise_map]
    refine hs.imp_of_mem fun {a b} ha hb hab => decide_eq_true (List.le_of_lt ?_)
    exact (nameB_lt (hlt a ha) (hlt b hb)).2 hab
  have hr : ((rising (d.fs.map Prod.fst)).filter (hasP (beginB w))).Pairwise fun a b => decide (a ≤ b) = true := by
    refine List.Pairwise.filter _ ?_
    exact List.pairwise_mergeSort (fun a b c h1 h2 => by simp only [decide_eq_true_eq] at h1 h2 ⊢; exact List.le_trans h1 h2) (fun a b => by
      rw [Bool.or_eq_true, decide_eq_true_eq, decide_eq_true_eq]; exact List.le_total a b) _
  have hpm : ((rising (d.fs.map Prod.fst)).filter (hasP (beginB w))).Perm (fs.map (nameB w)) := ((rising_perm _).filter _).trans hp
  unfold Dk.names
  rw [hoff, if_neg (by simp)]
  rw [← List.mergeSort_of_pairwise hr, ← List.mergeSort_of_pairwise hsorted]
  exact mergeSort_of_perm hpm
end Go.Proofs.YtdkbpcibmipelaaGreatDoor

/-
  Layer 9 (feed): what a feed is in memory; Next.
-/
namespace Go.Proofs.YtdkbpcibmipelaaGreatDoor
open Go.RowKit
set_option linter.unusedVariables false
set_option linter.unusedSimpArgs false

theorem ag_feed : AggOf Tryz.prog 167 7 := ⟨_, Tryz.underlying167, rfl, by kernel_rfl⟩
theorem el_sg : ElemOf Tryz.prog 165 29 (.agg #[.int .i64 0, .int .u64 0, .slice none 0 0, .int .i64 0]) 4 48 := .of Tryz.underlying165 (by kernel_rfl) rfl (by decide)
structure Fe where
  wr : Nat
  cap : Int
  floor : Nat
  time : Nat
  l : List Sg
  dirty : Bool
def sgC (l : List Sg) : List Value := l.flatMap Sg.cs
theorem sgC_len (l : List Sg) : (sgC l).length = l.length * 4 := by
  induction l with
  | nil => rfl
  | cons s r ih =>
    have : sgC (s :: r) = s.cs ++ sgC r := rfl
    rw [this, List.length_append, ih, List.length_cons]
    simp only [Sg.cs, List.length_cons, List.length_nil]; omega
theorem sgC_append (l m : List Sg) : sgC (l ++ m) = sgC l ++ sgC m := by simp [sgC]
theorem sgC_one (s : Sg) : sgC [s] = s.cs := by simp [sgC]
theorem sgC_at : ∀ {l : List Sg} {j : Nat} (h : j < l.length), ((sgC l).drop (j * 4)).take 4 = l[j].cs
  | s :: r, 0, h => rfl
  | s :: r, j + 1, h => by
    have e : (j + 1) * 4 = 4 + j * 4 := by omega
    have e2 : sgC (s :: r) = s.cs ++ sgC r := rfl
    rw [e, ← List.drop_drop, e2]
    exact sgC_at (l := r) (by simpa using h)
structure Fe.ok (f : Fe) (g : Hl) : Prop where
  wr : f.wr < 64
  floor : f.floor ≤ 9223372036854775807
  time : f.time < 18446744073709551616
  cap : -9223372036854775808 ≤ f.cap ∧ f.cap ≤ 9223372036854775807
  l : ∀ s ∈ f.l, s.x.ok g ∧ s.wr = f.wr ∧ s.first < 18446744073709551616
theorem Fe.ok.mono {f : Fe} {g g' : Hl} (h : f.ok g) (hg : Hl.le g g') : f.ok g' := ⟨h.wr, h.floor, h.time, h.cap, fun s hs => ⟨(h.l s hs).1.mono hg, (h.l s hs).2⟩⟩
def Fe.cs (f : Fe) (db : Nat) (a : Option Addr) (c : Nat) : List Value := [ptr db, .int .i64 f.wr, .int .i64 f.cap, .int .u64 f.floor, .int .u64 f.time, .slice a f.l.length c, .bool f.dirty]
/-- A feed, of a disk at db. -/
def feed (b db : Nat) (f : Fe) : HP := exs fun q : Option Addr × Nat => wit (fun g => f.ok g) (fun _ _ hg h => h.mono hg) (sep (blk b (f.cs db q.1 q.2) 167) (owno 29 4 (.slice q.1 f.l.length q.2) f.l.length (sgC f.l)))
theorem feed_open {W w : World} {g : Hl} {H : List HP} {b db : Nat} {f : Fe} (hs : Sat W w g (feed b db f :: H)) : ∃ a c, f.ok g ∧ Sat W w g (blk b (f.cs db a c) 167 :: owno 29 4 (.slice a f.l.length c) f.l.length (sgC f.l) :: H) := by
  obtain ⟨⟨a, c⟩, h⟩ := hs.unexs
  obtain ⟨h1, h2⟩ := h.unwit
  exact ⟨a, c, h1, h2.split⟩
theorem feed_close {W w : World} {g : Hl} {H : List HP} {b db c : Nat} {a : Option Addr} {f : Fe} (h1 : f.ok g) (hs : Sat W w g (blk b (f.cs db a c) 167 :: owno 29 4 (.slice a f.l.length c) f.l.length (sgC f.l) :: H)) : Sat W w g (feed b db f :: H) :=
  Sat.mkexs (a, c) (Sat.mkwit h1 hs.join)
/-- A feed whose row is opened too, at one of its segments. -/
structure At4 (a : Option Addr) (n c rb off p j : Nat) (cur : List Value) (l : List Sg) (s : Sg) : Prop where
  addr : a = some ⟨rb, off, none⟩
  fit : off + c * 4 ≤ cur.length
  row : (cur.drop off).take (n * 4) = sgC l
  nc : n ≤ c
  c63 : c ≤ 9223372036854775807
  pe : p = off + j * 4
  lt : j < n
  at4 : (cur.drop p).take 4 = s.cs
  c0 : cur[p]? = some (.int .i64 s.wr)
  c1 : cur[p + 1]? = some (.int .u64 s.first)
  c2 : cur[p + 2]? = some s.x.v
  c3 : cur[p + 3]? = some (.int .i64 s.size)
theorem row_open {W w : World} {g : Hl} {H : List HP} {n c j : Nat} {a : Option Addr} {l : List Sg} (hj : j < l.length) (hn : n = l.length) (hs : Sat W w g (owno 29 4 (.slice a n c) n (sgC l) :: H)) : ∃ rb off p cur, At4 a n c rb off p j cur l l[j] ∧ Sat W w g (blk rb cur 29 :: H) := by
  have ha : a ≠ none := by
    obtain ⟨_, _, _, e, h1, h2, h3⟩ := hs.olen
    simp only [Value.slice.injEq] at e
    obtain ⟨rfl, -, rfl⟩ := e
    intro h
    have := h3 h
    omega
  obtain ⟨rb, off, cur, h1, h2, h3, h4, h5, hs⟩ := hs.oopen ha
  have h6 : (cur.drop (off + j * 4)).take 4 = l[j].cs := by
    have := sgC_at hj
    rw [← h3, List.drop_take, List.drop_drop, List.take_take, Nat.min_eq_left (by omega)] at this
    exact this
  have hc : ∀ q < 4, cur[off + j * 4 + q]? = (l[j].cs)[q]? := by
    intro q hq
    rw [← h6, List.getElem?_take, if_pos hq, List.getElem?_drop]
  exact ⟨rb, off, off + j * 4, cur, ⟨h1, h2, h3, h4, h5, rfl, by omega, h6, hc 0 (by decide), hc 1 (by decide), hc 2 (by decide), hc 3 (by decide)⟩, hs⟩
theorem row_close {W w : World} {g : Hl} {H : List HP} {n c j rb off p : Nat} {a : Option Addr} {cur : List Value} {l : List Sg} {s : Sg} (h : At4 a n c rb off p j cur l s) (hs : Sat W w g (blk rb cur 29 :: H)) : Sat W w g (owno 29 4 (.slice a n c) n (sgC l) :: H) := by
  rw [h.addr]
  exact hs.oclose h.fit h.row h.nc h.c63
theorem At4.ix {a : Option Addr} {n c rb off p j : Nat} {cur : List Value} {l : List Sg} {s : Sg} (h : At4 a n c rb off p j cur l s) {kd : IntKind} {i : Int} (hi : i = (j : Int)) (w : World) : (Instr.indexAt 165 (.slice a n c) (.int kd i)).run Tryz.prog w = .ok (.pointer (some ⟨rb, p, none⟩)) w := by
  rw [h.addr, h.pe]
  exact run_index_at el_sg hi h.lt w

/-- The number behind the last event. -/
def Fe.next (f : Fe) : Nat := match f.l.getLast? with
  | none => f.floor + 1
  | some s => max (f.floor + 1) s.next
/-- None of its segments is too great for a count. -/
def Fe.small (f : Fe) : Prop := ∀ s ∈ f.l, s.size ≤ 4000000000000000000 ∧ s.x.es.length ≤ 1000000000

theorem Fe.next_nil {f : Fe} (h : f.l.length = 0) : f.next = f.floor + 1 := by
  have : f.l = [] := List.eq_nil_of_length_eq_zero h
  simp [Fe.next, this]
theorem Fe.next_last {f : Fe} (h : f.l.length - 1 < f.l.length) : f.next = max (f.floor + 1) (f.l[f.l.length - 1]).next := by
  have : f.l.getLast? = some f.l[f.l.length - 1] := by rw [List.getLast?_eq_getElem?, List.getElem?_eq_getElem h]
  simp [Fe.next, this]

set_option maxHeartbeats 1600000 in
set_option maxRecDepth 100000 in
theorem fnext_raw {R : Ending → World → Prop} {W w : World} {g : Hl} {H : List HP} {b db c : Nat} {a : Option Addr} {f : Fe} (hsm : f.small) (hok : f.ok g) (hs : Sat W w g (blk b (f.cs db a c) 167 :: owno 29 4 (.slice a f.l.length c) f.l.length (sgC f.l) :: H))
    (hR : ∀ w', Sat W w' g (blk b (f.cs db a c) 167 :: owno 29 4 (.slice a f.l.length c) f.l.length (sgC f.l) :: H) → R (.returned (.int .u64 f.next)) w') : Calls Tryz.prog 40 #[ptr b] w R := by
  have HR := Lib.hid hR
  clear hR
  have hfl := hok.floor
  simp only [Fe.cs] at hs
  refine C.calls (args := [ptr b]) Tryz.func40 rfl rfl rfl ?_
  refine go ?_
  by_cases h0 : f.l.length = 0
  · rw [decide_eq_true (show (f.l.length : Int) = 0 by omega)]
    refine go ?_
    refine A.r1 ?_
    have key := HR.out w hs
    rw [Fe.next_nil h0] at key
    exact key
  · rw [decide_eq_false (show ¬ (f.l.length : Int) = 0 by omega)]
    refine go ?_
    have hj : f.l.length - 1 < f.l.length := by omega
    obtain ⟨rb, off, p, cur, h4, hs⟩ := row_open hj rfl hs.swap
    have hgd := hok.l _ (List.getElem_mem hj)
    have hss := hsm _ (List.getElem_mem hj)
    have hnx := Fe.next_last hj
    generalize hsg : f.l[f.l.length - 1] = s at h4 hgd hss hnx
    have hn63 : f.l.length ≤ 9223372036854775807 := by have := h4.nc; have := h4.c63; omega
    refine C.held2 b rb hs ?_
    intro w1 hk hs
    refine goh ?_
    refine EH.tp 15 hk ?_ (hy := Pf.pv (Pv.indexAddr rfl rfl (h4.ix (i := (f.l.length : Int) - 1) (by omega))))
    refine EH.tp 16 hk ?_ (hy := Pf.loadp rfl (.there .here) ag_sg h4.at4 rfl)
    refine goh ?_
    refine EH.one (St.callf Tryz.func26 rfl ?_)
    refine sgNext_any (s := s) hgd.2.2 (by omega) hs ?_
    intro w2 hs
    refine kept2 hs (fun hk => ?_) (Hl.le_refl _)
    refine goh ?_
    refine EH.done ?_
    refine go ?_
    refine A.r1 ?_
    have key := HR.out w2 (row_close h4 hs).swap
    rw [hnx] at key
    have e : Max.max (((f.floor + 1 : Nat)) : Int) ((s.next : Nat) : Int) = ((max (f.floor + 1) s.next : Nat) : Int) := by omega
    rw [← e] at key
    exact key
theorem fnext_any {R : Ending → World → Prop} {W w : World} {g : Hl} {H : List HP} {b db : Nat} {f : Fe} (hsm : f.small) (hs : Sat W w g (feed b db f :: H))
    (hR : ∀ w', Sat W w' g (feed b db f :: H) → R (.returned (.int .u64 f.next)) w') : Calls Tryz.prog 40 #[ptr b] w R := by
  obtain ⟨a, c, hok, hs⟩ := feed_open hs
  exact fnext_raw hsm hok hs fun w' hs => hR w' (feed_close hok hs)
end Go.Proofs.YtdkbpcibmipelaaGreatDoor

/-
  Layer 9 (feed): All.
-/
namespace Go.Proofs.YtdkbpcibmipelaaGreatDoor
open Go.RowKit
set_option linter.unusedVariables false
set_option linter.unusedSimpArgs false

/-- A feed's events behind its floor. -/
def liveE (floor : Nat) (l : List Sg) : List Ev := (l.flatMap fun s => s.x.es).filter fun e => decide (floor < e.sq)
def Fe.all (f : Fe) : List Ev := liveE f.floor f.l
theorem liveE_snoc (floor : Nat) (l : List Sg) (s : Sg) : liveE floor (l ++ [s]) = liveE floor l ++ s.x.es.filter (fun e => decide (floor < e.sq)) := by simp [liveE]
/-- How many events a feed has in memory. -/
def Fe.count (f : Fe) : Nat := (f.l.flatMap fun s => s.x.es).length
theorem flat_take_len {α β : Type} (h : α → List β) : ∀ (l : List α) (k : Nat), ((l.take k).flatMap h).length ≤ (l.flatMap h).length
  | [], _ => by simp
  | _ :: _, 0 => by simp
  | x :: r, k + 1 => by
    have := flat_take_len h r k
    simp only [List.take_succ_cons, List.flatMap_cons, List.length_append]
    omega
theorem liveE_len (floor : Nat) (l : List Sg) : (liveE floor l).length ≤ (l.flatMap fun s => s.x.es).length := List.length_filter_le _ _

set_option maxHeartbeats 6400000 in
set_option maxRecDepth 100000 in
theorem fall_any {R : Ending → World → Prop} {W w : World} {g : Hl} {H : List HP} {b db : Nat} {f : Fe} (hc : f.count ≤ 1000000000) (hs : Sat W w g (feed b db f :: H))
    (hR : ∀ (x : El) w' g', Hl.le g g' → x.ok g' → x.es = f.all → Sat W w' g' (feed b db f :: H) → R (.returned x.v) w') : Calls Tryz.prog 48 #[ptr b] w R := by
  have HR := Lib.hid hR
  clear hR
  have ag1 := ag_sg
  have ag2 := ag_ev
  obtain ⟨a, c, hok, hs⟩ := feed_open hs
  obtain ⟨_, _, _, e0, hnc, hcm, _⟩ := hs.swap.olen
  simp only [Value.slice.injEq] at e0
  obtain ⟨-, -, rfl⟩ := e0
  refine C.calls (args := [ptr b]) Tryz.func48 rfl rfl rfl ?_
  refine gob ?_
  refine C.cut (fun q : Option Addr × Nat => [(3, .slice q.1 f.all.length q.2)]) (fun q w => ∃ g', Hl.le g g' ∧ (∀ e ∈ f.all, e.ok g' ∧ e.low) ∧ Sat W w g' (own 46 8 (.slice q.1 f.all.length q.2) f.all.length (evC f.all) :: blk b (f.cs db a c) 167 :: owno 29 4 (.slice a f.l.length c) f.l.length (sgC f.l) :: H)) ?_ ?_
  · refine C.block ?_
    refine C.lp (fun q : Nat × Option Addr × Nat => [(0, ptr b), (3, .slice q.2.1 (liveE f.floor (f.l.take q.1)).length q.2.2), (14, .slice a f.l.length c), (15, .int .i64 f.l.length), (16, .int .i64 q.1)])
      (fun gk q w => gk = f.l.length - q.1 ∧ q.1 ≤ f.l.length ∧ ∃ g', Hl.le g g' ∧ (∀ e ∈ liveE f.floor (f.l.take q.1), e.ok g' ∧ e.low) ∧ Sat W w g' (own 46 8 (.slice q.2.1 (liveE f.floor (f.l.take q.1)).length q.2.2) (liveE f.floor (f.l.take q.1)).length (evC (liveE f.floor (f.l.take q.1))) :: blk b (f.cs db a c) 167 :: owno 29 4 (.slice a f.l.length c) f.l.length (sgC f.l) :: H)) f.l.length (0, none, 0) ⟨rfl, Nat.zero_le _, g, Hl.le_refl _, (fun e he => by simp [liveE] at he), hs.nilOwn⟩ ?_
    clear hs
    rintro gk ⟨i, a1, c1⟩ w1 ⟨rfl, hi, g1, hg1, hO, hs⟩
    simp only at hi hO hs ⊢
    refine go ?_
    refine C.cond_dec (p := (i : Int) < f.l.length) rfl (fun h => ?_) (fun h => ?_)
    rotate_left
    · obtain rfl : i = f.l.length := by omega
      have e : liveE f.floor (f.l.take f.l.length) = f.all := by rw [List.take_length]; rfl
      rw [e] at hs hO ⊢
      refine go ?_
      exact A.mt (a1, c1) ⟨g1, hg1, hO, hs⟩
    have hil : i < f.l.length := by omega
    obtain ⟨rb, off, p, cur, h4, hs⟩ := row_open hil rfl hs.pull2
    have hgd := hok.l _ (List.getElem_mem hil)
    have hsucc : f.l.take (i + 1) = f.l.take i ++ [f.l[i]] := by
      rw [List.take_add_one, List.getElem?_eq_getElem hil]; rfl
    have hlen := flat_take_len (fun s : Sg => s.x.es) f.l (i + 1)
    rw [hsucc, List.flatMap_append] at hlen
    simp only [List.flatMap_cons, List.flatMap_nil, List.append_nil, List.length_append] at hlen
    have hlv := liveE_len f.floor (f.l.take i)
    have hcc : (f.l.flatMap fun s => s.x.es).length ≤ 1000000000 := hc
    generalize hsg : f.l[i] = s at h4 hgd hsucc hlen
    refine go ?_
    refine E.pv (Pv.indexAddr rfl rfl (h4.ix (i := (i : Int)) rfl)) ?_
    refine E.ldp hs ?_ (hv := h4.at4) (vs := s.cs)
    refine go ?_
    refine E.al hs ?_
    intro b5 w2 hs
    refine E.sto (vs := s.cs) (ys := s.cs) hs ?_ (hv := rfl) (hsp := rfl)
    intro w3 hs
    refine gob ?_
    refine C.cutQ (fun q : Option Addr × Nat => [(0, ptr b), (3, .slice q.1 (liveE f.floor (f.l.take (i + 1))).length q.2), (14, .slice a f.l.length c), (15, .int .i64 f.l.length), (16, .int .i64 i)]) (fun q w => ∃ g', Hl.le g g' ∧ (∀ e ∈ liveE f.floor (f.l.take (i + 1)), e.ok g' ∧ e.low) ∧ Sat W w g' (own 46 8 (.slice q.1 (liveE f.floor (f.l.take (i + 1))).length q.2) (liveE f.floor (f.l.take (i + 1))).length (evC (liveE f.floor (f.l.take (i + 1)))) :: blk b (f.cs db a c) 167 :: blk rb cur 29 :: H)) ?_ ?_
    · refine C.block ?_
      refine C.lp (fun q : Nat × List Ev × Option Addr × Nat => [(0, ptr b), (3, .slice q.2.2.1 q.2.1.length q.2.2.2), (14, .slice a f.l.length c), (15, .int .i64 f.l.length), (16, .int .i64 i), (21, s.x.v), (22, .int .i64 s.x.es.length), (23, .int .i64 q.1)])
        (fun gk q w => gk = s.x.es.length - q.1 ∧ q.1 ≤ s.x.es.length ∧ q.2.1 = liveE f.floor (f.l.take i) ++ (s.x.es.take q.1).filter (fun e => decide (f.floor < e.sq)) ∧ (∀ e ∈ q.2.1, e.ok g1 ∧ e.low) ∧ Sat W w g1 (own 46 8 (.slice q.2.2.1 q.2.1.length q.2.2.2) q.2.1.length (evC q.2.1) :: blk b (f.cs db a c) 167 :: blk rb cur 29 :: H)) s.x.es.length (0, liveE f.floor (f.l.take i), a1, c1) ⟨rfl, Nat.zero_le _, by simp, hO, hs.drop.swap.pull2.swap⟩ ?_
      clear hs hO
      rintro gk ⟨j, O, a2, c2⟩ w4 ⟨rfl, hj, hOe, hO, hs⟩
      simp only at hj hOe hO hs ⊢
      have hxv : s.x.v = .slice s.x.a s.x.es.length s.x.c := rfl
      refine go ?_
      refine C.cond_dec (p := (j : Int) < s.x.es.length) rfl (fun h => ?_) (fun h => ?_)
      rotate_left
      · obtain rfl : j = s.x.es.length := by omega
        refine go ?_
        have e : O = liveE f.floor (f.l.take (i + 1)) := by rw [hOe, List.take_length, hsucc, liveE_snoc]
        subst e
        exact A.mt (a2, c2) ⟨g1, hg1, hO, hs⟩
      have hjl : j < s.x.es.length := by omega
      have hxo := hgd.1.mono hg1
      obtain ⟨hev, helow⟩ := hxo.evs _ (List.getElem_mem hjl)
      have hOl : O.length ≤ 1000000000 := by
        rw [hOe, List.length_append]
        have := List.length_filter_le (fun e : Ev => decide (f.floor < e.sq)) (s.x.es.take j)
        rw [List.length_take] at this
        omega
      refine go ?_
      refine E.ixs el_ev hs hxo.row j ?_
      intro b6 o6 hrg
      rw [evC_at hjl] at hrg
      have hsj : s.x.es.take (j + 1) = s.x.es.take j ++ [s.x.es[j]] := by
        rw [List.take_add_one, List.getElem?_eq_getElem hjl]; rfl
      generalize s.x.es[j] = e at hev helow hrg hsj
      refine E.ldr hrg ag_ev rfl ?_
      refine go ?_
      refine E.al hs ?_
      intro b7 w5 hs
      refine E.sto (vs := e.cs) (ys := e.cs) hs ?_ (hv := rfl) (hsp := spl_all (by rfl)) (h1 := Ev.cs_one hev)
      intro w6 hs
      refine go ?_
      refine C.held2 b7 b hs ?_
      intro w7 hk hs
      refine goh ?_
      refine EH.done ?_
      refine go ?_
      refine C.cond_dec (p := (f.floor : Int) < e.sq) rfl (fun h => ?_) (fun h => ?_)
      · have hd : decide (f.floor < e.sq) = true := decide_eq_true (by omega)
        refine go ?_
        refine E.bsle el_ev hs (cs := e.cs) rfl ?_
        intro b10 w9 hs
        refine E.app el_ev hs.pull2 (hs.rowOf (size := 8) 1 rfl (by decide)) ?_ (h1 := fun u hu => List.all_eq_true.1 (Ev.cs_one hev) u hu)
        intro a11 c11 w11 _ _ hs
        have e3 : O.length + 1 = (O ++ [e]).length := by simp
        have e4 : evC O ++ e.cs = evC (O ++ [e]) := by rw [evC_append]; simp [evC]
        rw [e3, e4] at hs
        rw [e3]
        refine go ?_
        refine A.rd (s.x.es.length - (j + 1)) (j + 1, O ++ [e], a11, c11) ⟨rfl, by simp only; omega, ?_, ?_, ?_⟩
        · rw [hsj, List.filter_append, ← List.append_assoc, ← hOe]
          simp [hd]
        · intro e' he'
          rcases List.mem_append.1 he' with h' | h'
          · exact hO e' h'
          · rw [List.mem_singleton.1 h']
            exact ⟨hev, helow⟩
        · exact hs.swap.drop.swap.drop
      · have hd : decide (f.floor < e.sq) = false := decide_eq_false (by omega)
        refine go ?_
        refine A.rd (s.x.es.length - (j + 1)) (j + 1, O, a2, c2) ⟨rfl, by simp only; omega, ?_, hO, hs.drop⟩
        simp only
        rw [hsj, List.filter_append, ← List.append_assoc, ← hOe]
        simp [hd]
    clear hs hO
    rintro ⟨a2, c2⟩ w20 ⟨g2, hg2, hO, hs⟩
    simp only at hs ⊢
    refine go ?_
    subst hsg
    refine A.rd (f.l.length - (i + 1)) (i + 1, a2, c2) ⟨rfl, by simp only; omega, g2, hg2, hO, (row_close h4 hs.pull2).push2⟩
  clear hs
  rintro ⟨a2, c2⟩ w20 ⟨g2, hg2, hO, hs⟩
  simp only at hs ⊢
  refine go ?_
  refine A.r1 ?_
  obtain ⟨g3, hg3, hpr, hs⟩ := hs.publishOwn
  exact HR.out ⟨a2, c2, f.all⟩ w20 g3 (hg2.trans hg3) ⟨hpr, fun e he => ⟨(hO e he).1.mono hg3, (hO e he).2⟩⟩ rfl (feed_close (hok.mono (hg2.trans hg3)) hs)
end Go.Proofs.YtdkbpcibmipelaaGreatDoor

/-
  Layer 9 (feed): Sealed, Time; Sync, a new segment.
-/
namespace Go.Proofs.YtdkbpcibmipelaaGreatDoor
open Go.RowKit
set_option linter.unusedVariables false
set_option linter.unusedSimpArgs false

def Fe.sealed (f : Fe) : Bool := match f.all.getLast? with
  | some e => decide (e.kd = 6)
  | none => false
def Fe.tm (f : Fe) : Nat := match f.all.getLast? with
  | some e => e.tm
  | none => f.time

set_option maxHeartbeats 1600000 in
set_option maxRecDepth 100000 in
theorem fsealed_any {R : Ending → World → Prop} {W w : World} {g : Hl} {H : List HP} {b db : Nat} {f : Fe} (hc : f.count ≤ 1000000000) (hs : Sat W w g (feed b db f :: H))
    (hR : ∀ w' g', Hl.le g g' → Sat W w' g' (feed b db f :: H) → R (.returned (.bool f.sealed)) w') : Calls Tryz.prog 49 #[ptr b] w R := by
  have HR := Lib.hid hR
  clear hR
  refine C.calls (args := [ptr b]) Tryz.func49 rfl rfl rfl ?_
  refine go ?_
  refine E.callf Tryz.func48 rfl ?_
  refine fall_any hc hs ?_
  intro x w1 g1 hg1 hx hxe hs
  have hxv : x.v = .slice x.a x.es.length x.c := rfl
  have hcl := liveE_len f.floor f.l
  have hxl : x.es.length ≤ 1000000000 := by
    rw [hxe]
    exact Nat.le_trans hcl hc
  by_cases h0 : x.es.length = 0
  · have key := HR.out w1 g1 hg1 hs
    have he : f.all = [] := by rw [← hxe]; exact List.eq_nil_of_length_eq_zero h0
    simp only [Fe.sealed, he, List.getLast?_nil] at key
    clear he hxe
    refine go ?_
    refine A.r1 ?_
    exact key
  · have hj : x.es.length - 1 < x.es.length := by omega
    have hrow := hx.row
    have Hxe := Lib.hid hxe
    clear hxe
    refine go ?_
    rw [decide_eq_true (show (0 : Int) < x.es.length by omega)]
    refine go ?_
    refine E.ixs el_ev hs hrow (x.es.length - 1) ?_
    intro b2 o2 hrg
    rw [evC_at hj] at hrg
    have key := HR.out w1 g1 hg1 hs
    have he : f.all.getLast? = some x.es[x.es.length - 1] := by rw [← Hxe.out, List.getLast?_eq_getElem?, List.getElem?_eq_getElem hj]
    simp only [Fe.sealed, he] at key
    clear he
    generalize x.es[x.es.length - 1] = e at hrg key
    have h3 : w1.cell? ⟨b2, o2 + 3, none⟩ = some (.int .u8 e.kd) := hrg 3 _ rfl
    refine go ?_
    have e6 : decide ((e.kd : Int) = 6) = decide (e.kd = 6) := by
      apply decide_eq_decide.2; omega
    rw [e6]
    refine A.r1 ?_
    exact key
set_option maxHeartbeats 1600000 in
set_option maxRecDepth 100000 in
theorem ftime_any {R : Ending → World → Prop} {W w : World} {g : Hl} {H : List HP} {b db : Nat} {f : Fe} (hc : f.count ≤ 1000000000) (hs : Sat W w g (feed b db f :: H))
    (hR : ∀ w' g', Hl.le g g' → Sat W w' g' (feed b db f :: H) → R (.returned (.int .u64 f.tm)) w') : Calls Tryz.prog 47 #[ptr b] w R := by
  have HR := Lib.hid hR
  clear hR
  refine C.calls (args := [ptr b]) Tryz.func47 rfl rfl rfl ?_
  refine go ?_
  refine E.callf Tryz.func48 rfl ?_
  refine fall_any hc hs ?_
  intro x w1 g1 hg1 hx hxe hs
  have hxv : x.v = .slice x.a x.es.length x.c := rfl
  have hcl := liveE_len f.floor f.l
  have hxl : x.es.length ≤ 1000000000 := by
    rw [hxe]
    exact Nat.le_trans hcl hc
  by_cases h0 : x.es.length = 0
  · have he : f.all = [] := by rw [← hxe]; exact List.eq_nil_of_length_eq_zero h0
    have key := HR.out w1 g1 hg1
    obtain ⟨a, c, hok, hs⟩ := feed_open hs
    simp only [Fe.tm, he, List.getLast?_nil] at key
    clear he hxe
    refine go ?_
    refine A.r1 ?_
    exact key (feed_close hok hs)
  · have hj : x.es.length - 1 < x.es.length := by omega
    have hrow := hx.row
    have Hxe := Lib.hid hxe
    clear hxe
    refine go ?_
    rw [decide_eq_true (show (0 : Int) < x.es.length by omega)]
    refine go ?_
    refine E.ixs el_ev hs hrow (x.es.length - 1) ?_
    intro b2 o2 hrg
    rw [evC_at hj] at hrg
    have key := HR.out w1 g1 hg1 hs
    have he : f.all.getLast? = some x.es[x.es.length - 1] := by rw [← Hxe.out, List.getLast?_eq_getElem?, List.getElem?_eq_getElem hj]
    simp only [Fe.tm, he] at key
    clear he
    generalize x.es[x.es.length - 1] = e at hrg key
    have h3 : w1.cell? ⟨b2, o2 + 2, none⟩ = some (.int .u64 e.tm) := hrg 2 _ rfl
    refine go ?_
    refine A.r1 ?_
    exact key

/-- How 'Sync' goes. -/
def Fe.sync (f : Fe) (d : Dk) : Int × Fe × Dk :=
  if f.dirty then match f.l.getLast? with
    | some s => ((d.sync (nameB s.wr s.first)).1, if (d.sync (nameB s.wr s.first)).1 = 0 then { f with dirty := false } else f, (d.sync (nameB s.wr s.first)).2)
    | none => (0, f, d)
  else (0, f, d)

set_option maxHeartbeats 3200000 in
set_option maxRecDepth 100000 in
theorem fsync_any {R : Ending → World → Prop} {W w : World} {g : Hl} {H : List HP} {b db : Nat} {f : Fe} {d : Dk} (hg : Gl g) (hd : f.dirty = true → f.l ≠ []) (hs : Sat W w g (feed b db f :: disk db d :: H))
    (hR : ∀ w', Sat W w' g (feed b db (f.sync d).2.1 :: disk db (f.sync d).2.2 :: H) → R (.returned (.int .i64 (f.sync d).1)) w') : Calls Tryz.prog 37 #[ptr b] w R := by
  have HR := Lib.hid hR
  clear hR
  have ag1 := ag_sg
  obtain ⟨a, c, hok, hs⟩ := feed_open hs
  refine C.calls (args := [ptr b]) Tryz.func37 rfl rfl rfl ?_
  refine go ?_
  cases hdt : f.dirty with
  | false =>
    refine go ?_
    refine A.r1 ?_
    have key := HR.out w
    simp only [Fe.sync, hdt, Bool.false_eq_true, if_false] at key
    exact key (feed_close hok hs)
  | true =>
    have hl0 : 0 < f.l.length := List.length_pos_iff.2 (hd hdt)
    have hj : f.l.length - 1 < f.l.length := by omega
    obtain ⟨rb, off, p, cur, h4, hs⟩ := row_open hj rfl hs.swap
    have hgd := hok.l _ (List.getElem_mem hj)
    have hn63 : f.l.length ≤ 9223372036854775807 := by have := h4.nc; have := h4.c63; omega
    have hla : f.l.getLast? = some f.l[f.l.length - 1] := by rw [List.getLast?_eq_getElem?, List.getElem?_eq_getElem hj]
    generalize hsg : f.l[f.l.length - 1] = s at h4 hgd hla
    have key := HR.out
    simp only [Fe.sync, hdt, if_true, hla] at key
    refine go ?_
    refine C.held2 b rb hs ?_
    intro w1 hk hs
    refine goh ?_
    refine EH.tp 10 hk ?_ (hy := Pf.pv (Pv.indexAddr rfl rfl (h4.ix (i := (f.l.length : Int) - 1) (by omega))))
    refine EH.tp 11 hk ?_ (hy := Pf.loadp rfl (.there .here) ag_sg h4.at4 rfl)
    refine EH.al hs ?_
    intro b3 w2 hs
    refine kept2 hs (fun hk => ?_)
    refine goh ?_
    refine EH.sto (vs := s.cs) (ys := s.cs) hs ?_ (hv := rfl) (hsp := rfl)
    intro w3 hs
    refine kept2 hs (fun hk => ?_)
    refine goh ?_
    refine EH.done ?_
    refine go ?_
    refine C.held2 b3 b hs ?_
    intro w4 hk hs
    refine goh ?_
    refine EH.one (St.callf Tryz.func18 rfl ?_)
    refine segName_any (i := s.wr) (n := s.first) hg (by have := hok.wr; omega) hgd.2.2 hs ?_
    intro w5 hs
    refine kept2 hs (fun hk => ?_) (Hl.le_refl _)
    refine goh ?_
    refine EH.one (St.callf Tryz.func108 rfl ?_)
    refine sync_any hs.pull3 ?_
    intro w6 hs
    refine kept2 hs (fun hk => ?_) (Hl.le_refl _)
    refine goh ?_
    refine EH.done ?_
    refine go ?_
    by_cases hz : (d.sync (nameB s.wr s.first)).1 = 0
    · have hdd : (!decide ((d.sync (nameB s.wr s.first)).1 = 0)) = false := by simp [hz]
      refine C.cond rfl (fun h => by rw [hdd] at h; cases h) (fun _ => ?_)
      clear hdd
      refine go ?_
      refine E.sto (vs := [.bool false]) (ys := ({ f with dirty := false } : Fe).cs db a c) hs ?_ (hv := rfl) (hsp := rfl)
      intro w7 hs
      refine go ?_
      refine A.r1 ?_
      rw [if_pos hz, hz] at key
      have hs2 := row_close h4 (hs.swap.drop.push2)
      refine key w7 (feed_close (f := { f with dirty := false }) ⟨hok.wr, hok.floor, hok.time, hok.cap, hok.l⟩ hs2.swap)
    · have hdd : (!decide ((d.sync (nameB s.wr s.first)).1 = 0)) = true := by simp [hz]
      refine C.cond rfl (fun _ => ?_) (fun h => by rw [hdd] at h; cases h)
      clear hdd
      refine go ?_
      refine A.r1 ?_
      rw [if_neg hz] at key
      have hs2 := row_close h4 (hs.swap.drop.push2)
      exact key w6 (feed_close hok hs2.swap)
end Go.Proofs.YtdkbpcibmipelaaGreatDoor

/-
  append onto a row of one's own that begins behind the first place of its array, in a drawn region.
-/
namespace Go.Proofs.YtdkbpcibmipelaaGreatDoor
open Go.RowKit
set_option linter.unusedVariables false
set_option linter.unusedSimpArgs false
section
variable {P : Program} {n : Fm} {ρ : List (Nat × Value)} {W w w' : World} {g g' : Hl} {H H' : List HP} {Q : Exit → Act → World → Prop} {l : List Oper} {S : World → Prop} {fuel m i : Nat} {d : Option Tmp} {ty : TypeId} {ps : String} {af : Array Edge} {v u : Value} {x y : Operand} {t e : TypeId} {z : Value} {size bytes : Nat}
theorem Keeps.of3 {b1 b2 b3 : Nat} {x1 x2 x3 : List Value} {e1 e2 e3 : TypeId} (hs : Sat W w g' H) (hg : Hl.le g g' := by first | exact Hl.le_refl _ | assumption | exact Hl.le.trans (by assumption) (by assumption)) (h1 : Fd H b1 x1 e1 := by exact fd_) (h2 : Fd H b2 x2 e2 := by exact fd_) (h3 : Fd H b3 x3 e3 := by exact fd_) : Keeps g [(b1, x1, e1), (b2, x2, e2), (b3, x3, e3)] w := (((Keeps.of0 hs hg).ofs hs h3).ofs hs h2).ofs hs h1
theorem EH.appo {s : Operand} {a : Option Addr} {k c q : Nat} {xs news : List Value} (he : ElemOf P t e z size bytes) (hs : Sat W w g (owno e size (.slice a k c) k xs :: H)) {D : Nat → Prop} (hrow : Row size w D u q news)
    (h : ∀ a' c' w', Sat W w' g (owno e size (.slice a' (k + q) c') (k + q) (xs ++ news) :: H) → S w' ∧ EH P n l S fuel (bset m i) (pushv d (.slice a' (k + q) c') ρ) w' Q)
    (hr : rdy m l.length 0 l = [i] := by exact rfl) (hi : nth l i = some ⟨d, .call ⟨.builtin .append, #[s, y], #[t, t]⟩, ty, ps, af, none⟩ := by exact rfl) (h63 : k + q ≤ 9223372036854775807 := by omega) (hbytes : (k + q) * bytes ≤ 140737488355328 := by omega)
    (hx : evo n ρ s = some (.slice a k c) := by exact rfl) (hy : evo n ρ y = some u := by exact rfl) (h1 : ∀ x ∈ news, x.oneCell' = true := by first | exact bs_one _ | (intro u hu; simp only [List.mem_cons, List.not_mem_nil, or_false] at hu; rcases hu with rfl | rfl | rfl | rfl <;> exact rfl)) :
    EH P n l S (fuel + 1) m ρ w Q := EH.one (St.appo he hs hrow h h63 hbytes hx hy h1) hr hi
/-- s[1:] of such a row, wherever it lies. -/
theorem E.sla {ops : Array Oper} {rest : List Oper} {a : Option Addr} {k c : Nat} {lo : Operand} {kd : IntKind} {xs : List Value} (he : ElemOf P t e z size bytes) (hs : Sat W w g (owno e size (.slice a k c) k xs :: H)) (hk : 2 ≤ k)
    (h : ∀ a', Sat W w g (owno e size (.slice a' (k - 1) (c - 1)) (k - 1) (xs.drop size) :: H) → E P n ops rest (pushv d (.slice a' (k - 1) (c - 1)) ρ) w Q)
    (hx : evo n ρ x = some (.slice a k c) := by exact rfl) (h1 : evo n ρ lo = some (.int kd 1) := by exact rfl) :
    E P n ops (⟨d, .slice t x (some lo) none none, ty, ps, af, none⟩ :: rest) ρ w Q := by
  obtain ⟨_, _, _, e0, hkc, _, hN⟩ := hs.olen
  simp only [Value.slice.injEq] at e0
  obtain ⟨rfl, -, rfl⟩ := e0
  obtain ⟨b, off, _, ha, _⟩ := hs.oopen (fun h => by have := hN h; omega)
  subst ha
  exact E.slo he hs hk (fun hs => h _ hs) hx h1
end
end Go.Proofs.YtdkbpcibmipelaaGreatDoor

/-
  Layer 9 (feed): a new segment.
-/
namespace Go.Proofs.YtdkbpcibmipelaaGreatDoor
open Go.RowKit
set_option linter.unusedVariables false
set_option linter.unusedSimpArgs false

/-- What 'Create' tells. -/
def sgNew (er : Int) (i n : Nat) : Sg := if er = 0 then ⟨i, n, ⟨none, 0, []⟩, (headB ⟨115, i, n⟩).length⟩ else ⟨0, 0, ⟨none, 0, []⟩, 0⟩
theorem sgCreate_one {R : Ending → World → Prop} {W w : World} {g : Hl} {H : List HP} {b : Nat} {d : Dk} {i n : Nat} (hg : Gl g) (hi : i < 64) (hn : n < 18446744073709551616) (h0 : n ≠ 0) (hs : Sat W w g (disk b d :: H))
    (hR : ∀ w' g', Hl.le g g' → Sat W w' g' (disk b (d.begin (nameB i n) ⟨115, i, n⟩).2 :: H) → R (.returned (.tuple #[(sgNew (d.begin (nameB i n) ⟨115, i, n⟩).1 i n).val, .int .i64 (d.begin (nameB i n) ⟨115, i, n⟩).1])) w') :
    Calls Tryz.prog 83 #[ptr b, .int .i64 i, .int .u64 n] w R := by
  refine sgCreate_any hg hi hn h0 hs (fun w' g' hg' he hs => ?_) (fun w' g' hg' he hs => ?_)
  · have := hR w' g' hg' hs
    simp only [sgNew, if_pos he] at this
    rw [he] at this
    exact this
  · have := hR w' g' hg' hs
    simp only [sgNew, if_neg he] at this
    exact this

/-- How a new segment is made. -/
def Fe.roll (f : Fe) (d : Dk) (n : Nat) : Int × Fe × Dk :=
  if (f.sync d).1 ≠ 0 then f.sync d else
  let r := (f.sync d).2.2.begin (nameB f.wr n) ⟨115, f.wr, n⟩
  (r.1, if r.1 = 0 then { (f.sync d).2.1 with l := (f.sync d).2.1.l ++ [sgNew 0 f.wr n] } else (f.sync d).2.1, r.2)
theorem Fe.sync_wr (f : Fe) (d : Dk) : (f.sync d).2.1.wr = f.wr ∧ (f.sync d).2.1.l = f.l ∧ (f.sync d).2.1.floor = f.floor ∧ (f.sync d).2.1.time = f.time ∧ (f.sync d).2.1.cap = f.cap := by
  unfold Fe.sync
  split
  · split
    · simp only
      split <;> exact ⟨rfl, rfl, rfl, rfl, rfl⟩
    · exact ⟨rfl, rfl, rfl, rfl, rfl⟩
  · exact ⟨rfl, rfl, rfl, rfl, rfl⟩
theorem row_of_sg {W w : World} {g : Hl} {H : List HP} {b : Nat} {s : Sg} (hs : Sat W w g (blk b s.cs 29 :: H)) : Row 4 w (fun _ => True) (.slice (some ⟨b, 0, none⟩) 1 1) 1 s.cs := hs.rowOf (size := 4) 1 rfl (by decide)
theorem sg_one (s : Sg) : ∀ u ∈ s.cs, u.oneCell' = true := by
  intro u hu
  simp only [Sg.cs, List.mem_cons, List.not_mem_nil, or_false] at hu
  rcases hu with rfl | rfl | rfl | rfl <;> rfl

set_option maxHeartbeats 3200000 in
set_option maxRecDepth 100000 in
theorem froll_any {R : Ending → World → Prop} {W w : World} {g : Hl} {H : List HP} {b db : Nat} {f : Fe} {d : Dk} {n : Nat} (hg : Gl g) (hd : f.dirty = true → f.l ≠ []) (hn : n < 18446744073709551616) (h0 : n ≠ 0) (hln : f.l.length ≤ 1000000000) (hs : Sat W w g (feed b db f :: disk db d :: H))
    (hR : ∀ w' g', Hl.le g g' → Sat W w' g' (feed b db (f.roll d n).2.1 :: disk db (f.roll d n).2.2 :: H) → R (.returned (.int .i64 (f.roll d n).1)) w') : Calls Tryz.prog 107 #[ptr b, .int .u64 n] w R := by
  have HR := Lib.hid hR
  clear hR
  have ag1 := ag_sg
  refine C.calls (args := [ptr b, .int .u64 n]) Tryz.func107 rfl rfl rfl ?_
  refine go ?_
  refine E.callf Tryz.func37 rfl ?_
  refine fsync_any hg hd hs ?_
  intro w1 hs
  obtain ⟨e1, e2, -, -, -⟩ := f.sync_wr d
  have key := HR.out
  simp only [Fe.roll] at key
  have hwr : f.wr < 64 := by
    obtain ⟨_, _, h, _⟩ := feed_open hs
    have := h.wr
    omega
  generalize f.sync d = q at hs key e1 e2 ⊢
  obtain ⟨er, f1, d1⟩ := q
  simp only at hs key e1 e2 ⊢
  by_cases her : er = 0
  · subst her
    rw [if_neg (by simp)] at key
    refine go ?_
    obtain ⟨a, c, hok, hs⟩ := feed_open hs
    obtain ⟨fwr, fcap, ffl, ftm, fl, fdt⟩ := f1
    simp only at e1 e2
    subst e1 e2
    refine C.held1 b hs ?_
    intro w2 hk hs
    generalize hbg : d1.begin (nameB f.wr n) ⟨115, f.wr, n⟩ = r at key
    apply laterH (α := Nat × Hl) (f := fun q => [(0, ptr b), (6, ptr q.1), (24, (sgNew r.1 f.wr n).val), (25, .int .i64 r.1)])
      (M := fun q w => Hl.le g q.2 ∧ Sat W w q.2 (blk q.1 [.int .i64 0, .int .u64 0, .slice none 0 0, .int .i64 0] 29 :: blk b ((⟨f.wr, fcap, ffl, ftm, f.l, fdt⟩ : Fe).cs db a c) 167 :: disk db r.2 :: owno 29 4 (.slice a f.l.length c) f.l.length (sgC f.l) :: H))
    · intro B
      refine goh ?_
      refine EH.ora hs (St.callf Tryz.func83 rfl ?_) ?_
      · refine sgCreate_one (i := f.wr) (n := n) hg hwr hn h0 hs.pull2 ?_
        intro w3 g3 hg3 hs
        rw [hbg] at hs ⊢
        refine kept1 hs (fun hk => ?_) hg3
        refine goh ?_
        refine EH.al hs ?_
        intro b6 w4 hs
        refine kept1 hs (fun hk => ?_) hg3
        refine goh ?_
        exact EH.forget wk_ (B (b6, g3) _ ⟨hg3, hs.pull2.swap⟩)
      · intro b6 w3 hs
        refine kept1 hs (fun hk => ?_)
        refine goh ?_
        refine EH.one (St.callf Tryz.func83 rfl ?_)
        refine sgCreate_one (i := f.wr) (n := n) hg hwr hn h0 hs.pull3 ?_
        intro w4 g4 hg4 hs
        rw [hbg] at hs ⊢
        refine kept1 hs (fun hk => ?_) hg4
        refine goh ?_
        exact EH.forget wk_ (B (b6, g4) _ ⟨hg4, hs.push2⟩)
    clear hs hk
    rintro ⟨b6, g4⟩ w4 ⟨hg4, hs⟩
    simp only at hg4 hs ⊢
    have hk := Keeps.of1 hs hg4 (b1 := b)
    refine EH.sto (vs := (sgNew r.1 f.wr n).cs) (ys := (sgNew r.1 f.wr n).cs) hs ?_ (hv := rfl) (hsp := rfl)
    intro w5 hs
    refine kept1 hs (fun hk => ?_) hg4
    refine goh ?_
    refine EH.done ?_
    refine go ?_
    obtain ⟨er, d2⟩ := r
    simp only at key hs ⊢
    have hok4 := hok.mono hg4
    by_cases hz : er = 0
    · subst hz
      rw [if_pos rfl] at key
      rw [decide_eq_true rfl]
      refine go ?_
      refine C.heldN hs ?_
      intro w6 hs
      have hk : Keeps g4 [(b6, (sgNew 0 f.wr n).cs, 29), (b, (⟨f.wr, fcap, ffl, ftm, f.l, fdt⟩ : Fe).cs db a c, 167)] w6 := Keeps.of2 hs (Hl.le_refl _)
      refine EH.tail 1024 1024 1023 10 1 (Keeps g4 [(b6, (sgNew 0 f.wr n).cs, 29), (b, (⟨f.wr, fcap, ffl, ftm, f.l, fdt⟩ : Fe).cs db a c, 167)]) (fun _ _ => trivial) ?_
      refine goh ?_
      refine EH.bsle el_sg hs (cs := (sgNew 0 f.wr n).cs) rfl ?_
      intro b7 w7 hs
      refine kept2 hs (fun hk => ?_)
      refine goh ?_
      refine EH.appo el_sg hs.pull4 (row_of_sg hs) ?_ (h1 := sg_one _)
      intro a8 c8 w8 hs
      refine kept2 hs (fun hk => ?_)
      refine goh ?_
      refine EH.done ?_
      refine A.mid ?_
      refine EH.sto (vs := [.slice a8 (f.l.length + 1) c8]) (ys := (⟨f.wr, fcap, ffl, ftm, f.l ++ [sgNew 0 f.wr n], fdt⟩ : Fe).cs db a8 c8) hs ?_ (hv := rfl) (hsp := by simp only [Fe.cs, List.length_append, List.length_singleton]; rfl)
      intro w9 hs
      refine ⟨trivial, ?_⟩
      refine EH.done ?_
      refine go ?_
      refine A.r1 ?_
      refine key w9 g4 hg4 (feed_close (a := a8) (c := c8) ⟨hok4.wr, hok4.floor, hok4.time, hok4.cap, fun s hs' => ?_⟩ ?_)
      · rcases List.mem_append.1 hs' with h | h
        · exact hok4.l s h
        · rw [List.mem_singleton.1 h]
          exact ⟨⟨Pr.nil, fun e he => by cases he⟩, rfl, hn⟩
      · rw [sgC_append, sgC_one, List.length_append, List.length_singleton]
        exact hs.swap.drop.swap.drop.swap
    · rw [decide_eq_false hz]
      refine go ?_
      refine A.r1 ?_
      rw [if_neg hz] at key
      exact key w5 g4 hg4 (feed_close hok4 hs.drop.pull2.swap)
  · have hdd : (!decide (er = 0)) = true := by simp [her]
    rw [if_pos her] at key
    refine go ?_
    refine C.cond rfl (fun _ => ?_) (fun h => by rw [hdd] at h; cases h)
    refine go ?_
    refine A.r1 ?_
    exact key w1 g (Hl.le_refl _) hs
end Go.Proofs.YtdkbpcibmipelaaGreatDoor
