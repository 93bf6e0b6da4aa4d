/-
  Layer 11 (fold): Copy; Apply.
-/
import Derived.Test.YtkolnecahlkndaaFa
import Derived.Laws.FloatBits
namespace Go.Proofs.Ytkolnecahlkndaa
open Go.RowKit
set_option linter.unusedVariables false
set_option linter.unusedSimpArgs false

/-- The model's entry for maps.clone. -/
theorem run_mclone {P : Program} {W w : World} {g : Hl} {H : List HP} {κ : Type} [DecidableEq κ] {enc : κ → Value} {mb : Nat} {l : List (κ × Value)} (t : TypeId) (hs : Sat W w g (mp enc mb l :: H)) :
    ∃ w', (Extern.MapsClone.clone #[.iface t (.map (some mb))]).run P w = .ok (.iface t (.map (some w.heap.size))) w' ∧ Sat W w' g (mp enc w.heap.size l :: mp enc mb l :: H) := by
  obtain ⟨es, clock, he, ho⟩ := mp_open hs
  have e : Extern.MapsClone.clone #[.iface t (.map (some mb))] = (getObj mb >>= fun o => match o with
      | .map entries clock => (newObj (.map entries clock) >>= fun n => pure (.iface t (.map (some n))))
      | _ => stuck "maps.clone: a map expected") := rfl
  refine ⟨w.alloc (.map es clock), ?_, ?_⟩
  · rw [e]
    simp [getObj, Sem.run, ho.heap, Result.andThen, newObj]
  · exact mp_close he ((mp_close he (ho.alloc (.map es clock)).swap).swap)

set_option maxHeartbeats 1600000 in
set_option maxRecDepth 100000 in
theorem mclone_any {R : Ending → World → Prop} {W w : World} {g : Hl} {H : List HP} {mb : Nat} {l : List (List UInt8 × Value)} (hs : Sat W w g (mp str mb l :: H))
    (hR : ∀ mb' w', Sat W w' g (mp str mb' l :: mp str mb l :: H) → R (.returned (.map (some mb'))) w') : Calls Try.prog 37 #[.map (some mb)] w R := by
  have HR := Lib.hid hR
  clear hR
  refine C.calls (args := [.map (some mb)]) Try.func37 rfl rfl rfl ?_
  refine go ?_
  obtain ⟨w2, hr, hs2⟩ := run_mclone (P := Try.prog) 65 hs
  refine E.ext Try.func59 (ex := Extern.MapsClone.clone) hr ?_
  refine go ?_
  refine A.r1 ?_
  exact HR.out _ _ hs2

theorem foC_one {mb : Nat} {f : Fo} {a : Option Addr} {n c : Nat} : (foC mb (.slice a n c) f).all Value.oneCell' = true := by
  simp only [foC, List.all_cons, List.all_append, List.all_map, List.all_nil, Bool.and_true, Bool.and_eq_true]
  refine ⟨rfl, ?_, ?_, rfl, rfl, rfl, rfl⟩ <;> exact List.all_eq_true.2 fun x _ => rfl

set_option maxHeartbeats 1600000 in
set_option maxRecDepth 100000 in
theorem foldCopy_any {R : Ending → World → Prop} {W w : World} {g : Hl} {H : List HP} {b : Nat} {f : Fo} (hs : Sat W w g (fold b f :: H))
    (hR : ∀ b' w', Sat W w' g (fold b' f :: fold b f :: H) → R (.returned (ptr b')) w') : Calls Try.prog 22 #[ptr b] w R := by
  have HR := Lib.hid hR
  clear hR
  obtain ⟨i, hi, hs⟩ := fold_open hs
  have h1 := hi.ok.mem
  have h2 := hi.ok.ret
  simp only [foB] at hs
  refine C.calls (args := [.pointer (some ⟨b, 0, none⟩)]) Try.func22 rfl rfl rfl ?_
  refine go ?_
  refine E.lda hs ag_fold ?_ (hk := foC_len h1 h2)
  refine E.al hs (xs := Value.map none :: (foC 0 (.slice none 0 0) { foNew 0 with mark := 0 }).tail) ?_ (hx := rfl)
  intro b2 w2 hs
  have hl := foC_len (mb := i.mb) (hv := i.hv f) h1 h2
  refine E.sto (vs := foC i.mb (i.hv f) f) hs ?_ (hv := rfl) (hsp := spl_all (by rw [hl]; rfl)) (hj := by rw [hl]; rfl) (h1 := foC_one) (ht := by rw [hl]; exact sz_)
  intro w3 hs
  refine go ?_
  refine E.callf Try.func37 rfl ?_
  refine mclone_any hs.pull2 ?_
  intro mb' w4 hs
  refine go ?_
  refine E.sto hs ?_ (hsp := foC_setmap mb')
  intro w5 hs
  refine go ?_
  refine A.r1 ?_
  have hs1 := fold_close (b := b) i hi (hs.pull3.perm (List.Perm.cons _ (.swap _ _ _)))
  have hs2 := fold_close (b := b2) ⟨mb', i.L, i.a, i.c⟩ ⟨hi.ok, hi.plain, hi.tvs, hi.vec⟩ (hs1.pull2.perm (List.Perm.cons _ (.swap _ _ _)))
  exact HR.out _ _ hs2

/-- How bytes turn the mark. -/
def markB (m : Nat) (b : UInt8) : Nat := (m ^^^ b.toNat) * 1099511628211 % 18446744073709551616
def Fo.cell (f : Fo) (k : List UInt8) : Option Ce := aget k f.cells
/-- With one more event. -/
def Fo.add (f : Fo) (e : Ev) : Fo where
  cells := if e.kd = 1 then aput e.key ⟨1, e.text, 0⟩ f.cells
    else if e.kd = 2 then aput e.key ⟨2, [], bitsF e.num⟩ f.cells
    else if e.kd = 3 then aput e.key ⟨2, [], if ((aget e.key f.cells).map Ce.kd).getD 0 = 2 then sumF (((aget e.key f.cells).map Ce.num).getD 0) e.num else bitsF e.num⟩ f.cells
    else if e.kd = 4 then adrop e.key f.cells else f.cells
  mem := if e.kd = 5 then f.mem.set e.nd.toNat true else f.mem
  ret := if e.kd = 6 then f.ret.set e.wr.toNat true else f.ret
  vec := vwith f.vec e.wr e.sq
  tm := e.tm
  wr := e.wr
  mark := e.enc.foldl markB f.mark
/-- One more event: the error's number, and what there is then. -/
def Fo.step (f : Fo) (e : Ev) : Int × Fo :=
  if e.right ≠ 0 then (e.right, f) else if cmpS e.tm e.wr f.tm f.wr ≤ 0 then (10, f) else if e.sq ≠ (vget f.vec e.wr + 1) % 18446744073709551616 then (9, f) else (0, f.add e)


theorem fold_mark_lt : ∀ (l : List UInt8) (m : Nat), m < 18446744073709551616 → l.foldl markB m < 18446744073709551616 := by
  intro l
  induction l with
  | nil => exact fun m h => h
  | cons x r ih => exact fun m _ => ih _ (Nat.mod_lt _ (by decide))
section
variable {κ β : Type} [DecidableEq κ]
theorem aput_mem {k : κ} {v : β} {p : κ × β} : ∀ {l : List (κ × β)}, p ∈ aput k v l → p = (k, v) ∨ p ∈ l
  | [], h => by simp only [aput, List.mem_singleton] at h; exact .inl h
  | (a, u) :: r, h => by
    simp only [aput] at h
    split at h
    · rename_i e
      subst e
      rcases List.mem_cons.1 h with h | h
      · exact .inl h
      · exact .inr (List.mem_cons_of_mem _ h)
    · rcases List.mem_cons.1 h with h | h
      · exact .inr (h ▸ List.mem_cons_self ..)
      · rcases aput_mem h with h | h
        · exact .inl h
        · exact .inr (List.mem_cons_of_mem _ h)
theorem adrop_sub (k : κ) : ∀ (l : List (κ × β)), (adrop k l).Sublist l
  | [] => List.Sublist.refl _
  | (a, u) :: r => by
    simp only [adrop]
    split
    · exact List.sublist_cons_self _ _
    · exact (adrop_sub k r).cons_cons _
theorem aput_keys {k : κ} {v : β} : ∀ (l : List (κ × β)), ((aput k v l).map Prod.fst = l.map Prod.fst ∧ k ∈ l.map Prod.fst) ∨ ((aput k v l).map Prod.fst = l.map Prod.fst ++ [k] ∧ k ∉ l.map Prod.fst)
  | [] => .inr ⟨rfl, by simp⟩
  | (a, u) :: r => by
    simp only [aput]
    by_cases e : k = a
    · subst e
      rw [if_pos rfl]
      exact .inl ⟨rfl, by simp⟩
    · rw [if_neg e]
      rcases aput_keys (k := k) (v := v) r with ⟨h1, h2⟩ | ⟨h1, h2⟩
      · exact .inl ⟨by simp [h1], by simp [h2]⟩
      · refine .inr ⟨by simp [h1], ?_⟩
        simp only [List.map_cons, List.mem_cons, not_or]
        exact ⟨e, h2⟩
theorem aput_nodup {k : κ} {v : β} {l : List (κ × β)} (h : (l.map Prod.fst).Nodup) : ((aput k v l).map Prod.fst).Nodup := by
  rcases aput_keys (k := k) (v := v) l with ⟨h1, h2⟩ | ⟨h1, h2⟩
  · rw [h1]; exact h
  · rw [h1]
    refine List.nodup_append.2 ⟨h, by simp, fun a ha b hb => ?_⟩
    simp only [List.mem_singleton] at hb
    subst hb
    rintro rfl
    exact h2 ha
theorem aget_mem {k : κ} {v : β} : ∀ {l : List (κ × β)}, aget k l = some v → (k, v) ∈ l
  | [], h => by cases h
  | (a, u) :: r, h => by
    simp only [aget] at h
    split at h
    · rename_i e
      subst e
      simp only [Option.some.injEq] at h
      subst h
      exact List.mem_cons_self ..
    · exact List.mem_cons_of_mem _ (aget_mem h)
end
theorem plain_put (k : List UInt8) (c : Ce) (v : Value) (L : Cs) : Cs.plain (aput k (c, v) L) = aput k c (Cs.plain L) := (as_map (Prod.fst : Ce × Value → Ce) k (c, v) L).symm
theorem plain_drop (k : List UInt8) (L : Cs) : Cs.plain (adrop k L) = adrop k (Cs.plain L) := (ad_map (Prod.fst : Ce × Value → Ce) k L).symm
theorem cmap_put (mb : Nat) (k : List UInt8) (c : Ce) (v : Value) (L : Cs) : cmap mb (aput k (c, v) L) = mp str mb (aset k (ceV c v) (L.map fun p => (p.1, ceV p.2.1 p.2.2))) := by
  unfold cmap
  rw [← aset_map (fun p : Ce × Value => ceV p.1 p.2) k (c, v) L]
theorem cmap_drop (mb : Nat) (k : List UInt8) (L : Cs) : cmap mb (adrop k L) = mp str mb (adel k (L.map fun p => (p.1, ceV p.2.1 p.2.2))) := by
  unfold cmap
  rw [← adel_map (fun p : Ce × Value => ceV p.1 p.2) k L]
theorem sumF_lt (a b : Nat) : sumF a b < 18446744073709551616 := by
  unfold sumF
  split
  · rename_i r h
    exact bitsF_lt (Ieee.Format.add_lt _ h)
  · decide
theorem Fo.add_ok {f : Fo} {e : Ev} {g : Hl} (h : f.ok) (he : e.ok g) (hk : 1 ≤ e.kd) : (f.add e).ok := by
  refine ⟨?_, ?_, vwith_len _ _ _ h.vec, vwith_lt _ _ _ h.vlt he.sq, he.tm, he.wr, ?_, ?_, ?_⟩
  · simp only [Fo.add]; split <;> simp [h.mem]
  · simp only [Fo.add]; split <;> simp [h.ret]
  · exact fold_mark_lt _ _ h.mark
  · have key : ∀ (c : Ce), c.ok → ∀ p ∈ aput e.key c f.cells, p.2.ok ∧ p.1.length ≤ 100000000 := fun c hc p hp => by
      rcases aput_mem hp with rfl | hp
      · exact ⟨hc, he.key⟩
      · exact h.cells p hp
    have hn := he.num
    have hb : bitsF e.num < 18446744073709551616 := bitsF_lt hn
    simp only [Fo.add]
    split
    · exact key _ ⟨by simp, by simp, he.text⟩
    split
    · exact key _ ⟨by simp, hb, by simp⟩
    split
    · refine key _ ⟨by simp, ?_, by simp⟩
      simp only
      split
      · exact sumF_lt _ _
      · exact hb
    split
    · exact fun p hp => h.cells p ((adrop_sub _ _).subset hp)
    · exact h.cells
  · simp only [Fo.add]
    split
    · exact aput_nodup h.keys
    split
    · exact aput_nodup h.keys
    split
    · exact aput_nodup h.keys
    split
    · exact h.keys.sublist ((adrop_sub _ _).map _)
    · exact h.keys
set_option maxHeartbeats 3200000 in
set_option maxRecDepth 100000 in
theorem foldApply_any {R : Ending → World → Prop} {W w : World} {g : Hl} {H : List HP} {b : Nat} {f : Fo} {e : Ev} (ho : e.ok g) (hs : Sat W w g (fold b f :: H))
    (hR : ∀ w' g', Hl.le g g' → Sat W w' g' (fold b (f.step e).2 :: H) → R (.returned (.int .i64 (f.step e).1)) w') : Calls Try.prog 23 #[ptr b, e.val] w R := by
  have HR := Lib.hid hR
  clear hR
  have ag1 := ag_ev
  have ag2 := ag_spot
  refine C.calls (args := [.pointer (some ⟨b, 0, none⟩), e.val]) Try.func23 rfl rfl rfl ?_
  refine go ?_
  refine E.bx hs (xs := e.cs) ?_ (hx := rfl)
  intro b3 w1 hs
  refine go ?_
  refine E.callf Try.func38 rfl ?_
  refine right_any (e := e) ho hs ?_
  intro w2 hs
  refine go ?_
  cases hr : decide (e.right = 0) with
  | false =>
    have hr := of_decide_eq_false hr
    refine go ?_
    refine A.r1 ?_
    have := HR.out w2 g (Hl.le_refl _)
    simp only [Fo.step] at this
    rw [if_pos hr] at this
    exact this hs.drop
  | true =>
  have hr := of_decide_eq_true hr
  obtain ⟨i, hi, hs'⟩ := fold_open hs.swap
  have h1 := hi.ok.mem
  have h2 := hi.ok.ret
  replace hs := hs'.pull2
  clear hs'
  simp only [foB] at hs
  refine go ?_
  refine C.held2 b3 b hs ?_
  intro w3 hk hs
  refine goh ?_
  refine EH.t1 hk ?_ (hy := Pf.loadp rfl (.there .here) ag_spot (foC_last h1 h2) rfl)
  refine goh ?_
  refine EH.one (St.callf Try.func39 rfl ?_)
  refine at_any (e := e) hs ?_
  intro w4 hs
  refine kept2 hs (fun hk => ?_)
  refine goh ?_
  refine EH.one (St.callf Try.func24 rfl ?_)
  refine compare_any (t1 := e.tm) (w1 := e.wr) (t2 := f.tm) (w2 := f.wr) hs ?_
  intro w5 hs
  refine kept2 hs (fun hk => ?_)
  refine goh ?_
  refine EH.done ?_
  refine go ?_
  cases hc : decide (cmpS e.tm e.wr f.tm f.wr ≤ 0) with
  | true =>
    have hc := of_decide_eq_true hc
    refine go ?_
    refine A.r1 ?_
    have := HR.out w5 g (Hl.le_refl _)
    simp only [Fo.step] at this
    rw [if_neg (by omega), if_pos hc] at this
    exact this (fold_close i hi hs.drop)
  | false =>
  have hc := of_decide_eq_false hc
  refine go ?_
  refine C.held2 b3 b hs ?_
  intro w6 hk hs
  have rd : Rd (Keeps g [(b3, e.cs, 43), (b, foC i.mb (i.hv f) f, 69)]) b 129 (i.hv f) := Rd.blk (.there .here) (foC_129 h1 h2)
  have hsq := ho.sq
  refine goh ?_
  refine EH.one (St.callf Try.func40 rfl ?_)
  refine vget_any (i := e.wr) hs hi.vec rfl (by have := hi.ok.vec; omega) ?_
  refine kept2 hs (fun hk => ?_)
  refine goh ?_
  refine EH.done ?_
  refine go ?_
  have ew : IntKind.u64.wrap ((vget f.vec e.wr : Nat) + 1 : Int) = (((vget f.vec e.wr + 1) % 18446744073709551616 : Nat) : Int) := u64_mod _
  cases hg : decide ((e.sq : Int) = IntKind.u64.wrap ((vget f.vec e.wr : Nat) + 1 : Int)) with
  | false =>
    have hg := of_decide_eq_false hg
    rw [ew] at hg
    refine go ?_
    refine A.r1 ?_
    have := HR.out w6 g (Hl.le_refl _)
    simp only [Fo.step] at this
    rw [if_neg (by omega), if_neg hc, if_pos (by omega)] at this
    exact this (fold_close i hi hs.drop)
  | true =>
  have hg := of_decide_eq_true hg
  rw [ew] at hg
  have HR2 : ∀ w' g', Hl.le g g' → Sat W w' g' (fold b (f.add e) :: H) → R (.returned (.int .i64 0)) w' := fun w' g' => by
    have := HR.out w' g'
    simp only [Fo.step] at this
    rw [if_neg (by omega), if_neg hc, if_neg (by omega)] at this
    exact this
  clear HR ew
  have HR := Lib.hid HR2
  clear HR2
  refine go ?_
  refine C.held1 b3 hs ?_
  intro w7 hk hs
  refine goh ?_
  refine EH.ld hs ?_ (hj := foC_129 h1 h2)
  refine kept1 hs (fun hk => ?_)
  refine goh ?_
  refine EH.one (St.callf Try.func41 rfl ?_)
  refine vwith_any (i := e.wr) hs hi.vec rfl (by have := hi.ok.vec; omega) ?_
  intro a8 c8 w8 g8 hg8 hp8 hs
  refine kept1 hs (fun hk => ?_)
  refine goh ?_
  refine EH.one (St.callf Try.func39 rfl ?_)
  refine at_any (e := e) hs ?_
  intro w9 hs
  refine kept1 hs (fun hk => ?_)
  refine goh ?_
  refine EH.sto hs ?_ (hsp := foC_set129 h1 h2 _) (hj := by rw [foC_len h1 h2]; rfl)
  intro w10 hs
  refine kept1 hs (fun hk => ?_)
  refine goh ?_
  refine EH.sto hs ?_ (hv := (rfl : (spot e.tm e.wr).cells.toList = [.int .u64 e.tm, .int .i64 e.wr])) (hsp := foC_set130 h1 h2 e.tm e.wr) (hj := by rw [foC_len h1 h2]; rfl)
  intro w11 hs
  refine kept1 hs (fun hk => ?_)
  refine goh ?_
  refine EH.done ?_
  refine go ?_
  have hwr : 0 ≤ e.wr ∧ e.wr < 64 := by
    have := hr
    unfold Ev.right at this
    split at this
    · omega
    · rename_i h; omega
  have hnd : e.kd = 5 → 0 ≤ e.nd ∧ e.nd < 64 := by
    have := hr
    unfold Ev.right at this
    split at this
    · omega
    · rename_i h; omega
  have ho8 := ho.mono hg8
  refine E.callf Try.func42 rfl ?_
  refine encode_any (e := e) ho8 hwr.1 (fun h => (hnd h).1) hs ?_
  intro a12 c12 w12 g12 hg12 hs
  obtain ⟨g13, hg13, hp13, hs⟩ := hs.publishOwn
  have hel := Ev.enc_len e (by omega) ho.sq ho.tm (by have := ho.key; omega) (by have := ho.text; omega) (by have := ho.nd; omega)
  have hel2 : e.enc.length ≤ 1000000000 := by have := ho.key; have := ho.text; omega
  have hkd := ho.kd
  have hmk := hi.ok.mark
  have hf3 : ∀ (l : List UInt8) (m : Nat), m < 18446744073709551616 → l.foldl markB m < 18446744073709551616 := fold_mark_lt
  have hp8' := (hp8.mono hg12).mono hg13
  have hgl : Hl.le g g13 := (hg8.trans hg12).trans hg13
  have hi13 := hi.mono hgl
  have ho13 := ho.mono hgl
  have hkr : 1 ≤ e.kd ∧ e.kd ≤ 6 := by
    have := hr
    unfold Ev.right at this
    split at this
    · omega
    · rename_i h; omega
  clear hp8 ho8 hg8 hg12 hg13 rd hk hc hg hr
  refine gob ?_
  refine C.cut (fun _ : Unit => [(0, .pointer (some ⟨b, 0, none⟩)), (3, .pointer (some ⟨b3, 0, none⟩))])
    (fun _ w => Sat W w g13 (blk b3 e.cs 43 :: blk b (foC i.mb (.slice a8 (vwith f.vec e.wr e.sq).length c8) { f with tm := e.tm, wr := e.wr, mark := e.enc.foldl markB f.mark }) 69 :: cmap i.mb i.L :: H)) ?_ ?_
  · refine C.block ?_
    refine C.lp (fun k : Nat => [(0, .pointer (some ⟨b, 0, none⟩)), (3, .pointer (some ⟨b3, 0, none⟩)), (58, .slice a12 e.enc.length c12), (59, .int .i64 e.enc.length), (60, .int .i64 k)])
      (fun gk k w => gk = e.enc.length - k ∧ k ≤ e.enc.length ∧ Sat W w g13 (blk b3 e.cs 43 :: blk b (foC i.mb (.slice a8 (vwith f.vec e.wr e.sq).length c8) { f with tm := e.tm, wr := e.wr, mark := (e.enc.take k).foldl markB f.mark }) 69 :: cmap i.mb i.L :: H)) e.enc.length 0 ⟨rfl, Nat.zero_le _, hs⟩ ?_
    clear hs
    rintro gk k w13 ⟨rfl, hk, hs⟩
    refine go ?_
    refine C.cond_dec (p := (k : Int) < e.enc.length) rfl (fun h => ?_) (fun h => ?_)
    · refine go ?_
      refine E.ix el_u8 hs hp13 k (bs_get (by omega)) ?_
      intro b14 o14 hc14
      have hb := (e.enc[k]'(by omega)).toNat_lt
      have hm := hf3 (e.enc.take k) f.mark hmk
      refine go ?_
      refine E.ld hs ?_ (v := .int .u64 ((e.enc.take k).foldl markB f.mark : Nat)) (hf := .there .here) (hj := foC_132 (f := { f with tm := e.tm, wr := e.wr, mark := (e.enc.take k).foldl markB f.mark }) h1 h2)
      refine go ?_
      have emk : IntKind.u64.wrap ((((e.enc.take k).foldl markB f.mark ^^^ (e.enc[k]'(by omega)).toNat : Nat) : Int) * 1099511628211) = ((markB ((e.enc.take k).foldl markB f.mark) (e.enc[k]'(by omega)) : Nat) : Int) := by
        have := u64_mod (((e.enc.take k).foldl markB f.mark ^^^ (e.enc[k]'(by omega)).toNat) * 1099511628211)
        rw [← show ((1099511628211 : Nat) : Int) = 1099511628211 from rfl, ← Int.natCast_mul, this, markB]
      rw [emk]
      refine E.sto hs ?_ (hsp := foC_set132 (f := { f with tm := e.tm, wr := e.wr, mark := (e.enc.take k).foldl markB f.mark }) h1 h2 _) (hj := by rw [foC_len (f := { f with tm := e.tm, wr := e.wr, mark := (e.enc.take k).foldl markB f.mark }) h1 h2]; rfl)
      intro w15 hs
      refine go ?_
      refine A.rd (e.enc.length - (k + 1)) (k + 1) ⟨rfl, by omega, ?_⟩
      rw [List.take_succ_eq_append_getElem (by omega), List.foldl_append, List.foldl_cons, List.foldl_nil]
      exact hs
    · obtain rfl : k = e.enc.length := by omega
      rw [List.take_length] at hs
      refine go ?_
      exact A.mt () hs
  clear hs
  rintro _ w14 hs
  have hadd : (f.add e).ok := Fo.add_ok hi.ok ho hkr.1
  have fin : ∀ (L' : Cs) w' g', Hl.le g13 g' → Cs.plain L' = (f.add e).cells → L'.tvs g' → Sat W w' g' (blk b (foC i.mb (.slice a8 (vwith f.vec e.wr e.sq).length c8) (f.add e)) 69 :: cmap i.mb L' :: H) → R (.returned (.int .i64 0)) w' := fun L' w' g' hg' hp' ht' hs' =>
    HR.out w' g' (hgl.trans hg') (fold_close ⟨i.mb, L', a8, c8⟩ ⟨hadd, hp', ht', hp8'.mono hg'⟩ hs')
  clear HR
  have HR := Lib.hid fin
  clear fin
  have hfc : e.kd ≠ 5 → e.kd ≠ 6 → ∀ hv, foC i.mb hv { f with tm := e.tm, wr := e.wr, mark := e.enc.foldl markB f.mark } = foC i.mb hv (f.add e) := fun h5 h6 hv => by simp [foC, Fo.add, h5, h6]
  obtain ⟨at_, ct, etv, htc, _⟩ := ho13.tv.len
  have h1' : ({ f with tm := e.tm, wr := e.wr, mark := e.enc.foldl markB f.mark } : Fo).mem.length = 64 := h1
  have h2' : ({ f with tm := e.tm, wr := e.wr, mark := e.enc.foldl markB f.mark } : Fo).ret.length = 64 := h2
  generalize hf' : ({ f with tm := e.tm, wr := e.wr, mark := e.enc.foldl markB f.mark } : Fo) = f' at hs hfc h1' h2'
  generalize hh8 : Value.slice a8 (vwith f.vec e.wr e.sq).length c8 = hv8 at hs HR
  have hcases : e.kd = 1 ∨ e.kd = 2 ∨ e.kd = 3 ∨ e.kd = 4 ∨ e.kd = 5 ∨ e.kd = 6 := by omega
  rcases hcases with hq | hq | hq | hq | hq | hq
  · -- Set
    rw [hfc (by omega) (by omega)] at hs
    refine go ?_
    rw [show decide ((e.kd : Int) = 1) = true from decide_eq_true (by omega)]
    refine go ?_
    refine C.held2 b3 b hs ?_
    intro w15 hk hs
    have rd0 : Rd (Keeps g13 [(b3, e.cs, 43), (b, foC i.mb hv8 (f.add e), 69)]) b 0 (.map (some i.mb)) := Rd.blk (.there .here) foC_0
    refine goh ?_
    rw [etv]
    have htv := ho13.tv
    rw [etv] at htv
    refine EH.one (St.callf Try.func43 rfl ?_)
    refine bclone_any hs htv (by have := ho13.text; omega) ?_
    intro a16 c16 w16 g16 hg16 hp16 hs
    refine kept2 hs (fun hk => ?_)
    refine goh ?_
    refine EH.one (St.mapUpdate ky_str Try.underlying65 hs rfl rfl rfl (.there (.there .here)) ?_)
    intro w17 hs
    refine kept2 hs (fun hk => ?_)
    refine goh ?_
    refine EH.done ?_
    refine go ?_
    refine A.r1 ?_
    refine HR.out (aput e.key (⟨1, e.text, 0⟩, .slice a16 e.text.length c16) i.L) _ _ hg16 ?_ ?_ ?_
    · rw [plain_put, hi13.plain]
      simp [Fo.add, hq]
    · intro p hp
      rcases aput_mem hp with rfl | hp
      · exact hp16
      · exact (hi13.tvs p hp).mono hg16
    · rw [cmap_put]
      exact hs.drop
  · -- Put
    rw [hfc (by omega) (by omega)] at hs
    refine go ?_
    rw [show decide ((e.kd : Int) = 1) = false from decide_eq_false (by omega)]
    refine go ?_
    rw [show decide ((e.kd : Int) = 2) = true from decide_eq_true (by omega)]
    refine go ?_
    refine C.held2 b3 b hs ?_
    intro w15 hk hs
    have rd0 : Rd (Keeps g13 [(b3, e.cs, 43), (b, foC i.mb hv8 (f.add e), 69)]) b 0 (.map (some i.mb)) := Rd.blk (.there .here) foC_0
    refine goh ?_
    refine EH.one (St.callf Try.func44 rfl ?_)
    refine plain_any ?_
    refine kept2 hs (fun hk => ?_)
    refine goh ?_
    refine EH.one (St.mapUpdate ky_str Try.underlying65 hs rfl rfl rfl (.there (.there .here)) ?_)
    intro w17 hs
    refine kept2 hs (fun hk => ?_)
    refine goh ?_
    refine EH.done ?_
    refine go ?_
    refine A.r1 ?_
    refine HR.out (aput e.key (⟨2, [], bitsF e.num⟩, .slice none 0 0) i.L) _ _ (Hl.le_refl _) ?_ ?_ ?_
    · rw [plain_put, hi13.plain]
      simp [Fo.add, hq]
    · intro p hp
      rcases aput_mem hp with rfl | hp
      · exact Pr.nil
      · exact hi13.tvs p hp
    · rw [cmap_put]
      exact hs.drop
  · -- Add
    rw [hfc (by omega) (by omega)] at hs
    refine go ?_
    rw [show decide ((e.kd : Int) = 1) = false from decide_eq_false (by omega)]
    refine go ?_
    rw [show decide ((e.kd : Int) = 2) = false from decide_eq_false (by omega)]
    refine go ?_
    rw [show decide ((e.kd : Int) = 3) = true from decide_eq_true (by omega)]
    refine go ?_
    obtain ⟨c, tv, hone, hcell, hck, hcn⟩ : ∃ (c : Ce) (tv : Value), tv.oneCell' = true ∧ (alook e.key (i.L.map fun p => (p.1, ceV p.2.1 p.2.2))).getD (.agg #[.int .u8 0, .slice none 0 0, .float .f64 0]) = .agg #[.int .u8 c.kd, tv, .float .f64 c.num] ∧ ((aget e.key f.cells).map Ce.kd).getD 0 = c.kd ∧ ((aget e.key f.cells).map Ce.num).getD 0 = c.num := by
      have e1 := alook_map (fun p : Ce × Value => ceV p.1 p.2) e.key i.L
      have e2 := al_map (Prod.fst : Ce × Value → Ce) e.key i.L
      rw [e1]
      have e3 : aget e.key f.cells = (aget e.key i.L).map Prod.fst := by rw [← hi13.plain]; exact e2
      rw [e3]
      cases hL : aget e.key i.L with
      | none => exact ⟨⟨0, [], 0⟩, .slice none 0 0, rfl, rfl, rfl, rfl⟩
      | some p =>
        refine ⟨p.1, p.2, ?_, rfl, rfl, rfl⟩
        obtain ⟨_, _, ep, _⟩ := (hi13.tvs _ (aget_mem hL)).len
        simp only at ep
        rw [ep]
        rfl
    refine C.cut (fun b8 : Nat => [(0, .pointer (some ⟨b, 0, none⟩)), (3, .pointer (some ⟨b3, 0, none⟩)), (8, .pointer (some ⟨b8, 0, none⟩))])
      (fun b8 w => Sat W w g13 (blk b8 [.int .u8 c.kd, tv, .float .f64 c.num] 77 :: blk b3 e.cs 43 :: blk b (foC i.mb hv8 (f.add e)) 69 :: cmap i.mb i.L :: H)) ?_ ?_
    · refine C.held2 b3 b hs ?_
      intro w15 hk hs
      have rd0 : Rd (Keeps g13 [(b3, e.cs, 43), (b, foC i.mb hv8 (f.add e), 69)]) b 0 (.map (some i.mb)) := Rd.blk (.there .here) foC_0
      refine goh ?_
      refine EH.ora hs (St.lookup (z := .agg #[.int .u8 0, .slice none 0 0, .float .f64 0]) ky_str Try.underlying65 (by go_simp; first | done | rfl) hs (.there (.there .here)) rfl rfl ?_) ?_
      · simp only [Bool.false_eq_true, if_false, hcell]
        refine kept2 hs (fun hk => ?_)
        refine EH.al hs ?_
        intro b8 w16 hs
        refine kept2 hs (fun hk => ?_)
        refine EH.sto hs ?_ (h1 := by simp only [List.all_cons, List.all_nil, hone, Bool.and_true]; rfl)
        intro w17 hs
        refine kept2 hs (fun hk => ?_)
        refine EH.done ?_
        exact A.mt b8 hs
      · intro b8 w16 hs
        refine kept2 hs (fun hk => ?_)
        refine EH.one (St.lookup (z := .agg #[.int .u8 0, .slice none 0 0, .float .f64 0]) ky_str Try.underlying65 (by go_simp; first | done | rfl) hs (.there (.there (.there .here))) rfl rfl ?_)
        simp only [Bool.false_eq_true, if_false, hcell]
        refine kept2 hs (fun hk => ?_)
        refine EH.sto hs ?_ (h1 := by simp only [List.all_cons, List.all_nil, hone, Bool.and_true]; rfl)
        intro w17 hs
        refine kept2 hs (fun hk => ?_)
        refine EH.done ?_
        exact A.mt b8 hs
    clear hs
    rintro b8 w18 hs
    refine go ?_
    refine E.callf Try.func44 rfl ?_
    refine plain_any ?_
    refine go ?_
    cases hc2 : decide ((c.kd : Int) = 2) with
    | true =>
      have hc2 : c.kd = 2 := by have := of_decide_eq_true hc2; omega
      refine go ?_
      refine E.callf Try.func45 rfl ?_
      refine qsum_any hs ?_
      intro w19 hs
      refine go ?_
      refine C.held2 b3 b hs ?_
      intro w15 hk hs
      have rd0 : Rd (Keeps g13 [(b3, e.cs, 43), (b, foC i.mb hv8 (f.add e), 69)]) b 0 (.map (some i.mb)) := Rd.blk (.there .here) foC_0
      refine goh ?_
      refine EH.one (St.mapUpdate ky_str Try.underlying65 hs rfl rfl rfl (.there (.there (.there .here))) ?_)
      intro w17 hs
      refine kept2 hs (fun hk => ?_)
      refine goh ?_
      refine EH.done ?_
      refine go ?_
      refine A.r1 ?_
      refine HR.out (aput e.key (⟨2, [], sumF c.num e.num⟩, .slice none 0 0) i.L) _ _ (Hl.le_refl _) ?_ ?_ ?_
      · rw [plain_put, hi13.plain]
        simp [Fo.add, hq, hck, hcn, hc2]
      · intro p hp
        rcases aput_mem hp with rfl | hp
        · exact Pr.nil
        · exact hi13.tvs p hp
      · rw [cmap_put]
        exact hs.drop.drop
    | false =>
      have hc2 : c.kd ≠ 2 := by have := of_decide_eq_false hc2; omega
      refine go ?_
      refine C.held2 b3 b hs ?_
      intro w15 hk hs
      have rd0 : Rd (Keeps g13 [(b3, e.cs, 43), (b, foC i.mb hv8 (f.add e), 69)]) b 0 (.map (some i.mb)) := Rd.blk (.there .here) foC_0
      refine goh ?_
      refine EH.one (St.mapUpdate ky_str Try.underlying65 hs rfl rfl rfl (.there (.there (.there .here))) ?_)
      intro w17 hs
      refine kept2 hs (fun hk => ?_)
      refine goh ?_
      refine EH.done ?_
      refine go ?_
      refine A.r1 ?_
      refine HR.out (aput e.key (⟨2, [], bitsF e.num⟩, .slice none 0 0) i.L) _ _ (Hl.le_refl _) ?_ ?_ ?_
      · rw [plain_put, hi13.plain]
        simp [Fo.add, hq, hck, hcn, hc2]
      · intro p hp
        rcases aput_mem hp with rfl | hp
        · exact Pr.nil
        · exact hi13.tvs p hp
      · rw [cmap_put]
        exact hs.drop.drop
  · -- Drop
    rw [hfc (by omega) (by omega)] at hs
    refine go ?_
    rw [show decide ((e.kd : Int) = 1) = false from decide_eq_false (by omega)]
    refine go ?_
    rw [show decide ((e.kd : Int) = 2) = false from decide_eq_false (by omega)]
    refine go ?_
    rw [show decide ((e.kd : Int) = 3) = false from decide_eq_false (by omega)]
    refine go ?_
    rw [show decide ((e.kd : Int) = 4) = true from decide_eq_true (by omega)]
    refine go ?_
    refine C.held2 b3 b hs ?_
    intro w15 hk hs
    have rd0 : Rd (Keeps g13 [(b3, e.cs, 43), (b, foC i.mb hv8 (f.add e), 69)]) b 0 (.map (some i.mb)) := Rd.blk (.there .here) foC_0
    refine goh ?_
    refine EH.one (St.delete ky_str Try.underlying65 hs rfl rfl (.there (.there .here)) ?_)
    intro w17 hs
    refine kept2 hs (fun hk => ?_)
    refine goh ?_
    refine EH.done ?_
    refine go ?_
    refine A.r1 ?_
    refine HR.out (adrop e.key i.L) _ _ (Hl.le_refl _) ?_ ?_ ?_
    · rw [plain_drop, hi13.plain]
      simp [Fo.add, hq]
    · intro p hp
      exact hi13.tvs p ((adrop_sub _ _).subset hp)
    · rw [cmap_drop]
      exact hs.drop
  · -- Join
    refine go ?_
    rw [show decide ((e.kd : Int) = 1) = false from decide_eq_false (by omega)]
    refine go ?_
    rw [show decide ((e.kd : Int) = 2) = false from decide_eq_false (by omega)]
    refine go ?_
    rw [show decide ((e.kd : Int) = 3) = false from decide_eq_false (by omega)]
    refine go ?_
    rw [show decide ((e.kd : Int) = 4) = false from decide_eq_false (by omega)]
    refine go ?_
    rw [show decide ((e.kd : Int) = 5) = true from decide_eq_true (by omega)]
    have hnd5 := hnd hq
    refine go ?_
    refine C.held1 b3 hs ?_
    intro w15 hk hs
    refine goh ?_
    refine EH.sto hs ?_ (hsp := foC_setmem h1' (i := e.nd.toNat) (by omega)) (hj := by rw [foC_len h1' h2']; simp; omega)
    intro w16 hs
    refine kept1 hs (fun hk => ?_)
    refine EH.done ?_
    refine go ?_
    refine A.r1 ?_
    have efc : ∀ hv, foC i.mb hv { f' with mem := f'.mem.set e.nd.toNat true } = foC i.mb hv (f.add e) := fun hv => by rw [← hf']; simp [foC, Fo.add, hq]
    rw [efc] at hs
    refine HR.out i.L _ _ (Hl.le_refl _) ?_ hi13.tvs hs.drop
    rw [hi13.plain]
    simp [Fo.add, hq]
  · -- Retire
    refine go ?_
    rw [show decide ((e.kd : Int) = 1) = false from decide_eq_false (by omega)]
    refine go ?_
    rw [show decide ((e.kd : Int) = 2) = false from decide_eq_false (by omega)]
    refine go ?_
    rw [show decide ((e.kd : Int) = 3) = false from decide_eq_false (by omega)]
    refine go ?_
    rw [show decide ((e.kd : Int) = 4) = false from decide_eq_false (by omega)]
    refine go ?_
    rw [show decide ((e.kd : Int) = 5) = false from decide_eq_false (by omega)]
    refine go ?_
    rw [show decide ((e.kd : Int) = 6) = true from decide_eq_true (by omega)]
    refine go ?_
    refine C.held1 b3 hs ?_
    intro w15 hk hs
    refine goh ?_
    refine EH.sto hs ?_ (hsp := foC_setret h1' h2' (i := e.wr.toNat) (by omega)) (hj := by rw [foC_len h1' h2']; simp; omega)
    intro w16 hs
    refine kept1 hs (fun hk => ?_)
    refine EH.done ?_
    refine go ?_
    refine A.r1 ?_
    have efc : ∀ hv, foC i.mb hv { f' with ret := f'.ret.set e.wr.toNat true } = foC i.mb hv (f.add e) := fun hv => by rw [← hf']; simp [foC, Fo.add, hq]
    rw [efc] at hs
    refine HR.out i.L _ _ (Hl.le_refl _) ?_ hi13.tvs hs.drop
    rw [hi13.plain]
    simp [Fo.add, hq]
end Go.Proofs.Ytkolnecahlkndaa
