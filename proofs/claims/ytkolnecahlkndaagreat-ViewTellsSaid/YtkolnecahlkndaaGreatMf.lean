/-
  Layer 11 (fold): Copy; Apply.
-/
import Derived.Test.YtkolnecahlkndaaGreatMe
import Derived.Laws.FloatBits
import Derived.Test.YtkolnecahlkndaaGreatMd
import Derived.Test.YtkolnecahlkndaaGreatMc
namespace Go.Proofs.YtkolnecahlkndaaGreat
open Go.RowKit
set_option linter.unusedVariables false
set_option linter.unusedSimpArgs false

/-- The model's entry for maps.clone. -/
theorem run_mclone {P : Program} {W w : World} {g : Hl} {H : List HP} {κ : Type} [DecidableEq κ] {enc : κ → Value} {mb : Nat} {l : List (κ × Value)} (t : TypeId) (hs : Sat W w g (mp enc mb l :: H)) :
    ∃ w', (Extern.MapsClone.clone #[.iface t (.map (some mb))]).run P w = .ok (.iface t (.map (some w.heap.size))) w' ∧ Sat W w' g (mp enc w.heap.size l :: mp enc mb l :: H) := by
  obtain ⟨es, clock, he, ho⟩ := mp_open hs
  have e : Extern.MapsClone.clone #[.iface t (.map (some mb))] = (getObj mb >>= fun o => match o with
      | .map entries clock => (newObj (.map entries clock) >>= fun n => pure (.iface t (.map (some n))))
      | _ => stuck "maps.clone: a map expected") := rfl
  refine ⟨w.alloc (.map es clock), ?_, ?_⟩
  · rw [e]
    simp [getObj, Sem.run, ho.heap, Result.andThen, newObj]
  · exact mp_close he ((mp_close he (ho.alloc (.map es clock)).swap).swap)

set_option maxHeartbeats 1600000 in
set_option maxRecDepth 100000 in
theorem mclone_any {R : Ending → World → Prop} {W w : World} {g : Hl} {H : List HP} {mb : Nat} {l : List (List UInt8 × Value)} (hs : Sat W w g (mp str mb l :: H))
    (hR : ∀ mb' w', Sat W w' g (mp str mb' l :: mp str mb l :: H) → R (.returned (.map (some mb'))) w') : Calls Tryz.prog 40 #[.map (some mb)] w R := by
  have HR := Lib.hid hR
  clear hR
  refine C.calls (args := [.map (some mb)]) Tryz.func40 rfl rfl rfl ?_
  refine go ?_
  obtain ⟨w2, hr, hs2⟩ := run_mclone (P := Tryz.prog) 76 hs
  refine E.ext Tryz.func72 (ex := Extern.MapsClone.clone) hr ?_
  refine go ?_
  refine A.r1 ?_
  exact HR.out _ _ hs2

theorem foC_one {mb : Nat} {f : Fo} {a : Option Addr} {n c : Nat} : (foC mb (.slice a n c) f).all Value.oneCell' = true := by
  simp only [foC, List.all_cons, List.all_append, List.all_map, List.all_nil, Bool.and_true, Bool.and_eq_true]
  refine ⟨rfl, ?_, ?_, rfl, rfl, rfl, rfl⟩ <;> exact List.all_eq_true.2 fun x _ => rfl

set_option maxHeartbeats 1600000 in
set_option maxRecDepth 100000 in
theorem foldCopy_any {R : Ending → World → Prop} {W w : World} {g : Hl} {H : List HP} {b : Nat} {f : Fo} (hs : Sat W w g (fold b f :: H))
    (hR : ∀ b' w', Sat W w' g (fold b' f :: fold b f :: H) → R (.returned (ptr b')) w') : Calls Tryz.prog 17 #[ptr b] w R := by
  have HR := Lib.hid hR
  clear hR
  obtain ⟨i, hi, hs⟩ := fold_open hs
  have h1 := hi.ok.mem
  have h2 := hi.ok.ret
  simp only [foB] at hs
  refine C.calls (args := [.pointer (some ⟨b, 0, none⟩)]) Tryz.func17 rfl rfl rfl ?_
  refine go ?_
  refine E.lda hs ag_fold ?_ (hk := foC_len h1 h2)
  refine E.al hs (xs := Value.map none :: (foC 0 (.slice none 0 0) { foNew 0 with mark := 0 }).tail) ?_ (hx := rfl)
  intro b2 w2 hs
  have hl := foC_len (mb := i.mb) (hv := i.hv f) h1 h2
  refine E.sto (vs := foC i.mb (i.hv f) f) hs ?_ (hv := rfl) (hsp := spl_all (by rw [hl]; rfl)) (hj := by rw [hl]; rfl) (h1 := foC_one) (ht := by rw [hl]; exact sz_)
  intro w3 hs
  refine go ?_
  refine E.callf Tryz.func40 rfl ?_
  refine mclone_any hs.pull2 ?_
  intro mb' w4 hs
  refine go ?_
  refine E.sto hs ?_ (hsp := foC_setmap mb')
  intro w5 hs
  refine go ?_
  refine A.r1 ?_
  have hs1 := fold_close (b := b) i hi (hs.pull3.perm (List.Perm.cons _ (.swap _ _ _)))
  have hs2 := fold_close (b := b2) ⟨mb', i.L, i.a, i.c⟩ ⟨hi.ok, hi.plain, hi.tvs, hi.vec⟩ (hs1.pull2.perm (List.Perm.cons _ (.swap _ _ _)))
  exact HR.out _ _ hs2

/-- How bytes turn the mark. -/
def markB (m : Nat) (b : UInt8) : Nat := (m ^^^ b.toNat) * 1099511628211 % 18446744073709551616
def Fo.cell (f : Fo) (k : List UInt8) : Option Ce := aget k f.cells
/-- With one more event. -/
def Fo.add (f : Fo) (e : Ev) : Fo where
  cells := if e.kd = 1 then aput e.key ⟨1, e.text, 0⟩ f.cells
    else if e.kd = 2 then aput e.key ⟨2, [], bitsF e.num⟩ f.cells
    else if e.kd = 3 then aput e.key ⟨2, [], if ((aget e.key f.cells).map Ce.kd).getD 0 = 2 then sumF (((aget e.key f.cells).map Ce.num).getD 0) e.num else bitsF e.num⟩ f.cells
    else if e.kd = 4 then adrop e.key f.cells else f.cells
  mem := if e.kd = 5 then f.mem.set e.nd.toNat true else f.mem
  ret := if e.kd = 6 then f.ret.set e.wr.toNat true else f.ret
  vec := vwith f.vec e.wr e.sq
  tm := e.tm
  wr := e.wr
  mark := e.enc.foldl markB f.mark
/-- One more event: the error's number, and what there is then. -/
def Fo.step (f : Fo) (e : Ev) : Int × Fo :=
  if e.right ≠ 0 then (e.right, f) else if cmpS e.tm e.wr f.tm f.wr ≤ 0 then (10, f) else if e.sq ≠ (vget f.vec e.wr + 1) % 18446744073709551616 then (9, f) else (0, f.add e)


theorem fold_mark_lt : ∀ (l : List UInt8) (m : Nat), m < 18446744073709551616 → l.foldl markB m < 18446744073709551616 := by
  intro l
  induction l with
  | nil => exact fun m h => h
  | cons x r ih => exact fun m _ => ih _ (Nat.mod_lt _ (by decide))
section
variable {κ β : Type} [DecidableEq κ]
theorem aput_mem {k : κ} {v : β} {p : κ × β} : ∀ {l : List (κ × β)}, p ∈ aput k v l → p = (k, v) ∨ p ∈ l
  | [], h => by simp only [aput, List.mem_singleton] at h; exact .inl h
  | (a, u) :: r, h => by
    simp only [aput] at h
    split at h
    · rename_i e
      subst e
      rcases List.mem_cons.1 h with h | h
      · exact .inl h
      · exact .inr (List.mem_cons_of_mem _ h)
    · rcases List.mem_cons.1 h with h | h
      · exact .inr (h ▸ List.mem_cons_self ..)
      · rcases aput_mem h with h | h
        · exact .inl h
        · exact .inr (List.mem_cons_of_mem _ h)
theorem adrop_sub (k : κ) : ∀ (l : List (κ × β)), (adrop k l).Sublist l
  | [] => List.Sublist.refl _
  | (a, u) :: r => by
    simp only [adrop]
    split
    · exact List.sublist_cons_self _ _
    · exact (adrop_sub k r).cons_cons _
theorem aput_keys {k : κ} {v : β} : ∀ (l : List (κ × β)), ((aput k v l).map Prod.fst = l.map Prod.fst ∧ k ∈ l.map Prod.fst) ∨ ((aput k v l).map Prod.fst = l.map Prod.fst ++ [k] ∧ k ∉ l.map Prod.fst)
  | [] => .inr ⟨rfl, by simp⟩
  | (a, u) :: r => by
    simp only [aput]
    by_cases e : k = a
    · subst e
      rw [if_pos rfl]
      exact .inl ⟨rfl, by simp⟩
    · rw [if_neg e]
      rcases aput_keys (k := k) (v := v) r with ⟨h1, h2⟩ | ⟨h1, h2⟩
      · exact .inl ⟨by simp [h1], by simp [h2]⟩
      · refine .inr ⟨by simp [h1], ?_⟩
        simp only [List.map_cons, List.mem_cons, not_or]
        exact ⟨e, h2⟩
theorem aput_nodup {k : κ} {v : β} {l : List (κ × β)} (h : (l.map Prod.fst).Nodup) : ((aput k v l).map Prod.fst).Nodup := by
  rcases aput_keys (k := k) (v := v) l with ⟨h1, h2⟩ | ⟨h1, h2⟩
  · rw [h1]; exact h
  · rw [h1]
    refine List.nodup_append.2 ⟨h, by simp, fun a ha b hb => ?_⟩
    simp only [List.mem_singleton] at hb
    subst hb
    rintro rfl
    exact h2 ha
theorem aget_mem {k : κ} {v : β} : ∀ {l : List (κ × β)}, aget k l = some v → (k, v) ∈ l
  | [], h => by cases h
  | (a, u) :: r, h => by
    simp only [aget] at h
    split at h
    · rename_i e
      subst e
      simp only [Option.some.injEq] at h
      subst h
      exact List.mem_cons_self ..
    · exact List.mem_cons_of_mem _ (aget_mem h)
end
theorem plain_put (k : List UInt8) (c : Ce) (v : Value) (L : Cs) : Cs.plain (aput k (c, v) L) = aput k c (Cs.plain L) := (as_map (Prod.fst : Ce × Value → Ce) k (c, v) L).symm
theorem plain_drop (k : List UInt8) (L : Cs) : Cs.plain (adrop k L) = adrop k (Cs.plain L) := (ad_map (Prod.fst : Ce × Value → Ce) k L).symm
theorem cmap_put (mb : Nat) (k : List UInt8) (c : Ce) (v : Value) (L : Cs) : cmap mb (aput k (c, v) L) = mp str mb (aset k (ceV c v) (L.map fun p => (p.1, ceV p.2.1 p.2.2))) := by
  unfold cmap
  rw [← aset_map (fun p : Ce × Value => ceV p.1 p.2) k (c, v) L]
theorem cmap_drop (mb : Nat) (k : List UInt8) (L : Cs) : cmap mb (adrop k L) = mp str mb (adel k (L.map fun p => (p.1, ceV p.2.1 p.2.2))) := by
  unfold cmap
  rw [← adel_map (fun p : Ce × Value => ceV p.1 p.2) k L]
theorem sumF_lt (a b : Nat) : sumF a b < 18446744073709551616 := by
  unfold sumF
  split
  · rename_i r h
    exact bitsF_lt (Ieee.Format.add_lt _ h)
  · decide
theorem Fo.add_ok {f : Fo} {e : Ev} {g : Hl} (h : f.ok) (he : e.ok g) (hk : 1 ≤ e.kd) : (f.add e).ok := by
  refine ⟨?_, ?_, vwith_len _ _ _ h.vec, vwith_lt _ _ _ h.vlt he.sq, he.tm, he.wr, ?_, ?_, ?_⟩
  · simp only [Fo.add]; split <;> simp [h.mem]
  · simp only [Fo.add]; split <;> simp [h.ret]
  · exact fold_mark_lt _ _ h.mark
  · have key : ∀ (c : Ce), c.ok → ∀ p ∈ aput e.key c f.cells, p.2.ok ∧ p.1.length ≤ 100000000 := fun c hc p hp => by
      rcases aput_mem hp with rfl | hp
      · exact ⟨hc, he.key⟩
      · exact h.cells p hp
    have hn := he.num
    have hb : bitsF e.num < 18446744073709551616 := bitsF_lt hn
    simp only [Fo.add]
    split
    · exact key _ ⟨by simp, by simp, he.text⟩
    split
    · exact key _ ⟨by simp, hb, by simp⟩
    split
    · refine key _ ⟨by simp, ?_, by simp⟩
      simp only
      split
      · exact sumF_lt _ _
      · exact hb
    split
    · exact fun p hp => h.cells p ((adrop_sub _ _).subset hp)
    · exact h.cells
  · simp only [Fo.add]
    split
    · exact aput_nodup h.keys
    split
    · exact aput_nodup h.keys
    split
    · exact aput_nodup h.keys
    split
    · exact h.keys.sublist ((adrop_sub _ _).map _)
    · exact h.keys
set_option maxHeartbeats 3200000 in
set_option maxRecDepth 100000 in
theorem foldApply_any {R : Ending → World → Prop} {W w : World} {g : Hl} {H : List HP} {b : Nat} {f : Fo} {e : Ev} (ho : e.ok g) (hs : Sat W w g (fold b f :: H))
    (hR : ∀ w' g', Hl.le g g' → Sat W w' g' (fold b (f.step e).2 :: H) → R (.returned (.int .i64 (f.step e).1)) w') : Calls Tryz.prog 18 #[ptr b, e.val] w R := by
  have HR := Lib.hid hR
  clear hR
  have ag1 := ag_ev
  have ag2 := ag_spot
  refine C.calls (args := [.pointer (some ⟨b, 0, none⟩), e.val]) Tryz.func18 rfl rfl rfl ?_
  refine go ?_
  refine E.bx hs (xs := e.cs) ?_ (hx := rfl)
  intro b3 w1 hs
  refine go ?_
  refine E.callf Tryz.func41 rfl ?_
  refine right_any (e := e) ho hs ?_
  intro w2 hs
  refine go ?_
  cases hr : decide (e.right = 0) with
  | false =>
    have hr := of_decide_eq_false hr
    refine go ?_
    refine A.r1 ?_
    have := HR.out w2 g (Hl.le_refl _)
    simp only [Fo.step] at this
    rw [if_pos hr] at this
    exact this hs.drop
  | true =>
  have hr := of_decide_eq_true hr
  obtain ⟨i, hi, hs'⟩ := fold_open hs.swap
  have h1 := hi.ok.mem
  have h2 := hi.ok.ret
  replace hs := hs'.pull2
  clear hs'
  simp only [foB] at hs
  refine go ?_
  refine C.held2 b3 b hs ?_
  intro w3 hk hs
  refine goh ?_
  refine EH.t1 hk ?_ (hy := Pf.loadp rfl (.there .here) ag_spot (foC_last h1 h2) rfl)
  refine goh ?_
  refine EH.one (St.callf Tryz.func43 rfl ?_)
  refine at_any (e := e) hs ?_
  intro w4 hs
  refine kept2 hs (fun hk => ?_)
  refine goh ?_
  refine EH.one (St.callf Tryz.func42 rfl ?_)
  refine compare_any (t1 := e.tm) (w1 := e.wr) (t2 := f.tm) (w2 := f.wr) hs ?_
  intro w5 hs
  refine kept2 hs (fun hk => ?_)
  refine goh ?_
  refine EH.done ?_
  refine go ?_
  cases hc : decide (cmpS e.tm e.wr f.tm f.wr ≤ 0) with
  | true =>
    have hc := of_decide_eq_true hc
    refine go ?_
    refine A.r1 ?_
    have := HR.out w5 g (Hl.le_refl _)
    simp only [Fo.step] at this
    rw [if_neg (by omega), if_pos hc] at this
    exact this (fold_close i hi hs.drop)
  | false =>
  have hc := of_decide_eq_false hc
  refine go ?_
  refine C.held2 b3 b hs ?_
  intro w6 hk hs
  have rd : Rd (Keeps g [(b3, e.cs, 32), (b, foC i.mb (i.hv f) f, 79)]) b 129 (i.hv f) := Rd.blk (.there .here) (foC_129 h1 h2)
  have hsq := ho.sq
  refine goh ?_
  refine EH.one (St.callf Tryz.func44 rfl ?_)
  refine vget_any (i := e.wr) hs hi.vec rfl (by have := hi.ok.vec; omega) ?_
  refine kept2 hs (fun hk => ?_)
  refine goh ?_
  refine EH.done ?_
  refine go ?_
  have ew : IntKind.u64.wrap ((vget f.vec e.wr : Nat) + 1 : Int) = (((vget f.vec e.wr + 1) % 18446744073709551616 : Nat) : Int) := u64_mod _
  cases hg : decide ((e.sq : Int) = IntKind.u64.wrap ((vget f.vec e.wr : Nat) + 1 : Int)) with
  | false =>
    have hg := of_decide_eq_false hg
    rw [ew] at hg
    refine go ?_
    refine A.r1 ?_
    have := HR.out w6 g (Hl.le_refl _)
    simp only [Fo.step] at this
    rw [if_neg (by omega), if_neg hc, if_pos (by omega)] at this
    exact this (fold_close i hi hs.drop)
  | true =>
  have hg := of_decide_eq_true hg
  rw [ew] at hg
  have HR2 : ∀ w' g', Hl.le g g' → Sat W w' g' (fold b (f.add e) :: H) → R (.returned (.int .i64 0)) w' := fun w' g' => by
    have := HR.out w' g'
    simp only [Fo.step] at this
    rw [if_neg (by omega), if_neg hc, if_neg (by omega)] at this
    exact this
  clear HR ew
  have HR := Lib.hid HR2
  clear HR2
  refine go ?_
  refine C.held1 b3 hs ?_
  intro w7 hk hs
  refine goh ?_
  refine EH.ld hs ?_ (hj := foC_129 h1 h2)
  refine kept1 hs (fun hk => ?_)
  refine goh ?_
  refine EH.one (St.callf Tryz.func45 rfl ?_)
  refine vwith_any (i := e.wr) hs hi.vec rfl (by have := hi.ok.vec; omega) ?_
  intro a8 c8 w8 g8 hg8 hp8 hs
  refine kept1 hs (fun hk => ?_)
  refine goh ?_
  refine EH.one (St.callf Tryz.func43 rfl ?_)
  refine at_any (e := e) hs ?_
  intro w9 hs
  refine kept1 hs (fun hk => ?_)
  refine goh ?_
  refine EH.sto hs ?_ (hsp := foC_set129 h1 h2 _) (hj := by rw [foC_len h1 h2]; rfl)
  intro w10 hs
  refine kept1 hs (fun hk => ?_)
  refine goh ?_
  refine EH.sto hs ?_ (hv := (rfl : (spot e.tm e.wr).cells.toList = [.int .u64 e.tm, .int .i64 e.wr])) (hsp := foC_set130 h1 h2 e.tm e.wr) (hj := by rw [foC_len h1 h2]; rfl)
  intro w11 hs
  refine kept1 hs (fun hk => ?_)
  refine goh ?_
  refine EH.done ?_
  refine go ?_
  have hwr : 0 ≤ e.wr ∧ e.wr < 64 := by
    have := hr
    unfold Ev.right at this
    split at this
    · omega
    · rename_i h; omega
  have hnd : e.kd = 5 → 0 ≤ e.nd ∧ e.nd < 64 := by
    have := hr
    unfold Ev.right at this
    split at this
    · omega
    · rename_i h; omega
  have ho8 := ho.mono hg8
  refine E.callf Tryz.func46 rfl ?_
  refine encode_any (e := e) ho8 hwr.1 (fun h => (hnd h).1) hs ?_
  intro a12 c12 w12 g12 hg12 hs
  obtain ⟨g13, hg13, hp13, hs⟩ := hs.publishOwn
  have hel := Ev.enc_len e (by omega) ho.sq ho.tm (by have := ho.key; omega) (by have := ho.text; omega) (by have := ho.nd; omega)
  have hel2 : e.enc.length ≤ 1000000000 := by have := ho.key; have := ho.text; omega
  have hkd := ho.kd
  have hmk := hi.ok.mark
  have hf3 : ∀ (l : List UInt8) (m : Nat), m < 18446744073709551616 → l.foldl markB m < 18446744073709551616 := fold_mark_lt
  have hp8' := (hp8.mono hg12).mono hg13
  have hgl : Hl.le g g13 := (hg8.trans hg12).trans hg13
  have hi13 := hi.mono hgl
  have ho13 := ho.mono hgl
  have hkr : 1 ≤ e.kd ∧ e.kd ≤ 6 := by
    have := hr
    unfold Ev.right at this
    split at this
    · omega
    · rename_i h; omega
  clear hp8 ho8 hg8 hg12 hg13 rd hk hc hg hr
  refine gob ?_
  refine C.cut (fun _ : Unit => [(0, .pointer (some ⟨b, 0, none⟩)), (3, .pointer (some ⟨b3, 0, none⟩))])
    (fun _ w => Sat W w g13 (blk b3 e.cs 32 :: blk b (foC i.mb (.slice a8 (vwith f.vec e.wr e.sq).length c8) { f with tm := e.tm, wr := e.wr, mark := e.enc.foldl markB f.mark }) 79 :: cmap i.mb i.L :: H)) ?_ ?_
  · refine C.block ?_
    refine C.lp (fun k : Nat => [(0, .pointer (some ⟨b, 0, none⟩)), (3, .pointer (some ⟨b3, 0, none⟩)), (58, .slice a12 e.enc.length c12), (59, .int .i64 e.enc.length), (60, .int .i64 k)])
      (fun gk k w => gk = e.enc.length - k ∧ k ≤ e.enc.length ∧ Sat W w g13 (blk b3 e.cs 32 :: blk b (foC i.mb (.slice a8 (vwith f.vec e.wr e.sq).length c8) { f with tm := e.tm, wr := e.wr, mark := (e.enc.take k).foldl markB f.mark }) 79 :: cmap i.mb i.L :: H)) e.enc.length 0 ⟨rfl, Nat.zero_le _, hs⟩ ?_
    clear hs
    rintro gk k w13 ⟨rfl, hk, hs⟩
    refine go ?_
    refine C.cond_dec (p := (k : Int) < e.enc.length) rfl (fun h => ?_) (fun h => ?_)
    · refine go ?_
      refine E.ix el_u8 hs hp13 k (bs_get (by omega)) ?_
      intro b14 o14 hc14
      have hb := (e.enc[k]'(by omega)).toNat_lt
      have hm := hf3 (e.enc.take k) f.mark hmk
      refine go ?_
      refine E.ld hs ?_ (v := .int .u64 ((e.enc.take k).foldl markB f.mark : Nat)) (hf := .there .here) (hj := foC_132 (f := { f with tm := e.tm, wr := e.wr, mark := (e.enc.take k).foldl markB f.mark }) h1 h2)
      refine go ?_
      have emk : IntKind.u64.wrap ((((e.enc.take k).foldl markB f.mark ^^^ (e.enc[k]'(by omega)).toNat : Nat) : Int) * 1099511628211) = ((markB ((e.enc.take k).foldl markB f.mark) (e.enc[k]'(by omega)) : Nat) : Int) := by
        have := u64_mod (((e.enc.take k).foldl markB f.mark ^^^ (e.enc[k]'(by omega)).toNat) * 1099511628211)
        rw [← show ((1099511628211 : Nat) : Int) = 1099511628211 from rfl, ← Int.natCast_mul, this, markB]
      rw [emk]
      refine E.sto hs ?_ (hsp := foC_set132 (f := { f with tm := e.tm, wr := e.wr, mark := (e.enc.take k).foldl markB f.mark }) h1 h2 _) (hj := by rw [foC_len (f := { f with tm := e.tm, wr := e.wr, mark := (e.enc.take k).foldl markB f.mark }) h1 h2]; rfl)
      intro w15 hs
      refine go ?_
      refine A.rd (e.enc.length - (k + 1)) (k + 1) ⟨rfl, by omega, ?_⟩
      rw [List.take_succ_eq_append_getElem (by omega), List.foldl_append, List.foldl_cons, List.foldl_nil]
      exact hs
    · obtain rfl : k = e.enc.length := by omega
      rw [List.take_length] at hs
      refine go ?_
      exact A.mt () hs
  clear hs
  rintro _ w14 hs
  have hadd : (f.add e).ok := Fo.add_ok hi.ok ho hkr.1
  have fin : ∀ (L' : Cs) w' g', Hl.le g13 g' → Cs.plain L' = (f.add e).cells → L'.tvs g' → Sat W w' g' (blk b (foC i.mb (.slice a8 (vwith f.vec e.wr e.sq).length c8) (f.add e)) 79 :: cmap i.mb L' :: H) → R (.returned (.int .i64 0)) w' := fun L' w' g' hg' hp' ht' hs' =>
    HR.out w' g' (hgl.trans hg') (fold_close ⟨i.mb, L', a8, c8⟩ ⟨hadd, hp', ht', hp8'.mono hg'⟩ hs')
  clear HR
  have HR := Lib.hid fin
  clear fin
  have hfc : e.kd ≠ 5 → e.kd ≠ 6 → ∀ hv, foC i.mb hv { f with tm := e.tm, wr := e.wr, mark := e.enc.foldl markB f.mark } = foC i.mb hv (f.add e) := fun h5 h6 hv => by simp [foC, Fo.add, h5, h6]
  obtain ⟨at_, ct, etv, htc, _⟩ := ho13.tv.len
  have h1' : ({ f with tm := e.tm, wr := e.wr, mark := e.enc.foldl markB f.mark } : Fo).mem.length = 64 := h1
  have h2' : ({ f with tm := e.tm, wr := e.wr, mark := e.enc.foldl markB f.mark } : Fo).ret.length = 64 := h2
  generalize hf' : ({ f with tm := e.tm, wr := e.wr, mark := e.enc.foldl markB f.mark } : Fo) = f' at hs hfc h1' h2'
  generalize hh8 : Value.slice a8 (vwith f.vec e.wr e.sq).length c8 = hv8 at hs HR
  have hcases : e.kd = 1 ∨ e.kd = 2 ∨ e.kd = 3 ∨ e.kd = 4 ∨ e.kd = 5 ∨ e.kd = 6 := by omega
  rcases hcases with hq | hq | hq | hq | hq | hq
  · -- Set
    rw [hfc (by omega) (by omega)] at hs
    refine go ?_
    rw [show decide ((e.kd : Int) = 1) = true from decide_eq_true (by omega)]
    refine go ?_
    refine C.held2 b3 b hs ?_
    intro w15 hk hs
    have rd0 : Rd (Keeps g13 [(b3, e.cs, 32), (b, foC i.mb hv8 (f.add e), 79)]) b 0 (.map (some i.mb)) := Rd.blk (.there .here) foC_0
    refine goh ?_
    rw [etv]
    have htv := ho13.tv
    rw [etv] at htv
    refine EH.one (St.callf Tryz.func47 rfl ?_)
    refine bclone_any hs htv (by have := ho13.text; omega) ?_
    intro a16 c16 w16 g16 hg16 hp16 hs
    refine kept2 hs (fun hk => ?_)
    refine goh ?_
    refine EH.one (St.mapUpdate ky_str Tryz.underlying76 hs rfl rfl rfl (.there (.there .here)) ?_)
    intro w17 hs
    refine kept2 hs (fun hk => ?_)
    refine goh ?_
    refine EH.done ?_
    refine go ?_
    refine A.r1 ?_
    refine HR.out (aput e.key (⟨1, e.text, 0⟩, .slice a16 e.text.length c16) i.L) _ _ hg16 ?_ ?_ ?_
    · rw [plain_put, hi13.plain]
      simp [Fo.add, hq]
    · intro p hp
      rcases aput_mem hp with rfl | hp
      · exact hp16
      · exact (hi13.tvs p hp).mono hg16
    · rw [cmap_put]
      exact hs.drop
  · -- Put
    rw [hfc (by omega) (by omega)] at hs
    refine go ?_
    rw [show decide ((e.kd : Int) = 1) = false from decide_eq_false (by omega)]
    refine go ?_
    rw [show decide ((e.kd : Int) = 2) = true from decide_eq_true (by omega)]
    refine go ?_
    refine C.held2 b3 b hs ?_
    intro w15 hk hs
    have rd0 : Rd (Keeps g13 [(b3, e.cs, 32), (b, foC i.mb hv8 (f.add e), 79)]) b 0 (.map (some i.mb)) := Rd.blk (.there .here) foC_0
    refine goh ?_
    refine EH.one (St.callf Tryz.func48 rfl ?_)
    refine plain_any ?_
    refine kept2 hs (fun hk => ?_)
    refine goh ?_
    refine EH.one (St.mapUpdate ky_str Tryz.underlying76 hs rfl rfl rfl (.there (.there .here)) ?_)
    intro w17 hs
    refine kept2 hs (fun hk => ?_)
    refine goh ?_
    refine EH.done ?_
    refine go ?_
    refine A.r1 ?_
    refine HR.out (aput e.key (⟨2, [], bitsF e.num⟩, .slice none 0 0) i.L) _ _ (Hl.le_refl _) ?_ ?_ ?_
    · rw [plain_put, hi13.plain]
      simp [Fo.add, hq]
    · intro p hp
      rcases aput_mem hp with rfl | hp
      · exact Pr.nil
      · exact hi13.tvs p hp
    · rw [cmap_put]
      exact hs.drop
  · -- Add
    rw [hfc (by omega) (by omega)] at hs
    refine go ?_
    rw [show decide ((e.kd : Int) = 1) = false from decide_eq_false (by omega)]
    refine go ?_
    rw [show decide ((e.kd : Int) = 2) = false from decide_eq_false (by omega)]
    refine go ?_
    rw [show decide ((e.kd : Int) = 3) = true from decide_eq_true (by omega)]
    refine go ?_
    obtain ⟨c, tv, hone, hcell, hck, hcn⟩ : ∃ (c : Ce) (tv : Value), tv.oneCell' = true ∧ (alook e.key (i.L.map fun p => (p.1, ceV p.2.1 p.2.2))).getD (.agg #[.int .u8 0, .slice none 0 0, .float .f64 0]) = .agg #[.int .u8 c.kd, tv, .float .f64 c.num] ∧ ((aget e.key f.cells).map Ce.kd).getD 0 = c.kd ∧ ((aget e.key f.cells).map Ce.num).getD 0 = c.num := by
      have e1 := alook_map (fun p : Ce × Value => ceV p.1 p.2) e.key i.L
      have e2 := al_map (Prod.fst : Ce × Value → Ce) e.key i.L
      rw [e1]
      have e3 : aget e.key f.cells = (aget e.key i.L).map Prod.fst := by rw [← hi13.plain]; exact e2
      rw [e3]
      cases hL : aget e.key i.L with
      | none => exact ⟨⟨0, [], 0⟩, .slice none 0 0, rfl, rfl, rfl, rfl⟩
      | some p =>
        refine ⟨p.1, p.2, ?_, rfl, rfl, rfl⟩
        obtain ⟨_, _, ep, _⟩ := (hi13.tvs _ (aget_mem hL)).len
        simp only at ep
        rw [ep]
        rfl
    refine C.cut (fun b8 : Nat => [(0, .pointer (some ⟨b, 0, none⟩)), (3, .pointer (some ⟨b3, 0, none⟩)), (8, .pointer (some ⟨b8, 0, none⟩))])
      (fun b8 w => Sat W w g13 (blk b8 [.int .u8 c.kd, tv, .float .f64 c.num] 68 :: blk b3 e.cs 32 :: blk b (foC i.mb hv8 (f.add e)) 79 :: cmap i.mb i.L :: H)) ?_ ?_
    · refine C.held2 b3 b hs ?_
      intro w15 hk hs
      have rd0 : Rd (Keeps g13 [(b3, e.cs, 32), (b, foC i.mb hv8 (f.add e), 79)]) b 0 (.map (some i.mb)) := Rd.blk (.there .here) foC_0
      refine goh ?_
      refine EH.ora hs (St.lookup (z := .agg #[.int .u8 0, .slice none 0 0, .float .f64 0]) ky_str Tryz.underlying76 (by go_simp; first | done | rfl) hs (.there (.there .here)) rfl rfl ?_) ?_
      · simp only [Bool.false_eq_true, if_false, hcell]
        refine kept2 hs (fun hk => ?_)
        refine EH.al hs ?_
        intro b8 w16 hs
        refine kept2 hs (fun hk => ?_)
        refine EH.sto hs ?_ (h1 := by simp only [List.all_cons, List.all_nil, hone, Bool.and_true]; rfl)
        intro w17 hs
        refine kept2 hs (fun hk => ?_)
        refine EH.done ?_
        exact A.mt b8 hs
      · intro b8 w16 hs
        refine kept2 hs (fun hk => ?_)
        refine EH.one (St.lookup (z := .agg #[.int .u8 0, .slice none 0 0, .float .f64 0]) ky_str Tryz.underlying76 (by go_simp; first | done | rfl) hs (.there (.there (.there .here))) rfl rfl ?_)
        simp only [Bool.false_eq_true, if_false, hcell]
        refine kept2 hs (fun hk => ?_)
        refine EH.sto hs ?_ (h1 := by simp only [List.all_cons, List.all_nil, hone, Bool.and_true]; rfl)
        intro w17 hs
        refine kept2 hs (fun hk => ?_)
        refine EH.done ?_
        exact A.mt b8 hs
    clear hs
    rintro b8 w18 hs
    refine go ?_
    refine E.callf Tryz.func48 rfl ?_
    refine plain_any ?_
    refine go ?_
    cases hc2 : decide ((c.kd : Int) = 2) with
    | true =>
      have hc2 : c.kd = 2 := by have := of_decide_eq_true hc2; omega
      refine go ?_
      refine E.callf Tryz.func49 rfl ?_
      refine qsum_any hs ?_
      intro w19 hs
      refine go ?_
      refine C.held2 b3 b hs ?_
      intro w15 hk hs
      have rd0 : Rd (Keeps g13 [(b3, e.cs, 32), (b, foC i.mb hv8 (f.add e), 79)]) b 0 (.map (some i.mb)) := Rd.blk (.there .here) foC_0
      refine goh ?_
      refine EH.one (St.mapUpdate ky_str Tryz.underlying76 hs rfl rfl rfl (.there (.there (.there .here))) ?_)
      intro w17 hs
      refine kept2 hs (fun hk => ?_)
      refine goh ?_
      refine EH.done ?_
      refine go ?_
      refine A.r1 ?_
      refine HR.out (aput e.key (⟨2, [], sumF c.num e.num⟩, .slice none 0 0) i.L) _ _ (Hl.le_refl _) ?_ ?_ ?_
      · rw [plain_put, hi13.plain]
        simp [Fo.add, hq, hck, hcn, hc2]
      · intro p hp
        rcases aput_mem hp with rfl | hp
        · exact Pr.nil
        · exact hi13.tvs p hp
      · rw [cmap_put]
        exact hs.drop.drop
    | false =>
      have hc2 : c.kd ≠ 2 := by have := of_decide_eq_false hc2; omega
      refine go ?_
      refine C.held2 b3 b hs ?_
      intro w15 hk hs
      have rd0 : Rd (Keeps g13 [(b3, e.cs, 32), (b, foC i.mb hv8 (f.add e), 79)]) b 0 (.map (some i.mb)) := Rd.blk (.there .here) foC_0
      refine goh ?_
      refine EH.one (St.mapUpdate ky_str Tryz.underlying76 hs rfl rfl rfl (.there (.there (.there .here))) ?_)
      intro w17 hs
      refine kept2 hs (fun hk => ?_)
      refine goh ?_
      refine EH.done ?_
      refine go ?_
      refine A.r1 ?_
      refine HR.out (aput e.key (⟨2, [], bitsF e.num⟩, .slice none 0 0) i.L) _ _ (Hl.le_refl _) ?_ ?_ ?_
      · rw [plain_put, hi13.plain]
        simp [Fo.add, hq, hck, hcn, hc2]
      · intro p hp
        rcases aput_mem hp with rfl | hp
        · exact Pr.nil
        · exact hi13.tvs p hp
      · rw [cmap_put]
        exact hs.drop.drop
  · -- Drop
    rw [hfc (by omega) (by omega)] at hs
    refine go ?_
    rw [show decide ((e.kd : Int) = 1) = false from decide_eq_false (by omega)]
    refine go ?_
    rw [show decide ((e.kd : Int) = 2) = false from decide_eq_false (by omega)]
    refine go ?_
    rw [show decide ((e.kd : Int) = 3) = false from decide_eq_false (by omega)]
    refine go ?_
    rw [show decide ((e.kd : Int) = 4) = true from decide_eq_true (by omega)]
    refine go ?_
    refine C.held2 b3 b hs ?_
    intro w15 hk hs
    have rd0 : Rd (Keeps g13 [(b3, e.cs, 32), (b, foC i.mb hv8 (f.add e), 79)]) b 0 (.map (some i.mb)) := Rd.blk (.there .here) foC_0
    refine goh ?_
    refine EH.one (St.delete ky_str Tryz.underlying76 hs rfl rfl (.there (.there .here)) ?_)
    intro w17 hs
    refine kept2 hs (fun hk => ?_)
    refine goh ?_
    refine EH.done ?_
    refine go ?_
    refine A.r1 ?_
    refine HR.out (adrop e.key i.L) _ _ (Hl.le_refl _) ?_ ?_ ?_
    · rw [plain_drop, hi13.plain]
      simp [Fo.add, hq]
    · intro p hp
      exact hi13.tvs p ((adrop_sub _ _).subset hp)
    · rw [cmap_drop]
      exact hs.drop
  · -- Join
    refine go ?_
    rw [show decide ((e.kd : Int) = 1) = false from decide_eq_false (by omega)]
    refine go ?_
    rw [show decide ((e.kd : Int) = 2) = false from decide_eq_false (by omega)]
    refine go ?_
    rw [show decide ((e.kd : Int) = 3) = false from decide_eq_false (by omega)]
    refine go ?_
    rw [show decide ((e.kd : Int) = 4) = false from decide_eq_false (by omega)]
    refine go ?_
    rw [show decide ((e.kd : Int) = 5) = true from decide_eq_true (by omega)]
    have hnd5 := hnd hq
    refine go ?_
    refine C.held1 b3 hs ?_
    intro w15 hk hs
    refine goh ?_
    refine EH.sto hs ?_ (hsp := foC_setmem h1' (i := e.nd.toNat) (by omega)) (hj := by rw [foC_len h1' h2']; simp; omega)
    intro w16 hs
    refine kept1 hs (fun hk => ?_)
    refine EH.done ?_
    refine go ?_
    refine A.r1 ?_
    have efc : ∀ hv, foC i.mb hv { f' with mem := f'.mem.set e.nd.toNat true } = foC i.mb hv (f.add e) := fun hv => by rw [← hf']; simp [foC, Fo.add, hq]
    rw [efc] at hs
    refine HR.out i.L _ _ (Hl.le_refl _) ?_ hi13.tvs hs.drop
    rw [hi13.plain]
    simp [Fo.add, hq]
  · -- Retire
    refine go ?_
    rw [show decide ((e.kd : Int) = 1) = false from decide_eq_false (by omega)]
    refine go ?_
    rw [show decide ((e.kd : Int) = 2) = false from decide_eq_false (by omega)]
    refine go ?_
    rw [show decide ((e.kd : Int) = 3) = false from decide_eq_false (by omega)]
    refine go ?_
    rw [show decide ((e.kd : Int) = 4) = false from decide_eq_false (by omega)]
    refine go ?_
    rw [show decide ((e.kd : Int) = 5) = false from decide_eq_false (by omega)]
    refine go ?_
    rw [show decide ((e.kd : Int) = 6) = true from decide_eq_true (by omega)]
    refine go ?_
    refine C.held1 b3 hs ?_
    intro w15 hk hs
    refine goh ?_
    refine EH.sto hs ?_ (hsp := foC_setret h1' h2' (i := e.wr.toNat) (by omega)) (hj := by rw [foC_len h1' h2']; simp; omega)
    intro w16 hs
    refine kept1 hs (fun hk => ?_)
    refine EH.done ?_
    refine go ?_
    refine A.r1 ?_
    have efc : ∀ hv, foC i.mb hv { f' with ret := f'.ret.set e.wr.toNat true } = foC i.mb hv (f.add e) := fun hv => by rw [← hf']; simp [foC, Fo.add, hq]
    rw [efc] at hs
    refine HR.out i.L _ _ (Hl.le_refl _) ?_ hi13.tvs hs.drop
    rw [hi13.plain]
    simp [Fo.add, hq]
end Go.Proofs.YtkolnecahlkndaaGreat

/-
  Layer 15 (view): By, Len, Range, Members; and a fold of some events.
-/
namespace Go.Proofs.YtkolnecahlkndaaGreat
open Go.RowKit
set_option linter.unusedVariables false
set_option linter.unusedSimpArgs false

def Fo.adds (f : Fo) (l : List Ev) : Fo := l.foldl Fo.add f
/-- Each follows. -/
def Fo.fits : Fo → List Ev → Prop
  | _, [] => True
  | f, e :: r => f.step e = (0, f.add e) ∧ Fo.fits (f.add e) r
theorem fits_append : ∀ (f : Fo) (l m : List Ev), f.fits (l ++ m) ↔ f.fits l ∧ (f.adds l).fits m
  | f, [], m => by simp [Fo.fits, Fo.adds]
  | f, e :: r, m => by
    simp only [List.cons_append, Fo.fits, fits_append (f.add e) r m, Fo.adds, List.foldl_cons, and_assoc]
theorem adds_append (f : Fo) (l m : List Ev) : f.adds (l ++ m) = (f.adds l).adds m := by simp [Fo.adds]

/-- A view, without its folds. -/
def vw (vb b b' : Nat) (x : El) : HP := blk vb [ptr b, x.v, ptr b'] 51

set_option maxHeartbeats 3200000 in
set_option maxRecDepth 100000 in
theorem by_any {R : Ending → World → Prop} {W w : World} {g : Hl} {H : List HP} {b n c : Nat} {a : Option Addr} {f : Fo} {ls : List El} {T : List Ev} (hp : Pr 1 g (.slice a n c) n (ls.map El.v)) (hn : ls.length = n) (hn2 : n ≤ 1000000000) (hok : ∀ x ∈ ls, x.ok g) (hup : ∀ x ∈ ls, Up1 x.es) (hT : Up1 T) (hperm : T.Perm (ls.flatMap El.es)) (hl : T.length ≤ 1000000000)
    (hf : f.fits T) (hs : Sat W w g (fold b f :: H))
    (hR : ∀ vb b' x w' g', Hl.le g g' → El.ok x g' → x.es = T → Sat W w' g' (vw vb b b' x :: fold b f :: fold b' (f.adds T) :: H) → R (.returned (.tuple #[ptr vb, .int .i64 0])) w') : Calls Tryz.prog 7 #[ptr b, .slice a n c] w R := by
  have HR := Lib.hid hR
  clear hR
  have ag1 := ag_ev
  refine C.calls (args := [.pointer (some ⟨b, 0, none⟩), .slice a n c]) Tryz.func7 rfl rfl rfl ?_
  refine go ?_
  refine E.callf Tryz.func16 rfl ?_
  refine all_any hp hn hn2 hok hup hT hperm hl hs ?_
  intro w1 x g1 hg1 hx hxe hs
  subst hxe
  refine go ?_
  refine E.callf Tryz.func17 rfl ?_
  refine foldCopy_any hs ?_
  intro b' w2 hs
  rw [show ptr b' = .pointer (some ⟨b', 0, none⟩) from rfl]
  refine go ?_
  refine E.bx hs (xs := [ptr b, .slice x.a x.es.length x.c, ptr b']) ?_ (hx := rfl)
  intro vb w3 hs
  refine gob ?_
  refine C.cut (fun _ : Unit => [(6, .pointer (some ⟨vb, 0, none⟩))]) (fun _ w => ∃ g', Hl.le g1 g' ∧ Sat W w g' (blk vb [ptr b, .slice x.a x.es.length x.c, ptr b'] 51 :: fold b f :: fold b' (f.adds x.es) :: H)) ?_ ?_
  · refine C.block ?_
    refine C.lp (fun i : Nat => [(6, .pointer (some ⟨vb, 0, none⟩)), (22, .slice x.a x.es.length x.c), (23, .int .i64 x.es.length), (24, .int .i64 i)])
      (fun gk i w => gk = x.es.length - i ∧ i ≤ x.es.length ∧ ∃ g', Hl.le g1 g' ∧ Sat W w g' (blk vb [ptr b, .slice x.a x.es.length x.c, ptr b'] 51 :: fold b' (f.adds (x.es.take i)) :: fold b f :: H)) x.es.length 0 ⟨rfl, Nat.zero_le _, g1, Hl.le_refl _, hs⟩ ?_
    clear hs
    rintro gk i w4 ⟨rfl, hi, g2, hg2, hs⟩
    refine go ?_
    refine C.cond_dec (p := (i : Int) < x.es.length) rfl (fun h => ?_) (fun h => ?_)
    · have hil : i < x.es.length := by omega
      have hee := hx.evs x.es[i] (List.getElem_mem hil)
      refine go ?_
      refine E.ixs el_ev hs (hx.row.mono hg2) i ?_
      intro b5 o5 hr
      rw [evC_at hil] at hr
      refine E.ldr hr ag_ev rfl ?_
      refine E.al hs ?_
      intro b6 w6 hs
      refine E.sto (vs := x.es[i].cs) (ys := x.es[i].cs) hs ?_ (hv := rfl) (hsp := spl_all (by rfl)) (h1 := Ev.cs_one hee.1)
      intro w7 hs
      refine go ?_
      refine C.held2 b6 vb hs ?_
      intro w8 hk hs
      refine goh ?_
      refine EH.one (St.callf Tryz.func18 rfl ?_)
      refine foldApply_any (b := b') (e := x.es[i]) (hee.1.mono hg2) hs.pull2 ?_
      intro w9 g9 hg9 hs
      have hfi : (f.adds (x.es.take i)).step x.es[i] = (0, f.adds (x.es.take (i + 1))) := by
        have h1 := hf
        rw [← List.take_append_drop i x.es, fits_append, List.drop_eq_getElem_cons hil] at h1
        rw [List.take_succ_eq_append_getElem hil, adds_append]
        exact h1.2.1
      rw [hfi] at hs ⊢
      simp only at hs ⊢
      refine kept2 hs (fun hk => ?_) hg9
      refine goh ?_
      refine EH.done ?_
      refine go ?_
      refine A.rd (x.es.length - (i + 1)) (i + 1) ⟨rfl, by omega, g9, hg2.trans hg9, ?_⟩
      exact hs.swap.drop.swap
    · obtain rfl : i = x.es.length := by omega
      refine go ?_
      refine A.mt () ⟨g2, hg2, ?_⟩
      rw [List.take_length] at hs
      exact hs.perm (List.Perm.cons _ (.swap _ _ _))
  clear hs
  rintro _ w10 ⟨g10, hg10, hs⟩
  refine go ?_
  refine A.r2 ?_
  exact HR.out vb b' x w10 g10 (hg1.trans hg10) (hx.mono hg10) rfl hs
end Go.Proofs.YtkolnecahlkndaaGreat

/-
  Layer 15 (view): Len, Members, Range; the statements' example, and a fold of the first events.
-/
namespace Go.Proofs.YtkolnecahlkndaaGreat
open Go.RowKit
set_option linter.unusedVariables false
set_option linter.unusedSimpArgs false

set_option maxHeartbeats 1600000 in
set_option maxRecDepth 100000 in
theorem vwLen_any {R : Ending → World → Prop} {W w : World} {g : Hl} {H : List HP} {vb b b' : Nat} {x : El} (hs : Sat W w g (vw vb b b' x :: H)) (hR : R (.returned (.int .i64 x.es.length)) w) : Calls Tryz.prog 13 #[ptr vb] w R := by
  have HR := Lib.hid hR
  clear hR
  simp only [vw, El.v] at hs
  refine C.calls (args := [.pointer (some ⟨vb, 0, none⟩)]) Tryz.func13 rfl rfl rfl ?_
  refine go ?_
  refine A.r1 ?_
  exact HR.out

set_option maxHeartbeats 1600000 in
set_option maxRecDepth 100000 in
theorem vwMembers_any {R : Ending → World → Prop} {W w : World} {g : Hl} {H : List HP} {vb b b' : Nat} {x : El} {f : Fo} (hs : Sat W w g (vw vb b b' x :: fold b' f :: H))
    (hR : ∀ a' c' w', Sat W w' g (own 3 1 (.slice a' (f.members 64).length c') (f.members 64).length (is_ (f.members 64)) :: fold b' f :: vw vb b b' x :: H) → R (.returned (.slice a' (f.members 64).length c')) w') : Calls Tryz.prog 14 #[ptr vb] w R := by
  have HR := Lib.hid hR
  clear hR
  simp only [vw, El.v] at hs HR
  refine C.calls (args := [.pointer (some ⟨vb, 0, none⟩)]) Tryz.func14 rfl rfl rfl ?_
  refine go ?_
  refine E.callf Tryz.func36 rfl ?_
  refine foldMembers_any hs.swap ?_
  intro a' c' w1 hs
  refine go ?_
  refine A.r1 ?_
  exact HR.out _ _ _ hs

set_option maxHeartbeats 1600000 in
set_option maxRecDepth 100000 in
theorem awake15_any {R : Ending → World → Prop} {W w : World} {g : Hl} {H : List HP} (hs : Sat W w g H) (hR : ∀ w' g', Hl.le g g' → Sat W w' g' H → R (.returned (.bool true)) w') : Calls Tryz.prog 4 #[] w R := by
  have HR := Lib.hid hR
  clear hR
  refine C.calls (args := []) Tryz.func4 rfl rfl rfl ?_
  refine go ?_
  refine E.callf Tryz.func12 rfl ?_
  refine foldNew_any (n := 1) (by decide) hs ?_
  intro b w1 hs
  rw [show ptr b = .pointer (some ⟨b, 0, none⟩) from rfl]
  refine go ?_
  refine E.callf Tryz.func7 rfl ?_
  refine by_any (ls := []) (T := []) Pr.nil rfl (by decide) (by simp) (by simp) List.Pairwise.nil (by simp) (by decide) trivial hs ?_
  intro vb b' x w2 g2 hg2 hx hxe hs
  rw [show ptr vb = .pointer (some ⟨vb, 0, none⟩) from rfl]
  refine go ?_
  refine E.callf Tryz.func13 rfl ?_
  refine vwLen_any hs ?_
  have e0 : (x.es.length : Int) = 0 := by rw [hxe]; rfl
  rw [e0]
  refine go ?_
  refine E.callf Tryz.func14 rfl ?_
  refine vwMembers_any (hs.perm (List.Perm.cons _ (.swap _ _ _))) ?_
  intro a3 c3 w3 hs
  have e1 : (Fo.members (Fo.adds (foNew (min (max 1 0) 64 : Int).toNat) []) 64).length = 1 := by decide +kernel
  rw [e1]
  refine go ?_
  refine A.r1 ?_
  exact HR.out _ g2 hg2 hs.drop.drop.drop.drop

set_option maxHeartbeats 1600000 in
set_option maxRecDepth 100000 in
theorem base_any {R : Ending → World → Prop} {W w : World} {g : Hl} {H : List HP} {x : El} {k : Nat} (hx : x.ok g) (hk : k ≤ x.es.length) (hl : x.es.length ≤ 1000000000) (hf : (foNew 3).fits (x.es.take k)) (hs : Sat W w g H)
    (hR : ∀ b w' g', Hl.le g g' → Sat W w' g' (fold b ((foNew 3).adds (x.es.take k)) :: H) → R (.returned (ptr b)) w') : Calls Tryz.prog 8 #[x.v, .int .i64 k] w R := by
  have HR := Lib.hid hR
  clear hR
  refine C.calls (args := [.slice x.a x.es.length x.c, .int .i64 k]) Tryz.func8 rfl rfl rfl ?_
  refine go ?_
  refine E.callf Tryz.func12 rfl ?_
  refine foldNew_any (n := 3) (by decide) hs ?_
  intro b w1 hs
  have e3 : (min (max (3 : Int) 0) 64).toNat = 3 := by decide
  rw [e3] at hs
  refine gob ?_
  refine C.block ?_
  refine C.lp (fun i : Nat => [(0, .slice x.a x.es.length x.c), (1, .int .i64 k), (5, ptr b), (6, .int .i64 i)])
    (fun gk i w => gk = k - i ∧ i ≤ k ∧ ∃ g', Hl.le g g' ∧ Sat W w g' (fold b ((foNew 3).adds (x.es.take i)) :: H)) k 0 ⟨rfl, Nat.zero_le _, g, Hl.le_refl _, hs⟩ ?_
  clear hs
  rintro gk i w2 ⟨rfl, hi, g2, hg2, hs⟩
  refine go ?_
  refine C.cond_dec (p := (i : Int) < k) rfl (fun h => ?_) (fun h => ?_)
  · have hil : i < x.es.length := by omega
    have hee := hx.evs x.es[i] (List.getElem_mem hil)
    refine go ?_
    refine E.ixs el_ev hs (hx.row.mono hg2) i ?_
    intro b5 o5 hr
    rw [evC_at hil] at hr
    refine E.ldr hr ag_ev rfl ?_
    refine E.callf Tryz.func18 rfl ?_
    refine foldApply_any (b := b) (e := x.es[i]) (hee.1.mono hg2) hs ?_
    intro w9 g9 hg9 hs
    have hfi : ((foNew 3).adds (x.es.take i)).step x.es[i] = (0, (foNew 3).adds (x.es.take (i + 1))) := by
      have h1 := hf
      have hlk : i < (x.es.take k).length := by rw [List.length_take]; omega
      rw [← List.take_append_drop i (x.es.take k), fits_append, List.drop_eq_getElem_cons hlk, List.take_take, Nat.min_eq_left (by omega), List.getElem_take] at h1
      rw [List.take_succ_eq_append_getElem hil, adds_append]
      exact h1.2.1
    rw [hfi] at hs ⊢
    simp only at hs ⊢
    refine go ?_
    exact A.rd (k - (i + 1)) (i + 1) ⟨rfl, by omega, g9, hg2.trans hg9, hs⟩
  · obtain rfl : i = k := by omega
    refine go ?_
    refine A.r1 ?_
    exact HR.out _ _ g2 hg2 hs
end Go.Proofs.YtkolnecahlkndaaGreat

/-
  The references of layers 2 and 3: a number, a text, a sum, a record: they are the program's.
-/
namespace Go.Proofs.YtkolnecahlkndaaGreat
open Go.RowKit
set_option linter.unusedVariables false
set_option linter.unusedSimpArgs false

theorem or128_add (n : Nat) : (n % 256) ||| 128 = 128 + n % 128 := by
  have : ∀ m : Fin 256, (m.val ||| 128) = 128 + m.val % 128 := by decide +kernel
  have h := this ⟨n % 256, Nat.mod_lt _ (by decide)⟩
  simp only at h
  rw [h]
  omega

set_option maxHeartbeats 1600000 in
set_option maxRecDepth 100000 in
theorem rlay_any {R : Ending → World → Prop} {W w : World} {g : Hl} {H : List HP} {D : Nat → Prop} {a : Option Addr} {m c n : Nat} {xs : List UInt8} (hs : Sat W w g H) (hrow : ∀ w', Sat W w' g H → Row 1 w' D (.slice a m c) m (bs xs)) (hx : xs.length = m) (hm : m ≤ 1000000000) (hn : n < 18446744073709551616)
    (hR : ∀ a' c' w', Sat W w' g (own 5 1 (.slice a' (xs ++ layN n).length c') (xs ++ layN n).length (bs (xs ++ layN n)) :: H) → R (.returned (.slice a' (xs ++ layN n).length c')) w') :
    Calls Tryz.prog 54 #[.slice a m c, .int .u64 n] w R := by
  have HR := Lib.hid hR
  clear hR
  have hten := layN_ten hn
  refine C.calls (args := [.slice a m c, .int .u64 n]) Tryz.func54 rfl rfl rfl ?_
  refine go ?_
  refine E.app el_u8 hs.nilOwn (hrow w hs) ?_
  intro a1 c1 w1 _ _ hs
  refine gob ?_
  refine C.block ?_
  refine C.lp (fun x : Nat × List UInt8 × Option Addr × Nat => [(1, .int .u64 x.1), (5, .slice x.2.2.1 x.2.1.length x.2.2.2)])
    (fun gk x w => gk = x.1 ∧ x.1 < 18446744073709551616 ∧ x.2.1 ++ layN x.1 = xs ++ layN n ∧ Sat W w g (own 5 1 (.slice x.2.2.1 x.2.1.length x.2.2.2) x.2.1.length (bs x.2.1) :: H)) n (n, xs, a1, c1)
    ⟨rfl, hn, rfl, by rw [hx]; simpa using hs⟩ ?_ (hw := by simp only [hx, Nat.zero_add]; exact wk_)
  clear hs
  rintro gk ⟨q, ys, a2, c2⟩ w2 ⟨hgk, hq, hys, hs⟩
  simp only at hgk hq hys hs ⊢
  have hlen : ys.length + (layN q).length = xs.length + (layN n).length := by
    have := congrArg List.length hys
    simpa using this
  refine go ?_
  refine C.cond_dec (p := (127 : Int) < q) rfl (fun hlt => ?_) (fun hlt => ?_)
  · have e : layN q = UInt8.ofNat (128 + q % 128) :: layN (q / 128) := by
      rw [layN_big (by omega), or128_add]
    rw [e] at hys hlen
    simp only [List.length_cons] at hlen
    refine go ?_
    refine E.bsl hs ?_
    intro b3 w3 hs
    refine E.app el_u8 hs.swap (hs.rowOf (size := 1) 1 rfl (by decide)) ?_
    intro a4 c4 w4 _ _ hs
    refine go ?_
    refine A.rd (q / 128) (q / 128, ys ++ [UInt8.ofNat (128 + q % 128)], a4, c4) ⟨rfl, by simp only; omega, by simpa using hys, ?_⟩ (hw := ?_)
    · have h8 : (UInt8.ofNat (128 + q % 128)).toNat = 128 + q % 128 := by simp; omega
      have e2 : bs (ys ++ [UInt8.ofNat (128 + q % 128)]) = bs ys ++ [.int .u8 ((128 + q % 128 : Nat) : Int)] := by rw [bs_append]; simp only [bs, List.map_cons, List.map_nil, h8]
      simp only [e2, List.length_append, List.length_cons, List.length_nil]
      exact hs.swap.drop
    · simp only [List.length_append, List.length_cons, List.length_nil]
      exact wk_
  · have e : layN q = [UInt8.ofNat q] := layN_small (by omega)
    rw [e] at hys hlen
    simp only [List.length_cons, List.length_nil] at hlen
    refine go ?_
    refine E.bsl hs ?_
    intro b3 w3 hs
    refine E.app el_u8 hs.swap (hs.rowOf (size := 1) 1 rfl (by decide)) ?_
    intro a4 c4 w4 _ _ hs
    refine go ?_
    refine A.r1 ?_
    rw [← hys] at HR
    have key := HR.out a4 c4 w4
    have h8 : (UInt8.ofNat q).toNat = q := by simp; omega
    have e2 : bs (ys ++ [UInt8.ofNat q]) = bs ys ++ [.int .u8 (q : Int)] := by rw [bs_append]; simp only [bs, List.map_cons, List.map_nil, h8]
    simp only [e2, List.length_append, List.length_cons, List.length_nil, Nat.zero_add] at key
    exact key hs.swap.drop
end Go.Proofs.YtkolnecahlkndaaGreat

/-
  The references of layers 1 and 2: a quantity's bits; a text, a number in eight bytes, behind some bytes.
-/
namespace Go.Proofs.YtkolnecahlkndaaGreat
open Go.RowKit
set_option linter.unusedVariables false
set_option linter.unusedSimpArgs false

theorem own_row {W w : World} {g : Hl} {H : List HP} {E : TypeId} {size n : Nat} {v : Value} {xs : List Value} (hs : Sat W w g (own E size v n xs :: H)) : Row size w (fun _ => True) v n xs := Row.of_owns hs.owns fun _ _ => trivial

set_option maxHeartbeats 1600000 in
set_option maxRecDepth 100000 in
theorem void_any {R : Ending → World → Prop} {w : World} {b : Nat} (hR : R (.returned (.bool (nanF b))) w) : Calls Tryz.prog 85 #[.float .f64 b] w R := by
  have HR := Lib.hid hR
  clear hR
  refine C.calls (args := [.float .f64 b]) Tryz.func85 rfl rfl rfl ?_
  refine go ?_
  refine A.r1 ?_
  exact HR.out

set_option maxHeartbeats 1600000 in
set_option maxRecDepth 100000 in
theorem rbits_any {R : Ending → World → Prop} {w : World} {b : Nat} (hR : R (.returned (.int .u64 (bitsF b))) w) : Calls Tryz.prog 58 #[.float .f64 b] w R := by
  have HR := Lib.hid hR
  clear hR
  refine C.calls (args := [.float .f64 b]) Tryz.func58 rfl rfl rfl ?_
  refine go ?_
  refine E.callf Tryz.func85 rfl ?_
  refine void_any ?_
  refine go ?_
  cases hn : nanF b with
  | true =>
    refine go ?_
    refine A.r1 ?_
    simpa [bitsF, hn] using HR.out
  | false =>
    refine go ?_
    refine E.ext (v := .int .u64 b) (w' := w) Tryz.func67 (ex := Extern.MathFloatBits.float64bits) rfl ?_
    refine go ?_
    refine A.r1 ?_
    simpa [bitsF, hn] using HR.out

set_option maxHeartbeats 1600000 in
set_option maxRecDepth 100000 in
theorem rtextV_any {R : Ending → World → Prop} {W w : World} {g : Hl} {H : List HP} {a : Option Addr} {u : Value} {m c k : Nat} {xs t : List UInt8} (hs : Sat W w g (own 5 1 (.slice a m c) m (bs xs) :: H)) (hx : xs.length = m) (hm : m ≤ 500000000) (hp : Pr 1 g u k (bs t)) (ht : t.length = k) (hk : k ≤ 400000000)
    (hR : ∀ a' c' w', Sat W w' g (own 5 1 (.slice a' (xs ++ textB t).length c') (xs ++ textB t).length (bs (xs ++ textB t)) :: H) → R (.returned (.slice a' (xs ++ textB t).length c')) w') :
    Calls Tryz.prog 57 #[.slice a m c, u] w R := by
  have HR := Lib.hid hR
  clear hR
  obtain ⟨a1, c1, rfl, _, _⟩ := hp.len
  have hten := layN_ten (n := k) (by omega)
  refine C.calls (args := [.slice a m c, .slice a1 k c1]) Tryz.func57 rfl rfl rfl ?_
  refine go ?_
  refine E.callf Tryz.func54 rfl ?_
  refine rlay_any hs (fun w' h => own_row h) hx (by omega) (by omega) ?_
  intro a2 c2 w2 hs
  have hl2 : (xs ++ layN k).length = m + (layN k).length := by simp [hx]
  refine go ?_
  refine E.app el_u8 hs (hp.row hs) ?_
  intro a3 c3 w3 _ _ hs
  refine go ?_
  refine A.r1 ?_
  have e1 : (xs ++ layN k).length + k = (xs ++ textB t).length := by simp [textB, ht]; omega
  have e2 : bs (xs ++ layN k) ++ bs t = bs (xs ++ textB t) := by rw [← bs_append]; simp [textB, ht]
  rw [e1, e2] at hs
  rw [e1]
  exact HR.out _ _ _ hs.swap.drop

set_option maxHeartbeats 1600000 in
set_option maxRecDepth 100000 in
theorem rfixed_any {R : Ending → World → Prop} {W w : World} {g : Hl} {H : List HP} {a : Option Addr} {m c n : Nat} {xs : List UInt8} (hs : Sat W w g (own 5 1 (.slice a m c) m (bs xs) :: H)) (hx : xs.length = m) (hm : m ≤ 1000000000) (hn : n < 18446744073709551616)
    (hR : ∀ a' c' w', Sat W w' g (own 5 1 (.slice a' (xs ++ fixB n).length c') (xs ++ fixB n).length (bs (xs ++ fixB n)) :: H) → R (.returned (.slice a' (xs ++ fixB n).length c')) w') :
    Calls Tryz.prog 55 #[.slice a m c, .int .u64 n] w R := by
  have HR := Lib.hid hR
  clear hR
  refine C.calls (args := [.slice a m c, .int .u64 n]) Tryz.func55 rfl rfl rfl ?_
  refine go ?_
  refine E.app el_u8 hs.nilOwn (own_row hs) ?_
  intro a1 c1 w1 _ _ hs
  simp only [Nat.zero_add, List.nil_append] at hs ⊢
  refine gob ?_
  refine C.block ?_
  refine C.lp (fun x : Nat × Nat × Option Addr × Nat × List UInt8 => [(1, .int .u64 n), (5, .slice x.2.2.1 x.2.1 x.2.2.2.1), (6, .int .i64 x.1)])
    (fun gk x w => gk = 8 - x.1 ∧ x.1 ≤ 8 ∧ x.2.1 = m + x.1 ∧ x.2.2.2.2.length = x.2.1 ∧ x.2.2.2.2 ++ fixG (8 - x.1) n = xs ++ fixB n ∧ Sat W w g (own 5 1 (.slice x.2.2.1 x.2.1 x.2.2.2.1) x.2.1 (bs x.2.2.2.2) :: H)) 8 (0, m, a1, c1, xs) ⟨rfl, by omega, rfl, hx, rfl, hs.swap.drop⟩ ?_
  clear hs
  rintro gk ⟨i, k1, a2, c2, ys⟩ w2 ⟨hgk, hi, hk1, hyl, hy, hs⟩
  simp only at hgk hi hk1 hyl hy hs ⊢
  refine go ?_
  refine C.cond_dec (p := (i : Int) < 8) rfl (fun h => ?_) (fun h => ?_)
  · have ej : (56 : Int) - 8 * (i : Int) = ((8 * (7 - i) : Nat) : Int) := by omega
    have e8 : fixG (8 - i) n = UInt8.ofNat (n / 2 ^ (8 * (7 - i))) :: fixG (8 - (i + 1)) n := by
      rw [show 8 - i = (7 - i) + 1 by omega]
      simp only [fixG]
      rw [show 7 - i = 8 - (i + 1) by omega]
    refine go ?_
    rw [ej]
    refine go ?_
    refine E.bsl hs ?_
    intro b2 w2 hs
    refine E.app el_u8 hs.swap (hs.rowOf (size := 1) 1 rfl (by decide)) ?_
    intro a3 c3 w3 _ _ hs
    refine go ?_
    refine A.rd (8 - (i + 1)) (i + 1, k1 + 1, a3, c3, ys ++ [UInt8.ofNat (n / 2 ^ (8 * (7 - i)))]) ⟨rfl, by omega, by simp only; omega, by simp [hyl], ?_, ?_⟩
    · simp only
      rw [← hy, e8]
      simp
    · simp only [bs_append]
      have e9 : bs [UInt8.ofNat (n / 2 ^ (8 * (7 - i)))] = [.int .u8 ((n / 2 ^ (8 * (7 - i)) % 256 : Nat))] := by simp [bs]
      rw [e9]
      exact hs.swap.drop
  · refine go ?_
    refine A.r1 ?_
    obtain rfl : i = 8 := by omega
    simp only [Nat.sub_self, fixG, List.append_nil] at hy
    subst hy
    rw [← hyl] at hs ⊢
    exact HR.out _ _ _ hs
end Go.Proofs.YtkolnecahlkndaaGreat

/-
  The reference of layer 6: places, and events as bytes: they are the program's.
-/
namespace Go.Proofs.YtkolnecahlkndaaGreat
open Go.RowKit
set_option linter.unusedVariables false
set_option linter.unusedSimpArgs false

set_option maxHeartbeats 1600000 in
set_option maxRecDepth 100000 in
theorem rat_any {R : Ending → World → Prop} {W w : World} {g : Hl} {H : List HP} {e : Ev} (hs : Sat W w g H) (hR : ∀ w', Sat W w' g H → R (.returned (spot e.tm e.wr)) w') :
    Calls Tryz.prog 38 #[e.val] w R := by
  have HR := Lib.hid hR
  clear hR
  simp only [Ev.val, Ev.cs]
  refine C.calls (args := [.agg #[.int .i64 e.wr, .int .u64 e.sq, .int .u64 e.tm, .int .u8 e.kd, .string ⟨e.key.toArray⟩, e.tv, .float .f64 e.num, .int .i64 e.nd]]) Tryz.func38 rfl rfl rfl ?_
  refine go ?_
  refine E.bx hs ?_
  intro b1 w1 hs
  refine go ?_
  refine E.al hs ?_
  intro b2 w2 hs
  refine go ?_
  refine E.sto hs ?_
  intro w3 hs
  refine go ?_
  refine A.c1 rfl rfl (run_lda hs ag_spot) ?_
  exact HR.out _ hs.drop.drop

set_option maxHeartbeats 1600000 in
set_option maxRecDepth 100000 in
theorem ahead_any {R : Ending → World → Prop} {W w : World} {g : Hl} {H : List HP} {t1 t2 : Nat} {w1 w2 : Int} (hs : Sat W w g H) (hR : ∀ w', Sat W w' g H → R (.returned (.bool (decide (cmpS t1 w1 t2 w2 < 0)))) w') :
    Calls Tryz.prog 37 #[spot t1 w1, spot t2 w2] w R := by
  have HR := Lib.hid hR
  clear hR
  have e1 : decide (cmpS t1 w1 t2 w2 < 0) = decide (t1 < t2 ∨ t1 = t2 ∧ w1 < w2) := decide_eq_decide.2 cmpS_lt
  rw [e1] at HR
  simp only [spot]
  refine C.calls (args := [.agg #[.int .u64 t1, .int .i64 w1], .agg #[.int .u64 t2, .int .i64 w2]]) Tryz.func37 rfl rfl rfl ?_
  refine go ?_
  refine E.bx hs ?_
  intro b1 w3 hs
  refine go ?_
  refine E.bx hs ?_
  intro b2 w4 hs
  refine go ?_
  cases h1 : decide ((t1 : Int) < t2) with
  | true =>
    have h1 := of_decide_eq_true h1
    refine go ?_
    refine A.r1 ?_
    have := HR.out _ hs.drop.drop
    rw [decide_eq_true (by omega)] at this
    exact this
  | false =>
  have h1 := of_decide_eq_false h1
  refine go ?_
  cases h2 : decide ((t1 : Int) = t2) with
  | false =>
    have h2 := of_decide_eq_false h2
    refine go ?_
    refine A.r1 ?_
    have := HR.out _ hs.drop.drop
    rw [decide_eq_false (by omega)] at this
    exact this
  | true =>
  have h2 := of_decide_eq_true h2
  refine go ?_
  refine A.r1 ?_
  have := HR.out _ hs.drop.drop
  rw [show decide (t1 < t2 ∨ t1 = t2 ∧ w1 < w2) = decide (w1 < w2) from decide_eq_decide.2 (by omega)] at this
  exact this

set_option maxHeartbeats 3200000 in
set_option maxRecDepth 100000 in
theorem rencode_any {R : Ending → World → Prop} {W w : World} {g : Hl} {H : List HP} {e : Ev} (ho : e.ok g) (hwr : 0 ≤ e.wr) (hk1 : 1 ≤ e.kd) (hnd : e.kd = 5 → 0 ≤ e.nd) (hs : Sat W w g H)
    (hR : ∀ a' c' w' g', Hl.le g g' → Sat W w' g' (own 5 1 (.slice a' e.enc.length c') e.enc.length (bs e.enc) :: H) → R (.returned (.slice a' e.enc.length c')) w') :
    Calls Tryz.prog 62 #[e.val] w R := by
  have HR := Lib.hid hR
  clear hR
  obtain ⟨a, c, etv, hnc, _⟩ := ho.tv.len
  have hkd := ho.kd
  have hsq := ho.sq
  have htm := ho.tm
  have h1 := ho.wr
  have h2 := ho.nd
  have h3 := ho.key
  have h4 := ho.text
  have h5 := ho.tv
  have h6 := ho.num
  clear ho
  obtain ⟨wr, sq, tm, kd, key, text, num, nd, tv⟩ := e
  simp only at etv hkd hsq htm h1 h2 h3 h4 h5 h6 hwr hnd hk1
  simp only [Ev.val, Ev.cs]
  subst etv
  obtain ⟨wr, rfl⟩ := Int.eq_ofNat_of_zero_le hwr
  have l1 := layN_ten (n := wr) (by omega)
  have l2 := layN_ten (n := sq) (by omega)
  have l3 := layN_ten (n := tm) (by omega)
  have m1 : (layN wr ++ layN sq).length ≤ 20 := by rw [List.length_append]; omega
  refine C.calls (args := [.agg #[.int .i64 wr, .int .u64 sq, .int .u64 tm, .int .u8 kd, .string ⟨key.toArray⟩, .slice a text.length c, .float .f64 num, .int .i64 nd]]) Tryz.func62 rfl rfl rfl ?_
  refine go ?_
  refine E.bx hs ?_
  intro b1 w1 hs
  refine go ?_
  have e8 : (UInt8.ofNat kd).toNat = kd := by simp; omega
  refine C.cut (fun x : Option Addr × Nat => [(1, .pointer (some ⟨b1, 0, none⟩)), (3, .slice x.1 (layN wr ++ layN sq ++ layN tm).length x.2)])
    (fun x w => Sat W w g (own 5 1 (.slice x.1 (layN wr ++ layN sq ++ layN tm).length x.2) (layN wr ++ layN sq ++ layN tm).length (bs (layN wr ++ layN sq ++ layN tm)) :: blk b1 [.int .i64 wr, .int .u64 sq, .int .u64 tm, .int .u8 kd, .string ⟨key.toArray⟩, .slice a text.length c, .float .f64 num, .int .i64 nd] 32 :: H)) ?_ ?_
  · refine C.held1 b1 hs ?_
    intro w hk hs
    refine goh ?_
    refine EH.one (St.callf Tryz.func54 rfl ?_)
    refine rlay_any (xs := []) hs (fun w' _ => Row.nil w' fun _ => True) rfl (by omega) (by omega) ?_
    intro a2 c2 w2 hs
    simp only [List.nil_append] at hs ⊢
    refine kept1 hs (fun hk => ?_)
    refine goh ?_
    refine EH.one (St.callf Tryz.func54 rfl ?_)
    refine rlay_any hs (fun w' h => own_row h) rfl (by omega) (by omega) ?_
    intro a3 c3 w3 hs
    replace hs := hs.swap.drop
    refine kept1 hs (fun hk => ?_)
    refine goh ?_
    refine EH.one (St.callf Tryz.func54 rfl ?_)
    refine rlay_any hs (fun w' h => own_row h) rfl (by omega) (by omega) ?_
    intro a4 c4 w4 hs
    replace hs := hs.swap.drop
    refine kept1 hs (fun hk => ?_)
    refine goh ?_
    refine EH.done ?_
    exact A.mt (a4, c4) hs
  clear hs
  rintro ⟨a2, c2⟩ w2 hs
  simp only at hs ⊢
  have lA0 : (layN wr ++ layN sq ++ layN tm).length ≤ 30 := by
    simp only [List.length_append]; omega
  refine go ?_
  refine E.bsl hs ?_
  intro b3 w3 hs
  refine E.app el_u8 hs.swap (hs.rowOf (size := 1) 1 rfl (by decide)) ?_
  intro a4 c4 w4 _ _ hs
  replace hs := hs.swap.drop
  have eA : bs (layN wr ++ layN sq ++ layN tm) ++ [.int .u8 (kd : Nat)] = bs (layN wr ++ layN sq ++ layN tm ++ [UInt8.ofNat kd]) := by simp [bs, e8]
  have eL : (layN wr ++ layN sq ++ layN tm).length + 1 = (layN wr ++ layN sq ++ layN tm ++ [UInt8.ofNat kd]).length := by simp [Nat.add_assoc]
  rw [eA, eL] at hs
  rw [eL]
  have lA : (layN wr ++ layN sq ++ layN tm ++ [UInt8.ofNat kd]).length ≤ 31 := by
    rw [← eL]; omega
  have hR2 : ∀ (B : List UInt8), layN wr ++ layN sq ++ layN tm ++ [UInt8.ofNat kd] ++ B = Ev.enc ⟨wr, sq, tm, kd, key, text, num, nd, .slice a text.length c⟩ → ∀ a' c' w' g', Hl.le g g' → Sat W w' g' (own 5 1 (.slice a' (layN wr ++ layN sq ++ layN tm ++ [UInt8.ofNat kd] ++ B).length c') (layN wr ++ layN sq ++ layN tm ++ [UInt8.ofNat kd] ++ B).length (bs (layN wr ++ layN sq ++ layN tm ++ [UInt8.ofNat kd] ++ B)) :: H) → R (.returned (.slice a' (layN wr ++ layN sq ++ layN tm ++ [UInt8.ofNat kd] ++ B).length c')) w' := fun B hB a' c' w' g' hg' hs' => by
    rw [hB] at hs' ⊢
    exact HR.out _ _ _ _ hg' hs'
  clear HR eA eL
  simp only [Ev.enc, Ev.keyB, Ev.restB, Int.toNat_natCast] at hR2
  generalize hAA : layN wr ++ layN sq ++ layN tm ++ [UInt8.ofNat kd] = A1 at lA hR2 hs ⊢
  clear hAA
  have h3b : key.length ≤ 1000000000 := by omega
  have hkey := textB_len key (by omega)
  have htext := textB_len text (by omega)
  have lk : (A1 ++ textB key).length ≤ 200000000 := by rw [List.length_append]; omega
  have hcases : kd = 1 ∨ kd = 2 ∨ kd = 3 ∨ kd = 4 ∨ kd = 5 ∨ 5 < kd := by omega
  rcases hcases with hq | hq | hq | hq | hq | hq
  · subst hq
    simp only [show (1 ≤ 1 ∧ 1 ≤ 4) = True by simp, if_true] at hR2
    have HR2 := Lib.hid hR2
    clear hR2
    refine go ?_
    refine E.bytes Tryz.underlying9 Tryz.underlying29 Tryz.underlying5 hs h3b ?_
    intro b5 c5 w3 g3 hg3 hs hp5
    refine go ?_
    refine E.callf Tryz.func57 rfl ?_
    refine rtextV_any hs rfl (by omega) hp5 rfl (by omega) ?_
    intro a4 c4 w4 hs
    refine go ?_
    refine E.callf Tryz.func57 rfl ?_
    refine rtextV_any hs rfl (by omega) (h5.mono hg3) rfl (by omega) ?_
    intro a6 c6 w6 hs
    refine go ?_
    refine A.r1 ?_
    rw [List.append_assoc A1] at hs ⊢
    exact HR2.out (textB key ++ textB text) (by simp) _ _ _ _ hg3 hs.swap.drop
  · subst hq
    simp only [show (1 ≤ 2 ∧ 2 ≤ 4) = True by simp, if_true] at hR2
    have HR2 := Lib.hid hR2
    clear hR2
    refine go ?_
    refine E.bytes Tryz.underlying9 Tryz.underlying29 Tryz.underlying5 hs h3b ?_
    intro b5 c5 w3 g3 hg3 hs hp5
    refine go ?_
    refine E.callf Tryz.func57 rfl ?_
    refine rtextV_any hs rfl (by omega) hp5 rfl (by omega) ?_
    intro a4 c4 w4 hs
    refine go ?_
    refine E.callf Tryz.func58 rfl ?_
    refine rbits_any ?_
    refine E.callf Tryz.func55 rfl ?_
    refine rfixed_any hs rfl (by omega) (bitsF_lt h6) ?_
    intro a6 c6 w6 hs
    refine go ?_
    refine A.r1 ?_
    rw [List.append_assoc A1] at hs ⊢
    exact HR2.out (textB key ++ fixB (bitsF num)) (by simp) _ _ _ _ hg3 hs.swap.drop
  · subst hq
    simp only [show (1 ≤ 3 ∧ 3 ≤ 4) = True by simp, if_true] at hR2
    have HR2 := Lib.hid hR2
    clear hR2
    refine go ?_
    refine E.bytes Tryz.underlying9 Tryz.underlying29 Tryz.underlying5 hs h3b ?_
    intro b5 c5 w3 g3 hg3 hs hp5
    refine go ?_
    refine E.callf Tryz.func57 rfl ?_
    refine rtextV_any hs rfl (by omega) hp5 rfl (by omega) ?_
    intro a4 c4 w4 hs
    refine go ?_
    refine E.callf Tryz.func58 rfl ?_
    refine rbits_any ?_
    refine E.callf Tryz.func55 rfl ?_
    refine rfixed_any hs rfl (by omega) (bitsF_lt h6) ?_
    intro a6 c6 w6 hs
    refine go ?_
    refine A.r1 ?_
    rw [List.append_assoc A1] at hs ⊢
    exact HR2.out (textB key ++ fixB (bitsF num)) (by simp) _ _ _ _ hg3 hs.swap.drop
  · subst hq
    simp only [show (1 ≤ 4 ∧ 4 ≤ 4) = True by simp, if_true] at hR2
    have HR2 := Lib.hid hR2
    clear hR2
    refine go ?_
    refine E.bytes Tryz.underlying9 Tryz.underlying29 Tryz.underlying5 hs h3b ?_
    intro b5 c5 w3 g3 hg3 hs hp5
    refine go ?_
    refine E.callf Tryz.func57 rfl ?_
    refine rtextV_any hs rfl (by omega) hp5 rfl (by omega) ?_
    intro a4 c4 w4 hs
    refine go ?_
    refine A.r1 ?_
    exact HR2.out (textB key) (by simp) _ _ _ _ hg3 hs.swap.drop
  · subst hq
    obtain ⟨nd, rfl⟩ := Int.eq_ofNat_of_zero_le (hnd rfl)
    simp only [show (1 ≤ 5 ∧ 5 ≤ 4) = False by simp, if_false, Int.toNat_natCast] at hR2
    have HR2 := Lib.hid hR2
    clear hR2
    refine go ?_
    refine E.callf Tryz.func54 rfl ?_
    refine rlay_any hs (fun w' h => own_row h) rfl (by omega) (by omega) ?_
    intro a6 c6 w6 hs
    refine go ?_
    refine A.r1 ?_
    exact HR2.out (layN nd) (by simp) _ _ _ _ (Hl.le_refl _) (hs.swap.drop.swap.drop)
  · refine go ?_
    rw [show decide ((kd : Int) ≤ 4) = false from decide_eq_false (by omega)]
    refine go ?_
    rw [show decide ((kd : Int) = 1) = false from decide_eq_false (by omega)]
    refine go ?_
    rw [show decide ((kd : Int) = 2) = false from decide_eq_false (by omega)]
    refine go ?_
    rw [show decide ((kd : Int) = 3) = false from decide_eq_false (by omega)]
    refine go ?_
    rw [show decide ((kd : Int) = 5) = false from decide_eq_false (by omega)]
    refine go ?_
    refine A.r1 ?_
    have k1 : ¬ (1 ≤ kd ∧ kd ≤ 4) := by omega
    have k2 : ¬ kd = 1 := by omega
    have k3 : ¬ (kd = 2 ∨ kd = 3) := by omega
    have k4 : ¬ kd = 5 := by omega
    simp only [k1, k2, k3, k4, if_false] at hR2
    have := hR2 [] (by simp) a4 c4 w4 g (Hl.le_refl _)
    rw [List.append_nil] at this
    exact this hs.swap.drop
end Go.Proofs.YtkolnecahlkndaaGreat

/-
  The reference of layer 6: whether events are one.
-/
namespace Go.Proofs.YtkolnecahlkndaaGreat
open Go.RowKit
set_option linter.unusedVariables false
set_option linter.unusedSimpArgs false

/-- What a valid event's parts are. -/
structure Ev.fit (e : Ev) : Prop where
  wr : 0 ≤ e.wr
  kd : 1 ≤ e.kd
  nd : e.kd = 5 → 0 ≤ e.nd

set_option maxHeartbeats 3200000 in
set_option maxRecDepth 100000 in
theorem same_any {R : Ending → World → Prop} {W w : World} {g : Hl} {H : List HP} {e f : Ev} (he : e.ok g) (hf : f.ok g) (fe : e.fit) (ff : f.fit) (hs : Sat W w g H)
    (hR : ∀ w' g', Hl.le g g' → Sat W w' g' H → R (.returned (.bool (decide (e.enc = f.enc)))) w') :
    Calls Tryz.prog 28 #[e.val, f.val] w R := by
  have HR := Lib.hid hR
  clear hR
  have ag1 := ag_ev
  refine C.calls (args := [e.val, f.val]) Tryz.func28 rfl rfl rfl ?_
  refine go ?_
  refine E.bx hs (xs := e.cs) ?_ (hx := rfl)
  intro b1 w1 hs
  refine E.bx hs (xs := f.cs) ?_ (hx := rfl)
  intro b2 w2 hs
  refine go ?_
  refine C.held2 b1 b2 hs ?_
  intro w3 hk hs
  refine goh ?_
  refine EH.one (St.callf Tryz.func62 rfl ?_)
  refine rencode_any (e := e) he fe.wr fe.kd fe.nd hs ?_
  intro a4 c4 w4 g4 hg4 hs
  obtain ⟨g5, hg5, hp5, hs⟩ := hs.publishOwn
  refine kept2 hs (fun hk => ?_) (hg4.trans hg5)
  refine goh ?_
  refine EH.two (St.string rfl Tryz.underlying29 Tryz.underlying5 Tryz.underlying9 (hp5.row hs) ?_) (St.callf Tryz.func62 rfl ?_)
  · refine kept2 hs (fun hk => ?_) (hg4.trans hg5)
    refine goh ?_
    refine EH.one (St.callf Tryz.func62 rfl ?_)
    refine rencode_any (e := f) ((hf.mono hg4).mono hg5) ff.wr ff.kd ff.nd hs ?_
    intro a6 c6 w6 g6 hg6 hs
    obtain ⟨g7, hg7, hp7, hs⟩ := hs.publishOwn
    refine kept2 hs (fun hk => ?_) ((hg4.trans hg5).trans (hg6.trans hg7))
    refine goh ?_
    refine EH.one (St.string rfl Tryz.underlying29 Tryz.underlying5 Tryz.underlying9 (hp7.row hs) ?_)
    refine kept2 hs (fun hk => ?_) ((hg4.trans hg5).trans (hg6.trans hg7))
    refine goh ?_
    refine EH.done ?_
    refine go ?_
    refine A.r1 ?_
    exact HR.out _ _ ((hg4.trans hg5).trans (hg6.trans hg7)) hs.drop.drop
  · refine rencode_any (e := f) ((hf.mono hg4).mono hg5) ff.wr ff.kd ff.nd hs ?_
    intro a6 c6 w6 g6 hg6 hs
    obtain ⟨g7, hg7, hp7, hs⟩ := hs.publishOwn
    have hp5' := (hp5.mono hg6).mono hg7
    refine kept2 hs (fun hk => ?_) ((hg4.trans hg5).trans (hg6.trans hg7))
    refine goh ?_
    refine EH.two (St.string rfl Tryz.underlying29 Tryz.underlying5 Tryz.underlying9 (hp5'.row hs) ?_) (St.string rfl Tryz.underlying29 Tryz.underlying5 Tryz.underlying9 (hp7.row hs) ?_)
    · refine kept2 hs (fun hk => ?_) ((hg4.trans hg5).trans (hg6.trans hg7))
      refine goh ?_
      refine EH.one (St.string rfl Tryz.underlying29 Tryz.underlying5 Tryz.underlying9 (hp7.row hs) ?_)
      refine kept2 hs (fun hk => ?_) ((hg4.trans hg5).trans (hg6.trans hg7))
      refine goh ?_
      refine EH.done ?_
      refine go ?_
      refine A.r1 ?_
      exact HR.out _ _ ((hg4.trans hg5).trans (hg6.trans hg7)) hs.drop.drop
    · refine kept2 hs (fun hk => ?_) ((hg4.trans hg5).trans (hg6.trans hg7))
      refine goh ?_
      refine EH.one (St.string rfl Tryz.underlying29 Tryz.underlying5 Tryz.underlying9 (hp5'.row hs) ?_)
      refine kept2 hs (fun hk => ?_) ((hg4.trans hg5).trans (hg6.trans hg7))
      refine goh ?_
      refine EH.done ?_
      refine go ?_
      refine A.r1 ?_
      exact HR.out _ _ ((hg4.trans hg5).trans (hg6.trans hg7)) hs.drop.drop

/-- Two lists of events, by their bytes. -/
def sameE (a b : List Ev) : Bool := decide (a.map Ev.enc = b.map Ev.enc)

end Go.Proofs.YtkolnecahlkndaaGreat

/-
  The reference of layer 12: events sorted; all events of some lists.
-/
namespace Go.Proofs.YtkolnecahlkndaaGreat
open Go.RowKit
set_option linter.unusedVariables false
set_option linter.unusedSimpArgs false

theorem evC_one {l : List Ev} {g : Hl} (h : ∀ e ∈ l, e.ok g) : ∀ u ∈ evC l, u.oneCell' = true := by
  intro u hu
  obtain ⟨e, he, hu⟩ := List.mem_flatMap.1 hu
  exact List.all_eq_true.1 (Ev.cs_one (h e he)) u hu
/-- Rising. -/
def UpE (l : List Ev) : Prop := l.Pairwise fun a b => a.ky ≤ b.ky
theorem ins_up {l : List Ev} {e : Ev} {k : Nat} (h : UpE l) (hk : k ≤ l.length) (h1 : ∀ q (hq : q < l.length), k ≤ q → e.ky < l[q].ky) (h2 : k = 0 ∨ ∃ hq : k - 1 < l.length, l[k - 1].ky ≤ e.ky) : UpE (l.take k ++ e :: l.drop k) := by
  unfold UpE at *
  have hs := h
  rw [← List.take_append_drop k l] at hs
  obtain ⟨p1, p2, p3⟩ := List.pairwise_append.1 hs
  refine List.pairwise_append.2 ⟨p1, List.pairwise_cons.2 ⟨fun b hb => ?_, p2⟩, fun a ha b hb => ?_⟩
  · obtain ⟨q, hq, rfl⟩ := List.mem_iff_getElem.1 hb
    rw [List.getElem_drop]
    exact Nat.le_of_lt (h1 (k + q) (by rw [List.length_drop] at hq; omega) (by omega))
  · rcases List.mem_cons.1 hb with rfl | hb
    · obtain ⟨q, hq, rfl⟩ := List.mem_iff_getElem.1 ha
      rw [List.length_take] at hq
      rcases h2 with h2 | ⟨hq2, h2⟩
      · omega
      · rw [List.getElem_take]
        have hq3 : q < l.length := by omega
        rcases Nat.lt_or_ge q (k - 1) with hlt | hge
        · have := List.pairwise_iff_getElem.1 h q (k - 1) hq3 hq2 hlt
          omega
        · obtain rfl : q = k - 1 := by omega
          exact h2
    · exact p3 a ha b hb
theorem ins_perm {l : List Ev} {e : Ev} {k : Nat} : (l.take k ++ e :: l.drop k).Perm (e :: l) := by
  have := List.perm_middle (a := e) (l₁ := l.take k) (l₂ := l.drop k)
  rw [List.take_append_drop] at this
  exact this

set_option maxHeartbeats 3200000 in
set_option maxRecDepth 100000 in
theorem sort_any {R : Ending → World → Prop} {W w : World} {g : Hl} {H : List HP} {x : El} (hx : x.ok g) (hl : x.es.length ≤ 100000000) (hs : Sat W w g H)
    (hR : ∀ y w' g', Hl.le g g' → El.ok y g' → y.es.Perm x.es → UpE y.es → Sat W w' g' H → R (.returned y.v) w') :
    Calls Tryz.prog 15 #[x.v] w R := by
  have HR := Lib.hid hR
  clear hR
  refine C.calls (args := [.slice x.a x.es.length x.c]) Tryz.func15 rfl rfl rfl ?_
  refine gob ?_
  refine C.block ?_
  refine C.lp (fun q : Nat × El => [(0, .slice x.a x.es.length x.c), (3, .slice q.2.a q.2.es.length q.2.c), (4, .int .i64 q.1)])
    (fun gk q w => gk = x.es.length - q.1 ∧ q.1 ≤ x.es.length ∧ q.2.es.Perm (x.es.take q.1) ∧ UpE q.2.es ∧ ∃ g', Hl.le g g' ∧ q.2.ok g' ∧ Sat W w g' H) x.es.length (0, ⟨none, 0, []⟩)
    ⟨rfl, Nat.zero_le _, List.Perm.refl _, List.Pairwise.nil, g, Hl.le_refl _, ⟨Pr.nil, by simp⟩, hs⟩ ?_
  clear hs
  rintro gk ⟨i, y⟩ w2 ⟨hgk, hi, hp, hu, g2, hg2, hy, hs⟩
  simp only at hgk hi hp hu hy hs ⊢
  have hyl := hp.length_eq
  rw [List.length_take] at hyl
  have hyl2 := Lib.hid hyl
  clear hyl
  refine go ?_
  refine C.cond_dec (p := (i : Int) < x.es.length) rfl (fun h => ?_) (fun h => ?_)
  · have hil : i < x.es.length := by omega
    have hrx := hx.row.mono hg2
    obtain ⟨bx, ox, hxa⟩ := pr_some hrx (by omega)
    have hex := hx.evs x.es[i] (List.getElem_mem hil)
    have hrx' := hrx
    simp only [El.v, hxa] at hrx'
    have hy9 : y.es.length ≤ 100000000 := by have := hyl2.out; omega
    refine gob ?_
    refine C.block ?_
    refine gob ?_
    refine C.cut (fun k : Nat => [(0, .slice x.a x.es.length x.c), (3, .slice y.a y.es.length y.c), (4, .int .i64 i), (5, .int .i64 k)])
      (fun k w => k ≤ y.es.length ∧ (∀ q (hq : q < y.es.length), k ≤ q → x.es[i].ky < y.es[q].ky) ∧ (k = 0 ∨ ∃ hq : k - 1 < y.es.length, y.es[k - 1].ky ≤ x.es[i].ky) ∧ Sat W w g2 H) ?_ ?_
    · refine C.block ?_
      refine C.lp (fun k : Nat => [(0, .slice x.a x.es.length x.c), (3, .slice y.a y.es.length y.c), (4, .int .i64 i), (5, .int .i64 k)])
        (fun gk k w => gk = k ∧ k ≤ y.es.length ∧ (∀ q (hq : q < y.es.length), k ≤ q → x.es[i].ky < y.es[q].ky) ∧ Sat W w g2 H) y.es.length y.es.length ⟨rfl, Nat.le_refl _, fun q hq hk => by omega, hs⟩ ?_
      clear hs
      rintro gk k w3 ⟨rfl, hk, hkq, hs⟩
      have hkx := hk
      rcases Nat.eq_zero_or_pos gk with rfl | hpos
      · refine go ?_
        refine C.held0 hs ?_
        intro w4 hk hs
        refine goh ?_
        refine EH.done ?_
        refine go ?_
        exact A.mt 0 ⟨Nat.zero_le _, hkq, .inl rfl, hs⟩
      · obtain ⟨k, rfl⟩ : ∃ k, gk = k + 1 := ⟨gk - 1, by omega⟩
        have hry := hy.row
        obtain ⟨by_, oy, hya⟩ := pr_some hry (by omega)
        simp only [El.v, hya] at hry
        have hlt : k < y.es.length := by omega
        have hlt' : (k : Int) < y.es.length := by omega
        have hey := hy.evs y.es[k] (List.getElem_mem hlt)
        refine go ?_
        rw [hxa, hya]
        refine C.held0 hs ?_
        intro w4 hk hs
        refine goh ?_
        rw [show decide ((0 : Int) < ((k + 1 : Nat) : Int)) = true from decide_eq_true (by omega)]
        refine goh ?_
        rw [show ((k + 1 : Nat) : Int) - 1 = (k : Int) by omega]
        refine goh ?_
        refine EH.t0 hk ?_ (hy := Pf.loadpr ag_ev hrx' hil (evC_at hil) rfl rfl)
        refine EH.t1 hk ?_ (hy := Pf.loadpr ag_ev hry hlt (evC_at hlt) rfl rfl)
        refine EH.one (St.guard rfl rfl (St.callf Tryz.func38 rfl ?_))
        refine rat_any (e := x.es[i]) hs ?_
        intro w5 hs
        refine kept0 hs (fun hk => ?_)
        refine goh ?_
        refine EH.one (St.guard rfl rfl (St.callf Tryz.func38 rfl ?_))
        refine rat_any (e := y.es[k]) hs ?_
        intro w6 hs
        refine kept0 hs (fun hk => ?_)
        refine goh ?_
        refine EH.one (St.guard rfl rfl (St.callf Tryz.func37 rfl ?_))
        refine ahead_any (t1 := x.es[i].tm) (w1 := x.es[i].wr) (t2 := y.es[k].tm) (w2 := y.es[k].wr) hs ?_
        intro w7 hs
        refine kept0 hs (fun hk => ?_)
        refine goh ?_
        refine EH.done ?_
        refine go ?_
        have hkl := ky_lt hex.2 hey.2
        cases hd : decide (cmpS x.es[i].tm x.es[i].wr y.es[k].tm y.es[k].wr < 0) with
        | true =>
          have hd := hkl.1 (of_decide_eq_true hd)
          refine go ?_
          rw [show ((k + 1 : Nat) : Int) - 1 = (k : Int) by omega, ← hxa, ← hya]
          refine A.rd k k ⟨rfl, by omega, fun q hq hkq2 => ?_, hs⟩
          rcases Nat.eq_or_lt_of_le hkq2 with rfl | h'
          · exact hd
          · exact hkq q hq (by omega)
        | false =>
          have hd : ¬ x.es[i].ky < y.es[k].ky := fun h => of_decide_eq_false hd (hkl.2 h)
          refine go ?_
          rw [← hxa, ← hya]
          exact A.mt (k + 1) ⟨hkx, hkq, .inr ⟨hlt, by simp only [Nat.add_sub_cancel]; omega⟩, hs⟩
    clear hs
    rintro k w8 ⟨hk, hkq, hk0, hs⟩
    refine go ?_
    refine E.slp el_ev hy.row 0 k ?_
    intro a9 c9 hp9
    have e9 : ((evC y.es).drop (0 * 8)).take ((k - 0) * 8) = evC (y.es.take k) := by
      rw [Nat.zero_mul, List.drop_zero, Nat.sub_zero, evC_take]
    rw [e9] at hp9
    refine E.app el_ev hs.nilOwn (hp9.row hs) ?_ (h1 := evC_one fun e he => (hy.evs e (List.mem_of_mem_take he)).1)
    intro a10 c10 w10 _ _ hs
    simp only [Nat.zero_add, List.nil_append, Nat.sub_zero] at hs ⊢
    refine go ?_
    refine E.ldr (pr_range hs hrx' hil (evC_at hil)) ag_ev rfl ?_
    refine E.bsle el_ev hs (cs := x.es[i].cs) rfl ?_
    intro b12 w12 hs
    refine E.app el_ev hs.swap (hs.rowOf (size := 8) 1 rfl (by decide)) ?_ (h1 := fun u hu => List.all_eq_true.1 (Ev.cs_one hex.1) u hu)
    intro a13 c13 w13 _ _ hs
    replace hs := hs.swap.drop
    refine go ?_
    refine E.slp el_ev hy.row k y.es.length ?_
    intro a14 c14 hp14
    have e14 : ((evC y.es).drop (k * 8)).take ((y.es.length - k) * 8) = evC (y.es.drop k) := by
      rw [evC_drop, evC_take, List.take_of_length_le (by rw [List.length_drop]; exact Nat.le_refl _)]
    rw [e14] at hp14
    refine E.app el_ev hs (hp14.row hs) ?_ (h1 := evC_one fun e he => (hy.evs e (List.mem_of_mem_drop he)).1)
    intro a15 c15 w15 _ _ hs
    obtain ⟨g16, hg16, hp16, hs⟩ := hs.publishOwn
    have en : k + 1 + (y.es.length - k) = (y.es.take k ++ x.es[i] :: y.es.drop k).length := by
      simp only [List.length_append, List.length_take, List.length_cons, List.length_drop]; omega
    have ec : evC (y.es.take k) ++ x.es[i].cs ++ evC (y.es.drop k) = evC (y.es.take k ++ x.es[i] :: y.es.drop k) := by
      rw [evC_append]
      simp only [List.append_assoc]
      rfl
    rw [en, ec] at hp16
    rw [en]
    refine go ?_
    refine A.rd (x.es.length - (i + 1)) (i + 1, ⟨a15, c15, y.es.take k ++ x.es[i] :: y.es.drop k⟩) ⟨rfl, by simp only; omega, ?_, ?_, g16, hg2.trans hg16, ⟨hp16, ?_⟩, hs⟩
    · rw [List.take_succ_eq_append_getElem hil]
      exact ins_perm.trans ((List.Perm.cons _ hp).trans (List.perm_append_comm (l₁ := [x.es[i]])))
    · exact ins_up hu hk hkq hk0
    · intro e he
      have h1 := ins_perm.mem_iff.1 he
      rcases List.mem_cons.1 h1 with rfl | h1
      · exact ⟨(hex.1.mono hg2).mono hg16, hex.2⟩
      · exact ⟨(hy.evs e h1).1.mono hg16, (hy.evs e h1).2⟩
  · obtain rfl : i = x.es.length := by omega
    rw [List.take_length] at hp
    refine go ?_
    refine A.r1 ?_
    exact HR.out y _ g2 hg2 hy hp hu hs

set_option maxHeartbeats 3200000 in
set_option maxRecDepth 100000 in
theorem whole_any {R : Ending → World → Prop} {W w : World} {g : Hl} {H : List HP} {a : Option Addr} {n c : Nat} {ls : List El} (hp : Pr 1 g (.slice a n c) n (ls.map El.v)) (hn : ls.length = n) (hn2 : n ≤ 1000000000) (hok : ∀ x ∈ ls, x.ok g) (hl : (ls.flatMap El.es).length ≤ 100000000) (hs : Sat W w g H)
    (hR : ∀ y w' g', Hl.le g g' → El.ok y g' → y.es.Perm (ls.flatMap El.es) → UpE y.es → Sat W w' g' H → R (.returned y.v) w') :
    Calls Tryz.prog 5 #[.slice a n c] w R := by
  have HR := Lib.hid hR
  clear hR
  refine C.calls (args := [.slice a n c]) Tryz.func5 rfl rfl rfl ?_
  refine gob ?_
  refine C.cut (fun x : Option Addr × Nat => [(3, .slice x.1 (ls.flatMap El.es).length x.2)]) (fun x w => Sat W w g (own 32 8 (.slice x.1 (ls.flatMap El.es).length x.2) (ls.flatMap El.es).length (evC (ls.flatMap El.es)) :: H)) ?_ ?_
  · refine C.block ?_
    refine C.lp (fun x : Nat × Option Addr × Nat => [(0, .slice a n c), (3, .slice x.2.1 ((ls.take x.1).flatMap El.es).length x.2.2), (4, .int .i64 x.1)])
      (fun gk x w => gk = n - x.1 ∧ x.1 ≤ n ∧ Sat W w g (own 32 8 (.slice x.2.1 ((ls.take x.1).flatMap El.es).length x.2.2) ((ls.take x.1).flatMap El.es).length (evC ((ls.take x.1).flatMap El.es)) :: H)) n (0, none, 0) ⟨rfl, Nat.zero_le _, hs.nilOwn⟩ ?_
    clear hs
    rintro gk ⟨i, a2, c2⟩ w2 ⟨hgk, hi, hs⟩
    simp only at hgk hi hs ⊢
    refine go ?_
    refine C.cond_dec (p := (i : Int) < n) rfl (fun h => ?_) (fun h => ?_)
    · have hil : i < ls.length := by omega
      have ho := hok ls[i] (List.getElem_mem hil)
      have hsucc : (ls.take (i + 1)).flatMap El.es = (ls.take i).flatMap El.es ++ ls[i].es := by
        rw [List.take_succ_eq_append_getElem hil, List.flatMap_append]; simp
      have hle : ((ls.take i).flatMap El.es).length + ls[i].es.length ≤ 100000000 := by
        have h1 : ls.flatMap El.es = (ls.take (i + 1)).flatMap El.es ++ (ls.drop (i + 1)).flatMap El.es := by rw [← List.flatMap_append, List.take_append_drop]
        rw [h1, hsucc, List.length_append, List.length_append] at hl
        omega
      refine go ?_
      refine E.ix el_lists hs hp i (v := .slice ls[i].a ls[i].es.length ls[i].c) (by rw [List.getElem?_map, List.getElem?_eq_getElem hil]; rfl) ?_
      intro b3 o3 hc3
      refine go ?_
      refine E.app el_ev hs (ho.row.row hs) ?_ (h1 := evC_one fun e he => (ho.evs e he).1)
      intro a4 c4 w4 _ _ hs
      refine go ?_
      refine A.rd (n - (i + 1)) (i + 1, a4, c4) ⟨rfl, by omega, ?_⟩ (hw := ?_)
      · simp only [hsucc, List.length_append, evC_append]
        exact hs
      · simp only [hsucc, List.length_append]
        exact wk_
    · obtain rfl : i = n := by omega
      have e1 : ls.take i = ls := List.take_of_length_le (by omega)
      rw [e1] at hs ⊢
      refine go ?_
      exact A.mt (a2, c2) hs
  clear hs
  rintro ⟨a2, c2⟩ w2 hs
  simp only at hs ⊢
  obtain ⟨g3, hg3, hp3, hs⟩ := hs.publishOwn
  refine go ?_
  refine E.callf Tryz.func15 rfl ?_
  refine sort_any (x := ⟨a2, c2, ls.flatMap El.es⟩) ⟨hp3, fun e he => ?_⟩ hl hs ?_
  · obtain ⟨x, hx, he⟩ := List.mem_flatMap.1 he
    exact ⟨((hok x hx).evs e he).1.mono hg3, ((hok x hx).evs e he).2⟩
  intro y w4 g4 hg4 hy hyp hyu hs
  refine go ?_
  refine A.r1 ?_
  exact HR.out y _ g4 (hg3.trans hg4) hy hyp hyu hs
end Go.Proofs.YtkolnecahlkndaaGreat
