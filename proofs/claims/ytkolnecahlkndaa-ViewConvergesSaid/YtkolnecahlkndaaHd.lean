/-
  Layer 12 (order): the library's heap over lists of events: Init, Fix, Pop.
-/
import Derived.Test.YtkolnecahlkndaaHc
namespace Go.Proofs.Ytkolnecahlkndaa
open Go.RowKit
set_option linter.unusedVariables false
set_option linter.unusedSimpArgs false

set_option maxHeartbeats 1600000 in
set_option maxRecDepth 100000 in
/-- up, from the root: nothing. -/
theorem up_any {R : Ending → World → Prop} {w : World} {cb : Nat} (hR : R (.returned (.tuple #[])) w) : Calls Try.prog 78 #[ci cb, .int .i64 0] w R := by
  have HR := Lib.hid hR
  clear hR
  refine C.calls (args := [ci cb, .int .i64 0]) Try.func78 rfl rfl rfl ?_
  refine gob ?_
  refine C.block ?_
  refine C.lp (fun _ : Unit => [(0, ci cb), (1, .int .i64 0)]) (fun gk _ w' => w' = w) 0 () rfl ?_
  rintro gk _ w' rfl
  refine go ?_
  refine A.e0 ?_
  exact HR.out

set_option maxHeartbeats 1600000 in
set_option maxRecDepth 100000 in
theorem fix_any {R : Ending → World → Prop} {W w : World} {g : Hl} {H : List HP} {cb : Nat} {L : List Hd} (hl : L.length ≤ 1000000000) (hinv : HInv (kat Hd.ky L) 0 L.length 0) (hs : Sat W w g (cur cb L :: H))
    (hR : ∀ w' L', L'.Perm L → Heap (kat Hd.ky L') 0 L'.length → Sat W w' g (cur cb L' :: H) → R (.returned (.tuple #[])) w') : Calls Try.prog 66 #[ci cb, .int .i64 0] w R := by
  have HR := Lib.hid hR
  clear hR
  refine C.calls (args := [ci cb, .int .i64 0]) Try.func66 rfl rfl rfl ?_
  refine go ?_
  refine E.hlen hs ?_
  refine E.callf Try.func77 rfl ?_
  refine down_any (i0 := 0) (Nat.le_refl _) hl (Nat.zero_le _) hinv hs ?_
  intro w2 L' bb hp hh hq hs
  rw [← hp.length_eq] at hh
  refine go ?_
  cases bb with
  | true =>
    refine go ?_
    refine A.e0 ?_
    exact HR.out _ L' hp hh hs
  | false =>
    refine go ?_
    refine E.callf Try.func78 rfl ?_
    refine up_any ?_
    refine go ?_
    refine A.e0 ?_
    exact HR.out _ L' hp hh hs

set_option maxHeartbeats 1600000 in
set_option maxRecDepth 100000 in
theorem init_any {R : Ending → World → Prop} {W w : World} {g : Hl} {H : List HP} {cb : Nat} {L : List Hd} (hl : L.length ≤ 1000000000) (hs : Sat W w g (cur cb L :: H))
    (hR : ∀ w' L', L'.Perm L → Heap (kat Hd.ky L') 0 L'.length → Sat W w' g (cur cb L' :: H) → R (.returned (.tuple #[])) w') : Calls Try.prog 65 #[ci cb] w R := by
  have HR := Lib.hid hR
  clear hR
  refine C.calls (args := [ci cb]) Try.func65 rfl rfl rfl ?_
  refine go ?_
  refine E.hlen hs ?_
  have ew : IntKind.i64.wrap (IntKind.i64.wrap ((L.length : Int).tdiv 2) - 1) = ((L.length / 2 : Nat) : Int) - 1 := by
    have e1 : (L.length : Int).tdiv 2 = ((L.length / 2 : Nat) : Int) := (Int.ofNat_tdiv L.length 2).symm
    have e2 : IntKind.i64.wrap ((L.length / 2 : Nat) : Int) = ((L.length / 2 : Nat) : Int) := wrap64_id (by omega) (by omega)
    rw [e1, e2, wrap64_id (by omega) (by omega)]
  refine gob ?_
  rw [ew]
  refine C.block ?_
  refine C.lp (fun x : Nat × List Hd => [(0, ci cb), (2, .int .i64 L.length), (3, .int .i64 ((x.1 : Int) - 1))]) (fun gk x w' => gk = x.1 ∧ x.1 ≤ L.length / 2 ∧ x.2.Perm L ∧ Heap (kat Hd.ky x.2) x.1 L.length ∧ Sat W w' g (cur cb x.2 :: H)) (L.length / 2) (L.length / 2, L)
    ⟨rfl, Nat.le_refl _, List.Perm.refl _, fun c h1 h2 h3 => by simp only at h3; omega, hs⟩ ?_
  clear hs
  rintro gk ⟨i, L1⟩ w1 ⟨hgk, hi, hp, hh, hs⟩
  simp only at hgk hi hp hh hs ⊢
  have hl1 := hp.length_eq
  refine go ?_
  refine C.cond_dec (p := (0 : Int) ≤ (i : Int) - 1) rfl (fun h => ?_) (fun h => ?_)
  · obtain ⟨j, rfl⟩ : ∃ j, i = j + 1 := ⟨i - 1, by omega⟩
    have ej : ((j + 1 : Nat) : Int) - 1 = j := by omega
    rw [ej]
    refine go ?_
    rw [← hl1] at hh
    refine E.callf Try.func77 rfl ?_
    refine down_any (i0 := j) (n := L.length) (by omega) (by omega) (by omega) (heap_start (by rw [← hl1]; exact hh)) hs ?_
    intro w2 L2 bb hp2 hh2 hq2 hs
    refine go ?_
    exact A.rd j (j, L2) ⟨rfl, by simp only; omega, hp2.trans hp, hh2, hs⟩
  · have hi0 : i = 0 := by omega
    subst hi0
    refine go ?_
    refine A.e0 ?_
    exact HR.out _ L1 hp (by rw [hl1]; exact hh) hs

set_option maxHeartbeats 1600000 in
set_option maxRecDepth 100000 in
theorem hpop_any {R : Ending → World → Prop} {W w : World} {g : Hl} {H : List HP} {cb : Nat} {L : List Hd} (h0 : 0 < L.length) (hl : L.length ≤ 1000000000) (hs : Sat W w g (cur cb L :: H))
    (hR : ∀ w' v, Sat W w' g (cur cb (L.take (L.length - 1)) :: H) → R (.returned v) w') : Calls Try.prog 120 #[.pointer (some ⟨cb, 0, none⟩)] w R := by
  have HR := Lib.hid hR
  clear hR
  obtain ⟨a, c, hok, hs⟩ := cur_open hs
  obtain ⟨_, _, eq, hnc, hcm, _⟩ := Sat.ownLen hs.swap
  simp only [Value.slice.injEq] at eq
  obtain ⟨rfl, -, rfl⟩ := eq
  obtain ⟨hb, ys, rfl, hyc, _, _, hyt, hs⟩ := own_open h0 hs.swap
  have hlt : L.length - 1 < L.length := by omega
  have hy : ys[L.length - 1]? = some (.slice (some ⟨L[L.length - 1].b, L[L.length - 1].o, none⟩) L[L.length - 1].es.length L[L.length - 1].c) := by
    have : (ys.take L.length)[L.length - 1]? = (L.map Hd.v)[L.length - 1]? := by rw [hyt]
    rw [List.getElem?_take, if_pos hlt, List.getElem?_map, List.getElem?_eq_getElem hlt] at this
    exact this
  have e1 : (L.length : Int) - 1 = ((L.length - 1 : Nat) : Int) := by omega
  have hlt' : ((L.length - 1 : Nat) : Int) < L.length := by omega
  have hok2 : ∀ x ∈ L.take (L.length - 1), x.ok g := fun x hx => hok x (List.mem_of_mem_take hx)
  have hfin : (ys.take (L.length - 1)) = (L.take (L.length - 1)).map Hd.v := by
    rw [List.map_take, ← hyt, List.take_take, Nat.min_eq_left (by omega)]
  have hl3 : (L.take (L.length - 1)).length = L.length - 1 := by rw [List.length_take]; omega
  generalize hm : L.length - 1 = m at *
  refine C.calls (args := [.pointer (some ⟨cb, 0, none⟩)]) Try.func120 rfl rfl rfl ?_
  refine go ?_
  rw [e1]
  refine go ?_
  refine E.ld hs ?_ (hj := hy)
  refine go ?_
  rw [e1]
  refine go ?_
  refine E.pv (Pv.slice rfl rfl rfl rfl (fun w => run_slice_h_at el_hds (by omega) w)) ?_
  refine go ?_
  refine E.sto hs ?_
  intro w2 hs
  refine go ?_
  refine A.r1 ?_
  exact HR.out _ _ (cur_close hl3 hok2 (Sat.swap (own_close hyc (by omega) hcm hfin hs)))

set_option maxHeartbeats 1600000 in
set_option maxRecDepth 100000 in
/-- The list at the root is taken out. -/
theorem heapPop_any {R : Ending → World → Prop} {W w : World} {g : Hl} {H : List HP} {cb : Nat} {x : Hd} {L : List Hd} (hl : (x :: L).length ≤ 1000000000) (hh : Heap (kat Hd.ky (x :: L)) 0 (x :: L).length) (hs : Sat W w g (cur cb (x :: L) :: H))
    (hR : ∀ w' v L', L'.Perm L → Heap (kat Hd.ky L') 0 L'.length → Sat W w' g (cur cb L' :: H) → R (.returned v) w') : Calls Try.prog 67 #[ci cb] w R := by
  have HR := Lib.hid hR
  clear hR
  refine C.calls (args := [ci cb]) Try.func67 rfl rfl rfl ?_
  refine go ?_
  refine E.hlen hs ?_
  have e1 : ((x :: L).length : Int) - 1 = (L.length : Int) := by simp
  have h0 : 0 < (x :: L).length := by simp
  have hn : L.length < (x :: L).length := by simp
  refine go ?_
  rw [e1]
  refine go ?_
  refine E.hswap (i := 0) (j := L.length) hs h0 hn ?_
  intro w2 hs
  refine go ?_
  have hi : HInv (kat Hd.ky (sw (x :: L) 0 L.length)) 0 L.length 0 := by
    refine heap_root (f := kat Hd.ky (x :: L)) (fun c h1 h2 h3 => hh c h1 (by omega) h3) fun q h1 h2 => ?_
    rw [kat_sw Hd.ky h0 hn, if_neg (by omega), if_neg (by omega)]
  have hsl := sw_len (x :: L) 0 L.length
  refine E.callf Try.func77 rfl ?_
  refine down_any (i0 := 0) (n := L.length) (by rw [hsl]; omega) (by rw [hsl]; exact hl) (Nat.zero_le _) hi hs ?_
  intro w3 L2 bb hp hh2 hq hs
  have hl2 : L2.length = (x :: L).length := by rw [hp.length_eq, hsl]
  refine go ?_
  refine E.inv Try.func120 (run_meth_ptr m_pop Try.underlying110 _) ?_
  refine hpop_any (by rw [hl2]; exact h0) (by rw [hl2]; exact hl) hs ?_
  intro w4 v hs
  refine go ?_
  refine A.r1 ?_
  have hl3 : L2.length - 1 = L.length := by rw [hl2]; simp
  rw [hl3] at hs
  have hlast : L2[L.length]? = some x := by rw [hq L.length (Nat.le_refl _), sw_get h0 hn, if_pos rfl]; rfl
  have hlt2 : L.length < L2.length := by rw [hl2]; exact hn
  have hsplit : L2.take L.length ++ [x] = L2 := by
    have h1 := List.take_succ_eq_append_getElem (l := L2) (i := L.length) hlt2
    have h2 : L2[L.length] = x := by
      have := List.getElem?_eq_getElem hlt2
      rw [hlast] at this
      simpa using this.symm
    rw [h2] at h1
    rw [← h1, List.take_of_length_le (by rw [hl2]; simp)]
  have hperm : (L2.take L.length).Perm L := by
    have h1 : (L2.take L.length ++ [x]).Perm (x :: L) := by
      rw [hsplit]
      exact hp.trans (sw_perm h0 hn)
    exact (List.perm_cons x).1 ((List.perm_append_comm (l₁ := [x]) (l₂ := L2.take L.length)).trans h1)
  refine HR.out _ _ _ hperm ?_ hs
  rw [hperm.length_eq]
  intro c h1 h2 h3
  have hk : ∀ q, q < L.length → kat Hd.ky (L2.take L.length) q = kat Hd.ky L2 q := fun q hq => by unfold kat; rw [List.getElem?_take, if_pos hq]
  rw [hk _ h2, hk _ (by omega)]
  exact hh2 c h1 h2 h3
end Go.Proofs.Ytkolnecahlkndaa
