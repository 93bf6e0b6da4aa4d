/-
  Layer 7 (vector): Get, Trim, With.
-/
import Derived.Test.YtkolnecahlkndaaVa
namespace Go.Proofs.Ytkolnecahlkndaa
open Go.RowKit
set_option linter.unusedVariables false
set_option linter.unusedSimpArgs false

/-- The cells of numbers. -/
def us (v : List Nat) : List Value := v.map fun (n : Nat) => .int .u64 (n : Int)
@[simp] theorem us_length (v : List Nat) : (us v).length = v.length := by simp [us]
theorem us_one (l : List Nat) : ∀ u ∈ us l, u.oneCell' = true := by
  intro u hu
  obtain ⟨x, _, rfl⟩ := List.mem_map.1 hu
  rfl
theorem us_get {l : List Nat} {j : Nat} (h : j < l.length) : (us l)[j]? = some (.int .u64 (l[j] : Int)) := by simp [us, h]
theorem us_take (l : List Nat) (k : Nat) : us (l.take k) = (us l).take k := by simp [us, List.map_take]
theorem el_vec : ElemOf Try.prog 67 23 (.int .u64 0) 1 8 := .of Try.underlying67 (by kernel_rfl) rfl (by decide)

def vget (v : List Nat) (w : Int) : Nat := if 0 ≤ w then v.getD w.toNat 0 else 0
/-- How many without noughts behind. -/
def vlen : List Nat → Nat
  | [] => 0
  | x :: r => if vlen r = 0 ∧ x = 0 then 0 else vlen r + 1
def vtrim (v : List Nat) : List Nat := v.take (vlen v)
def vwith (v : List Nat) (w : Int) (n : Nat) : List Nat := if 0 ≤ w ∧ w < 64 then vtrim ((v ++ List.replicate (w.toNat + 1 - v.length) 0).set w.toNat n) else vtrim v
theorem vlen_le : ∀ (v : List Nat), vlen v ≤ v.length
  | [] => Nat.le_refl _
  | x :: r => by have := vlen_le r; simp only [vlen, List.length_cons]; split <;> omega
theorem vlen_zero : ∀ (v : List Nat), (∀ k, (h : k < v.length) → v[k] = 0) → vlen v = 0
  | [], _ => rfl
  | x :: r, h => by
    have h0 := h 0 (by simp)
    have := vlen_zero r fun k hk => by have := h (k + 1) (by simpa using hk); simpa using this
    simp only [vlen]
    rw [if_pos ⟨this, by simpa using h0⟩]
theorem vlen_eq : ∀ (v : List Nat) (n : Nat), n ≤ v.length → (∀ k, (h : k < v.length) → n ≤ k → v[k] = 0) → (n = 0 ∨ ∃ h : n - 1 < v.length, v[n - 1] ≠ 0) → vlen v = n
  | [], n, h, _, _ => by simp only [List.length_nil] at h; simp only [vlen]; omega
  | x :: r, 0, _, h, _ => vlen_zero _ fun k hk => h k hk (Nat.zero_le _)
  | x :: r, n + 1, h1, h2, h3 => by
    simp only [List.length_cons] at h1
    rcases h3 with h3 | ⟨h3, h4⟩
    · omega
    rcases Nat.eq_zero_or_pos n with rfl | hn
    · have h0 := vlen_zero r fun k hk => by have := h2 (k + 1) (by simpa using hk) (by omega); simpa using this
      simp only [vlen, h0]
      have : x ≠ 0 := by simpa using h4
      rw [if_neg (by omega)]
    · have ih := vlen_eq r n (by omega) (fun k hk hnk => by have := h2 (k + 1) (by simpa using hk) (by omega); simpa using this) (.inr ⟨by simp only [List.length_cons] at h3; omega, by
        obtain ⟨m, rfl⟩ : ∃ m, n = m + 1 := ⟨n - 1, by omega⟩
        simpa using h4⟩)
      simp only [vlen, ih]
      rw [if_neg (by omega)]
theorem vlen_tail : ∀ (v : List Nat) (k : Nat), vlen v ≤ k → v.getD k 0 = 0
  | [], k, _ => by simp
  | x :: r, k, h => by
    simp only [vlen] at h
    split at h
    · rename_i h0
      cases k with
      | zero => simpa using h0.2
      | succ k => have := vlen_tail r k (by omega); simpa using this
    · cases k with
      | zero => omega
      | succ k => have := vlen_tail r k (by omega); simpa using this
theorem vtrim_get (v : List Nat) (w : Int) : vget (vtrim v) w = vget v w := by
  unfold vget vtrim
  split
  · rw [List.getD_eq_getElem?_getD, List.getElem?_take]
    split
    · rw [List.getD_eq_getElem?_getD]
    · rename_i h
      have := vlen_tail v w.toNat (by omega)
      rw [this]; rfl
  · rfl
theorem vtrim_len (v : List Nat) : (vtrim v).length ≤ v.length := by unfold vtrim; rw [List.length_take]; omega
theorem vwith_get (v : List Nat) {w : Int} (n : Nat) (u : Int) (hw : 0 ≤ w ∧ w < 64) : vget (vwith v w n) u = if u = w then n else vget v u := by
  unfold vwith
  rw [if_pos hw, vtrim_get]
  unfold vget
  by_cases hu : 0 ≤ u
  · rw [if_pos hu, if_pos hu]
    rw [List.getD_eq_getElem?_getD, List.getElem?_set]
    by_cases he : u = w
    · subst he
      rw [if_pos rfl, if_pos rfl, if_pos (by simp; omega)]; rfl
    · rw [if_neg (by omega), if_neg he, List.getElem?_append, List.getD_eq_getElem?_getD]
      split
      · rfl
      · rename_i h
        rw [List.getElem?_eq_none (l := v) (by omega), List.getElem?_replicate]
        split <;> rfl
  · rw [if_neg hu, if_neg hu, if_neg (by omega)]
theorem vwith_len (v : List Nat) (w : Int) (n : Nat) (hv : v.length ≤ 64) : (vwith v w n).length ≤ 64 := by
  unfold vwith
  split
  · have := vtrim_len ((v ++ List.replicate (w.toNat + 1 - v.length) 0).set w.toNat n)
    simp only [List.length_set, List.length_append, List.length_replicate] at this
    omega
  · have := vtrim_len v; omega
theorem vwith_lt (v : List Nat) (w : Int) (n : Nat) (h : ∀ x ∈ v, x < 18446744073709551616) (hn : n < 18446744073709551616) : ∀ x ∈ vwith v w n, x < 18446744073709551616 := by
  intro x hx
  unfold vwith at hx
  split at hx
  · have h1 := List.mem_of_mem_take hx
    rcases List.mem_or_eq_of_mem_set h1 with h2 | rfl
    · rcases List.mem_append.1 h2 with h3 | h3
      · exact h x h3
      · have := (List.mem_replicate.1 h3).2; omega
    · exact hn
  · exact h x (List.mem_of_mem_take hx)

set_option maxHeartbeats 1600000 in
set_option maxRecDepth 100000 in
theorem vget_any {R : Ending → World → Prop} {W w : World} {g : Hl} {H : List HP} {a : Option Addr} {n c : Nat} {v : List Nat} {i : Int} (hs : Sat W w g H) (hp : Pr 1 g (.slice a n c) n (us v)) (hn : v.length = n) (hn2 : n ≤ 1000000000) (hR : R (.returned (.int .u64 (vget v i))) w) :
    Calls Try.prog 40 #[.slice a n c, .int .i64 i] w R := by
  have HR := Lib.hid hR
  clear hR
  refine C.calls (args := [.slice a n c, .int .i64 i]) Try.func40 rfl rfl rfl ?_
  refine go ?_
  cases h1 : decide (i < 0) with
  | true =>
    refine go ?_
    refine A.r1 ?_
    have h1 := of_decide_eq_true h1
    have := HR.out
    simp only [vget] at this
    rw [if_neg (by omega)] at this
    exact this
  | false =>
  have h1 := of_decide_eq_false h1
  refine go ?_
  cases h2 : decide ((n : Int) ≤ i) with
  | true =>
    refine go ?_
    refine A.r1 ?_
    have h2 := of_decide_eq_true h2
    have := HR.out
    simp only [vget] at this
    rw [if_pos (by omega), List.getD_eq_getElem?_getD, List.getElem?_eq_none (by omega)] at this
    exact this
  | false =>
  have h2 := of_decide_eq_false h2
  refine go ?_
  refine E.ix el_vec hs hp i.toNat (us_get (by omega)) ?_
  intro b o hc
  refine go ?_
  refine A.r1 ?_
  have := HR.out
  simp only [vget] at this
  rw [if_pos (by omega), List.getD_eq_getElem?_getD, List.getElem?_eq_getElem (by omega)] at this
  exact this

set_option maxHeartbeats 1600000 in
set_option maxRecDepth 100000 in
theorem vclone_any {R : Ending → World → Prop} {W w : World} {g : Hl} {H : List HP} {a : Option Addr} {n c : Nat} {v : List Nat} (hs : Sat W w g H) (hp : Pr 1 g (.slice a n c) n (us v)) (hn : n ≤ 1000000000)
    (hR : ∀ a' c' w', Sat W w' g (own 23 1 (.slice a' n c') n (us v) :: H) → R (.returned (.slice a' n c')) w') :
    Calls Try.prog 61 #[.slice a n c] w R := by
  have HR := Lib.hid hR
  clear hR
  cases a with
  | none =>
    obtain ⟨hx, a0, c0, e, _, _, h0, _⟩ := id hp
    simp only [Value.slice.injEq] at e
    obtain ⟨rfl, _, rfl⟩ := e
    obtain ⟨rfl, rfl⟩ := h0 rfl
    obtain rfl : v = [] := by simpa using hx
    refine C.calls (args := [.slice none 0 0]) Try.func61 rfl rfl rfl ?_
    refine go ?_
    refine A.r1 ?_
    exact HR.out _ _ _ hs.nilOwn
  | some ad =>
    refine C.calls (args := [.slice (some ad) n c]) Try.func61 rfl rfl rfl ?_
    refine go ?_
    refine E.bsl hs ?_
    intro b1 w1 hs
    have hs := hs.blkOwn (size := 1) 0 rfl (by decide)
    refine go ?_
    refine E.app el_vec hs (hp.row hs) ?_ (h1 := us_one _)
    intro a2 c2 w2 _ _ hs
    simp only [Nat.zero_add, List.nil_append] at hs ⊢
    refine go ?_
    refine A.r1 ?_
    exact HR.out _ _ _ hs

set_option maxHeartbeats 1600000 in
set_option maxRecDepth 100000 in
theorem vtrim_any {R : Ending → World → Prop} {W w : World} {g : Hl} {H : List HP} {a : Option Addr} {n c : Nat} {v : List Nat} (hs : Sat W w g H) (hp : Pr 1 g (.slice a n c) n (us v)) (hv : v.length = n) (hn : n ≤ 1000000000)
    (hR : ∀ a' c' w' g', Hl.le g g' → Pr 1 g' (.slice a' (vtrim v).length c') (vtrim v).length (us (vtrim v)) → Sat W w' g' H → R (.returned (.slice a' (vtrim v).length c')) w') :
    Calls Try.prog 53 #[.slice a n c] w R := by
  have HR := Lib.hid hR
  clear hR
  refine C.calls (args := [.slice a n c]) Try.func53 rfl rfl rfl ?_
  refine gob ?_
  refine C.cutQ (fun _ : Unit => [(0, .slice a n c), (3, .int .i64 (vlen v))]) (fun _ w => Sat W w g H) ?_ ?_
  · refine C.block ?_
    refine C.lp (fun m : Nat => [(0, .slice a n c), (3, .int .i64 m)]) (fun gk m w => gk = m ∧ m ≤ n ∧ (∀ k, (h : k < v.length) → m ≤ k → v[k] = 0) ∧ Sat W w g H) n n ⟨rfl, Nat.le_refl _, fun k h h2 => by omega, hs⟩ ?_
    clear hs
    rintro gk m w1 ⟨rfl, hm, hz, hs⟩
    refine go ?_
    cases h1 : decide ((0 : Int) < gk) with
    | false =>
      have h1 := of_decide_eq_false h1
      refine go ?_
      refine A.mt () hs ?_
      have : vlen v = gk := vlen_eq v gk (by omega) hz (.inl (by omega))
      rw [this]
      exact wk_
    | true =>
    have h1 := of_decide_eq_true h1
    refine go ?_
    have hlt : gk - 1 < v.length := by omega
    refine E.ix el_vec hs hp (gk - 1) (us_get hlt) ?_
    intro b o hc
    refine go ?_
    cases h2 : decide ((v[gk - 1] : Int) = 0) with
    | false =>
      have h2 := of_decide_eq_false h2
      refine go ?_
      refine A.mt () hs ?_
      have : vlen v = gk := vlen_eq v gk (by omega) hz (.inr ⟨hlt, by omega⟩)
      rw [this]
      exact wk_
    | true =>
      have h2 := of_decide_eq_true h2
      refine go ?_
      have e1 : ((gk : Int) - 1) = ((gk - 1 : Nat) : Int) := by omega
      rw [e1]
      refine A.rd (gk - 1) (gk - 1) ⟨rfl, by omega, fun k hk hmk => ?_, hs⟩
      rcases Nat.lt_or_ge k gk with h | h
      · obtain rfl : k = gk - 1 := by omega
        omega
      · exact hz k hk h
  clear hs
  rintro _ w1 hs
  have hvl := vlen_le v
  refine go ?_
  refine E.slp el_vec hp 0 (vlen v) ?_
  intro a2 c2 hp2
  simp only [Nat.zero_mul, List.drop_zero, Nat.sub_zero, Nat.mul_one] at hp2 ⊢
  rw [← us_take] at hp2
  have hl : (vtrim v).length = vlen v := by unfold vtrim; rw [List.length_take]; omega
  refine E.callf Try.func61 rfl ?_
  refine vclone_any hs hp2 (by omega) ?_
  intro a3 c3 w3 hs
  obtain ⟨g3, hg3, hp3, hs⟩ := hs.publishOwn
  refine go ?_
  refine A.r1 ?_
  have hp4 : Pr 1 g3 (.slice a3 (vtrim v).length c3) (vtrim v).length (us (vtrim v)) := by rw [hl]; exact hp3
  rw [← hl]
  exact HR.out _ _ _ _ hg3 hp4 hs

set_option maxHeartbeats 1600000 in
set_option maxRecDepth 100000 in
theorem vwith_any {R : Ending → World → Prop} {W w : World} {g : Hl} {H : List HP} {a : Option Addr} {n c m : Nat} {v : List Nat} {i : Int} (hs : Sat W w g H) (hp : Pr 1 g (.slice a n c) n (us v)) (hv : v.length = n) (hn : n ≤ 100000000)
    (hR : ∀ a' c' w' g', Hl.le g g' → Pr 1 g' (.slice a' (vwith v i m).length c') (vwith v i m).length (us (vwith v i m)) → Sat W w' g' H → R (.returned (.slice a' (vwith v i m).length c')) w') :
    Calls Try.prog 41 #[.slice a n c, .int .i64 i, .int .u64 m] w R := by
  have HR := Lib.hid hR
  clear hR
  by_cases hi : 0 ≤ i ∧ i < 64
  · obtain ⟨i, rfl⟩ := Int.eq_ofNat_of_zero_le hi.1
    have ew : vwith v i m = vtrim ((v ++ List.replicate (i + 1 - v.length) 0).set i m) := by unfold vwith; rw [if_pos hi]; rfl
    refine C.calls (args := [.slice a n c, .int .i64 i, .int .u64 m]) Try.func41 rfl rfl rfl ?_
    refine go ?_
    rw [show decide ((i : Int) < 0) = false from decide_eq_false (by omega)]
    refine go ?_
    rw [show decide ((64 : Int) ≤ i) = false from decide_eq_false (by omega)]
    refine go ?_
    refine E.callf Try.func61 rfl ?_
    refine vclone_any hs hp (by omega) ?_
    intro a2 c2 w2 hs
    refine gob ?_
    refine C.cut (fun x : Nat × Option Addr × Nat => [(1, .int .i64 i), (2, .int .u64 m), (7, .slice x.2.1 x.1 x.2.2)]) (fun x w => x.1 = (v ++ List.replicate (i + 1 - v.length) 0).length ∧ Sat W w g (own 23 1 (.slice x.2.1 x.1 x.2.2) x.1 (us (v ++ List.replicate (i + 1 - v.length) 0)) :: H)) ?_ ?_
    · refine C.block ?_
      refine C.lp (fun x : Nat × Option Addr × Nat => [(1, .int .i64 i), (2, .int .u64 m), (7, .slice x.2.1 x.1 x.2.2)]) (fun gk x w => gk = i + 1 - x.1 ∧ n ≤ x.1 ∧ x.1 ≤ max n (i + 1) ∧ Sat W w g (own 23 1 (.slice x.2.1 x.1 x.2.2) x.1 (us (v ++ List.replicate (x.1 - n) 0)) :: H)) (i + 1 - n) (n, a2, c2) ⟨rfl, Nat.le_refl _, by simp only; omega, by simpa using hs⟩ ?_
      clear hs
      rintro gk ⟨k, a3, c3⟩ w3 ⟨rfl, hk, hk2, hs⟩
      simp only at hk hk2 hs ⊢
      refine go ?_
      refine C.cond_dec (p := (k : Int) ≤ i) rfl (fun h => ?_) (fun h => ?_)
      · refine go ?_
        refine E.bsl hs ?_
        intro b4 w4 hs
        refine E.app el_vec hs.swap (hs.rowOf (size := 1) 1 rfl (by decide)) ?_
        intro a5 c5 w5 _ _ hs
        refine go ?_
        refine A.rd (i + 1 - (k + 1)) (k + 1, a5, c5) ⟨rfl, by simp only; omega, by simp only; omega, ?_⟩
        have e : us (v ++ List.replicate (k + 1 - n) 0) = us (v ++ List.replicate (k - n) 0) ++ [.int .u64 0] := by
          rw [show k + 1 - n = (k - n) + 1 by omega, List.replicate_succ']
          simp [us]
        simp only [e]
        exact hs.swap.drop
      · refine go ?_
        refine A.mt (k, a3, c3) ⟨?_, ?_⟩
        · simp only [List.length_append, List.length_replicate]; omega
        · rw [show i + 1 - v.length = k - n by omega]
          exact hs
    clear hs
    rintro ⟨k, a3, c3⟩ w3 ⟨hk, hs⟩
    simp only at hk hs ⊢
    have hlen : (v ++ List.replicate (i + 1 - v.length) 0).length = k := hk.symm
    have hik : i < k := by rw [hk]; simp only [List.length_append, List.length_replicate]; omega
    have hk9 : k ≤ 1000000000 := by rw [hk]; simp only [List.length_append, List.length_replicate]; omega
    generalize v ++ List.replicate (i + 1 - v.length) 0 = u at *
    clear hk
    obtain ⟨_, _, e1, hkc, hcm, hcase⟩ := hs.ownLen
    simp only [Value.slice.injEq] at e1
    obtain ⟨rfl, _, rfl⟩ := e1
    rcases hcase with rfl | ⟨bb, rfl⟩
    · exfalso
      rcases hs.owns.2 with ⟨e, _⟩ | ⟨_, _, _, e, _⟩
      · simp only [Value.slice.injEq] at e; omega
      · cases e
    refine go ?_
    refine E.cons (St.storeOwn hs rfl rfl rfl (by rw [us_length]; omega) rfl sz_ ?_)
    intro w4 hs
    have e2 : (us u).set i (.int .u64 m) = us (u.set i m) := by simp [us]
    rw [e2] at hs
    obtain ⟨g5, hg5, hp5, hs⟩ := hs.publishOwn
    refine go ?_
    refine E.callf Try.func53 rfl ?_
    refine vtrim_any hs hp5 (by simpa using hlen) (by omega) ?_
    intro a6 c6 w6 g6 hg6 hp6 hs
    rw [ew] at HR
    refine go ?_
    refine A.r1 ?_
    exact HR.out _ _ _ _ (hg5.trans hg6) hp6 hs
  · have ew : vwith v i m = vtrim v := by unfold vwith; rw [if_neg hi]
    rw [ew] at HR
    refine C.calls (args := [.slice a n c, .int .i64 i, .int .u64 m]) Try.func41 rfl rfl rfl ?_
    refine go ?_
    cases h1 : decide (i < 0) with
    | true =>
      refine go ?_
      refine E.callf Try.func53 rfl ?_
      refine vtrim_any hs hp hv (by omega) ?_
      intro a6 c6 w6 g6 hg6 hp6 hs
      refine go ?_
      refine A.r1 ?_
      exact HR.out _ _ _ _ hg6 hp6 hs
    | false =>
      have h1 := of_decide_eq_false h1
      refine go ?_
      rw [show decide ((64 : Int) ≤ i) = true from decide_eq_true (by omega)]
      refine go ?_
      refine E.callf Try.func53 rfl ?_
      refine vtrim_any hs hp hv (by omega) ?_
      intro a6 c6 w6 g6 hg6 hp6 hs
      refine go ?_
      refine A.r1 ?_
      exact HR.out _ _ _ _ hg6 hp6 hs
end Go.Proofs.Ytkolnecahlkndaa
