/-
  Layer 19 (post): Len, at, Clone, Delete: what each call does.
-/
import Derived.Test.YtpnfckdjggigpaaProg
import Derived.Test.YtpnfckdjggigpaaSl
namespace Go.Proofs.Ytpnfckdjggigpaa
open Go.RowKit

/-theorem info_u8 : (Try.prog.info? 5).map (fun i => (i.zero, i.size, i.bytes)) = some (some (.int .u8 0), 1, 1) := by kernel_rfl
theorem info_pk : (Try.prog.info? 31).map (fun i => (i.zero, i.size, i.bytes)) = some (some (.agg #[.int .i64 0, .int .i64 0, .slice none 0 0, .bool false]), 4, 48) := by kernel_rfl

-/
/-- The place that an index means among n. -/
def idx (i : Int) (n : Nat) : Nat := ((i % 18446744073709551616) % n).toNat
theorem idx_lt (i : Int) {n : Nat} (h : 0 < n) : idx i n < n := by
  unfold idx
  have := Int.emod_lt_of_pos (i % 18446744073709551616) (show (0 : Int) < n by omega)
  have := Int.emod_nonneg (i % 18446744073709551616) (show (n : Int) ≠ 0 by omega)
  omega
theorem idx_wrap (i : Int) {n : Nat} (h : 0 < n) (hm : n ≤ 9223372036854775807) : wrap64 ((IntKind.u64.wrap i).tmod n) = (idx i n : Int) := by
  have e : IntKind.u64.wrap i = i % 18446744073709551616 := by simp [IntKind.wrap, IntKind.bits, IntKind.signed]
  have h0 : 0 ≤ i % 18446744073709551616 := Int.emod_nonneg _ (by decide)
  have h1 := Int.emod_lt_of_pos (i % 18446744073709551616) (show (0 : Int) < n by omega)
  have h2 := Int.emod_nonneg (i % 18446744073709551616) (show (n : Int) ≠ 0 by omega)
  rw [e, Int.tmod_eq_emod_of_nonneg h0]
  unfold idx
  rw [Int.toNat_of_nonneg h2]
  unfold wrap64
  omega

theorem ret_int {k : IntKind} {a b : Int} (h : a = b) : Ending.returned (.int k a) = .returned (.int k b) := by rw [h]
theorem ret_int2 {k l : IntKind} {a b c d : Int} (h : a = b) (h' : c = d) : Ending.returned (.tuple #[.int k a, .int l c]) = .returned (.tuple #[.int k b, .int l d]) := by rw [h, h']

theorem len_nil (w : World) : Calls Try.prog 14 #[.pointer none] w fun e w' => e = .returned (.int .i64 0) ∧ w = w' := by
  go_enter Try.func14, Try.ntmps14
  go_wp2
  go_ret
  exact ⟨rfl, rfl⟩

theorem len_some (b : Nat) (a : Option Addr) (n c : Nat) (w : World) (h : w.cell? ⟨b, 0, none⟩ = some (.slice a n c)) :
    Calls Try.prog 14 #[.pointer (some ⟨b, 0, none⟩)] w fun e w' => e = .returned (.int .i64 n) ∧ w = w' := by
  go_enter Try.func14, Try.ntmps14
  go_wp2
  go_ret
  exact ⟨rfl, rfl⟩

theorem at_nil (i : Int) (w : World) :
    Calls Try.prog 17 #[.pointer none, .int .i64 i] w fun e w' => e = .returned (.tuple #[.int .i64 0, .int .i64 2]) ∧ w = w' := by
  go_enter Try.func17, Try.ntmps17
  go_wp2_with (go_at_call 14; refine (len_nil _).mono ?_; rintro e w' ⟨rfl, rfl⟩)
  go_ret2
  exact ⟨rfl, rfl⟩

theorem at_none (b : Nat) (a : Option Addr) (c : Nat) (i : Int) (w : World) (h : w.cell? ⟨b, 0, none⟩ = some (.slice a 0 c)) :
    Calls Try.prog 17 #[.pointer (some ⟨b, 0, none⟩), .int .i64 i] w fun e w' => e = .returned (.tuple #[.int .i64 0, .int .i64 2]) ∧ w = w' := by
  go_enter Try.func17, Try.ntmps17
  go_wp2_with (go_at_call 14; refine (len_some _ _ _ _ _ h).mono ?_; rintro e w' ⟨rfl, rfl⟩)
  go_ret2
  exact ⟨rfl, rfl⟩

theorem at_some (b : Nat) (a : Option Addr) (n c : Nat) (i : Int) (w : World) (h : w.cell? ⟨b, 0, none⟩ = some (.slice a n c)) (hn : 0 < n) (hm : n ≤ 9223372036854775807) :
    Calls Try.prog 17 #[.pointer (some ⟨b, 0, none⟩), .int .i64 i] w fun e w' => e = .returned (.tuple #[.int .i64 (idx i n), .int .i64 0]) ∧ w = w' := by
  go_enter Try.func17, Try.ntmps17
  go_wp2_with (go_at_call 14; refine (len_some _ _ _ _ _ h).mono ?_; rintro e w' ⟨rfl, rfl⟩)
  go_ret2
  exact ⟨ret_int2 (idx_wrap i hn hm) rfl, rfl⟩

theorem el_u8 : ElemOf Try.prog 29 5 (.int .u8 0) 1 1 := .of Try.underlying29 (by kernel_rfl) rfl (by decide)
theorem el_pk : ElemOf Try.prog 25 31 (.agg #[.int .i64 0, .int .i64 0, .slice none 0 0, .bool false]) 4 48 := .of Try.underlying25 (by kernel_rfl) rfl (by decide)

/-- slices.Clone of bytes: a row of its own; nil of nil. -/
theorem clone_any {R : Ending → World → Prop} {D : Nat → Prop} {v : Value} {n : Nat} {l : List UInt8} {w : World} (h : Row 1 w D v n (bs l)) (hn : n ≤ 140737488355328)
    (hR : ∀ v' w', w'.ownsRow w.heap.size 5 1 v' n (bs l) → (v' = .slice none 0 0 ↔ v = .slice none 0 0) → Below w.heap.size w w' → R (.returned v') w') :
    Calls Try.prog 15 #[v] w R := by
  have q := fun (w : World) (a : Option Addr) (n c n' c' : Nat) => Lib.run_eql_slice_nil (P := Try.prog) w 29 5 a n c n' c' Try.underlying29
  have hw := Below.refl w.heap.size w
  have HR := Lib.hid hR
  clear hR
  rcases h.news with ⟨rfl, rfl, hl⟩ | ⟨a, c, rfl, _, _⟩
  · have hl := Lib.hid hl
    go_enter Try.func15, Try.ntmps15
    go_wp2
    exact HR.out _ _ (by rw [hl.out]; exact World.ownsRow_nil _ _ _ _) (by simp) hw
  · have H := Lib.hid (h.alloc (.cells #[] 5))
    have H5 : Hid (0 + n ≤ maxLen ∧ (0 + n) * 1 ≤ 140737488355328) := ⟨by unfold maxLen; omega, by omega⟩
    clear h
    go_enter Try.func15, Try.ntmps15
    go_wp2_with (at_builtin; refine app_row (v := .slice (some ⟨w.heap.size, 0, none⟩) 0 0) rfl (.tmp 5) (.tmp 6) el_u8 rfl rfl (World.ownsRow_made w #[] 0 (Nat.le_refl _) (Nat.zero_le _) rfl) rfl H.out (bs_one l) H5.out.1 H5.out.2 (by simp) ?_; intro v' w1 hown hgr hnil hnew; clear hnew)
    exact HR.out v' w1 (by simpa using hown) (by simp [hnil]) ((hw.alloc (Nat.le_refl _) _).grown hgr (by simp) (fun k hk => by simp [Value.ownBlock] at hk; omega))

/-- slices.Delete of packets: the own row without the elements from i to j, in the same memory. -/
theorem delete_any {R : Ending → World → Prop} {base : Nat} {v : Value} {n : Nat} (i j : Nat) {ii jj : Int} (hii : ii = i) (hjj : jj = j) {xs : List Value} {w : World} (h : w.ownsRow base 31 4 v n xs) (h1 : ∀ x ∈ xs, x.oneCell' = true) (hij : i ≤ j) (hj : j ≤ n)
    (hR : ∀ v' w', w'.ownsRow base 31 4 v' (n - (j - i)) (xs.take (i * 4) ++ xs.drop (j * 4)) → v'.ownBlock = v.ownBlock → w.grownBy w' v.ownBlock → R (.returned v') w') :
    Calls Try.prog 16 #[v, .int .i64 ii, .int .i64 jj] w R := by
  subst hii hjj
  have HR := Lib.hid hR
  clear hR
  have h0 := h
  rcases h.2 with ⟨rfl, rfl⟩ | ⟨g, cap, cur, rfl, _, hg, hnc, hcm, hcs, _⟩
  · obtain rfl : j = 0 := by omega
    obtain rfl : i = 0 := by omega
    have H := Lib.hid h
    clear h h0 h1 hij hj
    go_enter Try.func16, Try.ntmps16
    go_wp2
    exact HR.out _ _ (by simpa using H.out) rfl (World.grownBy.refl _ _)
  unfold maxLen at hcm
  by_cases e : i = j
  · subst e
    have H : Hid (w.ownsRow base 31 4 (.slice (some ⟨g, 0, none⟩) n cap) (n - (i - i)) (xs.take (i * 4) ++ xs.drop (i * 4))) := by show World.ownsRow _ _ _ _ _ _ _; simpa using h
    clear h h0 h1 hg hcs
    by_cases e : cap = i
    · subst e
      obtain rfl : n = cap := by omega
      go_enter Try.func16, Try.ntmps16
      go_wp2
      exact HR.out _ _ H.out rfl (World.grownBy.refl _ _)
    · go_enter Try.func16, Try.ntmps16
      go_wp2
      all_goals first
        | exact HR.out (.slice (some ⟨g, 0, none⟩) n cap) w H.out rfl (World.grownBy.refl _ _)
        | (have e2 : n = i := by assumption
           subst e2
           exact HR.out _ _ H.out rfl (World.grownBy.refl _ _))
  · have H := Lib.hid h.drew
    have H1 := Lib.hid h1
    have hlt : i < j := by omega
    have e2 : ((i : Int) == (j : Int)) = false := by simp; omega
    obtain ⟨A, hA, hA2⟩ : ∃ A : Addr, (if cap = j then some (⟨g, 0, none⟩ : Addr) else some ⟨g, j * 4, none⟩) = some A ∧ Hid (n - j = 0 ∨ A = ⟨g, j * 4, none⟩) := by
      by_cases e : cap = j
      · exact ⟨_, by rw [if_pos e], .inl (by omega)⟩
      · exact ⟨_, by rw [if_neg e], .inr rfl⟩
    clear h h0 h1 hg hcs e
    have hij := Lib.hid hij
    have hjc : j ≤ cap := by omega
    have hic : i ≤ cap := by omega
    go_enter Try.func16, Try.ntmps16
    go_wp2_with fail
    go_region_law (refine step_cut rfl (.tmp 22) (.tmp 25) el_pk rfl H.out hij.out hj H1.out A hA2.out (cap - j) (by simp [Act.eval, Act.put]) (by simp [Act.eval, Act.put]) ?_; intro w1 hown hgr)
    have hc : i + (n - j) ≤ n := by omega
    have hc2 : i + (n - j) ≤ cap := by omega
    have hd : j - i = n - (i + (n - j)) := by omega
    have hd2 : i + (n - j) + (n - (i + (n - j))) ≤ cap := by omega
    have hd3 : n - (j - i) = i + (n - j) := by omega
    have hd4 : ¬ cap = i + (n - j) := by omega
    have Hd3 := Lib.hid hd3
    have Hgr := Lib.hid hgr
    clear hd hd3 hgr
    go_wp2_with (refine clear_tail rfl (.tmp 31) el_pk rfl hown (m := n - (i + (n - j))) (c := cap - (i + (n - j))) hd2 (by simp [Value.cells, Value.oneCell']) rfl ?_; intro w2 hown2 hgr2)
    refine HR.out (.slice (some ⟨g, 0, none⟩) (i + (n - j)) cap) w2 ?_ rfl ?_
    · rw [Hd3.out]; exact hown2
    · exact (Hgr.out.ofDrew.trans hgr2)


theorem clone_sl {R : Ending → World → Prop} {W w : World} {g : Hl} {H : List HP} {D : Nat → Prop} {v : Value} {n : Nat} {l : List UInt8} (hs : Sat W w g H) (h : Row 1 w D v n (bs l)) (hn : n ≤ 140737488355328)
    (hR : ∀ v' w', Sat W w' g (own 5 1 v' n (bs l) :: H) → (v' = .slice none 0 0 ↔ v = .slice none 0 0) → R (.returned v') w') :
    Calls Try.prog 15 #[v] w R :=
  clone_any h hn fun v' w' h1 h2 h3 => hR v' w' (hs.newOwn h1 h3) h2

theorem delete_sl {R : Ending → World → Prop} {W w : World} {g : Hl} {H : List HP} {v : Value} {n : Nat} (i j : Nat) {ii jj : Int} (hii : ii = i) (hjj : jj = j) {xs : List Value} (hs : Sat W w g (own 31 4 v n xs :: H)) (h1 : ∀ x ∈ xs, x.oneCell' = true) (hij : i ≤ j) (hj : j ≤ n)
    (hR : ∀ v' w', Sat W w' g (own 31 4 v' (n - (j - i)) (xs.take (i * 4) ++ xs.drop (j * 4)) :: H) → R (.returned v') w') :
    Calls Try.prog 16 #[v, .int .i64 ii, .int .i64 jj] w R :=
  delete_any i j hii hjj hs.owns h1 hij hj fun v' w' a b c => hR v' w' (hs.turn a c (.inl b))

end Go.Proofs.Ytpnfckdjggigpaa
