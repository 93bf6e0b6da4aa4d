/-
  Layer 19 (post): PostPlays: the walk.
-/
import Derived.Test.YtpnfckdjggigpaaPm
import Derived.Test.YtpnfckdjggigpaaEn
namespace Go.Proofs.Ytpnfckdjggigpaa
open Go.RowKit

/-- What a round of the loop finds: the post and the list that goes beside it. -/
def Beside (W w : World) (H : List HP) (b : Nat) (g : Hl) (ls : List Ln) (la : Option Addr) (lc : Nat) : Prop :=
  Sat W w g (post b (ls.map Ln.pk) :: own 43 4 (.slice la ls.length lc) ls.length (lnCells ls) :: H) ∧ ∀ x ∈ ls, x.n < 1000

theorem pr_at {g : Hl} {a : Option Addr} {len cap : Nat} {xs : List Value} (h : Pr 1 g (.slice a len cap) len xs) {j : Nat} (hj : j < len) {u : Value} (hu : xs[j]? = some u) :
    ∃ b o, a = some ⟨b, o, none⟩ ∧ ∀ (W w : World) (g' : Hl) (H : List HP), Hl.le g g' → Sat W w g' H → w.cell? ⟨b, o + j, none⟩ = some u := by
  obtain ⟨_, a', c, e, _, _, _, h0 | ⟨b, o, cur, t, fz, e2, _, _⟩⟩ := id h
  · omega
  · simp only [Value.slice.injEq] at e
    obtain ⟨rfl, _, rfl⟩ := e
    subst e2
    exact ⟨b, o, rfl, fun W w g' H hg hs => ((h.mono hg).row hs |>.cellAt rfl hu).2⟩

/-- The i-th number of a list of numbers, or 0. -/
theorem pick_any {k : IntKind} {zs : List Int} {len j : Nat} (h : len ≤ zs.length) (hj : j < len) : ((zs.take len).map (Value.int k))[j]? = some (.int k (zs.getD j 0)) := by
  have : j < zs.length := by omega
  simp [hj, this]

theorem own_addr {W w : World} {g : Hl} {H : List HP} {E : TypeId} {size n c : Nat} {a : Option Addr} {xs : List Value} (hs : Sat W w g (own E size (.slice a n c) n xs :: H)) (hn : 0 < n) : ∃ b, a = some ⟨b, 0, none⟩ := by
  rcases hs.owns.2 with ⟨_, e⟩ | ⟨b, cap, cur, e, _⟩
  · omega
  · simp only [Value.slice.injEq] at e
    exact ⟨b, e.1⟩
theorem own_cap {W w : World} {g : Hl} {H : List HP} {E : TypeId} {size n c : Nat} {a : Option Addr} {xs : List Value} (hs : Sat W w g (own E size (.slice a n c) n xs :: H)) : n ≤ c ∧ c ≤ 9223372036854775807 := by
  obtain ⟨a', c', e, h1, h2, _⟩ := hs.ownLen
  simp only [Value.slice.injEq] at e
  obtain ⟨_, _, rfl⟩ := e
  exact ⟨h1, h2⟩
theorem ld_ln {W w : World} {g : Hl} {H : List HP} {ls : List Ln} {lb n c p : Nat} {x : Ln} (hs : Sat W w g (own 43 4 (.slice (some ⟨lb, 0, none⟩) n c) n (lnCells ls) :: H)) (hx : ls[p]? = some x) :
    (loadVar 43 ⟨lb, p * 4, none⟩).run Try.prog w = .ok (.agg #[.int .i64 x.n, .int .u8 x.a.toNat, .int .u8 x.b.toNat, .bool x.bent]) w := by
  have c0 := hs.ownCell (lnCells_get hx 0 (by omega))
  have c1 := hs.ownCell (lnCells_get hx 1 (by omega))
  have c2 := hs.ownCell (lnCells_get hx 2 (by omega))
  have c3 := hs.ownCell (lnCells_get hx 3 (by omega))
  simp only [Nat.add_zero] at c0 c1 c2 c3
  go_simp

theorem xor_u8 (a b : UInt8) : bits .xor .u8 (a.toNat : Int) (b.toNat : Int) = ((a ^^^ b).toNat : Int) := by
  rw [u8_xor_nat _ _ a.toNat_lt b.toNat_lt, UInt8.toNat_xor]
theorem set_same {α : Type} {l : List α} {i : Nat} {v : α} (h : l[i]? = some v) : l.set i v = l := by
  apply List.ext_getElem?
  intro j
  by_cases e : i = j
  · subst e
    rw [List.getElem?_set_self (List.getElem?_eq_some_iff.1 h).1, h]
  · rw [List.getElem?_set_ne e]

structure PS where
  j : Nat
  ls : List Ln
  la : Option Addr
  lc : Nat
  g : Hl

@[reducible] def psf (a0 a1 a2 : Option Addr) (n0 n1 n2 c0 c1 c2 b : Nat) (x : PS) : List (Nat × Value) :=
  [(0, .slice a0 n0 c0), (1, .slice a1 n1 c1), (2, .slice a2 n2 c2), (7, .pointer (some ⟨b, 0, none⟩)), (8, .slice x.la x.ls.length x.lc), (9, .int .i64 x.j)]

set_option maxHeartbeats 4000000 in
set_option maxRecDepth 100000 in
theorem plays_any {R : Ending → World → Prop} {W w : World} {g : Hl} {H : List HP} {a0 a1 a2 : Option Addr} {n0 n1 n2 c0 c1 c2 : Nat} {l0 : List UInt8} {z1 z2 : List Int} (hs : Sat W w g H)
    (h0 : Pr 1 g (.slice a0 n0 c0) n0 (bs l0)) (hl0 : l0.length = n0) (h1 : Pr 1 g (.slice a1 n1 c1) n1 ((z1.take n1).map (Value.int .i64))) (hl1 : n1 ≤ z1.length) (h2 : Pr 1 g (.slice a2 n2 c2) n2 ((z2.take n2).map (Value.int .i64))) (hl2 : n2 ≤ z2.length)
    (hn : n0 ≤ 150) (hm1 : n1 ≤ 9223372036854775807) (hm2 : n2 ≤ 9223372036854775807)
    (hR : ∀ w' g', Hl.le g g' → Sat W w' g' H → R (.returned (.bool true)) w') :
    Calls Try.prog 4 #[.slice a0 n0 c0, .slice a1 n1 c1, .slice a2 n2 c2] w R := by
  have HR := Lib.hid hR
  clear hR
  refine C.calls (args := [.slice a0 n0 c0, .slice a1 n1 c1, .slice a2 n2 c2]) Try.func4 rfl rfl rfl ?_
  repeat (first
    | (apply E.pv; (first | (apply Pv.auto; exact rfl) | ((first | apply Pv.add | apply Pv.sub | apply Pv.rem | apply Pv.quo) <;> first | exact rfl | omega) | (apply Pv.conv; exact rfl; (intro w; go_simp <;> first | exact rfl | exact ⟨rfl, rfl⟩); (first | exact wrapu64_id (by omega) (by omega) | exact wrap64_id (by omega) (by omega) | exact wrapu8_id (by omega) (by omega) | exact wrapu32_id (by omega) (by omega) | exact wrapu16_id (by omega) (by omega) | exact rfl)) | ((first | apply Pv.beq | apply Pv.bne); exact rfl; exact rfl; kernel_rfl) | ((first | apply Pv.fieldAddr | apply Pv.len | apply Pv.indexAddr | apply Pv.build | apply Pv.field | apply Pv.convert | apply Pv.addw | apply Pv.subw | apply Pv.mulw | apply Pv.binOp) <;> first | exact rfl | (intro w; go_simp <;> first | exact rfl | exact ⟨rfl, rfl⟩))))
    | (first | apply C.region_seq | apply E.nil | apply A.next | apply A.ret_then | apply A.exit_then | apply A.block_end | apply A.block_ret | apply A.block_exit | apply C.seq | apply C.region | apply C.skip | apply C.ret | apply C.exit)
    | (apply E.guard; exact rfl; exact rfl)
    | (apply E.passed; exact rfl; exact rfl; exact rfl)
    | ((first | apply A.block_other | apply C.cond_true); exact rfl)
    | (apply C.cond_false; exact rfl)
    | apply C.block
    | ((first | (apply E.cons; apply St.load hs) | apply St.load hs); exact rfl; (repeat (first | exact Fd.here | refine Fd.there ?_)); exact rfl; go_simp))
  apply E.call Try.func6 rfl rfl
  · exact rfl
  refine awake_any hs ?_
  intro w1 g1 hg1 hs
  repeat (first
    | (apply E.pv; (first | (apply Pv.auto; exact rfl) | ((first | apply Pv.add | apply Pv.sub | apply Pv.rem | apply Pv.quo) <;> first | exact rfl | omega) | (apply Pv.conv; exact rfl; (intro w; go_simp <;> first | exact rfl | exact ⟨rfl, rfl⟩); (first | exact wrapu64_id (by omega) (by omega) | exact wrap64_id (by omega) (by omega) | exact wrapu8_id (by omega) (by omega) | exact wrapu32_id (by omega) (by omega) | exact wrapu16_id (by omega) (by omega) | exact rfl)) | ((first | apply Pv.beq | apply Pv.bne); exact rfl; exact rfl; kernel_rfl) | ((first | apply Pv.fieldAddr | apply Pv.len | apply Pv.indexAddr | apply Pv.build | apply Pv.field | apply Pv.convert | apply Pv.addw | apply Pv.subw | apply Pv.mulw | apply Pv.binOp) <;> first | exact rfl | (intro w; go_simp <;> first | exact rfl | exact ⟨rfl, rfl⟩))))
    | (first | apply C.region_seq | apply E.nil | apply A.next | apply A.ret_then | apply A.exit_then | apply A.block_end | apply A.block_ret | apply A.block_exit | apply C.seq | apply C.region | apply C.skip | apply C.ret | apply C.exit)
    | (apply E.guard; exact rfl; exact rfl)
    | (apply E.passed; exact rfl; exact rfl; exact rfl)
    | ((first | apply A.block_other | apply C.cond_true); exact rfl)
    | (apply C.cond_false; exact rfl)
    | apply C.block
    | ((first | (apply E.cons; apply St.load hs) | apply St.load hs); exact rfl; (repeat (first | exact Fd.here | refine Fd.there ?_)); exact rfl; go_simp))
  refine C.cond_dec (p := (150 : Int) < n0) rfl (fun h => by omega) (fun _ => ?_)
  repeat (first
    | (apply E.pv; (first | (apply Pv.auto; exact rfl) | ((first | apply Pv.add | apply Pv.sub | apply Pv.rem | apply Pv.quo) <;> first | exact rfl | omega) | (apply Pv.conv; exact rfl; (intro w; go_simp <;> first | exact rfl | exact ⟨rfl, rfl⟩); (first | exact wrapu64_id (by omega) (by omega) | exact wrap64_id (by omega) (by omega) | exact wrapu8_id (by omega) (by omega) | exact wrapu32_id (by omega) (by omega) | exact wrapu16_id (by omega) (by omega) | exact rfl)) | ((first | apply Pv.beq | apply Pv.bne); exact rfl; exact rfl; kernel_rfl) | ((first | apply Pv.fieldAddr | apply Pv.len | apply Pv.indexAddr | apply Pv.build | apply Pv.field | apply Pv.convert | apply Pv.addw | apply Pv.subw | apply Pv.mulw | apply Pv.binOp) <;> first | exact rfl | (intro w; go_simp <;> first | exact rfl | exact ⟨rfl, rfl⟩))))
    | (first | apply C.region_seq | apply E.nil | apply A.next | apply A.ret_then | apply A.exit_then | apply A.block_end | apply A.block_ret | apply A.block_exit | apply C.seq | apply C.region | apply C.skip | apply C.ret | apply C.exit)
    | (apply E.guard; exact rfl; exact rfl)
    | (apply E.passed; exact rfl; exact rfl; exact rfl)
    | ((first | apply A.block_other | apply C.cond_true); exact rfl)
    | (apply C.cond_false; exact rfl)
    | apply C.block
    | ((first | (apply E.cons; apply St.load hs) | apply St.load hs); exact rfl; (repeat (first | exact Fd.here | refine Fd.there ?_)); exact rfl; go_simp))
  apply E.cons
  apply St.box hs
  · exact rfl
  · exact rfl
  intro b w2 hs
  have hs := post_new hs
  repeat (first
    | (apply E.pv; (first | (apply Pv.auto; exact rfl) | ((first | apply Pv.add | apply Pv.sub | apply Pv.rem | apply Pv.quo) <;> first | exact rfl | omega) | (apply Pv.conv; exact rfl; (intro w; go_simp <;> first | exact rfl | exact ⟨rfl, rfl⟩); (first | exact wrapu64_id (by omega) (by omega) | exact wrap64_id (by omega) (by omega) | exact wrapu8_id (by omega) (by omega) | exact wrapu32_id (by omega) (by omega) | exact wrapu16_id (by omega) (by omega) | exact rfl)) | ((first | apply Pv.beq | apply Pv.bne); exact rfl; exact rfl; kernel_rfl) | ((first | apply Pv.fieldAddr | apply Pv.len | apply Pv.indexAddr | apply Pv.build | apply Pv.field | apply Pv.convert | apply Pv.addw | apply Pv.subw | apply Pv.mulw | apply Pv.binOp) <;> first | exact rfl | (intro w; go_simp <;> first | exact rfl | exact ⟨rfl, rfl⟩))))
    | (first | apply C.region_seq | apply E.nil | apply A.next | apply A.ret_then | apply A.exit_then | apply A.block_end | apply A.block_ret | apply A.block_exit | apply C.seq | apply C.region | apply C.skip | apply C.ret | apply C.exit)
    | (apply E.guard; exact rfl; exact rfl)
    | (apply E.passed; exact rfl; exact rfl; exact rfl)
    | ((first | apply A.block_other | apply C.cond_true); exact rfl)
    | (apply C.cond_false; exact rfl)
    | apply C.block
    | ((first | (apply E.cons; apply St.load hs) | apply St.load hs); exact rfl; (repeat (first | exact Fd.here | refine Fd.there ?_)); exact rfl; go_simp))
  refine C.loop (psf a0 a1 a2 n0 n1 n2 c0 c1 c2 b) (fun gk x w => gk = n0 - x.j ∧ x.j ≤ n0 ∧ Hl.le g1 x.g ∧ x.ls.length ≤ x.j ∧ Beside W w H b x.g x.ls x.la x.lc) n0 ⟨0, [], none, 0, g1⟩ (by repeat (first | exact trivial | refine ⟨rfl, ?_⟩)) ⟨rfl, by simp, fun _ _ h => h, by simp, (hs.nilOwn (E := 43) (size := 4)).swap, fun x hx => by cases hx⟩ ?_
  clear hs
  rintro gk ⟨j, ls, la, lc, g2⟩ w3 ⟨rfl, hj, hg2, hlj, hs, hlt⟩
  refine C.forget (ρ' := [(0, .slice a0 n0 c0), (1, .slice a1 n1 c1), (2, .slice a2 n2 c2), (7, .pointer (some ⟨b, 0, none⟩)), (8, .slice la ls.length lc), (9, .int .i64 j)]) (by repeat (first | exact trivial | refine ⟨rfl, ?_⟩)) ?_
  simp only at hj hg2 hlj hs hlt ⊢
  have hg3 := hg1.trans hg2
  repeat (first
    | (apply E.pv; (first | (apply Pv.auto; exact rfl) | ((first | apply Pv.add | apply Pv.sub | apply Pv.rem | apply Pv.quo) <;> first | exact rfl | omega) | (apply Pv.conv; exact rfl; (intro w; go_simp <;> first | exact rfl | exact ⟨rfl, rfl⟩); (first | exact wrapu64_id (by omega) (by omega) | exact wrap64_id (by omega) (by omega) | exact wrapu8_id (by omega) (by omega) | exact wrapu32_id (by omega) (by omega) | exact wrapu16_id (by omega) (by omega) | exact rfl)) | ((first | apply Pv.beq | apply Pv.bne); exact rfl; exact rfl; kernel_rfl) | ((first | apply Pv.fieldAddr | apply Pv.len | apply Pv.indexAddr | apply Pv.build | apply Pv.field | apply Pv.convert | apply Pv.addw | apply Pv.subw | apply Pv.mulw | apply Pv.binOp) <;> first | exact rfl | (intro w; go_simp <;> first | exact rfl | exact ⟨rfl, rfl⟩))))
    | (first | apply C.region_seq | apply E.nil | apply A.next | apply A.ret_then | apply A.exit_then | apply A.block_end | apply A.block_ret | apply A.block_exit | apply C.seq | apply C.region | apply C.skip | apply C.ret | apply C.exit)
    | (apply E.guard; exact rfl; exact rfl)
    | (apply E.passed; exact rfl; exact rfl; exact rfl)
    | ((first | apply A.block_other | apply C.cond_true); exact rfl)
    | (apply C.cond_false; exact rfl)
    | apply C.block
    | ((first | (apply E.cons; apply St.load hs) | apply St.load hs); exact rfl; (repeat (first | exact Fd.here | refine Fd.there ?_)); exact rfl; go_simp))
  refine C.cond_dec (p := (j : Int) < n0) rfl (fun hjn => ?_) (fun hjn => ?_)
  rotate_left
  · repeat (first
      | (apply E.pv; (first | (apply Pv.auto; exact rfl) | ((first | apply Pv.add | apply Pv.sub | apply Pv.rem | apply Pv.quo) <;> first | exact rfl | omega) | (apply Pv.conv; exact rfl; (intro w; go_simp <;> first | exact rfl | exact ⟨rfl, rfl⟩); (first | exact wrapu64_id (by omega) (by omega) | exact wrap64_id (by omega) (by omega) | exact wrapu8_id (by omega) (by omega) | exact wrapu32_id (by omega) (by omega) | exact wrapu16_id (by omega) (by omega) | exact rfl)) | ((first | apply Pv.beq | apply Pv.bne); exact rfl; exact rfl; kernel_rfl) | ((first | apply Pv.fieldAddr | apply Pv.len | apply Pv.indexAddr | apply Pv.build | apply Pv.field | apply Pv.convert | apply Pv.addw | apply Pv.subw | apply Pv.mulw | apply Pv.binOp) <;> first | exact rfl | (intro w; go_simp <;> first | exact rfl | exact ⟨rfl, rfl⟩))))
      | (first | apply C.region_seq | apply E.nil | apply A.next | apply A.ret_then | apply A.exit_then | apply A.block_end | apply A.block_ret | apply A.block_exit | apply C.seq | apply C.region | apply C.skip | apply C.ret | apply C.exit)
      | (apply E.guard; exact rfl; exact rfl)
      | (apply E.passed; exact rfl; exact rfl; exact rfl)
      | ((first | apply A.block_other | apply C.cond_true); exact rfl)
      | (apply C.cond_false; exact rfl)
      | apply C.block
      | ((first | (apply E.cons; apply St.load hs) | apply St.load hs); exact rfl; (repeat (first | exact Fd.here | refine Fd.there ?_)); exact rfl; go_simp))
    apply A.ret1
    · exact rfl
    · exact rfl
    exact HR.out _ _ hg3 hs.drop.drop
  repeat (first
    | (apply E.pv; (first | (apply Pv.auto; exact rfl) | ((first | apply Pv.add | apply Pv.sub | apply Pv.rem | apply Pv.quo) <;> first | exact rfl | omega) | (apply Pv.conv; exact rfl; (intro w; go_simp <;> first | exact rfl | exact ⟨rfl, rfl⟩); (first | exact wrapu64_id (by omega) (by omega) | exact wrap64_id (by omega) (by omega) | exact wrapu8_id (by omega) (by omega) | exact wrapu32_id (by omega) (by omega) | exact wrapu16_id (by omega) (by omega) | exact rfl)) | ((first | apply Pv.beq | apply Pv.bne); exact rfl; exact rfl; kernel_rfl) | ((first | apply Pv.fieldAddr | apply Pv.len | apply Pv.indexAddr | apply Pv.build | apply Pv.field | apply Pv.convert | apply Pv.addw | apply Pv.subw | apply Pv.mulw | apply Pv.binOp) <;> first | exact rfl | (intro w; go_simp <;> first | exact rfl | exact ⟨rfl, rfl⟩))))
    | (first | apply C.region_seq | apply E.nil | apply A.next | apply A.ret_then | apply A.exit_then | apply A.block_end | apply A.block_ret | apply A.block_exit | apply C.seq | apply C.region | apply C.skip | apply C.ret | apply C.exit)
    | (apply E.guard; exact rfl; exact rfl)
    | (apply E.passed; exact rfl; exact rfl; exact rfl)
    | ((first | apply A.block_other | apply C.cond_true); exact rfl)
    | (apply C.cond_false; exact rfl)
    | apply C.block
    | ((first | (apply E.cons; apply St.load hs) | apply St.load hs); exact rfl; (repeat (first | exact Fd.here | refine Fd.there ?_)); exact rfl; go_simp))
  refine C.cut (fun k : Int => [(0, .slice a0 n0 c0), (1, .slice a1 n1 c1), (2, .slice a2 n2 c2), (7, .pointer (some ⟨b, 0, none⟩)), (8, .slice la ls.length lc), (9, .int .i64 j), (10, .int .i64 k)]) (fun k w => w = w3) ?_ ?_
  · refine C.cond_dec (p := (j : Int) < n1) rfl (fun hp => ?_) (fun hp => ?_)
    · obtain ⟨pb, po, rfl, hpl⟩ := pr_at h1 (show j < n1 by omega) (pick_any hl1 (by omega))
      repeat (first
        | (apply E.pv; (first | (apply Pv.auto; exact rfl) | ((first | apply Pv.add | apply Pv.sub | apply Pv.rem | apply Pv.quo) <;> first | exact rfl | omega) | (apply Pv.conv; exact rfl; (intro w; go_simp <;> first | exact rfl | exact ⟨rfl, rfl⟩); (first | exact wrapu64_id (by omega) (by omega) | exact wrap64_id (by omega) (by omega) | exact wrapu8_id (by omega) (by omega) | exact wrapu32_id (by omega) (by omega) | exact wrapu16_id (by omega) (by omega) | exact rfl)) | ((first | apply Pv.beq | apply Pv.bne); exact rfl; exact rfl; kernel_rfl) | ((first | apply Pv.fieldAddr | apply Pv.len | apply Pv.indexAddr | apply Pv.build | apply Pv.field | apply Pv.convert | apply Pv.addw | apply Pv.subw | apply Pv.mulw | apply Pv.binOp) <;> first | exact rfl | (intro w; go_simp <;> first | exact rfl | exact ⟨rfl, rfl⟩))))
        | (first | apply C.region_seq | apply E.nil | apply A.next | apply A.ret_then | apply A.exit_then | apply A.block_end | apply A.block_ret | apply A.block_exit | apply C.seq | apply C.region | apply C.skip | apply C.ret | apply C.exit)
        | (apply E.guard; exact rfl; exact rfl)
        | (apply E.passed; exact rfl; exact rfl; exact rfl)
        | ((first | apply A.block_other | apply C.cond_true); exact rfl)
        | (apply C.cond_false; exact rfl)
        | apply C.block
        | ((first | (apply E.cons; apply St.load hs) | apply St.load hs); exact rfl; (repeat (first | exact Fd.here | refine Fd.there ?_)); exact rfl; go_simp))
      apply E.cons
      apply St.loadc
      · exact rfl
      · exact hpl _ _ _ _ hg3 hs
      · go_simp
      repeat (first
        | (apply E.pv; (first | (apply Pv.auto; exact rfl) | ((first | apply Pv.add | apply Pv.sub | apply Pv.rem | apply Pv.quo) <;> first | exact rfl | omega) | (apply Pv.conv; exact rfl; (intro w; go_simp <;> first | exact rfl | exact ⟨rfl, rfl⟩); (first | exact wrapu64_id (by omega) (by omega) | exact wrap64_id (by omega) (by omega) | exact wrapu8_id (by omega) (by omega) | exact wrapu32_id (by omega) (by omega) | exact wrapu16_id (by omega) (by omega) | exact rfl)) | ((first | apply Pv.beq | apply Pv.bne); exact rfl; exact rfl; kernel_rfl) | ((first | apply Pv.fieldAddr | apply Pv.len | apply Pv.indexAddr | apply Pv.build | apply Pv.field | apply Pv.convert | apply Pv.addw | apply Pv.subw | apply Pv.mulw | apply Pv.binOp) <;> first | exact rfl | (intro w; go_simp <;> first | exact rfl | exact ⟨rfl, rfl⟩))))
        | (first | apply C.region_seq | apply E.nil | apply A.next | apply A.ret_then | apply A.exit_then | apply A.block_end | apply A.block_ret | apply A.block_exit | apply C.seq | apply C.region | apply C.skip | apply C.ret | apply C.exit)
        | (apply E.guard; exact rfl; exact rfl)
        | (apply E.passed; exact rfl; exact rfl; exact rfl)
        | ((first | apply A.block_other | apply C.cond_true); exact rfl)
        | (apply C.cond_false; exact rfl)
        | apply C.block
        | ((first | (apply E.cons; apply St.load hs) | apply St.load hs); exact rfl; (repeat (first | exact Fd.here | refine Fd.there ?_)); exact rfl; go_simp))
      exact A.meet _ (by repeat (first | exact trivial | refine ⟨rfl, ?_⟩)) rfl
    · repeat (first
        | (apply E.pv; (first | (apply Pv.auto; exact rfl) | ((first | apply Pv.add | apply Pv.sub | apply Pv.rem | apply Pv.quo) <;> first | exact rfl | omega) | (apply Pv.conv; exact rfl; (intro w; go_simp <;> first | exact rfl | exact ⟨rfl, rfl⟩); (first | exact wrapu64_id (by omega) (by omega) | exact wrap64_id (by omega) (by omega) | exact wrapu8_id (by omega) (by omega) | exact wrapu32_id (by omega) (by omega) | exact wrapu16_id (by omega) (by omega) | exact rfl)) | ((first | apply Pv.beq | apply Pv.bne); exact rfl; exact rfl; kernel_rfl) | ((first | apply Pv.fieldAddr | apply Pv.len | apply Pv.indexAddr | apply Pv.build | apply Pv.field | apply Pv.convert | apply Pv.addw | apply Pv.subw | apply Pv.mulw | apply Pv.binOp) <;> first | exact rfl | (intro w; go_simp <;> first | exact rfl | exact ⟨rfl, rfl⟩))))
        | (first | apply C.region_seq | apply E.nil | apply A.next | apply A.ret_then | apply A.exit_then | apply A.block_end | apply A.block_ret | apply A.block_exit | apply C.seq | apply C.region | apply C.skip | apply C.ret | apply C.exit)
        | (apply E.guard; exact rfl; exact rfl)
        | (apply E.passed; exact rfl; exact rfl; exact rfl)
        | ((first | apply A.block_other | apply C.cond_true); exact rfl)
        | (apply C.cond_false; exact rfl)
        | apply C.block
        | ((first | (apply E.cons; apply St.load hs) | apply St.load hs); exact rfl; (repeat (first | exact Fd.here | refine Fd.there ?_)); exact rfl; go_simp))
      exact A.meet 0 (by repeat (first | exact trivial | refine ⟨rfl, ?_⟩)) rfl
  rintro k w3 rfl
  repeat (first
    | (apply E.pv; (first | (apply Pv.auto; exact rfl) | ((first | apply Pv.add | apply Pv.sub | apply Pv.rem | apply Pv.quo) <;> first | exact rfl | omega) | (apply Pv.conv; exact rfl; (intro w; go_simp <;> first | exact rfl | exact ⟨rfl, rfl⟩); (first | exact wrapu64_id (by omega) (by omega) | exact wrap64_id (by omega) (by omega) | exact wrapu8_id (by omega) (by omega) | exact wrapu32_id (by omega) (by omega) | exact wrapu16_id (by omega) (by omega) | exact rfl)) | ((first | apply Pv.beq | apply Pv.bne); exact rfl; exact rfl; kernel_rfl) | ((first | apply Pv.fieldAddr | apply Pv.len | apply Pv.indexAddr | apply Pv.build | apply Pv.field | apply Pv.convert | apply Pv.addw | apply Pv.subw | apply Pv.mulw | apply Pv.binOp) <;> first | exact rfl | (intro w; go_simp <;> first | exact rfl | exact ⟨rfl, rfl⟩))))
    | (first | apply C.region_seq | apply E.nil | apply A.next | apply A.ret_then | apply A.exit_then | apply A.block_end | apply A.block_ret | apply A.block_exit | apply C.seq | apply C.region | apply C.skip | apply C.ret | apply C.exit)
    | (apply E.guard; exact rfl; exact rfl)
    | (apply E.passed; exact rfl; exact rfl; exact rfl)
    | ((first | apply A.block_other | apply C.cond_true); exact rfl)
    | (apply C.cond_false; exact rfl)
    | apply C.block
    | ((first | (apply E.cons; apply St.load hs) | apply St.load hs); exact rfl; (repeat (first | exact Fd.here | refine Fd.there ?_)); exact rfl; go_simp))
  refine C.cut (fun y : Int => [(0, .slice a0 n0 c0), (1, .slice a1 n1 c1), (2, .slice a2 n2 c2), (7, .pointer (some ⟨b, 0, none⟩)), (8, .slice la ls.length lc), (9, .int .i64 j), (10, .int .i64 k), (11, .int .i64 y)]) (fun y w => w = w3) ?_ ?_
  · refine C.cond_dec (p := (j : Int) < n2) rfl (fun hp => ?_) (fun hp => ?_)
    · obtain ⟨pb, po, rfl, hpl⟩ := pr_at h2 (show j < n2 by omega) (pick_any hl2 (by omega))
      repeat (first
        | (apply E.pv; (first | (apply Pv.auto; exact rfl) | ((first | apply Pv.add | apply Pv.sub | apply Pv.rem | apply Pv.quo) <;> first | exact rfl | omega) | (apply Pv.conv; exact rfl; (intro w; go_simp <;> first | exact rfl | exact ⟨rfl, rfl⟩); (first | exact wrapu64_id (by omega) (by omega) | exact wrap64_id (by omega) (by omega) | exact wrapu8_id (by omega) (by omega) | exact wrapu32_id (by omega) (by omega) | exact wrapu16_id (by omega) (by omega) | exact rfl)) | ((first | apply Pv.beq | apply Pv.bne); exact rfl; exact rfl; kernel_rfl) | ((first | apply Pv.fieldAddr | apply Pv.len | apply Pv.indexAddr | apply Pv.build | apply Pv.field | apply Pv.convert | apply Pv.addw | apply Pv.subw | apply Pv.mulw | apply Pv.binOp) <;> first | exact rfl | (intro w; go_simp <;> first | exact rfl | exact ⟨rfl, rfl⟩))))
        | (first | apply C.region_seq | apply E.nil | apply A.next | apply A.ret_then | apply A.exit_then | apply A.block_end | apply A.block_ret | apply A.block_exit | apply C.seq | apply C.region | apply C.skip | apply C.ret | apply C.exit)
        | (apply E.guard; exact rfl; exact rfl)
        | (apply E.passed; exact rfl; exact rfl; exact rfl)
        | ((first | apply A.block_other | apply C.cond_true); exact rfl)
        | (apply C.cond_false; exact rfl)
        | apply C.block
        | ((first | (apply E.cons; apply St.load hs) | apply St.load hs); exact rfl; (repeat (first | exact Fd.here | refine Fd.there ?_)); exact rfl; go_simp))
      apply E.cons
      apply St.loadc
      · exact rfl
      · exact hpl _ _ _ _ hg3 hs
      · go_simp
      repeat (first
        | (apply E.pv; (first | (apply Pv.auto; exact rfl) | ((first | apply Pv.add | apply Pv.sub | apply Pv.rem | apply Pv.quo) <;> first | exact rfl | omega) | (apply Pv.conv; exact rfl; (intro w; go_simp <;> first | exact rfl | exact ⟨rfl, rfl⟩); (first | exact wrapu64_id (by omega) (by omega) | exact wrap64_id (by omega) (by omega) | exact wrapu8_id (by omega) (by omega) | exact wrapu32_id (by omega) (by omega) | exact wrapu16_id (by omega) (by omega) | exact rfl)) | ((first | apply Pv.beq | apply Pv.bne); exact rfl; exact rfl; kernel_rfl) | ((first | apply Pv.fieldAddr | apply Pv.len | apply Pv.indexAddr | apply Pv.build | apply Pv.field | apply Pv.convert | apply Pv.addw | apply Pv.subw | apply Pv.mulw | apply Pv.binOp) <;> first | exact rfl | (intro w; go_simp <;> first | exact rfl | exact ⟨rfl, rfl⟩))))
        | (first | apply C.region_seq | apply E.nil | apply A.next | apply A.ret_then | apply A.exit_then | apply A.block_end | apply A.block_ret | apply A.block_exit | apply C.seq | apply C.region | apply C.skip | apply C.ret | apply C.exit)
        | (apply E.guard; exact rfl; exact rfl)
        | (apply E.passed; exact rfl; exact rfl; exact rfl)
        | ((first | apply A.block_other | apply C.cond_true); exact rfl)
        | (apply C.cond_false; exact rfl)
        | apply C.block
        | ((first | (apply E.cons; apply St.load hs) | apply St.load hs); exact rfl; (repeat (first | exact Fd.here | refine Fd.there ?_)); exact rfl; go_simp))
      exact A.meet _ (by repeat (first | exact trivial | refine ⟨rfl, ?_⟩)) rfl
    · repeat (first
        | (apply E.pv; (first | (apply Pv.auto; exact rfl) | ((first | apply Pv.add | apply Pv.sub | apply Pv.rem | apply Pv.quo) <;> first | exact rfl | omega) | (apply Pv.conv; exact rfl; (intro w; go_simp <;> first | exact rfl | exact ⟨rfl, rfl⟩); (first | exact wrapu64_id (by omega) (by omega) | exact wrap64_id (by omega) (by omega) | exact wrapu8_id (by omega) (by omega) | exact wrapu32_id (by omega) (by omega) | exact wrapu16_id (by omega) (by omega) | exact rfl)) | ((first | apply Pv.beq | apply Pv.bne); exact rfl; exact rfl; kernel_rfl) | ((first | apply Pv.fieldAddr | apply Pv.len | apply Pv.indexAddr | apply Pv.build | apply Pv.field | apply Pv.convert | apply Pv.addw | apply Pv.subw | apply Pv.mulw | apply Pv.binOp) <;> first | exact rfl | (intro w; go_simp <;> first | exact rfl | exact ⟨rfl, rfl⟩))))
        | (first | apply C.region_seq | apply E.nil | apply A.next | apply A.ret_then | apply A.exit_then | apply A.block_end | apply A.block_ret | apply A.block_exit | apply C.seq | apply C.region | apply C.skip | apply C.ret | apply C.exit)
        | (apply E.guard; exact rfl; exact rfl)
        | (apply E.passed; exact rfl; exact rfl; exact rfl)
        | ((first | apply A.block_other | apply C.cond_true); exact rfl)
        | (apply C.cond_false; exact rfl)
        | apply C.block
        | ((first | (apply E.cons; apply St.load hs) | apply St.load hs); exact rfl; (repeat (first | exact Fd.here | refine Fd.there ?_)); exact rfl; go_simp))
      exact A.meet 0 (by repeat (first | exact trivial | refine ⟨rfl, ?_⟩)) rfl
  rintro y w3 rfl
  repeat (first
    | (apply E.pv; (first | (apply Pv.auto; exact rfl) | ((first | apply Pv.add | apply Pv.sub | apply Pv.rem | apply Pv.quo) <;> first | exact rfl | omega) | (apply Pv.conv; exact rfl; (intro w; go_simp <;> first | exact rfl | exact ⟨rfl, rfl⟩); (first | exact wrapu64_id (by omega) (by omega) | exact wrap64_id (by omega) (by omega) | exact wrapu8_id (by omega) (by omega) | exact wrapu32_id (by omega) (by omega) | exact wrapu16_id (by omega) (by omega) | exact rfl)) | ((first | apply Pv.beq | apply Pv.bne); exact rfl; exact rfl; kernel_rfl) | ((first | apply Pv.fieldAddr | apply Pv.len | apply Pv.indexAddr | apply Pv.build | apply Pv.field | apply Pv.convert | apply Pv.addw | apply Pv.subw | apply Pv.mulw | apply Pv.binOp) <;> first | exact rfl | (intro w; go_simp <;> first | exact rfl | exact ⟨rfl, rfl⟩))))
    | (first | apply C.region_seq | apply E.nil | apply A.next | apply A.ret_then | apply A.exit_then | apply A.block_end | apply A.block_ret | apply A.block_exit | apply C.seq | apply C.region | apply C.skip | apply C.ret | apply C.exit)
    | (apply E.guard; exact rfl; exact rfl)
    | (apply E.passed; exact rfl; exact rfl; exact rfl)
    | ((first | apply A.block_other | apply C.cond_true); exact rfl)
    | (apply C.cond_false; exact rfl)
    | apply C.block
    | ((first | (apply E.cons; apply St.load hs) | apply St.load hs); exact rfl; (repeat (first | exact Fd.here | refine Fd.there ?_)); exact rfl; go_simp))
  refine C.cut (fun i : Int => [(0, .slice a0 n0 c0), (1, .slice a1 n1 c1), (2, .slice a2 n2 c2), (7, .pointer (some ⟨b, 0, none⟩)), (8, .slice la ls.length lc), (9, .int .i64 j), (10, .int .i64 k), (11, .int .i64 y), (12, .int .i64 i)])
    (fun i w => Sat W w g2 (post b (ls.map Ln.pk) :: own 43 4 (.slice la ls.length lc) ls.length (lnCells ls) :: H) ∧ (ls = [] ∧ i = -1 ∨ ∃ (m : Nat) (x : Ln), i = m ∧ idx k ls.length = m ∧ ls[m]? = some x)) ?_ ?_
  · refine C.cond_dec (p := (0 : Int) < ls.length) rfl (fun hp => ?_) (fun hp => ?_)
    · have hpos : 0 < ls.length := by omega
      have hil := idx_lt k hpos
      obtain ⟨x, hx⟩ : ∃ x, ls[idx k ls.length]? = some x := ⟨_, List.getElem?_eq_getElem hil⟩
      obtain ⟨lb, rfl⟩ : ∃ lb, la = some ⟨lb, 0, none⟩ := by
        obtain ⟨a, c, e, _, _, h | h⟩ := hs.swap.ownLen
        · simp only [Value.slice.injEq] at e
          obtain ⟨rfl, _, rfl⟩ := e
          subst h
          rcases hs.swap.owns.2 with ⟨_, e⟩ | ⟨_, _, _, e, _⟩
          · omega
          · cases e
        · simp only [Value.slice.injEq] at e
          obtain ⟨rfl, _, rfl⟩ := e
          exact h
      have hw : IntKind.i64.wrap ((IntKind.u64.wrap k).tmod ls.length) = (idx k ls.length : Int) := by
        have := idx_wrap k hpos (show ls.length ≤ 9223372036854775807 by omega)
        rw [← this, IntKind.wrap_i64]
        unfold wrap64
        rfl
      have hml : (ls.map Ln.pk).length = ls.length := List.length_map _
      repeat (first
        | (apply E.pv; (first | (apply Pv.auto; exact rfl) | ((first | apply Pv.add | apply Pv.sub | apply Pv.rem | apply Pv.quo) <;> first | exact rfl | omega) | (apply Pv.conv; exact rfl; (intro w; go_simp <;> first | exact rfl | exact ⟨rfl, rfl⟩); (first | exact wrapu64_id (by omega) (by omega) | exact wrap64_id (by omega) (by omega) | exact wrapu8_id (by omega) (by omega) | exact wrapu32_id (by omega) (by omega) | exact wrapu16_id (by omega) (by omega) | exact rfl)) | ((first | apply Pv.beq | apply Pv.bne); exact rfl; exact rfl; kernel_rfl) | ((first | apply Pv.fieldAddr | apply Pv.len | apply Pv.indexAddr | apply Pv.build | apply Pv.field | apply Pv.convert | apply Pv.addw | apply Pv.subw | apply Pv.mulw | apply Pv.binOp) <;> first | exact rfl | (intro w; go_simp <;> first | exact rfl | exact ⟨rfl, rfl⟩))))
        | (first | apply C.region_seq | apply E.nil | apply A.next | apply A.ret_then | apply A.exit_then | apply A.block_end | apply A.block_ret | apply A.block_exit | apply C.seq | apply C.region | apply C.skip | apply C.ret | apply C.exit)
        | (apply E.guard; exact rfl; exact rfl)
        | (apply E.passed; exact rfl; exact rfl; exact rfl)
        | ((first | apply A.block_other | apply C.cond_true); exact rfl)
        | (apply C.cond_false; exact rfl)
        | apply C.block
        | ((first | (apply E.cons; apply St.load hs) | apply St.load hs); exact rfl; (repeat (first | exact Fd.here | refine Fd.there ?_)); exact rfl; go_simp))
      apply E.call Try.func11 rfl rfl
      · exact rfl
      refine peek_some (k := idx k ls.length) (x := x.pk) hs (by rw [hml]) (by simp [hx]) (by omega) ?_
      intro w4 pa pc hs _
      repeat (first
        | (apply E.pv; (first | (apply Pv.auto; exact rfl) | ((first | apply Pv.add | apply Pv.sub | apply Pv.rem | apply Pv.quo) <;> first | exact rfl | omega) | (apply Pv.conv; exact rfl; (intro w; go_simp <;> first | exact rfl | exact ⟨rfl, rfl⟩); (first | exact wrapu64_id (by omega) (by omega) | exact wrap64_id (by omega) (by omega) | exact wrapu8_id (by omega) (by omega) | exact wrapu32_id (by omega) (by omega) | exact wrapu16_id (by omega) (by omega) | exact rfl)) | ((first | apply Pv.beq | apply Pv.bne); exact rfl; exact rfl; kernel_rfl) | ((first | apply Pv.fieldAddr | apply Pv.len | apply Pv.indexAddr | apply Pv.build | apply Pv.field | apply Pv.convert | apply Pv.addw | apply Pv.subw | apply Pv.mulw | apply Pv.binOp) <;> first | exact rfl | (intro w; go_simp <;> first | exact rfl | exact ⟨rfl, rfl⟩))))
        | (first | apply C.region_seq | apply E.nil | apply A.next | apply A.ret_then | apply A.exit_then | apply A.block_end | apply A.block_ret | apply A.block_exit | apply C.seq | apply C.region | apply C.skip | apply C.ret | apply C.exit)
        | (apply E.guard; exact rfl; exact rfl)
        | (apply E.passed; exact rfl; exact rfl; exact rfl)
        | ((first | apply A.block_other | apply C.cond_true); exact rfl)
        | (apply C.cond_false; exact rfl)
        | apply C.block
        | ((first | (apply E.cons; apply St.load hs) | apply St.load hs); exact rfl; (repeat (first | exact Fd.here | refine Fd.there ?_)); exact rfl; go_simp))
      apply E.cons
      apply St.alloc hs
      · go_simp
        first | exact rfl | exact ⟨rfl, rfl⟩
      · exact rfl
      intro b2 w5 hs
      repeat (first
        | (apply E.pv; (first | (apply Pv.auto; exact rfl) | ((first | apply Pv.add | apply Pv.sub | apply Pv.rem | apply Pv.quo) <;> first | exact rfl | omega) | (apply Pv.conv; exact rfl; (intro w; go_simp <;> first | exact rfl | exact ⟨rfl, rfl⟩); (first | exact wrapu64_id (by omega) (by omega) | exact wrap64_id (by omega) (by omega) | exact wrapu8_id (by omega) (by omega) | exact wrapu32_id (by omega) (by omega) | exact wrapu16_id (by omega) (by omega) | exact rfl)) | ((first | apply Pv.beq | apply Pv.bne); exact rfl; exact rfl; kernel_rfl) | ((first | apply Pv.fieldAddr | apply Pv.len | apply Pv.indexAddr | apply Pv.build | apply Pv.field | apply Pv.convert | apply Pv.addw | apply Pv.subw | apply Pv.mulw | apply Pv.binOp) <;> first | exact rfl | (intro w; go_simp <;> first | exact rfl | exact ⟨rfl, rfl⟩))))
        | (first | apply C.region_seq | apply E.nil | apply A.next | apply A.ret_then | apply A.exit_then | apply A.block_end | apply A.block_ret | apply A.block_exit | apply C.seq | apply C.region | apply C.skip | apply C.ret | apply C.exit)
        | (apply E.guard; exact rfl; exact rfl)
        | (apply E.passed; exact rfl; exact rfl; exact rfl)
        | ((first | apply A.block_other | apply C.cond_true); exact rfl)
        | (apply C.cond_false; exact rfl)
        | apply C.block
        | ((first | (apply E.cons; apply St.load hs) | apply St.load hs); exact rfl; (repeat (first | exact Fd.here | refine Fd.there ?_)); exact rfl; go_simp))
      apply E.cons
      apply St.store hs
      · exact rfl
      · exact rfl
      · exact rfl
      · exact (by repeat (first | exact Up.here | refine Up.there ?_))
      · exact rfl
      · exact rfl
      · go_simp
      intro w6 hs
      repeat (first
        | (apply E.pv; (first | (apply Pv.auto; exact rfl) | ((first | apply Pv.add | apply Pv.sub | apply Pv.rem | apply Pv.quo) <;> first | exact rfl | omega) | (apply Pv.conv; exact rfl; (intro w; go_simp <;> first | exact rfl | exact ⟨rfl, rfl⟩); (first | exact wrapu64_id (by omega) (by omega) | exact wrap64_id (by omega) (by omega) | exact wrapu8_id (by omega) (by omega) | exact wrapu32_id (by omega) (by omega) | exact wrapu16_id (by omega) (by omega) | exact rfl)) | ((first | apply Pv.beq | apply Pv.bne); exact rfl; exact rfl; kernel_rfl) | ((first | apply Pv.fieldAddr | apply Pv.len | apply Pv.indexAddr | apply Pv.build | apply Pv.field | apply Pv.convert | apply Pv.addw | apply Pv.subw | apply Pv.mulw | apply Pv.binOp) <;> first | exact rfl | (intro w; go_simp <;> first | exact rfl | exact ⟨rfl, rfl⟩))))
        | (first | apply C.region_seq | apply E.nil | apply A.next | apply A.ret_then | apply A.exit_then | apply A.block_end | apply A.block_ret | apply A.block_exit | apply C.seq | apply C.region | apply C.skip | apply C.ret | apply C.exit)
        | (apply E.guard; exact rfl; exact rfl)
        | (apply E.passed; exact rfl; exact rfl; exact rfl)
        | ((first | apply A.block_other | apply C.cond_true); exact rfl)
        | (apply C.cond_false; exact rfl)
        | apply C.block
        | ((first | (apply E.cons; apply St.load hs) | apply St.load hs); exact rfl; (repeat (first | exact Fd.here | refine Fd.there ?_)); exact rfl; go_simp))
      apply C.any hs
      · kernel_rfl
      intro w7 hs
      repeat (first
        | (apply EA.take 0; decide +kernel; exact rfl; kernel_rfl; decide +kernel; exact fun _ _ _ _ h => h; (first | (apply Pg.off; exact rfl) | (apply Pg.any; exact rfl; (first | (apply Pv.auto; exact rfl) | ((first | apply Pv.add | apply Pv.sub | apply Pv.rem | apply Pv.quo) <;> first | exact rfl | omega) | (apply Pv.conv; exact rfl; (intro w; go_simp <;> first | exact rfl | exact ⟨rfl, rfl⟩); (first | exact wrapu64_id (by omega) (by omega) | exact wrap64_id (by omega) (by omega) | exact wrapu8_id (by omega) (by omega) | exact wrapu32_id (by omega) (by omega) | exact wrapu16_id (by omega) (by omega) | exact rfl)) | ((first | apply Pv.beq | apply Pv.bne); exact rfl; exact rfl; kernel_rfl) | ((first | apply Pv.fieldAddr | apply Pv.len | apply Pv.indexAddr | apply Pv.build | apply Pv.field | apply Pv.convert | apply Pv.addw | apply Pv.subw | apply Pv.mulw | apply Pv.binOp) <;> first | exact rfl | (intro w; go_simp <;> first | exact rfl | exact ⟨rfl, rfl⟩))))))
        | (apply EA.take 1; decide +kernel; exact rfl; kernel_rfl; decide +kernel; exact fun _ _ _ _ h => h; (first | (apply Pg.off; exact rfl) | (apply Pg.any; exact rfl; (first | (apply Pv.auto; exact rfl) | ((first | apply Pv.add | apply Pv.sub | apply Pv.rem | apply Pv.quo) <;> first | exact rfl | omega) | (apply Pv.conv; exact rfl; (intro w; go_simp <;> first | exact rfl | exact ⟨rfl, rfl⟩); (first | exact wrapu64_id (by omega) (by omega) | exact wrap64_id (by omega) (by omega) | exact wrapu8_id (by omega) (by omega) | exact wrapu32_id (by omega) (by omega) | exact wrapu16_id (by omega) (by omega) | exact rfl)) | ((first | apply Pv.beq | apply Pv.bne); exact rfl; exact rfl; kernel_rfl) | ((first | apply Pv.fieldAddr | apply Pv.len | apply Pv.indexAddr | apply Pv.build | apply Pv.field | apply Pv.convert | apply Pv.addw | apply Pv.subw | apply Pv.mulw | apply Pv.binOp) <;> first | exact rfl | (intro w; go_simp <;> first | exact rfl | exact ⟨rfl, rfl⟩))))))
        | (apply EA.take 2; decide +kernel; exact rfl; kernel_rfl; decide +kernel; exact fun _ _ _ _ h => h; (first | (apply Pg.off; exact rfl) | (apply Pg.any; exact rfl; (first | (apply Pv.auto; exact rfl) | ((first | apply Pv.add | apply Pv.sub | apply Pv.rem | apply Pv.quo) <;> first | exact rfl | omega) | (apply Pv.conv; exact rfl; (intro w; go_simp <;> first | exact rfl | exact ⟨rfl, rfl⟩); (first | exact wrapu64_id (by omega) (by omega) | exact wrap64_id (by omega) (by omega) | exact wrapu8_id (by omega) (by omega) | exact wrapu32_id (by omega) (by omega) | exact wrapu16_id (by omega) (by omega) | exact rfl)) | ((first | apply Pv.beq | apply Pv.bne); exact rfl; exact rfl; kernel_rfl) | ((first | apply Pv.fieldAddr | apply Pv.len | apply Pv.indexAddr | apply Pv.build | apply Pv.field | apply Pv.convert | apply Pv.addw | apply Pv.subw | apply Pv.mulw | apply Pv.binOp) <;> first | exact rfl | (intro w; go_simp <;> first | exact rfl | exact ⟨rfl, rfl⟩))))))
        | (apply EA.take 3; decide +kernel; exact rfl; kernel_rfl; decide +kernel; exact fun _ _ _ _ h => h; (first | (apply Pg.off; exact rfl) | (apply Pg.any; exact rfl; (first | (apply Pv.auto; exact rfl) | ((first | apply Pv.add | apply Pv.sub | apply Pv.rem | apply Pv.quo) <;> first | exact rfl | omega) | (apply Pv.conv; exact rfl; (intro w; go_simp <;> first | exact rfl | exact ⟨rfl, rfl⟩); (first | exact wrapu64_id (by omega) (by omega) | exact wrap64_id (by omega) (by omega) | exact wrapu8_id (by omega) (by omega) | exact wrapu32_id (by omega) (by omega) | exact wrapu16_id (by omega) (by omega) | exact rfl)) | ((first | apply Pv.beq | apply Pv.bne); exact rfl; exact rfl; kernel_rfl) | ((first | apply Pv.fieldAddr | apply Pv.len | apply Pv.indexAddr | apply Pv.build | apply Pv.field | apply Pv.convert | apply Pv.addw | apply Pv.subw | apply Pv.mulw | apply Pv.binOp) <;> first | exact rfl | (intro w; go_simp <;> first | exact rfl | exact ⟨rfl, rfl⟩))))))
        | (apply EA.take 4; decide +kernel; exact rfl; kernel_rfl; decide +kernel; exact fun _ _ _ _ h => h; (first | (apply Pg.off; exact rfl) | (apply Pg.any; exact rfl; (first | (apply Pv.auto; exact rfl) | ((first | apply Pv.add | apply Pv.sub | apply Pv.rem | apply Pv.quo) <;> first | exact rfl | omega) | (apply Pv.conv; exact rfl; (intro w; go_simp <;> first | exact rfl | exact ⟨rfl, rfl⟩); (first | exact wrapu64_id (by omega) (by omega) | exact wrap64_id (by omega) (by omega) | exact wrapu8_id (by omega) (by omega) | exact wrapu32_id (by omega) (by omega) | exact wrapu16_id (by omega) (by omega) | exact rfl)) | ((first | apply Pv.beq | apply Pv.bne); exact rfl; exact rfl; kernel_rfl) | ((first | apply Pv.fieldAddr | apply Pv.len | apply Pv.indexAddr | apply Pv.build | apply Pv.field | apply Pv.convert | apply Pv.addw | apply Pv.subw | apply Pv.mulw | apply Pv.binOp) <;> first | exact rfl | (intro w; go_simp <;> first | exact rfl | exact ⟨rfl, rfl⟩))))))
        | (apply EA.take 5; decide +kernel; exact rfl; kernel_rfl; decide +kernel; exact fun _ _ _ _ h => h; (first | (apply Pg.off; exact rfl) | (apply Pg.any; exact rfl; (first | (apply Pv.auto; exact rfl) | ((first | apply Pv.add | apply Pv.sub | apply Pv.rem | apply Pv.quo) <;> first | exact rfl | omega) | (apply Pv.conv; exact rfl; (intro w; go_simp <;> first | exact rfl | exact ⟨rfl, rfl⟩); (first | exact wrapu64_id (by omega) (by omega) | exact wrap64_id (by omega) (by omega) | exact wrapu8_id (by omega) (by omega) | exact wrapu32_id (by omega) (by omega) | exact wrapu16_id (by omega) (by omega) | exact rfl)) | ((first | apply Pv.beq | apply Pv.bne); exact rfl; exact rfl; kernel_rfl) | ((first | apply Pv.fieldAddr | apply Pv.len | apply Pv.indexAddr | apply Pv.build | apply Pv.field | apply Pv.convert | apply Pv.addw | apply Pv.subw | apply Pv.mulw | apply Pv.binOp) <;> first | exact rfl | (intro w; go_simp <;> first | exact rfl | exact ⟨rfl, rfl⟩))))))
        | (apply EA.take 6; decide +kernel; exact rfl; kernel_rfl; decide +kernel; exact fun _ _ _ _ h => h; (first | (apply Pg.off; exact rfl) | (apply Pg.any; exact rfl; (first | (apply Pv.auto; exact rfl) | ((first | apply Pv.add | apply Pv.sub | apply Pv.rem | apply Pv.quo) <;> first | exact rfl | omega) | (apply Pv.conv; exact rfl; (intro w; go_simp <;> first | exact rfl | exact ⟨rfl, rfl⟩); (first | exact wrapu64_id (by omega) (by omega) | exact wrap64_id (by omega) (by omega) | exact wrapu8_id (by omega) (by omega) | exact wrapu32_id (by omega) (by omega) | exact wrapu16_id (by omega) (by omega) | exact rfl)) | ((first | apply Pv.beq | apply Pv.bne); exact rfl; exact rfl; kernel_rfl) | ((first | apply Pv.fieldAddr | apply Pv.len | apply Pv.indexAddr | apply Pv.build | apply Pv.field | apply Pv.convert | apply Pv.addw | apply Pv.subw | apply Pv.mulw | apply Pv.binOp) <;> first | exact rfl | (intro w; go_simp <;> first | exact rfl | exact ⟨rfl, rfl⟩))))))
        | (apply EA.take 7; decide +kernel; exact rfl; kernel_rfl; decide +kernel; exact fun _ _ _ _ h => h; (first | (apply Pg.off; exact rfl) | (apply Pg.any; exact rfl; (first | (apply Pv.auto; exact rfl) | ((first | apply Pv.add | apply Pv.sub | apply Pv.rem | apply Pv.quo) <;> first | exact rfl | omega) | (apply Pv.conv; exact rfl; (intro w; go_simp <;> first | exact rfl | exact ⟨rfl, rfl⟩); (first | exact wrapu64_id (by omega) (by omega) | exact wrap64_id (by omega) (by omega) | exact wrapu8_id (by omega) (by omega) | exact wrapu32_id (by omega) (by omega) | exact wrapu16_id (by omega) (by omega) | exact rfl)) | ((first | apply Pv.beq | apply Pv.bne); exact rfl; exact rfl; kernel_rfl) | ((first | apply Pv.fieldAddr | apply Pv.len | apply Pv.indexAddr | apply Pv.build | apply Pv.field | apply Pv.convert | apply Pv.addw | apply Pv.subw | apply Pv.mulw | apply Pv.binOp) <;> first | exact rfl | (intro w; go_simp <;> first | exact rfl | exact ⟨rfl, rfl⟩))))))
        | (apply EA.take 8; decide +kernel; exact rfl; kernel_rfl; decide +kernel; exact fun _ _ _ _ h => h; (first | (apply Pg.off; exact rfl) | (apply Pg.any; exact rfl; (first | (apply Pv.auto; exact rfl) | ((first | apply Pv.add | apply Pv.sub | apply Pv.rem | apply Pv.quo) <;> first | exact rfl | omega) | (apply Pv.conv; exact rfl; (intro w; go_simp <;> first | exact rfl | exact ⟨rfl, rfl⟩); (first | exact wrapu64_id (by omega) (by omega) | exact wrap64_id (by omega) (by omega) | exact wrapu8_id (by omega) (by omega) | exact wrapu32_id (by omega) (by omega) | exact wrapu16_id (by omega) (by omega) | exact rfl)) | ((first | apply Pv.beq | apply Pv.bne); exact rfl; exact rfl; kernel_rfl) | ((first | apply Pv.fieldAddr | apply Pv.len | apply Pv.indexAddr | apply Pv.build | apply Pv.field | apply Pv.convert | apply Pv.addw | apply Pv.subw | apply Pv.mulw | apply Pv.binOp) <;> first | exact rfl | (intro w; go_simp <;> first | exact rfl | exact ⟨rfl, rfl⟩))))))
        | (apply EA.take 9; decide +kernel; exact rfl; kernel_rfl; decide +kernel; exact fun _ _ _ _ h => h; (first | (apply Pg.off; exact rfl) | (apply Pg.any; exact rfl; (first | (apply Pv.auto; exact rfl) | ((first | apply Pv.add | apply Pv.sub | apply Pv.rem | apply Pv.quo) <;> first | exact rfl | omega) | (apply Pv.conv; exact rfl; (intro w; go_simp <;> first | exact rfl | exact ⟨rfl, rfl⟩); (first | exact wrapu64_id (by omega) (by omega) | exact wrap64_id (by omega) (by omega) | exact wrapu8_id (by omega) (by omega) | exact wrapu32_id (by omega) (by omega) | exact wrapu16_id (by omega) (by omega) | exact rfl)) | ((first | apply Pv.beq | apply Pv.bne); exact rfl; exact rfl; kernel_rfl) | ((first | apply Pv.fieldAddr | apply Pv.len | apply Pv.indexAddr | apply Pv.build | apply Pv.field | apply Pv.convert | apply Pv.addw | apply Pv.subw | apply Pv.mulw | apply Pv.binOp) <;> first | exact rfl | (intro w; go_simp <;> first | exact rfl | exact ⟨rfl, rfl⟩))))))
        | (apply EA.take 10; decide +kernel; exact rfl; kernel_rfl; decide +kernel; exact fun _ _ _ _ h => h; (first | (apply Pg.off; exact rfl) | (apply Pg.any; exact rfl; (first | (apply Pv.auto; exact rfl) | ((first | apply Pv.add | apply Pv.sub | apply Pv.rem | apply Pv.quo) <;> first | exact rfl | omega) | (apply Pv.conv; exact rfl; (intro w; go_simp <;> first | exact rfl | exact ⟨rfl, rfl⟩); (first | exact wrapu64_id (by omega) (by omega) | exact wrap64_id (by omega) (by omega) | exact wrapu8_id (by omega) (by omega) | exact wrapu32_id (by omega) (by omega) | exact wrapu16_id (by omega) (by omega) | exact rfl)) | ((first | apply Pv.beq | apply Pv.bne); exact rfl; exact rfl; kernel_rfl) | ((first | apply Pv.fieldAddr | apply Pv.len | apply Pv.indexAddr | apply Pv.build | apply Pv.field | apply Pv.convert | apply Pv.addw | apply Pv.subw | apply Pv.mulw | apply Pv.binOp) <;> first | exact rfl | (intro w; go_simp <;> first | exact rfl | exact ⟨rfl, rfl⟩))))))
        | (apply EA.take 11; decide +kernel; exact rfl; kernel_rfl; decide +kernel; exact fun _ _ _ _ h => h; (first | (apply Pg.off; exact rfl) | (apply Pg.any; exact rfl; (first | (apply Pv.auto; exact rfl) | ((first | apply Pv.add | apply Pv.sub | apply Pv.rem | apply Pv.quo) <;> first | exact rfl | omega) | (apply Pv.conv; exact rfl; (intro w; go_simp <;> first | exact rfl | exact ⟨rfl, rfl⟩); (first | exact wrapu64_id (by omega) (by omega) | exact wrap64_id (by omega) (by omega) | exact wrapu8_id (by omega) (by omega) | exact wrapu32_id (by omega) (by omega) | exact wrapu16_id (by omega) (by omega) | exact rfl)) | ((first | apply Pv.beq | apply Pv.bne); exact rfl; exact rfl; kernel_rfl) | ((first | apply Pv.fieldAddr | apply Pv.len | apply Pv.indexAddr | apply Pv.build | apply Pv.field | apply Pv.convert | apply Pv.addw | apply Pv.subw | apply Pv.mulw | apply Pv.binOp) <;> first | exact rfl | (intro w; go_simp <;> first | exact rfl | exact ⟨rfl, rfl⟩)))))))
      apply EA.two 3 7
      · decide +kernel
      · exact rfl
      · exact rfl
      · apply St.guard
        · exact rfl
        · exact rfl
        apply St.loada hs
        · exact rfl
        · exact (by repeat (first | exact Fd.here | refine Fd.there ?_))
        · exact agg_pk
        · exact rfl
        apply EA.one 7
        · decide +kernel
        · exact rfl
        apply St.guard
        · exact rfl
        · exact rfl
        apply St.loads
        · exact rfl
        · exact ld_ln hs.pull3 hx
        apply EA.one 8
        · decide +kernel
        · exact rfl
        apply St.guard
        · exact rfl
        · exact rfl
        apply St.call Try.func12 rfl rfl
        · exact rfl
        refine same_true x hs (Row.of_owns (D := fun _ => True) hs.swap.owns (fun _ _ => trivial)) (hlt x (List.mem_of_getElem? hx)) ?_
        intro w8 hs
        repeat (first
          | (apply EA.take 0; decide +kernel; exact rfl; kernel_rfl; decide +kernel; exact fun _ _ _ _ h => h; (first | (apply Pg.off; exact rfl) | (apply Pg.any; exact rfl; (first | (apply Pv.auto; exact rfl) | ((first | apply Pv.add | apply Pv.sub | apply Pv.rem | apply Pv.quo) <;> first | exact rfl | omega) | (apply Pv.conv; exact rfl; (intro w; go_simp <;> first | exact rfl | exact ⟨rfl, rfl⟩); (first | exact wrapu64_id (by omega) (by omega) | exact wrap64_id (by omega) (by omega) | exact wrapu8_id (by omega) (by omega) | exact wrapu32_id (by omega) (by omega) | exact wrapu16_id (by omega) (by omega) | exact rfl)) | ((first | apply Pv.beq | apply Pv.bne); exact rfl; exact rfl; kernel_rfl) | ((first | apply Pv.fieldAddr | apply Pv.len | apply Pv.indexAddr | apply Pv.build | apply Pv.field | apply Pv.convert | apply Pv.addw | apply Pv.subw | apply Pv.mulw | apply Pv.binOp) <;> first | exact rfl | (intro w; go_simp <;> first | exact rfl | exact ⟨rfl, rfl⟩))))))
          | (apply EA.take 1; decide +kernel; exact rfl; kernel_rfl; decide +kernel; exact fun _ _ _ _ h => h; (first | (apply Pg.off; exact rfl) | (apply Pg.any; exact rfl; (first | (apply Pv.auto; exact rfl) | ((first | apply Pv.add | apply Pv.sub | apply Pv.rem | apply Pv.quo) <;> first | exact rfl | omega) | (apply Pv.conv; exact rfl; (intro w; go_simp <;> first | exact rfl | exact ⟨rfl, rfl⟩); (first | exact wrapu64_id (by omega) (by omega) | exact wrap64_id (by omega) (by omega) | exact wrapu8_id (by omega) (by omega) | exact wrapu32_id (by omega) (by omega) | exact wrapu16_id (by omega) (by omega) | exact rfl)) | ((first | apply Pv.beq | apply Pv.bne); exact rfl; exact rfl; kernel_rfl) | ((first | apply Pv.fieldAddr | apply Pv.len | apply Pv.indexAddr | apply Pv.build | apply Pv.field | apply Pv.convert | apply Pv.addw | apply Pv.subw | apply Pv.mulw | apply Pv.binOp) <;> first | exact rfl | (intro w; go_simp <;> first | exact rfl | exact ⟨rfl, rfl⟩))))))
          | (apply EA.take 2; decide +kernel; exact rfl; kernel_rfl; decide +kernel; exact fun _ _ _ _ h => h; (first | (apply Pg.off; exact rfl) | (apply Pg.any; exact rfl; (first | (apply Pv.auto; exact rfl) | ((first | apply Pv.add | apply Pv.sub | apply Pv.rem | apply Pv.quo) <;> first | exact rfl | omega) | (apply Pv.conv; exact rfl; (intro w; go_simp <;> first | exact rfl | exact ⟨rfl, rfl⟩); (first | exact wrapu64_id (by omega) (by omega) | exact wrap64_id (by omega) (by omega) | exact wrapu8_id (by omega) (by omega) | exact wrapu32_id (by omega) (by omega) | exact wrapu16_id (by omega) (by omega) | exact rfl)) | ((first | apply Pv.beq | apply Pv.bne); exact rfl; exact rfl; kernel_rfl) | ((first | apply Pv.fieldAddr | apply Pv.len | apply Pv.indexAddr | apply Pv.build | apply Pv.field | apply Pv.convert | apply Pv.addw | apply Pv.subw | apply Pv.mulw | apply Pv.binOp) <;> first | exact rfl | (intro w; go_simp <;> first | exact rfl | exact ⟨rfl, rfl⟩))))))
          | (apply EA.take 3; decide +kernel; exact rfl; kernel_rfl; decide +kernel; exact fun _ _ _ _ h => h; (first | (apply Pg.off; exact rfl) | (apply Pg.any; exact rfl; (first | (apply Pv.auto; exact rfl) | ((first | apply Pv.add | apply Pv.sub | apply Pv.rem | apply Pv.quo) <;> first | exact rfl | omega) | (apply Pv.conv; exact rfl; (intro w; go_simp <;> first | exact rfl | exact ⟨rfl, rfl⟩); (first | exact wrapu64_id (by omega) (by omega) | exact wrap64_id (by omega) (by omega) | exact wrapu8_id (by omega) (by omega) | exact wrapu32_id (by omega) (by omega) | exact wrapu16_id (by omega) (by omega) | exact rfl)) | ((first | apply Pv.beq | apply Pv.bne); exact rfl; exact rfl; kernel_rfl) | ((first | apply Pv.fieldAddr | apply Pv.len | apply Pv.indexAddr | apply Pv.build | apply Pv.field | apply Pv.convert | apply Pv.addw | apply Pv.subw | apply Pv.mulw | apply Pv.binOp) <;> first | exact rfl | (intro w; go_simp <;> first | exact rfl | exact ⟨rfl, rfl⟩))))))
          | (apply EA.take 4; decide +kernel; exact rfl; kernel_rfl; decide +kernel; exact fun _ _ _ _ h => h; (first | (apply Pg.off; exact rfl) | (apply Pg.any; exact rfl; (first | (apply Pv.auto; exact rfl) | ((first | apply Pv.add | apply Pv.sub | apply Pv.rem | apply Pv.quo) <;> first | exact rfl | omega) | (apply Pv.conv; exact rfl; (intro w; go_simp <;> first | exact rfl | exact ⟨rfl, rfl⟩); (first | exact wrapu64_id (by omega) (by omega) | exact wrap64_id (by omega) (by omega) | exact wrapu8_id (by omega) (by omega) | exact wrapu32_id (by omega) (by omega) | exact wrapu16_id (by omega) (by omega) | exact rfl)) | ((first | apply Pv.beq | apply Pv.bne); exact rfl; exact rfl; kernel_rfl) | ((first | apply Pv.fieldAddr | apply Pv.len | apply Pv.indexAddr | apply Pv.build | apply Pv.field | apply Pv.convert | apply Pv.addw | apply Pv.subw | apply Pv.mulw | apply Pv.binOp) <;> first | exact rfl | (intro w; go_simp <;> first | exact rfl | exact ⟨rfl, rfl⟩))))))
          | (apply EA.take 5; decide +kernel; exact rfl; kernel_rfl; decide +kernel; exact fun _ _ _ _ h => h; (first | (apply Pg.off; exact rfl) | (apply Pg.any; exact rfl; (first | (apply Pv.auto; exact rfl) | ((first | apply Pv.add | apply Pv.sub | apply Pv.rem | apply Pv.quo) <;> first | exact rfl | omega) | (apply Pv.conv; exact rfl; (intro w; go_simp <;> first | exact rfl | exact ⟨rfl, rfl⟩); (first | exact wrapu64_id (by omega) (by omega) | exact wrap64_id (by omega) (by omega) | exact wrapu8_id (by omega) (by omega) | exact wrapu32_id (by omega) (by omega) | exact wrapu16_id (by omega) (by omega) | exact rfl)) | ((first | apply Pv.beq | apply Pv.bne); exact rfl; exact rfl; kernel_rfl) | ((first | apply Pv.fieldAddr | apply Pv.len | apply Pv.indexAddr | apply Pv.build | apply Pv.field | apply Pv.convert | apply Pv.addw | apply Pv.subw | apply Pv.mulw | apply Pv.binOp) <;> first | exact rfl | (intro w; go_simp <;> first | exact rfl | exact ⟨rfl, rfl⟩))))))
          | (apply EA.take 6; decide +kernel; exact rfl; kernel_rfl; decide +kernel; exact fun _ _ _ _ h => h; (first | (apply Pg.off; exact rfl) | (apply Pg.any; exact rfl; (first | (apply Pv.auto; exact rfl) | ((first | apply Pv.add | apply Pv.sub | apply Pv.rem | apply Pv.quo) <;> first | exact rfl | omega) | (apply Pv.conv; exact rfl; (intro w; go_simp <;> first | exact rfl | exact ⟨rfl, rfl⟩); (first | exact wrapu64_id (by omega) (by omega) | exact wrap64_id (by omega) (by omega) | exact wrapu8_id (by omega) (by omega) | exact wrapu32_id (by omega) (by omega) | exact wrapu16_id (by omega) (by omega) | exact rfl)) | ((first | apply Pv.beq | apply Pv.bne); exact rfl; exact rfl; kernel_rfl) | ((first | apply Pv.fieldAddr | apply Pv.len | apply Pv.indexAddr | apply Pv.build | apply Pv.field | apply Pv.convert | apply Pv.addw | apply Pv.subw | apply Pv.mulw | apply Pv.binOp) <;> first | exact rfl | (intro w; go_simp <;> first | exact rfl | exact ⟨rfl, rfl⟩))))))
          | (apply EA.take 7; decide +kernel; exact rfl; kernel_rfl; decide +kernel; exact fun _ _ _ _ h => h; (first | (apply Pg.off; exact rfl) | (apply Pg.any; exact rfl; (first | (apply Pv.auto; exact rfl) | ((first | apply Pv.add | apply Pv.sub | apply Pv.rem | apply Pv.quo) <;> first | exact rfl | omega) | (apply Pv.conv; exact rfl; (intro w; go_simp <;> first | exact rfl | exact ⟨rfl, rfl⟩); (first | exact wrapu64_id (by omega) (by omega) | exact wrap64_id (by omega) (by omega) | exact wrapu8_id (by omega) (by omega) | exact wrapu32_id (by omega) (by omega) | exact wrapu16_id (by omega) (by omega) | exact rfl)) | ((first | apply Pv.beq | apply Pv.bne); exact rfl; exact rfl; kernel_rfl) | ((first | apply Pv.fieldAddr | apply Pv.len | apply Pv.indexAddr | apply Pv.build | apply Pv.field | apply Pv.convert | apply Pv.addw | apply Pv.subw | apply Pv.mulw | apply Pv.binOp) <;> first | exact rfl | (intro w; go_simp <;> first | exact rfl | exact ⟨rfl, rfl⟩))))))
          | (apply EA.take 8; decide +kernel; exact rfl; kernel_rfl; decide +kernel; exact fun _ _ _ _ h => h; (first | (apply Pg.off; exact rfl) | (apply Pg.any; exact rfl; (first | (apply Pv.auto; exact rfl) | ((first | apply Pv.add | apply Pv.sub | apply Pv.rem | apply Pv.quo) <;> first | exact rfl | omega) | (apply Pv.conv; exact rfl; (intro w; go_simp <;> first | exact rfl | exact ⟨rfl, rfl⟩); (first | exact wrapu64_id (by omega) (by omega) | exact wrap64_id (by omega) (by omega) | exact wrapu8_id (by omega) (by omega) | exact wrapu32_id (by omega) (by omega) | exact wrapu16_id (by omega) (by omega) | exact rfl)) | ((first | apply Pv.beq | apply Pv.bne); exact rfl; exact rfl; kernel_rfl) | ((first | apply Pv.fieldAddr | apply Pv.len | apply Pv.indexAddr | apply Pv.build | apply Pv.field | apply Pv.convert | apply Pv.addw | apply Pv.subw | apply Pv.mulw | apply Pv.binOp) <;> first | exact rfl | (intro w; go_simp <;> first | exact rfl | exact ⟨rfl, rfl⟩))))))
          | (apply EA.take 9; decide +kernel; exact rfl; kernel_rfl; decide +kernel; exact fun _ _ _ _ h => h; (first | (apply Pg.off; exact rfl) | (apply Pg.any; exact rfl; (first | (apply Pv.auto; exact rfl) | ((first | apply Pv.add | apply Pv.sub | apply Pv.rem | apply Pv.quo) <;> first | exact rfl | omega) | (apply Pv.conv; exact rfl; (intro w; go_simp <;> first | exact rfl | exact ⟨rfl, rfl⟩); (first | exact wrapu64_id (by omega) (by omega) | exact wrap64_id (by omega) (by omega) | exact wrapu8_id (by omega) (by omega) | exact wrapu32_id (by omega) (by omega) | exact wrapu16_id (by omega) (by omega) | exact rfl)) | ((first | apply Pv.beq | apply Pv.bne); exact rfl; exact rfl; kernel_rfl) | ((first | apply Pv.fieldAddr | apply Pv.len | apply Pv.indexAddr | apply Pv.build | apply Pv.field | apply Pv.convert | apply Pv.addw | apply Pv.subw | apply Pv.mulw | apply Pv.binOp) <;> first | exact rfl | (intro w; go_simp <;> first | exact rfl | exact ⟨rfl, rfl⟩))))))
          | (apply EA.take 10; decide +kernel; exact rfl; kernel_rfl; decide +kernel; exact fun _ _ _ _ h => h; (first | (apply Pg.off; exact rfl) | (apply Pg.any; exact rfl; (first | (apply Pv.auto; exact rfl) | ((first | apply Pv.add | apply Pv.sub | apply Pv.rem | apply Pv.quo) <;> first | exact rfl | omega) | (apply Pv.conv; exact rfl; (intro w; go_simp <;> first | exact rfl | exact ⟨rfl, rfl⟩); (first | exact wrapu64_id (by omega) (by omega) | exact wrap64_id (by omega) (by omega) | exact wrapu8_id (by omega) (by omega) | exact wrapu32_id (by omega) (by omega) | exact wrapu16_id (by omega) (by omega) | exact rfl)) | ((first | apply Pv.beq | apply Pv.bne); exact rfl; exact rfl; kernel_rfl) | ((first | apply Pv.fieldAddr | apply Pv.len | apply Pv.indexAddr | apply Pv.build | apply Pv.field | apply Pv.convert | apply Pv.addw | apply Pv.subw | apply Pv.mulw | apply Pv.binOp) <;> first | exact rfl | (intro w; go_simp <;> first | exact rfl | exact ⟨rfl, rfl⟩))))))
          | (apply EA.take 11; decide +kernel; exact rfl; kernel_rfl; decide +kernel; exact fun _ _ _ _ h => h; (first | (apply Pg.off; exact rfl) | (apply Pg.any; exact rfl; (first | (apply Pv.auto; exact rfl) | ((first | apply Pv.add | apply Pv.sub | apply Pv.rem | apply Pv.quo) <;> first | exact rfl | omega) | (apply Pv.conv; exact rfl; (intro w; go_simp <;> first | exact rfl | exact ⟨rfl, rfl⟩); (first | exact wrapu64_id (by omega) (by omega) | exact wrap64_id (by omega) (by omega) | exact wrapu8_id (by omega) (by omega) | exact wrapu32_id (by omega) (by omega) | exact wrapu16_id (by omega) (by omega) | exact rfl)) | ((first | apply Pv.beq | apply Pv.bne); exact rfl; exact rfl; kernel_rfl) | ((first | apply Pv.fieldAddr | apply Pv.len | apply Pv.indexAddr | apply Pv.build | apply Pv.field | apply Pv.convert | apply Pv.addw | apply Pv.subw | apply Pv.mulw | apply Pv.binOp) <;> first | exact rfl | (intro w; go_simp <;> first | exact rfl | exact ⟨rfl, rfl⟩)))))))
        apply EA.done
        · decide +kernel
        repeat (first
          | (apply E.pv; (first | (apply Pv.auto; exact rfl) | ((first | apply Pv.add | apply Pv.sub | apply Pv.rem | apply Pv.quo) <;> first | exact rfl | omega) | (apply Pv.conv; exact rfl; (intro w; go_simp <;> first | exact rfl | exact ⟨rfl, rfl⟩); (first | exact wrapu64_id (by omega) (by omega) | exact wrap64_id (by omega) (by omega) | exact wrapu8_id (by omega) (by omega) | exact wrapu32_id (by omega) (by omega) | exact wrapu16_id (by omega) (by omega) | exact rfl)) | ((first | apply Pv.beq | apply Pv.bne); exact rfl; exact rfl; kernel_rfl) | ((first | apply Pv.fieldAddr | apply Pv.len | apply Pv.indexAddr | apply Pv.build | apply Pv.field | apply Pv.convert | apply Pv.addw | apply Pv.subw | apply Pv.mulw | apply Pv.binOp) <;> first | exact rfl | (intro w; go_simp <;> first | exact rfl | exact ⟨rfl, rfl⟩))))
          | (first | apply C.region_seq | apply E.nil | apply A.next | apply A.ret_then | apply A.exit_then | apply A.block_end | apply A.block_ret | apply A.block_exit | apply C.seq | apply C.region | apply C.skip | apply C.ret | apply C.exit)
          | (apply E.guard; exact rfl; exact rfl)
          | (apply E.passed; exact rfl; exact rfl; exact rfl)
          | ((first | apply A.block_other | apply C.cond_true); exact rfl)
          | (apply C.cond_false; exact rfl)
          | apply C.block
          | ((first | (apply E.cons; apply St.load hs) | apply St.load hs); exact rfl; (repeat (first | exact Fd.here | refine Fd.there ?_)); exact rfl; go_simp))
        exact A.meet _ (by repeat (first | exact trivial | refine ⟨rfl, ?_⟩)) ⟨hs.drop.drop, .inr ⟨_, x, rfl, rfl, hx⟩⟩
      · apply St.guard
        · exact rfl
        · exact rfl
        apply St.loads
        · exact rfl
        · exact ld_ln hs.pull3 hx
        apply EA.one 3
        · decide +kernel
        · exact rfl
        apply St.guard
        · exact rfl
        · exact rfl
        apply St.loada hs
        · exact rfl
        · exact (by repeat (first | exact Fd.here | refine Fd.there ?_))
        · exact agg_pk
        · exact rfl
        apply EA.one 8
        · decide +kernel
        · exact rfl
        apply St.guard
        · exact rfl
        · exact rfl
        apply St.call Try.func12 rfl rfl
        · exact rfl
        refine same_true x hs (Row.of_owns (D := fun _ => True) hs.swap.owns (fun _ _ => trivial)) (hlt x (List.mem_of_getElem? hx)) ?_
        intro w8 hs
        repeat (first
          | (apply EA.take 0; decide +kernel; exact rfl; kernel_rfl; decide +kernel; exact fun _ _ _ _ h => h; (first | (apply Pg.off; exact rfl) | (apply Pg.any; exact rfl; (first | (apply Pv.auto; exact rfl) | ((first | apply Pv.add | apply Pv.sub | apply Pv.rem | apply Pv.quo) <;> first | exact rfl | omega) | (apply Pv.conv; exact rfl; (intro w; go_simp <;> first | exact rfl | exact ⟨rfl, rfl⟩); (first | exact wrapu64_id (by omega) (by omega) | exact wrap64_id (by omega) (by omega) | exact wrapu8_id (by omega) (by omega) | exact wrapu32_id (by omega) (by omega) | exact wrapu16_id (by omega) (by omega) | exact rfl)) | ((first | apply Pv.beq | apply Pv.bne); exact rfl; exact rfl; kernel_rfl) | ((first | apply Pv.fieldAddr | apply Pv.len | apply Pv.indexAddr | apply Pv.build | apply Pv.field | apply Pv.convert | apply Pv.addw | apply Pv.subw | apply Pv.mulw | apply Pv.binOp) <;> first | exact rfl | (intro w; go_simp <;> first | exact rfl | exact ⟨rfl, rfl⟩))))))
          | (apply EA.take 1; decide +kernel; exact rfl; kernel_rfl; decide +kernel; exact fun _ _ _ _ h => h; (first | (apply Pg.off; exact rfl) | (apply Pg.any; exact rfl; (first | (apply Pv.auto; exact rfl) | ((first | apply Pv.add | apply Pv.sub | apply Pv.rem | apply Pv.quo) <;> first | exact rfl | omega) | (apply Pv.conv; exact rfl; (intro w; go_simp <;> first | exact rfl | exact ⟨rfl, rfl⟩); (first | exact wrapu64_id (by omega) (by omega) | exact wrap64_id (by omega) (by omega) | exact wrapu8_id (by omega) (by omega) | exact wrapu32_id (by omega) (by omega) | exact wrapu16_id (by omega) (by omega) | exact rfl)) | ((first | apply Pv.beq | apply Pv.bne); exact rfl; exact rfl; kernel_rfl) | ((first | apply Pv.fieldAddr | apply Pv.len | apply Pv.indexAddr | apply Pv.build | apply Pv.field | apply Pv.convert | apply Pv.addw | apply Pv.subw | apply Pv.mulw | apply Pv.binOp) <;> first | exact rfl | (intro w; go_simp <;> first | exact rfl | exact ⟨rfl, rfl⟩))))))
          | (apply EA.take 2; decide +kernel; exact rfl; kernel_rfl; decide +kernel; exact fun _ _ _ _ h => h; (first | (apply Pg.off; exact rfl) | (apply Pg.any; exact rfl; (first | (apply Pv.auto; exact rfl) | ((first | apply Pv.add | apply Pv.sub | apply Pv.rem | apply Pv.quo) <;> first | exact rfl | omega) | (apply Pv.conv; exact rfl; (intro w; go_simp <;> first | exact rfl | exact ⟨rfl, rfl⟩); (first | exact wrapu64_id (by omega) (by omega) | exact wrap64_id (by omega) (by omega) | exact wrapu8_id (by omega) (by omega) | exact wrapu32_id (by omega) (by omega) | exact wrapu16_id (by omega) (by omega) | exact rfl)) | ((first | apply Pv.beq | apply Pv.bne); exact rfl; exact rfl; kernel_rfl) | ((first | apply Pv.fieldAddr | apply Pv.len | apply Pv.indexAddr | apply Pv.build | apply Pv.field | apply Pv.convert | apply Pv.addw | apply Pv.subw | apply Pv.mulw | apply Pv.binOp) <;> first | exact rfl | (intro w; go_simp <;> first | exact rfl | exact ⟨rfl, rfl⟩))))))
          | (apply EA.take 3; decide +kernel; exact rfl; kernel_rfl; decide +kernel; exact fun _ _ _ _ h => h; (first | (apply Pg.off; exact rfl) | (apply Pg.any; exact rfl; (first | (apply Pv.auto; exact rfl) | ((first | apply Pv.add | apply Pv.sub | apply Pv.rem | apply Pv.quo) <;> first | exact rfl | omega) | (apply Pv.conv; exact rfl; (intro w; go_simp <;> first | exact rfl | exact ⟨rfl, rfl⟩); (first | exact wrapu64_id (by omega) (by omega) | exact wrap64_id (by omega) (by omega) | exact wrapu8_id (by omega) (by omega) | exact wrapu32_id (by omega) (by omega) | exact wrapu16_id (by omega) (by omega) | exact rfl)) | ((first | apply Pv.beq | apply Pv.bne); exact rfl; exact rfl; kernel_rfl) | ((first | apply Pv.fieldAddr | apply Pv.len | apply Pv.indexAddr | apply Pv.build | apply Pv.field | apply Pv.convert | apply Pv.addw | apply Pv.subw | apply Pv.mulw | apply Pv.binOp) <;> first | exact rfl | (intro w; go_simp <;> first | exact rfl | exact ⟨rfl, rfl⟩))))))
          | (apply EA.take 4; decide +kernel; exact rfl; kernel_rfl; decide +kernel; exact fun _ _ _ _ h => h; (first | (apply Pg.off; exact rfl) | (apply Pg.any; exact rfl; (first | (apply Pv.auto; exact rfl) | ((first | apply Pv.add | apply Pv.sub | apply Pv.rem | apply Pv.quo) <;> first | exact rfl | omega) | (apply Pv.conv; exact rfl; (intro w; go_simp <;> first | exact rfl | exact ⟨rfl, rfl⟩); (first | exact wrapu64_id (by omega) (by omega) | exact wrap64_id (by omega) (by omega) | exact wrapu8_id (by omega) (by omega) | exact wrapu32_id (by omega) (by omega) | exact wrapu16_id (by omega) (by omega) | exact rfl)) | ((first | apply Pv.beq | apply Pv.bne); exact rfl; exact rfl; kernel_rfl) | ((first | apply Pv.fieldAddr | apply Pv.len | apply Pv.indexAddr | apply Pv.build | apply Pv.field | apply Pv.convert | apply Pv.addw | apply Pv.subw | apply Pv.mulw | apply Pv.binOp) <;> first | exact rfl | (intro w; go_simp <;> first | exact rfl | exact ⟨rfl, rfl⟩))))))
          | (apply EA.take 5; decide +kernel; exact rfl; kernel_rfl; decide +kernel; exact fun _ _ _ _ h => h; (first | (apply Pg.off; exact rfl) | (apply Pg.any; exact rfl; (first | (apply Pv.auto; exact rfl) | ((first | apply Pv.add | apply Pv.sub | apply Pv.rem | apply Pv.quo) <;> first | exact rfl | omega) | (apply Pv.conv; exact rfl; (intro w; go_simp <;> first | exact rfl | exact ⟨rfl, rfl⟩); (first | exact wrapu64_id (by omega) (by omega) | exact wrap64_id (by omega) (by omega) | exact wrapu8_id (by omega) (by omega) | exact wrapu32_id (by omega) (by omega) | exact wrapu16_id (by omega) (by omega) | exact rfl)) | ((first | apply Pv.beq | apply Pv.bne); exact rfl; exact rfl; kernel_rfl) | ((first | apply Pv.fieldAddr | apply Pv.len | apply Pv.indexAddr | apply Pv.build | apply Pv.field | apply Pv.convert | apply Pv.addw | apply Pv.subw | apply Pv.mulw | apply Pv.binOp) <;> first | exact rfl | (intro w; go_simp <;> first | exact rfl | exact ⟨rfl, rfl⟩))))))
          | (apply EA.take 6; decide +kernel; exact rfl; kernel_rfl; decide +kernel; exact fun _ _ _ _ h => h; (first | (apply Pg.off; exact rfl) | (apply Pg.any; exact rfl; (first | (apply Pv.auto; exact rfl) | ((first | apply Pv.add | apply Pv.sub | apply Pv.rem | apply Pv.quo) <;> first | exact rfl | omega) | (apply Pv.conv; exact rfl; (intro w; go_simp <;> first | exact rfl | exact ⟨rfl, rfl⟩); (first | exact wrapu64_id (by omega) (by omega) | exact wrap64_id (by omega) (by omega) | exact wrapu8_id (by omega) (by omega) | exact wrapu32_id (by omega) (by omega) | exact wrapu16_id (by omega) (by omega) | exact rfl)) | ((first | apply Pv.beq | apply Pv.bne); exact rfl; exact rfl; kernel_rfl) | ((first | apply Pv.fieldAddr | apply Pv.len | apply Pv.indexAddr | apply Pv.build | apply Pv.field | apply Pv.convert | apply Pv.addw | apply Pv.subw | apply Pv.mulw | apply Pv.binOp) <;> first | exact rfl | (intro w; go_simp <;> first | exact rfl | exact ⟨rfl, rfl⟩))))))
          | (apply EA.take 7; decide +kernel; exact rfl; kernel_rfl; decide +kernel; exact fun _ _ _ _ h => h; (first | (apply Pg.off; exact rfl) | (apply Pg.any; exact rfl; (first | (apply Pv.auto; exact rfl) | ((first | apply Pv.add | apply Pv.sub | apply Pv.rem | apply Pv.quo) <;> first | exact rfl | omega) | (apply Pv.conv; exact rfl; (intro w; go_simp <;> first | exact rfl | exact ⟨rfl, rfl⟩); (first | exact wrapu64_id (by omega) (by omega) | exact wrap64_id (by omega) (by omega) | exact wrapu8_id (by omega) (by omega) | exact wrapu32_id (by omega) (by omega) | exact wrapu16_id (by omega) (by omega) | exact rfl)) | ((first | apply Pv.beq | apply Pv.bne); exact rfl; exact rfl; kernel_rfl) | ((first | apply Pv.fieldAddr | apply Pv.len | apply Pv.indexAddr | apply Pv.build | apply Pv.field | apply Pv.convert | apply Pv.addw | apply Pv.subw | apply Pv.mulw | apply Pv.binOp) <;> first | exact rfl | (intro w; go_simp <;> first | exact rfl | exact ⟨rfl, rfl⟩))))))
          | (apply EA.take 8; decide +kernel; exact rfl; kernel_rfl; decide +kernel; exact fun _ _ _ _ h => h; (first | (apply Pg.off; exact rfl) | (apply Pg.any; exact rfl; (first | (apply Pv.auto; exact rfl) | ((first | apply Pv.add | apply Pv.sub | apply Pv.rem | apply Pv.quo) <;> first | exact rfl | omega) | (apply Pv.conv; exact rfl; (intro w; go_simp <;> first | exact rfl | exact ⟨rfl, rfl⟩); (first | exact wrapu64_id (by omega) (by omega) | exact wrap64_id (by omega) (by omega) | exact wrapu8_id (by omega) (by omega) | exact wrapu32_id (by omega) (by omega) | exact wrapu16_id (by omega) (by omega) | exact rfl)) | ((first | apply Pv.beq | apply Pv.bne); exact rfl; exact rfl; kernel_rfl) | ((first | apply Pv.fieldAddr | apply Pv.len | apply Pv.indexAddr | apply Pv.build | apply Pv.field | apply Pv.convert | apply Pv.addw | apply Pv.subw | apply Pv.mulw | apply Pv.binOp) <;> first | exact rfl | (intro w; go_simp <;> first | exact rfl | exact ⟨rfl, rfl⟩))))))
          | (apply EA.take 9; decide +kernel; exact rfl; kernel_rfl; decide +kernel; exact fun _ _ _ _ h => h; (first | (apply Pg.off; exact rfl) | (apply Pg.any; exact rfl; (first | (apply Pv.auto; exact rfl) | ((first | apply Pv.add | apply Pv.sub | apply Pv.rem | apply Pv.quo) <;> first | exact rfl | omega) | (apply Pv.conv; exact rfl; (intro w; go_simp <;> first | exact rfl | exact ⟨rfl, rfl⟩); (first | exact wrapu64_id (by omega) (by omega) | exact wrap64_id (by omega) (by omega) | exact wrapu8_id (by omega) (by omega) | exact wrapu32_id (by omega) (by omega) | exact wrapu16_id (by omega) (by omega) | exact rfl)) | ((first | apply Pv.beq | apply Pv.bne); exact rfl; exact rfl; kernel_rfl) | ((first | apply Pv.fieldAddr | apply Pv.len | apply Pv.indexAddr | apply Pv.build | apply Pv.field | apply Pv.convert | apply Pv.addw | apply Pv.subw | apply Pv.mulw | apply Pv.binOp) <;> first | exact rfl | (intro w; go_simp <;> first | exact rfl | exact ⟨rfl, rfl⟩))))))
          | (apply EA.take 10; decide +kernel; exact rfl; kernel_rfl; decide +kernel; exact fun _ _ _ _ h => h; (first | (apply Pg.off; exact rfl) | (apply Pg.any; exact rfl; (first | (apply Pv.auto; exact rfl) | ((first | apply Pv.add | apply Pv.sub | apply Pv.rem | apply Pv.quo) <;> first | exact rfl | omega) | (apply Pv.conv; exact rfl; (intro w; go_simp <;> first | exact rfl | exact ⟨rfl, rfl⟩); (first | exact wrapu64_id (by omega) (by omega) | exact wrap64_id (by omega) (by omega) | exact wrapu8_id (by omega) (by omega) | exact wrapu32_id (by omega) (by omega) | exact wrapu16_id (by omega) (by omega) | exact rfl)) | ((first | apply Pv.beq | apply Pv.bne); exact rfl; exact rfl; kernel_rfl) | ((first | apply Pv.fieldAddr | apply Pv.len | apply Pv.indexAddr | apply Pv.build | apply Pv.field | apply Pv.convert | apply Pv.addw | apply Pv.subw | apply Pv.mulw | apply Pv.binOp) <;> first | exact rfl | (intro w; go_simp <;> first | exact rfl | exact ⟨rfl, rfl⟩))))))
          | (apply EA.take 11; decide +kernel; exact rfl; kernel_rfl; decide +kernel; exact fun _ _ _ _ h => h; (first | (apply Pg.off; exact rfl) | (apply Pg.any; exact rfl; (first | (apply Pv.auto; exact rfl) | ((first | apply Pv.add | apply Pv.sub | apply Pv.rem | apply Pv.quo) <;> first | exact rfl | omega) | (apply Pv.conv; exact rfl; (intro w; go_simp <;> first | exact rfl | exact ⟨rfl, rfl⟩); (first | exact wrapu64_id (by omega) (by omega) | exact wrap64_id (by omega) (by omega) | exact wrapu8_id (by omega) (by omega) | exact wrapu32_id (by omega) (by omega) | exact wrapu16_id (by omega) (by omega) | exact rfl)) | ((first | apply Pv.beq | apply Pv.bne); exact rfl; exact rfl; kernel_rfl) | ((first | apply Pv.fieldAddr | apply Pv.len | apply Pv.indexAddr | apply Pv.build | apply Pv.field | apply Pv.convert | apply Pv.addw | apply Pv.subw | apply Pv.mulw | apply Pv.binOp) <;> first | exact rfl | (intro w; go_simp <;> first | exact rfl | exact ⟨rfl, rfl⟩)))))))
        apply EA.done
        · decide +kernel
        repeat (first
          | (apply E.pv; (first | (apply Pv.auto; exact rfl) | ((first | apply Pv.add | apply Pv.sub | apply Pv.rem | apply Pv.quo) <;> first | exact rfl | omega) | (apply Pv.conv; exact rfl; (intro w; go_simp <;> first | exact rfl | exact ⟨rfl, rfl⟩); (first | exact wrapu64_id (by omega) (by omega) | exact wrap64_id (by omega) (by omega) | exact wrapu8_id (by omega) (by omega) | exact wrapu32_id (by omega) (by omega) | exact wrapu16_id (by omega) (by omega) | exact rfl)) | ((first | apply Pv.beq | apply Pv.bne); exact rfl; exact rfl; kernel_rfl) | ((first | apply Pv.fieldAddr | apply Pv.len | apply Pv.indexAddr | apply Pv.build | apply Pv.field | apply Pv.convert | apply Pv.addw | apply Pv.subw | apply Pv.mulw | apply Pv.binOp) <;> first | exact rfl | (intro w; go_simp <;> first | exact rfl | exact ⟨rfl, rfl⟩))))
          | (first | apply C.region_seq | apply E.nil | apply A.next | apply A.ret_then | apply A.exit_then | apply A.block_end | apply A.block_ret | apply A.block_exit | apply C.seq | apply C.region | apply C.skip | apply C.ret | apply C.exit)
          | (apply E.guard; exact rfl; exact rfl)
          | (apply E.passed; exact rfl; exact rfl; exact rfl)
          | ((first | apply A.block_other | apply C.cond_true); exact rfl)
          | (apply C.cond_false; exact rfl)
          | apply C.block
          | ((first | (apply E.cons; apply St.load hs) | apply St.load hs); exact rfl; (repeat (first | exact Fd.here | refine Fd.there ?_)); exact rfl; go_simp))
        exact A.meet _ (by repeat (first | exact trivial | refine ⟨rfl, ?_⟩)) ⟨hs.drop.drop, .inr ⟨_, x, rfl, rfl, hx⟩⟩
    · repeat (first
        | (apply E.pv; (first | (apply Pv.auto; exact rfl) | ((first | apply Pv.add | apply Pv.sub | apply Pv.rem | apply Pv.quo) <;> first | exact rfl | omega) | (apply Pv.conv; exact rfl; (intro w; go_simp <;> first | exact rfl | exact ⟨rfl, rfl⟩); (first | exact wrapu64_id (by omega) (by omega) | exact wrap64_id (by omega) (by omega) | exact wrapu8_id (by omega) (by omega) | exact wrapu32_id (by omega) (by omega) | exact wrapu16_id (by omega) (by omega) | exact rfl)) | ((first | apply Pv.beq | apply Pv.bne); exact rfl; exact rfl; kernel_rfl) | ((first | apply Pv.fieldAddr | apply Pv.len | apply Pv.indexAddr | apply Pv.build | apply Pv.field | apply Pv.convert | apply Pv.addw | apply Pv.subw | apply Pv.mulw | apply Pv.binOp) <;> first | exact rfl | (intro w; go_simp <;> first | exact rfl | exact ⟨rfl, rfl⟩))))
        | (first | apply C.region_seq | apply E.nil | apply A.next | apply A.ret_then | apply A.exit_then | apply A.block_end | apply A.block_ret | apply A.block_exit | apply C.seq | apply C.region | apply C.skip | apply C.ret | apply C.exit)
        | (apply E.guard; exact rfl; exact rfl)
        | (apply E.passed; exact rfl; exact rfl; exact rfl)
        | ((first | apply A.block_other | apply C.cond_true); exact rfl)
        | (apply C.cond_false; exact rfl)
        | apply C.block
        | ((first | (apply E.cons; apply St.load hs) | apply St.load hs); exact rfl; (repeat (first | exact Fd.here | refine Fd.there ?_)); exact rfl; go_simp))
      exact A.meet (-1) (by repeat (first | exact trivial | refine ⟨rfl, ?_⟩)) ⟨hs, .inl ⟨List.eq_nil_of_length_eq_zero (by omega), rfl⟩⟩
  clear hs
  rintro i w3 ⟨hs, hi⟩
  obtain ⟨ab, ao, rfl, hact⟩ := pr_at h0 (show j < n0 by omega) (bs_get (l := l0) (by omega))
  repeat (first
    | (apply E.pv; (first | (apply Pv.auto; exact rfl) | ((first | apply Pv.add | apply Pv.sub | apply Pv.rem | apply Pv.quo) <;> first | exact rfl | omega) | (apply Pv.conv; exact rfl; (intro w; go_simp <;> first | exact rfl | exact ⟨rfl, rfl⟩); (first | exact wrapu64_id (by omega) (by omega) | exact wrap64_id (by omega) (by omega) | exact wrapu8_id (by omega) (by omega) | exact wrapu32_id (by omega) (by omega) | exact wrapu16_id (by omega) (by omega) | exact rfl)) | ((first | apply Pv.beq | apply Pv.bne); exact rfl; exact rfl; kernel_rfl) | ((first | apply Pv.fieldAddr | apply Pv.len | apply Pv.indexAddr | apply Pv.build | apply Pv.field | apply Pv.convert | apply Pv.addw | apply Pv.subw | apply Pv.mulw | apply Pv.binOp) <;> first | exact rfl | (intro w; go_simp <;> first | exact rfl | exact ⟨rfl, rfl⟩))))
    | (first | apply C.region_seq | apply E.nil | apply A.next | apply A.ret_then | apply A.exit_then | apply A.block_end | apply A.block_ret | apply A.block_exit | apply C.seq | apply C.region | apply C.skip | apply C.ret | apply C.exit)
    | (apply E.guard; exact rfl; exact rfl)
    | (apply E.passed; exact rfl; exact rfl; exact rfl)
    | ((first | apply A.block_other | apply C.cond_true); exact rfl)
    | (apply C.cond_false; exact rfl)
    | ((first | (apply E.cons; apply St.load hs) | apply St.load hs); exact rfl; (repeat (first | exact Fd.here | refine Fd.there ?_)); exact rfl; go_simp))
  apply E.cons
  apply St.loadc
  · exact rfl
  · exact hact _ _ _ _ hg3 hs
  · go_simp
  repeat (first
    | (apply E.pv; (first | (apply Pv.auto; exact rfl) | ((first | apply Pv.add | apply Pv.sub | apply Pv.rem | apply Pv.quo) <;> first | exact rfl | omega) | (apply Pv.conv; exact rfl; (intro w; go_simp <;> first | exact rfl | exact ⟨rfl, rfl⟩); (first | exact wrapu64_id (by omega) (by omega) | exact wrap64_id (by omega) (by omega) | exact wrapu8_id (by omega) (by omega) | exact wrapu32_id (by omega) (by omega) | exact wrapu16_id (by omega) (by omega) | exact rfl)) | ((first | apply Pv.beq | apply Pv.bne); exact rfl; exact rfl; kernel_rfl) | ((first | apply Pv.fieldAddr | apply Pv.len | apply Pv.indexAddr | apply Pv.build | apply Pv.field | apply Pv.convert | apply Pv.addw | apply Pv.subw | apply Pv.mulw | apply Pv.binOp) <;> first | exact rfl | (intro w; go_simp <;> first | exact rfl | exact ⟨rfl, rfl⟩))))
    | (first | apply C.region_seq | apply E.nil | apply A.next | apply A.ret_then | apply A.exit_then | apply A.block_end | apply A.block_ret | apply A.block_exit | apply C.seq | apply C.region | apply C.skip | apply C.ret | apply C.exit)
    | (apply E.guard; exact rfl; exact rfl)
    | (apply E.passed; exact rfl; exact rfl; exact rfl)
    | ((first | apply A.block_other | apply C.cond_true); exact rfl)
    | (apply C.cond_false; exact rfl)
    | ((first | (apply E.cons; apply St.load hs) | apply St.load hs); exact rfl; (repeat (first | exact Fd.here | refine Fd.there ?_)); exact rfl; go_simp))
  obtain ⟨m, hm, hm6⟩ : ∃ m : Nat, ((l0[j].toNat : Int)).tmod 6 = m ∧ m < 6 := ⟨l0[j].toNat % 6, by rw [Int.tmod_eq_emod_of_nonneg (by omega)]; omega, by omega⟩
  rw [hm]
  refine C.cut (fun q : List Ln × Option Addr × Nat × Hl => [(0, .slice (some ⟨ab, ao, none⟩) n0 c0), (1, .slice a1 n1 c1), (2, .slice a2 n2 c2), (7, .pointer (some ⟨b, 0, none⟩)), (8, .slice q.2.1 q.1.length q.2.2.1), (9, .int .i64 j)])
    (fun q w => Hl.le g2 q.2.2.2 ∧ q.1.length ≤ j + 1 ∧ Beside W w H b q.2.2.2 q.1 q.2.1 q.2.2.1) ?_ ?_
  rotate_left
  · clear hs hlt hi hlj
    rintro ⟨ls, la, lc, g3⟩ w3 ⟨hg4, hlj, hs, hlt⟩
    simp only at hg4 hlj hs hlt ⊢
    repeat (first
      | (apply E.pv; (first | (apply Pv.auto; exact rfl) | ((first | apply Pv.add | apply Pv.sub | apply Pv.rem | apply Pv.quo) <;> first | exact rfl | omega) | (apply Pv.conv; exact rfl; (intro w; go_simp <;> first | exact rfl | exact ⟨rfl, rfl⟩); (first | exact wrapu64_id (by omega) (by omega) | exact wrap64_id (by omega) (by omega) | exact wrapu8_id (by omega) (by omega) | exact wrapu32_id (by omega) (by omega) | exact wrapu16_id (by omega) (by omega) | exact rfl)) | ((first | apply Pv.beq | apply Pv.bne); exact rfl; exact rfl; kernel_rfl) | ((first | apply Pv.fieldAddr | apply Pv.len | apply Pv.indexAddr | apply Pv.build | apply Pv.field | apply Pv.convert | apply Pv.addw | apply Pv.subw | apply Pv.mulw | apply Pv.binOp) <;> first | exact rfl | (intro w; go_simp <;> first | exact rfl | exact ⟨rfl, rfl⟩))))
      | (first | apply C.region_seq | apply E.nil | apply A.next | apply A.ret_then | apply A.exit_then | apply A.block_end | apply A.block_ret | apply A.block_exit | apply C.seq | apply C.region | apply C.skip | apply C.ret | apply C.exit)
      | (apply E.guard; exact rfl; exact rfl)
      | (apply E.passed; exact rfl; exact rfl; exact rfl)
      | ((first | apply A.block_other | apply C.cond_true); exact rfl)
      | (apply C.cond_false; exact rfl)
      | apply C.block
      | ((first | (apply E.cons; apply St.load hs) | apply St.load hs); exact rfl; (repeat (first | exact Fd.here | refine Fd.there ?_)); exact rfl; go_simp))
    apply E.call Try.func14 rfl rfl
    · exact rfl
    refine len_any hs ?_
    repeat (first
      | (apply E.pv; (first | (apply Pv.auto; exact rfl) | ((first | apply Pv.add | apply Pv.sub | apply Pv.rem | apply Pv.quo) <;> first | exact rfl | omega) | (apply Pv.conv; exact rfl; (intro w; go_simp <;> first | exact rfl | exact ⟨rfl, rfl⟩); (first | exact wrapu64_id (by omega) (by omega) | exact wrap64_id (by omega) (by omega) | exact wrapu8_id (by omega) (by omega) | exact wrapu32_id (by omega) (by omega) | exact wrapu16_id (by omega) (by omega) | exact rfl)) | ((first | apply Pv.beq | apply Pv.bne); exact rfl; exact rfl; kernel_rfl) | ((first | apply Pv.fieldAddr | apply Pv.len | apply Pv.indexAddr | apply Pv.build | apply Pv.field | apply Pv.convert | apply Pv.addw | apply Pv.subw | apply Pv.mulw | apply Pv.binOp) <;> first | exact rfl | (intro w; go_simp <;> first | exact rfl | exact ⟨rfl, rfl⟩))))
      | (first | apply C.region_seq | apply E.nil | apply A.next | apply A.ret_then | apply A.exit_then | apply A.block_end | apply A.block_ret | apply A.block_exit | apply C.seq | apply C.region | apply C.skip | apply C.ret | apply C.exit)
      | (apply E.guard; exact rfl; exact rfl)
      | (apply E.passed; exact rfl; exact rfl; exact rfl)
      | ((first | apply A.block_other | apply C.cond_true); exact rfl)
      | (apply C.cond_false; exact rfl)
      | apply C.block
      | ((first | (apply E.cons; apply St.load hs) | apply St.load hs); exact rfl; (repeat (first | exact Fd.here | refine Fd.there ?_)); exact rfl; go_simp))
    refine C.cond (b := !decide (((ls.map Ln.pk).length : Int) = (ls.length : Int))) rfl (fun h => ?_) (fun _ => ?_)
    · simp at h
    repeat (first
      | (apply E.pv; (first | (apply Pv.auto; exact rfl) | ((first | apply Pv.add | apply Pv.sub | apply Pv.rem | apply Pv.quo) <;> first | exact rfl | omega) | (apply Pv.conv; exact rfl; (intro w; go_simp <;> first | exact rfl | exact ⟨rfl, rfl⟩); (first | exact wrapu64_id (by omega) (by omega) | exact wrap64_id (by omega) (by omega) | exact wrapu8_id (by omega) (by omega) | exact wrapu32_id (by omega) (by omega) | exact wrapu16_id (by omega) (by omega) | exact rfl)) | ((first | apply Pv.beq | apply Pv.bne); exact rfl; exact rfl; kernel_rfl) | ((first | apply Pv.fieldAddr | apply Pv.len | apply Pv.indexAddr | apply Pv.build | apply Pv.field | apply Pv.convert | apply Pv.addw | apply Pv.subw | apply Pv.mulw | apply Pv.binOp) <;> first | exact rfl | (intro w; go_simp <;> first | exact rfl | exact ⟨rfl, rfl⟩))))
      | (first | apply C.region_seq | apply E.nil | apply A.next | apply A.ret_then | apply A.exit_then | apply A.block_end | apply A.block_ret | apply A.block_exit | apply C.seq | apply C.region | apply C.skip | apply C.ret | apply C.exit)
      | (apply E.guard; exact rfl; exact rfl)
      | (apply E.passed; exact rfl; exact rfl; exact rfl)
      | ((first | apply A.block_other | apply C.cond_true); exact rfl)
      | (apply C.cond_false; exact rfl)
      | apply C.block
      | ((first | (apply E.cons; apply St.load hs) | apply St.load hs); exact rfl; (repeat (first | exact Fd.here | refine Fd.there ?_)); exact rfl; go_simp))
    exact A.round (n0 - (j + 1)) ⟨j + 1, ls, la, lc, g3⟩ (by omega) (by repeat (first | exact trivial | refine ⟨rfl, ?_⟩)) ⟨rfl, by simp only; omega, hg2.trans hg4, hlj, hs, hlt⟩
  refine C.block ?_
  refine C.seq ?_
  refine C.cut (fun _ : Unit => [(0, .slice (some ⟨ab, ao, none⟩) n0 c0), (1, .slice a1 n1 c1), (2, .slice a2 n2 c2), (7, .pointer (some ⟨b, 0, none⟩)), (8, .slice la ls.length lc), (9, .int .i64 j), (10, .int .i64 k), (11, .int .i64 y), (12, .int .i64 i), (84, .int .u8 m), (137, .bool (decide (m < 3)))]) (fun _ w => w = w3) ?_ ?_
  · rcases (show m = 0 ∨ m = 1 ∨ m = 2 ∨ m = 3 ∨ m = 4 ∨ m = 5 by omega) with rfl | rfl | rfl | rfl | rfl | rfl
    all_goals
      repeat (first
        | (apply E.pv; (first | (apply Pv.auto; exact rfl) | ((first | apply Pv.add | apply Pv.sub | apply Pv.rem | apply Pv.quo) <;> first | exact rfl | omega) | (apply Pv.conv; exact rfl; (intro w; go_simp <;> first | exact rfl | exact ⟨rfl, rfl⟩); (first | exact wrapu64_id (by omega) (by omega) | exact wrap64_id (by omega) (by omega) | exact wrapu8_id (by omega) (by omega) | exact wrapu32_id (by omega) (by omega) | exact wrapu16_id (by omega) (by omega) | exact rfl)) | ((first | apply Pv.beq | apply Pv.bne); exact rfl; exact rfl; kernel_rfl) | ((first | apply Pv.fieldAddr | apply Pv.len | apply Pv.indexAddr | apply Pv.build | apply Pv.field | apply Pv.convert | apply Pv.addw | apply Pv.subw | apply Pv.mulw | apply Pv.binOp) <;> first | exact rfl | (intro w; go_simp <;> first | exact rfl | exact ⟨rfl, rfl⟩))))
        | (first | apply C.region_seq | apply E.nil | apply A.next | apply A.ret_then | apply A.exit_then | apply A.block_end | apply A.block_ret | apply A.block_exit | apply C.seq | apply C.region | apply C.skip | apply C.ret | apply C.exit)
        | (apply E.guard; exact rfl; exact rfl)
        | (apply E.passed; exact rfl; exact rfl; exact rfl)
        | ((first | apply A.block_other | apply C.cond_true); exact rfl)
        | (apply C.cond_false; exact rfl)
        | apply C.block
        | ((first | (apply E.cons; apply St.load hs) | apply St.load hs); exact rfl; (repeat (first | exact Fd.here | refine Fd.there ?_)); exact rfl; go_simp))
      exact A.meet () (by repeat (first | exact trivial | refine ⟨rfl, ?_⟩)) rfl
  rintro _ w3 rfl
  refine C.cond_dec (p := m < 3) rfl (fun h3 => ?_) (fun h3 => ?_)
  · repeat (first
      | (apply E.pv; (first | (apply Pv.auto; exact rfl) | ((first | apply Pv.add | apply Pv.sub | apply Pv.rem | apply Pv.quo) <;> first | exact rfl | omega) | (apply Pv.conv; exact rfl; (intro w; go_simp <;> first | exact rfl | exact ⟨rfl, rfl⟩); (first | exact wrapu64_id (by omega) (by omega) | exact wrap64_id (by omega) (by omega) | exact wrapu8_id (by omega) (by omega) | exact wrapu32_id (by omega) (by omega) | exact wrapu16_id (by omega) (by omega) | exact rfl)) | ((first | apply Pv.beq | apply Pv.bne); exact rfl; exact rfl; kernel_rfl) | ((first | apply Pv.fieldAddr | apply Pv.len | apply Pv.indexAddr | apply Pv.build | apply Pv.field | apply Pv.convert | apply Pv.addw | apply Pv.subw | apply Pv.mulw | apply Pv.binOp) <;> first | exact rfl | (intro w; go_simp <;> first | exact rfl | exact ⟨rfl, rfl⟩))))
      | (first | apply C.region_seq | apply E.nil | apply A.next | apply A.ret_then | apply A.exit_then | apply A.block_end | apply A.block_ret | apply A.block_exit | apply C.seq | apply C.region | apply C.skip | apply C.ret | apply C.exit)
      | (apply E.guard; exact rfl; exact rfl)
      | (apply E.passed; exact rfl; exact rfl; exact rfl)
      | ((first | apply A.block_other | apply C.cond_true); exact rfl)
      | (apply C.cond_false; exact rfl)
      | apply C.block
      | ((first | (apply E.cons; apply St.load hs) | apply St.load hs); exact rfl; (repeat (first | exact Fd.here | refine Fd.there ?_)); exact rfl; go_simp))
    apply E.call Try.func8 rfl rfl
    · exact rfl
    refine packet_any j rfl hs (by omega) ?_
    intro w4 g4 v hg4 hs hv
    apply E.call Try.func7 rfl rfl
    · exact rfl
    refine send_any (x := pk j) hs (by rw [List.length_map]; omega) (hv.row hs) (show 2 ≤ 1000 by decide) ?_
    intro w5 g5 hg5 hs
    rw [List.length_map, show ls.length + 1 - 512 = 0 by omega, List.drop_zero] at hs
    repeat (first
      | (apply E.pv; (first | (apply Pv.auto; exact rfl) | ((first | apply Pv.add | apply Pv.sub | apply Pv.rem | apply Pv.quo) <;> first | exact rfl | omega) | (apply Pv.conv; exact rfl; (intro w; go_simp <;> first | exact rfl | exact ⟨rfl, rfl⟩); (first | exact wrapu64_id (by omega) (by omega) | exact wrap64_id (by omega) (by omega) | exact wrapu8_id (by omega) (by omega) | exact wrapu32_id (by omega) (by omega) | exact wrapu16_id (by omega) (by omega) | exact rfl)) | ((first | apply Pv.beq | apply Pv.bne); exact rfl; exact rfl; kernel_rfl) | ((first | apply Pv.fieldAddr | apply Pv.len | apply Pv.indexAddr | apply Pv.build | apply Pv.field | apply Pv.convert | apply Pv.addw | apply Pv.subw | apply Pv.mulw | apply Pv.binOp) <;> first | exact rfl | (intro w; go_simp <;> first | exact rfl | exact ⟨rfl, rfl⟩))))
      | (first | apply C.region_seq | apply E.nil | apply A.next | apply A.ret_then | apply A.exit_then | apply A.block_end | apply A.block_ret | apply A.block_exit | apply C.seq | apply C.region | apply C.skip | apply C.ret | apply C.exit)
      | (apply E.guard; exact rfl; exact rfl)
      | (apply E.passed; exact rfl; exact rfl; exact rfl)
      | ((first | apply A.block_other | apply C.cond_true); exact rfl)
      | (apply C.cond_false; exact rfl)
      | apply C.block
      | ((first | (apply E.cons; apply St.load hs) | apply St.load hs); exact rfl; (repeat (first | exact Fd.here | refine Fd.there ?_)); exact rfl; go_simp))
    apply E.cons
    apply St.buildSlice hs
    · exact rfl
    · go_simp
      first | exact rfl | exact ⟨rfl, rfl⟩
    intro b3 w6 hs
    have hrw := hs.rowOf (size := 4) 1 rfl (by decide)
    apply E.cons
    apply St.append el_ln hs.pull2 hrw
    · intro u hu
      simp only [List.mem_cons, List.not_mem_nil, or_false] at hu
      rcases hu with rfl | rfl | rfl | rfl <;> rfl
    · omega
    · omega
    · exact rfl
    · exact rfl
    intro la' lc' w7 hc1 hc2 hs
    repeat (first
      | (apply E.pv; (first | (apply Pv.auto; exact rfl) | ((first | apply Pv.add | apply Pv.sub | apply Pv.rem | apply Pv.quo) <;> first | exact rfl | omega) | (apply Pv.conv; exact rfl; (intro w; go_simp <;> first | exact rfl | exact ⟨rfl, rfl⟩); (first | exact wrapu64_id (by omega) (by omega) | exact wrap64_id (by omega) (by omega) | exact wrapu8_id (by omega) (by omega) | exact wrapu32_id (by omega) (by omega) | exact wrapu16_id (by omega) (by omega) | exact rfl)) | ((first | apply Pv.beq | apply Pv.bne); exact rfl; exact rfl; kernel_rfl) | ((first | apply Pv.fieldAddr | apply Pv.len | apply Pv.indexAddr | apply Pv.build | apply Pv.field | apply Pv.convert | apply Pv.addw | apply Pv.subw | apply Pv.mulw | apply Pv.binOp) <;> first | exact rfl | (intro w; go_simp <;> first | exact rfl | exact ⟨rfl, rfl⟩))))
      | (first | apply C.region_seq | apply E.nil | apply A.next | apply A.ret_then | apply A.exit_then | apply A.block_end | apply A.block_ret | apply A.block_exit | apply C.seq | apply C.region | apply C.skip | apply C.ret | apply C.exit)
      | (apply E.guard; exact rfl; exact rfl)
      | (apply E.passed; exact rfl; exact rfl; exact rfl)
      | ((first | apply A.block_other | apply C.cond_true); exact rfl)
      | (apply C.cond_false; exact rfl)
      | apply C.block
      | ((first | (apply E.cons; apply St.load hs) | apply St.load hs); exact rfl; (repeat (first | exact Fd.here | refine Fd.there ?_)); exact rfl; go_simp))
    have e1 : lnCells ls ++ [.int .i64 j, .int .u8 j, .int .u8 9, .bool false] = lnCells (ls ++ [(⟨j, UInt8.ofNat j, 9, false⟩ : Ln)]) := by
      rw [← lnCells_snoc]
      have : (UInt8.ofNat j).toNat = j := by simp; omega
      simp [this]
    have e2 : ls.map Ln.pk ++ [pk j] = (ls ++ [(⟨j, UInt8.ofNat j, 9, false⟩ : Ln)]).map Ln.pk := by rw [List.map_append]; rfl
    have e3 : ls.length + 1 = (ls ++ [(⟨j, UInt8.ofNat j, 9, false⟩ : Ln)]).length := by simp
    have hs := hs.swap.drop.swap
    rw [e1, e2, e3] at hs
    rw [e3]
    refine A.meet (ls ++ [(⟨j, UInt8.ofNat j, 9, false⟩ : Ln)], la', lc', g5) (by repeat (first | exact trivial | refine ⟨rfl, ?_⟩)) ⟨hg4.trans hg5, by simp; omega, hs, ?_⟩
    intro x hx
    rcases List.mem_append.1 hx with hx | hx
    · exact hlt x hx
    · simp only [List.mem_singleton] at hx
      subst hx
      simp only; omega
  have hcap := own_cap hs.swap
  rcases (show m = 3 ∨ m = 4 ∨ m = 5 by omega) with rfl | rfl | rfl
  · rcases hi with ⟨rfl, rfl⟩ | ⟨p, x, rfl, hk, hx⟩
    · repeat (first
        | (apply E.pv; (first | (apply Pv.auto; exact rfl) | ((first | apply Pv.add | apply Pv.sub | apply Pv.rem | apply Pv.quo) <;> first | exact rfl | omega) | (apply Pv.conv; exact rfl; (intro w; go_simp <;> first | exact rfl | exact ⟨rfl, rfl⟩); (first | exact wrapu64_id (by omega) (by omega) | exact wrap64_id (by omega) (by omega) | exact wrapu8_id (by omega) (by omega) | exact wrapu32_id (by omega) (by omega) | exact wrapu16_id (by omega) (by omega) | exact rfl)) | ((first | apply Pv.beq | apply Pv.bne); exact rfl; exact rfl; kernel_rfl) | ((first | apply Pv.fieldAddr | apply Pv.len | apply Pv.indexAddr | apply Pv.build | apply Pv.field | apply Pv.convert | apply Pv.addw | apply Pv.subw | apply Pv.mulw | apply Pv.binOp) <;> first | exact rfl | (intro w; go_simp <;> first | exact rfl | exact ⟨rfl, rfl⟩))))
        | (first | apply C.region_seq | apply E.nil | apply A.next | apply A.ret_then | apply A.exit_then | apply A.block_end | apply A.block_ret | apply A.block_exit | apply C.seq | apply C.region | apply C.skip | apply C.ret | apply C.exit)
        | (apply E.guard; exact rfl; exact rfl)
        | (apply E.passed; exact rfl; exact rfl; exact rfl)
        | ((first | apply A.block_other | apply C.cond_true); exact rfl)
        | (apply C.cond_false; exact rfl)
        | apply C.block
        | ((first | (apply E.cons; apply St.load hs) | apply St.load hs); exact rfl; (repeat (first | exact Fd.here | refine Fd.there ?_)); exact rfl; go_simp))
      apply E.call Try.func10 rfl rfl
      · exact rfl
      refine take_none hs ?_
      intro w4 hs
      repeat (first
        | (apply E.pv; (first | (apply Pv.auto; exact rfl) | ((first | apply Pv.add | apply Pv.sub | apply Pv.rem | apply Pv.quo) <;> first | exact rfl | omega) | (apply Pv.conv; exact rfl; (intro w; go_simp <;> first | exact rfl | exact ⟨rfl, rfl⟩); (first | exact wrapu64_id (by omega) (by omega) | exact wrap64_id (by omega) (by omega) | exact wrapu8_id (by omega) (by omega) | exact wrapu32_id (by omega) (by omega) | exact wrapu16_id (by omega) (by omega) | exact rfl)) | ((first | apply Pv.beq | apply Pv.bne); exact rfl; exact rfl; kernel_rfl) | ((first | apply Pv.fieldAddr | apply Pv.len | apply Pv.indexAddr | apply Pv.build | apply Pv.field | apply Pv.convert | apply Pv.addw | apply Pv.subw | apply Pv.mulw | apply Pv.binOp) <;> first | exact rfl | (intro w; go_simp <;> first | exact rfl | exact ⟨rfl, rfl⟩))))
        | (first | apply C.region_seq | apply E.nil | apply A.next | apply A.ret_then | apply A.exit_then | apply A.block_end | apply A.block_ret | apply A.block_exit | apply C.seq | apply C.region | apply C.skip | apply C.ret | apply C.exit)
        | (apply E.guard; exact rfl; exact rfl)
        | (apply E.passed; exact rfl; exact rfl; exact rfl)
        | ((first | apply A.block_other | apply C.cond_true); exact rfl)
        | (apply C.cond_false; exact rfl)
        | apply C.block
        | ((first | (apply E.cons; apply St.load hs) | apply St.load hs); exact rfl; (repeat (first | exact Fd.here | refine Fd.there ?_)); exact rfl; go_simp))
      apply E.cons
      apply St.alloc hs
      · go_simp; first | done | exact rfl | exact ⟨rfl, rfl⟩
      · exact rfl
      intro b2 w5 hs
      repeat (first
        | (apply E.pv; (first | (apply Pv.auto; exact rfl) | ((first | apply Pv.add | apply Pv.sub | apply Pv.rem | apply Pv.quo) <;> first | exact rfl | omega) | (apply Pv.conv; exact rfl; (intro w; go_simp <;> first | exact rfl | exact ⟨rfl, rfl⟩); (first | exact wrapu64_id (by omega) (by omega) | exact wrap64_id (by omega) (by omega) | exact wrapu8_id (by omega) (by omega) | exact wrapu32_id (by omega) (by omega) | exact wrapu16_id (by omega) (by omega) | exact rfl)) | ((first | apply Pv.beq | apply Pv.bne); exact rfl; exact rfl; kernel_rfl) | ((first | apply Pv.fieldAddr | apply Pv.len | apply Pv.indexAddr | apply Pv.build | apply Pv.field | apply Pv.convert | apply Pv.addw | apply Pv.subw | apply Pv.mulw | apply Pv.binOp) <;> first | exact rfl | (intro w; go_simp <;> first | exact rfl | exact ⟨rfl, rfl⟩))))
        | (first | apply C.region_seq | apply E.nil | apply A.next | apply A.ret_then | apply A.exit_then | apply A.block_end | apply A.block_ret | apply A.block_exit | apply C.seq | apply C.region | apply C.skip | apply C.ret | apply C.exit)
        | (apply E.guard; exact rfl; exact rfl)
        | (apply E.passed; exact rfl; exact rfl; exact rfl)
        | ((first | apply A.block_other | apply C.cond_true); exact rfl)
        | (apply C.cond_false; exact rfl)
        | apply C.block
        | ((first | (apply E.cons; apply St.load hs) | apply St.load hs); exact rfl; (repeat (first | exact Fd.here | refine Fd.there ?_)); exact rfl; go_simp))
      apply E.cons
      apply St.store hs
      · exact rfl
      · exact rfl
      · exact rfl
      · exact (by repeat (first | exact Up.here | refine Up.there ?_))
      · exact rfl
      · exact rfl
      · go_simp
      intro w6 hs
      repeat (first
        | (apply E.pv; (first | (apply Pv.auto; exact rfl) | ((first | apply Pv.add | apply Pv.sub | apply Pv.rem | apply Pv.quo) <;> first | exact rfl | omega) | (apply Pv.conv; exact rfl; (intro w; go_simp <;> first | exact rfl | exact ⟨rfl, rfl⟩); (first | exact wrapu64_id (by omega) (by omega) | exact wrap64_id (by omega) (by omega) | exact wrapu8_id (by omega) (by omega) | exact wrapu32_id (by omega) (by omega) | exact wrapu16_id (by omega) (by omega) | exact rfl)) | ((first | apply Pv.beq | apply Pv.bne); exact rfl; exact rfl; kernel_rfl) | ((first | apply Pv.fieldAddr | apply Pv.len | apply Pv.indexAddr | apply Pv.build | apply Pv.field | apply Pv.convert | apply Pv.addw | apply Pv.subw | apply Pv.mulw | apply Pv.binOp) <;> first | exact rfl | (intro w; go_simp <;> first | exact rfl | exact ⟨rfl, rfl⟩))))
        | (first | apply C.region_seq | apply E.nil | apply A.next | apply A.ret_then | apply A.exit_then | apply A.block_end | apply A.block_ret | apply A.block_exit | apply C.seq | apply C.region | apply C.skip | apply C.ret | apply C.exit)
        | (apply E.guard; exact rfl; exact rfl)
        | (apply E.passed; exact rfl; exact rfl; exact rfl)
        | ((first | apply A.block_other | apply C.cond_true); exact rfl)
        | (apply C.cond_false; exact rfl)
        | apply C.block
        | ((first | (apply E.cons; apply St.load hs) | apply St.load hs); exact rfl; (repeat (first | exact Fd.here | refine Fd.there ?_)); exact rfl; go_simp))
      exact A.round (n0 - (j + 1)) ⟨j + 1, [], la, lc, g2⟩ (by omega) (by repeat (first | exact trivial | refine ⟨rfl, ?_⟩)) ⟨rfl, by simp only; omega, hg2, by simp, hs.drop, fun x hx => by cases hx⟩
    · have hp : p < ls.length := (List.getElem?_eq_some_iff.1 hx).1
      obtain ⟨lb, rfl⟩ := own_addr hs.swap (by omega)
      repeat (first
        | (apply E.pv; (first | (apply Pv.auto; exact rfl) | ((first | apply Pv.add | apply Pv.sub | apply Pv.rem | apply Pv.quo) <;> first | exact rfl | omega) | (apply Pv.conv; exact rfl; (intro w; go_simp <;> first | exact rfl | exact ⟨rfl, rfl⟩); (first | exact wrapu64_id (by omega) (by omega) | exact wrap64_id (by omega) (by omega) | exact wrapu8_id (by omega) (by omega) | exact wrapu32_id (by omega) (by omega) | exact wrapu16_id (by omega) (by omega) | exact rfl)) | ((first | apply Pv.beq | apply Pv.bne); exact rfl; exact rfl; kernel_rfl) | ((first | apply Pv.fieldAddr | apply Pv.len | apply Pv.indexAddr | apply Pv.build | apply Pv.field | apply Pv.convert | apply Pv.addw | apply Pv.subw | apply Pv.mulw | apply Pv.binOp) <;> first | exact rfl | (intro w; go_simp <;> first | exact rfl | exact ⟨rfl, rfl⟩))))
        | (first | apply C.region_seq | apply E.nil | apply A.next | apply A.ret_then | apply A.exit_then | apply A.block_end | apply A.block_ret | apply A.block_exit | apply C.seq | apply C.region | apply C.skip | apply C.ret | apply C.exit)
        | (apply E.guard; exact rfl; exact rfl)
        | (apply E.passed; exact rfl; exact rfl; exact rfl)
        | ((first | apply A.block_other | apply C.cond_true); exact rfl)
        | (apply C.cond_false; exact rfl)
        | apply C.block
        | ((first | (apply E.cons; apply St.load hs) | apply St.load hs); exact rfl; (repeat (first | exact Fd.here | refine Fd.there ?_)); exact rfl; go_simp))
      apply E.call Try.func10 rfl rfl
      · exact rfl
      refine take_some (k := p) (x := x.pk) hs (by rw [List.length_map]; exact hk) (by simp [hx]) (by rw [List.length_map]; omega) ?_
      intro w4 pa pc hs hv
      repeat (first
        | (apply E.pv; (first | (apply Pv.auto; exact rfl) | ((first | apply Pv.add | apply Pv.sub | apply Pv.rem | apply Pv.quo) <;> first | exact rfl | omega) | (apply Pv.conv; exact rfl; (intro w; go_simp <;> first | exact rfl | exact ⟨rfl, rfl⟩); (first | exact wrapu64_id (by omega) (by omega) | exact wrap64_id (by omega) (by omega) | exact wrapu8_id (by omega) (by omega) | exact wrapu32_id (by omega) (by omega) | exact wrapu16_id (by omega) (by omega) | exact rfl)) | ((first | apply Pv.beq | apply Pv.bne); exact rfl; exact rfl; kernel_rfl) | ((first | apply Pv.fieldAddr | apply Pv.len | apply Pv.indexAddr | apply Pv.build | apply Pv.field | apply Pv.convert | apply Pv.addw | apply Pv.subw | apply Pv.mulw | apply Pv.binOp) <;> first | exact rfl | (intro w; go_simp <;> first | exact rfl | exact ⟨rfl, rfl⟩))))
        | (first | apply C.region_seq | apply E.nil | apply A.next | apply A.ret_then | apply A.exit_then | apply A.block_end | apply A.block_ret | apply A.block_exit | apply C.seq | apply C.region | apply C.skip | apply C.ret | apply C.exit)
        | (apply E.guard; exact rfl; exact rfl)
        | (apply E.passed; exact rfl; exact rfl; exact rfl)
        | ((first | apply A.block_other | apply C.cond_true); exact rfl)
        | (apply C.cond_false; exact rfl)
        | apply C.block
        | ((first | (apply E.cons; apply St.load hs) | apply St.load hs); exact rfl; (repeat (first | exact Fd.here | refine Fd.there ?_)); exact rfl; go_simp))
      apply E.cons
      apply St.alloc hs
      · go_simp; first | done | exact rfl | exact ⟨rfl, rfl⟩
      · exact rfl
      intro b2 w5 hs
      repeat (first
        | (apply E.pv; (first | (apply Pv.auto; exact rfl) | ((first | apply Pv.add | apply Pv.sub | apply Pv.rem | apply Pv.quo) <;> first | exact rfl | omega) | (apply Pv.conv; exact rfl; (intro w; go_simp <;> first | exact rfl | exact ⟨rfl, rfl⟩); (first | exact wrapu64_id (by omega) (by omega) | exact wrap64_id (by omega) (by omega) | exact wrapu8_id (by omega) (by omega) | exact wrapu32_id (by omega) (by omega) | exact wrapu16_id (by omega) (by omega) | exact rfl)) | ((first | apply Pv.beq | apply Pv.bne); exact rfl; exact rfl; kernel_rfl) | ((first | apply Pv.fieldAddr | apply Pv.len | apply Pv.indexAddr | apply Pv.build | apply Pv.field | apply Pv.convert | apply Pv.addw | apply Pv.subw | apply Pv.mulw | apply Pv.binOp) <;> first | exact rfl | (intro w; go_simp <;> first | exact rfl | exact ⟨rfl, rfl⟩))))
        | (first | apply C.region_seq | apply E.nil | apply A.next | apply A.ret_then | apply A.exit_then | apply A.block_end | apply A.block_ret | apply A.block_exit | apply C.seq | apply C.region | apply C.skip | apply C.ret | apply C.exit)
        | (apply E.guard; exact rfl; exact rfl)
        | (apply E.passed; exact rfl; exact rfl; exact rfl)
        | ((first | apply A.block_other | apply C.cond_true); exact rfl)
        | (apply C.cond_false; exact rfl)
        | apply C.block
        | ((first | (apply E.cons; apply St.load hs) | apply St.load hs); exact rfl; (repeat (first | exact Fd.here | refine Fd.there ?_)); exact rfl; go_simp))
      apply E.cons
      apply St.store hs
      · exact rfl
      · exact rfl
      · exact rfl
      · exact (by repeat (first | exact Up.here | refine Up.there ?_))
      · exact rfl
      · exact rfl
      · go_simp
      intro w6 hs
      repeat (first
        | (apply E.pv; (first | (apply Pv.auto; exact rfl) | ((first | apply Pv.add | apply Pv.sub | apply Pv.rem | apply Pv.quo) <;> first | exact rfl | omega) | (apply Pv.conv; exact rfl; (intro w; go_simp <;> first | exact rfl | exact ⟨rfl, rfl⟩); (first | exact wrapu64_id (by omega) (by omega) | exact wrap64_id (by omega) (by omega) | exact wrapu8_id (by omega) (by omega) | exact wrapu32_id (by omega) (by omega) | exact wrapu16_id (by omega) (by omega) | exact rfl)) | ((first | apply Pv.beq | apply Pv.bne); exact rfl; exact rfl; kernel_rfl) | ((first | apply Pv.fieldAddr | apply Pv.len | apply Pv.indexAddr | apply Pv.build | apply Pv.field | apply Pv.convert | apply Pv.addw | apply Pv.subw | apply Pv.mulw | apply Pv.binOp) <;> first | exact rfl | (intro w; go_simp <;> first | exact rfl | exact ⟨rfl, rfl⟩))))
        | (first | apply C.region_seq | apply E.nil | apply A.next | apply A.ret_then | apply A.exit_then | apply A.block_end | apply A.block_ret | apply A.block_exit | apply C.seq | apply C.region | apply C.skip | apply C.ret | apply C.exit)
        | (apply E.guard; exact rfl; exact rfl)
        | (apply E.passed; exact rfl; exact rfl; exact rfl)
        | ((first | apply A.block_other | apply C.cond_true); exact rfl)
        | (apply C.cond_false; exact rfl)
        | apply C.block
        | ((first | (apply E.cons; apply St.load hs) | apply St.load hs); exact rfl; (repeat (first | exact Fd.here | refine Fd.there ?_)); exact rfl; go_simp))
      refine C.cut (fun _ : Unit => [(0, .slice (some ⟨ab, ao, none⟩) n0 c0), (1, .slice a1 n1 c1), (2, .slice a2 n2 c2), (7, .pointer (some ⟨b, 0, none⟩)), (8, .slice (some ⟨lb, 0, none⟩) ls.length lc), (9, .int .i64 j), (10, .int .i64 k), (11, .int .i64 y), (12, .int .i64 p), (16, .int .i64 0), (174, .bool false)]) (fun _ w => Sat W w g2 (blk b2 [.int .i64 x.n, .int .i64 (x.n + 1), .slice pa 2 pc, .bool x.bent] 31 :: post b ((ls.map Ln.pk).take p ++ (ls.map Ln.pk).drop (p + 1)) :: own 43 4 (.slice (some ⟨lb, 0, none⟩) ls.length lc) ls.length (lnCells ls) :: H)) ?_ ?_
      · apply C.any hs
        · kernel_rfl
        intro w7 hs
        repeat (first
          | (apply EA.take 0; decide +kernel; exact rfl; kernel_rfl; decide +kernel; exact fun _ _ _ _ h => h; (first | (apply Pg.off; exact rfl) | (apply Pg.any; exact rfl; (first | (apply Pv.auto; exact rfl) | ((first | apply Pv.add | apply Pv.sub | apply Pv.rem | apply Pv.quo) <;> first | exact rfl | omega) | (apply Pv.conv; exact rfl; (intro w; go_simp <;> first | exact rfl | exact ⟨rfl, rfl⟩); (first | exact wrapu64_id (by omega) (by omega) | exact wrap64_id (by omega) (by omega) | exact wrapu8_id (by omega) (by omega) | exact wrapu32_id (by omega) (by omega) | exact wrapu16_id (by omega) (by omega) | exact rfl)) | ((first | apply Pv.beq | apply Pv.bne); exact rfl; exact rfl; kernel_rfl) | ((first | apply Pv.fieldAddr | apply Pv.len | apply Pv.indexAddr | apply Pv.build | apply Pv.field | apply Pv.convert | apply Pv.addw | apply Pv.subw | apply Pv.mulw | apply Pv.binOp) <;> first | exact rfl | (intro w; go_simp <;> first | exact rfl | exact ⟨rfl, rfl⟩))))))
          | (apply EA.take 1; decide +kernel; exact rfl; kernel_rfl; decide +kernel; exact fun _ _ _ _ h => h; (first | (apply Pg.off; exact rfl) | (apply Pg.any; exact rfl; (first | (apply Pv.auto; exact rfl) | ((first | apply Pv.add | apply Pv.sub | apply Pv.rem | apply Pv.quo) <;> first | exact rfl | omega) | (apply Pv.conv; exact rfl; (intro w; go_simp <;> first | exact rfl | exact ⟨rfl, rfl⟩); (first | exact wrapu64_id (by omega) (by omega) | exact wrap64_id (by omega) (by omega) | exact wrapu8_id (by omega) (by omega) | exact wrapu32_id (by omega) (by omega) | exact wrapu16_id (by omega) (by omega) | exact rfl)) | ((first | apply Pv.beq | apply Pv.bne); exact rfl; exact rfl; kernel_rfl) | ((first | apply Pv.fieldAddr | apply Pv.len | apply Pv.indexAddr | apply Pv.build | apply Pv.field | apply Pv.convert | apply Pv.addw | apply Pv.subw | apply Pv.mulw | apply Pv.binOp) <;> first | exact rfl | (intro w; go_simp <;> first | exact rfl | exact ⟨rfl, rfl⟩))))))
          | (apply EA.take 2; decide +kernel; exact rfl; kernel_rfl; decide +kernel; exact fun _ _ _ _ h => h; (first | (apply Pg.off; exact rfl) | (apply Pg.any; exact rfl; (first | (apply Pv.auto; exact rfl) | ((first | apply Pv.add | apply Pv.sub | apply Pv.rem | apply Pv.quo) <;> first | exact rfl | omega) | (apply Pv.conv; exact rfl; (intro w; go_simp <;> first | exact rfl | exact ⟨rfl, rfl⟩); (first | exact wrapu64_id (by omega) (by omega) | exact wrap64_id (by omega) (by omega) | exact wrapu8_id (by omega) (by omega) | exact wrapu32_id (by omega) (by omega) | exact wrapu16_id (by omega) (by omega) | exact rfl)) | ((first | apply Pv.beq | apply Pv.bne); exact rfl; exact rfl; kernel_rfl) | ((first | apply Pv.fieldAddr | apply Pv.len | apply Pv.indexAddr | apply Pv.build | apply Pv.field | apply Pv.convert | apply Pv.addw | apply Pv.subw | apply Pv.mulw | apply Pv.binOp) <;> first | exact rfl | (intro w; go_simp <;> first | exact rfl | exact ⟨rfl, rfl⟩))))))
          | (apply EA.take 3; decide +kernel; exact rfl; kernel_rfl; decide +kernel; exact fun _ _ _ _ h => h; (first | (apply Pg.off; exact rfl) | (apply Pg.any; exact rfl; (first | (apply Pv.auto; exact rfl) | ((first | apply Pv.add | apply Pv.sub | apply Pv.rem | apply Pv.quo) <;> first | exact rfl | omega) | (apply Pv.conv; exact rfl; (intro w; go_simp <;> first | exact rfl | exact ⟨rfl, rfl⟩); (first | exact wrapu64_id (by omega) (by omega) | exact wrap64_id (by omega) (by omega) | exact wrapu8_id (by omega) (by omega) | exact wrapu32_id (by omega) (by omega) | exact wrapu16_id (by omega) (by omega) | exact rfl)) | ((first | apply Pv.beq | apply Pv.bne); exact rfl; exact rfl; kernel_rfl) | ((first | apply Pv.fieldAddr | apply Pv.len | apply Pv.indexAddr | apply Pv.build | apply Pv.field | apply Pv.convert | apply Pv.addw | apply Pv.subw | apply Pv.mulw | apply Pv.binOp) <;> first | exact rfl | (intro w; go_simp <;> first | exact rfl | exact ⟨rfl, rfl⟩))))))
          | (apply EA.take 4; decide +kernel; exact rfl; kernel_rfl; decide +kernel; exact fun _ _ _ _ h => h; (first | (apply Pg.off; exact rfl) | (apply Pg.any; exact rfl; (first | (apply Pv.auto; exact rfl) | ((first | apply Pv.add | apply Pv.sub | apply Pv.rem | apply Pv.quo) <;> first | exact rfl | omega) | (apply Pv.conv; exact rfl; (intro w; go_simp <;> first | exact rfl | exact ⟨rfl, rfl⟩); (first | exact wrapu64_id (by omega) (by omega) | exact wrap64_id (by omega) (by omega) | exact wrapu8_id (by omega) (by omega) | exact wrapu32_id (by omega) (by omega) | exact wrapu16_id (by omega) (by omega) | exact rfl)) | ((first | apply Pv.beq | apply Pv.bne); exact rfl; exact rfl; kernel_rfl) | ((first | apply Pv.fieldAddr | apply Pv.len | apply Pv.indexAddr | apply Pv.build | apply Pv.field | apply Pv.convert | apply Pv.addw | apply Pv.subw | apply Pv.mulw | apply Pv.binOp) <;> first | exact rfl | (intro w; go_simp <;> first | exact rfl | exact ⟨rfl, rfl⟩))))))
          | (apply EA.take 5; decide +kernel; exact rfl; kernel_rfl; decide +kernel; exact fun _ _ _ _ h => h; (first | (apply Pg.off; exact rfl) | (apply Pg.any; exact rfl; (first | (apply Pv.auto; exact rfl) | ((first | apply Pv.add | apply Pv.sub | apply Pv.rem | apply Pv.quo) <;> first | exact rfl | omega) | (apply Pv.conv; exact rfl; (intro w; go_simp <;> first | exact rfl | exact ⟨rfl, rfl⟩); (first | exact wrapu64_id (by omega) (by omega) | exact wrap64_id (by omega) (by omega) | exact wrapu8_id (by omega) (by omega) | exact wrapu32_id (by omega) (by omega) | exact wrapu16_id (by omega) (by omega) | exact rfl)) | ((first | apply Pv.beq | apply Pv.bne); exact rfl; exact rfl; kernel_rfl) | ((first | apply Pv.fieldAddr | apply Pv.len | apply Pv.indexAddr | apply Pv.build | apply Pv.field | apply Pv.convert | apply Pv.addw | apply Pv.subw | apply Pv.mulw | apply Pv.binOp) <;> first | exact rfl | (intro w; go_simp <;> first | exact rfl | exact ⟨rfl, rfl⟩))))))
          | (apply EA.take 6; decide +kernel; exact rfl; kernel_rfl; decide +kernel; exact fun _ _ _ _ h => h; (first | (apply Pg.off; exact rfl) | (apply Pg.any; exact rfl; (first | (apply Pv.auto; exact rfl) | ((first | apply Pv.add | apply Pv.sub | apply Pv.rem | apply Pv.quo) <;> first | exact rfl | omega) | (apply Pv.conv; exact rfl; (intro w; go_simp <;> first | exact rfl | exact ⟨rfl, rfl⟩); (first | exact wrapu64_id (by omega) (by omega) | exact wrap64_id (by omega) (by omega) | exact wrapu8_id (by omega) (by omega) | exact wrapu32_id (by omega) (by omega) | exact wrapu16_id (by omega) (by omega) | exact rfl)) | ((first | apply Pv.beq | apply Pv.bne); exact rfl; exact rfl; kernel_rfl) | ((first | apply Pv.fieldAddr | apply Pv.len | apply Pv.indexAddr | apply Pv.build | apply Pv.field | apply Pv.convert | apply Pv.addw | apply Pv.subw | apply Pv.mulw | apply Pv.binOp) <;> first | exact rfl | (intro w; go_simp <;> first | exact rfl | exact ⟨rfl, rfl⟩))))))
          | (apply EA.take 7; decide +kernel; exact rfl; kernel_rfl; decide +kernel; exact fun _ _ _ _ h => h; (first | (apply Pg.off; exact rfl) | (apply Pg.any; exact rfl; (first | (apply Pv.auto; exact rfl) | ((first | apply Pv.add | apply Pv.sub | apply Pv.rem | apply Pv.quo) <;> first | exact rfl | omega) | (apply Pv.conv; exact rfl; (intro w; go_simp <;> first | exact rfl | exact ⟨rfl, rfl⟩); (first | exact wrapu64_id (by omega) (by omega) | exact wrap64_id (by omega) (by omega) | exact wrapu8_id (by omega) (by omega) | exact wrapu32_id (by omega) (by omega) | exact wrapu16_id (by omega) (by omega) | exact rfl)) | ((first | apply Pv.beq | apply Pv.bne); exact rfl; exact rfl; kernel_rfl) | ((first | apply Pv.fieldAddr | apply Pv.len | apply Pv.indexAddr | apply Pv.build | apply Pv.field | apply Pv.convert | apply Pv.addw | apply Pv.subw | apply Pv.mulw | apply Pv.binOp) <;> first | exact rfl | (intro w; go_simp <;> first | exact rfl | exact ⟨rfl, rfl⟩))))))
          | (apply EA.take 8; decide +kernel; exact rfl; kernel_rfl; decide +kernel; exact fun _ _ _ _ h => h; (first | (apply Pg.off; exact rfl) | (apply Pg.any; exact rfl; (first | (apply Pv.auto; exact rfl) | ((first | apply Pv.add | apply Pv.sub | apply Pv.rem | apply Pv.quo) <;> first | exact rfl | omega) | (apply Pv.conv; exact rfl; (intro w; go_simp <;> first | exact rfl | exact ⟨rfl, rfl⟩); (first | exact wrapu64_id (by omega) (by omega) | exact wrap64_id (by omega) (by omega) | exact wrapu8_id (by omega) (by omega) | exact wrapu32_id (by omega) (by omega) | exact wrapu16_id (by omega) (by omega) | exact rfl)) | ((first | apply Pv.beq | apply Pv.bne); exact rfl; exact rfl; kernel_rfl) | ((first | apply Pv.fieldAddr | apply Pv.len | apply Pv.indexAddr | apply Pv.build | apply Pv.field | apply Pv.convert | apply Pv.addw | apply Pv.subw | apply Pv.mulw | apply Pv.binOp) <;> first | exact rfl | (intro w; go_simp <;> first | exact rfl | exact ⟨rfl, rfl⟩))))))
          | (apply EA.take 9; decide +kernel; exact rfl; kernel_rfl; decide +kernel; exact fun _ _ _ _ h => h; (first | (apply Pg.off; exact rfl) | (apply Pg.any; exact rfl; (first | (apply Pv.auto; exact rfl) | ((first | apply Pv.add | apply Pv.sub | apply Pv.rem | apply Pv.quo) <;> first | exact rfl | omega) | (apply Pv.conv; exact rfl; (intro w; go_simp <;> first | exact rfl | exact ⟨rfl, rfl⟩); (first | exact wrapu64_id (by omega) (by omega) | exact wrap64_id (by omega) (by omega) | exact wrapu8_id (by omega) (by omega) | exact wrapu32_id (by omega) (by omega) | exact wrapu16_id (by omega) (by omega) | exact rfl)) | ((first | apply Pv.beq | apply Pv.bne); exact rfl; exact rfl; kernel_rfl) | ((first | apply Pv.fieldAddr | apply Pv.len | apply Pv.indexAddr | apply Pv.build | apply Pv.field | apply Pv.convert | apply Pv.addw | apply Pv.subw | apply Pv.mulw | apply Pv.binOp) <;> first | exact rfl | (intro w; go_simp <;> first | exact rfl | exact ⟨rfl, rfl⟩))))))
          | (apply EA.take 10; decide +kernel; exact rfl; kernel_rfl; decide +kernel; exact fun _ _ _ _ h => h; (first | (apply Pg.off; exact rfl) | (apply Pg.any; exact rfl; (first | (apply Pv.auto; exact rfl) | ((first | apply Pv.add | apply Pv.sub | apply Pv.rem | apply Pv.quo) <;> first | exact rfl | omega) | (apply Pv.conv; exact rfl; (intro w; go_simp <;> first | exact rfl | exact ⟨rfl, rfl⟩); (first | exact wrapu64_id (by omega) (by omega) | exact wrap64_id (by omega) (by omega) | exact wrapu8_id (by omega) (by omega) | exact wrapu32_id (by omega) (by omega) | exact wrapu16_id (by omega) (by omega) | exact rfl)) | ((first | apply Pv.beq | apply Pv.bne); exact rfl; exact rfl; kernel_rfl) | ((first | apply Pv.fieldAddr | apply Pv.len | apply Pv.indexAddr | apply Pv.build | apply Pv.field | apply Pv.convert | apply Pv.addw | apply Pv.subw | apply Pv.mulw | apply Pv.binOp) <;> first | exact rfl | (intro w; go_simp <;> first | exact rfl | exact ⟨rfl, rfl⟩))))))
          | (apply EA.take 11; decide +kernel; exact rfl; kernel_rfl; decide +kernel; exact fun _ _ _ _ h => h; (first | (apply Pg.off; exact rfl) | (apply Pg.any; exact rfl; (first | (apply Pv.auto; exact rfl) | ((first | apply Pv.add | apply Pv.sub | apply Pv.rem | apply Pv.quo) <;> first | exact rfl | omega) | (apply Pv.conv; exact rfl; (intro w; go_simp <;> first | exact rfl | exact ⟨rfl, rfl⟩); (first | exact wrapu64_id (by omega) (by omega) | exact wrap64_id (by omega) (by omega) | exact wrapu8_id (by omega) (by omega) | exact wrapu32_id (by omega) (by omega) | exact wrapu16_id (by omega) (by omega) | exact rfl)) | ((first | apply Pv.beq | apply Pv.bne); exact rfl; exact rfl; kernel_rfl) | ((first | apply Pv.fieldAddr | apply Pv.len | apply Pv.indexAddr | apply Pv.build | apply Pv.field | apply Pv.convert | apply Pv.addw | apply Pv.subw | apply Pv.mulw | apply Pv.binOp) <;> first | exact rfl | (intro w; go_simp <;> first | exact rfl | exact ⟨rfl, rfl⟩)))))))
        apply EA.two 3 7
        · decide +kernel
        · exact rfl
        · exact rfl
        · apply St.guard
          · exact rfl
          · exact rfl
          apply St.loada hs
          · exact rfl
          · exact (by repeat (first | exact Fd.here | refine Fd.there ?_))
          · exact agg_pk
          · exact rfl
          apply EA.one 7
          · decide +kernel
          · exact rfl
          apply St.guard
          · exact rfl
          · exact rfl
          apply St.loads
          · exact rfl
          · exact ld_ln hs.pull2 hx
          apply EA.one 8
          · decide +kernel
          · exact rfl
          apply St.guard
          · exact rfl
          · exact rfl
          apply St.call Try.func12 rfl rfl
          · exact rfl
          refine same_true x hs (hv.row hs) (hlt x (List.mem_of_getElem? hx)) ?_
          intro w8 hs
          repeat (first
            | (apply EA.take 0; decide +kernel; exact rfl; kernel_rfl; decide +kernel; exact fun _ _ _ _ h => h; (first | (apply Pg.off; exact rfl) | (apply Pg.any; exact rfl; (first | (apply Pv.auto; exact rfl) | ((first | apply Pv.add | apply Pv.sub | apply Pv.rem | apply Pv.quo) <;> first | exact rfl | omega) | (apply Pv.conv; exact rfl; (intro w; go_simp <;> first | exact rfl | exact ⟨rfl, rfl⟩); (first | exact wrapu64_id (by omega) (by omega) | exact wrap64_id (by omega) (by omega) | exact wrapu8_id (by omega) (by omega) | exact wrapu32_id (by omega) (by omega) | exact wrapu16_id (by omega) (by omega) | exact rfl)) | ((first | apply Pv.beq | apply Pv.bne); exact rfl; exact rfl; kernel_rfl) | ((first | apply Pv.fieldAddr | apply Pv.len | apply Pv.indexAddr | apply Pv.build | apply Pv.field | apply Pv.convert | apply Pv.addw | apply Pv.subw | apply Pv.mulw | apply Pv.binOp) <;> first | exact rfl | (intro w; go_simp <;> first | exact rfl | exact ⟨rfl, rfl⟩))))))
            | (apply EA.take 1; decide +kernel; exact rfl; kernel_rfl; decide +kernel; exact fun _ _ _ _ h => h; (first | (apply Pg.off; exact rfl) | (apply Pg.any; exact rfl; (first | (apply Pv.auto; exact rfl) | ((first | apply Pv.add | apply Pv.sub | apply Pv.rem | apply Pv.quo) <;> first | exact rfl | omega) | (apply Pv.conv; exact rfl; (intro w; go_simp <;> first | exact rfl | exact ⟨rfl, rfl⟩); (first | exact wrapu64_id (by omega) (by omega) | exact wrap64_id (by omega) (by omega) | exact wrapu8_id (by omega) (by omega) | exact wrapu32_id (by omega) (by omega) | exact wrapu16_id (by omega) (by omega) | exact rfl)) | ((first | apply Pv.beq | apply Pv.bne); exact rfl; exact rfl; kernel_rfl) | ((first | apply Pv.fieldAddr | apply Pv.len | apply Pv.indexAddr | apply Pv.build | apply Pv.field | apply Pv.convert | apply Pv.addw | apply Pv.subw | apply Pv.mulw | apply Pv.binOp) <;> first | exact rfl | (intro w; go_simp <;> first | exact rfl | exact ⟨rfl, rfl⟩))))))
            | (apply EA.take 2; decide +kernel; exact rfl; kernel_rfl; decide +kernel; exact fun _ _ _ _ h => h; (first | (apply Pg.off; exact rfl) | (apply Pg.any; exact rfl; (first | (apply Pv.auto; exact rfl) | ((first | apply Pv.add | apply Pv.sub | apply Pv.rem | apply Pv.quo) <;> first | exact rfl | omega) | (apply Pv.conv; exact rfl; (intro w; go_simp <;> first | exact rfl | exact ⟨rfl, rfl⟩); (first | exact wrapu64_id (by omega) (by omega) | exact wrap64_id (by omega) (by omega) | exact wrapu8_id (by omega) (by omega) | exact wrapu32_id (by omega) (by omega) | exact wrapu16_id (by omega) (by omega) | exact rfl)) | ((first | apply Pv.beq | apply Pv.bne); exact rfl; exact rfl; kernel_rfl) | ((first | apply Pv.fieldAddr | apply Pv.len | apply Pv.indexAddr | apply Pv.build | apply Pv.field | apply Pv.convert | apply Pv.addw | apply Pv.subw | apply Pv.mulw | apply Pv.binOp) <;> first | exact rfl | (intro w; go_simp <;> first | exact rfl | exact ⟨rfl, rfl⟩))))))
            | (apply EA.take 3; decide +kernel; exact rfl; kernel_rfl; decide +kernel; exact fun _ _ _ _ h => h; (first | (apply Pg.off; exact rfl) | (apply Pg.any; exact rfl; (first | (apply Pv.auto; exact rfl) | ((first | apply Pv.add | apply Pv.sub | apply Pv.rem | apply Pv.quo) <;> first | exact rfl | omega) | (apply Pv.conv; exact rfl; (intro w; go_simp <;> first | exact rfl | exact ⟨rfl, rfl⟩); (first | exact wrapu64_id (by omega) (by omega) | exact wrap64_id (by omega) (by omega) | exact wrapu8_id (by omega) (by omega) | exact wrapu32_id (by omega) (by omega) | exact wrapu16_id (by omega) (by omega) | exact rfl)) | ((first | apply Pv.beq | apply Pv.bne); exact rfl; exact rfl; kernel_rfl) | ((first | apply Pv.fieldAddr | apply Pv.len | apply Pv.indexAddr | apply Pv.build | apply Pv.field | apply Pv.convert | apply Pv.addw | apply Pv.subw | apply Pv.mulw | apply Pv.binOp) <;> first | exact rfl | (intro w; go_simp <;> first | exact rfl | exact ⟨rfl, rfl⟩))))))
            | (apply EA.take 4; decide +kernel; exact rfl; kernel_rfl; decide +kernel; exact fun _ _ _ _ h => h; (first | (apply Pg.off; exact rfl) | (apply Pg.any; exact rfl; (first | (apply Pv.auto; exact rfl) | ((first | apply Pv.add | apply Pv.sub | apply Pv.rem | apply Pv.quo) <;> first | exact rfl | omega) | (apply Pv.conv; exact rfl; (intro w; go_simp <;> first | exact rfl | exact ⟨rfl, rfl⟩); (first | exact wrapu64_id (by omega) (by omega) | exact wrap64_id (by omega) (by omega) | exact wrapu8_id (by omega) (by omega) | exact wrapu32_id (by omega) (by omega) | exact wrapu16_id (by omega) (by omega) | exact rfl)) | ((first | apply Pv.beq | apply Pv.bne); exact rfl; exact rfl; kernel_rfl) | ((first | apply Pv.fieldAddr | apply Pv.len | apply Pv.indexAddr | apply Pv.build | apply Pv.field | apply Pv.convert | apply Pv.addw | apply Pv.subw | apply Pv.mulw | apply Pv.binOp) <;> first | exact rfl | (intro w; go_simp <;> first | exact rfl | exact ⟨rfl, rfl⟩))))))
            | (apply EA.take 5; decide +kernel; exact rfl; kernel_rfl; decide +kernel; exact fun _ _ _ _ h => h; (first | (apply Pg.off; exact rfl) | (apply Pg.any; exact rfl; (first | (apply Pv.auto; exact rfl) | ((first | apply Pv.add | apply Pv.sub | apply Pv.rem | apply Pv.quo) <;> first | exact rfl | omega) | (apply Pv.conv; exact rfl; (intro w; go_simp <;> first | exact rfl | exact ⟨rfl, rfl⟩); (first | exact wrapu64_id (by omega) (by omega) | exact wrap64_id (by omega) (by omega) | exact wrapu8_id (by omega) (by omega) | exact wrapu32_id (by omega) (by omega) | exact wrapu16_id (by omega) (by omega) | exact rfl)) | ((first | apply Pv.beq | apply Pv.bne); exact rfl; exact rfl; kernel_rfl) | ((first | apply Pv.fieldAddr | apply Pv.len | apply Pv.indexAddr | apply Pv.build | apply Pv.field | apply Pv.convert | apply Pv.addw | apply Pv.subw | apply Pv.mulw | apply Pv.binOp) <;> first | exact rfl | (intro w; go_simp <;> first | exact rfl | exact ⟨rfl, rfl⟩))))))
            | (apply EA.take 6; decide +kernel; exact rfl; kernel_rfl; decide +kernel; exact fun _ _ _ _ h => h; (first | (apply Pg.off; exact rfl) | (apply Pg.any; exact rfl; (first | (apply Pv.auto; exact rfl) | ((first | apply Pv.add | apply Pv.sub | apply Pv.rem | apply Pv.quo) <;> first | exact rfl | omega) | (apply Pv.conv; exact rfl; (intro w; go_simp <;> first | exact rfl | exact ⟨rfl, rfl⟩); (first | exact wrapu64_id (by omega) (by omega) | exact wrap64_id (by omega) (by omega) | exact wrapu8_id (by omega) (by omega) | exact wrapu32_id (by omega) (by omega) | exact wrapu16_id (by omega) (by omega) | exact rfl)) | ((first | apply Pv.beq | apply Pv.bne); exact rfl; exact rfl; kernel_rfl) | ((first | apply Pv.fieldAddr | apply Pv.len | apply Pv.indexAddr | apply Pv.build | apply Pv.field | apply Pv.convert | apply Pv.addw | apply Pv.subw | apply Pv.mulw | apply Pv.binOp) <;> first | exact rfl | (intro w; go_simp <;> first | exact rfl | exact ⟨rfl, rfl⟩))))))
            | (apply EA.take 7; decide +kernel; exact rfl; kernel_rfl; decide +kernel; exact fun _ _ _ _ h => h; (first | (apply Pg.off; exact rfl) | (apply Pg.any; exact rfl; (first | (apply Pv.auto; exact rfl) | ((first | apply Pv.add | apply Pv.sub | apply Pv.rem | apply Pv.quo) <;> first | exact rfl | omega) | (apply Pv.conv; exact rfl; (intro w; go_simp <;> first | exact rfl | exact ⟨rfl, rfl⟩); (first | exact wrapu64_id (by omega) (by omega) | exact wrap64_id (by omega) (by omega) | exact wrapu8_id (by omega) (by omega) | exact wrapu32_id (by omega) (by omega) | exact wrapu16_id (by omega) (by omega) | exact rfl)) | ((first | apply Pv.beq | apply Pv.bne); exact rfl; exact rfl; kernel_rfl) | ((first | apply Pv.fieldAddr | apply Pv.len | apply Pv.indexAddr | apply Pv.build | apply Pv.field | apply Pv.convert | apply Pv.addw | apply Pv.subw | apply Pv.mulw | apply Pv.binOp) <;> first | exact rfl | (intro w; go_simp <;> first | exact rfl | exact ⟨rfl, rfl⟩))))))
            | (apply EA.take 8; decide +kernel; exact rfl; kernel_rfl; decide +kernel; exact fun _ _ _ _ h => h; (first | (apply Pg.off; exact rfl) | (apply Pg.any; exact rfl; (first | (apply Pv.auto; exact rfl) | ((first | apply Pv.add | apply Pv.sub | apply Pv.rem | apply Pv.quo) <;> first | exact rfl | omega) | (apply Pv.conv; exact rfl; (intro w; go_simp <;> first | exact rfl | exact ⟨rfl, rfl⟩); (first | exact wrapu64_id (by omega) (by omega) | exact wrap64_id (by omega) (by omega) | exact wrapu8_id (by omega) (by omega) | exact wrapu32_id (by omega) (by omega) | exact wrapu16_id (by omega) (by omega) | exact rfl)) | ((first | apply Pv.beq | apply Pv.bne); exact rfl; exact rfl; kernel_rfl) | ((first | apply Pv.fieldAddr | apply Pv.len | apply Pv.indexAddr | apply Pv.build | apply Pv.field | apply Pv.convert | apply Pv.addw | apply Pv.subw | apply Pv.mulw | apply Pv.binOp) <;> first | exact rfl | (intro w; go_simp <;> first | exact rfl | exact ⟨rfl, rfl⟩))))))
            | (apply EA.take 9; decide +kernel; exact rfl; kernel_rfl; decide +kernel; exact fun _ _ _ _ h => h; (first | (apply Pg.off; exact rfl) | (apply Pg.any; exact rfl; (first | (apply Pv.auto; exact rfl) | ((first | apply Pv.add | apply Pv.sub | apply Pv.rem | apply Pv.quo) <;> first | exact rfl | omega) | (apply Pv.conv; exact rfl; (intro w; go_simp <;> first | exact rfl | exact ⟨rfl, rfl⟩); (first | exact wrapu64_id (by omega) (by omega) | exact wrap64_id (by omega) (by omega) | exact wrapu8_id (by omega) (by omega) | exact wrapu32_id (by omega) (by omega) | exact wrapu16_id (by omega) (by omega) | exact rfl)) | ((first | apply Pv.beq | apply Pv.bne); exact rfl; exact rfl; kernel_rfl) | ((first | apply Pv.fieldAddr | apply Pv.len | apply Pv.indexAddr | apply Pv.build | apply Pv.field | apply Pv.convert | apply Pv.addw | apply Pv.subw | apply Pv.mulw | apply Pv.binOp) <;> first | exact rfl | (intro w; go_simp <;> first | exact rfl | exact ⟨rfl, rfl⟩))))))
            | (apply EA.take 10; decide +kernel; exact rfl; kernel_rfl; decide +kernel; exact fun _ _ _ _ h => h; (first | (apply Pg.off; exact rfl) | (apply Pg.any; exact rfl; (first | (apply Pv.auto; exact rfl) | ((first | apply Pv.add | apply Pv.sub | apply Pv.rem | apply Pv.quo) <;> first | exact rfl | omega) | (apply Pv.conv; exact rfl; (intro w; go_simp <;> first | exact rfl | exact ⟨rfl, rfl⟩); (first | exact wrapu64_id (by omega) (by omega) | exact wrap64_id (by omega) (by omega) | exact wrapu8_id (by omega) (by omega) | exact wrapu32_id (by omega) (by omega) | exact wrapu16_id (by omega) (by omega) | exact rfl)) | ((first | apply Pv.beq | apply Pv.bne); exact rfl; exact rfl; kernel_rfl) | ((first | apply Pv.fieldAddr | apply Pv.len | apply Pv.indexAddr | apply Pv.build | apply Pv.field | apply Pv.convert | apply Pv.addw | apply Pv.subw | apply Pv.mulw | apply Pv.binOp) <;> first | exact rfl | (intro w; go_simp <;> first | exact rfl | exact ⟨rfl, rfl⟩))))))
            | (apply EA.take 11; decide +kernel; exact rfl; kernel_rfl; decide +kernel; exact fun _ _ _ _ h => h; (first | (apply Pg.off; exact rfl) | (apply Pg.any; exact rfl; (first | (apply Pv.auto; exact rfl) | ((first | apply Pv.add | apply Pv.sub | apply Pv.rem | apply Pv.quo) <;> first | exact rfl | omega) | (apply Pv.conv; exact rfl; (intro w; go_simp <;> first | exact rfl | exact ⟨rfl, rfl⟩); (first | exact wrapu64_id (by omega) (by omega) | exact wrap64_id (by omega) (by omega) | exact wrapu8_id (by omega) (by omega) | exact wrapu32_id (by omega) (by omega) | exact wrapu16_id (by omega) (by omega) | exact rfl)) | ((first | apply Pv.beq | apply Pv.bne); exact rfl; exact rfl; kernel_rfl) | ((first | apply Pv.fieldAddr | apply Pv.len | apply Pv.indexAddr | apply Pv.build | apply Pv.field | apply Pv.convert | apply Pv.addw | apply Pv.subw | apply Pv.mulw | apply Pv.binOp) <;> first | exact rfl | (intro w; go_simp <;> first | exact rfl | exact ⟨rfl, rfl⟩)))))))
          apply EA.done
          · decide +kernel
          exact A.meet () (by repeat (first | exact trivial | refine ⟨rfl, ?_⟩)) hs
        · apply St.guard
          · exact rfl
          · exact rfl
          apply St.loads
          · exact rfl
          · exact ld_ln hs.pull2 hx
          apply EA.one 3
          · decide +kernel
          · exact rfl
          apply St.guard
          · exact rfl
          · exact rfl
          apply St.loada hs
          · exact rfl
          · exact (by repeat (first | exact Fd.here | refine Fd.there ?_))
          · exact agg_pk
          · exact rfl
          apply EA.one 8
          · decide +kernel
          · exact rfl
          apply St.guard
          · exact rfl
          · exact rfl
          apply St.call Try.func12 rfl rfl
          · exact rfl
          refine same_true x hs (hv.row hs) (hlt x (List.mem_of_getElem? hx)) ?_
          intro w8 hs
          repeat (first
            | (apply EA.take 0; decide +kernel; exact rfl; kernel_rfl; decide +kernel; exact fun _ _ _ _ h => h; (first | (apply Pg.off; exact rfl) | (apply Pg.any; exact rfl; (first | (apply Pv.auto; exact rfl) | ((first | apply Pv.add | apply Pv.sub | apply Pv.rem | apply Pv.quo) <;> first | exact rfl | omega) | (apply Pv.conv; exact rfl; (intro w; go_simp <;> first | exact rfl | exact ⟨rfl, rfl⟩); (first | exact wrapu64_id (by omega) (by omega) | exact wrap64_id (by omega) (by omega) | exact wrapu8_id (by omega) (by omega) | exact wrapu32_id (by omega) (by omega) | exact wrapu16_id (by omega) (by omega) | exact rfl)) | ((first | apply Pv.beq | apply Pv.bne); exact rfl; exact rfl; kernel_rfl) | ((first | apply Pv.fieldAddr | apply Pv.len | apply Pv.indexAddr | apply Pv.build | apply Pv.field | apply Pv.convert | apply Pv.addw | apply Pv.subw | apply Pv.mulw | apply Pv.binOp) <;> first | exact rfl | (intro w; go_simp <;> first | exact rfl | exact ⟨rfl, rfl⟩))))))
            | (apply EA.take 1; decide +kernel; exact rfl; kernel_rfl; decide +kernel; exact fun _ _ _ _ h => h; (first | (apply Pg.off; exact rfl) | (apply Pg.any; exact rfl; (first | (apply Pv.auto; exact rfl) | ((first | apply Pv.add | apply Pv.sub | apply Pv.rem | apply Pv.quo) <;> first | exact rfl | omega) | (apply Pv.conv; exact rfl; (intro w; go_simp <;> first | exact rfl | exact ⟨rfl, rfl⟩); (first | exact wrapu64_id (by omega) (by omega) | exact wrap64_id (by omega) (by omega) | exact wrapu8_id (by omega) (by omega) | exact wrapu32_id (by omega) (by omega) | exact wrapu16_id (by omega) (by omega) | exact rfl)) | ((first | apply Pv.beq | apply Pv.bne); exact rfl; exact rfl; kernel_rfl) | ((first | apply Pv.fieldAddr | apply Pv.len | apply Pv.indexAddr | apply Pv.build | apply Pv.field | apply Pv.convert | apply Pv.addw | apply Pv.subw | apply Pv.mulw | apply Pv.binOp) <;> first | exact rfl | (intro w; go_simp <;> first | exact rfl | exact ⟨rfl, rfl⟩))))))
            | (apply EA.take 2; decide +kernel; exact rfl; kernel_rfl; decide +kernel; exact fun _ _ _ _ h => h; (first | (apply Pg.off; exact rfl) | (apply Pg.any; exact rfl; (first | (apply Pv.auto; exact rfl) | ((first | apply Pv.add | apply Pv.sub | apply Pv.rem | apply Pv.quo) <;> first | exact rfl | omega) | (apply Pv.conv; exact rfl; (intro w; go_simp <;> first | exact rfl | exact ⟨rfl, rfl⟩); (first | exact wrapu64_id (by omega) (by omega) | exact wrap64_id (by omega) (by omega) | exact wrapu8_id (by omega) (by omega) | exact wrapu32_id (by omega) (by omega) | exact wrapu16_id (by omega) (by omega) | exact rfl)) | ((first | apply Pv.beq | apply Pv.bne); exact rfl; exact rfl; kernel_rfl) | ((first | apply Pv.fieldAddr | apply Pv.len | apply Pv.indexAddr | apply Pv.build | apply Pv.field | apply Pv.convert | apply Pv.addw | apply Pv.subw | apply Pv.mulw | apply Pv.binOp) <;> first | exact rfl | (intro w; go_simp <;> first | exact rfl | exact ⟨rfl, rfl⟩))))))
            | (apply EA.take 3; decide +kernel; exact rfl; kernel_rfl; decide +kernel; exact fun _ _ _ _ h => h; (first | (apply Pg.off; exact rfl) | (apply Pg.any; exact rfl; (first | (apply Pv.auto; exact rfl) | ((first | apply Pv.add | apply Pv.sub | apply Pv.rem | apply Pv.quo) <;> first | exact rfl | omega) | (apply Pv.conv; exact rfl; (intro w; go_simp <;> first | exact rfl | exact ⟨rfl, rfl⟩); (first | exact wrapu64_id (by omega) (by omega) | exact wrap64_id (by omega) (by omega) | exact wrapu8_id (by omega) (by omega) | exact wrapu32_id (by omega) (by omega) | exact wrapu16_id (by omega) (by omega) | exact rfl)) | ((first | apply Pv.beq | apply Pv.bne); exact rfl; exact rfl; kernel_rfl) | ((first | apply Pv.fieldAddr | apply Pv.len | apply Pv.indexAddr | apply Pv.build | apply Pv.field | apply Pv.convert | apply Pv.addw | apply Pv.subw | apply Pv.mulw | apply Pv.binOp) <;> first | exact rfl | (intro w; go_simp <;> first | exact rfl | exact ⟨rfl, rfl⟩))))))
            | (apply EA.take 4; decide +kernel; exact rfl; kernel_rfl; decide +kernel; exact fun _ _ _ _ h => h; (first | (apply Pg.off; exact rfl) | (apply Pg.any; exact rfl; (first | (apply Pv.auto; exact rfl) | ((first | apply Pv.add | apply Pv.sub | apply Pv.rem | apply Pv.quo) <;> first | exact rfl | omega) | (apply Pv.conv; exact rfl; (intro w; go_simp <;> first | exact rfl | exact ⟨rfl, rfl⟩); (first | exact wrapu64_id (by omega) (by omega) | exact wrap64_id (by omega) (by omega) | exact wrapu8_id (by omega) (by omega) | exact wrapu32_id (by omega) (by omega) | exact wrapu16_id (by omega) (by omega) | exact rfl)) | ((first | apply Pv.beq | apply Pv.bne); exact rfl; exact rfl; kernel_rfl) | ((first | apply Pv.fieldAddr | apply Pv.len | apply Pv.indexAddr | apply Pv.build | apply Pv.field | apply Pv.convert | apply Pv.addw | apply Pv.subw | apply Pv.mulw | apply Pv.binOp) <;> first | exact rfl | (intro w; go_simp <;> first | exact rfl | exact ⟨rfl, rfl⟩))))))
            | (apply EA.take 5; decide +kernel; exact rfl; kernel_rfl; decide +kernel; exact fun _ _ _ _ h => h; (first | (apply Pg.off; exact rfl) | (apply Pg.any; exact rfl; (first | (apply Pv.auto; exact rfl) | ((first | apply Pv.add | apply Pv.sub | apply Pv.rem | apply Pv.quo) <;> first | exact rfl | omega) | (apply Pv.conv; exact rfl; (intro w; go_simp <;> first | exact rfl | exact ⟨rfl, rfl⟩); (first | exact wrapu64_id (by omega) (by omega) | exact wrap64_id (by omega) (by omega) | exact wrapu8_id (by omega) (by omega) | exact wrapu32_id (by omega) (by omega) | exact wrapu16_id (by omega) (by omega) | exact rfl)) | ((first | apply Pv.beq | apply Pv.bne); exact rfl; exact rfl; kernel_rfl) | ((first | apply Pv.fieldAddr | apply Pv.len | apply Pv.indexAddr | apply Pv.build | apply Pv.field | apply Pv.convert | apply Pv.addw | apply Pv.subw | apply Pv.mulw | apply Pv.binOp) <;> first | exact rfl | (intro w; go_simp <;> first | exact rfl | exact ⟨rfl, rfl⟩))))))
            | (apply EA.take 6; decide +kernel; exact rfl; kernel_rfl; decide +kernel; exact fun _ _ _ _ h => h; (first | (apply Pg.off; exact rfl) | (apply Pg.any; exact rfl; (first | (apply Pv.auto; exact rfl) | ((first | apply Pv.add | apply Pv.sub | apply Pv.rem | apply Pv.quo) <;> first | exact rfl | omega) | (apply Pv.conv; exact rfl; (intro w; go_simp <;> first | exact rfl | exact ⟨rfl, rfl⟩); (first | exact wrapu64_id (by omega) (by omega) | exact wrap64_id (by omega) (by omega) | exact wrapu8_id (by omega) (by omega) | exact wrapu32_id (by omega) (by omega) | exact wrapu16_id (by omega) (by omega) | exact rfl)) | ((first | apply Pv.beq | apply Pv.bne); exact rfl; exact rfl; kernel_rfl) | ((first | apply Pv.fieldAddr | apply Pv.len | apply Pv.indexAddr | apply Pv.build | apply Pv.field | apply Pv.convert | apply Pv.addw | apply Pv.subw | apply Pv.mulw | apply Pv.binOp) <;> first | exact rfl | (intro w; go_simp <;> first | exact rfl | exact ⟨rfl, rfl⟩))))))
            | (apply EA.take 7; decide +kernel; exact rfl; kernel_rfl; decide +kernel; exact fun _ _ _ _ h => h; (first | (apply Pg.off; exact rfl) | (apply Pg.any; exact rfl; (first | (apply Pv.auto; exact rfl) | ((first | apply Pv.add | apply Pv.sub | apply Pv.rem | apply Pv.quo) <;> first | exact rfl | omega) | (apply Pv.conv; exact rfl; (intro w; go_simp <;> first | exact rfl | exact ⟨rfl, rfl⟩); (first | exact wrapu64_id (by omega) (by omega) | exact wrap64_id (by omega) (by omega) | exact wrapu8_id (by omega) (by omega) | exact wrapu32_id (by omega) (by omega) | exact wrapu16_id (by omega) (by omega) | exact rfl)) | ((first | apply Pv.beq | apply Pv.bne); exact rfl; exact rfl; kernel_rfl) | ((first | apply Pv.fieldAddr | apply Pv.len | apply Pv.indexAddr | apply Pv.build | apply Pv.field | apply Pv.convert | apply Pv.addw | apply Pv.subw | apply Pv.mulw | apply Pv.binOp) <;> first | exact rfl | (intro w; go_simp <;> first | exact rfl | exact ⟨rfl, rfl⟩))))))
            | (apply EA.take 8; decide +kernel; exact rfl; kernel_rfl; decide +kernel; exact fun _ _ _ _ h => h; (first | (apply Pg.off; exact rfl) | (apply Pg.any; exact rfl; (first | (apply Pv.auto; exact rfl) | ((first | apply Pv.add | apply Pv.sub | apply Pv.rem | apply Pv.quo) <;> first | exact rfl | omega) | (apply Pv.conv; exact rfl; (intro w; go_simp <;> first | exact rfl | exact ⟨rfl, rfl⟩); (first | exact wrapu64_id (by omega) (by omega) | exact wrap64_id (by omega) (by omega) | exact wrapu8_id (by omega) (by omega) | exact wrapu32_id (by omega) (by omega) | exact wrapu16_id (by omega) (by omega) | exact rfl)) | ((first | apply Pv.beq | apply Pv.bne); exact rfl; exact rfl; kernel_rfl) | ((first | apply Pv.fieldAddr | apply Pv.len | apply Pv.indexAddr | apply Pv.build | apply Pv.field | apply Pv.convert | apply Pv.addw | apply Pv.subw | apply Pv.mulw | apply Pv.binOp) <;> first | exact rfl | (intro w; go_simp <;> first | exact rfl | exact ⟨rfl, rfl⟩))))))
            | (apply EA.take 9; decide +kernel; exact rfl; kernel_rfl; decide +kernel; exact fun _ _ _ _ h => h; (first | (apply Pg.off; exact rfl) | (apply Pg.any; exact rfl; (first | (apply Pv.auto; exact rfl) | ((first | apply Pv.add | apply Pv.sub | apply Pv.rem | apply Pv.quo) <;> first | exact rfl | omega) | (apply Pv.conv; exact rfl; (intro w; go_simp <;> first | exact rfl | exact ⟨rfl, rfl⟩); (first | exact wrapu64_id (by omega) (by omega) | exact wrap64_id (by omega) (by omega) | exact wrapu8_id (by omega) (by omega) | exact wrapu32_id (by omega) (by omega) | exact wrapu16_id (by omega) (by omega) | exact rfl)) | ((first | apply Pv.beq | apply Pv.bne); exact rfl; exact rfl; kernel_rfl) | ((first | apply Pv.fieldAddr | apply Pv.len | apply Pv.indexAddr | apply Pv.build | apply Pv.field | apply Pv.convert | apply Pv.addw | apply Pv.subw | apply Pv.mulw | apply Pv.binOp) <;> first | exact rfl | (intro w; go_simp <;> first | exact rfl | exact ⟨rfl, rfl⟩))))))
            | (apply EA.take 10; decide +kernel; exact rfl; kernel_rfl; decide +kernel; exact fun _ _ _ _ h => h; (first | (apply Pg.off; exact rfl) | (apply Pg.any; exact rfl; (first | (apply Pv.auto; exact rfl) | ((first | apply Pv.add | apply Pv.sub | apply Pv.rem | apply Pv.quo) <;> first | exact rfl | omega) | (apply Pv.conv; exact rfl; (intro w; go_simp <;> first | exact rfl | exact ⟨rfl, rfl⟩); (first | exact wrapu64_id (by omega) (by omega) | exact wrap64_id (by omega) (by omega) | exact wrapu8_id (by omega) (by omega) | exact wrapu32_id (by omega) (by omega) | exact wrapu16_id (by omega) (by omega) | exact rfl)) | ((first | apply Pv.beq | apply Pv.bne); exact rfl; exact rfl; kernel_rfl) | ((first | apply Pv.fieldAddr | apply Pv.len | apply Pv.indexAddr | apply Pv.build | apply Pv.field | apply Pv.convert | apply Pv.addw | apply Pv.subw | apply Pv.mulw | apply Pv.binOp) <;> first | exact rfl | (intro w; go_simp <;> first | exact rfl | exact ⟨rfl, rfl⟩))))))
            | (apply EA.take 11; decide +kernel; exact rfl; kernel_rfl; decide +kernel; exact fun _ _ _ _ h => h; (first | (apply Pg.off; exact rfl) | (apply Pg.any; exact rfl; (first | (apply Pv.auto; exact rfl) | ((first | apply Pv.add | apply Pv.sub | apply Pv.rem | apply Pv.quo) <;> first | exact rfl | omega) | (apply Pv.conv; exact rfl; (intro w; go_simp <;> first | exact rfl | exact ⟨rfl, rfl⟩); (first | exact wrapu64_id (by omega) (by omega) | exact wrap64_id (by omega) (by omega) | exact wrapu8_id (by omega) (by omega) | exact wrapu32_id (by omega) (by omega) | exact wrapu16_id (by omega) (by omega) | exact rfl)) | ((first | apply Pv.beq | apply Pv.bne); exact rfl; exact rfl; kernel_rfl) | ((first | apply Pv.fieldAddr | apply Pv.len | apply Pv.indexAddr | apply Pv.build | apply Pv.field | apply Pv.convert | apply Pv.addw | apply Pv.subw | apply Pv.mulw | apply Pv.binOp) <;> first | exact rfl | (intro w; go_simp <;> first | exact rfl | exact ⟨rfl, rfl⟩)))))))
          apply EA.done
          · decide +kernel
          exact A.meet () (by repeat (first | exact trivial | refine ⟨rfl, ?_⟩)) hs
      clear hs
      rintro _ w7 hs
      repeat (first
        | (apply E.pv; (first | (apply Pv.auto; exact rfl) | ((first | apply Pv.add | apply Pv.sub | apply Pv.rem | apply Pv.quo) <;> first | exact rfl | omega) | (apply Pv.conv; exact rfl; (intro w; go_simp <;> first | exact rfl | exact ⟨rfl, rfl⟩); (first | exact wrapu64_id (by omega) (by omega) | exact wrap64_id (by omega) (by omega) | exact wrapu8_id (by omega) (by omega) | exact wrapu32_id (by omega) (by omega) | exact wrapu16_id (by omega) (by omega) | exact rfl)) | ((first | apply Pv.beq | apply Pv.bne); exact rfl; exact rfl; kernel_rfl) | ((first | apply Pv.fieldAddr | apply Pv.len | apply Pv.indexAddr | apply Pv.build | apply Pv.field | apply Pv.convert | apply Pv.addw | apply Pv.subw | apply Pv.mulw | apply Pv.binOp) <;> first | exact rfl | (intro w; go_simp <;> first | exact rfl | exact ⟨rfl, rfl⟩))))
        | (first | apply C.region_seq | apply E.nil | apply A.next | apply A.ret_then | apply A.exit_then | apply A.block_end | apply A.block_ret | apply A.block_exit | apply C.seq | apply C.region | apply C.skip | apply C.ret | apply C.exit)
        | (apply E.guard; exact rfl; exact rfl)
        | (apply E.passed; exact rfl; exact rfl; exact rfl)
        | ((first | apply A.block_other | apply C.cond_true); exact rfl)
        | (apply C.cond_false; exact rfl)
        | apply C.block
        | ((first | (apply E.cons; apply St.load hs) | apply St.load hs); exact rfl; (repeat (first | exact Fd.here | refine Fd.there ?_)); exact rfl; go_simp))
      apply E.pv
      · apply Pv.slice
        · exact rfl
        · exact rfl
        · exact rfl
        · exact rfl
        · exact run_slice_h_at el_ln (by omega)
      have hs := hs.nilOwn (E := 43) (size := 4)
      apply E.cons
      apply St.append el_ln hs (hs.pull3.rowSub 0 p lc 0 (.inr (by simp)) (by omega) (by omega) (by omega)) (fun u hu => lnCells_one ls u (List.mem_of_mem_drop (List.mem_of_mem_take hu))) (by omega) (by omega)
      · exact rfl
      · exact rfl
      intro la1 lc1 w8 _ _ hs
      repeat (first
        | (apply E.pv; (first | (apply Pv.auto; exact rfl) | ((first | apply Pv.add | apply Pv.sub | apply Pv.rem | apply Pv.quo) <;> first | exact rfl | omega) | (apply Pv.conv; exact rfl; (intro w; go_simp <;> first | exact rfl | exact ⟨rfl, rfl⟩); (first | exact wrapu64_id (by omega) (by omega) | exact wrap64_id (by omega) (by omega) | exact wrapu8_id (by omega) (by omega) | exact wrapu32_id (by omega) (by omega) | exact wrapu16_id (by omega) (by omega) | exact rfl)) | ((first | apply Pv.beq | apply Pv.bne); exact rfl; exact rfl; kernel_rfl) | ((first | apply Pv.fieldAddr | apply Pv.len | apply Pv.indexAddr | apply Pv.build | apply Pv.field | apply Pv.convert | apply Pv.addw | apply Pv.subw | apply Pv.mulw | apply Pv.binOp) <;> first | exact rfl | (intro w; go_simp <;> first | exact rfl | exact ⟨rfl, rfl⟩))))
        | (first | apply C.region_seq | apply E.nil | apply A.next | apply A.ret_then | apply A.exit_then | apply A.block_end | apply A.block_ret | apply A.block_exit | apply C.seq | apply C.region | apply C.skip | apply C.ret | apply C.exit)
        | (apply E.guard; exact rfl; exact rfl)
        | (apply E.passed; exact rfl; exact rfl; exact rfl)
        | ((first | apply A.block_other | apply C.cond_true); exact rfl)
        | (apply C.cond_false; exact rfl)
        | apply C.block
        | ((first | (apply E.cons; apply St.load hs) | apply St.load hs); exact rfl; (repeat (first | exact Fd.here | refine Fd.there ?_)); exact rfl; go_simp))
      obtain ⟨o, ho, ho2⟩ := run_slice_l_at (o0 := 0) (b := lb) (c := lc) el_ln (show p + 1 ≤ ls.length by omega)
      apply E.pv
      · apply Pv.slice
        · exact rfl
        · exact rfl
        · exact rfl
        · exact rfl
        · exact ho
      apply E.cons
      apply St.append el_ln hs (hs.pull3.rowSub (p + 1) (ls.length - (p + 1)) (lc - (p + 1)) o (ho2.imp (by omega) (by intro h; simpa using h)) (by omega) (by omega) (by omega)) (fun u hu => lnCells_one ls u (List.mem_of_mem_drop (List.mem_of_mem_take hu))) (by omega) (by omega)
      · exact rfl
      · exact rfl
      intro la2 lc2 w9 _ _ hs
      repeat (first
        | (apply E.pv; (first | (apply Pv.auto; exact rfl) | ((first | apply Pv.add | apply Pv.sub | apply Pv.rem | apply Pv.quo) <;> first | exact rfl | omega) | (apply Pv.conv; exact rfl; (intro w; go_simp <;> first | exact rfl | exact ⟨rfl, rfl⟩); (first | exact wrapu64_id (by omega) (by omega) | exact wrap64_id (by omega) (by omega) | exact wrapu8_id (by omega) (by omega) | exact wrapu32_id (by omega) (by omega) | exact wrapu16_id (by omega) (by omega) | exact rfl)) | ((first | apply Pv.beq | apply Pv.bne); exact rfl; exact rfl; kernel_rfl) | ((first | apply Pv.fieldAddr | apply Pv.len | apply Pv.indexAddr | apply Pv.build | apply Pv.field | apply Pv.convert | apply Pv.addw | apply Pv.subw | apply Pv.mulw | apply Pv.binOp) <;> first | exact rfl | (intro w; go_simp <;> first | exact rfl | exact ⟨rfl, rfl⟩))))
        | (first | apply C.region_seq | apply E.nil | apply A.next | apply A.ret_then | apply A.exit_then | apply A.block_end | apply A.block_ret | apply A.block_exit | apply C.seq | apply C.region | apply C.skip | apply C.ret | apply C.exit)
        | (apply E.guard; exact rfl; exact rfl)
        | (apply E.passed; exact rfl; exact rfl; exact rfl)
        | ((first | apply A.block_other | apply C.cond_true); exact rfl)
        | (apply C.cond_false; exact rfl)
        | apply C.block
        | ((first | (apply E.cons; apply St.load hs) | apply St.load hs); exact rfl; (repeat (first | exact Fd.here | refine Fd.there ?_)); exact rfl; go_simp))
      have e3 : 0 + p + (ls.length - (p + 1)) = (ls.take p ++ ls.drop (p + 1)).length := by simp; omega
      have e1 : [] ++ ((lnCells ls).drop (0 * 4)).take (p * 4) ++ ((lnCells ls).drop ((p + 1) * 4)).take ((ls.length - (p + 1)) * 4) = lnCells (ls.take p ++ ls.drop (p + 1)) := by
        rw [List.nil_append, Nat.zero_mul, List.drop_zero, lnCells_take, lnCells_drop, lnCells_take, List.take_of_length_le (l := ls.drop (p + 1)) (by simp), lnCells_append]
      have e2 : (ls.map Ln.pk).take p ++ (ls.map Ln.pk).drop (p + 1) = (ls.take p ++ ls.drop (p + 1)).map Ln.pk := by simp
      have hs := hs.swap.drop.pull2.drop.swap
      rw [e1, e2, e3] at hs
      rw [e3]
      refine A.meet (ls.take p ++ ls.drop (p + 1), la2, lc2, g2) (by repeat (first | exact trivial | refine ⟨rfl, ?_⟩)) ⟨fun _ _ h => h, by simp; omega, hs, ?_⟩
      intro x hx
      rcases List.mem_append.1 hx with hx | hx
      · exact hlt x (List.mem_of_mem_take hx)
      · exact hlt x (List.mem_of_mem_drop hx)
  · rcases hi with ⟨rfl, rfl⟩ | ⟨p, x, rfl, hk, hx⟩
    · repeat (first
        | (apply E.pv; (first | (apply Pv.auto; exact rfl) | ((first | apply Pv.add | apply Pv.sub | apply Pv.rem | apply Pv.quo) <;> first | exact rfl | omega) | (apply Pv.conv; exact rfl; (intro w; go_simp <;> first | exact rfl | exact ⟨rfl, rfl⟩); (first | exact wrapu64_id (by omega) (by omega) | exact wrap64_id (by omega) (by omega) | exact wrapu8_id (by omega) (by omega) | exact wrapu32_id (by omega) (by omega) | exact wrapu16_id (by omega) (by omega) | exact rfl)) | ((first | apply Pv.beq | apply Pv.bne); exact rfl; exact rfl; kernel_rfl) | ((first | apply Pv.fieldAddr | apply Pv.len | apply Pv.indexAddr | apply Pv.build | apply Pv.field | apply Pv.convert | apply Pv.addw | apply Pv.subw | apply Pv.mulw | apply Pv.binOp) <;> first | exact rfl | (intro w; go_simp <;> first | exact rfl | exact ⟨rfl, rfl⟩))))
        | (first | apply C.region_seq | apply E.nil | apply A.next | apply A.ret_then | apply A.exit_then | apply A.block_end | apply A.block_ret | apply A.block_exit | apply C.seq | apply C.region | apply C.skip | apply C.ret | apply C.exit)
        | (apply E.guard; exact rfl; exact rfl)
        | (apply E.passed; exact rfl; exact rfl; exact rfl)
        | ((first | apply A.block_other | apply C.cond_true); exact rfl)
        | (apply C.cond_false; exact rfl)
        | apply C.block
        | ((first | (apply E.cons; apply St.load hs) | apply St.load hs); exact rfl; (repeat (first | exact Fd.here | refine Fd.there ?_)); exact rfl; go_simp))
      apply E.call Try.func9 rfl rfl
      · exact rfl
      refine double_none hs ?_
      repeat (first
        | (apply E.pv; (first | (apply Pv.auto; exact rfl) | ((first | apply Pv.add | apply Pv.sub | apply Pv.rem | apply Pv.quo) <;> first | exact rfl | omega) | (apply Pv.conv; exact rfl; (intro w; go_simp <;> first | exact rfl | exact ⟨rfl, rfl⟩); (first | exact wrapu64_id (by omega) (by omega) | exact wrap64_id (by omega) (by omega) | exact wrapu8_id (by omega) (by omega) | exact wrapu32_id (by omega) (by omega) | exact wrapu16_id (by omega) (by omega) | exact rfl)) | ((first | apply Pv.beq | apply Pv.bne); exact rfl; exact rfl; kernel_rfl) | ((first | apply Pv.fieldAddr | apply Pv.len | apply Pv.indexAddr | apply Pv.build | apply Pv.field | apply Pv.convert | apply Pv.addw | apply Pv.subw | apply Pv.mulw | apply Pv.binOp) <;> first | exact rfl | (intro w; go_simp <;> first | exact rfl | exact ⟨rfl, rfl⟩))))
        | (first | apply C.region_seq | apply E.nil | apply A.next | apply A.ret_then | apply A.exit_then | apply A.block_end | apply A.block_ret | apply A.block_exit | apply C.seq | apply C.region | apply C.skip | apply C.ret | apply C.exit)
        | (apply E.guard; exact rfl; exact rfl)
        | (apply E.passed; exact rfl; exact rfl; exact rfl)
        | ((first | apply A.block_other | apply C.cond_true); exact rfl)
        | (apply C.cond_false; exact rfl)
        | apply C.block
        | ((first | (apply E.cons; apply St.load hs) | apply St.load hs); exact rfl; (repeat (first | exact Fd.here | refine Fd.there ?_)); exact rfl; go_simp))
      exact A.meet ([], la, lc, g2) (by repeat (first | exact trivial | refine ⟨rfl, ?_⟩)) ⟨fun _ _ h => h, by simp, hs, fun x hx => by cases hx⟩
    · have hp : p < ls.length := (List.getElem?_eq_some_iff.1 hx).1
      obtain ⟨lb, rfl⟩ := own_addr hs.swap (by omega)
      repeat (first
        | (apply E.pv; (first | (apply Pv.auto; exact rfl) | ((first | apply Pv.add | apply Pv.sub | apply Pv.rem | apply Pv.quo) <;> first | exact rfl | omega) | (apply Pv.conv; exact rfl; (intro w; go_simp <;> first | exact rfl | exact ⟨rfl, rfl⟩); (first | exact wrapu64_id (by omega) (by omega) | exact wrap64_id (by omega) (by omega) | exact wrapu8_id (by omega) (by omega) | exact wrapu32_id (by omega) (by omega) | exact wrapu16_id (by omega) (by omega) | exact rfl)) | ((first | apply Pv.beq | apply Pv.bne); exact rfl; exact rfl; kernel_rfl) | ((first | apply Pv.fieldAddr | apply Pv.len | apply Pv.indexAddr | apply Pv.build | apply Pv.field | apply Pv.convert | apply Pv.addw | apply Pv.subw | apply Pv.mulw | apply Pv.binOp) <;> first | exact rfl | (intro w; go_simp <;> first | exact rfl | exact ⟨rfl, rfl⟩))))
        | (first | apply C.region_seq | apply E.nil | apply A.next | apply A.ret_then | apply A.exit_then | apply A.block_end | apply A.block_ret | apply A.block_exit | apply C.seq | apply C.region | apply C.skip | apply C.ret | apply C.exit)
        | (apply E.guard; exact rfl; exact rfl)
        | (apply E.passed; exact rfl; exact rfl; exact rfl)
        | ((first | apply A.block_other | apply C.cond_true); exact rfl)
        | (apply C.cond_false; exact rfl)
        | apply C.block
        | ((first | (apply E.cons; apply St.load hs) | apply St.load hs); exact rfl; (repeat (first | exact Fd.here | refine Fd.there ?_)); exact rfl; go_simp))
      apply E.call Try.func9 rfl rfl
      · exact rfl
      refine double_some (k := p) (x := x.pk) hs (by rw [List.length_map]; exact hk) (by simp [hx]) (by rw [List.length_map]; omega) ?_
      intro w4 g3 hg4 hs
      repeat (first
        | (apply E.pv; (first | (apply Pv.auto; exact rfl) | ((first | apply Pv.add | apply Pv.sub | apply Pv.rem | apply Pv.quo) <;> first | exact rfl | omega) | (apply Pv.conv; exact rfl; (intro w; go_simp <;> first | exact rfl | exact ⟨rfl, rfl⟩); (first | exact wrapu64_id (by omega) (by omega) | exact wrap64_id (by omega) (by omega) | exact wrapu8_id (by omega) (by omega) | exact wrapu32_id (by omega) (by omega) | exact wrapu16_id (by omega) (by omega) | exact rfl)) | ((first | apply Pv.beq | apply Pv.bne); exact rfl; exact rfl; kernel_rfl) | ((first | apply Pv.fieldAddr | apply Pv.len | apply Pv.indexAddr | apply Pv.build | apply Pv.field | apply Pv.convert | apply Pv.addw | apply Pv.subw | apply Pv.mulw | apply Pv.binOp) <;> first | exact rfl | (intro w; go_simp <;> first | exact rfl | exact ⟨rfl, rfl⟩))))
        | (first | apply C.region_seq | apply E.nil | apply A.next | apply A.ret_then | apply A.exit_then | apply A.block_end | apply A.block_ret | apply A.block_exit | apply C.seq | apply C.region | apply C.skip | apply C.ret | apply C.exit)
        | (apply E.guard; exact rfl; exact rfl)
        | (apply E.passed; exact rfl; exact rfl; exact rfl)
        | ((first | apply A.block_other | apply C.cond_true); exact rfl)
        | (apply C.cond_false; exact rfl)
        | apply C.block
        | ((first | (apply E.cons; apply St.load hs) | apply St.load hs); exact rfl; (repeat (first | exact Fd.here | refine Fd.there ?_)); exact rfl; go_simp))
      apply E.cons
      apply St.loads
      · exact rfl
      · exact ld_ln hs.swap hx
      apply E.cons
      apply St.buildSlice hs
      · exact rfl
      · go_simp; first | done | exact rfl | exact ⟨rfl, rfl⟩
      intro b3 w5 hs
      have hrw := hs.rowOf (size := 4) 1 rfl (by decide)
      apply E.cons
      apply St.append el_ln hs.pull2 hrw
      · intro u hu
        simp only [List.mem_cons, List.not_mem_nil, or_false] at hu
        rcases hu with rfl | rfl | rfl | rfl <;> rfl
      · omega
      · omega
      · exact rfl
      · exact rfl
      intro la' lc' w7 hc1 hc2 hs
      repeat (first
        | (apply E.pv; (first | (apply Pv.auto; exact rfl) | ((first | apply Pv.add | apply Pv.sub | apply Pv.rem | apply Pv.quo) <;> first | exact rfl | omega) | (apply Pv.conv; exact rfl; (intro w; go_simp <;> first | exact rfl | exact ⟨rfl, rfl⟩); (first | exact wrapu64_id (by omega) (by omega) | exact wrap64_id (by omega) (by omega) | exact wrapu8_id (by omega) (by omega) | exact wrapu32_id (by omega) (by omega) | exact wrapu16_id (by omega) (by omega) | exact rfl)) | ((first | apply Pv.beq | apply Pv.bne); exact rfl; exact rfl; kernel_rfl) | ((first | apply Pv.fieldAddr | apply Pv.len | apply Pv.indexAddr | apply Pv.build | apply Pv.field | apply Pv.convert | apply Pv.addw | apply Pv.subw | apply Pv.mulw | apply Pv.binOp) <;> first | exact rfl | (intro w; go_simp <;> first | exact rfl | exact ⟨rfl, rfl⟩))))
        | (first | apply C.region_seq | apply E.nil | apply A.next | apply A.ret_then | apply A.exit_then | apply A.block_end | apply A.block_ret | apply A.block_exit | apply C.seq | apply C.region | apply C.skip | apply C.ret | apply C.exit)
        | (apply E.guard; exact rfl; exact rfl)
        | (apply E.passed; exact rfl; exact rfl; exact rfl)
        | ((first | apply A.block_other | apply C.cond_true); exact rfl)
        | (apply C.cond_false; exact rfl)
        | apply C.block
        | ((first | (apply E.cons; apply St.load hs) | apply St.load hs); exact rfl; (repeat (first | exact Fd.here | refine Fd.there ?_)); exact rfl; go_simp))
      have e1 : lnCells ls ++ [.int .i64 x.n, .int .u8 x.a.toNat, .int .u8 x.b.toNat, .bool x.bent] = lnCells (ls ++ [x]) := lnCells_snoc _ _
      have e2 : ls.map Ln.pk ++ [x.pk] = (ls ++ [x]).map Ln.pk := by rw [List.map_append]; rfl
      have e3 : ls.length + 1 = (ls ++ [x]).length := by simp
      have hs := hs.swap.drop.swap
      rw [e1, e2, e3] at hs
      rw [e3]
      refine A.meet (ls ++ [x], la', lc', g3) (by repeat (first | exact trivial | refine ⟨rfl, ?_⟩)) ⟨hg4, by simp; omega, hs, ?_⟩
      intro z hz
      rcases List.mem_append.1 hz with hz | hz
      · exact hlt z hz
      · simp only [List.mem_singleton] at hz
        subst hz
        exact hlt z (List.mem_of_getElem? hx)
  · rcases hi with ⟨rfl, rfl⟩ | ⟨p, x, rfl, hk, hx⟩
    · repeat (first
        | (apply E.pv; (first | (apply Pv.auto; exact rfl) | ((first | apply Pv.add | apply Pv.sub | apply Pv.rem | apply Pv.quo) <;> first | exact rfl | omega) | (apply Pv.conv; exact rfl; (intro w; go_simp <;> first | exact rfl | exact ⟨rfl, rfl⟩); (first | exact wrapu64_id (by omega) (by omega) | exact wrap64_id (by omega) (by omega) | exact wrapu8_id (by omega) (by omega) | exact wrapu32_id (by omega) (by omega) | exact wrapu16_id (by omega) (by omega) | exact rfl)) | ((first | apply Pv.beq | apply Pv.bne); exact rfl; exact rfl; kernel_rfl) | ((first | apply Pv.fieldAddr | apply Pv.len | apply Pv.indexAddr | apply Pv.build | apply Pv.field | apply Pv.convert | apply Pv.addw | apply Pv.subw | apply Pv.mulw | apply Pv.binOp) <;> first | exact rfl | (intro w; go_simp <;> first | exact rfl | exact ⟨rfl, rfl⟩))))
        | (first | apply C.region_seq | apply E.nil | apply A.next | apply A.ret_then | apply A.exit_then | apply A.block_end | apply A.block_ret | apply A.block_exit | apply C.seq | apply C.region | apply C.skip | apply C.ret | apply C.exit)
        | (apply E.guard; exact rfl; exact rfl)
        | (apply E.passed; exact rfl; exact rfl; exact rfl)
        | ((first | apply A.block_other | apply C.cond_true); exact rfl)
        | (apply C.cond_false; exact rfl)
        | apply C.block
        | ((first | (apply E.cons; apply St.load hs) | apply St.load hs); exact rfl; (repeat (first | exact Fd.here | refine Fd.there ?_)); exact rfl; go_simp))
      apply E.call Try.func13 rfl rfl
      · exact rfl
      refine bend_none hs ?_
      repeat (first
        | (apply E.pv; (first | (apply Pv.auto; exact rfl) | ((first | apply Pv.add | apply Pv.sub | apply Pv.rem | apply Pv.quo) <;> first | exact rfl | omega) | (apply Pv.conv; exact rfl; (intro w; go_simp <;> first | exact rfl | exact ⟨rfl, rfl⟩); (first | exact wrapu64_id (by omega) (by omega) | exact wrap64_id (by omega) (by omega) | exact wrapu8_id (by omega) (by omega) | exact wrapu32_id (by omega) (by omega) | exact wrapu16_id (by omega) (by omega) | exact rfl)) | ((first | apply Pv.beq | apply Pv.bne); exact rfl; exact rfl; kernel_rfl) | ((first | apply Pv.fieldAddr | apply Pv.len | apply Pv.indexAddr | apply Pv.build | apply Pv.field | apply Pv.convert | apply Pv.addw | apply Pv.subw | apply Pv.mulw | apply Pv.binOp) <;> first | exact rfl | (intro w; go_simp <;> first | exact rfl | exact ⟨rfl, rfl⟩))))
        | (first | apply C.region_seq | apply E.nil | apply A.next | apply A.ret_then | apply A.exit_then | apply A.block_end | apply A.block_ret | apply A.block_exit | apply C.seq | apply C.region | apply C.skip | apply C.ret | apply C.exit)
        | (apply E.guard; exact rfl; exact rfl)
        | (apply E.passed; exact rfl; exact rfl; exact rfl)
        | ((first | apply A.block_other | apply C.cond_true); exact rfl)
        | (apply C.cond_false; exact rfl)
        | apply C.block
        | ((first | (apply E.cons; apply St.load hs) | apply St.load hs); exact rfl; (repeat (first | exact Fd.here | refine Fd.there ?_)); exact rfl; go_simp))
      exact A.round (n0 - (j + 1)) ⟨j + 1, [], la, lc, g2⟩ (by omega) (by repeat (first | exact trivial | refine ⟨rfl, ?_⟩)) ⟨rfl, by simp only; omega, hg2, by simp, hs, fun x hx => by cases hx⟩
    · have hp : p < ls.length := (List.getElem?_eq_some_iff.1 hx).1
      obtain ⟨lb, rfl⟩ := own_addr hs.swap (by omega)
      have hgx : (ls.map Ln.pk)[p]? = some x.pk := by simp [hx]
      cases hb : x.bent
      · repeat (first
          | (apply E.pv; (first | (apply Pv.auto; exact rfl) | ((first | apply Pv.add | apply Pv.sub | apply Pv.rem | apply Pv.quo) <;> first | exact rfl | omega) | (apply Pv.conv; exact rfl; (intro w; go_simp <;> first | exact rfl | exact ⟨rfl, rfl⟩); (first | exact wrapu64_id (by omega) (by omega) | exact wrap64_id (by omega) (by omega) | exact wrapu8_id (by omega) (by omega) | exact wrapu32_id (by omega) (by omega) | exact wrapu16_id (by omega) (by omega) | exact rfl)) | ((first | apply Pv.beq | apply Pv.bne); exact rfl; exact rfl; kernel_rfl) | ((first | apply Pv.fieldAddr | apply Pv.len | apply Pv.indexAddr | apply Pv.build | apply Pv.field | apply Pv.convert | apply Pv.addw | apply Pv.subw | apply Pv.mulw | apply Pv.binOp) <;> first | exact rfl | (intro w; go_simp <;> first | exact rfl | exact ⟨rfl, rfl⟩))))
          | (first | apply C.region_seq | apply E.nil | apply A.next | apply A.ret_then | apply A.exit_then | apply A.block_end | apply A.block_ret | apply A.block_exit | apply C.seq | apply C.region | apply C.skip | apply C.ret | apply C.exit)
          | (apply E.guard; exact rfl; exact rfl)
          | (apply E.passed; exact rfl; exact rfl; exact rfl)
          | ((first | apply A.block_other | apply C.cond_true); exact rfl)
          | (apply C.cond_false; exact rfl)
          | apply C.block
          | ((first | (apply E.cons; apply St.load hs) | apply St.load hs); exact rfl; (repeat (first | exact Fd.here | refine Fd.there ?_)); exact rfl; go_simp))
        apply E.call Try.func13 rfl rfl
        · exact rfl
        refine bend_some (k := p) (x := x.pk) hs (by rw [List.length_map]; exact hk) hgx (by rw [List.length_map]; omega) hb ?_
        intro w4 g3 hg4 hs
        repeat (first
          | (apply E.pv; (first | (apply Pv.auto; exact rfl) | ((first | apply Pv.add | apply Pv.sub | apply Pv.rem | apply Pv.quo) <;> first | exact rfl | omega) | (apply Pv.conv; exact rfl; (intro w; go_simp <;> first | exact rfl | exact ⟨rfl, rfl⟩); (first | exact wrapu64_id (by omega) (by omega) | exact wrap64_id (by omega) (by omega) | exact wrapu8_id (by omega) (by omega) | exact wrapu32_id (by omega) (by omega) | exact wrapu16_id (by omega) (by omega) | exact rfl)) | ((first | apply Pv.beq | apply Pv.bne); exact rfl; exact rfl; kernel_rfl) | ((first | apply Pv.fieldAddr | apply Pv.len | apply Pv.indexAddr | apply Pv.build | apply Pv.field | apply Pv.convert | apply Pv.addw | apply Pv.subw | apply Pv.mulw | apply Pv.binOp) <;> first | exact rfl | (intro w; go_simp <;> first | exact rfl | exact ⟨rfl, rfl⟩))))
          | (first | apply C.region_seq | apply E.nil | apply A.next | apply A.ret_then | apply A.exit_then | apply A.block_end | apply A.block_ret | apply A.block_exit | apply C.seq | apply C.region | apply C.skip | apply C.ret | apply C.exit)
          | (apply E.guard; exact rfl; exact rfl)
          | (apply E.passed; exact rfl; exact rfl; exact rfl)
          | ((first | apply A.block_other | apply C.cond_true); exact rfl)
          | (apply C.cond_false; exact rfl)
          | apply C.block
          | ((first | (apply E.cons; apply St.load hs) | apply St.load hs); exact rfl; (repeat (first | exact Fd.here | refine Fd.there ?_)); exact rfl; go_simp))
        apply E.cons
        apply St.loadc
        · exact rfl
        · exact hs.swap.ownCell (lnCells_get hx 3 (by omega))
        · go_simp
        repeat (first
          | (apply E.pv; (first | (apply Pv.auto; exact rfl) | ((first | apply Pv.add | apply Pv.sub | apply Pv.rem | apply Pv.quo) <;> first | exact rfl | omega) | (apply Pv.conv; exact rfl; (intro w; go_simp <;> first | exact rfl | exact ⟨rfl, rfl⟩); (first | exact wrapu64_id (by omega) (by omega) | exact wrap64_id (by omega) (by omega) | exact wrapu8_id (by omega) (by omega) | exact wrapu32_id (by omega) (by omega) | exact wrapu16_id (by omega) (by omega) | exact rfl)) | ((first | apply Pv.beq | apply Pv.bne); exact rfl; exact rfl; kernel_rfl) | ((first | apply Pv.fieldAddr | apply Pv.len | apply Pv.indexAddr | apply Pv.build | apply Pv.field | apply Pv.convert | apply Pv.addw | apply Pv.subw | apply Pv.mulw | apply Pv.binOp) <;> first | exact rfl | (intro w; go_simp <;> first | exact rfl | exact ⟨rfl, rfl⟩))))
          | (first | apply C.region_seq | apply E.nil | apply A.next | apply A.ret_then | apply A.exit_then | apply A.block_end | apply A.block_ret | apply A.block_exit | apply C.seq | apply C.region | apply C.skip | apply C.ret | apply C.exit)
          | (apply E.guard; exact rfl; exact rfl)
          | (apply E.passed; exact rfl; exact rfl; exact rfl)
          | ((first | apply A.block_other | apply C.cond_true); exact rfl)
          | (apply C.cond_false; exact rfl)
          | apply C.block
          | ((first | (apply E.cons; apply St.load hs) | apply St.load hs); exact rfl; (repeat (first | exact Fd.here | refine Fd.there ?_)); exact rfl; go_simp))
        refine C.cond (b := x.bent) rfl (fun h => by rw [hb] at h; cases h) (fun _ => ?_)
        repeat (first
          | (apply E.pv; (first | (apply Pv.auto; exact rfl) | ((first | apply Pv.add | apply Pv.sub | apply Pv.rem | apply Pv.quo) <;> first | exact rfl | omega) | (apply Pv.conv; exact rfl; (intro w; go_simp <;> first | exact rfl | exact ⟨rfl, rfl⟩); (first | exact wrapu64_id (by omega) (by omega) | exact wrap64_id (by omega) (by omega) | exact wrapu8_id (by omega) (by omega) | exact wrapu32_id (by omega) (by omega) | exact wrapu16_id (by omega) (by omega) | exact rfl)) | ((first | apply Pv.beq | apply Pv.bne); exact rfl; exact rfl; kernel_rfl) | ((first | apply Pv.fieldAddr | apply Pv.len | apply Pv.indexAddr | apply Pv.build | apply Pv.field | apply Pv.convert | apply Pv.addw | apply Pv.subw | apply Pv.mulw | apply Pv.binOp) <;> first | exact rfl | (intro w; go_simp <;> first | exact rfl | exact ⟨rfl, rfl⟩))))
          | (first | apply C.region_seq | apply E.nil | apply A.next | apply A.ret_then | apply A.exit_then | apply A.block_end | apply A.block_ret | apply A.block_exit | apply C.seq | apply C.region | apply C.skip | apply C.ret | apply C.exit)
          | (apply E.guard; exact rfl; exact rfl)
          | (apply E.passed; exact rfl; exact rfl; exact rfl)
          | ((first | apply A.block_other | apply C.cond_true); exact rfl)
          | (apply C.cond_false; exact rfl)
          | apply C.block
          | ((first | (apply E.cons; apply St.load hs) | apply St.load hs); exact rfl; (repeat (first | exact Fd.here | refine Fd.there ?_)); exact rfl; go_simp))
        refine C.cut (fun v : Int => [(0, .slice (some ⟨ab, ao, none⟩) n0 c0), (1, .slice a1 n1 c1), (2, .slice a2 n2 c2), (7, .pointer (some ⟨b, 0, none⟩)), (8, .slice (some ⟨lb, 0, none⟩) ls.length lc), (9, .int .i64 j), (10, .int .i64 k), (11, .int .i64 y), (12, .int .i64 p), (19, .int .i64 0), (20, .int .u8 v)]) (fun v w => w = w4 ∧ v = ((bendT y).toNat : Int)) ?_ ?_
        · have hbt : IntKind.u8.wrap y = y % 256 := by simp [IntKind.wrap, IntKind.bits, IntKind.signed]
          have hbn : (bendT y).toNat = (max ((y % 18446744073709551616) % 256) 1).toNat := by
            unfold bendT
            rw [UInt8.toNat_ofNat']
            omega
          refine C.cond_dec (p := IntKind.u8.wrap y = 0) rfl (fun h => ?_) (fun h => ?_)
          · repeat (first
              | (apply E.pv; (first | (apply Pv.auto; exact rfl) | ((first | apply Pv.add | apply Pv.sub | apply Pv.rem | apply Pv.quo) <;> first | exact rfl | omega) | (apply Pv.conv; exact rfl; (intro w; go_simp <;> first | exact rfl | exact ⟨rfl, rfl⟩); (first | exact wrapu64_id (by omega) (by omega) | exact wrap64_id (by omega) (by omega) | exact wrapu8_id (by omega) (by omega) | exact wrapu32_id (by omega) (by omega) | exact wrapu16_id (by omega) (by omega) | exact rfl)) | ((first | apply Pv.beq | apply Pv.bne); exact rfl; exact rfl; kernel_rfl) | ((first | apply Pv.fieldAddr | apply Pv.len | apply Pv.indexAddr | apply Pv.build | apply Pv.field | apply Pv.convert | apply Pv.addw | apply Pv.subw | apply Pv.mulw | apply Pv.binOp) <;> first | exact rfl | (intro w; go_simp <;> first | exact rfl | exact ⟨rfl, rfl⟩))))
              | (first | apply C.region_seq | apply E.nil | apply A.next | apply A.ret_then | apply A.exit_then | apply A.block_end | apply A.block_ret | apply A.block_exit | apply C.seq | apply C.region | apply C.skip | apply C.ret | apply C.exit)
              | (apply E.guard; exact rfl; exact rfl)
              | (apply E.passed; exact rfl; exact rfl; exact rfl)
              | ((first | apply A.block_other | apply C.cond_true); exact rfl)
              | (apply C.cond_false; exact rfl)
              | apply C.block
              | ((first | (apply E.cons; apply St.load hs) | apply St.load hs); exact rfl; (repeat (first | exact Fd.here | refine Fd.there ?_)); exact rfl; go_simp))
            exact A.meet 1 (by repeat (first | exact trivial | refine ⟨rfl, ?_⟩)) ⟨rfl, by omega⟩
          · repeat (first
              | (apply E.pv; (first | (apply Pv.auto; exact rfl) | ((first | apply Pv.add | apply Pv.sub | apply Pv.rem | apply Pv.quo) <;> first | exact rfl | omega) | (apply Pv.conv; exact rfl; (intro w; go_simp <;> first | exact rfl | exact ⟨rfl, rfl⟩); (first | exact wrapu64_id (by omega) (by omega) | exact wrap64_id (by omega) (by omega) | exact wrapu8_id (by omega) (by omega) | exact wrapu32_id (by omega) (by omega) | exact wrapu16_id (by omega) (by omega) | exact rfl)) | ((first | apply Pv.beq | apply Pv.bne); exact rfl; exact rfl; kernel_rfl) | ((first | apply Pv.fieldAddr | apply Pv.len | apply Pv.indexAddr | apply Pv.build | apply Pv.field | apply Pv.convert | apply Pv.addw | apply Pv.subw | apply Pv.mulw | apply Pv.binOp) <;> first | exact rfl | (intro w; go_simp <;> first | exact rfl | exact ⟨rfl, rfl⟩))))
              | (first | apply C.region_seq | apply E.nil | apply A.next | apply A.ret_then | apply A.exit_then | apply A.block_end | apply A.block_ret | apply A.block_exit | apply C.seq | apply C.region | apply C.skip | apply C.ret | apply C.exit)
              | (apply E.guard; exact rfl; exact rfl)
              | (apply E.passed; exact rfl; exact rfl; exact rfl)
              | ((first | apply A.block_other | apply C.cond_true); exact rfl)
              | (apply C.cond_false; exact rfl)
              | apply C.block
              | ((first | (apply E.cons; apply St.load hs) | apply St.load hs); exact rfl; (repeat (first | exact Fd.here | refine Fd.there ?_)); exact rfl; go_simp))
            exact A.meet _ (by repeat (first | exact trivial | refine ⟨rfl, ?_⟩)) ⟨rfl, by omega⟩
        rintro v w4 ⟨rfl, rfl⟩
        have hln : ∀ x' : Ln, x'.n = x.n → ∀ z ∈ ls.set p x', z.n < 1000 := by
          intro x' he z hz
          rcases List.mem_or_eq_of_mem_set hz with h | h
          · exact hlt z h
          · subst h; rw [he]; exact hlt x (List.mem_of_getElem? hx)
        have e2 : ∀ (x' : Ln) (q : Pk), q = x'.pk → (ls.map Ln.pk).set p q = (ls.set p x').map Ln.pk := fun x' q h => by rw [List.map_set, h]
        have e3 : ∀ x' : Ln, (ls.set p x').length = ls.length := fun x' => List.length_set
        repeat (first
          | (apply E.pv; (first | (apply Pv.auto; exact rfl) | ((first | apply Pv.add | apply Pv.sub | apply Pv.rem | apply Pv.quo) <;> first | exact rfl | omega) | (apply Pv.conv; exact rfl; (intro w; go_simp <;> first | exact rfl | exact ⟨rfl, rfl⟩); (first | exact wrapu64_id (by omega) (by omega) | exact wrap64_id (by omega) (by omega) | exact wrapu8_id (by omega) (by omega) | exact wrapu32_id (by omega) (by omega) | exact wrapu16_id (by omega) (by omega) | exact rfl)) | ((first | apply Pv.beq | apply Pv.bne); exact rfl; exact rfl; kernel_rfl) | ((first | apply Pv.fieldAddr | apply Pv.len | apply Pv.indexAddr | apply Pv.build | apply Pv.field | apply Pv.convert | apply Pv.addw | apply Pv.subw | apply Pv.mulw | apply Pv.binOp) <;> first | exact rfl | (intro w; go_simp <;> first | exact rfl | exact ⟨rfl, rfl⟩))))
          | (first | apply C.region_seq | apply E.nil | apply A.next | apply A.ret_then | apply A.exit_then | apply A.block_end | apply A.block_ret | apply A.block_exit | apply C.seq | apply C.region | apply C.skip | apply C.ret | apply C.exit)
          | (apply E.guard; exact rfl; exact rfl)
          | (apply E.passed; exact rfl; exact rfl; exact rfl)
          | ((first | apply A.block_other | apply C.cond_true); exact rfl)
          | (apply C.cond_false; exact rfl)
          | apply C.block
          | ((first | (apply E.cons; apply St.load hs) | apply St.load hs); exact rfl; (repeat (first | exact Fd.here | refine Fd.there ?_)); exact rfl; go_simp))
        have huw : IntKind.u64.wrap y = y % 18446744073709551616 := by simp [IntKind.wrap, IntKind.bits, IntKind.signed]
        refine C.cond_dec (p := (IntKind.u64.wrap y).tmod 2 = 0) rfl (fun hev => ?_) (fun hev => ?_)
        · have hq : idx y 2 = 0 := by
            unfold idx
            rw [huw, Int.tmod_eq_emod_of_nonneg (by omega)] at hev
            omega
          repeat (first
            | (apply E.pv; (first | (apply Pv.auto; exact rfl) | ((first | apply Pv.add | apply Pv.sub | apply Pv.rem | apply Pv.quo) <;> first | exact rfl | omega) | (apply Pv.conv; exact rfl; (intro w; go_simp <;> first | exact rfl | exact ⟨rfl, rfl⟩); (first | exact wrapu64_id (by omega) (by omega) | exact wrap64_id (by omega) (by omega) | exact wrapu8_id (by omega) (by omega) | exact wrapu32_id (by omega) (by omega) | exact wrapu16_id (by omega) (by omega) | exact rfl)) | ((first | apply Pv.beq | apply Pv.bne); exact rfl; exact rfl; kernel_rfl) | ((first | apply Pv.fieldAddr | apply Pv.len | apply Pv.indexAddr | apply Pv.build | apply Pv.field | apply Pv.convert | apply Pv.addw | apply Pv.subw | apply Pv.mulw | apply Pv.binOp) <;> first | exact rfl | (intro w; go_simp <;> first | exact rfl | exact ⟨rfl, rfl⟩))))
            | (first | apply C.region_seq | apply E.nil | apply A.next | apply A.ret_then | apply A.exit_then | apply A.block_end | apply A.block_ret | apply A.block_exit | apply C.seq | apply C.region | apply C.skip | apply C.ret | apply C.exit)
            | (apply E.guard; exact rfl; exact rfl)
            | (apply E.passed; exact rfl; exact rfl; exact rfl)
            | ((first | apply A.block_other | apply C.cond_true); exact rfl)
            | (apply C.cond_false; exact rfl)
            | apply C.block
            | ((first | (apply E.cons; apply St.load hs) | apply St.load hs); exact rfl; (repeat (first | exact Fd.here | refine Fd.there ?_)); exact rfl; go_simp))
          apply E.cons
          apply St.loadc
          · exact rfl
          · exact hs.swap.ownCell (lnCells_get hx 1 (by omega))
          · go_simp
          repeat (first
            | (apply E.pv; (first | (apply Pv.auto; exact rfl) | ((first | apply Pv.add | apply Pv.sub | apply Pv.rem | apply Pv.quo) <;> first | exact rfl | omega) | (apply Pv.conv; exact rfl; (intro w; go_simp <;> first | exact rfl | exact ⟨rfl, rfl⟩); (first | exact wrapu64_id (by omega) (by omega) | exact wrap64_id (by omega) (by omega) | exact wrapu8_id (by omega) (by omega) | exact wrapu32_id (by omega) (by omega) | exact wrapu16_id (by omega) (by omega) | exact rfl)) | ((first | apply Pv.beq | apply Pv.bne); exact rfl; exact rfl; kernel_rfl) | ((first | apply Pv.fieldAddr | apply Pv.len | apply Pv.indexAddr | apply Pv.build | apply Pv.field | apply Pv.convert | apply Pv.addw | apply Pv.subw | apply Pv.mulw | apply Pv.binOp) <;> first | exact rfl | (intro w; go_simp <;> first | exact rfl | exact ⟨rfl, rfl⟩))))
            | (first | apply C.region_seq | apply E.nil | apply A.next | apply A.ret_then | apply A.exit_then | apply A.block_end | apply A.block_ret | apply A.block_exit | apply C.seq | apply C.region | apply C.skip | apply C.ret | apply C.exit)
            | (apply E.guard; exact rfl; exact rfl)
            | (apply E.passed; exact rfl; exact rfl; exact rfl)
            | ((first | apply A.block_other | apply C.cond_true); exact rfl)
            | (apply C.cond_false; exact rfl)
            | apply C.block
            | ((first | (apply E.cons; apply St.load hs) | apply St.load hs); exact rfl; (repeat (first | exact Fd.here | refine Fd.there ?_)); exact rfl; go_simp))
          apply E.cons
          apply St.storeOwn hs.swap
          · exact rfl
          · exact rfl
          · exact rfl
          · rw [lnCells_length]; omega
          · exact rfl
          · go_simp
          intro w6 hs
          repeat (first
            | (apply E.pv; (first | (apply Pv.auto; exact rfl) | ((first | apply Pv.add | apply Pv.sub | apply Pv.rem | apply Pv.quo) <;> first | exact rfl | omega) | (apply Pv.conv; exact rfl; (intro w; go_simp <;> first | exact rfl | exact ⟨rfl, rfl⟩); (first | exact wrapu64_id (by omega) (by omega) | exact wrap64_id (by omega) (by omega) | exact wrapu8_id (by omega) (by omega) | exact wrapu32_id (by omega) (by omega) | exact wrapu16_id (by omega) (by omega) | exact rfl)) | ((first | apply Pv.beq | apply Pv.bne); exact rfl; exact rfl; kernel_rfl) | ((first | apply Pv.fieldAddr | apply Pv.len | apply Pv.indexAddr | apply Pv.build | apply Pv.field | apply Pv.convert | apply Pv.addw | apply Pv.subw | apply Pv.mulw | apply Pv.binOp) <;> first | exact rfl | (intro w; go_simp <;> first | exact rfl | exact ⟨rfl, rfl⟩))))
            | (first | apply C.region_seq | apply E.nil | apply A.next | apply A.ret_then | apply A.exit_then | apply A.block_end | apply A.block_ret | apply A.block_exit | apply C.seq | apply C.region | apply C.skip | apply C.ret | apply C.exit)
            | (apply E.guard; exact rfl; exact rfl)
            | (apply E.passed; exact rfl; exact rfl; exact rfl)
            | ((first | apply A.block_other | apply C.cond_true); exact rfl)
            | (apply C.cond_false; exact rfl)
            | apply C.block
            | ((first | (apply E.cons; apply St.load hs) | apply St.load hs); exact rfl; (repeat (first | exact Fd.here | refine Fd.there ?_)); exact rfl; go_simp))
          apply E.cons
          apply St.storeOwn hs
          · exact rfl
          · exact rfl
          · exact rfl
          · rw [List.length_set, lnCells_length]; omega
          · exact rfl
          · go_simp
          intro w7 hs
          repeat (first
            | (apply E.pv; (first | (apply Pv.auto; exact rfl) | ((first | apply Pv.add | apply Pv.sub | apply Pv.rem | apply Pv.quo) <;> first | exact rfl | omega) | (apply Pv.conv; exact rfl; (intro w; go_simp <;> first | exact rfl | exact ⟨rfl, rfl⟩); (first | exact wrapu64_id (by omega) (by omega) | exact wrap64_id (by omega) (by omega) | exact wrapu8_id (by omega) (by omega) | exact wrapu32_id (by omega) (by omega) | exact wrapu16_id (by omega) (by omega) | exact rfl)) | ((first | apply Pv.beq | apply Pv.bne); exact rfl; exact rfl; kernel_rfl) | ((first | apply Pv.fieldAddr | apply Pv.len | apply Pv.indexAddr | apply Pv.build | apply Pv.field | apply Pv.convert | apply Pv.addw | apply Pv.subw | apply Pv.mulw | apply Pv.binOp) <;> first | exact rfl | (intro w; go_simp <;> first | exact rfl | exact ⟨rfl, rfl⟩))))
            | (first | apply C.region_seq | apply E.nil | apply A.next | apply A.ret_then | apply A.exit_then | apply A.block_end | apply A.block_ret | apply A.block_exit | apply C.seq | apply C.region | apply C.skip | apply C.ret | apply C.exit)
            | (apply E.guard; exact rfl; exact rfl)
            | (apply E.passed; exact rfl; exact rfl; exact rfl)
            | ((first | apply A.block_other | apply C.cond_true); exact rfl)
            | (apply C.cond_false; exact rfl)
            | apply C.block
            | ((first | (apply E.cons; apply St.load hs) | apply St.load hs); exact rfl; (repeat (first | exact Fd.here | refine Fd.there ?_)); exact rfl; go_simp))
          have hs := hs.swap
          rw [xor_u8] at hs
          rw [show ((lnCells ls).set (p * 4 + 1) (.int .u8 ((x.a ^^^ bendT y).toNat : Int))).set (p * 4 + 3) (.bool true) = lnCells (ls.set p { x with a := x.a ^^^ bendT y, b := x.b, bent := true }) from by
            rw [← lnCells_set hx]; rw [set_same (i := p * 4 + 2) (by rw [List.getElem?_set_ne (by omega)]; exact lnCells_get hx 2 (by omega))], e2 { x with a := x.a ^^^ bendT y, b := x.b, bent := true } _ (by simp [bendB, Ln.pk, hq])] at hs
          rw [← e3 { x with a := x.a ^^^ bendT y, b := x.b, bent := true }] at hs ⊢
          exact A.meet (ls.set p { x with a := x.a ^^^ bendT y, b := x.b, bent := true }, some ⟨lb, 0, none⟩, lc, g3) (by repeat (first | exact trivial | refine ⟨rfl, ?_⟩)) ⟨hg4, by simp only [e3]; omega, hs, hln _ rfl⟩
        · have hq : idx y 2 = 1 := by
            unfold idx
            rw [huw, Int.tmod_eq_emod_of_nonneg (by omega)] at hev
            omega
          repeat (first
            | (apply E.pv; (first | (apply Pv.auto; exact rfl) | ((first | apply Pv.add | apply Pv.sub | apply Pv.rem | apply Pv.quo) <;> first | exact rfl | omega) | (apply Pv.conv; exact rfl; (intro w; go_simp <;> first | exact rfl | exact ⟨rfl, rfl⟩); (first | exact wrapu64_id (by omega) (by omega) | exact wrap64_id (by omega) (by omega) | exact wrapu8_id (by omega) (by omega) | exact wrapu32_id (by omega) (by omega) | exact wrapu16_id (by omega) (by omega) | exact rfl)) | ((first | apply Pv.beq | apply Pv.bne); exact rfl; exact rfl; kernel_rfl) | ((first | apply Pv.fieldAddr | apply Pv.len | apply Pv.indexAddr | apply Pv.build | apply Pv.field | apply Pv.convert | apply Pv.addw | apply Pv.subw | apply Pv.mulw | apply Pv.binOp) <;> first | exact rfl | (intro w; go_simp <;> first | exact rfl | exact ⟨rfl, rfl⟩))))
            | (first | apply C.region_seq | apply E.nil | apply A.next | apply A.ret_then | apply A.exit_then | apply A.block_end | apply A.block_ret | apply A.block_exit | apply C.seq | apply C.region | apply C.skip | apply C.ret | apply C.exit)
            | (apply E.guard; exact rfl; exact rfl)
            | (apply E.passed; exact rfl; exact rfl; exact rfl)
            | ((first | apply A.block_other | apply C.cond_true); exact rfl)
            | (apply C.cond_false; exact rfl)
            | apply C.block
            | ((first | (apply E.cons; apply St.load hs) | apply St.load hs); exact rfl; (repeat (first | exact Fd.here | refine Fd.there ?_)); exact rfl; go_simp))
          apply E.cons
          apply St.loadc
          · exact rfl
          · exact hs.swap.ownCell (lnCells_get hx 2 (by omega))
          · go_simp
          repeat (first
            | (apply E.pv; (first | (apply Pv.auto; exact rfl) | ((first | apply Pv.add | apply Pv.sub | apply Pv.rem | apply Pv.quo) <;> first | exact rfl | omega) | (apply Pv.conv; exact rfl; (intro w; go_simp <;> first | exact rfl | exact ⟨rfl, rfl⟩); (first | exact wrapu64_id (by omega) (by omega) | exact wrap64_id (by omega) (by omega) | exact wrapu8_id (by omega) (by omega) | exact wrapu32_id (by omega) (by omega) | exact wrapu16_id (by omega) (by omega) | exact rfl)) | ((first | apply Pv.beq | apply Pv.bne); exact rfl; exact rfl; kernel_rfl) | ((first | apply Pv.fieldAddr | apply Pv.len | apply Pv.indexAddr | apply Pv.build | apply Pv.field | apply Pv.convert | apply Pv.addw | apply Pv.subw | apply Pv.mulw | apply Pv.binOp) <;> first | exact rfl | (intro w; go_simp <;> first | exact rfl | exact ⟨rfl, rfl⟩))))
            | (first | apply C.region_seq | apply E.nil | apply A.next | apply A.ret_then | apply A.exit_then | apply A.block_end | apply A.block_ret | apply A.block_exit | apply C.seq | apply C.region | apply C.skip | apply C.ret | apply C.exit)
            | (apply E.guard; exact rfl; exact rfl)
            | (apply E.passed; exact rfl; exact rfl; exact rfl)
            | ((first | apply A.block_other | apply C.cond_true); exact rfl)
            | (apply C.cond_false; exact rfl)
            | apply C.block
            | ((first | (apply E.cons; apply St.load hs) | apply St.load hs); exact rfl; (repeat (first | exact Fd.here | refine Fd.there ?_)); exact rfl; go_simp))
          apply E.cons
          apply St.storeOwn hs.swap
          · exact rfl
          · exact rfl
          · exact rfl
          · rw [lnCells_length]; omega
          · exact rfl
          · go_simp
          intro w6 hs
          repeat (first
            | (apply E.pv; (first | (apply Pv.auto; exact rfl) | ((first | apply Pv.add | apply Pv.sub | apply Pv.rem | apply Pv.quo) <;> first | exact rfl | omega) | (apply Pv.conv; exact rfl; (intro w; go_simp <;> first | exact rfl | exact ⟨rfl, rfl⟩); (first | exact wrapu64_id (by omega) (by omega) | exact wrap64_id (by omega) (by omega) | exact wrapu8_id (by omega) (by omega) | exact wrapu32_id (by omega) (by omega) | exact wrapu16_id (by omega) (by omega) | exact rfl)) | ((first | apply Pv.beq | apply Pv.bne); exact rfl; exact rfl; kernel_rfl) | ((first | apply Pv.fieldAddr | apply Pv.len | apply Pv.indexAddr | apply Pv.build | apply Pv.field | apply Pv.convert | apply Pv.addw | apply Pv.subw | apply Pv.mulw | apply Pv.binOp) <;> first | exact rfl | (intro w; go_simp <;> first | exact rfl | exact ⟨rfl, rfl⟩))))
            | (first | apply C.region_seq | apply E.nil | apply A.next | apply A.ret_then | apply A.exit_then | apply A.block_end | apply A.block_ret | apply A.block_exit | apply C.seq | apply C.region | apply C.skip | apply C.ret | apply C.exit)
            | (apply E.guard; exact rfl; exact rfl)
            | (apply E.passed; exact rfl; exact rfl; exact rfl)
            | ((first | apply A.block_other | apply C.cond_true); exact rfl)
            | (apply C.cond_false; exact rfl)
            | apply C.block
            | ((first | (apply E.cons; apply St.load hs) | apply St.load hs); exact rfl; (repeat (first | exact Fd.here | refine Fd.there ?_)); exact rfl; go_simp))
          apply E.cons
          apply St.storeOwn hs
          · exact rfl
          · exact rfl
          · exact rfl
          · rw [List.length_set, lnCells_length]; omega
          · exact rfl
          · go_simp
          intro w7 hs
          repeat (first
            | (apply E.pv; (first | (apply Pv.auto; exact rfl) | ((first | apply Pv.add | apply Pv.sub | apply Pv.rem | apply Pv.quo) <;> first | exact rfl | omega) | (apply Pv.conv; exact rfl; (intro w; go_simp <;> first | exact rfl | exact ⟨rfl, rfl⟩); (first | exact wrapu64_id (by omega) (by omega) | exact wrap64_id (by omega) (by omega) | exact wrapu8_id (by omega) (by omega) | exact wrapu32_id (by omega) (by omega) | exact wrapu16_id (by omega) (by omega) | exact rfl)) | ((first | apply Pv.beq | apply Pv.bne); exact rfl; exact rfl; kernel_rfl) | ((first | apply Pv.fieldAddr | apply Pv.len | apply Pv.indexAddr | apply Pv.build | apply Pv.field | apply Pv.convert | apply Pv.addw | apply Pv.subw | apply Pv.mulw | apply Pv.binOp) <;> first | exact rfl | (intro w; go_simp <;> first | exact rfl | exact ⟨rfl, rfl⟩))))
            | (first | apply C.region_seq | apply E.nil | apply A.next | apply A.ret_then | apply A.exit_then | apply A.block_end | apply A.block_ret | apply A.block_exit | apply C.seq | apply C.region | apply C.skip | apply C.ret | apply C.exit)
            | (apply E.guard; exact rfl; exact rfl)
            | (apply E.passed; exact rfl; exact rfl; exact rfl)
            | ((first | apply A.block_other | apply C.cond_true); exact rfl)
            | (apply C.cond_false; exact rfl)
            | apply C.block
            | ((first | (apply E.cons; apply St.load hs) | apply St.load hs); exact rfl; (repeat (first | exact Fd.here | refine Fd.there ?_)); exact rfl; go_simp))
          have hs := hs.swap
          rw [xor_u8] at hs
          rw [show ((lnCells ls).set (p * 4 + 2) (.int .u8 ((x.b ^^^ bendT y).toNat : Int))).set (p * 4 + 3) (.bool true) = lnCells (ls.set p { x with a := x.a, b := x.b ^^^ bendT y, bent := true }) from by
            rw [← lnCells_set hx]; rw [set_same (i := p * 4 + 1) (lnCells_get hx 1 (by omega))], e2 { x with a := x.a, b := x.b ^^^ bendT y, bent := true } _ (by simp [bendB, Ln.pk, hq])] at hs
          rw [← e3 { x with a := x.a, b := x.b ^^^ bendT y, bent := true }] at hs ⊢
          exact A.meet (ls.set p { x with a := x.a, b := x.b ^^^ bendT y, bent := true }, some ⟨lb, 0, none⟩, lc, g3) (by repeat (first | exact trivial | refine ⟨rfl, ?_⟩)) ⟨hg4, by simp only [e3]; omega, hs, hln _ rfl⟩
      · repeat (first
          | (apply E.pv; (first | (apply Pv.auto; exact rfl) | ((first | apply Pv.add | apply Pv.sub | apply Pv.rem | apply Pv.quo) <;> first | exact rfl | omega) | (apply Pv.conv; exact rfl; (intro w; go_simp <;> first | exact rfl | exact ⟨rfl, rfl⟩); (first | exact wrapu64_id (by omega) (by omega) | exact wrap64_id (by omega) (by omega) | exact wrapu8_id (by omega) (by omega) | exact wrapu32_id (by omega) (by omega) | exact wrapu16_id (by omega) (by omega) | exact rfl)) | ((first | apply Pv.beq | apply Pv.bne); exact rfl; exact rfl; kernel_rfl) | ((first | apply Pv.fieldAddr | apply Pv.len | apply Pv.indexAddr | apply Pv.build | apply Pv.field | apply Pv.convert | apply Pv.addw | apply Pv.subw | apply Pv.mulw | apply Pv.binOp) <;> first | exact rfl | (intro w; go_simp <;> first | exact rfl | exact ⟨rfl, rfl⟩))))
          | (first | apply C.region_seq | apply E.nil | apply A.next | apply A.ret_then | apply A.exit_then | apply A.block_end | apply A.block_ret | apply A.block_exit | apply C.seq | apply C.region | apply C.skip | apply C.ret | apply C.exit)
          | (apply E.guard; exact rfl; exact rfl)
          | (apply E.passed; exact rfl; exact rfl; exact rfl)
          | ((first | apply A.block_other | apply C.cond_true); exact rfl)
          | (apply C.cond_false; exact rfl)
          | apply C.block
          | ((first | (apply E.cons; apply St.load hs) | apply St.load hs); exact rfl; (repeat (first | exact Fd.here | refine Fd.there ?_)); exact rfl; go_simp))
        apply E.call Try.func13 rfl rfl
        · exact rfl
        refine bend_old (k := p) (x := x.pk) hs (by rw [List.length_map]; exact hk) hgx (by rw [List.length_map]; omega) hb ?_
        repeat (first
          | (apply E.pv; (first | (apply Pv.auto; exact rfl) | ((first | apply Pv.add | apply Pv.sub | apply Pv.rem | apply Pv.quo) <;> first | exact rfl | omega) | (apply Pv.conv; exact rfl; (intro w; go_simp <;> first | exact rfl | exact ⟨rfl, rfl⟩); (first | exact wrapu64_id (by omega) (by omega) | exact wrap64_id (by omega) (by omega) | exact wrapu8_id (by omega) (by omega) | exact wrapu32_id (by omega) (by omega) | exact wrapu16_id (by omega) (by omega) | exact rfl)) | ((first | apply Pv.beq | apply Pv.bne); exact rfl; exact rfl; kernel_rfl) | ((first | apply Pv.fieldAddr | apply Pv.len | apply Pv.indexAddr | apply Pv.build | apply Pv.field | apply Pv.convert | apply Pv.addw | apply Pv.subw | apply Pv.mulw | apply Pv.binOp) <;> first | exact rfl | (intro w; go_simp <;> first | exact rfl | exact ⟨rfl, rfl⟩))))
          | (first | apply C.region_seq | apply E.nil | apply A.next | apply A.ret_then | apply A.exit_then | apply A.block_end | apply A.block_ret | apply A.block_exit | apply C.seq | apply C.region | apply C.skip | apply C.ret | apply C.exit)
          | (apply E.guard; exact rfl; exact rfl)
          | (apply E.passed; exact rfl; exact rfl; exact rfl)
          | ((first | apply A.block_other | apply C.cond_true); exact rfl)
          | (apply C.cond_false; exact rfl)
          | apply C.block
          | ((first | (apply E.cons; apply St.load hs) | apply St.load hs); exact rfl; (repeat (first | exact Fd.here | refine Fd.there ?_)); exact rfl; go_simp))
        apply E.cons
        apply St.loadc
        · exact rfl
        · exact hs.swap.ownCell (lnCells_get hx 3 (by omega))
        · go_simp
        repeat (first
          | (apply E.pv; (first | (apply Pv.auto; exact rfl) | ((first | apply Pv.add | apply Pv.sub | apply Pv.rem | apply Pv.quo) <;> first | exact rfl | omega) | (apply Pv.conv; exact rfl; (intro w; go_simp <;> first | exact rfl | exact ⟨rfl, rfl⟩); (first | exact wrapu64_id (by omega) (by omega) | exact wrap64_id (by omega) (by omega) | exact wrapu8_id (by omega) (by omega) | exact wrapu32_id (by omega) (by omega) | exact wrapu16_id (by omega) (by omega) | exact rfl)) | ((first | apply Pv.beq | apply Pv.bne); exact rfl; exact rfl; kernel_rfl) | ((first | apply Pv.fieldAddr | apply Pv.len | apply Pv.indexAddr | apply Pv.build | apply Pv.field | apply Pv.convert | apply Pv.addw | apply Pv.subw | apply Pv.mulw | apply Pv.binOp) <;> first | exact rfl | (intro w; go_simp <;> first | exact rfl | exact ⟨rfl, rfl⟩))))
          | (first | apply C.region_seq | apply E.nil | apply A.next | apply A.ret_then | apply A.exit_then | apply A.block_end | apply A.block_ret | apply A.block_exit | apply C.seq | apply C.region | apply C.skip | apply C.ret | apply C.exit)
          | (apply E.guard; exact rfl; exact rfl)
          | (apply E.passed; exact rfl; exact rfl; exact rfl)
          | ((first | apply A.block_other | apply C.cond_true); exact rfl)
          | (apply C.cond_false; exact rfl)
          | apply C.block
          | ((first | (apply E.cons; apply St.load hs) | apply St.load hs); exact rfl; (repeat (first | exact Fd.here | refine Fd.there ?_)); exact rfl; go_simp))
        refine C.cond (b := x.bent) rfl (fun _ => ?_) (fun h => by rw [hb] at h; cases h)
        repeat (first
          | (apply E.pv; (first | (apply Pv.auto; exact rfl) | ((first | apply Pv.add | apply Pv.sub | apply Pv.rem | apply Pv.quo) <;> first | exact rfl | omega) | (apply Pv.conv; exact rfl; (intro w; go_simp <;> first | exact rfl | exact ⟨rfl, rfl⟩); (first | exact wrapu64_id (by omega) (by omega) | exact wrap64_id (by omega) (by omega) | exact wrapu8_id (by omega) (by omega) | exact wrapu32_id (by omega) (by omega) | exact wrapu16_id (by omega) (by omega) | exact rfl)) | ((first | apply Pv.beq | apply Pv.bne); exact rfl; exact rfl; kernel_rfl) | ((first | apply Pv.fieldAddr | apply Pv.len | apply Pv.indexAddr | apply Pv.build | apply Pv.field | apply Pv.convert | apply Pv.addw | apply Pv.subw | apply Pv.mulw | apply Pv.binOp) <;> first | exact rfl | (intro w; go_simp <;> first | exact rfl | exact ⟨rfl, rfl⟩))))
          | (first | apply C.region_seq | apply E.nil | apply A.next | apply A.ret_then | apply A.exit_then | apply A.block_end | apply A.block_ret | apply A.block_exit | apply C.seq | apply C.region | apply C.skip | apply C.ret | apply C.exit)
          | (apply E.guard; exact rfl; exact rfl)
          | (apply E.passed; exact rfl; exact rfl; exact rfl)
          | ((first | apply A.block_other | apply C.cond_true); exact rfl)
          | (apply C.cond_false; exact rfl)
          | apply C.block
          | ((first | (apply E.cons; apply St.load hs) | apply St.load hs); exact rfl; (repeat (first | exact Fd.here | refine Fd.there ?_)); exact rfl; go_simp))
        exact A.round (n0 - (j + 1)) ⟨j + 1, ls, some ⟨lb, 0, none⟩, lc, g2⟩ (by omega) (by repeat (first | exact trivial | refine ⟨rfl, ?_⟩)) ⟨rfl, by simp only; omega, hg2, by simp only; omega, hs, hlt⟩

end Go.Proofs.Ytpnfckdjggigpaa
