/-
  Layer 19 (post): what a post is in memory; Send.
-/
import Derived.Test.YtpnfckdjggigpaaPa
namespace Go.Proofs.Ytpnfckdjggigpaa
open Go.RowKit

structure Pk where
  frm : Int
  dst : Int
  p : List UInt8
  bent : Bool

def Pk.cells (x : Pk) (v : Value) : List Value := [.int .i64 x.frm, .int .i64 x.dst, v, .bool x.bent]
def pkCells (ps : List (Pk × Value)) : List Value := ps.flatMap fun q => q.1.cells q.2

theorem pkCells_length (ps : List (Pk × Value)) : (pkCells ps).length = ps.length * 4 := by
  induction ps with
  | nil => rfl
  | cons a r ih =>
    simp only [pkCells, List.flatMap_cons, List.length_append, List.length_cons] at *
    rw [ih]
    simp only [Pk.cells, List.length_cons, List.length_nil]
    omega
theorem pkCells_append (a b : List (Pk × Value)) : pkCells (a ++ b) = pkCells a ++ pkCells b := by simp [pkCells]
theorem pkCells_take (ps : List (Pk × Value)) (i : Nat) : (pkCells ps).take (i * 4) = pkCells (ps.take i) := by
  induction ps generalizing i with
  | nil => simp [pkCells]
  | cons a r ih =>
    cases i with
    | zero => simp [pkCells]
    | succ i =>
      have h := ih i
      simp only [pkCells, List.flatMap_cons, List.take_succ_cons] at *
      rw [List.take_append, ← h]
      simp [Pk.cells, Nat.succ_mul]
theorem pkCells_drop (ps : List (Pk × Value)) (i : Nat) : (pkCells ps).drop (i * 4) = pkCells (ps.drop i) := by
  induction ps generalizing i with
  | nil => simp [pkCells]
  | cons a r ih =>
    cases i with
    | zero => simp [pkCells]
    | succ i =>
      have h := ih i
      simp only [pkCells, List.flatMap_cons, List.drop_succ_cons] at *
      rw [List.drop_append, ← h]
      simp [Pk.cells, Nat.succ_mul]

/-- What a post is: a block of one cell, an own row of packets, and each packet's bytes (the pool's). -/
def post (b : Nat) (l : List Pk) : HP :=
  exs fun q : Value × List (Pk × Value) => wit (fun g => q.2.map Prod.fst = l ∧ ∀ x ∈ q.2, Pr 1 g x.2 x.1.p.length (bs x.1.p) ∧ x.1.p.length ≤ 1000)
    (fun _ _ hg h => ⟨h.1, fun x hx => ⟨(h.2 x hx).1.mono hg, (h.2 x hx).2⟩⟩) (sep (blk b [q.1] 27) (own 31 4 q.1 q.2.length (pkCells q.2)))

section
variable {W w : World} {g : Hl} {H : List HP}
theorem post_open {b : Nat} {l : List Pk} (hs : Sat W w g (post b l :: H)) : ∃ sv ps, ps.map Prod.fst = l ∧ (∀ x ∈ ps, Pr 1 g x.2 x.1.p.length (bs x.1.p) ∧ x.1.p.length ≤ 1000) ∧
    Sat W w g (blk b [sv] 27 :: own 31 4 sv ps.length (pkCells ps) :: H) := by
  obtain ⟨⟨sv, ps⟩, h⟩ := hs.unexs
  obtain ⟨⟨h1, h2⟩, h3⟩ := h.unwit
  exact ⟨sv, ps, h1, h2, h3.split⟩
theorem post_close {b : Nat} {sv : Value} (ps : List (Pk × Value)) (h2 : ∀ x ∈ ps, Pr 1 g x.2 x.1.p.length (bs x.1.p) ∧ x.1.p.length ≤ 1000)
    (hs : Sat W w g (blk b [sv] 27 :: own 31 4 sv ps.length (pkCells ps) :: H)) : Sat W w g (post b (ps.map Prod.fst) :: H) :=
  Sat.mkexs (sv, ps) (Sat.mkwit ⟨rfl, h2⟩ hs.join)
end

theorem pkCells_one (ps : List (Pk × Value)) (h : ∀ x ∈ ps, ∃ a n c, x.2 = .slice a n c) : ∀ u ∈ pkCells ps, u.oneCell' = true := by
  intro u hu
  simp only [pkCells, List.mem_flatMap] at hu
  obtain ⟨x, hx, hu⟩ := hu
  obtain ⟨a, n, c, e⟩ := h x hx
  simp only [Pk.cells, List.mem_cons, List.not_mem_nil, or_false] at hu
  rcases hu with rfl | rfl | rfl | rfl <;> first | rfl | (rw [e]; rfl)

theorem pkCells_snoc (ps : List (Pk × Value)) (x : Pk) (v : Value) : pkCells ps ++ [.int .i64 x.frm, .int .i64 x.dst, v, .bool x.bent] = pkCells (ps ++ [(x, v)]) := by simp [pkCells, Pk.cells]
theorem send_rows {g : Hl} {ps : List (Pk × Value)} {x : Pk} {v : Value} (h : ∀ x ∈ ps, Pr 1 g x.2 x.1.p.length (bs x.1.p) ∧ x.1.p.length ≤ 1000) (hx : Pr 1 g v x.p.length (bs x.p) ∧ x.p.length ≤ 1000) :
    ∀ y ∈ ps ++ [(x, v)], Pr 1 g y.2 y.1.p.length (bs y.1.p) ∧ y.1.p.length ≤ 1000 := by
  intro y hy
  rcases List.mem_append.1 hy with hy | hy
  · exact h y hy
  · simp only [List.mem_singleton] at hy
    subst hy
    exact hx
theorem send_cells {g : Hl} {ps : List (Pk × Value)} {x : Pk} {a : Option Addr} {n c : Nat} (h : ∀ x ∈ ps, Pr 1 g x.2 x.1.p.length (bs x.1.p) ∧ x.1.p.length ≤ 1000) :
    ∀ y ∈ ps ++ [(x, .slice a n c)], ∃ a n c, y.2 = .slice a n c := by
  intro y hy
  rcases List.mem_append.1 hy with hy | hy
  · obtain ⟨a, c, e, _⟩ := (h y hy).1.len
    exact ⟨a, _, c, e⟩
  · simp only [List.mem_singleton] at hy
    subst hy
    exact ⟨a, n, c, rfl⟩

theorem send_any {R : Ending → World → Prop} {W w : World} {g : Hl} {H : List HP} {b : Nat} {l : List Pk} {x : Pk} {pv : Value} (hs : Sat W w g (post b l :: H)) (hl : l.length ≤ 512)
    {Dx : Nat → Prop} (hx : Row 1 w Dx pv x.p.length (bs x.p)) (hn : x.p.length ≤ 1000)
    (hR : ∀ w' g', Hl.le g g' → Sat W w' g' (post b ((l ++ [x]).drop (l.length + 1 - 512)) :: H) → R (.returned (.tuple #[])) w') :
    Calls Try.prog 7 #[.pointer (some ⟨b, 0, none⟩), .agg #[.int .i64 x.frm, .int .i64 x.dst, pv, .bool x.bent]] w R := by
  obtain ⟨sv, ps, rfl, hps, hs1⟩ := post_open hs
  obtain ⟨sa, sc, rfl, hsc, hscm, hsa⟩ := hs1.swap.ownLen
  have hs2 := hs1.allocB [.int .i64 x.frm, .int .i64 x.dst, pv, .bool x.bent] 31
  have hlen : ps.length ≤ 512 := by simpa using hl
  have HR := Lib.hid hR
  have Hps := Lib.hid hps
  have Hsa := Lib.hid hsa
  clear hR hl hs hps hsa
  go_enter Try.func7, Try.ntmps7
  go_wp2_with (go_at_call 15; refine clone_sl hs2 (hx.alloc _) (by omega) ?_; intro v1 w1 hs3 hnil; obtain ⟨a1, c1, rfl, hc1, hc2, hc3⟩ := hs3.ownLen; have Hnil := Lib.hid hnil; have Hc3 := Lib.hid hc3; clear hnil hc3; have k0 := hs3.swap.cell 0; have k1 := hs3.swap.cell 1; have k2 := hs3.swap.cell 2; have k3 := hs3.swap.cell 3; have k4 := hs3.swap.free 2; have k5 := hs3.pull2.cell 0; have k6 := hs3.pull2.free 0; have hne : w.heap.size ≠ b := hs3.drop.apart; have hne2 : b ≠ w.heap.size := hs3.drop.apart.symm; have hbz : b < w1.heap.size := hs3.pull2.blt)
  have hs4 := ((hs3.swap.set 2 (.slice a1 x.p.length c1)).allocAt w1.heap.size [.int .i64 x.frm, .int .i64 x.dst, .slice a1 x.p.length c1, .bool x.bent] 31 (by simp)).drew
  have Hone : Hid (∀ u ∈ [Value.int .i64 x.frm, .int .i64 x.dst, .slice a1 x.p.length c1, .bool x.bent], u.oneCell' = true) := by
    intro u hu
    simp only [List.mem_cons, List.not_mem_nil, or_false] at hu
    rcases hu with rfl | rfl | rfl | rfl <;> rfl
  have Hl : Hid (ps.length + 1 ≤ maxLen ∧ (ps.length + 1) * 48 ≤ 140737488355328) := ⟨by unfold maxLen; omega, by omega⟩
  go_region_law (refine step_own rfl (.tmp 15) (.tmp 17) el_pk rfl (by first | rfl | simp [Act.eval, Act.put]) (by first | rfl | simp [Act.eval, Act.put]) hs4.pull4 (hs4.rowOf 1 rfl (by decide)) Hone.out Hl.out.1 Hl.out.2 ?_; intro v2 w2 hs5 hnil2; obtain ⟨a2, c2, rfl, hc21, hc22, hc23⟩ := hs5.ownLen; have Hnil2 := Lib.hid hnil2; have Hc23 := Lib.hid hc23; clear hnil2 hc23; have k7 := hs5.pull4.cell 0; have k8 := hs5.pull4.free 0)
  all_goals
    by_cases hcase : 512 ≤ ps.length
    · have hgt : (512 : Int) < (ps.length : Int) + 1 := by omega
      go_wp2_with fail
      refine delete_sl 0 1 (by rfl) (by omega) (hs5.pull4.set 0 (.slice a2 (ps.length + 1) c2)).swap ?_ (by omega) (by omega) ?_
      · rw [pkCells_snoc]
        exact pkCells_one _ (send_cells Hps.out)
      intro v3 w3 hs6
      obtain ⟨a3, c3, rfl, hc31, hc32, hc33⟩ := hs6.ownLen
      have k9 := hs6.swap.cell 0
      have k10 := hs6.swap.free 0
      go_wp2
      go_end0
      have hs7 := (hs6.swap.set 0 (.slice a3 (ps.length + 1 - (1 - 0)) c3)).pull4
      obtain ⟨g', hg, hv, hs8⟩ := hs7.publishOwn
      refine HR.out _ g' hg ?_
      have hs9 := hs8.pull2.drop.pull2.drop
      have e : ps.length = 512 := by omega
      rw [pkCells_snoc, Nat.zero_mul, List.take_zero, List.nil_append, pkCells_drop] at hs9
      have := post_close ((ps ++ [(x, Value.slice a1 x.p.length c1)]).drop 1) (fun y hy => send_rows (fun z hz => ⟨((Hps.out z hz).1).mono hg, (Hps.out z hz).2⟩) ⟨hv, hn⟩ y (List.mem_of_mem_drop hy)) (b := b) (sv := Value.slice a3 (ps.length + 1 - (1 - 0)) c3) (w := _) (H := H) (W := W) (g := g') (by simpa using hs9)
      simpa [e] using this
    · have hgt : ¬ (512 : Int) < (ps.length : Int) + 1 := by omega
      go_wp2
      go_end0
      obtain ⟨g', hg, hv, hs8⟩ := (hs5.pull4.set 0 (.slice a2 (ps.length + 1) c2)).pull4.publishOwn
      refine HR.out _ g' hg ?_
      have hs9 := hs8.pull2.drop.pull2.drop
      have e : ps.length + 1 - 512 = 0 := by omega
      rw [pkCells_snoc] at hs9
      have := post_close (ps ++ [(x, Value.slice a1 x.p.length c1)]) (fun y hy => send_rows (fun z hz => ⟨((Hps.out z hz).1).mono hg, (Hps.out z hz).2⟩) ⟨hv, hn⟩ y hy) (b := b) (sv := Value.slice a2 (ps.length + 1) c2) (w := _) (H := H) (W := W) (g := g') (by simpa using hs9)
      simpa [e] using this

end Go.Proofs.Ytpnfckdjggigpaa
