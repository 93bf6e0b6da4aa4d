/-
  Layer 19 (post): PostPlays: a packet against a line of the law's list.
-/
import Derived.Test.YtpnfckdjggigpaaPf
namespace Go.Proofs.Ytpnfckdjggigpaa
open Go.RowKit

structure Ln where
  n : Nat
  a : UInt8
  b : UInt8
  bent : Bool

def Ln.cells (x : Ln) : List Value := [.int .i64 x.n, .int .u8 x.a.toNat, .int .u8 x.b.toNat, .bool x.bent]
def Ln.pk (x : Ln) : Pk := ⟨x.n, x.n + 1, [x.a, x.b], x.bent⟩
def lnCells (l : List Ln) : List Value := l.flatMap Ln.cells

set_option maxHeartbeats 1600000 in
set_option maxRecDepth 100000 in
theorem same_true {R : Ending → World → Prop} {W w : World} {g : Hl} {H : List HP} {D : Nat → Prop} {v : Option Addr} {c : Nat} (x : Ln) (hs : Sat W w g H) (hp : Row 1 w D (.slice v 2 c) 2 (bs [x.a, x.b])) (hn : x.n < 1000)
    (hR : ∀ w', Sat W w' g H → R (.returned (.bool true)) w') :
    Calls Try.prog 12 #[.agg #[.int .i64 x.n, .int .i64 (x.n + 1), .slice v 2 c, .bool x.bent], .agg #[.int .i64 x.n, .int .u8 x.a.toNat, .int .u8 x.b.toNat, .bool x.bent]] w R := by
  have HR := Lib.hid hR
  clear hR
  obtain ⟨vb, vo, rfl⟩ : ∃ vb vo, v = some ⟨vb, vo, none⟩ := by
    rcases hp.news with ⟨e, _⟩ | ⟨a, c', e, _, hc⟩
    · cases e
    · simp only [Value.slice.injEq] at e
      obtain ⟨rfl, _⟩ := e
      obtain ⟨b, o, s⟩ := a
      obtain ⟨rfl, _⟩ := hp.cellAt rfl (j := 0) (u := .int .u8 x.a.toNat) rfl
      exact ⟨b, o, rfl⟩
  have c0 := (hp.cellAt rfl (j := 0) (u := .int .u8 x.a.toNat) rfl).2
  have c1 := (hp.cellAt rfl (j := 1) (u := .int .u8 x.b.toNat) rfl).2
  have hlt : vb < w.heap.size := World.block_lt_of_cell? _ _ c0
  rw [Nat.add_zero] at c0
  have e1 : ∀ (b : Bool) (w : World), (binOp .eql 4 (.bool b) (.bool b)).run Try.prog w = .ok (.bool true) w := by
    intro b w; cases b <;> rfl
  go_enter Try.func12, Try.ntmps12
  go_wp2
  go_quiet (fail)
  go_wp2
  exact HR.out _ (((hs.garbage _).garbage _).drewN _)

theorem lnCells_snoc (l : List Ln) (x : Ln) : lnCells l ++ [.int .i64 x.n, .int .u8 x.a.toNat, .int .u8 x.b.toNat, .bool x.bent] = lnCells (l ++ [x]) := by simp [lnCells, Ln.cells]
theorem lnCells_append (a b : List Ln) : lnCells (a ++ b) = lnCells a ++ lnCells b := by simp [lnCells]
theorem lnCells_length (l : List Ln) : (lnCells l).length = l.length * 4 := by
  induction l with
  | nil => rfl
  | cons a r ih =>
    simp only [lnCells, List.flatMap_cons, List.length_append, List.length_cons] at *
    rw [ih]
    simp only [Ln.cells, List.length_cons, List.length_nil]
    omega
theorem lnCells_one (l : List Ln) : ∀ u ∈ lnCells l, u.oneCell' = true := by
  intro u hu
  simp only [lnCells, List.mem_flatMap] at hu
  obtain ⟨x, hx, hu⟩ := hu
  simp only [Ln.cells, List.mem_cons, List.not_mem_nil, or_false] at hu
  rcases hu with rfl | rfl | rfl | rfl <;> rfl
theorem lnCells_take (l : List Ln) (i : Nat) : (lnCells l).take (i * 4) = lnCells (l.take i) := by
  induction l generalizing i with
  | nil => simp [lnCells]
  | cons a r ih =>
    cases i with
    | zero => simp [lnCells]
    | succ i =>
      have h := ih i
      simp only [lnCells, List.flatMap_cons, List.take_succ_cons] at *
      rw [List.take_append, ← h]
      simp [Ln.cells, Nat.succ_mul]
theorem lnCells_drop (l : List Ln) (i : Nat) : (lnCells l).drop (i * 4) = lnCells (l.drop i) := by
  induction l generalizing i with
  | nil => simp [lnCells]
  | cons a r ih =>
    cases i with
    | zero => simp [lnCells]
    | succ i =>
      have h := ih i
      simp only [lnCells, List.flatMap_cons, List.drop_succ_cons] at *
      rw [List.drop_append, ← h]
      simp [Ln.cells, Nat.succ_mul]
theorem lnCells_get {l : List Ln} {i : Nat} {x : Ln} (h : l[i]? = some x) (j : Nat) (hj : j < 4) : (lnCells l)[i * 4 + j]? = x.cells[j]? := by
  induction l generalizing i with
  | nil => simp at h
  | cons a r ih =>
    simp only [lnCells, List.flatMap_cons] at *
    cases i with
    | zero =>
      simp at h
      subst h
      rw [List.getElem?_append_left (by simp [Ln.cells]; omega)]
      simp
    | succ i =>
      rw [List.getElem?_append_right (by simp [Ln.cells]; omega), show (i + 1) * 4 + j - a.cells.length = i * 4 + j by simp [Ln.cells]; omega]
      exact ih (by simpa using h)
theorem lnCells_set {l : List Ln} {k : Nat} {x : Ln} (h : l[k]? = some x) (a b : UInt8) :
    (((lnCells l).set (k * 4 + 1) (.int .u8 a.toNat)).set (k * 4 + 2) (.int .u8 b.toNat)).set (k * 4 + 3) (.bool true) = lnCells (l.set k { x with a := a, b := b, bent := true }) := by
  induction l generalizing k with
  | nil => simp at h
  | cons c r ih =>
    cases k with
    | zero =>
      simp at h
      subst h
      simp [lnCells, Ln.cells]
    | succ k =>
      have h2 := ih (k := k) (by simpa using h)
      simp only [lnCells, List.flatMap_cons, List.set_cons_succ] at *
      rw [← h2, List.set_append_right _ _ (by simp [Ln.cells]; omega), List.set_append_right _ _ (by simp [Ln.cells]; omega), List.set_append_right _ _ (by simp [Ln.cells]; omega)]
      simp only [Ln.cells, List.length_cons, List.length_nil]
      congr 4 <;> omega
theorem el_ln : ElemOf Try.prog 39 43 (.agg #[.int .i64 0, .int .u8 0, .int .u8 0, .bool false]) 4 16 := .of Try.underlying39 (by kernel_rfl) rfl (by decide)

end Go.Proofs.Ytpnfckdjggigpaa
