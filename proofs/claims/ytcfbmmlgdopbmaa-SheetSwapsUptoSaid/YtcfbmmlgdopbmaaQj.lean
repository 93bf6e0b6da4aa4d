/-
  Layer 2 (digits): a tape: bytes that are read from the front; at a fault it panics.
-/
import Derived.Test.YtcfbmmlgdopbmaaQf
namespace Go.Proofs.Ytcfbmmlgdopbmaa
open Go.RowKit
set_option linter.unusedVariables false
set_option linter.unusedSimpArgs false

/-- A tape: a block that holds a row of the pool's. -/
def tape (b : Nat) (l : List UInt8) : HP :=
  exs fun q : Option Addr × Nat => wit (fun g => Pr 1 g (.slice q.1 l.length q.2) l.length (bs l)) (fun _ _ hg h => h.mono hg) (blk b [.slice q.1 l.length q.2] 109)
theorem tape_open {W w : World} {g : Hl} {H : List HP} {b : Nat} {l : List UInt8} (hs : Sat W w g (tape b l :: H)) : ∃ a c, Pr 1 g (.slice a l.length c) l.length (bs l) ∧ Sat W w g (blk b [.slice a l.length c] 109 :: H) := by
  obtain ⟨⟨a, c⟩, h⟩ := hs.unexs
  exact ⟨a, c, h.unwit.1, h.unwit.2⟩
theorem tape_close {W w : World} {g : Hl} {H : List HP} {b c n : Nat} {a : Option Addr} {l : List UInt8} (hn : l.length = n) (hp : Pr 1 g (.slice a n c) n (bs l)) (hs : Sat W w g (blk b [.slice a n c] 109 :: H)) : Sat W w g (tape b l :: H) := by
  subst hn
  exact Sat.mkexs (a, c) (Sat.mkwit hp hs)

/-- A fault, as it is raised. -/
def flt (e : Int) : List PanicEntry := [{ v := .iface 107 (.agg #[.int .i64 e]), recovered := false }]

def rdByte : List UInt8 → Except Int (UInt8 × List UInt8)
  | [] => .error 5
  | u :: l => .ok (u, l)
def rdNum (most : Nat) (l : List UInt8) : Except Int (Nat × List UInt8) :=
  match takeGo 0 0 l with
  | (v, k, e) => if e ≠ 0 then .error e else if most < v then .error 6 else .ok (v, l.drop k)
def rdText (most : Nat) (l : List UInt8) : Except Int (List UInt8 × List UInt8) :=
  match takeGo 0 0 l with
  | (v, k, e) => if e ≠ 0 then .error e else if most < v then .error 6 else if l.length < k + v then .error 5 else .ok ((l.drop k).take v, l.drop (k + v))

set_option maxHeartbeats 1600000 in
set_option maxRecDepth 100000 in
theorem newTape_any {R : Ending → World → Prop} {W w : World} {g : Hl} {H : List HP} {a : Option Addr} {c n : Nat} {l : List UInt8} (hn : l.length = n) (hs : Sat W w g H) (hp : Pr 1 g (.slice a n c) n (bs l))
    (hR : ∀ b w', Sat W w' g (tape b l :: H) → R (.returned (.pointer (some ⟨b, 0, none⟩))) w') : Calls Try.prog 63 #[.slice a n c] w R := by
  have HR := Lib.hid hR
  clear hR
  refine C.calls (args := [.slice a n c]) Try.func63 rfl rfl rfl ?_
  refine go ?_
  refine E.bx hs ?_
  intro b w1 hs
  refine go ?_
  refine A.r1 ?_
  exact HR.out _ _ (tape_close hn hp hs)

set_option maxHeartbeats 1600000 in
set_option maxRecDepth 100000 in
theorem must_any {R : Ending → World → Prop} {w : World} (e : Int) (h0 : e = 0 → R (.returned (.tuple #[])) w) (h1 : e ≠ 0 → R (.panicked (flt e)) w) : Calls Try.prog 72 #[.int .i64 e] w R := by
  refine C.calls (args := [.int .i64 e]) Try.func72 rfl rfl rfl ?_
  refine go ?_
  by_cases h : e = 0
  · refine C.cond rfl (fun hh => by simp [h] at hh) (fun _ => ?_)
    refine go ?_
    exact A.e0 (h0 h)
  · refine C.cond rfl (fun _ => ?_) (fun hh => by simp [h] at hh)
    refine go ?_
    refine E.panic ?_
    refine go ?_
    exact h1 h

set_option maxHeartbeats 1600000 in
set_option maxRecDepth 100000 in
theorem done_any {R : Ending → World → Prop} {W w : World} {g : Hl} {H : List HP} {b : Nat} {l : List UInt8} (hs : Sat W w g (tape b l :: H)) (hR : l = [] → R (.returned (.tuple #[])) w) (hE : l ≠ [] → R (.panicked (flt 4)) w) : Calls Try.prog 66 #[.pointer (some ⟨b, 0, none⟩)] w R := by
  obtain ⟨a, c, hp, hs⟩ := tape_open hs
  refine C.calls (args := [.pointer (some ⟨b, 0, none⟩)]) Try.func66 rfl rfl rfl ?_
  refine go ?_
  by_cases h : l = []
  · subst h
    refine C.cond rfl (fun hh => by simp at hh) (fun _ => ?_)
    refine go ?_
    exact A.e0 (hR rfl)
  · have hpos : 0 < l.length := List.length_pos_iff.2 h
    refine C.cond_dec rfl (fun _ => ?_) (fun hh => by omega)
    refine go ?_
    refine E.callf Try.func72 rfl ?_
    refine must_any 4 (fun h => by cases h) (fun _ => ?_)
    refine go ?_
    exact hE h

set_option maxHeartbeats 1600000 in
set_option maxRecDepth 100000 in
theorem byte_any {R : Ending → World → Prop} {W w : World} {g : Hl} {H : List HP} {b : Nat} {l : List UInt8} (hs : Sat W w g (tape b l :: H)) (hR : ∀ u r w', l = u :: r → Sat W w' g (tape b r :: H) → R (.returned (.int .u8 u.toNat)) w') (hE : l = [] → R (.panicked (flt 5)) w) :
    Calls Try.prog 64 #[.pointer (some ⟨b, 0, none⟩)] w R := by
  have HR := Lib.hid hR
  have HE := Lib.hid hE
  clear hR hE
  obtain ⟨a, c, hp, hs⟩ := tape_open hs
  cases l with
  | nil =>
    refine C.calls (args := [.pointer (some ⟨b, 0, none⟩)]) Try.func64 rfl rfl rfl ?_
    refine go ?_
    refine E.callf Try.func72 rfl ?_
    refine must_any 5 (fun h => by cases h) (fun _ => ?_)
    refine go ?_
    exact HE.out rfl
  | cons u l =>
    rw [List.length_cons] at hp hs
    have hne : ¬ ((l.length : Int) + 1 = 0) := by omega
    refine C.calls (args := [.pointer (some ⟨b, 0, none⟩)]) Try.func64 rfl rfl rfl ?_
    refine go ?_
    refine E.ix el_u8 hs hp 0 (v := .int .u8 u.toNat) rfl ?_
    intro b1 o1 hc
    refine go ?_
    refine E.slb el_u8 hp 1 (l.length + 1) ?_
    intro a2 c2 hp2
    refine go ?_
    refine E.sto hs ?_
    intro w3 hs
    refine go ?_
    refine A.r1 ?_
    refine HR.out _ _ _ rfl (tape_close ?_ ?_ hs)
    · simp
    · simpa using hp2

set_option maxHeartbeats 1600000 in
set_option maxRecDepth 100000 in
theorem num_any {R : Ending → World → Prop} {W w : World} {g : Hl} {H : List HP} {b : Nat} {l : List UInt8} (most : Nat) {mi : Int} (hmi : mi = most) (hs : Sat W w g (tape b l :: H)) (hR : ∀ v r w', rdNum most l = .ok (v, r) → v ≤ most → v < 18446744073709551616 → Sat W w' g (tape b r :: H) → R (.returned (.int .u64 v)) w') (hE : ∀ e w', rdNum most l = .error e → e ≠ 0 → Sat W w' g H → R (.panicked (flt e)) w') :
    Calls Try.prog 65 #[.pointer (some ⟨b, 0, none⟩), .int .u64 mi] w R := by
  have HR := Lib.hid hR
  have HE := Lib.hid hE
  clear hR hE
  subst hmi
  obtain ⟨a, c, hp, hs⟩ := tape_open hs
  refine C.calls (args := [.pointer (some ⟨b, 0, none⟩), .int .u64 most]) Try.func65 rfl rfl rfl ?_
  refine go ?_
  refine E.callf Try.func71 rfl ?_
  refine take_any hs hp rfl ?_ ?_
  · intro v k b' o' c' w1 ht hk hkn hv hs hp2
    refine go ?_
    refine E.callf Try.func72 rfl ?_
    refine must_any 0 (fun _ => ?_) (fun h => absurd rfl h)
    refine go ?_
    refine C.cond_dec (p := (most : Int) < v) rfl (fun h => ?_) (fun h => ?_)
    · refine go ?_
      refine E.callf Try.func72 rfl ?_
      refine must_any 6 (fun h => by cases h) (fun _ => ?_)
      refine go ?_
      refine HE.out 6 _ ?_ (by decide) hs.drop
      simp only [rdNum, ht]
      rw [if_neg (by simp), if_pos (by omega)]
    · refine go ?_
      refine E.sto hs ?_
      intro w3 hs
      refine go ?_
      refine A.r1 ?_
      refine HR.out v (l.drop k) _ ?_ (by omega) hv (tape_close ?_ hp2 hs)
      · simp only [rdNum, ht]
        rw [if_neg (by simp), if_neg (by omega)]
      · simp
  · intro e w1 ht he hs
    have hne : e ≠ 0 := by omega
    refine go ?_
    refine E.callf Try.func72 rfl ?_
    refine must_any e (fun h => absurd h hne) (fun _ => ?_)
    refine go ?_
    refine HE.out e _ ?_ hne hs.drop
    simp only [rdNum, ht]
    rw [if_pos hne]

end Go.Proofs.Ytcfbmmlgdopbmaa
