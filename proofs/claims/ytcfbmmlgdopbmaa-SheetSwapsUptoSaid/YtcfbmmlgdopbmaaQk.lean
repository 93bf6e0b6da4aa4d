/-
  Layer 2 (digits): Caught, where nothing was raised, and where a fault was.
-/
import Derived.Test.YtcfbmmlgdopbmaaQj
import Derived.Recover
namespace Go.Proofs.Ytcfbmmlgdopbmaa
open Go.RowKit
set_option linter.unusedVariables false
set_option linter.unusedSimpArgs false

set_option maxHeartbeats 1600000 in
set_option maxRecDepth 100000 in
theorem caught_none {w : World} {b : Nat} {R : Ending → FrameMode → World → Prop} (hR : R (.returned (.tuple #[])) .returning w) :
    CallsD Try.prog 62 #[.pointer (some ⟨b, 0, none⟩)] .returning w R := by
  refine callsD_of_wpS Try.func62 rfl fun c₀ cs hu => ?_
  apply wpS_seq
  apply wpS_region
  simp [wpOpsS, go_sem, recoverD, hu, Exit.thenS]
  refine wpS_of_wp ?_
  refine C.use (n := ⟨Try.f62.ntmps, []⟩) (ρ := [(5, .nilIface)]) ?_ ⟨rfl, rfl, fun t v h ht => ?_⟩
  · refine go ?_
    refine A.mk fun a ha => ⟨ha.defers, .returning, ?_, .tuple #[], ?_, hR⟩
    · rw [← hu]
    · exact results_none Try.results62 _ _ _
  · simp only [lk] at h
    split at h
    · rename_i hb
      have : 5 = t := Nat.eq_of_beq_eq_true hb
      subst this
      simpa using h
    · cases h

set_option maxHeartbeats 1600000 in
set_option maxRecDepth 100000 in
theorem caught_fault {W w : World} {g : Hl} {H H' : List HP} {b : Nat} {e : Int} {old : Value} {R : Ending → FrameMode → World → Prop} (hs : Sat W w g H) (hu : Up b [old] [.int .i64 e] 30 H H')
    (hR : ∀ w', Sat W w' g H' → R (.returned (.tuple #[])) (.panicking [{ v := .iface 107 (.agg #[.int .i64 e]), recovered := true }]) w') :
    CallsD Try.prog 62 #[.pointer (some ⟨b, 0, none⟩)] (.panicking (flt e)) w R := by
  have HU := Lib.hid hu
  clear hu
  have HR := Lib.hid hR
  clear hR
  refine callsD_of_wpS Try.func62 rfl fun c₀ cs hu => ?_
  apply wpS_seq
  apply wpS_region
  simp [wpOpsS, go_sem, recoverD, hu, Exit.thenS, flt]
  refine wpS_of_wp ?_
  refine C.use (n := ⟨Try.f62.ntmps, []⟩) (ρ := [(5, .iface 107 (.agg #[.int .i64 e])), (0, .pointer (some ⟨b, 0, none⟩))]) ?_ ⟨rfl, rfl, fun t v h ht => ?_⟩
  · refine go ?_
    refine E.al hs ?_
    intro b2 w2 hs
    refine go ?_
    refine E.sto hs ?_
    intro w3 hs
    refine go ?_
    obtain ⟨L, R', rfl, rfl⟩ := HU.out.sat
    have hs := hs.drop.toFront
    refine E.sto hs ?_
    intro w4 hs
    refine go ?_
    refine A.mk fun a ha => ⟨ha.defers, .panicking [{ v := .iface 107 (.agg #[.int .i64 e]), recovered := true }], ?_, .tuple #[], ?_, HR.out _ hs.toBack⟩
    · simp
    · exact results_none Try.results62 _ _ _
  · simp only [lk] at h
    split at h
    · rename_i hb
      have : 5 = t := Nat.eq_of_beq_eq_true hb
      subst this
      simpa using h
    · split at h
      · rename_i hb
        have : 0 = t := Nat.eq_of_beq_eq_true hb
        subst this
        simpa using h
      · cases h

end Go.Proofs.Ytcfbmmlgdopbmaa
