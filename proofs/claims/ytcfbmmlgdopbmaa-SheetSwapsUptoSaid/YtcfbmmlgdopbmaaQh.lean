/-
  Layer 3 (check): the records ahead.
-/
import Derived.Test.YtcfbmmlgdopbmaaQg
namespace Go.Proofs.Ytcfbmmlgdopbmaa
open Go.RowKit
set_option linter.unusedVariables false
set_option linter.unusedSimpArgs false

theorem el_row : ElemOf Try.prog 25 37 (.slice none 0 0) 1 24 := .of Try.underlying25 (by kernel_rfl) rfl (by decide)

/-- The texts of the records ahead, how many bytes these have, and why no more are. -/
def allB (most : Nat) : Nat → List UInt8 → List (List UInt8) × Nat × Int
  | 0, _ => ([], 0, 0)
  | fuel + 1, l => if l = [] then ([], 0, 0) else match openB l most with
    | .error e => ([], 0, e)
    | .ok (k, v) => match allB most fuel (l.drop (k + v + 4)) with
      | (r, n, e) => ((l.drop k).take v :: r, k + v + 4 + n, e)

/-- Rows of bytes that are the pool's. -/
def Rws (g : Hl) (ps : List (Value × List UInt8)) : Prop := ∀ p ∈ ps, Pr 1 g p.1 p.2.length (bs p.2)
theorem Rws.mono {g g' : Hl} {ps : List (Value × List UInt8)} (h : Rws g ps) (hg : Hl.le g g') : Rws g' ps := fun p hp => (h p hp).mono hg
theorem Rws.one {g : Hl} {ps : List (Value × List UInt8)} (h : Rws g ps) : ∀ u ∈ ps.map Prod.fst, u.oneCell' = true := by
  intro u hu
  obtain ⟨p, hp, rfl⟩ := List.mem_map.1 hu
  obtain ⟨a, c, e, _⟩ := (h p hp).len
  rw [e]; rfl

theorem openB_ok {l : List UInt8} {most k v : Nat} (h : openB l most = .ok (k, v)) : k + v + 4 ≤ l.length := by
  unfold openB at h
  split at h
  rename_i v' k' e _
  split at h
  · cases h
  split at h
  · cases h
  split at h
  · cases h
  split at h
  · cases h
  split at h
  · simp only [Except.ok.injEq, Prod.mk.injEq] at h
    omega
  · cases h
theorem allB_fuel (most : Nat) : ∀ (f f' : Nat) (l : List UInt8), l.length < f → l.length < f' → allB most f l = allB most f' l
  | 0, _, _, h, _ => by omega
  | _ + 1, 0, _, _, h => by omega
  | f + 1, f' + 1, l, h, h' => by
    simp only [allB]
    split
    · rfl
    · rename_i hne
      cases ho : openB l most with
      | error e => rfl
      | ok p =>
        obtain ⟨k, v⟩ := p
        have hk := openB_ok ho
        have : (l.drop (k + v + 4)).length < l.length := by
          have : l.length ≠ 0 := fun e => hne (List.eq_nil_of_length_eq_zero e)
          rw [List.length_drop]; omega
        simp only
        rw [allB_fuel most f f' (l.drop (k + v + 4)) (by omega) (by omega)]

end Go.Proofs.Ytcfbmmlgdopbmaa
