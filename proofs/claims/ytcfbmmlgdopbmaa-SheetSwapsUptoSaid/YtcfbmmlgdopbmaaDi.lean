/-
  Layer 4 (disk): the names that begin with nothing: all of them, rising.
-/
import Derived.Test.YtcfbmmlgdopbmaaDh
import Derived.Test.YtcfbmmlgdopbmaaDj
import Derived.Laws.Slices
namespace Go.Proofs.Ytcfbmmlgdopbmaa
open Go.RowKit Go.Maps Go.Sort
set_option linter.unusedVariables false
set_option linter.unusedSimpArgs false

/-- Names, rising. -/
def rising (l : List (List UInt8)) : List (List UInt8) := l.mergeSort fun x y => decide (x ≤ y)

set_option maxRecDepth 100000 in
theorem keys_call {R : Ending → World → Prop} {w : World} {mb : Nat} (hR : R (.returned (.func (.func 59) #[] #[.pointer (some ⟨w.heap.size, 0, none⟩)])) (w.alloc (.cells #[.map (some mb)] 55))) :
    Calls Try.prog 42 #[.map (some mb)] w R := by
  refine (callsIn_wide.1 (Try.maps_Keys_42 (some mb) w)).mono ?_
  rintro e w' ⟨rfl, rfl⟩
  exact hR
set_option maxRecDepth 100000 in
theorem sorted_call {R : Ending → World → Prop} {W w : World} {g : Hl} {H : List HP} {mb : Nat} {l : List (List UInt8 × Value)} (hs : Sat W w g (mp str mb l :: H)) (hn : (l.map Prod.fst).Nodup) (hlen : l.length ≤ 1000000000) (hk : ∀ p ∈ l, p.1.length ≤ maxLen)
    (hR : ∀ a c w' g', Hl.le g g' → Pr 1 g' (.slice a l.length c) l.length ((rising (l.map Prod.fst)).map str) → Sat W w' g' (mp str mb l :: H) → R (.returned (.slice a l.length c)) w') :
    Calls Try.prog 41 #[.func (.func 59) #[] #[.pointer (some ⟨w.heap.size, 0, none⟩)]] (w.alloc (.cells #[.map (some mb)] 55)) R := by
  obtain ⟨D, hown, hp, hsz⟩ := mp_owns (P := Try.prog) Try.underlying9 hs hn (by unfold maxLen; omega) hk
  refine (callsIn_wide.1 (Try.slices_Sorted_keys_41_42 mb l.length D _ w hown (by unfold maxLen; omega) (by omega))).mono ?_
  rintro e w' ⟨v, ss, rfl, hss, hrow, hnil, hb⟩
  have hpm := hss.trans hp
  have hsl : ss.length = l.length := by have := hpm.length_eq; simpa using this
  have hms : ss.mergeSort (fun x y => decide (x ≤ y)) = rising (l.map Prod.fst) := mergeSort_of_perm hpm
  rw [hms, hsl] at hrow
  have hs2 := (hs.garbage (.cells #[.map (some mb)] 55)).newOwn hrow hb
  obtain ⟨a, c, rfl, _⟩ := hs2.ownLen
  obtain ⟨g', hg', hpr, hs3⟩ := hs2.publishOwn
  exact hR a c w' g' hg' hpr hs3
end Go.Proofs.Ytcfbmmlgdopbmaa
