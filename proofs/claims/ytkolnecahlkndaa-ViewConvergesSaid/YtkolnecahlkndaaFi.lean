/-
  Layer 11 (fold): the keys, rising.
-/
import Derived.Test.YtkolnecahlkndaaFa
import Derived.Test.YtkolnecahlkndaaKh
import Derived.Test.YtkolnecahlkndaaFj
namespace Go.Proofs.Ytkolnecahlkndaa
open Go.RowKit Go.Maps Go.Sort
set_option linter.unusedVariables false
set_option linter.unusedSimpArgs false

set_option maxRecDepth 100000 in
theorem fkeys_call {R : Ending → World → Prop} {w : World} {mb : Nat} (hR : R (.returned (.func (.func 74) #[] #[.pointer (some ⟨w.heap.size, 0, none⟩)])) (w.alloc (.cells #[.map (some mb)] 65))) :
    Calls Try.prog 55 #[.map (some mb)] w R := by
  refine (callsIn_wide.1 (Try.maps_Keys_55 (some mb) w)).mono ?_
  rintro e w' ⟨rfl, rfl⟩
  exact hR
set_option maxRecDepth 100000 in
theorem fsorted_call {R : Ending → World → Prop} {W w : World} {g : Hl} {H : List HP} {mb : Nat} {l : List (List UInt8 × Value)} (hs : Sat W w g (mp str mb l :: H)) (hn : (l.map Prod.fst).Nodup) (hlen : l.length ≤ 1000000000) (hk : ∀ p ∈ l, p.1.length ≤ maxLen)
    (hR : ∀ a c w' g', Hl.le g g' → Pr 1 g' (.slice a l.length c) l.length ((rising (l.map Prod.fst)).map str) → Sat W w' g' (mp str mb l :: H) → R (.returned (.slice a l.length c)) w') :
    Calls Try.prog 54 #[.func (.func 74) #[] #[.pointer (some ⟨w.heap.size, 0, none⟩)]] (w.alloc (.cells #[.map (some mb)] 65)) R := by
  obtain ⟨D, hown, hp, hsz⟩ := mp_owns (P := Try.prog) Try.underlying9 hs hn (by unfold maxLen; omega) hk
  refine (callsIn_wide.1 (Try.slices_Sorted_keys_54_55 mb l.length D _ w hown (by unfold maxLen; omega) (by omega))).mono ?_
  rintro e w' ⟨v, ss, rfl, hss, hrow, hnil, hb⟩
  have hpm := hss.trans hp
  have hsl : ss.length = l.length := by have := hpm.length_eq; simpa using this
  have hms : ss.mergeSort (fun x y => decide (x ≤ y)) = rising (l.map Prod.fst) := mergeSort_of_perm hpm
  rw [hms, hsl] at hrow
  have hs2 := (hs.garbage (.cells #[.map (some mb)] 65)).newOwn hrow hb
  obtain ⟨a, c, rfl, _⟩ := hs2.ownLen
  obtain ⟨g', hg', hpr, hs3⟩ := hs2.publishOwn
  exact hR a c w' g' hg' hpr hs3

/-- The keys of a fold, rising. -/
def Fo.keys (f : Fo) : List (List UInt8) := rising (f.cells.map Prod.fst)
theorem Fo.keys_length (f : Fo) : f.keys.length = f.cells.length := by
  have := (rising_perm (f.cells.map Prod.fst)).length_eq
  simpa [Fo.keys] using this

set_option maxHeartbeats 1600000 in
set_option maxRecDepth 100000 in
theorem foldKeys_any {R : Ending → World → Prop} {W w : World} {g : Hl} {H : List HP} {b : Nat} {i : Fi} {f : Fo} (hi : i.ok f g) (hl : f.cells.length ≤ 1000000000) (hs : Sat W w g (foB b i f :: cmap i.mb i.L :: H))
    (hR : ∀ a' c' w' g', Hl.le g g' → Pr 1 g' (.slice a' f.cells.length c') f.cells.length (f.keys.map str) → Sat W w' g' (foB b i f :: cmap i.mb i.L :: H) → R (.returned (.slice a' f.cells.length c')) w') : Calls Try.prog 33 #[ptr b] w R := by
  have HR := Lib.hid hR
  clear hR
  have h1 := hi.ok.mem
  have h2 := hi.ok.ret
  have e1 : ((i.L.map fun p => (p.1, ceV p.2.1 p.2.2)).map Prod.fst) = f.cells.map Prod.fst := by
    rw [← hi.plain]
    simp [Cs.plain]
  have e2 : (i.L.map fun p => (p.1, ceV p.2.1 p.2.2)).length = f.cells.length := by
    rw [← hi.plain]
    simp [Cs.plain]
  simp only [foB] at hs HR
  refine C.calls (args := [.pointer (some ⟨b, 0, none⟩)]) Try.func33 rfl rfl rfl ?_
  refine go ?_
  refine E.callf Try.func55 rfl ?_
  refine fkeys_call ?_
  refine go ?_
  refine E.callf Try.func54 rfl ?_
  refine fsorted_call (l := i.L.map fun p => (p.1, ceV p.2.1 p.2.2)) hs.swap (by rw [e1]; exact hi.ok.keys) (by rw [e2]; exact hl) (fun p hp => ?_) ?_
  · obtain ⟨q, hq, rfl⟩ := List.mem_map.1 hp
    have h3 : (q.1, q.2.1) ∈ f.cells := by rw [← hi.plain]; exact List.mem_map.2 ⟨q, hq, rfl⟩
    have := (hi.ok.cells _ h3).2
    simp only [maxLen] at this ⊢
    omega
  intro a3 c3 w3 g3 hg3 hp3 hs
  rw [e1, e2] at hp3
  rw [e2]
  refine go ?_
  refine A.r1 ?_
  exact HR.out a3 c3 w3 g3 hg3 hp3 hs.swap
end Go.Proofs.Ytkolnecahlkndaa
