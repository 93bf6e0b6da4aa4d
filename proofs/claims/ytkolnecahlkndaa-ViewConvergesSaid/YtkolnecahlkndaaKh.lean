/-
  A map that a call owns, as the kit's maps read it; names, rising.
-/
import Derived.Test.YtkolnecahlkndaaKs
import Derived.Test.YtkolnecahlkndaaMp
import Derived.Sort.KeysCollected
import Derived.Maps.Own
import Derived.Laws.Slices
namespace Go.Proofs.Ytkolnecahlkndaa
open Go.RowKit Go.Maps Go.Sort Go.WideElems Go.ChangeShapes Go.WideShapes Go.MapKept Go.ChangeMaps
set_option linter.unusedVariables false
set_option linter.unusedSimpArgs false

/-- A string's bytes. -/
def bytesOf : Value → List UInt8
  | .string s => s.data.toList
  | _ => []
theorem bytesOf_str (l : List UInt8) : bytesOf (str l) = l := by simp [bytesOf, str]

theorem mp_owns {P : Program} {k : TypeId} {W w : World} {g : Hl} {H : List HP} {mb : Nat} {l : List (List UInt8 × Value)} (hkt : P.underlying k = some .string) (hs : Sat W w g (mp str mb l :: H)) (hn : (l.map Prod.fst).Nodup) (hlen : l.length ≤ maxLen) (hk : ∀ p ∈ l, p.1.length ≤ maxLen) :
    ∃ D : DataW Unit, w.ownsMap P k (fun _ => some (.nil, [])) mb l.length D ∧ (strKeys D).Perm (l.map Prod.fst) ∧ Maps.size D = l.length := by
  obtain ⟨es, clock, he, ho⟩ := mp_open hs
  have hb := ho.heap
  have hes : es.size = l.length := by
    have := congrArg List.length he.1
    simpa using this
  have hkey : ∀ x ∈ es.toList, ∃ p ∈ l, x.key = str p.1 := by
    intro x hx
    have h1 : entOf x ∈ es.toList.map entOf := List.mem_map_of_mem hx
    rw [he.1] at h1
    obtain ⟨p, hp, e⟩ := List.mem_map.1 h1
    exact ⟨p, hp, by have := congrArg Prod.fst e; simpa [entOf] using this.symm⟩
  have hrd : ∀ x ∈ es.toList, WideElems.rd (H := Unit) P k (fun _ => some (.nil, [])) x = some (.string (bytesOf x.key), .nil) := by
    intro x hx
    obtain ⟨p, hp, e⟩ := hkey x hx
    have h1 := hk p hp
    simp [WideElems.rd, e, str, keyOf, hkt, mapKey, ByteArray.size, bytesOf, h1]
  have hkeys : es.toList.map (fun x => bytesOf x.key) = l.map Prod.fst := by
    have h1 := congrArg (List.map fun q : Value × Value => bytesOf q.1) he.1
    rw [List.map_map, List.map_map] at h1
    have e1 : ((fun q : Value × Value => bytesOf q.1) ∘ entOf) = fun x : MapEntry => bytesOf x.key := rfl
    have e2 : ((fun q : Value × Value => bytesOf q.1) ∘ fun p : List UInt8 × Value => (str p.1, p.2)) = Prod.fst := by
      funext p
      exact bytesOf_str p.1
    rw [e1, e2] at h1
    exact h1
  have hst : Stamped es clock := by
    refine ⟨he.2.1, he.2.2, ?_⟩
    have h2 : ((es.toList.map (·.key)).map bytesOf).Nodup := by
      rw [List.map_map]
      have : (bytesOf ∘ fun x : MapEntry => x.key) = fun x => bytesOf x.key := rfl
      rw [this, hkeys]
      exact hn
    exact List.Pairwise.of_map bytesOf (fun a b hab e => hab (by rw [e])) h2
  refine ⟨_, ⟨es, clock, hb, ⟨by omega, hst, fun x hx => ⟨_, hrd x hx⟩⟩, by omega, rfl⟩, ?_, ?_⟩
  · have h3 := sorted_perm (es.toList.map (WideElems.rg (H := Unit) P k (fun _ => some (.nil, []))))
    have h4 := h3.map (fun p => strOf p.1)
    have h5 : (es.toList.map (WideElems.rg (H := Unit) P k (fun _ => some (.nil, [])))).map (fun p => strOf p.1) = l.map Prod.fst := by
      rw [List.map_map, ← hkeys]
      apply List.map_congr_left
      intro x hx
      simp [WideElems.rg, hrd x hx, strOf]
    rw [h5] at h4
    exact h4
  · have h3 := (sorted_perm (es.toList.map (WideElems.rg (H := Unit) P k (fun _ => some (.nil, []))))).length_eq
    simp only [Maps.size, h3, List.length_map, Array.length_toList, hes]
/-- Names, rising. -/
def rising (l : List (List UInt8)) : List (List UInt8) := l.mergeSort fun x y => decide (x ≤ y)
theorem rising_perm (l : List (List UInt8)) : (rising l).Perm l := List.mergeSort_perm _ _
end Go.Proofs.Ytkolnecahlkndaa
