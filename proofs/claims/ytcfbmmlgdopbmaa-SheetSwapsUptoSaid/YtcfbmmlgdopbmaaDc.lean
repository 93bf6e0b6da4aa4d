/-
  Layer 4 (disk): bytes are written behind a file's.
-/
import Derived.Test.YtcfbmmlgdopbmaaDb
namespace Go.Proofs.Ytcfbmmlgdopbmaa
open Go.RowKit
set_option linter.unusedVariables false
set_option linter.unusedSimpArgs false

section
variable {P : Program} {n : Fm} {ρ : List (Nat × Value)} {W w w' : World} {g g' : Hl} {H H' : List HP} {Q : Exit → Act → World → Prop} {ops : Array Oper} {rest : List Oper} {d : Option Tmp} {ty : TypeId} {ps : String} {af : Array Edge} {x y z : Operand} {mb : Nat} {L : Fs} {name : List UInt8}
/-- A file by its name. -/
theorem E.lookd (hs : Sat W w g H) (hf : Has (dmap mb L) H) (h0 : aget name L = none → E Try.prog n ops rest (pushv d (.tuple #[.pointer none, .bool false]) ρ) w Q) (h1 : ∀ fb f, aget name L = some (fb, f) → E Try.prog n ops rest (pushv d (.tuple #[ptr fb, .bool true]) ρ) w Q)
    (hx : evo n ρ x = some (.map (some mb)) := by exact rfl) (hy : evo n ρ y = some (str name) := by exact rfl) :
    E Try.prog n ops (⟨d, .lookup 55 x y true, ty, ps, af, none⟩ :: rest) ρ w Q := by
  refine E.cons (St.lookup (z := .pointer none) ky_str Try.underlying55 (by go_simp) hs hf hx hy ?_)
  have e := alook_map (fun q : Nat × Fl => ptr q.1) name L
  rw [e]
  cases ha : aget name L with
  | none => simpa using h0 ha
  | some q =>
    obtain ⟨fb, f⟩ := q
    simpa using h1 fb f ha
theorem E.setd {fb : Nat} {f : Fl} (hs : Sat W w g H) (hf : Re (dmap mb L) [dmap mb (aput name (fb, f) L)] H H') (h : ∀ w', Sat W w' g H' → E Try.prog n ops rest ρ w' Q)
    (hx : evo n ρ x = some (.map (some mb)) := by exact rfl) (hy : evo n ρ y = some (str name) := by exact rfl) (hz : evo n ρ z = some (ptr fb) := by exact rfl) :
    E Try.prog n ops (⟨none, .mapUpdate 55 x y z, ty, ps, af, none⟩ :: rest) ρ w Q := by
  have e := aset_map (fun q : Nat × Fl => ptr q.1) name (fb, f) L
  refine E.cons (St.mapUpdate ky_str Try.underlying55 hs hx hy hz (l := L.map fun p => (p.1, ptr p.2.1)) ?_ h)
  have : (mp str mb (aset name (ptr fb) (L.map fun p => (p.1, ptr p.2.1)))) = dmap mb (aput name (fb, f) L) := by
    simp only [dmap]; rw [← e]
  rw [this]
  exact hf
theorem E.deld {kt : TypeId} (hs : Sat W w g H) (hf : Re (dmap mb L) [dmap mb (adrop name L)] H H') (h : ∀ w', Sat W w' g H' → E Try.prog n ops rest (pushv d (.tuple #[]) ρ) w' Q)
    (hx : evo n ρ x = some (.map (some mb)) := by exact rfl) (hy : evo n ρ y = some (str name) := by exact rfl) :
    E Try.prog n ops (⟨d, .call ⟨.builtin .delete, #[x, y], #[55, kt]⟩, ty, ps, af, none⟩ :: rest) ρ w Q := by
  have e := adel_map (fun q : Nat × Fl => ptr q.1) name L
  refine E.cons (St.delete ky_str Try.underlying55 hs hx hy (l := L.map fun p => (p.1, ptr p.2.1)) ?_ h)
  have : (mp str mb (adel name (L.map fun p => (p.1, ptr p.2.1)))) = dmap mb (adrop name L) := by
    simp only [dmap]; rw [← e]
  rw [this]
  exact hf
end

def put (name p : List UInt8) (fs : List (List UInt8 × Fl)) : List (List UInt8 × Fl) := aput name ⟨((aget name fs).getD ⟨[], 0⟩).p ++ p, ((aget name fs).getD ⟨[], 0⟩).safe⟩ fs
theorem al_plain (name : List UInt8) (L : Fs) : aget name (Fs.plain L) = (aget name L).map Prod.snd := al_map (fun q : Nat × Fl => q.2) name L
theorem as_plain (name : List UInt8) (q : Nat × Fl) (L : Fs) : aput name q.2 (Fs.plain L) = Fs.plain (aput name q L) := as_map (fun q : Nat × Fl => q.2) name q L
theorem ad_plain (name : List UInt8) (L : Fs) : adrop name (Fs.plain L) = Fs.plain (adrop name L) := ad_map (fun q : Nat × Fl => q.2) name L

theorem Sat.under2 {W w : World} {g : Hl} {A B C D : HP} {H : List HP} (hs : Sat W w g (A :: B :: C :: D :: H)) : Sat W w g (A :: D :: B :: C :: H) := hs.perm (.cons _ ((List.Perm.cons _ (.swap _ _ _)).trans (.swap _ _ _)))
theorem dmap_mid {mb fb : Nat} {f f' : Fl} {name : List UInt8} {L1 L2 : Fs} : dmap mb (L1 ++ (name, (fb, f)) :: L2) = dmap mb (L1 ++ (name, (fb, f')) :: L2) := by simp [dmap]

set_option maxHeartbeats 1600000 in
set_option maxRecDepth 100000 in
theorem write_any {R : Ending → World → Prop} {W w : World} {g : Hl} {H : List HP} {b mb m : Nat} {d : Dk} {L : Fs} {name p : List UInt8} {u : Value} (hs : Sat W w g (dsk b mb d :: dmap mb L :: bsep (dfiles L) :: H)) (hp : Pr 1 g u m (bs p)) (hm : p.length = m) (hL : tk (Fs.plain L) + m ≤ 1000000000)
    (hR : ∀ w' L', Fs.plain L' = put name p (Fs.plain L) → Sat W w' g (dsk b mb d :: dmap mb L' :: bsep (dfiles L') :: H) → R (.returned (.tuple #[])) w') : Calls Try.prog 36 #[ptr b, str name, u] w R := by
  have HR := Lib.hid hR
  clear hR
  simp only [dsk] at hs
  refine C.calls (args := [ptr b, str name, u]) Try.func36 rfl rfl rfl ?_
  refine go ?_
  refine E.lookd hs (.there .here) (fun h0 => ?_) (fun fb f h1 => ?_)
  · refine go ?_
    refine E.bx hs ?_
    intro fb w1 hs
    refine go ?_
    refine E.setd (f := ⟨p, 0⟩) hs (.there (.there .here)) ?_
    intro w2 hs
    refine go ?_
    refine E.appw el_u8 hs.wnil (hp.row hs) ?_
    intro a c w3 hs
    refine go ?_
    refine E.sto hs ?_
    intro w4 hs
    refine go ?_
    refine A.e0 ?_
    obtain ⟨h2, -⟩ := as_none (v := (fb, (⟨p, 0⟩ : Fl))) h0
    refine HR.out _ (L ++ [(name, (fb, ⟨p, 0⟩))]) ?_ ?_
    · have h3 : aget name (Fs.plain L) = none := by rw [al_plain, h0]; rfl
      simp only [put, h3]
      rw [show (none : Option Fl).getD ⟨[], 0⟩ = ⟨[], 0⟩ from rfl]
      simp only [List.nil_append]
      rw [(as_none h3).1]
      simp [Fs.plain]
    · rw [h2] at hs
      simp only [Nat.zero_add, List.nil_append] at hs
      have hs1 := file_close (s := 0) hm rfl hs.swap
      have hs2 := hs1.under2
      have e0 : dfiles L = dfiles (L ++ []) := by simp
      rw [e0] at hs2
      exact (files_in (q := (name, (fb, ⟨p, 0⟩))) hs2).push2
  · obtain ⟨L1, L2, rfl, h2, -⟩ := al_split h1
    obtain ⟨a, c, hs⟩ := file_open (files_out (q := (name, (fb, f))) hs.pull2)
    simp only at hs
    have hb : f.p.length + m ≤ 1000000000 := by
      have : tk (Fs.plain (L1 ++ (name, (fb, f)) :: L2)) = f.p.length + tk (Fs.plain (L1 ++ L2)) := by
        simp only [Fs.plain, List.map_append, List.map_cons, tk_append, tk_cons]; omega
      omega
    refine go ?_
    refine E.appw el_u8 hs.swap (hp.row hs) ?_
    intro a c w3 hs
    refine go ?_
    refine E.sto hs ?_
    intro w4 hs
    refine go ?_
    refine A.e0 ?_
    rw [← bs_append] at hs
    refine HR.out _ (L1 ++ (name, (fb, ⟨f.p ++ p, f.safe⟩)) :: L2) ?_ ?_
    · simp only [put, al_plain, h1, Option.map_some, Option.getD_some]
      rw [as_plain name (fb, ⟨f.p ++ p, f.safe⟩), h2]
    · rw [dmap_mid (f' := ⟨f.p ++ p, f.safe⟩)] at hs
      have hs1 := file_close (l := f.p ++ p) (by rw [List.length_append, hm]) rfl hs.swap
      exact (files_in (q := (name, (fb, ⟨f.p ++ p, f.safe⟩))) hs1).push2
end Go.Proofs.Ytcfbmmlgdopbmaa
