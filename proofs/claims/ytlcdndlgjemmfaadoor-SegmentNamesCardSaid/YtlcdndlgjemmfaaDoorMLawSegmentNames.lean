/-
  SegmentNames: the name of a segment, and back; other names are of none. No condition.
  The frame is the guide's shell (proof-skeleton.mjs), with the laid variables and the card after the kit's MapyProofs and MapyCard.
-/
import Derived.Test.YtlcdndlgjemmfaaDoorRows
import Derived.Test.YtlcdndlgjemmfaaDoorTie
import Derived.Test.YtlcdndlgjemmfaaDoorCards
import Derived.Test.YtlcdndlgjemmfaaDoorM04
import Derived.WalkKit
import Derived.ProofKit
import Derived.OpenShut
import Derived.ChangeOld
import Derived.Below
import Derived.LaidMore
import Derived.Stop.Joined
import Derived.SevenTiedAt
namespace Go.Proofs.YtlcdndlgjemmfaaDoor.segmentNames
open Go.ChangeShapes Go.WideShapes Go.ChangeAt Go.RowKit
set_option linter.unusedVariables false

theorem own : ownKnob Tryd.prog.godebug = none := by kernel_rfl
theorem laidOut : laidOutB Tryd.prog = true := by kernel_rfl
theorem door_met (os : Os) (args : Array Value) : laidMetH Tryd.prog Rows.segmentNamesRow.laid ((World.doorLaid Tryd.prog 400 os).forCall (fun _ _ => 0) ⟨#[], args, []⟩).memory :=
  laidMetH_of_parts3 (fuel := 8) (laidMet_of_run' 8 (by kernel_rfl) (by kernel_rfl)) (by kernel_rfl) (by kernel_rfl)

set_option maxRecDepth 100000 in
theorem lifted (os : Os) (started : os.Started) (H : Type) (enc : TypeId × Value → H) :
    ReturnsInHanded {} Tryd.checked os 3 .any (fun w args => (Rows.segmentNamesSpec.pre enc Tryd.prog Tryd.f3 [] false w args ∧ laidMetH Tryd.prog Rows.segmentNamesRow.laid w) ∧ sizedMet enc Tryd.prog Tryd.f3 (OpenSpec.ofChange Rows.segmentNamesSpec) false w args)
      (Rows.segmentNamesSpec.post enc Tryd.prog Tryd.f3 false true false false) := by
  refine returnsInHanded_of_change_and (C := Tryd.checked) (X := fun w _ => laidMetH Tryd.prog Rows.segmentNamesRow.laid w) (fun _ _ _ hh h => h.of_heap hh) own started (by kernel_rfl) Tryd.func3
    (ChangeSpec.witness_shaped (enc := enc) (C := Tryd.checked) (os := os) (X := fun w _ => laidMetH Tryd.prog Rows.segmentNamesRow.laid w) false (World.doorLaid Tryd.prog 400 os) #[.int .u8 0, .int .u64 0, .string ⟨#[]⟩] 8 rfl (World.shaped_of_RefB (by kernel_rfl) (by kernel_rfl)) (by kernel_rfl) (by kernel_rfl) (by kernel_rfl) (door_met os _)) ?_
  intro W base args ds gs before hval0 hW _ _ hL _
  have hval : ∀ (j : Nat) t v, Tryd.f3.params[j]? = some t → args[j]? = some v → Value.okWide Tryd.prog W .any base t v := hval0
  have hW' := hW
  obtain ⟨p, q, hA0, hV, rfl, hfz, hnd⟩ := hW
  have hA : DataW.TrodAll enc Tryd.prog W 0 (fun _ => true) true Tryd.f3.params.toList args.toList ds p := hA0
  rw [Tryd.params3] at hA hval
  obtain ⟨v0, vs0, d0, ds0, p0, q0, hargs, rfl, rfl, h0, r0⟩ := trodAll_cons hA
  obtain ⟨v1, vs1, d1, ds1, p1, q1, rfl, rfl, rfl, h1, r1⟩ := trodAll_cons r0
  obtain ⟨v2, vs2, d2, ds2, p2, q2, rfl, rfl, rfl, h2, r2⟩ := trodAll_cons r1
  obtain ⟨rfl, rfl, rfl⟩ := trodAll_nil r2
  obtain rfl : args = #[v0, v1, v2] := by cases args; simp_all
  obtain ⟨rfl, rfl⟩ := trodVars_none hV
  have k0 := h0
  have lt0 : ∀ x ∈ p0, x.block < W.heap.size := by obtain ⟨m, hm⟩ := k0; exact DataW.trod_lt m _ _ _ hm
  obtain ⟨z0, rfl, hd0, hp0', w0⟩ := open_int Tryd.underlying5 (hval 0 5 v0 rfl rfl) h0
  obtain ⟨m0, rfl, hm0⟩ : ∃ m : Nat, z0 = (m : Int) ∧ m < 256 := by
    have w := w0
    simp [Lit.wf, IntKind.min, IntKind.max, IntKind.signed, IntKind.bits] at w
    exact ⟨z0.toNat, by omega, by omega⟩
  have k1 := h1
  have lt1 : ∀ x ∈ p1, x.block < W.heap.size := by obtain ⟨m, hm⟩ := k1; exact DataW.trod_lt m _ _ _ hm
  obtain ⟨z1, rfl, hd1, hp1', w1⟩ := open_int Tryd.underlying22 (hval 1 22 v1 rfl rfl) h1
  obtain ⟨m1, rfl, hm1⟩ : ∃ m : Nat, z1 = (m : Int) ∧ m < 18446744073709551616 := by
    have w := w1
    simp [Lit.wf, IntKind.min, IntKind.max, IntKind.signed, IntKind.bits] at w
    exact ⟨z1.toNat, by omega, by omega⟩
  have k2 := h2
  have lt2 : ∀ x ∈ p2, x.block < W.heap.size := by obtain ⟨m, hm⟩ := k2; exact DataW.trod_lt m _ _ _ hm
  obtain ⟨s2, rfl⟩ := okWide_string Tryd.underlying9 (hval 2 9 v2 rfl rfl)
  obtain ⟨zs2, rfl⟩ : ∃ zs : List UInt8, s2 = ⟨zs.toArray⟩ := ⟨s2.data.toList, by simp⟩
  have hl2 : zs2.length ≤ maxLen := by
    obtain ⟨fuel, hf⟩ := h2
    obtain ⟨s', e, _, hz⟩ := DataW.trod_string Tryd.underlying9 hf
    simp [Value.cells] at e
    subst e
    simpa [ByteArray.size] using hz
  clear hA0 hval0
  have key : Calls Tryd.prog 3 #[.int .u8 m0, .int .u64 m1, str zs2] W fun e W' => e = .returned (.bool true) ∧ Below W.heap.size W W' := by
    exact segNames_any (gln_of hL) hm0 hm1 hl2 (Sat.start W) fun w' g' hg hs => ⟨rfl, hs.below hg⟩
  refine key.mono fun e W' ⟨he, bel⟩ => ?_
  subst he
  exact ⟨_, rfl, _, _, _, [], _, [], hW', trodAll_mk1 (shut_bool Tryd.underlying4 _), (trodAll_cons_mk (Below.trod laidOut (by kernel_rfl) (of_decide_eq_true (by kernel_rfl)) k0 bel lt0) (trodAll_cons_mk (Below.trod laidOut (by kernel_rfl) (of_decide_eq_true (by kernel_rfl)) k1 bel lt1) (trodAll_cons_mk (Below.trod laidOut (by kernel_rfl) (of_decide_eq_true (by kernel_rfl)) k2 bel lt2) trodAll_mk0))), rfl, bel.frame _, fun h => by cases h⟩

theorem also {a b : Bool} (h : a = true) (h2 : b = true) : (a && b) = true := by rw [h, h2]; rfl
theorem k1_ : (Rows.segmentNamesRow.wf (OpenSpec.ofChange Rows.segmentNamesSpec)) = true := by kernel_rfl
theorem k2_ : (laidOutB Tryd.pinned.checked.prog) = true := by kernel_rfl
theorem k3_ : (mapsRowed Tryd.pinned.checked.prog) = true := by kernel_rfl
theorem k4_ : ((Tryd.f3).params.all (Tryd.pinned.checked.prog.readableRec ·)) = true := by kernel_rfl
theorem k5_ : (namedTie Tryd.pinned.checked.prog Rows.segmentNamesRow.named Rows.segmentNamesSpec.vars) = true := by kernel_rfl
theorem k6_ : ((Rows.segmentNamesRow.stops == [])) = true := by kernel_rfl
theorem k7_ : ((Tryd.pinned.checked.prog.stops == [])) = true := by kernel_rfl
theorem k8_ : ((Rows.segmentNamesRow.knobs == [])) = true := by kernel_rfl
theorem k9_ : ((Tryd.pinned.checked.prog.stopKnobs == [])) = true := by kernel_rfl
theorem k10_ : ((Rows.segmentNamesRow.inPlace == Tryd.pinned.checked.prog.inPlace 3)) = true := by kernel_rfl
theorem k11_ : ((Rows.segmentNamesRow.unfollowed == Tryd.pinned.checked.prog.unfollowed 3)) = true := by kernel_rfl
theorem k12_ : ((Rows.segmentNamesRow.recurses == Tryd.pinned.checked.prog.recurses 3)) = true := by kernel_rfl
theorem k13_ : ((Rows.segmentNamesRow.named == Tryd.pinned.checked.prog.varsNamed 3)) = true := by kernel_rfl
theorem k14_ : ((Rows.segmentNamesRow.maps == ((Tryd.f3).params.toList ++ Rows.segmentNamesSpec.plain.varTypes Tryd.pinned.checked.prog).any (Tryd.pinned.checked.prog.mapsRec ·))) = true := by kernel_rfl
theorem k15_ : ((Rows.segmentNamesRow.ifaces == ((Tryd.f3).params.toList ++ Rows.segmentNamesSpec.plain.varTypes Tryd.pinned.checked.prog).any (Tryd.pinned.checked.prog.ifacesRec ·))) = true := by kernel_rfl
theorem k16_ : ((Rows.segmentNamesRow.mapsOut == Tryd.pinned.checked.prog.mapsAmong (Tryd.f3).resultTypes.toList)) = true := by kernel_rfl
theorem k17_ : ((Rows.segmentNamesRow.loops == ((Tryd.f3).params.toList ++ Rows.segmentNamesSpec.plain.varTypes Tryd.pinned.checked.prog).any (Tryd.pinned.checked.prog.loopsFrom ·))) = true := by kernel_rfl
theorem k18_ : ((Rows.segmentNamesRow.wideKeys == ((Tryd.f3).params.toList ++ Rows.segmentNamesSpec.plain.varTypes Tryd.pinned.checked.prog ++ (Tryd.f3).resultTypes.toList).any (Tryd.pinned.checked.prog.wideKeysFrom ·))) = true := by kernel_rfl
theorem k19_ : (Rows.segmentNamesSpec.vars.all (Tryd.pinned.checked.prog.varReadable ·)) = true := by kernel_rfl
theorem k20_ : ((Tryd.f3).resultTypes.all (fun t => Tryd.pinned.checked.prog.readableRec t && decide (t < Tryd.pinned.checked.prog.types.size))) = true := by kernel_rfl
theorem k21_ : ((Rows.segmentNamesRow.ifacesOut == (Tryd.f3).resultTypes.toList.any (Tryd.pinned.checked.prog.ifacesRec ·))) = true := by kernel_rfl
theorem k22_ : ((Rows.segmentNamesRow.loopsOut == (Tryd.f3).resultTypes.toList.any (Tryd.pinned.checked.prog.loopsFrom ·))) = true := by kernel_rfl
theorem k23_ : ((Rows.segmentNamesRow.plainKeys == Tryd.pinned.checked.prog.plainKeys)) = true := by kernel_rfl
theorem k24_ : (Rows.segmentNamesRow.shortTexts.isNone) = true := by kernel_rfl
theorem k25_ : (Tryd.pinned.checked.prog.stopsHeard) = true := by kernel_rfl
theorem k26_ : (Tryd.pinned.checked.prog.mayEnter) = true := by kernel_rfl
theorem k27_ : ((Rows.segmentNamesRow.lifted == Tryd.pinned.checked.prog.liftsFinal)) = true := by kernel_rfl
theorem k28_ : ((Tryd.pinned.checked.prog.make == some Rows.segmentNamesRow.make)) = true := by kernel_rfl
theorem k29_ : ((Rows.segmentNamesRow.kinds == (if Rows.segmentNamesRow.domain.isEmpty then [] else (Tryd.f3).params.toList.map fun t => match Tryd.pinned.checked.prog.underlying t with | some (.int k) => some k | _ => none))) = true := by kernel_rfl
theorem k30_ : ((Rows.segmentNamesRow.pinned == Rows.segmentNamesRow.pinnedBy)) = true := by kernel_rfl
theorem k31_ : ((Rows.segmentNamesRow.veiled == ((Tryd.f3).params.toList ++ Rows.segmentNamesSpec.plain.varTypes Tryd.pinned.checked.prog ++ (Tryd.f3).resultTypes.toList).any (Tryd.pinned.checked.prog.veiledRec ·))) = true := by kernel_rfl
theorem k32_ : (Rows.segmentNamesRow.veiledFits Tryd.pinned.checked.prog (Tryd.f3).params.toList ((Tryd.f3).params.toList ++ Rows.segmentNamesSpec.plain.varTypes Tryd.pinned.checked.prog ++ (Tryd.f3).resultTypes.toList)) = true := by kernel_rfl
set_option maxRecDepth 100000 in
theorem closed : joinedFacts Tryd.pinned.checked.prog 3 Tryd.f3 Rows.segmentNamesSpec Rows.segmentNamesRow = true := by
  unfold joinedFacts
  exact (also (also (also (also (also (also (also (also (also (also (also (also (also (also (also (also (also (also (also (also (also (also (also (also (also (also (also (also (also (also (also k1_ k2_) k3_) k4_) k5_) k6_) k7_) k8_) k9_) k10_) k11_) k12_) k13_) k14_) k15_) k16_) k17_) k18_) k19_) k20_) k21_) k22_) k23_) k24_) k25_) k26_) k27_) k28_) k29_) k30_) k31_) k32_)
theorem named_ : Tryd.pinned.checked.prog.funcNamed Rows.segmentNamesRow.func = some 3 := by kernel_rfl
theorem inst_ : (Tryd.f3).isInstance Tryd.pinned.checked.prog Rows.segmentNamesRow.origin Rows.segmentNamesRow.targs := of_decide_eq_true (by kernel_rfl)
theorem wrap_ : (Tryd.f3).isWrapper Tryd.pinned.checked.prog Rows.segmentNamesRow.wrapper Rows.segmentNamesRow.mainSum := by unfold Func.isWrapper; first | (rw [if_pos (by decide +kernel)]; kernel_rfl) | (rw [if_neg (by decide +kernel)]; exact ⟨rfl, rfl⟩)
theorem over : Rows.segmentNamesRow.holds Tryd.pinned (OpenSpec.ofChange Rows.segmentNamesSpec) :=
  OpenClaim.holds_of_wide 3 Tryd.f3 rfl rfl rfl rfl rfl rfl rfl ⟨rfl, rfl, rfl, rfl, rfl⟩ rfl rfl rfl rfl rfl named_ Tryd.func3 closed inst_ wrap_
    (fun os started H enc _ => lifted os started H enc)
theorem byText_ : Rows.segmentNamesRow.wfByText (OpenSpec.ofChange Rows.segmentNamesSpec) = true := by kernel_rfl
theorem main_ : Tryd.pinned.checked.prog.mainIs = some (Rows.segmentNamesCard.stood.harness.1, Rows.segmentNamesCard.stood.harness.2.toList) := by kernel_rfl
theorem looks_ : true = Tryd.pinned.checked.prog.looks [] := by kernel_rfl
theorem goes_ : false = Rows.segmentNamesRow.goesBy Tryd.pinned.checked.prog := by kernel_rfl
theorem stands_ : ([5, 22, 9].all fun u => !Program.wantsStandIn Tryd.prog u) = true := by kernel_rfl
theorem byName_ : Program.funcNamed Tryd.prog "anabranch/anabranchlaw08.SegmentNames" = some 3 := by kernel_rfl

set_option maxRecDepth 100000 in
theorem proved : Rows.SegmentNamesCardSaid :=
  Claim7.holds_tied_plain_at .later [] [.data, .data, .data, .sentinel, .sentinel] true Rows.segmentNamesCard.stood.harness true
    over (fun _ h => by cases h) byText_ (fun _ h => by cases h) segmentNames_row_tie rfl ⟨rfl, rfl⟩ main_ rfl
    (fun f fn hf hfn => by
      obtain rfl : f = 3 := Option.some.inj (byName_.symm.trans hf) |>.symm
      obtain rfl : fn = Tryd.f3 := (Option.some.inj (Tryd.func3.symm.trans hfn)).symm
      exact ⟨looks_, fun j t ht => by
        rw [Tryd.params3] at ht
        have hm : t ∈ [5, 22, 9] := by simpa using Array.mem_of_getElem? ht
        exact (show Program.wantsStandIn Tryd.prog t = false by simpa using List.all_eq_true.1 stands_ t hm)⟩)
    goes_
end Go.Proofs.YtlcdndlgjemmfaaDoor.segmentNames
