/-
  TractNone: of no kind of event that there is the three numbers alone are told, and they are no event's. For every event and every number; no condition.
  The frame is the guide's shell (proof-skeleton.mjs), with the laid variables and the card after the kit's MapyProofs and MapyCard.
-/
import Derived.Test.YtgciifalclgeeaaGreatDoorRows
import Derived.Test.YtgciifalclgeeaaGreatDoorTie
import Derived.Test.YtgciifalclgeeaaGreatDoorCards
import Derived.Test.YtgciifalclgeeaaGreatDoorM03
import Derived.WalkKit
import Derived.ProofKit
import Derived.OpenShut
import Derived.ChangeOld
import Derived.Below
import Derived.LaidMore
import Derived.Stop.Joined
import Derived.SevenTiedAt
import Derived.Lay
import Derived.MakeChecks
namespace Go.Proofs.YtgciifalclgeeaaGreatDoor.tractNone
open Go.ChangeShapes Go.WideShapes Go.ChangeAt Go.RowKit
set_option linter.unusedVariables false
theorem own : ownKnob Tryz.prog.godebug = none := by kernel_rfl
theorem laidOut : laidOutB Tryz.prog = true := by kernel_rfl
theorem door_met (os : Os) (args : Array Value) : laidMetH Tryz.prog Rows.tractNoneRow.laid ((World.laidAll Tryz.prog os Rows.tractNoneRow.laid).forCall (fun _ _ => 0) ⟨#[], args, []⟩).memory :=
  by rw [MakeChecks.laidMetH_plain _ _ _ (by kernel_rfl)]; exact laidMet_laidAll _ (by kernel_rfl) (by kernel_rfl)
set_option maxRecDepth 100000 in
theorem lifted (os : Os) (started : os.Started) (H : Type) (enc : TypeId × Value → H) :
    ReturnsInHanded {} Tryz.checked os 3 .any (fun w args => (Rows.tractNoneSpec.pre enc Tryz.prog Tryz.f3 [] false w args ∧ laidMetH Tryz.prog Rows.tractNoneRow.laid w) ∧ sizedMet enc Tryz.prog Tryz.f3 (OpenSpec.ofChange Rows.tractNoneSpec) false w args)
      (Rows.tractNoneSpec.post enc Tryz.prog Tryz.f3 false true false false) := by
  refine returnsInHanded_of_change_and (C := Tryz.checked) (X := fun w _ => laidMetH Tryz.prog Rows.tractNoneRow.laid w) (fun _ _ _ hh h => h.of_heap hh) own started (by kernel_rfl) Tryz.func3
    (ChangeSpec.witness_shaped (enc := enc) (C := Tryz.checked) (os := os) (X := fun w _ => laidMetH Tryz.prog Rows.tractNoneRow.laid w) false (World.laidAll Tryz.prog os Rows.tractNoneRow.laid) #[.agg #[.int .i64 0, .int .u64 0, .int .u64 0, .int .u8 0, .string ⟨#[]⟩, .slice none 0 0, .float .f64 0, .int .i64 0], .int .u8 0] 8 (World.laidAll_os _ _ _) (World.shaped_of_ZipB (by kernel_rfl) (by kernel_rfl)) (by kernel_rfl) (by kernel_rfl) (by kernel_rfl) (door_met os _)) ?_
  intro W base args ds gs before hval0 hW _ _ hL _
  have hval : ∀ (j : Nat) t v, Tryz.f3.params[j]? = some t → args[j]? = some v → Value.okWide Tryz.prog W .any base t v := hval0
  have hW' := hW
  obtain ⟨p, q, hA0, hV, rfl, hfz, hnd⟩ := hW
  have hA : DataW.TrodAll enc Tryz.prog W 0 (fun _ => true) true Tryz.f3.params.toList args.toList ds p := hA0
  rw [Tryz.params3] at hA hval
  obtain ⟨v0, vs0, d0, ds0, p0, q0, hargs, rfl, rfl, h0, r0⟩ := trodAll_cons hA
  obtain ⟨v1, vs1, d1, ds1, p1, q1, rfl, rfl, rfl, h1, r1⟩ := trodAll_cons r0
  obtain ⟨rfl, rfl, rfl⟩ := trodAll_nil r1
  obtain rfl : args = #[v0, v1] := by cases args; simp_all
  obtain ⟨rfl, rfl⟩ := trodVars_none hV
  have k0 := h0
  have lt0 : ∀ x ∈ p0, x.block < W.heap.size := by obtain ⟨m, hm⟩ := k0; exact DataW.trod_lt m _ _ _ hm
  obtain ⟨e0, rfl, he0⟩ := in_event (hval 0 26 v0 rfl rfl) h0
  have k1 := h1
  have lt1 : ∀ x ∈ p1, x.block < W.heap.size := by obtain ⟨m, hm⟩ := k1; exact DataW.trod_lt m _ _ _ hm
  obtain ⟨z1, rfl, hd1, hp1', w1⟩ := open_int Tryz.underlying5 (hval 1 5 v1 rfl rfl) h1
  obtain ⟨m1, rfl, hm1⟩ : ∃ m : Nat, z1 = (m : Int) ∧ m < 256 := by
    have w := w1
    simp [Lit.wf, IntKind.min, IntKind.max, IntKind.signed, IntKind.bits] at w
    exact ⟨z1.toNat, by omega, by omega⟩
  clear hA0 hval0
  have key : Calls Tryz.prog 3 #[e0.val, .int .u8 m1] W fun e W' => e = .returned (.bool true) ∧ Below W.heap.size W W' := by
    exact tnone_any (gld_row hL) (glv_row hL) hm1 ⟨he0.sq, he0.tm⟩ he0.tv (Sat.start W) fun w' g' hg hs => ⟨rfl, hs.below hg⟩
  refine key.mono fun e W' ⟨he, bel⟩ => ?_
  subst he
  exact ⟨_, rfl, _, _, _, [], _, [], hW', trodAll_mk1 (shut_bool Tryz.underlying4 _), (trodAll_cons_mk (Below.trod laidOut (by kernel_rfl) (of_decide_eq_true (by kernel_rfl)) k0 bel lt0) (trodAll_cons_mk (Below.trod laidOut (by kernel_rfl) (of_decide_eq_true (by kernel_rfl)) k1 bel lt1) trodAll_mk0)), rfl, bel.frame _, fun h => by cases h⟩
theorem also {a b : Bool} (h : a = true) (h2 : b = true) : (a && b) = true := by rw [h, h2]; rfl
theorem k1_ : (Rows.tractNoneRow.wf (OpenSpec.ofChange Rows.tractNoneSpec)) = true := by kernel_rfl
theorem k2_ : (laidOutB Tryz.pinned.checked.prog) = true := by kernel_rfl
theorem k3_ : (mapsRowed Tryz.pinned.checked.prog) = true := by kernel_rfl
theorem k4_ : ((Tryz.f3).params.all (Tryz.pinned.checked.prog.readableRec ·)) = true := by kernel_rfl
theorem k5_ : (namedTie Tryz.pinned.checked.prog Rows.tractNoneRow.named Rows.tractNoneSpec.vars) = true := by kernel_rfl
theorem k6_ : ((Rows.tractNoneRow.stops == [])) = true := by kernel_rfl
theorem k7_ : ((Tryz.pinned.checked.prog.stops == [])) = true := by kernel_rfl
theorem k8_ : ((Rows.tractNoneRow.knobs == [])) = true := by kernel_rfl
theorem k9_ : ((Tryz.pinned.checked.prog.stopKnobs == [])) = true := by kernel_rfl
theorem k10_ : ((Rows.tractNoneRow.inPlace == Tryz.pinned.checked.prog.inPlace 3)) = true := by kernel_rfl
theorem k11_ : ((Rows.tractNoneRow.unfollowed == Tryz.pinned.checked.prog.unfollowed 3)) = true := by kernel_rfl
theorem k12_ : ((Rows.tractNoneRow.recurses == Tryz.pinned.checked.prog.recurses 3)) = true := by kernel_rfl
theorem k13_ : ((Rows.tractNoneRow.named == Tryz.pinned.checked.prog.varsNamed 3)) = true := by kernel_rfl
theorem k14_ : ((Rows.tractNoneRow.maps == ((Tryz.f3).params.toList ++ Rows.tractNoneSpec.plain.varTypes Tryz.pinned.checked.prog).any (Tryz.pinned.checked.prog.mapsRec ·))) = true := by kernel_rfl
theorem k15_ : ((Rows.tractNoneRow.ifaces == ((Tryz.f3).params.toList ++ Rows.tractNoneSpec.plain.varTypes Tryz.pinned.checked.prog).any (Tryz.pinned.checked.prog.ifacesRec ·))) = true := by kernel_rfl
theorem k16_ : ((Rows.tractNoneRow.mapsOut == Tryz.pinned.checked.prog.mapsAmong (Tryz.f3).resultTypes.toList)) = true := by kernel_rfl
theorem k17_ : ((Rows.tractNoneRow.loops == ((Tryz.f3).params.toList ++ Rows.tractNoneSpec.plain.varTypes Tryz.pinned.checked.prog).any (Tryz.pinned.checked.prog.loopsFrom ·))) = true := by kernel_rfl
theorem k18_ : ((Rows.tractNoneRow.wideKeys == ((Tryz.f3).params.toList ++ Rows.tractNoneSpec.plain.varTypes Tryz.pinned.checked.prog ++ (Tryz.f3).resultTypes.toList).any (Tryz.pinned.checked.prog.wideKeysFrom ·))) = true := by kernel_rfl
theorem k19_ : (Rows.tractNoneSpec.vars.all (Tryz.pinned.checked.prog.varReadable ·)) = true := by kernel_rfl
theorem k20_ : ((Tryz.f3).resultTypes.all (fun t => Tryz.pinned.checked.prog.readableRec t && decide (t < Tryz.pinned.checked.prog.types.size))) = true := by kernel_rfl
theorem k21_ : ((Rows.tractNoneRow.ifacesOut == (Tryz.f3).resultTypes.toList.any (Tryz.pinned.checked.prog.ifacesRec ·))) = true := by kernel_rfl
theorem k22_ : ((Rows.tractNoneRow.loopsOut == (Tryz.f3).resultTypes.toList.any (Tryz.pinned.checked.prog.loopsFrom ·))) = true := by kernel_rfl
theorem k23_ : ((Rows.tractNoneRow.plainKeys == Tryz.pinned.checked.prog.plainKeys)) = true := by kernel_rfl
theorem k24_ : (Rows.tractNoneRow.shortTexts.isNone) = true := by kernel_rfl
theorem k25_ : (Tryz.pinned.checked.prog.stopsHeard) = true := by kernel_rfl
theorem k26_ : (Tryz.pinned.checked.prog.mayEnter) = true := by kernel_rfl
theorem k27_ : ((Rows.tractNoneRow.lifted == Tryz.pinned.checked.prog.liftsFinal)) = true := by kernel_rfl
theorem k28_ : ((Tryz.pinned.checked.prog.make == some Rows.tractNoneRow.make)) = true := by kernel_rfl
theorem k29_ : ((Rows.tractNoneRow.kinds == (if Rows.tractNoneRow.domain.isEmpty then [] else (Tryz.f3).params.toList.map fun t => match Tryz.pinned.checked.prog.underlying t with | some (.int k) => some k | _ => none))) = true := by kernel_rfl
theorem k30_ : ((Rows.tractNoneRow.pinned == Rows.tractNoneRow.pinnedBy)) = true := by kernel_rfl
theorem k31_ : ((Rows.tractNoneRow.veiled == ((Tryz.f3).params.toList ++ Rows.tractNoneSpec.plain.varTypes Tryz.pinned.checked.prog ++ (Tryz.f3).resultTypes.toList).any (Tryz.pinned.checked.prog.veiledRec ·))) = true := by kernel_rfl
theorem k32_ : (Rows.tractNoneRow.veiledFits Tryz.pinned.checked.prog (Tryz.f3).params.toList ((Tryz.f3).params.toList ++ Rows.tractNoneSpec.plain.varTypes Tryz.pinned.checked.prog ++ (Tryz.f3).resultTypes.toList)) = true := by kernel_rfl
set_option maxRecDepth 100000 in
theorem closed : joinedFacts Tryz.pinned.checked.prog 3 Tryz.f3 Rows.tractNoneSpec Rows.tractNoneRow = true := by
  unfold joinedFacts
  exact (also (also (also (also (also (also (also (also (also (also (also (also (also (also (also (also (also (also (also (also (also (also (also (also (also (also (also (also (also (also (also k1_ k2_) k3_) k4_) k5_) k6_) k7_) k8_) k9_) k10_) k11_) k12_) k13_) k14_) k15_) k16_) k17_) k18_) k19_) k20_) k21_) k22_) k23_) k24_) k25_) k26_) k27_) k28_) k29_) k30_) k31_) k32_)
theorem named_ : Tryz.pinned.checked.prog.funcNamed Rows.tractNoneRow.func = some 3 := by kernel_rfl
theorem inst_ : (Tryz.f3).isInstance Tryz.pinned.checked.prog Rows.tractNoneRow.origin Rows.tractNoneRow.targs := of_decide_eq_true (by kernel_rfl)
theorem wrap_ : (Tryz.f3).isWrapper Tryz.pinned.checked.prog Rows.tractNoneRow.wrapper Rows.tractNoneRow.mainSum := by unfold Func.isWrapper; first | (rw [if_pos (by decide +kernel)]; kernel_rfl) | (rw [if_neg (by decide +kernel)]; exact ⟨rfl, rfl⟩)
theorem over : Rows.tractNoneRow.holds Tryz.pinned (OpenSpec.ofChange Rows.tractNoneSpec) :=
  OpenClaim.holds_of_wide 3 Tryz.f3 rfl rfl rfl rfl rfl rfl rfl ⟨rfl, rfl, rfl, rfl, rfl⟩ rfl rfl rfl rfl rfl named_ Tryz.func3 closed inst_ wrap_
    (fun os started H enc _ => lifted os started H enc)
theorem byText_ : Rows.tractNoneRow.wfByText (OpenSpec.ofChange Rows.tractNoneSpec) = true := by kernel_rfl
theorem main_ : Tryz.pinned.checked.prog.mainIs = some (Rows.tractNoneCard.stood.harness.1, Rows.tractNoneCard.stood.harness.2.toList) := by kernel_rfl
theorem looks_ : true = Tryz.pinned.checked.prog.looks [] := by kernel_rfl
theorem goes_ : false = Rows.tractNoneRow.goesBy Tryz.pinned.checked.prog := by kernel_rfl
theorem stands_ : ([26, 5].all fun u => !Program.wantsStandIn Tryz.prog u) = true := by kernel_rfl
theorem byName_ : Program.funcNamed Tryz.prog "anabranch/anabranchlaw28.TractNone" = some 3 := by kernel_rfl
set_option maxRecDepth 100000 in
theorem proved : Rows.TractNoneCardSaid :=
  Claim7.holds_tied_plain_at .later [] [.data, .data, .widerDeep, .widerDeep, .data, .data, .data, .data, .data, .data, .sentinel, .sentinel, .data, .pinned, .pinned, .pinned, .pinned] true Rows.tractNoneCard.stood.harness true
    over (fun _ h => by cases h) byText_ (fun _ h => by cases h) tractNone_row_tie rfl ⟨rfl, rfl⟩ main_ rfl
    (fun f fn hf hfn => by
      obtain rfl : f = 3 := Option.some.inj (byName_.symm.trans hf) |>.symm
      obtain rfl : fn = Tryz.f3 := (Option.some.inj (Tryz.func3.symm.trans hfn)).symm
      exact ⟨looks_, fun j t ht => by
        rw [Tryz.params3] at ht
        have hm : t ∈ [26, 5] := by simpa using Array.mem_of_getElem? ht
        exact (show Program.wantsStandIn Tryz.prog t = false by simpa using List.all_eq_true.1 stands_ t hm)⟩)
    goes_
end Go.Proofs.YtgciifalclgeeaaGreatDoor.tractNone
