/-
  FeedNil: a nil feed has nothing; there are no other writers. No condition.
  The frame is the guide's shell (proof-skeleton.mjs), with the laid variables and the card after the kit's MapyProofs and MapyCard.
-/
import Derived.Test.YtdkbpcibmipelaaGreatDoorRows
import Derived.Test.YtdkbpcibmipelaaGreatDoorTie
import Derived.Test.YtdkbpcibmipelaaGreatDoorCards
import Derived.Test.YtdkbpcibmipelaaGreatDoorMl
import Derived.Test.YtdkbpcibmipelaaGreatDoorMo
import Derived.WalkKit
import Derived.ProofKit
import Derived.OpenShut
import Derived.ChangeOld
import Derived.Below
import Derived.LaidMore
import Derived.Stop.Joined
import Derived.SevenTiedAt
namespace Go.Proofs.YtdkbpcibmipelaaGreatDoor.feedNil
open Go.ChangeShapes Go.WideShapes Go.ChangeAt Go.RowKit
set_option linter.unusedVariables false

theorem own : ownKnob Tryz.prog.godebug = none := by kernel_rfl
theorem laidOut : laidOutB Tryz.prog = true := by kernel_rfl
theorem door_met (os : Os) (args : Array Value) : laidMetH Tryz.prog Rows.feedNilRow.laid ((World.doorLaid Tryz.prog 400 os).forCall (fun _ _ => 0) ⟨#[], args, []⟩).memory :=
  laidMetH_of_parts3 (fuel := 8) (laidMet_of_run' 8 (by kernel_rfl) (by kernel_rfl)) (by kernel_rfl) (by kernel_rfl)

set_option maxRecDepth 100000 in
theorem lifted (os : Os) (started : os.Started) (H : Type) (enc : TypeId × Value → H) :
    ReturnsInHanded {} Tryz.checked os 8 .any (fun w args => (Rows.feedNilSpec.pre enc Tryz.prog Tryz.f8 [] false w args ∧ laidMetH Tryz.prog Rows.feedNilRow.laid w) ∧ sizedMet enc Tryz.prog Tryz.f8 (OpenSpec.ofChange Rows.feedNilSpec) false w args)
      (Rows.feedNilSpec.post enc Tryz.prog Tryz.f8 false true false false) := by
  refine returnsInHanded_of_change_and (C := Tryz.checked) (X := fun w _ => laidMetH Tryz.prog Rows.feedNilRow.laid w) (fun _ _ _ hh h => h.of_heap hh) own started (by kernel_rfl) Tryz.func8
    (ChangeSpec.witness_shaped (enc := enc) (C := Tryz.checked) (os := os) (X := fun w _ => laidMetH Tryz.prog Rows.feedNilRow.laid w) false (World.doorLaid Tryz.prog 400 os) #[.int .i64 0, .agg #[.int .i64 0, .int .u64 0, .int .u64 0, .int .u8 0, .string ⟨#[]⟩, .slice none 0 0, .float .f64 0, .int .i64 0], .int .u64 0, .int .i64 0] 8 rfl (World.shaped_of_RefB (by kernel_rfl) (by kernel_rfl)) (by kernel_rfl) (by kernel_rfl) (by kernel_rfl) (door_met os _)) ?_
  intro W base args ds gs before hval0 hW _ _ hL _
  have hval : ∀ (j : Nat) t v, Tryz.f8.params[j]? = some t → args[j]? = some v → Value.okWide Tryz.prog W .any base t v := hval0
  have hW' := hW
  obtain ⟨p, q, hA0, hV, rfl, hfz, hnd⟩ := hW
  have hA : DataW.TrodAll enc Tryz.prog W 0 (fun _ => true) true Tryz.f8.params.toList args.toList ds p := hA0
  rw [Tryz.params8] at hA hval
  obtain ⟨v0, vs0, d0, ds0, p0, q0, hargs, rfl, rfl, h0, r0⟩ := trodAll_cons hA
  obtain ⟨v1, vs1, d1, ds1, p1, q1, rfl, rfl, rfl, h1, r1⟩ := trodAll_cons r0
  obtain ⟨v2, vs2, d2, ds2, p2, q2, rfl, rfl, rfl, h2, r2⟩ := trodAll_cons r1
  obtain ⟨v3, vs3, d3, ds3, p3, q3, rfl, rfl, rfl, h3, r3⟩ := trodAll_cons r2
  obtain ⟨rfl, rfl, rfl⟩ := trodAll_nil r3
  obtain rfl : args = #[v0, v1, v2, v3] := by cases args; simp_all
  obtain ⟨rfl, rfl⟩ := trodVars_none hV
  have k0 := h0
  have lt0 : ∀ x ∈ p0, x.block < W.heap.size := by obtain ⟨m, hm⟩ := k0; exact DataW.trod_lt m _ _ _ hm
  obtain ⟨z0, rfl, hd0, hp0', w0⟩ := open_int Tryz.underlying3 (hval 0 3 v0 rfl rfl) h0
  have k1 := h1
  have lt1 : ∀ x ∈ p1, x.block < W.heap.size := by obtain ⟨m, hm⟩ := k1; exact DataW.trod_lt m _ _ _ hm
  obtain ⟨e1, rfl, he1⟩ := in_event (hval 1 46 v1 rfl rfl) h1
  have k2 := h2
  have lt2 : ∀ x ∈ p2, x.block < W.heap.size := by obtain ⟨m, hm⟩ := k2; exact DataW.trod_lt m _ _ _ hm
  obtain ⟨z2, rfl, hd2, hp2', w2⟩ := open_int Tryz.underlying22 (hval 2 22 v2 rfl rfl) h2
  obtain ⟨m2, rfl, hm2⟩ : ∃ m : Nat, z2 = (m : Int) ∧ m < 18446744073709551616 := by
    have w := w2
    simp [Lit.wf, IntKind.min, IntKind.max, IntKind.signed, IntKind.bits] at w
    exact ⟨z2.toNat, by omega, by omega⟩
  have k3 := h3
  have lt3 : ∀ x ∈ p3, x.block < W.heap.size := by obtain ⟨m, hm⟩ := k3; exact DataW.trod_lt m _ _ _ hm
  obtain ⟨z3, rfl, hd3, hp3', w3⟩ := open_int Tryz.underlying3 (hval 3 3 v3 rfl rfl) h3
  clear hA0 hval0
  have key : Calls Tryz.prog 8 #[.int .i64 z0, e1.val, .int .u64 m2, .int .i64 z3] W fun e W' => e = .returned (.bool true) ∧ Below W.heap.size W W' := by
    exact feedNil_any (gl_of hL) (by have := w3; simp [Lit.wf, IntKind.min, IntKind.max, IntKind.signed, IntKind.bits] at this; omega) he1.tv (Sat.start W) fun w' g' hg hs => ⟨rfl, hs.below hg⟩
  refine key.mono fun e W' ⟨he, bel⟩ => ?_
  subst he
  exact ⟨_, rfl, _, _, _, [], _, [], hW', trodAll_mk1 (shut_bool Tryz.underlying4 _), (trodAll_cons_mk (Below.trod laidOut (by kernel_rfl) (of_decide_eq_true (by kernel_rfl)) k0 bel lt0) (trodAll_cons_mk (Below.trod laidOut (by kernel_rfl) (of_decide_eq_true (by kernel_rfl)) k1 bel lt1) (trodAll_cons_mk (Below.trod laidOut (by kernel_rfl) (of_decide_eq_true (by kernel_rfl)) k2 bel lt2) (trodAll_cons_mk (Below.trod laidOut (by kernel_rfl) (of_decide_eq_true (by kernel_rfl)) k3 bel lt3) trodAll_mk0)))), rfl, bel.frame _, fun h => by cases h⟩

theorem also {a b : Bool} (h : a = true) (h2 : b = true) : (a && b) = true := by rw [h, h2]; rfl
theorem k1_ : (Rows.feedNilRow.wf (OpenSpec.ofChange Rows.feedNilSpec)) = true := by kernel_rfl
theorem k2_ : (laidOutB Tryz.pinned.checked.prog) = true := by kernel_rfl
theorem k3_ : (mapsRowed Tryz.pinned.checked.prog) = true := by kernel_rfl
theorem k4_ : ((Tryz.f8).params.all (Tryz.pinned.checked.prog.readableRec ·)) = true := by kernel_rfl
theorem k5_ : (namedTie Tryz.pinned.checked.prog Rows.feedNilRow.named Rows.feedNilSpec.vars) = true := by kernel_rfl
theorem k6_ : ((Rows.feedNilRow.stops == [])) = true := by kernel_rfl
theorem k7_ : ((Tryz.pinned.checked.prog.stops == [])) = true := by kernel_rfl
theorem k8_ : ((Rows.feedNilRow.knobs == [])) = true := by kernel_rfl
theorem k9_ : ((Tryz.pinned.checked.prog.stopKnobs == [])) = true := by kernel_rfl
theorem k10_ : ((Rows.feedNilRow.inPlace == Tryz.pinned.checked.prog.inPlace 8)) = true := by kernel_rfl
theorem k11_ : ((Rows.feedNilRow.unfollowed == Tryz.pinned.checked.prog.unfollowed 8)) = true := by kernel_rfl
theorem k12_ : ((Rows.feedNilRow.recurses == Tryz.pinned.checked.prog.recurses 8)) = true := by kernel_rfl
theorem k13_ : ((Rows.feedNilRow.named == Tryz.pinned.checked.prog.varsNamed 8)) = true := by kernel_rfl
theorem k14_ : ((Rows.feedNilRow.maps == ((Tryz.f8).params.toList ++ Rows.feedNilSpec.plain.varTypes Tryz.pinned.checked.prog).any (Tryz.pinned.checked.prog.mapsRec ·))) = true := by kernel_rfl
theorem k15_ : ((Rows.feedNilRow.ifaces == ((Tryz.f8).params.toList ++ Rows.feedNilSpec.plain.varTypes Tryz.pinned.checked.prog).any (Tryz.pinned.checked.prog.ifacesRec ·))) = true := by kernel_rfl
theorem k16_ : ((Rows.feedNilRow.mapsOut == Tryz.pinned.checked.prog.mapsAmong (Tryz.f8).resultTypes.toList)) = true := by kernel_rfl
theorem k17_ : ((Rows.feedNilRow.loops == ((Tryz.f8).params.toList ++ Rows.feedNilSpec.plain.varTypes Tryz.pinned.checked.prog).any (Tryz.pinned.checked.prog.loopsFrom ·))) = true := by kernel_rfl
theorem k18_ : ((Rows.feedNilRow.wideKeys == ((Tryz.f8).params.toList ++ Rows.feedNilSpec.plain.varTypes Tryz.pinned.checked.prog ++ (Tryz.f8).resultTypes.toList).any (Tryz.pinned.checked.prog.wideKeysFrom ·))) = true := by kernel_rfl
theorem k19_ : (Rows.feedNilSpec.vars.all (Tryz.pinned.checked.prog.varReadable ·)) = true := by kernel_rfl
theorem k20_ : ((Tryz.f8).resultTypes.all (fun t => Tryz.pinned.checked.prog.readableRec t && decide (t < Tryz.pinned.checked.prog.types.size))) = true := by kernel_rfl
theorem k21_ : ((Rows.feedNilRow.ifacesOut == (Tryz.f8).resultTypes.toList.any (Tryz.pinned.checked.prog.ifacesRec ·))) = true := by kernel_rfl
theorem k22_ : ((Rows.feedNilRow.loopsOut == (Tryz.f8).resultTypes.toList.any (Tryz.pinned.checked.prog.loopsFrom ·))) = true := by kernel_rfl
theorem k23_ : ((Rows.feedNilRow.plainKeys == Tryz.pinned.checked.prog.plainKeys)) = true := by kernel_rfl
theorem k24_ : (Rows.feedNilRow.shortTexts.isNone) = true := by kernel_rfl
theorem k25_ : (Tryz.pinned.checked.prog.stopsHeard) = true := by kernel_rfl
theorem k26_ : (Tryz.pinned.checked.prog.mayEnter) = true := by kernel_rfl
theorem k27_ : ((Rows.feedNilRow.lifted == Tryz.pinned.checked.prog.liftsFinal)) = true := by kernel_rfl
theorem k28_ : ((Tryz.pinned.checked.prog.make == some Rows.feedNilRow.make)) = true := by kernel_rfl
theorem k29_ : ((Rows.feedNilRow.kinds == (if Rows.feedNilRow.domain.isEmpty then [] else (Tryz.f8).params.toList.map fun t => match Tryz.pinned.checked.prog.underlying t with | some (.int k) => some k | _ => none))) = true := by kernel_rfl
theorem k30_ : ((Rows.feedNilRow.pinned == Rows.feedNilRow.pinnedBy)) = true := by kernel_rfl
theorem k31_ : ((Rows.feedNilRow.veiled == ((Tryz.f8).params.toList ++ Rows.feedNilSpec.plain.varTypes Tryz.pinned.checked.prog ++ (Tryz.f8).resultTypes.toList).any (Tryz.pinned.checked.prog.veiledRec ·))) = true := by kernel_rfl
theorem k32_ : (Rows.feedNilRow.veiledFits Tryz.pinned.checked.prog (Tryz.f8).params.toList ((Tryz.f8).params.toList ++ Rows.feedNilSpec.plain.varTypes Tryz.pinned.checked.prog ++ (Tryz.f8).resultTypes.toList)) = true := by kernel_rfl
set_option maxRecDepth 100000 in
theorem closed : joinedFacts Tryz.pinned.checked.prog 8 Tryz.f8 Rows.feedNilSpec Rows.feedNilRow = true := by
  unfold joinedFacts
  exact (also (also (also (also (also (also (also (also (also (also (also (also (also (also (also (also (also (also (also (also (also (also (also (also (also (also (also (also (also (also (also k1_ k2_) k3_) k4_) k5_) k6_) k7_) k8_) k9_) k10_) k11_) k12_) k13_) k14_) k15_) k16_) k17_) k18_) k19_) k20_) k21_) k22_) k23_) k24_) k25_) k26_) k27_) k28_) k29_) k30_) k31_) k32_)
theorem named_ : Tryz.pinned.checked.prog.funcNamed Rows.feedNilRow.func = some 8 := by kernel_rfl
theorem inst_ : (Tryz.f8).isInstance Tryz.pinned.checked.prog Rows.feedNilRow.origin Rows.feedNilRow.targs := of_decide_eq_true (by kernel_rfl)
theorem wrap_ : (Tryz.f8).isWrapper Tryz.pinned.checked.prog Rows.feedNilRow.wrapper Rows.feedNilRow.mainSum := by unfold Func.isWrapper; first | (rw [if_pos (by decide +kernel)]; kernel_rfl) | (rw [if_neg (by decide +kernel)]; exact ⟨rfl, rfl⟩)
theorem over : Rows.feedNilRow.holds Tryz.pinned (OpenSpec.ofChange Rows.feedNilSpec) :=
  OpenClaim.holds_of_wide 8 Tryz.f8 rfl rfl rfl rfl rfl rfl rfl ⟨rfl, rfl, rfl, rfl, rfl⟩ rfl rfl rfl rfl rfl named_ Tryz.func8 closed inst_ wrap_
    (fun os started H enc _ => lifted os started H enc)
theorem byText_ : Rows.feedNilRow.wfByText (OpenSpec.ofChange Rows.feedNilSpec) = true := by kernel_rfl
theorem main_ : Tryz.pinned.checked.prog.mainIs = some (Rows.feedNilCard.stood.harness.1, Rows.feedNilCard.stood.harness.2.toList) := by kernel_rfl
theorem looks_ : true = Tryz.pinned.checked.prog.looks [] := by kernel_rfl
theorem goes_ : false = Rows.feedNilRow.goesBy Tryz.pinned.checked.prog := by kernel_rfl
theorem stands_ : ([3, 46, 22, 3].all fun u => !Program.wantsStandIn Tryz.prog u) = true := by kernel_rfl
theorem byName_ : Program.funcNamed Tryz.prog "anabranch/anabranchlaw09.FeedNil" = some 8 := by kernel_rfl

set_option maxRecDepth 100000 in
theorem proved : Rows.FeedNilCardSaid :=
  Claim7.holds_tied_plain_at .later [] [.data, .data, .data, .sentinel, .sentinel] true Rows.feedNilCard.stood.harness true
    over (fun _ h => by cases h) byText_ (fun _ h => by cases h) feedNil_row_tie rfl ⟨rfl, rfl⟩ main_ rfl
    (fun f fn hf hfn => by
      obtain rfl : f = 8 := Option.some.inj (byName_.symm.trans hf) |>.symm
      obtain rfl : fn = Tryz.f8 := (Option.some.inj (Tryz.func8.symm.trans hfn)).symm
      exact ⟨looks_, fun j t ht => by
        rw [Tryz.params8] at ht
        have hm : t ∈ [3, 46, 22, 3] := by simpa using Array.mem_of_getElem? ht
        exact (show Program.wantsStandIn Tryz.prog t = false by simpa using List.all_eq_true.1 stands_ t hm)⟩)
    goes_
end Go.Proofs.YtdkbpcibmipelaaGreatDoor.feedNil
