/-
  StoreWrites: the write order by itself: whatever the event, what Write says. For every node's number, every event, and both ways of retiring; no condition.
  The frame is the guide's shell (proof-skeleton.mjs), with the laid variables and the card after the kit's MapyProofs and MapyCard.
-/
import Derived.Test.YtfhmamkafancbaaGreatDoorRows
import Derived.Test.YtfhmamkafancbaaGreatDoorTie
import Derived.Test.YtfhmamkafancbaaGreatDoorCards
import Derived.Test.YtfhmamkafancbaaGreatDoorM14
import Derived.WalkKit
import Derived.ProofKit
import Derived.OpenShut
import Derived.ChangeOld
import Derived.Below
import Derived.LaidMore
import Derived.Stop.Joined
import Derived.SevenTiedAt
import Derived.MakeChecks
namespace Go.Proofs.YtfhmamkafancbaaGreatDoor.storeWrites
open Go.ChangeShapes Go.WideShapes Go.ChangeAt Go.RowKit
set_option linter.unusedVariables false
theorem own : ownKnob Tryz.prog.godebug = none := by kernel_rfl
theorem laidOut : laidOutB Tryz.prog = true := by kernel_rfl
theorem door_met (os : Os) (args : Array Value) : laidMetH Tryz.prog Rows.storeWritesRow.laid ((World.doorLaid Tryz.prog 400 os).forCall (fun _ _ => 0) ⟨#[], args, []⟩).memory :=
  laidMetH_of_parts3 (fuel := 8) (laidMet_of_run' 8 (by kernel_rfl) (by kernel_rfl)) (by kernel_rfl) (by kernel_rfl)
set_option maxRecDepth 100000 in
theorem lifted (os : Os) (started : os.Started) (H : Type) (enc : TypeId × Value → H) :
    ReturnsInHanded {} Tryz.checked os 3 .any (fun w args => (Rows.storeWritesSpec.pre enc Tryz.prog Tryz.f3 [] false w args ∧ laidMetH Tryz.prog Rows.storeWritesRow.laid w) ∧ sizedMet enc Tryz.prog Tryz.f3 (OpenSpec.ofChange Rows.storeWritesSpec) false w args)
      (Rows.storeWritesSpec.post enc Tryz.prog Tryz.f3 false true false false) := by
  refine returnsInHanded_of_change_and (C := Tryz.checked) (X := fun w _ => laidMetH Tryz.prog Rows.storeWritesRow.laid w) (fun _ _ _ hh h => h.of_heap hh) own started (by kernel_rfl) Tryz.func3
    (ChangeSpec.witness_shaped (enc := enc) (C := Tryz.checked) (os := os) (X := fun w _ => laidMetH Tryz.prog Rows.storeWritesRow.laid w) false (World.doorLaid Tryz.prog 400 os) #[.int .u8 0, .agg #[.int .i64 0, .int .u64 0, .int .u64 0, .int .u8 0, .string ⟨#[]⟩, .slice none 0 0, .float .f64 0, .int .i64 0], .bool false] 8 rfl (World.shaped_of_RefB (by kernel_rfl) (by kernel_rfl)) (by kernel_rfl) (by kernel_rfl) (by kernel_rfl) (door_met os _)) ?_
  intro W base args ds gs before hval0 hW _ _ hL _
  have hval : ∀ (j : Nat) t v, Tryz.f3.params[j]? = some t → args[j]? = some v → Value.okWide Tryz.prog W .any base t v := hval0
  have hW' := hW
  obtain ⟨p, q, hA0, hV, rfl, hfz, hnd⟩ := hW
  have hA : DataW.TrodAll enc Tryz.prog W 0 (fun _ => true) true Tryz.f3.params.toList args.toList ds p := hA0
  rw [Tryz.params3] at hA hval
  obtain ⟨v0, vs0, d0, ds0, p0, q0, hargs, rfl, rfl, h0, r0⟩ := trodAll_cons hA
  obtain ⟨v1, vs1, d1, ds1, p1, q1, rfl, rfl, rfl, h1, r1⟩ := trodAll_cons r0
  obtain ⟨v2, vs2, d2, ds2, p2, q2, rfl, rfl, rfl, h2, r2⟩ := trodAll_cons r1
  obtain ⟨rfl, rfl, rfl⟩ := trodAll_nil r2
  obtain rfl : args = #[v0, v1, v2] := by cases args; simp_all
  obtain ⟨rfl, rfl⟩ := trodVars_none hV
  have k0 := h0
  have lt0 : ∀ x ∈ p0, x.block < W.heap.size := by obtain ⟨m, hm⟩ := k0; exact DataW.trod_lt m _ _ _ hm
  obtain ⟨z0, rfl, hd0, hp0', w0⟩ := open_int Tryz.underlying5 (hval 0 5 v0 rfl rfl) h0
  obtain ⟨m0, rfl, hm0⟩ : ∃ m : Nat, z0 = (m : Int) ∧ m < 256 := by
    have w := w0
    simp [Lit.wf, IntKind.min, IntKind.max, IntKind.signed, IntKind.bits] at w
    exact ⟨z0.toNat, by omega, by omega⟩
  have k1 := h1
  have lt1 : ∀ x ∈ p1, x.block < W.heap.size := by obtain ⟨m, hm⟩ := k1; exact DataW.trod_lt m _ _ _ hm
  obtain ⟨e1, rfl, he1⟩ := in_event (hval 1 26 v1 rfl rfl) h1
  have k2 := h2
  have lt2 : ∀ x ∈ p2, x.block < W.heap.size := by obtain ⟨m, hm⟩ := k2; exact DataW.trod_lt m _ _ _ hm
  obtain ⟨b2, rfl, hd2, hp2'⟩ := open_bool Tryz.underlying4 (hval 2 4 v2 rfl rfl) h2
  clear hA0 hval0
  have key : Calls Tryz.prog 3 #[.int .u8 m0, e1.val, .bool b2] W fun e W' => e = .returned (.bool true) ∧ Below W.heap.size W W' := by
    exact writes_any (gl_row hL) hm0 he1.text (fun h1 h2 => he1.ok (by omega) (by omega)) (Sat.start W) fun w' g' hg hs => ⟨rfl, hs.below hg⟩
  refine key.mono fun e W' ⟨he, bel⟩ => ?_
  subst he
  exact ⟨_, rfl, _, _, _, [], _, [], hW', trodAll_mk1 (shut_bool Tryz.underlying4 _), (trodAll_cons_mk (Below.trod laidOut (by kernel_rfl) (of_decide_eq_true (by kernel_rfl)) k0 bel lt0) (trodAll_cons_mk (Below.trod laidOut (by kernel_rfl) (of_decide_eq_true (by kernel_rfl)) k1 bel lt1) (trodAll_cons_mk (Below.trod laidOut (by kernel_rfl) (of_decide_eq_true (by kernel_rfl)) k2 bel lt2) trodAll_mk0))), rfl, bel.frame _, fun h => by cases h⟩
theorem also {a b : Bool} (h : a = true) (h2 : b = true) : (a && b) = true := by rw [h, h2]; rfl
theorem k1_ : (Rows.storeWritesRow.wf (OpenSpec.ofChange Rows.storeWritesSpec)) = true := by kernel_rfl
theorem k2_ : (laidOutB Tryz.pinned.checked.prog) = true := by kernel_rfl
theorem k3_ : (mapsRowed Tryz.pinned.checked.prog) = true := by kernel_rfl
theorem k4_ : ((Tryz.f3).params.all (Tryz.pinned.checked.prog.readableRec ·)) = true := by kernel_rfl
theorem k5_ : (namedTie Tryz.pinned.checked.prog Rows.storeWritesRow.named Rows.storeWritesSpec.vars) = true := by kernel_rfl
theorem k6_ : ((Rows.storeWritesRow.stops == [])) = true := by kernel_rfl
theorem k7_ : ((Tryz.pinned.checked.prog.stops == [])) = true := by kernel_rfl
theorem k8_ : ((Rows.storeWritesRow.knobs == [])) = true := by kernel_rfl
theorem k9_ : ((Tryz.pinned.checked.prog.stopKnobs == [])) = true := by kernel_rfl
theorem k10_ : ((Rows.storeWritesRow.inPlace == Tryz.pinned.checked.prog.inPlace 3)) = true := by kernel_rfl
theorem k11_ : ((Rows.storeWritesRow.unfollowed == Tryz.pinned.checked.prog.unfollowed 3)) = true := by kernel_rfl
theorem k12_ : ((Rows.storeWritesRow.recurses == Tryz.pinned.checked.prog.recurses 3)) = true := by kernel_rfl
theorem k13_ : ((Rows.storeWritesRow.named == Tryz.pinned.checked.prog.varsNamed 3)) = true := by kernel_rfl
theorem k14_ : ((Rows.storeWritesRow.maps == ((Tryz.f3).params.toList ++ Rows.storeWritesSpec.plain.varTypes Tryz.pinned.checked.prog).any (Tryz.pinned.checked.prog.mapsRec ·))) = true := by kernel_rfl
theorem k15_ : ((Rows.storeWritesRow.ifaces == ((Tryz.f3).params.toList ++ Rows.storeWritesSpec.plain.varTypes Tryz.pinned.checked.prog).any (Tryz.pinned.checked.prog.ifacesRec ·))) = true := by kernel_rfl
theorem k16_ : ((Rows.storeWritesRow.mapsOut == Tryz.pinned.checked.prog.mapsAmong (Tryz.f3).resultTypes.toList)) = true := by kernel_rfl
theorem k17_ : ((Rows.storeWritesRow.loops == ((Tryz.f3).params.toList ++ Rows.storeWritesSpec.plain.varTypes Tryz.pinned.checked.prog).any (Tryz.pinned.checked.prog.loopsFrom ·))) = true := by kernel_rfl
theorem k18_ : ((Rows.storeWritesRow.wideKeys == ((Tryz.f3).params.toList ++ Rows.storeWritesSpec.plain.varTypes Tryz.pinned.checked.prog ++ (Tryz.f3).resultTypes.toList).any (Tryz.pinned.checked.prog.wideKeysFrom ·))) = true := by kernel_rfl
theorem k19_ : (Rows.storeWritesSpec.vars.all (Tryz.pinned.checked.prog.varReadable ·)) = true := by kernel_rfl
theorem k20_ : ((Tryz.f3).resultTypes.all (fun t => Tryz.pinned.checked.prog.readableRec t && decide (t < Tryz.pinned.checked.prog.types.size))) = true := by kernel_rfl
theorem k21_ : ((Rows.storeWritesRow.ifacesOut == (Tryz.f3).resultTypes.toList.any (Tryz.pinned.checked.prog.ifacesRec ·))) = true := by kernel_rfl
theorem k22_ : ((Rows.storeWritesRow.loopsOut == (Tryz.f3).resultTypes.toList.any (Tryz.pinned.checked.prog.loopsFrom ·))) = true := by kernel_rfl
theorem k23_ : ((Rows.storeWritesRow.plainKeys == Tryz.pinned.checked.prog.plainKeys)) = true := by kernel_rfl
theorem k24_ : (Rows.storeWritesRow.shortTexts.isNone) = true := by kernel_rfl
theorem k25_ : (Tryz.pinned.checked.prog.stopsHeard) = true := by kernel_rfl
theorem k26_ : (Tryz.pinned.checked.prog.mayEnter) = true := by kernel_rfl
theorem k27_ : ((Rows.storeWritesRow.lifted == Tryz.pinned.checked.prog.liftsFinal)) = true := by kernel_rfl
theorem k28_ : ((Tryz.pinned.checked.prog.make == some Rows.storeWritesRow.make)) = true := by kernel_rfl
theorem k29_ : ((Rows.storeWritesRow.kinds == (if Rows.storeWritesRow.domain.isEmpty then [] else (Tryz.f3).params.toList.map fun t => match Tryz.pinned.checked.prog.underlying t with | some (.int k) => some k | _ => none))) = true := by kernel_rfl
theorem k30_ : ((Rows.storeWritesRow.pinned == Rows.storeWritesRow.pinnedBy)) = true := by kernel_rfl
theorem k31_ : ((Rows.storeWritesRow.veiled == ((Tryz.f3).params.toList ++ Rows.storeWritesSpec.plain.varTypes Tryz.pinned.checked.prog ++ (Tryz.f3).resultTypes.toList).any (Tryz.pinned.checked.prog.veiledRec ·))) = true := by kernel_rfl
theorem k32_ : (Rows.storeWritesRow.veiledFits Tryz.pinned.checked.prog (Tryz.f3).params.toList ((Tryz.f3).params.toList ++ Rows.storeWritesSpec.plain.varTypes Tryz.pinned.checked.prog ++ (Tryz.f3).resultTypes.toList)) = true := by kernel_rfl
set_option maxRecDepth 100000 in
theorem closed : joinedFacts Tryz.pinned.checked.prog 3 Tryz.f3 Rows.storeWritesSpec Rows.storeWritesRow = true := by
  unfold joinedFacts
  exact (also (also (also (also (also (also (also (also (also (also (also (also (also (also (also (also (also (also (also (also (also (also (also (also (also (also (also (also (also (also (also k1_ k2_) k3_) k4_) k5_) k6_) k7_) k8_) k9_) k10_) k11_) k12_) k13_) k14_) k15_) k16_) k17_) k18_) k19_) k20_) k21_) k22_) k23_) k24_) k25_) k26_) k27_) k28_) k29_) k30_) k31_) k32_)
theorem named_ : Tryz.pinned.checked.prog.funcNamed Rows.storeWritesRow.func = some 3 := by kernel_rfl
theorem inst_ : (Tryz.f3).isInstance Tryz.pinned.checked.prog Rows.storeWritesRow.origin Rows.storeWritesRow.targs := of_decide_eq_true (by kernel_rfl)
theorem wrap_ : (Tryz.f3).isWrapper Tryz.pinned.checked.prog Rows.storeWritesRow.wrapper Rows.storeWritesRow.mainSum := by unfold Func.isWrapper; first | (rw [if_pos (by decide +kernel)]; kernel_rfl) | (rw [if_neg (by decide +kernel)]; exact ⟨rfl, rfl⟩)
theorem over : Rows.storeWritesRow.holds Tryz.pinned (OpenSpec.ofChange Rows.storeWritesSpec) :=
  OpenClaim.holds_of_wide 3 Tryz.f3 rfl rfl rfl rfl rfl rfl rfl ⟨rfl, rfl, rfl, rfl, rfl⟩ rfl rfl rfl rfl rfl named_ Tryz.func3 closed inst_ wrap_
    (fun os started H enc _ => lifted os started H enc)
theorem byText_ : Rows.storeWritesRow.wfByText (OpenSpec.ofChange Rows.storeWritesSpec) = true := by kernel_rfl
theorem main_ : Tryz.pinned.checked.prog.mainIs = some (Rows.storeWritesCard.stood.harness.1, Rows.storeWritesCard.stood.harness.2.toList) := by kernel_rfl
theorem looks_ : true = Tryz.pinned.checked.prog.looks [] := by kernel_rfl
theorem goes_ : false = Rows.storeWritesRow.goesBy Tryz.pinned.checked.prog := by kernel_rfl
theorem stands_ : ([5, 26, 4].all fun u => !Program.wantsStandIn Tryz.prog u) = true := by kernel_rfl
theorem byName_ : Program.funcNamed Tryz.prog "anabranch/anabranchlaw14.StoreWrites" = some 3 := by kernel_rfl
set_option maxRecDepth 100000 in
theorem proved : Rows.StoreWritesCardSaid :=
  Claim7.holds_tied_plain_at .later [] [.data, .data, .data, .sentinel, .sentinel] true Rows.storeWritesCard.stood.harness true
    over (fun _ h => by cases h) byText_ (fun _ h => by cases h) storeWrites_row_tie rfl ⟨rfl, rfl⟩ main_ rfl
    (fun f fn hf hfn => by
      obtain rfl : f = 3 := Option.some.inj (byName_.symm.trans hf) |>.symm
      obtain rfl : fn = Tryz.f3 := (Option.some.inj (Tryz.func3.symm.trans hfn)).symm
      exact ⟨looks_, fun j t ht => by
        rw [Tryz.params3] at ht
        have hm : t ∈ [5, 26, 4] := by simpa using Array.mem_of_getElem? ht
        exact (show Program.wantsStandIn Tryz.prog t = false by simpa using List.all_eq_true.1 stands_ t hm)⟩)
    goes_
end Go.Proofs.YtfhmamkafancbaaGreatDoor.storeWrites
