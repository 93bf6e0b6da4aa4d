/-
  SegmentMends: a segment whose file is torn at any place behind its title keeps its first events, and goes on. No condition.
  The frame is the guide's shell (proof-skeleton.mjs), with the laid variables and the card after the kit's MapyProofs and MapyCard.
-/
import Derived.Test.YtdkbpcibmipelaaGreatDoorRows
import Derived.Test.YtdkbpcibmipelaaGreatDoorTie
import Derived.Test.YtdkbpcibmipelaaGreatDoorCards
import Derived.Test.YtdkbpcibmipelaaGreatDoorMl
import Derived.Test.YtdkbpcibmipelaaGreatDoorMm
import Derived.WalkKit
import Derived.ProofKit
import Derived.OpenShut
import Derived.ChangeOld
import Derived.Below
import Derived.LaidMore
import Derived.Stop.Joined
import Derived.SevenTiedAt
namespace Go.Proofs.YtdkbpcibmipelaaGreatDoor.segmentMends
open Go.ChangeShapes Go.WideShapes Go.ChangeAt Go.RowKit
set_option linter.unusedVariables false

theorem own : ownKnob Tryz.prog.godebug = none := by kernel_rfl
theorem laidOut : laidOutB Tryz.prog = true := by kernel_rfl
theorem door_met (os : Os) (args : Array Value) : laidMetH Tryz.prog Rows.segmentMendsRow.laid ((World.doorLaid Tryz.prog 400 os).forCall (fun _ _ => 0) ⟨#[], args, []⟩).memory :=
  laidMetH_of_parts3 (fuel := 8) (laidMet_of_run' 8 (by kernel_rfl) (by kernel_rfl)) (by kernel_rfl) (by kernel_rfl)

set_option maxRecDepth 100000 in
theorem lifted (os : Os) (started : os.Started) (H : Type) (enc : TypeId × Value → H) :
    ReturnsInHanded {} Tryz.checked os 4 .any (fun w args => (Rows.segmentMendsSpec.pre enc Tryz.prog Tryz.f4 [] false w args ∧ laidMetH Tryz.prog Rows.segmentMendsRow.laid w) ∧ sizedMet enc Tryz.prog Tryz.f4 (OpenSpec.ofChange Rows.segmentMendsSpec) false w args)
      (Rows.segmentMendsSpec.post enc Tryz.prog Tryz.f4 false true false false) := by
  refine returnsInHanded_of_change_and (C := Tryz.checked) (X := fun w _ => laidMetH Tryz.prog Rows.segmentMendsRow.laid w) (fun _ _ _ hh h => h.of_heap hh) own started (by kernel_rfl) Tryz.func4
    (ChangeSpec.witness_shaped (enc := enc) (C := Tryz.checked) (os := os) (X := fun w _ => laidMetH Tryz.prog Rows.segmentMendsRow.laid w) false (World.doorLaid Tryz.prog 400 os) #[.slice none 0 0, .int .u16 0, .agg #[.int .u8 0, .int .u8 0]] 8 rfl (World.shaped_of_RefB (by kernel_rfl) (by kernel_rfl)) (by kernel_rfl) (by kernel_rfl) (by kernel_rfl) (door_met os _)) ?_
  intro W base args ds gs before hval0 hW _ _ hL _
  have hval : ∀ (j : Nat) t v, Tryz.f4.params[j]? = some t → args[j]? = some v → Value.okWide Tryz.prog W .any base t v := hval0
  have hW' := hW
  obtain ⟨p, q, hA0, hV, rfl, hfz, hnd⟩ := hW
  have hA : DataW.TrodAll enc Tryz.prog W 0 (fun _ => true) true Tryz.f4.params.toList args.toList ds p := hA0
  rw [Tryz.params4] at hA hval
  obtain ⟨v0, vs0, d0, ds0, p0, q0, hargs, rfl, rfl, h0, r0⟩ := trodAll_cons hA
  obtain ⟨v1, vs1, d1, ds1, p1, q1, rfl, rfl, rfl, h1, r1⟩ := trodAll_cons r0
  obtain ⟨v2, vs2, d2, ds2, p2, q2, rfl, rfl, rfl, h2, r2⟩ := trodAll_cons r1
  obtain ⟨rfl, rfl, rfl⟩ := trodAll_nil r2
  obtain rfl : args = #[v0, v1, v2] := by cases args; simp_all
  obtain ⟨rfl, rfl⟩ := trodVars_none hV
  have k0 := h0
  have lt0 : ∀ x ∈ p0, x.block < W.heap.size := by obtain ⟨m, hm⟩ := k0; exact DataW.trod_lt m _ _ _ hm
  obtain ⟨a0, n0, c0, rfl⟩ := okWide_slice Tryz.underlying23 (hval 0 23 v0 rfl rfl)
  obtain ⟨zs0, hl0, hz0, hp0⟩ : ∃ zs : List (Nat × Nat), zs.length = n0 ∧ (∀ p ∈ zs, p.1 < 256 ∧ p.2 < 256) ∧ Pr 2 (hp W) (.slice a0 n0 c0) n0 (putC zs) := by
    obtain ⟨fuel, hf⟩ := h0
    obtain ⟨a, n, c, l, e, h1, h2, h3⟩ := in_puts hf
    simp [Value.cells] at e
    obtain ⟨rfl, rfl, rfl⟩ := e
    exact ⟨l, h1, h2, h3⟩
  have k1 := h1
  have lt1 : ∀ x ∈ p1, x.block < W.heap.size := by obtain ⟨m, hm⟩ := k1; exact DataW.trod_lt m _ _ _ hm
  obtain ⟨z1, rfl, hd1, hp1', w1⟩ := open_int Tryz.underlying53 (hval 1 53 v1 rfl rfl) h1
  obtain ⟨m1, rfl, hm1⟩ : ∃ m : Nat, z1 = (m : Int) ∧ m < 65536 := by
    have w := w1
    simp [Lit.wf, IntKind.min, IntKind.max, IntKind.signed, IntKind.bits] at w
    exact ⟨z1.toNat, by omega, by omega⟩
  have k2 := h2
  have lt2 : ∀ x ∈ p2, x.block < W.heap.size := by obtain ⟨m, hm⟩ := k2; exact DataW.trod_lt m _ _ _ hm
  obtain ⟨K2, T2, rfl, hK2, hT2⟩ := in_put (hval 2 49 v2 rfl rfl) h2
  clear hA0 hval0
  have key : Calls Tryz.prog 4 #[.slice a0 n0 c0, .int .u16 m1, .agg #[.int .u8 K2, .int .u8 T2]] W fun e W' => e = .returned (.bool true) ∧ Below W.heap.size W W' := by
    exact segMends_any (gl_of hL) hm1 hK2 hT2 hp0 hl0 hz0 (Sat.start W) fun w' g' hg hs => ⟨rfl, hs.below hg⟩
  refine key.mono fun e W' ⟨he, bel⟩ => ?_
  subst he
  exact ⟨_, rfl, _, _, _, [], _, [], hW', trodAll_mk1 (shut_bool Tryz.underlying4 _), (trodAll_cons_mk (Below.trod laidOut (by kernel_rfl) (of_decide_eq_true (by kernel_rfl)) k0 bel lt0) (trodAll_cons_mk (Below.trod laidOut (by kernel_rfl) (of_decide_eq_true (by kernel_rfl)) k1 bel lt1) (trodAll_cons_mk (Below.trod laidOut (by kernel_rfl) (of_decide_eq_true (by kernel_rfl)) k2 bel lt2) trodAll_mk0))), rfl, bel.frame _, fun h => by cases h⟩

theorem also {a b : Bool} (h : a = true) (h2 : b = true) : (a && b) = true := by rw [h, h2]; rfl
theorem k1_ : (Rows.segmentMendsRow.wf (OpenSpec.ofChange Rows.segmentMendsSpec)) = true := by kernel_rfl
theorem k2_ : (laidOutB Tryz.pinned.checked.prog) = true := by kernel_rfl
theorem k3_ : (mapsRowed Tryz.pinned.checked.prog) = true := by kernel_rfl
theorem k4_ : ((Tryz.f4).params.all (Tryz.pinned.checked.prog.readableRec ·)) = true := by kernel_rfl
theorem k5_ : (namedTie Tryz.pinned.checked.prog Rows.segmentMendsRow.named Rows.segmentMendsSpec.vars) = true := by kernel_rfl
theorem k6_ : ((Rows.segmentMendsRow.stops == [])) = true := by kernel_rfl
theorem k7_ : ((Tryz.pinned.checked.prog.stops == [])) = true := by kernel_rfl
theorem k8_ : ((Rows.segmentMendsRow.knobs == [])) = true := by kernel_rfl
theorem k9_ : ((Tryz.pinned.checked.prog.stopKnobs == [])) = true := by kernel_rfl
theorem k10_ : ((Rows.segmentMendsRow.inPlace == Tryz.pinned.checked.prog.inPlace 4)) = true := by kernel_rfl
theorem k11_ : ((Rows.segmentMendsRow.unfollowed == Tryz.pinned.checked.prog.unfollowed 4)) = true := by kernel_rfl
theorem k12_ : ((Rows.segmentMendsRow.recurses == Tryz.pinned.checked.prog.recurses 4)) = true := by kernel_rfl
theorem k13_ : ((Rows.segmentMendsRow.named == Tryz.pinned.checked.prog.varsNamed 4)) = true := by kernel_rfl
theorem k14_ : ((Rows.segmentMendsRow.maps == ((Tryz.f4).params.toList ++ Rows.segmentMendsSpec.plain.varTypes Tryz.pinned.checked.prog).any (Tryz.pinned.checked.prog.mapsRec ·))) = true := by kernel_rfl
theorem k15_ : ((Rows.segmentMendsRow.ifaces == ((Tryz.f4).params.toList ++ Rows.segmentMendsSpec.plain.varTypes Tryz.pinned.checked.prog).any (Tryz.pinned.checked.prog.ifacesRec ·))) = true := by kernel_rfl
theorem k16_ : ((Rows.segmentMendsRow.mapsOut == Tryz.pinned.checked.prog.mapsAmong (Tryz.f4).resultTypes.toList)) = true := by kernel_rfl
theorem k17_ : ((Rows.segmentMendsRow.loops == ((Tryz.f4).params.toList ++ Rows.segmentMendsSpec.plain.varTypes Tryz.pinned.checked.prog).any (Tryz.pinned.checked.prog.loopsFrom ·))) = true := by kernel_rfl
theorem k18_ : ((Rows.segmentMendsRow.wideKeys == ((Tryz.f4).params.toList ++ Rows.segmentMendsSpec.plain.varTypes Tryz.pinned.checked.prog ++ (Tryz.f4).resultTypes.toList).any (Tryz.pinned.checked.prog.wideKeysFrom ·))) = true := by kernel_rfl
theorem k19_ : (Rows.segmentMendsSpec.vars.all (Tryz.pinned.checked.prog.varReadable ·)) = true := by kernel_rfl
theorem k20_ : ((Tryz.f4).resultTypes.all (fun t => Tryz.pinned.checked.prog.readableRec t && decide (t < Tryz.pinned.checked.prog.types.size))) = true := by kernel_rfl
theorem k21_ : ((Rows.segmentMendsRow.ifacesOut == (Tryz.f4).resultTypes.toList.any (Tryz.pinned.checked.prog.ifacesRec ·))) = true := by kernel_rfl
theorem k22_ : ((Rows.segmentMendsRow.loopsOut == (Tryz.f4).resultTypes.toList.any (Tryz.pinned.checked.prog.loopsFrom ·))) = true := by kernel_rfl
theorem k23_ : ((Rows.segmentMendsRow.plainKeys == Tryz.pinned.checked.prog.plainKeys)) = true := by kernel_rfl
theorem k24_ : (Rows.segmentMendsRow.shortTexts.isNone) = true := by kernel_rfl
theorem k25_ : (Tryz.pinned.checked.prog.stopsHeard) = true := by kernel_rfl
theorem k26_ : (Tryz.pinned.checked.prog.mayEnter) = true := by kernel_rfl
theorem k27_ : ((Rows.segmentMendsRow.lifted == Tryz.pinned.checked.prog.liftsFinal)) = true := by kernel_rfl
theorem k28_ : ((Tryz.pinned.checked.prog.make == some Rows.segmentMendsRow.make)) = true := by kernel_rfl
theorem k29_ : ((Rows.segmentMendsRow.kinds == (if Rows.segmentMendsRow.domain.isEmpty then [] else (Tryz.f4).params.toList.map fun t => match Tryz.pinned.checked.prog.underlying t with | some (.int k) => some k | _ => none))) = true := by kernel_rfl
theorem k30_ : ((Rows.segmentMendsRow.pinned == Rows.segmentMendsRow.pinnedBy)) = true := by kernel_rfl
theorem k31_ : ((Rows.segmentMendsRow.veiled == ((Tryz.f4).params.toList ++ Rows.segmentMendsSpec.plain.varTypes Tryz.pinned.checked.prog ++ (Tryz.f4).resultTypes.toList).any (Tryz.pinned.checked.prog.veiledRec ·))) = true := by kernel_rfl
theorem k32_ : (Rows.segmentMendsRow.veiledFits Tryz.pinned.checked.prog (Tryz.f4).params.toList ((Tryz.f4).params.toList ++ Rows.segmentMendsSpec.plain.varTypes Tryz.pinned.checked.prog ++ (Tryz.f4).resultTypes.toList)) = true := by kernel_rfl
set_option maxRecDepth 100000 in
theorem closed : joinedFacts Tryz.pinned.checked.prog 4 Tryz.f4 Rows.segmentMendsSpec Rows.segmentMendsRow = true := by
  unfold joinedFacts
  exact (also (also (also (also (also (also (also (also (also (also (also (also (also (also (also (also (also (also (also (also (also (also (also (also (also (also (also (also (also (also (also k1_ k2_) k3_) k4_) k5_) k6_) k7_) k8_) k9_) k10_) k11_) k12_) k13_) k14_) k15_) k16_) k17_) k18_) k19_) k20_) k21_) k22_) k23_) k24_) k25_) k26_) k27_) k28_) k29_) k30_) k31_) k32_)
theorem named_ : Tryz.pinned.checked.prog.funcNamed Rows.segmentMendsRow.func = some 4 := by kernel_rfl
theorem inst_ : (Tryz.f4).isInstance Tryz.pinned.checked.prog Rows.segmentMendsRow.origin Rows.segmentMendsRow.targs := of_decide_eq_true (by kernel_rfl)
theorem wrap_ : (Tryz.f4).isWrapper Tryz.pinned.checked.prog Rows.segmentMendsRow.wrapper Rows.segmentMendsRow.mainSum := by unfold Func.isWrapper; first | (rw [if_pos (by decide +kernel)]; kernel_rfl) | (rw [if_neg (by decide +kernel)]; exact ⟨rfl, rfl⟩)
theorem over : Rows.segmentMendsRow.holds Tryz.pinned (OpenSpec.ofChange Rows.segmentMendsSpec) :=
  OpenClaim.holds_of_wide 4 Tryz.f4 rfl rfl rfl rfl rfl rfl rfl ⟨rfl, rfl, rfl, rfl, rfl⟩ rfl rfl rfl rfl rfl named_ Tryz.func4 closed inst_ wrap_
    (fun os started H enc _ => lifted os started H enc)
theorem byText_ : Rows.segmentMendsRow.wfByText (OpenSpec.ofChange Rows.segmentMendsSpec) = true := by kernel_rfl
theorem main_ : Tryz.pinned.checked.prog.mainIs = some (Rows.segmentMendsCard.stood.harness.1, Rows.segmentMendsCard.stood.harness.2.toList) := by kernel_rfl
theorem looks_ : true = Tryz.pinned.checked.prog.looks [] := by kernel_rfl
theorem goes_ : false = Rows.segmentMendsRow.goesBy Tryz.pinned.checked.prog := by kernel_rfl
theorem stands_ : ([23, 53, 49].all fun u => !Program.wantsStandIn Tryz.prog u) = true := by kernel_rfl
theorem byName_ : Program.funcNamed Tryz.prog "anabranch/anabranchlaw08.SegmentMends" = some 4 := by kernel_rfl

set_option maxRecDepth 100000 in
theorem proved : Rows.SegmentMendsCardSaid :=
  Claim7.holds_tied_plain_at .later [] [.data, .data, .data, .sentinel, .sentinel] true Rows.segmentMendsCard.stood.harness true
    over (fun _ h => by cases h) byText_ (fun _ h => by cases h) segmentMends_row_tie rfl ⟨rfl, rfl⟩ main_ rfl
    (fun f fn hf hfn => by
      obtain rfl : f = 4 := Option.some.inj (byName_.symm.trans hf) |>.symm
      obtain rfl : fn = Tryz.f4 := (Option.some.inj (Tryz.func4.symm.trans hfn)).symm
      exact ⟨looks_, fun j t ht => by
        rw [Tryz.params4] at ht
        have hm : t ∈ [23, 53, 49] := by simpa using Array.mem_of_getElem? ht
        exact (show Program.wantsStandIn Tryz.prog t = false by simpa using List.all_eq_true.1 stands_ t hm)⟩)
    goes_
end Go.Proofs.YtdkbpcibmipelaaGreatDoor.segmentMends
