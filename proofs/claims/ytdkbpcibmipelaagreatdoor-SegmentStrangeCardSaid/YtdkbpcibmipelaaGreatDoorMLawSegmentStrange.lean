/-
  SegmentStrange: records that are not the next events of a segment are cut off; a file of another title, or of no name of a segment, is not opened. No condition.
  The frame is the guide's shell (proof-skeleton.mjs), with the laid variables and the card after the kit's MapyProofs and MapyCard.
-/
import Derived.Test.YtdkbpcibmipelaaGreatDoorRows
import Derived.Test.YtdkbpcibmipelaaGreatDoorTie
import Derived.Test.YtdkbpcibmipelaaGreatDoorCards
import Derived.Test.YtdkbpcibmipelaaGreatDoorM14
import Derived.WalkKit
import Derived.ProofKit
import Derived.OpenShut
import Derived.ChangeOld
import Derived.Below
import Derived.LaidMore
import Derived.Stop.Joined
import Derived.SevenTiedAt
namespace Go.Proofs.YtdkbpcibmipelaaGreatDoor.segmentStrange
open Go.ChangeShapes Go.WideShapes Go.ChangeAt Go.RowKit
set_option linter.unusedVariables false

theorem own : ownKnob Tryz.prog.godebug = none := by kernel_rfl
theorem laidOut : laidOutB Tryz.prog = true := by kernel_rfl
theorem door_met (os : Os) (args : Array Value) : laidMetH Tryz.prog Rows.segmentStrangeRow.laid ((World.doorLaid Tryz.prog 400 os).forCall (fun _ _ => 0) ⟨#[], args, []⟩).memory :=
  laidMetH_of_parts3 (fuel := 8) (laidMet_of_run' 8 (by kernel_rfl) (by kernel_rfl)) (by kernel_rfl) (by kernel_rfl)

set_option maxRecDepth 100000 in
theorem lifted (os : Os) (started : os.Started) (H : Type) (enc : TypeId × Value → H) :
    ReturnsInHanded {} Tryz.checked os 5 .any (fun w args => (Rows.segmentStrangeSpec.pre enc Tryz.prog Tryz.f5 [] false w args ∧ laidMetH Tryz.prog Rows.segmentStrangeRow.laid w) ∧ sizedMet enc Tryz.prog Tryz.f5 (OpenSpec.ofChange Rows.segmentStrangeSpec) false w args)
      (Rows.segmentStrangeSpec.post enc Tryz.prog Tryz.f5 false true false false) := by
  refine returnsInHanded_of_change_and (C := Tryz.checked) (X := fun w _ => laidMetH Tryz.prog Rows.segmentStrangeRow.laid w) (fun _ _ _ hh h => h.of_heap hh) own started (by kernel_rfl) Tryz.func5
    (ChangeSpec.witness_shaped (enc := enc) (C := Tryz.checked) (os := os) (X := fun w _ => laidMetH Tryz.prog Rows.segmentStrangeRow.laid w) false (World.doorLaid Tryz.prog 400 os) #[.slice none 0 0, .int .u8 0, .slice none 0 0] 8 rfl (World.shaped_of_RefB (by kernel_rfl) (by kernel_rfl)) (by kernel_rfl) (by kernel_rfl) (by kernel_rfl) (door_met os _)) ?_
  intro W base args ds gs before hval0 hW _ _ hL _
  have hval : ∀ (j : Nat) t v, Tryz.f5.params[j]? = some t → args[j]? = some v → Value.okWide Tryz.prog W .any base t v := hval0
  have hW' := hW
  obtain ⟨p, q, hA0, hV, rfl, hfz, hnd⟩ := hW
  have hA : DataW.TrodAll enc Tryz.prog W 0 (fun _ => true) true Tryz.f5.params.toList args.toList ds p := hA0
  rw [Tryz.params5] at hA hval
  obtain ⟨v0, vs0, d0, ds0, p0, q0, hargs, rfl, rfl, h0, r0⟩ := trodAll_cons hA
  obtain ⟨v1, vs1, d1, ds1, p1, q1, rfl, rfl, rfl, h1, r1⟩ := trodAll_cons r0
  obtain ⟨v2, vs2, d2, ds2, p2, q2, rfl, rfl, rfl, h2, r2⟩ := trodAll_cons r1
  obtain ⟨rfl, rfl, rfl⟩ := trodAll_nil r2
  obtain rfl : args = #[v0, v1, v2] := by cases args; simp_all
  obtain ⟨rfl, rfl⟩ := trodVars_none hV
  have k0 := h0
  have lt0 : ∀ x ∈ p0, x.block < W.heap.size := by obtain ⟨m, hm⟩ := k0; exact DataW.trod_lt m _ _ _ hm
  obtain ⟨a0, n0, c0, rfl⟩ := okWide_slice Tryz.underlying23 (hval 0 23 v0 rfl rfl)
  obtain ⟨zs0, hl0, hz0, hp0⟩ : ∃ zs : List (Nat × Nat), zs.length = n0 ∧ (∀ p ∈ zs, p.1 < 256 ∧ p.2 < 256) ∧ Pr 2 (hp W) (.slice a0 n0 c0) n0 (putC zs) := by
    obtain ⟨fuel, hf⟩ := h0
    obtain ⟨a, n, c, l, e, h1, h2, h3⟩ := in_puts hf
    simp [Value.cells] at e
    obtain ⟨rfl, rfl, rfl⟩ := e
    exact ⟨l, h1, h2, h3⟩
  have k1 := h1
  have lt1 : ∀ x ∈ p1, x.block < W.heap.size := by obtain ⟨m, hm⟩ := k1; exact DataW.trod_lt m _ _ _ hm
  obtain ⟨z1, rfl, hd1, hp1', w1⟩ := open_int Tryz.underlying5 (hval 1 5 v1 rfl rfl) h1
  obtain ⟨m1, rfl, hm1⟩ : ∃ m : Nat, z1 = (m : Int) ∧ m < 256 := by
    have w := w1
    simp [Lit.wf, IntKind.min, IntKind.max, IntKind.signed, IntKind.bits] at w
    exact ⟨z1.toNat, by omega, by omega⟩
  have k2 := h2
  have lt2 : ∀ x ∈ p2, x.block < W.heap.size := by obtain ⟨m, hm⟩ := k2; exact DataW.trod_lt m _ _ _ hm
  obtain ⟨a2, n2, c2, rfl⟩ := okWide_slice Tryz.underlying33 (hval 2 33 v2 rfl rfl)
  obtain ⟨zs2, hl2, hp2⟩ : ∃ zs : List UInt8, zs.length = n2 ∧ Pr 1 (hp W) (.slice a2 n2 c2) n2 (bs zs) := by
    obtain ⟨fuel, hf⟩ := h2
    obtain ⟨a, n, c, l, e, h1, h2, h3⟩ := in_bytes Tryz.underlying33 Tryz.underlying5 (by kernel_rfl) hf
    simp [Value.cells] at e
    obtain ⟨rfl, rfl, rfl⟩ := e
    exact ⟨l, h1, h2⟩
  clear hA0 hval0
  have key : Calls Tryz.prog 5 #[.slice a0 n0 c0, .int .u8 m1, .slice a2 n2 c2] W fun e W' => e = .returned (.bool true) ∧ Below W.heap.size W W' := by
    exact segStrange_any (gle_of hL) hm1 hp0 hl0 hz0 hp2 hl2 (Sat.start W) fun w' g' hg hs => ⟨rfl, hs.below hg⟩
  refine key.mono fun e W' ⟨he, bel⟩ => ?_
  subst he
  exact ⟨_, rfl, _, _, _, [], _, [], hW', trodAll_mk1 (shut_bool Tryz.underlying4 _), (trodAll_cons_mk (Below.trod laidOut (by kernel_rfl) (of_decide_eq_true (by kernel_rfl)) k0 bel lt0) (trodAll_cons_mk (Below.trod laidOut (by kernel_rfl) (of_decide_eq_true (by kernel_rfl)) k1 bel lt1) (trodAll_cons_mk (Below.trod laidOut (by kernel_rfl) (of_decide_eq_true (by kernel_rfl)) k2 bel lt2) trodAll_mk0))), rfl, bel.frame _, fun h => by cases h⟩

theorem also {a b : Bool} (h : a = true) (h2 : b = true) : (a && b) = true := by rw [h, h2]; rfl
theorem k1_ : (Rows.segmentStrangeRow.wf (OpenSpec.ofChange Rows.segmentStrangeSpec)) = true := by kernel_rfl
theorem k2_ : (laidOutB Tryz.pinned.checked.prog) = true := by kernel_rfl
theorem k3_ : (mapsRowed Tryz.pinned.checked.prog) = true := by kernel_rfl
theorem k4_ : ((Tryz.f5).params.all (Tryz.pinned.checked.prog.readableRec ·)) = true := by kernel_rfl
theorem k5_ : (namedTie Tryz.pinned.checked.prog Rows.segmentStrangeRow.named Rows.segmentStrangeSpec.vars) = true := by kernel_rfl
theorem k6_ : ((Rows.segmentStrangeRow.stops == [])) = true := by kernel_rfl
theorem k7_ : ((Tryz.pinned.checked.prog.stops == [])) = true := by kernel_rfl
theorem k8_ : ((Rows.segmentStrangeRow.knobs == [])) = true := by kernel_rfl
theorem k9_ : ((Tryz.pinned.checked.prog.stopKnobs == [])) = true := by kernel_rfl
theorem k10_ : ((Rows.segmentStrangeRow.inPlace == Tryz.pinned.checked.prog.inPlace 5)) = true := by kernel_rfl
theorem k11_ : ((Rows.segmentStrangeRow.unfollowed == Tryz.pinned.checked.prog.unfollowed 5)) = true := by kernel_rfl
theorem k12_ : ((Rows.segmentStrangeRow.recurses == Tryz.pinned.checked.prog.recurses 5)) = true := by kernel_rfl
theorem k13_ : ((Rows.segmentStrangeRow.named == Tryz.pinned.checked.prog.varsNamed 5)) = true := by kernel_rfl
theorem k14_ : ((Rows.segmentStrangeRow.maps == ((Tryz.f5).params.toList ++ Rows.segmentStrangeSpec.plain.varTypes Tryz.pinned.checked.prog).any (Tryz.pinned.checked.prog.mapsRec ·))) = true := by kernel_rfl
theorem k15_ : ((Rows.segmentStrangeRow.ifaces == ((Tryz.f5).params.toList ++ Rows.segmentStrangeSpec.plain.varTypes Tryz.pinned.checked.prog).any (Tryz.pinned.checked.prog.ifacesRec ·))) = true := by kernel_rfl
theorem k16_ : ((Rows.segmentStrangeRow.mapsOut == Tryz.pinned.checked.prog.mapsAmong (Tryz.f5).resultTypes.toList)) = true := by kernel_rfl
theorem k17_ : ((Rows.segmentStrangeRow.loops == ((Tryz.f5).params.toList ++ Rows.segmentStrangeSpec.plain.varTypes Tryz.pinned.checked.prog).any (Tryz.pinned.checked.prog.loopsFrom ·))) = true := by kernel_rfl
theorem k18_ : ((Rows.segmentStrangeRow.wideKeys == ((Tryz.f5).params.toList ++ Rows.segmentStrangeSpec.plain.varTypes Tryz.pinned.checked.prog ++ (Tryz.f5).resultTypes.toList).any (Tryz.pinned.checked.prog.wideKeysFrom ·))) = true := by kernel_rfl
theorem k19_ : (Rows.segmentStrangeSpec.vars.all (Tryz.pinned.checked.prog.varReadable ·)) = true := by kernel_rfl
theorem k20_ : ((Tryz.f5).resultTypes.all (fun t => Tryz.pinned.checked.prog.readableRec t && decide (t < Tryz.pinned.checked.prog.types.size))) = true := by kernel_rfl
theorem k21_ : ((Rows.segmentStrangeRow.ifacesOut == (Tryz.f5).resultTypes.toList.any (Tryz.pinned.checked.prog.ifacesRec ·))) = true := by kernel_rfl
theorem k22_ : ((Rows.segmentStrangeRow.loopsOut == (Tryz.f5).resultTypes.toList.any (Tryz.pinned.checked.prog.loopsFrom ·))) = true := by kernel_rfl
theorem k23_ : ((Rows.segmentStrangeRow.plainKeys == Tryz.pinned.checked.prog.plainKeys)) = true := by kernel_rfl
theorem k24_ : (Rows.segmentStrangeRow.shortTexts.isNone) = true := by kernel_rfl
theorem k25_ : (Tryz.pinned.checked.prog.stopsHeard) = true := by kernel_rfl
theorem k26_ : (Tryz.pinned.checked.prog.mayEnter) = true := by kernel_rfl
theorem k27_ : ((Rows.segmentStrangeRow.lifted == Tryz.pinned.checked.prog.liftsFinal)) = true := by kernel_rfl
theorem k28_ : ((Tryz.pinned.checked.prog.make == some Rows.segmentStrangeRow.make)) = true := by kernel_rfl
theorem k29_ : ((Rows.segmentStrangeRow.kinds == (if Rows.segmentStrangeRow.domain.isEmpty then [] else (Tryz.f5).params.toList.map fun t => match Tryz.pinned.checked.prog.underlying t with | some (.int k) => some k | _ => none))) = true := by kernel_rfl
theorem k30_ : ((Rows.segmentStrangeRow.pinned == Rows.segmentStrangeRow.pinnedBy)) = true := by kernel_rfl
theorem k31_ : ((Rows.segmentStrangeRow.veiled == ((Tryz.f5).params.toList ++ Rows.segmentStrangeSpec.plain.varTypes Tryz.pinned.checked.prog ++ (Tryz.f5).resultTypes.toList).any (Tryz.pinned.checked.prog.veiledRec ·))) = true := by kernel_rfl
theorem k32_ : (Rows.segmentStrangeRow.veiledFits Tryz.pinned.checked.prog (Tryz.f5).params.toList ((Tryz.f5).params.toList ++ Rows.segmentStrangeSpec.plain.varTypes Tryz.pinned.checked.prog ++ (Tryz.f5).resultTypes.toList)) = true := by kernel_rfl
set_option maxRecDepth 100000 in
theorem closed : joinedFacts Tryz.pinned.checked.prog 5 Tryz.f5 Rows.segmentStrangeSpec Rows.segmentStrangeRow = true := by
  unfold joinedFacts
  exact (also (also (also (also (also (also (also (also (also (also (also (also (also (also (also (also (also (also (also (also (also (also (also (also (also (also (also (also (also (also (also k1_ k2_) k3_) k4_) k5_) k6_) k7_) k8_) k9_) k10_) k11_) k12_) k13_) k14_) k15_) k16_) k17_) k18_) k19_) k20_) k21_) k22_) k23_) k24_) k25_) k26_) k27_) k28_) k29_) k30_) k31_) k32_)
theorem named_ : Tryz.pinned.checked.prog.funcNamed Rows.segmentStrangeRow.func = some 5 := by kernel_rfl
theorem inst_ : (Tryz.f5).isInstance Tryz.pinned.checked.prog Rows.segmentStrangeRow.origin Rows.segmentStrangeRow.targs := of_decide_eq_true (by kernel_rfl)
theorem wrap_ : (Tryz.f5).isWrapper Tryz.pinned.checked.prog Rows.segmentStrangeRow.wrapper Rows.segmentStrangeRow.mainSum := by unfold Func.isWrapper; first | (rw [if_pos (by decide +kernel)]; kernel_rfl) | (rw [if_neg (by decide +kernel)]; exact ⟨rfl, rfl⟩)
theorem over : Rows.segmentStrangeRow.holds Tryz.pinned (OpenSpec.ofChange Rows.segmentStrangeSpec) :=
  OpenClaim.holds_of_wide 5 Tryz.f5 rfl rfl rfl rfl rfl rfl rfl ⟨rfl, rfl, rfl, rfl, rfl⟩ rfl rfl rfl rfl rfl named_ Tryz.func5 closed inst_ wrap_
    (fun os started H enc _ => lifted os started H enc)
theorem byText_ : Rows.segmentStrangeRow.wfByText (OpenSpec.ofChange Rows.segmentStrangeSpec) = true := by kernel_rfl
theorem main_ : Tryz.pinned.checked.prog.mainIs = some (Rows.segmentStrangeCard.stood.harness.1, Rows.segmentStrangeCard.stood.harness.2.toList) := by kernel_rfl
theorem looks_ : true = Tryz.pinned.checked.prog.looks [] := by kernel_rfl
theorem goes_ : false = Rows.segmentStrangeRow.goesBy Tryz.pinned.checked.prog := by kernel_rfl
theorem stands_ : ([23, 5, 33].all fun u => !Program.wantsStandIn Tryz.prog u) = true := by kernel_rfl
theorem byName_ : Program.funcNamed Tryz.prog "anabranch/anabranchlaw08.SegmentStrange" = some 5 := by kernel_rfl

set_option maxRecDepth 100000 in
theorem proved : Rows.SegmentStrangeCardSaid :=
  Claim7.holds_tied_plain_at .later [] [.data, .data, .data, .sentinel, .sentinel] true Rows.segmentStrangeCard.stood.harness true
    over (fun _ h => by cases h) byText_ (fun _ h => by cases h) segmentStrange_row_tie rfl ⟨rfl, rfl⟩ main_ rfl
    (fun f fn hf hfn => by
      obtain rfl : f = 5 := Option.some.inj (byName_.symm.trans hf) |>.symm
      obtain rfl : fn = Tryz.f5 := (Option.some.inj (Tryz.func5.symm.trans hfn)).symm
      exact ⟨looks_, fun j t ht => by
        rw [Tryz.params5] at ht
        have hm : t ∈ [23, 5, 33] := by simpa using Array.mem_of_getElem? ht
        exact (show Program.wantsStandIn Tryz.prog t = false by simpa using List.all_eq_true.1 stands_ t hm)⟩)
    goes_
end Go.Proofs.YtdkbpcibmipelaaGreatDoor.segmentStrange
