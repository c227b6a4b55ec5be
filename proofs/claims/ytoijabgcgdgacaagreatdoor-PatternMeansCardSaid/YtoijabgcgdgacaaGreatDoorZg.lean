/-
  PROVED HERE: for every two texts, in whatever memory, the law PatternMeans of the given program returns true, and its arguments read behind the call as they did before ('Rows.PatternMeansCardSaid'). CONDITIONS: the row's own alone (the package-level variables that it lists start as the program's text lays them, which the card ties). No condition of ours.
-/
import Derived.Test.YtoijabgcgdgacaaGreatDoorZf
namespace Go.Proofs.YtoijabgcgdgacaaGreatDoor
open Go.ChangeShapes Go.WideShapes Go.ChangeAt Go.RowKit Go.Proofs.Gram Go.Lib Go.Shelf

theorem mns_f1 : Tryz.pinned.checked.prog.funcNamed Rows.patternMeansRow.func = some 3 := by kernel_rfl
theorem and_t {a b : Bool} (h : a = true) (k : b = true) : (a && b) = true := by rw [h, k]; rfl
theorem mns_k1 : (Rows.patternMeansRow.wf (OpenSpec.ofChange (OpenSpec.ofChange Rows.patternMeansSpec).bare)) = true := by kernel_rfl
theorem mns_k2 : (laidOutB Tryz.prog) = true := by kernel_rfl
theorem mns_k3 : (mapsRowed Tryz.prog) = true := by kernel_rfl
theorem mns_k4 : (Tryz.f3.params.all (Program.readableRec Tryz.prog ·)) = true := by kernel_rfl
theorem mns_k5 : (namedTie Tryz.prog Rows.patternMeansRow.named (OpenSpec.ofChange Rows.patternMeansSpec).bare.vars) = true := by kernel_rfl
theorem mns_k6 : (Rows.patternMeansRow.stops == []) = true := by kernel_rfl
theorem mns_k7 : (Tryz.prog.stops == []) = true := by kernel_rfl
theorem mns_k8 : (Rows.patternMeansRow.knobs == []) = true := by kernel_rfl
theorem mns_k9 : (Tryz.prog.stopKnobs == []) = true := by kernel_rfl
theorem mns_k10 : (Rows.patternMeansRow.inPlace == Tryz.prog.inPlace 3) = true := by kernel_rfl
theorem mns_k11 : (Rows.patternMeansRow.unfollowed == Tryz.prog.unfollowed 3) = true := by kernel_rfl
theorem mns_k12 : (Rows.patternMeansRow.recurses == Tryz.prog.recurses 3) = true := by kernel_rfl
theorem mns_k13 : (Rows.patternMeansRow.named == Tryz.prog.varsNamed 3) = true := by kernel_rfl
theorem mns_k14 : (Rows.patternMeansRow.maps == (Tryz.f3.params.toList ++ (OpenSpec.ofChange Rows.patternMeansSpec).bare.plain.varTypes Tryz.prog).any (Tryz.prog.mapsRec ·)) = true := by kernel_rfl
theorem mns_k15 : (Rows.patternMeansRow.ifaces == (Tryz.f3.params.toList ++ (OpenSpec.ofChange Rows.patternMeansSpec).bare.plain.varTypes Tryz.prog).any (Tryz.prog.ifacesRec ·)) = true := by kernel_rfl
theorem mns_k16 : (Rows.patternMeansRow.mapsOut == Tryz.prog.mapsAmong Tryz.f3.resultTypes.toList) = true := by kernel_rfl
theorem mns_k17 : (Rows.patternMeansRow.loops == (Tryz.f3.params.toList ++ (OpenSpec.ofChange Rows.patternMeansSpec).bare.plain.varTypes Tryz.prog).any (Tryz.prog.loopsFrom ·)) = true := by kernel_rfl
theorem mns_k18 : (Rows.patternMeansRow.wideKeys == (Tryz.f3.params.toList ++ (OpenSpec.ofChange Rows.patternMeansSpec).bare.plain.varTypes Tryz.prog ++ Tryz.f3.resultTypes.toList).any (Tryz.prog.wideKeysFrom ·)) = true := by kernel_rfl
theorem mns_k19 : ((OpenSpec.ofChange Rows.patternMeansSpec).bare.vars.all (Tryz.prog.varReadable ·)) = true := by kernel_rfl
theorem mns_k20 : (Tryz.f3.resultTypes.all (fun t => Tryz.prog.readableRec t && decide (t < Tryz.prog.types.size))) = true := by kernel_rfl
theorem mns_k21 : (Rows.patternMeansRow.ifacesOut == Tryz.f3.resultTypes.toList.any (Tryz.prog.ifacesRec ·)) = true := by kernel_rfl
theorem mns_k22 : (Rows.patternMeansRow.loopsOut == Tryz.f3.resultTypes.toList.any (Tryz.prog.loopsFrom ·)) = true := by kernel_rfl
theorem mns_k23 : (Rows.patternMeansRow.plainKeys == Tryz.prog.plainKeys) = true := by kernel_rfl
theorem mns_k24 : (Rows.patternMeansRow.shortTexts.isNone) = true := by kernel_rfl
theorem mns_k25 : (Tryz.prog.stopsHeard) = true := by kernel_rfl
theorem mns_k26 : (Tryz.prog.mayEnter) = true := by kernel_rfl
theorem mns_k27 : (Rows.patternMeansRow.lifted == Tryz.prog.liftsFinal) = true := by kernel_rfl
theorem mns_k28 : (Tryz.prog.make == some Rows.patternMeansRow.make) = true := by kernel_rfl
theorem mns_k29 : (Rows.patternMeansRow.kinds == (if Rows.patternMeansRow.domain.isEmpty then [] else Tryz.f3.params.toList.map fun t => match Tryz.prog.underlying t with | some (.int k) => some k | _ => none)) = true := by kernel_rfl
theorem mns_k30 : (Rows.patternMeansRow.pinned == Rows.patternMeansRow.pinnedBy) = true := by kernel_rfl
theorem mns_k31 : (Rows.patternMeansRow.veiled == (Tryz.f3.params.toList ++ (OpenSpec.ofChange Rows.patternMeansSpec).bare.plain.varTypes Tryz.prog ++ Tryz.f3.resultTypes.toList).any (Tryz.prog.veiledRec ·)) = true := by kernel_rfl
theorem mns_k32 : (Rows.patternMeansRow.veiledFits Tryz.prog Tryz.f3.params.toList (Tryz.f3.params.toList ++ (OpenSpec.ofChange Rows.patternMeansSpec).bare.plain.varTypes Tryz.prog ++ Tryz.f3.resultTypes.toList)) = true := by kernel_rfl
set_option maxRecDepth 100000 in
theorem mns_f2 : joinedFacts Tryz.prog 3 Tryz.f3 (OpenSpec.ofChange Rows.patternMeansSpec).bare Rows.patternMeansRow = true := by
  unfold joinedFacts
  exact (and_t (and_t (and_t (and_t (and_t (and_t (and_t (and_t (and_t (and_t (and_t (and_t (and_t (and_t (and_t (and_t (and_t (and_t (and_t (and_t (and_t (and_t (and_t (and_t (and_t (and_t (and_t (and_t (and_t (and_t (and_t mns_k1 mns_k2) mns_k3) mns_k4) mns_k5) mns_k6) mns_k7) mns_k8) mns_k9) mns_k10) mns_k11) mns_k12) mns_k13) mns_k14) mns_k15) mns_k16) mns_k17) mns_k18) mns_k19) mns_k20) mns_k21) mns_k22) mns_k23) mns_k24) mns_k25) mns_k26) mns_k27) mns_k28) mns_k29) mns_k30) mns_k31) mns_k32)
theorem mns_f3 : Tryz.f3.isInstance Tryz.pinned.checked.prog Rows.patternMeansRow.origin Rows.patternMeansRow.targs := of_decide_eq_true (by kernel_rfl)
theorem mns_f4 : Tryz.f3.isWrapper Tryz.pinned.checked.prog Rows.patternMeansRow.wrapper Rows.patternMeansRow.mainSum := by unfold Func.isWrapper; rw [if_neg (of_decide_eq_false (by kernel_rfl))]; exact ⟨rfl, rfl⟩
theorem mns_said : Rows.PatternMeansSaid :=
  OpenClaim.holds_of_cond 3 Tryz.f3 rfl rfl rfl rfl rfl rfl rfl ⟨rfl, rfl, rfl, rfl, rfl⟩ rfl rfl rfl rfl rfl mns_f1 Tryz.func3 mns_f2 mns_f3 mns_f4
    (fun os started H enc _ F => by rw [OpenClaim.pre_eq_preRow]; exact mns_lifted os started H enc F)

theorem mns_plain (f : FuncId) (fn : Func) (hf : Tryz.pinned.checked.prog.funcNamed "grammarsmith/grammarsmithlaw1.PatternMeans" = some f) (hfn : Tryz.pinned.checked.prog.funcs[f]? = some fn) :
    true = Tryz.pinned.checked.prog.looks [] ∧ ∀ (j : Nat) t, fn.params[j]? = some t → Tryz.pinned.checked.prog.wantsStandIn t = false := by
  obtain rfl : f = 3 := Option.some.inj ((show Tryz.prog.funcNamed "grammarsmith/grammarsmithlaw1.PatternMeans" = some 3 by kernel_rfl).symm.trans hf) |>.symm
  obtain rfl : fn = Tryz.f3 := (Option.some.inj (Tryz.func3.symm.trans hfn)).symm
  refine ⟨by kernel_rfl, fun j t ht => ?_⟩
  rw [Tryz.params3] at ht
  obtain rfl : t = 9 := by simpa using Array.mem_of_getElem? ht
  exact (show Tryz.prog.wantsStandIn 9 = false by kernel_rfl)

theorem mns_c1 : Rows.patternMeansRow.wfByText (OpenSpec.ofChange Rows.patternMeansSpec) = true := by kernel_rfl
theorem mns_c2 : Tryz.pinned.checked.prog.mainIs = some (Rows.patternMeansCard.stood.harness.1, Rows.patternMeansCard.stood.harness.2.toList) := by kernel_rfl
theorem mns_c3 : false = Rows.patternMeansRow.goesBy Tryz.pinned.checked.prog := by kernel_rfl
/-- THE CARD OF THE LAW OF MATCHING. -/
theorem mns_card : Rows.PatternMeansCardSaid :=
  Claim7.holds_tied_plain_at .later [] _ _ _ _ mns_said (fun _ h => by cases h) mns_c1 (fun _ h => by cases h) patternMeans_row_tie rfl ⟨rfl, rfl⟩ mns_c2 rfl mns_plain mns_c3
end Go.Proofs.YtoijabgcgdgacaaGreatDoor
