/-
  PROVED HERE: for every text, in whatever memory, the law PatternBack of the given program returns true, and its argument reads behind the call as it did before ('Rows.PatternBackCardSaid'). CONDITIONS: the row's own alone (the package-level variables that it lists start as the program's text lays them, which the card ties). No condition of ours.
-/
import Derived.Test.YtoijabgcgdgacaaGreatDoorZb
namespace Go.Proofs.YtoijabgcgdgacaaGreatDoor
open Go.ChangeShapes Go.WideShapes Go.ChangeAt Go.RowKit Go.Proofs.Gram Go.Lib Go.Shelf

theorem back_f1 : Tryz.pinned.checked.prog.funcNamed Rows.patternBackRow.func = some 4 := by kernel_rfl
theorem and_t {a b : Bool} (h : a = true) (k : b = true) : (a && b) = true := by rw [h, k]; rfl
theorem back_k1 : (Rows.patternBackRow.wf (OpenSpec.ofChange (OpenSpec.ofChange Rows.patternBackSpec).bare)) = true := by kernel_rfl
theorem back_k2 : (laidOutB Tryz.prog) = true := by kernel_rfl
theorem back_k3 : (mapsRowed Tryz.prog) = true := by kernel_rfl
theorem back_k4 : (Tryz.f4.params.all (Program.readableRec Tryz.prog ·)) = true := by kernel_rfl
theorem back_k5 : (namedTie Tryz.prog Rows.patternBackRow.named (OpenSpec.ofChange Rows.patternBackSpec).bare.vars) = true := by kernel_rfl
theorem back_k6 : (Rows.patternBackRow.stops == []) = true := by kernel_rfl
theorem back_k7 : (Tryz.prog.stops == []) = true := by kernel_rfl
theorem back_k8 : (Rows.patternBackRow.knobs == []) = true := by kernel_rfl
theorem back_k9 : (Tryz.prog.stopKnobs == []) = true := by kernel_rfl
theorem back_k10 : (Rows.patternBackRow.inPlace == Tryz.prog.inPlace 4) = true := by kernel_rfl
theorem back_k11 : (Rows.patternBackRow.unfollowed == Tryz.prog.unfollowed 4) = true := by kernel_rfl
theorem back_k12 : (Rows.patternBackRow.recurses == Tryz.prog.recurses 4) = true := by kernel_rfl
theorem back_k13 : (Rows.patternBackRow.named == Tryz.prog.varsNamed 4) = true := by kernel_rfl
theorem back_k14 : (Rows.patternBackRow.maps == (Tryz.f4.params.toList ++ (OpenSpec.ofChange Rows.patternBackSpec).bare.plain.varTypes Tryz.prog).any (Tryz.prog.mapsRec ·)) = true := by kernel_rfl
theorem back_k15 : (Rows.patternBackRow.ifaces == (Tryz.f4.params.toList ++ (OpenSpec.ofChange Rows.patternBackSpec).bare.plain.varTypes Tryz.prog).any (Tryz.prog.ifacesRec ·)) = true := by kernel_rfl
theorem back_k16 : (Rows.patternBackRow.mapsOut == Tryz.prog.mapsAmong Tryz.f4.resultTypes.toList) = true := by kernel_rfl
theorem back_k17 : (Rows.patternBackRow.loops == (Tryz.f4.params.toList ++ (OpenSpec.ofChange Rows.patternBackSpec).bare.plain.varTypes Tryz.prog).any (Tryz.prog.loopsFrom ·)) = true := by kernel_rfl
theorem back_k18 : (Rows.patternBackRow.wideKeys == (Tryz.f4.params.toList ++ (OpenSpec.ofChange Rows.patternBackSpec).bare.plain.varTypes Tryz.prog ++ Tryz.f4.resultTypes.toList).any (Tryz.prog.wideKeysFrom ·)) = true := by kernel_rfl
theorem back_k19 : ((OpenSpec.ofChange Rows.patternBackSpec).bare.vars.all (Tryz.prog.varReadable ·)) = true := by kernel_rfl
theorem back_k20 : (Tryz.f4.resultTypes.all (fun t => Tryz.prog.readableRec t && decide (t < Tryz.prog.types.size))) = true := by kernel_rfl
theorem back_k21 : (Rows.patternBackRow.ifacesOut == Tryz.f4.resultTypes.toList.any (Tryz.prog.ifacesRec ·)) = true := by kernel_rfl
theorem back_k22 : (Rows.patternBackRow.loopsOut == Tryz.f4.resultTypes.toList.any (Tryz.prog.loopsFrom ·)) = true := by kernel_rfl
theorem back_k23 : (Rows.patternBackRow.plainKeys == Tryz.prog.plainKeys) = true := by kernel_rfl
theorem back_k24 : (Rows.patternBackRow.shortTexts.isNone) = true := by kernel_rfl
theorem back_k25 : (Tryz.prog.stopsHeard) = true := by kernel_rfl
theorem back_k26 : (Tryz.prog.mayEnter) = true := by kernel_rfl
theorem back_k27 : (Rows.patternBackRow.lifted == Tryz.prog.liftsFinal) = true := by kernel_rfl
theorem back_k28 : (Tryz.prog.make == some Rows.patternBackRow.make) = true := by kernel_rfl
theorem back_k29 : (Rows.patternBackRow.kinds == (if Rows.patternBackRow.domain.isEmpty then [] else Tryz.f4.params.toList.map fun t => match Tryz.prog.underlying t with | some (.int k) => some k | _ => none)) = true := by kernel_rfl
theorem back_k30 : (Rows.patternBackRow.pinned == Rows.patternBackRow.pinnedBy) = true := by kernel_rfl
theorem back_k31 : (Rows.patternBackRow.veiled == (Tryz.f4.params.toList ++ (OpenSpec.ofChange Rows.patternBackSpec).bare.plain.varTypes Tryz.prog ++ Tryz.f4.resultTypes.toList).any (Tryz.prog.veiledRec ·)) = true := by kernel_rfl
theorem back_k32 : (Rows.patternBackRow.veiledFits Tryz.prog Tryz.f4.params.toList (Tryz.f4.params.toList ++ (OpenSpec.ofChange Rows.patternBackSpec).bare.plain.varTypes Tryz.prog ++ Tryz.f4.resultTypes.toList)) = true := by kernel_rfl
set_option maxRecDepth 100000 in
theorem back_f2 : joinedFacts Tryz.prog 4 Tryz.f4 (OpenSpec.ofChange Rows.patternBackSpec).bare Rows.patternBackRow = true := by
  unfold joinedFacts
  exact (and_t (and_t (and_t (and_t (and_t (and_t (and_t (and_t (and_t (and_t (and_t (and_t (and_t (and_t (and_t (and_t (and_t (and_t (and_t (and_t (and_t (and_t (and_t (and_t (and_t (and_t (and_t (and_t (and_t (and_t (and_t back_k1 back_k2) back_k3) back_k4) back_k5) back_k6) back_k7) back_k8) back_k9) back_k10) back_k11) back_k12) back_k13) back_k14) back_k15) back_k16) back_k17) back_k18) back_k19) back_k20) back_k21) back_k22) back_k23) back_k24) back_k25) back_k26) back_k27) back_k28) back_k29) back_k30) back_k31) back_k32)
theorem back_f3 : Tryz.f4.isInstance Tryz.pinned.checked.prog Rows.patternBackRow.origin Rows.patternBackRow.targs := of_decide_eq_true (by kernel_rfl)
theorem back_f4 : Tryz.f4.isWrapper Tryz.pinned.checked.prog Rows.patternBackRow.wrapper Rows.patternBackRow.mainSum := by unfold Func.isWrapper; rw [if_neg (of_decide_eq_false (by kernel_rfl))]; exact ⟨rfl, rfl⟩
theorem back_said : Rows.PatternBackSaid :=
  OpenClaim.holds_of_cond 4 Tryz.f4 rfl rfl rfl rfl rfl rfl rfl ⟨rfl, rfl, rfl, rfl, rfl⟩ rfl rfl rfl rfl rfl back_f1 Tryz.func4 back_f2 back_f3 back_f4
    (fun os started H enc _ F => by rw [OpenClaim.pre_eq_preRow]; exact back_lifted os started H enc F)

theorem back_plain (f : FuncId) (fn : Func) (hf : Tryz.pinned.checked.prog.funcNamed "grammarsmith/grammarsmithlaw1.PatternBack" = some f) (hfn : Tryz.pinned.checked.prog.funcs[f]? = some fn) :
    true = Tryz.pinned.checked.prog.looks [] ∧ ∀ (j : Nat) t, fn.params[j]? = some t → Tryz.pinned.checked.prog.wantsStandIn t = false := by
  obtain rfl : f = 4 := Option.some.inj ((show Tryz.prog.funcNamed "grammarsmith/grammarsmithlaw1.PatternBack" = some 4 by kernel_rfl).symm.trans hf) |>.symm
  obtain rfl : fn = Tryz.f4 := (Option.some.inj (Tryz.func4.symm.trans hfn)).symm
  refine ⟨by kernel_rfl, fun j t ht => ?_⟩
  rw [Tryz.params4] at ht
  obtain rfl : t = 9 := by simpa using Array.mem_of_getElem? ht
  exact (show Tryz.prog.wantsStandIn 9 = false by kernel_rfl)

theorem back_c1 : Rows.patternBackRow.wfByText (OpenSpec.ofChange Rows.patternBackSpec) = true := by kernel_rfl
theorem back_c2 : Tryz.pinned.checked.prog.mainIs = some (Rows.patternBackCard.stood.harness.1, Rows.patternBackCard.stood.harness.2.toList) := by kernel_rfl
theorem back_c3 : false = Rows.patternBackRow.goesBy Tryz.pinned.checked.prog := by kernel_rfl
/-- THE CARD OF THE LAW OF WRITING. -/
theorem back_card : Rows.PatternBackCardSaid :=
  Claim7.holds_tied_plain_at .later [] _ _ _ _ back_said (fun _ h => by cases h) back_c1 (fun _ h => by cases h) patternBack_row_tie rfl ⟨rfl, rfl⟩ back_c2 rfl back_plain back_c3
end Go.Proofs.YtoijabgcgdgacaaGreatDoor
