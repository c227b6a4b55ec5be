/-
  PROVED HERE: for every text, in whatever memory, the law PatternRead of the given program returns true, and its argument reads behind the call as it did before ('Rows.PatternReadCardSaid'). CONDITIONS: the row's own alone (the package-level variables that it lists start as the program's text lays them, which the card ties). No condition of ours.
-/
import Derived.Test.YtoijabgcgdgacaaGreatDoorZd
namespace Go.Proofs.YtoijabgcgdgacaaGreatDoor
open Go.ChangeShapes Go.WideShapes Go.ChangeAt Go.RowKit Go.Proofs.Gram Go.Lib Go.Shelf

theorem prd_f1 : Tryz.pinned.checked.prog.funcNamed Rows.patternReadRow.func = some 5 := by kernel_rfl
theorem and_t {a b : Bool} (h : a = true) (k : b = true) : (a && b) = true := by rw [h, k]; rfl
theorem prd_k1 : (Rows.patternReadRow.wf (OpenSpec.ofChange (OpenSpec.ofChange Rows.patternReadSpec).bare)) = true := by kernel_rfl
theorem prd_k2 : (laidOutB Tryz.prog) = true := by kernel_rfl
theorem prd_k3 : (mapsRowed Tryz.prog) = true := by kernel_rfl
theorem prd_k4 : (Tryz.f5.params.all (Program.readableRec Tryz.prog ·)) = true := by kernel_rfl
theorem prd_k5 : (namedTie Tryz.prog Rows.patternReadRow.named (OpenSpec.ofChange Rows.patternReadSpec).bare.vars) = true := by kernel_rfl
theorem prd_k6 : (Rows.patternReadRow.stops == []) = true := by kernel_rfl
theorem prd_k7 : (Tryz.prog.stops == []) = true := by kernel_rfl
theorem prd_k8 : (Rows.patternReadRow.knobs == []) = true := by kernel_rfl
theorem prd_k9 : (Tryz.prog.stopKnobs == []) = true := by kernel_rfl
theorem prd_k10 : (Rows.patternReadRow.inPlace == Tryz.prog.inPlace 5) = true := by kernel_rfl
theorem prd_k11 : (Rows.patternReadRow.unfollowed == Tryz.prog.unfollowed 5) = true := by kernel_rfl
theorem prd_k12 : (Rows.patternReadRow.recurses == Tryz.prog.recurses 5) = true := by kernel_rfl
theorem prd_k13 : (Rows.patternReadRow.named == Tryz.prog.varsNamed 5) = true := by kernel_rfl
theorem prd_k14 : (Rows.patternReadRow.maps == (Tryz.f5.params.toList ++ (OpenSpec.ofChange Rows.patternReadSpec).bare.plain.varTypes Tryz.prog).any (Tryz.prog.mapsRec ·)) = true := by kernel_rfl
theorem prd_k15 : (Rows.patternReadRow.ifaces == (Tryz.f5.params.toList ++ (OpenSpec.ofChange Rows.patternReadSpec).bare.plain.varTypes Tryz.prog).any (Tryz.prog.ifacesRec ·)) = true := by kernel_rfl
theorem prd_k16 : (Rows.patternReadRow.mapsOut == Tryz.prog.mapsAmong Tryz.f5.resultTypes.toList) = true := by kernel_rfl
theorem prd_k17 : (Rows.patternReadRow.loops == (Tryz.f5.params.toList ++ (OpenSpec.ofChange Rows.patternReadSpec).bare.plain.varTypes Tryz.prog).any (Tryz.prog.loopsFrom ·)) = true := by kernel_rfl
theorem prd_k18 : (Rows.patternReadRow.wideKeys == (Tryz.f5.params.toList ++ (OpenSpec.ofChange Rows.patternReadSpec).bare.plain.varTypes Tryz.prog ++ Tryz.f5.resultTypes.toList).any (Tryz.prog.wideKeysFrom ·)) = true := by kernel_rfl
theorem prd_k19 : ((OpenSpec.ofChange Rows.patternReadSpec).bare.vars.all (Tryz.prog.varReadable ·)) = true := by kernel_rfl
theorem prd_k20 : (Tryz.f5.resultTypes.all (fun t => Tryz.prog.readableRec t && decide (t < Tryz.prog.types.size))) = true := by kernel_rfl
theorem prd_k21 : (Rows.patternReadRow.ifacesOut == Tryz.f5.resultTypes.toList.any (Tryz.prog.ifacesRec ·)) = true := by kernel_rfl
theorem prd_k22 : (Rows.patternReadRow.loopsOut == Tryz.f5.resultTypes.toList.any (Tryz.prog.loopsFrom ·)) = true := by kernel_rfl
theorem prd_k23 : (Rows.patternReadRow.plainKeys == Tryz.prog.plainKeys) = true := by kernel_rfl
theorem prd_k24 : (Rows.patternReadRow.shortTexts.isNone) = true := by kernel_rfl
theorem prd_k25 : (Tryz.prog.stopsHeard) = true := by kernel_rfl
theorem prd_k26 : (Tryz.prog.mayEnter) = true := by kernel_rfl
theorem prd_k27 : (Rows.patternReadRow.lifted == Tryz.prog.liftsFinal) = true := by kernel_rfl
theorem prd_k28 : (Tryz.prog.make == some Rows.patternReadRow.make) = true := by kernel_rfl
theorem prd_k29 : (Rows.patternReadRow.kinds == (if Rows.patternReadRow.domain.isEmpty then [] else Tryz.f5.params.toList.map fun t => match Tryz.prog.underlying t with | some (.int k) => some k | _ => none)) = true := by kernel_rfl
theorem prd_k30 : (Rows.patternReadRow.pinned == Rows.patternReadRow.pinnedBy) = true := by kernel_rfl
theorem prd_k31 : (Rows.patternReadRow.veiled == (Tryz.f5.params.toList ++ (OpenSpec.ofChange Rows.patternReadSpec).bare.plain.varTypes Tryz.prog ++ Tryz.f5.resultTypes.toList).any (Tryz.prog.veiledRec ·)) = true := by kernel_rfl
theorem prd_k32 : (Rows.patternReadRow.veiledFits Tryz.prog Tryz.f5.params.toList (Tryz.f5.params.toList ++ (OpenSpec.ofChange Rows.patternReadSpec).bare.plain.varTypes Tryz.prog ++ Tryz.f5.resultTypes.toList)) = true := by kernel_rfl
set_option maxRecDepth 100000 in
theorem prd_f2 : joinedFacts Tryz.prog 5 Tryz.f5 (OpenSpec.ofChange Rows.patternReadSpec).bare Rows.patternReadRow = true := by
  unfold joinedFacts
  exact (and_t (and_t (and_t (and_t (and_t (and_t (and_t (and_t (and_t (and_t (and_t (and_t (and_t (and_t (and_t (and_t (and_t (and_t (and_t (and_t (and_t (and_t (and_t (and_t (and_t (and_t (and_t (and_t (and_t (and_t (and_t prd_k1 prd_k2) prd_k3) prd_k4) prd_k5) prd_k6) prd_k7) prd_k8) prd_k9) prd_k10) prd_k11) prd_k12) prd_k13) prd_k14) prd_k15) prd_k16) prd_k17) prd_k18) prd_k19) prd_k20) prd_k21) prd_k22) prd_k23) prd_k24) prd_k25) prd_k26) prd_k27) prd_k28) prd_k29) prd_k30) prd_k31) prd_k32)
theorem prd_f3 : Tryz.f5.isInstance Tryz.pinned.checked.prog Rows.patternReadRow.origin Rows.patternReadRow.targs := of_decide_eq_true (by kernel_rfl)
theorem prd_f4 : Tryz.f5.isWrapper Tryz.pinned.checked.prog Rows.patternReadRow.wrapper Rows.patternReadRow.mainSum := by unfold Func.isWrapper; rw [if_neg (of_decide_eq_false (by kernel_rfl))]; exact ⟨rfl, rfl⟩
theorem prd_said : Rows.PatternReadSaid :=
  OpenClaim.holds_of_cond 5 Tryz.f5 rfl rfl rfl rfl rfl rfl rfl ⟨rfl, rfl, rfl, rfl, rfl⟩ rfl rfl rfl rfl rfl prd_f1 Tryz.func5 prd_f2 prd_f3 prd_f4
    (fun os started H enc _ F => by rw [OpenClaim.pre_eq_preRow]; exact prd_lifted os started H enc F)

theorem prd_plain (f : FuncId) (fn : Func) (hf : Tryz.pinned.checked.prog.funcNamed "grammarsmith/grammarsmithlaw1.PatternRead" = some f) (hfn : Tryz.pinned.checked.prog.funcs[f]? = some fn) :
    true = Tryz.pinned.checked.prog.looks [] ∧ ∀ (j : Nat) t, fn.params[j]? = some t → Tryz.pinned.checked.prog.wantsStandIn t = false := by
  obtain rfl : f = 5 := Option.some.inj ((show Tryz.prog.funcNamed "grammarsmith/grammarsmithlaw1.PatternRead" = some 5 by kernel_rfl).symm.trans hf) |>.symm
  obtain rfl : fn = Tryz.f5 := (Option.some.inj (Tryz.func5.symm.trans hfn)).symm
  refine ⟨by kernel_rfl, fun j t ht => ?_⟩
  rw [Tryz.params5] at ht
  obtain rfl : t = 9 := by simpa using Array.mem_of_getElem? ht
  exact (show Tryz.prog.wantsStandIn 9 = false by kernel_rfl)

theorem prd_c1 : Rows.patternReadRow.wfByText (OpenSpec.ofChange Rows.patternReadSpec) = true := by kernel_rfl
theorem prd_c2 : Tryz.pinned.checked.prog.mainIs = some (Rows.patternReadCard.stood.harness.1, Rows.patternReadCard.stood.harness.2.toList) := by kernel_rfl
theorem prd_c3 : false = Rows.patternReadRow.goesBy Tryz.pinned.checked.prog := by kernel_rfl
/-- THE CARD OF THE LAW OF READING. -/
theorem prd_card : Rows.PatternReadCardSaid :=
  Claim7.holds_tied_plain_at .later [] _ _ _ _ prd_said (fun _ h => by cases h) prd_c1 (fun _ h => by cases h) patternRead_row_tie rfl ⟨rfl, rfl⟩ prd_c2 rfl prd_plain prd_c3
end Go.Proofs.YtoijabgcgdgacaaGreatDoor
