/-
  DERIVED. GIVEN WITH THE SEED: THE CARDS: each row of YtoijabgcgdgacaaGreatDoorRows.lean that lists a variable, with what it lists TIED to the program's text (the seventh form; the later family's looks); each row that meets fmt, with fmt's text TOLD by the authors' own Lean function (tested against real Go, not proved from fmt's source: count such statements apart). THE CARD IS WHAT COUNTS. Prove the row's statement (the work); the ties are given (YtoijabgcgdgacaaGreatDoorTie.lean); close each card by the builder's one call (the guide's Derived/Test/ToyasCard.lean, 'card_holds'). Laid BY PROGRAM, IN A SANDBOX (cutbox-door.mjs). By AI agents, Wed Nov 11 2026. No macro, syntax, notation, axiom, sorry.
-/
import Derived.Test.YtoijabgcgdgacaaGreatDoorRows
import GoSem.ClaimSeven
namespace Go.Proofs.YtoijabgcgdgacaaGreatDoor
namespace Rows

/-- THE TIED CARD OF 'grammarsmithlaw1.PatternMeans'. -/
def patternMeansCard : Claim7 := { stood := { row := patternMeansRow, standIns := [], harness := (true, "96452e00f001272ff18c5127abc4f1e5226804e6a43151e61f31a2c9418acf8e"), looks := true }, kinds := [], alts := [], laidByText := true, laidKinds := [.data, .data, .data, .data, .sentinel, .sentinel, .sentinel, .sentinel, .pinned], laidTests := true, laidLooks := .later }
def PatternMeansCardSaid : Prop := Claim7.holds Tryz.pinned (.plain (OpenSpec.ofChange patternMeansSpec)) patternMeansCard

/-- THE TIED CARD OF 'grammarsmithlaw1.PatternBack'. -/
def patternBackCard : Claim7 := { stood := { row := patternBackRow, standIns := [], harness := (true, "96452e00f001272ff18c5127abc4f1e5226804e6a43151e61f31a2c9418acf8e"), looks := true }, kinds := [], alts := [], laidByText := true, laidKinds := [.data, .data, .data, .data, .sentinel, .sentinel, .sentinel, .sentinel, .pinned], laidTests := true, laidLooks := .later }
def PatternBackCardSaid : Prop := Claim7.holds Tryz.pinned (.plain (OpenSpec.ofChange patternBackSpec)) patternBackCard

/-- THE TIED CARD OF 'grammarsmithlaw1.PatternRead'. -/
def patternReadCard : Claim7 := { stood := { row := patternReadRow, standIns := [], harness := (true, "96452e00f001272ff18c5127abc4f1e5226804e6a43151e61f31a2c9418acf8e"), looks := true }, kinds := [], alts := [], laidByText := true, laidKinds := [.data, .data, .data, .data, .handle, .sentinel, .sentinel, .sentinel, .sentinel, .sentinel, .sentinel, .sentinel, .sentinel, .sentinel, .pinned], laidTests := true, laidLooks := .later }
def PatternReadCardSaid : Prop := Claim7.holds Tryz.pinned (.plain (OpenSpec.ofChange patternReadSpec)) patternReadCard

/-- THE TIED CARD OF 'grammarsmithlaw1.AutoAlgebra'. -/
def autoAlgebraCard : Claim7 := { stood := { row := autoAlgebraRow, standIns := [], harness := (true, "96452e00f001272ff18c5127abc4f1e5226804e6a43151e61f31a2c9418acf8e"), looks := true }, kinds := [], alts := [], laidByText := true, laidKinds := [.data, .data, .data, .data, .sentinel, .sentinel, .sentinel, .sentinel, .pinned], laidTests := true, laidLooks := .later }
def AutoAlgebraCardSaid : Prop := Claim7.holds Tryz.pinned (.plain (OpenSpec.ofChange autoAlgebraSpec)) autoAlgebraCard

/-- THE TIED CARD OF 'grammarsmithlaw1.AutoOf'. -/
def autoOfCard : Claim7 := { stood := { row := autoOfRow, standIns := [], harness := (true, "96452e00f001272ff18c5127abc4f1e5226804e6a43151e61f31a2c9418acf8e"), looks := true }, kinds := [], alts := [], laidByText := true, laidKinds := [.data, .data, .data, .data, .handle, .sentinel, .sentinel, .sentinel, .sentinel, .sentinel, .sentinel, .sentinel, .sentinel, .sentinel, .pinned], laidTests := true, laidLooks := .later }
def AutoOfCardSaid : Prop := Claim7.holds Tryz.pinned (.plain (OpenSpec.ofChange autoOfSpec)) autoOfCard

/-- THE TIED CARD OF 'grammarsmithlaw1.AutoRules'. -/
def autoRulesCard : Claim7 := { stood := { row := autoRulesRow, standIns := [], harness := (true, "96452e00f001272ff18c5127abc4f1e5226804e6a43151e61f31a2c9418acf8e"), looks := true }, kinds := [], alts := [], laidByText := true, laidKinds := [.data, .data, .data, .data, .handle, .sentinel, .sentinel, .sentinel, .sentinel, .sentinel, .sentinel, .sentinel, .sentinel, .sentinel, .pinned], laidTests := true, laidLooks := .later }
def AutoRulesCardSaid : Prop := Claim7.holds Tryz.pinned (.plain (OpenSpec.ofChange autoRulesSpec)) autoRulesCard

/-- THE TIED CARD OF 'grammarsmithlaw1.AutoSame'. -/
def autoSameCard : Claim7 := { stood := { row := autoSameRow, standIns := [], harness := (true, "96452e00f001272ff18c5127abc4f1e5226804e6a43151e61f31a2c9418acf8e"), looks := true }, kinds := [], alts := [], laidByText := true, laidKinds := [.data, .data, .data, .data, .sentinel, .sentinel, .sentinel, .sentinel, .pinned], laidTests := true, laidLooks := .later }
def AutoSameCardSaid : Prop := Claim7.holds Tryz.pinned (.plain (OpenSpec.ofChange autoSameSpec)) autoSameCard

/-- THE TIED CARD OF 'grammarsmithlaw1.ScanNext'. -/
def scanNextCard : Claim7 := { stood := { row := scanNextRow, standIns := [], harness := (true, "96452e00f001272ff18c5127abc4f1e5226804e6a43151e61f31a2c9418acf8e"), looks := true }, kinds := [], alts := [], laidByText := true, laidKinds := [.data, .data, .data, .data, .sentinel, .sentinel, .sentinel, .sentinel, .sentinel, .pinned], laidTests := true, laidLooks := .later }
def ScanNextCardSaid : Prop := Claim7.holds Tryz.pinned (.plain (OpenSpec.ofChange scanNextSpec)) scanNextCard

/-- THE TIED CARD OF 'grammarsmithlaw1.ScanTiles'. -/
def scanTilesCard : Claim7 := { stood := { row := scanTilesRow, standIns := [], harness := (true, "96452e00f001272ff18c5127abc4f1e5226804e6a43151e61f31a2c9418acf8e"), looks := true }, kinds := [], alts := [], laidByText := true, laidKinds := [.data, .data, .data, .data, .sentinel, .sentinel, .sentinel, .sentinel, .sentinel, .pinned], laidTests := true, laidLooks := .later }
def ScanTilesCardSaid : Prop := Claim7.holds Tryz.pinned (.plain (OpenSpec.ofChange scanTilesSpec)) scanTilesCard

/-- THE TIED CARD OF 'grammarsmithlaw1.ScanMade'. -/
def scanMadeCard : Claim7 := { stood := { row := scanMadeRow, standIns := [], harness := (true, "96452e00f001272ff18c5127abc4f1e5226804e6a43151e61f31a2c9418acf8e"), looks := true }, kinds := [], alts := [], laidByText := true, laidKinds := [.data, .data, .data, .data, .handle, .sentinel, .sentinel, .sentinel, .sentinel, .sentinel, .sentinel, .sentinel, .sentinel, .sentinel, .pinned], laidTests := true, laidLooks := .later }
def ScanMadeCardSaid : Prop := Claim7.holds Tryz.pinned (.plain (OpenSpec.ofChange scanMadeSpec)) scanMadeCard

/-- THE SECOND FORM's CARD OF 'grammarsmithlaw1.PatternMeans'. -/
def patternMeansUptoCard : Claim7 := { stood := { row := patternMeansUptoRow, standIns := [], harness := (true, "96452e00f001272ff18c5127abc4f1e5226804e6a43151e61f31a2c9418acf8e"), looks := true }, kinds := [], alts := [], laidByText := true, laidKinds := [.data, .data, .data, .data, .sentinel, .sentinel, .sentinel, .sentinel, .pinned], laidTests := true, laidLooks := .later }
def PatternMeansUptoCardSaid : Prop := Claim7.holds Tryz.pinned (.plain (OpenSpec.upto patternMeansSpec)) patternMeansUptoCard

/-- THE SECOND FORM's CARD OF 'grammarsmithlaw1.PatternBack'. -/
def patternBackUptoCard : Claim7 := { stood := { row := patternBackUptoRow, standIns := [], harness := (true, "96452e00f001272ff18c5127abc4f1e5226804e6a43151e61f31a2c9418acf8e"), looks := true }, kinds := [], alts := [], laidByText := true, laidKinds := [.data, .data, .data, .data, .sentinel, .sentinel, .sentinel, .sentinel, .pinned], laidTests := true, laidLooks := .later }
def PatternBackUptoCardSaid : Prop := Claim7.holds Tryz.pinned (.plain (OpenSpec.upto patternBackSpec)) patternBackUptoCard

/-- THE SECOND FORM's CARD OF 'grammarsmithlaw1.PatternRead'. -/
def patternReadUptoCard : Claim7 := { stood := { row := patternReadUptoRow, standIns := [], harness := (true, "96452e00f001272ff18c5127abc4f1e5226804e6a43151e61f31a2c9418acf8e"), looks := true }, kinds := [], alts := [], laidByText := true, laidKinds := [.data, .data, .data, .data, .handle, .sentinel, .sentinel, .sentinel, .sentinel, .sentinel, .sentinel, .sentinel, .sentinel, .sentinel, .pinned], laidTests := true, laidLooks := .later }
def PatternReadUptoCardSaid : Prop := Claim7.holds Tryz.pinned (.plain (OpenSpec.upto patternReadSpec)) patternReadUptoCard

/-- THE SECOND FORM's CARD OF 'grammarsmithlaw1.AutoAlgebra'. -/
def autoAlgebraUptoCard : Claim7 := { stood := { row := autoAlgebraUptoRow, standIns := [], harness := (true, "96452e00f001272ff18c5127abc4f1e5226804e6a43151e61f31a2c9418acf8e"), looks := true }, kinds := [], alts := [], laidByText := true, laidKinds := [.data, .data, .data, .data, .sentinel, .sentinel, .sentinel, .sentinel, .pinned], laidTests := true, laidLooks := .later }
def AutoAlgebraUptoCardSaid : Prop := Claim7.holds Tryz.pinned (.plain (OpenSpec.upto autoAlgebraSpec)) autoAlgebraUptoCard

/-- THE SECOND FORM's CARD OF 'grammarsmithlaw1.AutoOf'. -/
def autoOfUptoCard : Claim7 := { stood := { row := autoOfUptoRow, standIns := [], harness := (true, "96452e00f001272ff18c5127abc4f1e5226804e6a43151e61f31a2c9418acf8e"), looks := true }, kinds := [], alts := [], laidByText := true, laidKinds := [.data, .data, .data, .data, .handle, .sentinel, .sentinel, .sentinel, .sentinel, .sentinel, .sentinel, .sentinel, .sentinel, .sentinel, .pinned], laidTests := true, laidLooks := .later }
def AutoOfUptoCardSaid : Prop := Claim7.holds Tryz.pinned (.plain (OpenSpec.upto autoOfSpec)) autoOfUptoCard

/-- THE SECOND FORM's CARD OF 'grammarsmithlaw1.AutoRules'. -/
def autoRulesUptoCard : Claim7 := { stood := { row := autoRulesUptoRow, standIns := [], harness := (true, "96452e00f001272ff18c5127abc4f1e5226804e6a43151e61f31a2c9418acf8e"), looks := true }, kinds := [], alts := [], laidByText := true, laidKinds := [.data, .data, .data, .data, .handle, .sentinel, .sentinel, .sentinel, .sentinel, .sentinel, .sentinel, .sentinel, .sentinel, .sentinel, .pinned], laidTests := true, laidLooks := .later }
def AutoRulesUptoCardSaid : Prop := Claim7.holds Tryz.pinned (.plain (OpenSpec.upto autoRulesSpec)) autoRulesUptoCard

/-- THE SECOND FORM's CARD OF 'grammarsmithlaw1.AutoSame'. -/
def autoSameUptoCard : Claim7 := { stood := { row := autoSameUptoRow, standIns := [], harness := (true, "96452e00f001272ff18c5127abc4f1e5226804e6a43151e61f31a2c9418acf8e"), looks := true }, kinds := [], alts := [], laidByText := true, laidKinds := [.data, .data, .data, .data, .sentinel, .sentinel, .sentinel, .sentinel, .pinned], laidTests := true, laidLooks := .later }
def AutoSameUptoCardSaid : Prop := Claim7.holds Tryz.pinned (.plain (OpenSpec.upto autoSameSpec)) autoSameUptoCard

/-- THE SECOND FORM's CARD OF 'grammarsmithlaw1.ScanNext'. -/
def scanNextUptoCard : Claim7 := { stood := { row := scanNextUptoRow, standIns := [], harness := (true, "96452e00f001272ff18c5127abc4f1e5226804e6a43151e61f31a2c9418acf8e"), looks := true }, kinds := [], alts := [], laidByText := true, laidKinds := [.data, .data, .data, .data, .sentinel, .sentinel, .sentinel, .sentinel, .sentinel, .pinned], laidTests := true, laidLooks := .later }
def ScanNextUptoCardSaid : Prop := Claim7.holds Tryz.pinned (.plain (OpenSpec.upto scanNextSpec)) scanNextUptoCard

/-- THE SECOND FORM's CARD OF 'grammarsmithlaw1.ScanTiles'. -/
def scanTilesUptoCard : Claim7 := { stood := { row := scanTilesUptoRow, standIns := [], harness := (true, "96452e00f001272ff18c5127abc4f1e5226804e6a43151e61f31a2c9418acf8e"), looks := true }, kinds := [], alts := [], laidByText := true, laidKinds := [.data, .data, .data, .data, .sentinel, .sentinel, .sentinel, .sentinel, .sentinel, .pinned], laidTests := true, laidLooks := .later }
def ScanTilesUptoCardSaid : Prop := Claim7.holds Tryz.pinned (.plain (OpenSpec.upto scanTilesSpec)) scanTilesUptoCard

/-- THE SECOND FORM's CARD OF 'grammarsmithlaw1.ScanMade'. -/
def scanMadeUptoCard : Claim7 := { stood := { row := scanMadeUptoRow, standIns := [], harness := (true, "96452e00f001272ff18c5127abc4f1e5226804e6a43151e61f31a2c9418acf8e"), looks := true }, kinds := [], alts := [], laidByText := true, laidKinds := [.data, .data, .data, .data, .handle, .sentinel, .sentinel, .sentinel, .sentinel, .sentinel, .sentinel, .sentinel, .sentinel, .sentinel, .pinned], laidTests := true, laidLooks := .later }
def ScanMadeUptoCardSaid : Prop := Claim7.holds Tryz.pinned (.plain (OpenSpec.upto scanMadeSpec)) scanMadeUptoCard
end Rows
end Go.Proofs.YtoijabgcgdgacaaGreatDoor
