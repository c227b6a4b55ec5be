/-
  THE LISTED VARIABLES: what the row's list gives a walk; a world for the witness.
-/
import Derived.Test.YtoijabgcgdgacaaGreatDoorCards
import Derived.Test.YtoijabgcgdgacaaGreatDoorTie
import Derived.Test.YtoijabgcgdgacaaGreatDoorGD
import Derived.Lib.LaidIn
import Derived.Lib.LaidU8T
import Derived.Lib.LaidTab
import Derived.Stop.LaidErr
import Derived.Deep.DeepHandedRow
import Derived.Deep.DeepWitnessRowRef
import Derived.ProofKit
import Derived.SizedLaws
import Derived.ShutString
namespace Go.Proofs.YtoijabgcgdgacaaGreatDoor
open Go.RowKit Go.Proofs.Gram Go.Lib Go.Shelf

theorem own : ownKnob Tryz.prog.godebug = none := by kernel_rfl
theorem star : "*" ++ "errors.errorString" = "*errors.errorString" := by decide
theorem row406 (u : TypeId) (h : Tryz.prog.typeName? 3 u = some "*errors.errorString") : u = 406 :=
  typeName_ptr_named (nm := "errors.errorString") (by rw [star]; kernel_rfl) (by kernel_rfl) (by decide) u (by rw [star]; exact h)
theorem first_eq : Rows.laid_unicode_utf8_first = firstData := by kernel_rfl
theorem accept_eq : (Rows.laid_unicode_utf8_acceptRanges : DataW Unit) = acceptData := by kernel_rfl

def u8ren : Go.Shelf.Ren := ⟨fun n => n, fun | 5 => 5 | 119 => 357 | 138 => 359 | 139 => 360 | n => n, fun | 3 => 8 | 4 => 9 | n => n⟩
theorem u8types : U8Types Tryz.prog u8ren := ⟨Tryz.underlying5, by kernel_rfl, by kernel_rfl, by kernel_rfl⟩

/-- THE TABLES OF utf8. -/
theorem tabs_of {W : World} {l : List (String × DataW Unit)} (h : laidMet Tryz.prog l W) (h1 : ("unicode/utf8.first", Rows.laid_unicode_utf8_first) ∈ l) (h2 : ("unicode/utf8.acceptRanges", Rows.laid_unicode_utf8_acceptRanges) ∈ l) : Lib.Utf8Tabs 8 9 W := by
  have r1 := Lib.laidMet.reads h h1
  have r2 := Lib.laidMet.reads h h2
  rw [first_eq] at r1
  rw [accept_eq] at r2
  exact utf8Tabs_of_readsT u8types ⟨by kernel_rfl, by kernel_rfl, by kernel_rfl, by kernel_rfl, by kernel_rfl, by kernel_rfl, by kernel_rfl⟩ r1 r2

theorem sent_mem {W : World} {n : String} {text : List UInt8} {g : Nat} (hg : Tryz.prog.globalNamed n = some g) (ht : (Tryz.prog.globals[g]?).map (·.type) = some 26) :
    ∀ {l : List (String × DataW Unit)}, laidMet Tryz.prog l W → (n, .iface "*errors.errorString" (.ptr (.agg [.lit (.string text)]))) ∈ l →
      ∃ (a : Addr) (s : ByteArray), W.var? Tryz.prog n = some #[.iface 406 (.pointer (some a))] ∧ W.cell? a = some (.string s) ∧ s.data.toList = text
  | [], _, hm => by cases hm
  | x :: r, h, hm => by
    rcases List.mem_cons.1 hm with e | hm
    · rw [← e] at h
      obtain ⟨a, s, h1, h2, h3, _⟩ := laid_sentinel h hg ht Tryz.underlying26 row406 Tryz.underlying406 Tryz.underlying408 rfl rfl Tryz.underlying9 (by kernel_rfl) (by kernel_rfl)
      exact ⟨a, s, h1, h2, h3⟩
    · exact sent_mem hg ht h.tail hm

theorem var_heap {W : World} {n : String} {g : Nat} {cs : Array Value} (hg : Tryz.prog.globalNamed n = some g) (h : W.var? Tryz.prog n = some cs) : ∃ t fr, W.heap[g]? = some (.cells cs t fr) := by
  unfold World.var? at h
  rw [hg] at h
  simp only [Option.bind_some] at h
  split at h
  · rename_i c t fr hh
    cases h
    exact ⟨t, fr, hh⟩
  · cases h

theorem env_of {W : World} {l : List (String × DataW Unit)} (h : laidMet Tryz.prog l W) (h1 : ("unicode/utf8.first", Rows.laid_unicode_utf8_first) ∈ l) (h2 : ("unicode/utf8.acceptRanges", Rows.laid_unicode_utf8_acceptRanges) ∈ l)
    (h3 : ("grammarsmith/api.ErrBound", Rows.laid_grammarsmith_api_ErrBound) ∈ l) (h4 : ("grammarsmith/api.ErrSyntax", Rows.laid_grammarsmith_api_ErrSyntax) ∈ l) (h5 : ("strconv.ErrRange", Rows.laid_strconv_ErrRange) ∈ l) :
    ∃ eb es, Env 406 eb es W := by
  obtain ⟨eb, sb, hb, _⟩ := sent_mem (g := 0) (by kernel_rfl) (by kernel_rfl) h h3
  obtain ⟨es, ss, hs, _⟩ := sent_mem (g := 1) (by kernel_rfl) (by kernel_rfl) h h4
  obtain ⟨er, sr, hr, _⟩ := sent_mem (g := 15) (by kernel_rfl) (by kernel_rfl) h h5
  obtain ⟨t, fr, hh⟩ := var_heap (g := 15) (by kernel_rfl) hr
  exact ⟨eb, es, tabs_of h h1 h2, World.var?_cell (by kernel_rfl) hb 0, World.var?_cell (by kernel_rfl) hs 0, 406, _, t, fr, hh⟩

def bru : List Int := [0, 1, 56, 2, 57, 49, 28, 3, 61, 58, 42, 50, 38, 29, 17, 4, 62, 47, 59, 36, 45, 43, 51, 22, 53, 39, 33, 30, 24, 18, 12, 5, 63, 55, 48, 27, 60, 41, 37, 16, 46, 35, 44, 21, 52, 32, 23, 11, 54, 26, 40, 15, 34, 20, 31, 10, 25, 14, 19, 9, 13, 8, 7, 6]
theorem bru_of {W : World} {l : List (String × DataW Unit)} (h : laidMet Tryz.prog l W) (h1 : ("math/bits.deBruijn64tab", Rows.laid_math_bits_deBruijn64tab) ∈ l) : W.cell? ⟨13, 15, none⟩ = some (.int .u8 4) := by
  obtain ⟨g, t, cs, fuel, p, hg, hty, hvar, hd⟩ := Lib.laidMet.reads h h1
  have e1 : g = 13 := Option.some.inj (hg.symm.trans (by kernel_rfl))
  subst e1
  have e2 : t = 394 := Option.some.inj (hty.symm.trans (by kernel_rfl))
  subst e2
  rw [show (Rows.laid_math_bits_deBruijn64tab : DataW Unit) = tabData .u8 bru from by kernel_rfl] at hd
  have hcs := cells_of_tab Tryz.underlying394 Tryz.underlying5 (by kernel_rfl) (by kernel_rfl) hd
  have := World.var?_cell hg hvar 15
  rw [this, ← Array.getElem?_toList, hcs]
  rfl
end Go.Proofs.YtoijabgcgdgacaaGreatDoor
