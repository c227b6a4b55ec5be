/-
  A WORLD FOR THE WITNESS; the row of the law of matching, proved.
-/
import Derived.Test.YtoijabgcgdgacaaGreatDoorZa
import Derived.Test.YtoijabgcgdgacaaGreatDoorMJ
namespace Go.Proofs.YtoijabgcgdgacaaGreatDoor
open Go.ChangeShapes Go.WideShapes Go.ChangeAt Go.RowKit Go.Proofs.Gram Go.Lib Go.Shelf
open Go.ChangeMaps (open_string shut_string)

def sentM : List (List UInt8) := [[109, 111, 114, 101, 32, 116, 104, 97, 110, 32, 109, 97, 121, 32, 98, 101], [110, 111, 116, 32, 111, 102, 32, 116, 104, 101, 32, 102, 111, 114, 109, 32, 97, 115, 107, 101, 100], [118, 97, 108, 117, 101, 32, 111, 117, 116, 32, 111, 102, 32, 114, 97, 110, 103, 101], [105, 110, 118, 97, 108, 105, 100, 32, 115, 121, 110, 116, 97, 120]]

/-- THE WITNESS: the settled world with four blocks more (the errors' structs), the nine variables holding what their initialisers lay. -/
noncomputable def laidWorldM (os : Os) : World :=
  let N := (World.settled Tryz.prog os).heap.size
  let w0 := World.holding Tryz.prog os ⟨(sentM.map fun s => Obj.cells #[.string ⟨s.toArray⟩] 408).toArray, #[], []⟩
  let put (h : Array Obj) (g : Nat) (cs : Array Value) : Array Obj := h.modify g fun
    | .cells _ t frozen => .cells cs t frozen
    | o => o
  let h0 := put (put w0.heap 0 #[.iface 406 (.pointer (some ⟨N, 0, none⟩))]) 1 #[.iface 406 (.pointer (some ⟨N + 1, 0, none⟩))]
  let h1 := put (put h0 15 #[.iface 406 (.pointer (some ⟨N + 2, 0, none⟩))]) 14 #[.iface 406 (.pointer (some ⟨N + 3, 0, none⟩))]
  let h2 := put h1 8 (Lib.firstTab.map fun z => Value.int .u8 z).toArray
  let h3 := put h2 9 ((List.range 16).flatMap fun i => [Value.int .u8 (Lib.accLo i), Value.int .u8 (Lib.accHi i)]).toArray
  let h4 := put h3 13 (bru.map fun z => Value.int .u8 z).toArray
  let h5 := put h4 12 ([0, 1, 28, 2, 29, 14, 24, 3, 30, 22, 20, 15, 25, 17, 4, 8, 31, 27, 13, 23, 21, 19, 16, 7, 26, 12, 18, 6, 11, 5, 10, 9].map fun z => Value.int .u8 z).toArray
  let h6 := put h5 11 ((List.range 20).map fun i => Value.int .u64 (10 ^ i : Nat)).toArray
  { w0 with heap := h6 }

noncomputable def NM0 : Nat := (World.settled Tryz.prog default).heap.size
theorem laidM_met (os : Os) (args : Array Value) : laidMet Tryz.prog Rows.patternMeansRow.laid ((laidWorldM os).forCall (fun _ _ => 0) ⟨#[], args, []⟩).memory :=
  (LaidIn.of_run [12, 13, 11, 9, 1, NM0 + 1, 0, NM0, 15, NM0 + 2, 14, NM0 + 3, 8] 8 (by kernel_rfl) (by kernel_rfl) (by kernel_rfl) (by kernel_rfl)).met

theorem mns_witness (os : Os) {H : Type} (enc : TypeId × Value → H) :
    (OpenSpec.ofChange Rows.patternMeansSpec).preRow enc Tryz.prog Tryz.f3 Rows.patternMeansRow.domain false Rows.patternMeansRow.laid ((laidWorldM os).forCall (fun _ _ => 0) ⟨#[], #[.string ⟨#[]⟩, .string ⟨#[]⟩], []⟩).memory #[.string ⟨#[]⟩, .string ⟨#[]⟩] := by
  have hw : (DataW.whole enc Tryz.prog ((laidWorldM os).forCall (fun _ _ => 0) ⟨#[], #[.string ⟨#[]⟩, .string ⟨#[]⟩], []⟩).memory Tryz.f3.params.toList Rows.patternMeansSpec.vars false #[Value.string ⟨#[]⟩, Value.string ⟨#[]⟩].toList 8).map (fun x => (x.1, x.2.1)) =
      some ([.lit (.string []), .lit (.string [])], []) := by kernel_rfl
  obtain ⟨⟨x1, x2, x3⟩, hx, hx1⟩ := Option.map_eq_some_iff.1 hw
  simp only [Prod.mk.injEq] at hx1
  obtain ⟨rfl, rfl⟩ := hx1
  exact OpenSpec.preRow_of_cond 8 hx (by kernel_rfl) (fun k hk => by cases hk) (by kernel_rfl) (laidM_met os _)

set_option maxRecDepth 100000 in
theorem mns_contract (H : Type) (enc : TypeId × Value → H) (W : World) (base : Nat) (args : Array Value) (ds gs : List (DataW H)) (before : List MemPlace)
    (hval0 : ∀ (j : Nat) t v, Tryz.f3.params[j]? = some t → args[j]? = some v → Value.okWide Tryz.prog W .any base t v)
    (hW : DataW.Whole enc Tryz.prog Tryz.f3.params.toList Rows.patternMeansSpec.vars false W args.toList ds gs before) (hL : laidMet Tryz.prog Rows.patternMeansRow.laid W) :
    Calls Tryz.prog 3 args W fun e W' => ∃ v, e = .returned v ∧ Rows.patternMeansSpec.post enc Tryz.prog Tryz.f3 false true false false W args v W' := by
  have hval : ∀ (j : Nat) t v, Tryz.f3.params[j]? = some t → args[j]? = some v → Value.okWide Tryz.prog W .any base t v := hval0
  have hW' := hW
  obtain ⟨p, q, hA0, hV0, rfl, _, _⟩ := hW
  have hA : DataW.TrodAll enc Tryz.prog W 0 (fun _ => true) true Tryz.f3.params.toList args.toList ds p := hA0
  rw [Tryz.params3] at hA hval
  obtain ⟨v0, v1, d0, d1, p0, p1, rfl, rfl, rfl, h0, h1⟩ := trodAll_two hA
  obtain ⟨rfl, rfl⟩ := trodVars_none hV0
  obtain ⟨s, rfl, rfl, rfl, ws⟩ := open_string Tryz.underlying9 (hval 0 9 v0 rfl rfl) h0
  obtain ⟨u, rfl, rfl, rfl, wu⟩ := open_string Tryz.underlying9 (hval 1 9 v1 rfl rfl) h1
  clear hA0 hV0 hval0
  obtain ⟨eb, es, hE⟩ := env_of hL (by simp [Rows.patternMeansRow]) (by simp [Rows.patternMeansRow]) (by simp [Rows.patternMeansRow]) (by simp [Rows.patternMeansRow]) (by simp [Rows.patternMeansRow])
  refine (patMeans_any (s := s) (t := u) hE (by unfold maxLen at ws; omega) (by unfold maxLen at wu; omega)).mono ?_
  rintro e W' ⟨rfl, hk⟩
  have bel := hk.below
  refine ⟨_, rfl, _, _, _, [], [], [], hW', ?_, ?_, ?_, bel.frame _, fun h => by cases h⟩
  · exact trodAll_mk1 (shut_bool Tryz.underlying4 _)
  · exact trodAll_mk2 (shut_string Tryz.underlying9 ws) (shut_string Tryz.underlying9 wu)
  · rfl

set_option maxRecDepth 100000 in
set_option maxHeartbeats 2000000 in
theorem mns_lifted (os : Os) (started : os.Started) (H : Type) (enc : TypeId × Value → H) (F : Stop.Interp) :
    ReturnsInHanded {} Tryz.checked os 3 .any ((OpenSpec.ofChange Rows.patternMeansSpec).preRow enc Tryz.prog Tryz.f3 Rows.patternMeansRow.domain false Rows.patternMeansRow.laid) (((OpenSpec.ofChange Rows.patternMeansSpec).at F).post enc Tryz.prog Tryz.f3 false true false false) := by
  refine returnsInHanded_of_row (C := Tryz.checked) (s := OpenSpec.ofChange Rows.patternMeansSpec) own started (by kernel_rfl) Tryz.func3
    (witness_row_atRef (enc := enc) (C := Tryz.checked) false (laidWorldM os) #[.string ⟨#[]⟩, .string ⟨#[]⟩] rfl (by kernel_rfl) (by kernel_rfl) (by kernel_rfl) (mns_witness os enc)) ?_
  intro W base args ds gs before hval0 hW _ _ _ hL _ _
  exact mns_contract H enc W base args ds gs before hval0 hW hL

end Go.Proofs.YtoijabgcgdgacaaGreatDoor
