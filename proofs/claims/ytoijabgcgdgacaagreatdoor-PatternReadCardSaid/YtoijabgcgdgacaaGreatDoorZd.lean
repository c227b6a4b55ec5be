/-
  THE LISTED VARIABLES OF THE LAW OF READING: what the row's list gives the walk; a world for the witness; the row, proved.
-/
import Derived.Test.YtoijabgcgdgacaaGreatDoorZa
import Derived.Test.YtoijabgcgdgacaaGreatDoorRI
import Derived.LaidHandle
import Derived.LaidSub
namespace Go.Proofs.YtoijabgcgdgacaaGreatDoor
open Go.ChangeShapes Go.WideShapes Go.ChangeAt Go.RowKit Go.Proofs.Gram Go.Lib Go.Shelf
open Go.ChangeMaps (open_string shut_string)

/-- A sentinel, its block told too (after the kit's laid_sentinel). -/
theorem laid_sentinel2 {P : Program} {n nm : String} {text : List UInt8} {r : List (String × DataW Unit)} {W : World} {g : Nat} {ti tp te ts : TypeId} {ms : Array (String × TypeId)} {f : Field}
    (h : laidMet P ((n, .iface nm (.ptr (.agg [.lit (.string text)]))) :: r) W)
    (hg : P.globalNamed n = some g) (ht : (P.globals[g]?).map (·.type) = some ti) (hi : P.underlying ti = some (.interface ms)) (hrow : ∀ u, P.typeName? 3 u = some nm → u = tp)
    (hp : P.underlying tp = some (.pointer te)) (he : P.underlying te = some (.struct #[f])) (hft : f.type = ts) (hfo : f.offset = 0) (hs : P.underlying ts = some .string) (hc : P.cellsOf te = 1) (hcs : P.cellsOf ts = 1) :
    ∃ (a : Addr) (s : ByteArray) (c : Array Value) (t : TypeId), W.var? P n = some #[.iface tp (.pointer (some a))] ∧ W.cell? a = some (.string s) ∧ s.data.toList = text ∧ W.heap[a.block]? = some (.cells c t (0, 0)) := by
  obtain ⟨ps, ⟨g0, t0, cs0, f0, p0, q0, hg0, ht0, hv0, hd0, _, e0⟩, _, hrows⟩ := h
  obtain rfl := Option.some.inj (hg.symm.trans hg0)
  obtain rfl := Option.some.inj (ht.symm.trans ht0)
  subst e0
  obtain ⟨l0⟩ := cs0
  have ok0 : ∀ u v, l0 = [.iface u v] → Value.okWide P W .any 0 u v := fun u v e => by
    subst e
    exact (hrows g 0 (by simp [MemPlace.row])).2 u v (by simpa using World.var?_cell hg0 hv0 0)
  obtain ⟨a0, s0, rfl, hc0, hs0, hz0, rfl⟩ := errorString_of_trod hi hrow hp he hft hfo hs hc hcs hd0 ok0
  obtain ⟨c0, u0, hb0⟩ := (hrows a0.block a0.off (by simp [MemPlace.row])).1
  exact ⟨a0, s0, c0, u0, hv0, hc0, hs0, hb0⟩

theorem sent_mem2 {W : World} {n : String} {text : List UInt8} {g : Nat} (hg : Tryz.prog.globalNamed n = some g) (ht : (Tryz.prog.globals[g]?).map (·.type) = some 26) :
    ∀ {l : List (String × DataW Unit)}, laidMet Tryz.prog l W → (n, .iface "*errors.errorString" (.ptr (.agg [.lit (.string text)]))) ∈ l →
      ∃ (a : Addr) (s : ByteArray) (c : Array Value) (t : TypeId), W.var? Tryz.prog n = some #[.iface 406 (.pointer (some a))] ∧ W.cell? a = some (.string s) ∧ s.data.toList = text ∧ W.heap[a.block]? = some (.cells c t (0, 0))
  | [], _, hm => by cases hm
  | x :: r, h, hm => by
    rcases List.mem_cons.1 hm with e | hm
    · rw [← e] at h
      exact laid_sentinel2 h hg ht Tryz.underlying26 row406 Tryz.underlying406 Tryz.underlying408 rfl rfl Tryz.underlying9 (by kernel_rfl) (by kernel_rfl)
    · exact sent_mem2 hg ht h.tail hm

theorem rtype_is : (Tryz.prog.cutTypes.find? (·.1 == "internal/reflectlite.rtype")).map (·.2) = some 300 := by kernel_rfl
theorem one_row : ((List.range 435).filter fun t => Tryz.prog.rowNamed t [101, 114, 114, 111, 114]) = [26] := by kernel_rfl
theorem types_size : Tryz.prog.types.size = 435 := by kernel_rfl

/-- The handle of 'error'. -/
theorem handle_of {W : World} {hs : List (String × DataW Unit)} (h : handlesMet Tryz.prog hs W) (hm : ("errors.errorType", Rows.laid_errors_errorType) ∈ hs) :
    W.cell? ⟨7, 0, none⟩ = some (.iface 300 (.agg #[.pointer (some ⟨16, 26, none⟩)])) := by
  obtain ⟨name, u, ty, e1, e2, e3, e4, e5⟩ := h _ hm
  have en : name = [101, 114, 114, 111, 114] := (Option.some.inj e1).symm
  subst en
  obtain rfl := Option.some.inj (rtype_is.symm.trans e2)
  have hm : ty ∈ (List.range 435).filter fun t => Tryz.prog.rowNamed t [101, 114, 114, 111, 114] := List.mem_filter.2 ⟨List.mem_range.2 (by rw [← types_size]; exact e3), e4⟩
  rw [one_row] at hm
  obtain rfl := List.mem_singleton.1 hm
  have hh : typeHandle Tryz.prog 26 = .pointer (some ⟨16, 26, none⟩) := by kernel_rfl
  rw [hh] at e5
  simpa using World.var?_cell (g := 7) (by kernel_rfl) e5 0

theorem in_f {x : String × DataW Unit} (h : x ∈ Rows.patternReadRow.laid) (h2 : x.2.handleName?.isNone = true) : x ∈ Rows.patternReadRow.laid.filter fun x => x.2.handleName?.isNone := List.mem_filter.2 ⟨h, h2⟩

/-- WHAT THE ROW's LIST GIVES. -/
theorem envX_of {W : World} (h : laidMetH Tryz.prog Rows.patternReadRow.laid W) : ∃ eb es, Env 406 eb es W ∧ EnvX eb es W := by
  obtain ⟨h1, h2⟩ := laidMetH_iff.1 h
  have m0 := in_f (x := ("grammarsmith/api.ErrBound", Rows.laid_grammarsmith_api_ErrBound)) (by simp [Rows.patternReadRow]) rfl
  have m1 := in_f (x := ("grammarsmith/api.ErrSyntax", Rows.laid_grammarsmith_api_ErrSyntax)) (by simp [Rows.patternReadRow]) rfl
  have m2 := in_f (x := ("grammarsmith/api.ErrRule", Rows.laid_grammarsmith_api_ErrRule)) (by simp [Rows.patternReadRow]) rfl
  have m3 := in_f (x := ("grammarsmith/api.ErrName", Rows.laid_grammarsmith_api_ErrName)) (by simp [Rows.patternReadRow]) rfl
  have m4 := in_f (x := ("grammarsmith/api.ErrType", Rows.laid_grammarsmith_api_ErrType)) (by simp [Rows.patternReadRow]) rfl
  have m5 := in_f (x := ("grammarsmith/api.ErrConflict", Rows.laid_grammarsmith_api_ErrConflict)) (by simp [Rows.patternReadRow]) rfl
  have m6 := in_f (x := ("grammarsmith/api.ErrEnd", Rows.laid_grammarsmith_api_ErrEnd)) (by simp [Rows.patternReadRow]) rfl
  have m8 := in_f (x := ("unicode/utf8.first", Rows.laid_unicode_utf8_first)) (by simp [Rows.patternReadRow]) rfl
  have m9 := in_f (x := ("unicode/utf8.acceptRanges", Rows.laid_unicode_utf8_acceptRanges)) (by simp [Rows.patternReadRow]) rfl
  have mr := in_f (x := ("strconv.ErrRange", Rows.laid_strconv_ErrRange)) (by simp [Rows.patternReadRow]) rfl
  have mh : ("errors.errorType", (Rows.laid_errors_errorType : DataW Unit)) ∈ Rows.patternReadRow.laid.filter fun x => x.2.handleName?.isSome := List.mem_filter.2 ⟨by simp [Rows.patternReadRow], rfl⟩
  obtain ⟨eb, sb, cb, tb, hb0, hb1, hb2, hb3⟩ := sent_mem2 (g := 0) (by kernel_rfl) (by kernel_rfl) h1 m0
  obtain ⟨es, ss, cs, ts, hs0, hs1, hs2, hs3⟩ := sent_mem2 (g := 1) (by kernel_rfl) (by kernel_rfl) h1 m1
  obtain ⟨a2, _, _, _, k2, _⟩ := sent_mem2 (g := 2) (by kernel_rfl) (by kernel_rfl) h1 m2
  obtain ⟨a3, _, _, _, k3, _⟩ := sent_mem2 (g := 3) (by kernel_rfl) (by kernel_rfl) h1 m3
  obtain ⟨a4, _, _, _, k4, _⟩ := sent_mem2 (g := 4) (by kernel_rfl) (by kernel_rfl) h1 m4
  obtain ⟨a5, _, _, _, k5, _⟩ := sent_mem2 (g := 5) (by kernel_rfl) (by kernel_rfl) h1 m5
  obtain ⟨a6, _, _, _, k6, _⟩ := sent_mem2 (g := 6) (by kernel_rfl) (by kernel_rfl) h1 m6
  obtain ⟨er, _, _, _, hr, _⟩ := sent_mem2 (g := 15) (by kernel_rfl) (by kernel_rfl) h1 mr
  obtain ⟨t, fr, hh⟩ := var_heap (g := 15) (by kernel_rfl) hr
  refine ⟨eb, es, ⟨tabs_of h1 m8 m9, World.var?_cell (by kernel_rfl) hb0 0, World.var?_cell (by kernel_rfl) hs0 0, 406, _, t, fr, hh⟩,
    ⟨handle_of h2 mh, ⟨a2, World.var?_cell (by kernel_rfl) k2 0⟩, ⟨a3, World.var?_cell (by kernel_rfl) k3 0⟩, ⟨a4, World.var?_cell (by kernel_rfl) k4 0⟩, ⟨a5, World.var?_cell (by kernel_rfl) k5 0⟩, ⟨a6, World.var?_cell (by kernel_rfl) k6 0⟩, ?_, ⟨cb, tb, hb3⟩, ⟨cs, ts, hs3⟩⟩⟩
  intro e
  subst e
  rw [hb1] at hs1
  cases hs1
  exact absurd (hb2.symm.trans hs2) (by decide)

def sentT : List (List UInt8) := [[109, 111, 114, 101, 32, 116, 104, 97, 110, 32, 109, 97, 121, 32, 98, 101], [110, 111, 116, 32, 111, 102, 32, 116, 104, 101, 32, 102, 111, 114, 109, 32, 97, 115, 107, 101, 100], [118, 97, 108, 117, 101, 32, 111, 117, 116, 32, 111, 102, 32, 114, 97, 110, 103, 101], [105, 110, 118, 97, 108, 105, 100, 32, 115, 121, 110, 116, 97, 120],
  [97, 32, 114, 117, 108, 101, 32, 116, 104, 97, 116, 32, 99, 97, 110, 32, 110, 111, 116, 32, 115, 116, 97, 110, 100],
  [97, 32, 110, 97, 109, 101, 32, 116, 104, 97, 116, 32, 105, 115, 32, 110, 111, 110, 101, 44, 32, 111, 114, 32, 105, 115, 32, 116, 104, 101, 114, 101, 32, 97, 108, 114, 101, 97, 100, 121],
  [97, 32, 118, 97, 108, 117, 101, 32, 111, 102, 32, 97, 110, 111, 116, 104, 101, 114, 32, 116, 121, 112, 101],
  [97, 110, 32, 97, 99, 116, 105, 111, 110, 32, 105, 115, 32, 110, 111, 116, 32, 100, 101, 99, 105, 100, 101, 100],
  [110, 111, 32, 115, 101, 110, 116, 101, 110, 99, 101]]

/-- THE WITNESS: the settled world with nine blocks more (the errors' structs), the listed variables holding what their initialisers lay. -/
noncomputable def laidWorld (os : Os) : World :=
  let N := (World.settled Tryz.prog os).heap.size
  let w0 := World.holding Tryz.prog os ⟨(sentT.map fun s => Obj.cells #[.string ⟨s.toArray⟩] 408).toArray, #[], []⟩
  let put (h : Array Obj) (g : Nat) (cs : Array Value) : Array Obj := h.modify g fun
    | .cells _ t frozen => .cells cs t frozen
    | o => o
  let e (h : Array Obj) (g k : Nat) : Array Obj := put h g #[.iface 406 (.pointer (some ⟨N + k, 0, none⟩))]
  let h0 := e (e (e (e w0.heap 0 0) 1 1) 15 2) 14 3
  let h1 := e (e (e (e (e h0 2 4) 3 5) 4 6) 5 7) 6 8
  let h2 := put h1 8 (Lib.firstTab.map fun z => Value.int .u8 z).toArray
  let h3 := put h2 9 ((List.range 16).flatMap fun i => [Value.int .u8 (Lib.accLo i), Value.int .u8 (Lib.accHi i)]).toArray
  let h4 := put h3 13 (bru.map fun z => Value.int .u8 z).toArray
  let h5 := put h4 12 ([0, 1, 28, 2, 29, 14, 24, 3, 30, 22, 20, 15, 25, 17, 4, 8, 31, 27, 13, 23, 21, 19, 16, 7, 26, 12, 18, 6, 11, 5, 10, 9].map fun z => Value.int .u8 z).toArray
  let h6 := put h5 11 ((List.range 20).map fun i => Value.int .u64 (10 ^ i : Nat)).toArray
  let h7 := put h6 7 #[.iface 300 (.agg #[.pointer (some ⟨16, 26, none⟩)])]
  { w0 with heap := h7 }

noncomputable def N0 : Nat := (World.settled Tryz.prog default).heap.size
theorem laid_data (os : Os) (args : Array Value) : laidMet Tryz.prog (Rows.patternReadRow.laid.filter fun x => x.2.handleName?.isNone) ((laidWorld os).forCall (fun _ _ => 0) ⟨#[], args, []⟩).memory :=
  (LaidIn.of_run [12, 13, 11, 9, 1, N0 + 1, 0, N0, 2, N0 + 4, 3, N0 + 5, 4, N0 + 6, 5, N0 + 7, 6, N0 + 8, 15, N0 + 2, 14, N0 + 3, 8] 8 (by kernel_rfl) (by kernel_rfl) (by kernel_rfl) (by kernel_rfl)).met
theorem laid_met (os : Os) (args : Array Value) : laidMetH Tryz.prog Rows.patternReadRow.laid ((laidWorld os).forCall (fun _ _ => 0) ⟨#[], args, []⟩).memory :=
  laidMetH_of_parts (laid_data os args) (by kernel_rfl)

theorem prd_witness (os : Os) {H : Type} (enc : TypeId × Value → H) :
    (OpenSpec.ofChange Rows.patternReadSpec).preRow enc Tryz.prog Tryz.f5 Rows.patternReadRow.domain false Rows.patternReadRow.laid ((laidWorld os).forCall (fun _ _ => 0) ⟨#[], #[.string ⟨#[]⟩], []⟩).memory #[.string ⟨#[]⟩] := by
  have hw : (DataW.whole enc Tryz.prog ((laidWorld os).forCall (fun _ _ => 0) ⟨#[], #[.string ⟨#[]⟩], []⟩).memory Tryz.f5.params.toList Rows.patternReadSpec.vars false #[Value.string ⟨#[]⟩].toList 8).map (fun x => (x.1, x.2.1)) =
      some ([.lit (.string [])], []) := by kernel_rfl
  obtain ⟨⟨x1, x2, x3⟩, hx, hx1⟩ := Option.map_eq_some_iff.1 hw
  simp only [Prod.mk.injEq] at hx1
  obtain ⟨rfl, rfl⟩ := hx1
  exact OpenSpec.preRow_of_cond 8 hx (by kernel_rfl) (fun k hk => by cases hk) (by kernel_rfl) (laid_met os _)

set_option maxRecDepth 100000 in
theorem prd_contract (H : Type) (enc : TypeId × Value → H) (W : World) (base : Nat) (args : Array Value) (ds gs : List (DataW H)) (before : List MemPlace)
    (hval0 : ∀ (j : Nat) t v, Tryz.f5.params[j]? = some t → args[j]? = some v → Value.okWide Tryz.prog W .any base t v)
    (hW : DataW.Whole enc Tryz.prog Tryz.f5.params.toList Rows.patternReadSpec.vars false W args.toList ds gs before) (hL : laidMetH Tryz.prog Rows.patternReadRow.laid W) :
    Calls Tryz.prog 5 args W fun e W' => ∃ v, e = .returned v ∧ Rows.patternReadSpec.post enc Tryz.prog Tryz.f5 false true false false W args v W' := by
  have hval : ∀ (j : Nat) t v, Tryz.f5.params[j]? = some t → args[j]? = some v → Value.okWide Tryz.prog W .any base t v := hval0
  have hW' := hW
  obtain ⟨p, q, hA0, hV0, rfl, _, _⟩ := hW
  have hA : DataW.TrodAll enc Tryz.prog W 0 (fun _ => true) true Tryz.f5.params.toList args.toList ds p := hA0
  rw [Tryz.params5] at hA hval
  obtain ⟨v0, d0, rfl, rfl, h0⟩ := trodAll_one hA
  obtain ⟨rfl, rfl⟩ := trodVars_none hV0
  obtain ⟨s, rfl, rfl, rfl, ws⟩ := open_string Tryz.underlying9 (hval 0 9 v0 rfl rfl) h0
  clear hA0 hV0 hval0
  obtain ⟨eb, es, hE, hX⟩ := envX_of hL
  refine (patRead_any (s := s) hE hX (by unfold maxLen at ws; omega)).mono ?_
  rintro e W' ⟨rfl, hk⟩
  have bel := hk.below
  refine ⟨_, rfl, _, _, _, [], [], [], hW', ?_, ?_, ?_, bel.frame _, fun h => by cases h⟩
  · exact trodAll_mk1 (shut_bool Tryz.underlying4 _)
  · exact trodAll_mk1 (shut_string Tryz.underlying9 ws)
  · rfl

set_option maxRecDepth 100000 in
set_option maxHeartbeats 2000000 in
theorem prd_lifted (os : Os) (started : os.Started) (H : Type) (enc : TypeId × Value → H) (F : Stop.Interp) :
    ReturnsInHanded {} Tryz.checked os 5 .any ((OpenSpec.ofChange Rows.patternReadSpec).preRow enc Tryz.prog Tryz.f5 Rows.patternReadRow.domain false Rows.patternReadRow.laid) (((OpenSpec.ofChange Rows.patternReadSpec).at F).post enc Tryz.prog Tryz.f5 false true false false) := by
  refine returnsInHanded_of_row (C := Tryz.checked) (s := OpenSpec.ofChange Rows.patternReadSpec) own started (by kernel_rfl) Tryz.func5
    (witness_row_atRef (enc := enc) (C := Tryz.checked) false (laidWorld os) #[.string ⟨#[]⟩] rfl (by kernel_rfl) (by kernel_rfl) (by kernel_rfl) (prd_witness os enc)) ?_
  intro W base args ds gs before hval0 hW _ _ _ hL _ _
  exact prd_contract H enc W base args ds gs before hval0 hW hL
end Go.Proofs.YtoijabgcgdgacaaGreatDoor
