/-
  WALKS, w: a pattern's shape.
  WALKS, x: a pattern's shape, joined.
  WALKS, y: pattern.Ok.
-/
import Derived.Test.YtoijabgcgdgacaaGreatDoorGH
namespace Go.Proofs.YtoijabgcgdgacaaGreatDoor
open Go.RowKit Go.Proofs.Gram Go.Lib

def ShC (t : Rx) : Prop := ∀ (d : Nat) (v : Value) (okk : Nat → Prop) (w : World), d ≤ 31 → IsRe w okk v t → Small t →
  Calls Tryz.prog 54 #[v, .int .i64 d] w fun e w' => ∃ bl, e = .returned (.bool bl) ∧ (bl = true ↔ Shp d t) ∧ Kp noB w w'

/-- points.Canon and slices.Equal, one behind the other, in any world that has grown. -/
theorem canon_fits {okk : Nat → Prop} {v : Value} {l : List (Int × Int)} {w : World} (hr : Rngs w okk v l) (hsz : l.length ≤ 16777216) (W : World) (hk : Kp noB w W) :
    Calls Tryz.prog 114 #[v] W fun e w' => ∃ u, e = .returned u ∧ Rngs w' (fun k => W.heap.size ≤ k) u (canonOf (inR l)) ∧ Kp noB W w' := canon_any v l okk W (Cells.kp hr hk fun _ _ _ => noB_not _) hsz

set_option maxRecDepth 100000 in
theorem shaped_nil (d : Nat) (w : World) : Calls Tryz.prog 54 #[.pointer none, .int .i64 d] w fun e w' => e = .returned (.bool false) ∧ Kp noB w w' := by
  go_enter Tryz.func54, Tryz.ntmps54
  go_wp2_with fail
  go_quiet (fail)
  go_wp2_with fail
  go_ret
  exact ⟨rfl, (Kp.refl _ _).drewN _⟩

/-- What is left to be asked, and how it ends. -/
def SP (kind : Int) (set : List (Int × Int)) (mn mx : Int) (kids : List Rx) (d : Nat) (w : World) (e : Ending) (w' : World) : Prop :=
  ∃ bl, e = .returned (.bool bl) ∧ (bl = true ↔ canonOf (inR set) = set ∧ (if kind = 6 then timesOk mn mx else mn = 0 ∧ mx = 0) ∧ ShpL (d + 1) kids) ∧ Kp noB w w'

section
variable {w : World} {b d : Nat} {kind mn mx : Int} {sv kv : Value} {n : Nat}

set_option maxRecDepth 100000 in
theorem shaped_deep (hd : 30 < d) : Calls Tryz.prog 54 #[.pointer (some ⟨b, 0, none⟩), .int .i64 d] w fun e w' => e = .returned (.bool false) ∧ Kp noB w w' := by
  have hb : decide ((d : Int) > 30) = true := decide_eq_true (by omega)
  clear hd
  go_enter Tryz.func54, Tryz.ntmps54
  go_wp2_with fail
  go_quiet (fail)
  go_wp2_with fail
  go_ret
  exact ⟨rfl, (Kp.refl _ _).drewN _⟩

set_option maxRecDepth 100000 in
theorem shaped_count (hd : d ≤ 30) (hb0 : w.cell? ⟨b, 0, none⟩ = some (.int .i64 kind)) {A : Option Addr} {cap : Nat} (hb4 : w.cell? ⟨b, 4, none⟩ = some (.slice A n cap)) (hc : ¬ cntOk kind n) :
    Calls Tryz.prog 54 #[.pointer (some ⟨b, 0, none⟩), .int .i64 d] w fun e w' => e = .returned (.bool false) ∧ Kp noB w w' := by
  have hb : decide ((d : Int) > 30) = false := decide_eq_false (by omega)
  have HC := fun W => counts_any kind n W
  rw [decide_eq_false hc] at HC
  have HC := Lib.hid HC
  clear hd hc
  go_enter Tryz.func54, Tryz.ntmps54
  go_wp2_with fail
  go_quiet ((go_at_call 112; refine Calls.quiet_of_same (HC.out _)))
  go_wp2_with fail
  go_ret
  exact ⟨rfl, (Kp.refl _ _).drewN _⟩

set_option maxRecDepth 100000 in
theorem shaped_set (hd : d ≤ 30) (hb0 : w.cell? ⟨b, 0, none⟩ = some (.int .i64 kind)) {A : Option Addr} {cap : Nat} (hb4 : w.cell? ⟨b, 4, none⟩ = some (.slice A n cap)) (hc : cntOk kind n)
    {A2 : Option Addr} {cap2 n2 : Nat} (hb1 : w.cell? ⟨b, 1, none⟩ = some (.slice A2 n2 cap2)) (h1 : kind ≠ 1) (h2 : n2 ≠ 0) :
    Calls Tryz.prog 54 #[.pointer (some ⟨b, 0, none⟩), .int .i64 d] w fun e w' => e = .returned (.bool false) ∧ Kp noB w w' := by
  have hb : decide ((d : Int) > 30) = false := decide_eq_false (by omega)
  have hbk : (kind != (1 : Int)) = true := by simp [h1]
  have hbn : decide ((n2 : Int) > 0) = true := decide_eq_true (by omega)
  have hbn2 : decide (0 < n2) = true := decide_eq_true (by omega)
  have hbn3 : 0 < n2 := by omega
  have hbn4 : (0 : Int) < n2 := by omega
  have HC := fun W => counts_any kind n W
  rw [decide_eq_true hc] at HC
  have HC := Lib.hid HC
  clear hd hc h1 h2
  go_enter Tryz.func54, Tryz.ntmps54
  go_wp2_with fail
  go_quiet ((go_at_call 112; refine Calls.quiet_of_same (HC.out _)))
  go_wp2_with fail
  go_quiet (fail)
  go_wp2_with fail
  go_ret
  exact ⟨rfl, ((Kp.refl _ _).drewN _).drewN _⟩

set_option maxRecDepth 100000 in
set_option maxHeartbeats 4000000 in
theorem shaped_rest {okk : Nat → Prop} {set : List (Int × Int)} (hd : d ≤ 30) (hb0 : w.cell? ⟨b, 0, none⟩ = some (.int .i64 kind)) {A : Option Addr} {cap : Nat} (hb4 : w.cell? ⟨b, 4, none⟩ = some (.slice A n cap)) (hc : cntOk kind n)
    {A2 : Option Addr} {cap2 : Nat} (hb1 : w.cell? ⟨b, 1, none⟩ = some (.slice A2 set.length cap2)) (h1 : kind = 1 ∨ set = []) (hr : Rngs w okk (.slice A2 set.length cap2) set) (hs : set.length ≤ 16777216)
    (hb2 : w.cell? ⟨b, 2, none⟩ = some (.int .i64 mn)) (hb3 : w.cell? ⟨b, 3, none⟩ = some (.int .i64 mx)) {kids : List Rx} (hnk : n = kids.length) (hnl : n ≤ 9223372036854775807)
    (HKC : Hid (∀ k t, kids[k]? = some t → ∃ g off u, A = some ⟨g, off, none⟩ ∧ g < w.heap.size ∧ w.cell? ⟨g, off + k, none⟩ = some u ∧
      ∀ W, Kp noB w W → Calls Tryz.prog 54 #[u, .int .i64 ((d : Int) + 1)] W fun e w' => ∃ bl, e = .returned (.bool bl) ∧ (bl = true ↔ Shp (d + 1) t) ∧ Kp noB W w')) :
    Calls Tryz.prog 54 #[.pointer (some ⟨b, 0, none⟩), .int .i64 d] w fun e w' => SP kind set mn mx kids d w e w' := by
  have HDW := Lib.hid (by rw [IntKind.wrap_i64]; omega : IntKind.i64.wrap ((d : Int) + 1) = (d : Int) + 1)
  have HNK := Lib.hid hnk
  have HNL := Lib.hid hnl
  clear hnk hnl
  obtain ⟨bq, HBQ⟩ : ∃ bq, Hid (decide (canonOf (inR set) = set) = bq) := ⟨_, rfl⟩
  have hb : decide ((d : Int) > 30) = false := decide_eq_false (by omega)
  have hdd : (kind != (1 : Int)) = false ∨ ((kind != (1 : Int)) = true ∧ set.length = 0) := by
    rcases h1 with rfl | rfl
    · exact .inl rfl
    · by_cases h : kind = 1
      · exact .inl (by simp [h])
      · exact .inr ⟨by simp [h], rfl⟩
  have HC := fun W => counts_any kind n W
  rw [decide_eq_true hc] at HC
  have HC := Lib.hid HC
  have HCAN := Lib.hid (canon_fits hr hs)
  have HEQ := Lib.hid (fun (W w1 : World) (u : Value) (hk : Kp noB w w1) (hu : Rngs w1 (fun k => W.heap.size ≤ k) u (canonOf (inR set))) (hul : (canonOf (inR set)).length ≤ 16777217) => equal_any u _ _ _ _ okk w1 hu (Cells.kp hr hk fun _ _ _ => noB_not _) hul (by omega))
  rw [HBQ.out] at HEQ
  have hul : (canonOf (inR set)).length ≤ 16777217 := by have := (canonOf_canon set).2.2; omega
  have HUL := Lib.hid hul
  have hblt : b < w.heap.size := World.block_lt_of_cell? w _ hb0
  clear hd hc h1 hr hul
  go_enter Tryz.func54, Tryz.ntmps54
  go_wp2_with fail
  go_quiet ((go_at_call 112; refine Calls.quiet_of_same (HC.out _)))
  go_wp2_with fail
  obtain ⟨W, HW⟩ : ∃ W, Hid (w.drewN nq = W) := ⟨_, rfl⟩
  have hkW : Kp noB w W := by rw [← HW.out]; exact (Kp.refl _ _).drewN _
  have hb0W := hkW.cell hb0 (noB_not _)
  have hb1W := hkW.cell hb1 (noB_not _)
  have hb4W := hkW.cell hb4 (noB_not _)
  rw [HW.out]
  rcases hdd with hd1 | ⟨hd1, hd2⟩
  · refine wp_region_held_drew (S := fun w' => Kp noB W w') (by kernel_rfl) (Kp.refl _ _).drew (fun hHeld => ?_)
    refine wpAnyH_take (i := 0) (oi := _) (v := (.pointer (some ⟨b, 0, none⟩))) rfl (by kernel_rfl) (by kernel_rfl) (by kernel_rfl) (fun _ _ _ h => h) (Or.inl ⟨by kernel_rfl, fun w' hS => by have g0 := hS.cell hb0W (noB_not _); have g1 := hS.cell hb1W (noB_not _); go_simp⟩) (by assumption) ?_
    simp only [Act.put, List.setIfInBounds_toArray]
    refine wpAnyH_take (i := 1) (oi := _) (v := (.pointer (some ⟨b, 0, none⟩))) rfl (by kernel_rfl) (by kernel_rfl) (by kernel_rfl) (fun _ _ _ h => h) (Or.inl ⟨by kernel_rfl, fun w' hS => by have g0 := hS.cell hb0W (noB_not _); have g1 := hS.cell hb1W (noB_not _); go_simp⟩) (by assumption) ?_
    simp only [Act.put]
    refine wpAnyH_take (i := 2) (oi := _) (v := (.pointer (some ⟨b, 0, none⟩))) rfl (by kernel_rfl) (by kernel_rfl) (by kernel_rfl) (fun _ _ _ h => h) (Or.inl ⟨by kernel_rfl, fun w' hS => by have g0 := hS.cell hb0W (noB_not _); have g1 := hS.cell hb1W (noB_not _); go_simp⟩) (by assumption) ?_
    simp only [Act.put]
    refine wpAnyH_take (i := 3) (oi := _) (v := (.int .i64 kind)) rfl (by kernel_rfl) (by kernel_rfl) (by kernel_rfl) (fun _ _ _ h => h) (Or.inl ⟨by kernel_rfl, fun w' hS => by have g0 := hS.cell hb0W (noB_not _); have g1 := hS.cell hb1W (noB_not _); go_simp⟩) (by assumption) ?_
    simp only [Act.put]
    refine wpAnyH_take (i := 4) (oi := _) (v := (.bool false)) rfl (by kernel_rfl) (by kernel_rfl) (by kernel_rfl) (fun _ _ _ h => h) (Or.inl ⟨by kernel_rfl, fun w' hS => by have g0 := hS.cell hb0W (noB_not _); have g1 := hS.cell hb1W (noB_not _); go_simp⟩) (by assumption) ?_
    simp only [Act.put]
    refine wpAnyH_take (i := 5) (oi := _) (v := (.bool false)) rfl (by kernel_rfl) (by kernel_rfl) (by kernel_rfl) (fun _ _ _ h => h) (Or.inl ⟨by kernel_rfl, fun w' hS => by have g0 := hS.cell hb0W (noB_not _); have g1 := hS.cell hb1W (noB_not _); go_simp⟩) (by assumption) ?_
    simp only [Act.put]
    refine wpAnyH_take (i := 6) (oi := _) (v := undef) rfl (by kernel_rfl) (by kernel_rfl) (by kernel_rfl) (fun _ _ _ h => h) (Or.inr ⟨by kernel_rfl, rfl⟩) (by assumption) ?_
    simp only [Act.put]
    refine wpAnyH_take (i := 7) (oi := _) (v := undef) rfl (by kernel_rfl) (by kernel_rfl) (by kernel_rfl) (fun _ _ _ h => h) (Or.inr ⟨by kernel_rfl, rfl⟩) (by assumption) ?_
    simp only [Act.put]
    refine wpAnyH_take (i := 8) (oi := _) (v := undef) rfl (by kernel_rfl) (by kernel_rfl) (by kernel_rfl) (fun _ _ _ h => h) (Or.inr ⟨by kernel_rfl, rfl⟩) (by assumption) ?_
    simp only [Act.put]
    refine wpAnyH_take (i := 9) (oi := _) (v := undef) rfl (by kernel_rfl) (by kernel_rfl) (by kernel_rfl) (fun _ _ _ h => h) (Or.inr ⟨by kernel_rfl, rfl⟩) (by assumption) ?_
    simp only [Act.put]
    refine wpAnyH_take (i := 10) (oi := _) (v := undef) rfl (by kernel_rfl) (by kernel_rfl) (by kernel_rfl) (fun _ _ _ h => h) (Or.inr ⟨by kernel_rfl, rfl⟩) (by assumption) ?_
    simp only [Act.put]
    refine wpAnyH_take (i := 11) (oi := _) (v := undef) rfl (by kernel_rfl) (by kernel_rfl) (by kernel_rfl) (fun _ _ _ h => h) (Or.inr ⟨by kernel_rfl, rfl⟩) (by assumption) ?_
    simp only [Act.put]
    refine wpAnyH_take (i := 12) (oi := _) (v := (.bool false)) rfl (by kernel_rfl) (by kernel_rfl) (by kernel_rfl) (fun _ _ _ h => h) (Or.inl ⟨by kernel_rfl, fun w' hS => by have g0 := hS.cell hb0W (noB_not _); have g1 := hS.cell hb1W (noB_not _); go_simp⟩) (by assumption) ?_
    simp only [Act.put]
    refine wpAnyH_take (i := 13) (oi := _) (v := (.bool false)) rfl (by kernel_rfl) (by kernel_rfl) (by kernel_rfl) (fun _ _ _ h => h) (Or.inl ⟨by kernel_rfl, fun w' hS => by have g0 := hS.cell hb0W (noB_not _); have g1 := hS.cell hb1W (noB_not _); go_simp⟩) (by assumption) ?_
    simp only [Act.put]
    refine wpAnyH_take (i := 14) (oi := _) (v := (.pointer (some ⟨b, 0, none⟩))) rfl (by kernel_rfl) (by kernel_rfl) (by kernel_rfl) (fun _ _ _ h => h) (Or.inl ⟨by kernel_rfl, fun w' hS => by have g0 := hS.cell hb0W (noB_not _); have g1 := hS.cell hb1W (noB_not _); go_simp⟩) (by assumption) ?_
    simp only [Act.put]
    refine wpAnyH_take (i := 15) (oi := _) (v := (.pointer (some ⟨b, 0, none⟩))) rfl (by kernel_rfl) (by kernel_rfl) (by kernel_rfl) (fun _ _ _ h => h) (Or.inl ⟨by kernel_rfl, fun w' hS => by have g0 := hS.cell hb0W (noB_not _); have g1 := hS.cell hb1W (noB_not _); go_simp⟩) (by assumption) ?_
    simp only [Act.put]
    refine wpAnyH_take (i := 16) (oi := _) (v := (.pointer (some ⟨b, 1, none⟩))) rfl (by kernel_rfl) (by kernel_rfl) (by kernel_rfl) (fun _ _ _ h => h) (Or.inl ⟨by kernel_rfl, fun w' hS => by have g0 := hS.cell hb0W (noB_not _); have g1 := hS.cell hb1W (noB_not _); go_simp⟩) (by assumption) ?_
    simp only [Act.put]
    refine wpAnyH_take (i := 17) (oi := _) (v := (.slice A2 set.length cap2)) rfl (by kernel_rfl) (by kernel_rfl) (by kernel_rfl) (fun _ _ _ h => h) (Or.inl ⟨by kernel_rfl, fun w' hS => by have g0 := hS.cell hb0W (noB_not _); have g1 := hS.cell hb1W (noB_not _); go_simp⟩) (by assumption) ?_
    simp only [Act.put]
    refine wpAnyH_take (i := 19) (oi := _) (v := (.pointer (some ⟨b, 0, none⟩))) rfl (by kernel_rfl) (by kernel_rfl) (by kernel_rfl) (fun _ _ _ h => h) (Or.inl ⟨by kernel_rfl, fun w' hS => by have g0 := hS.cell hb0W (noB_not _); have g1 := hS.cell hb1W (noB_not _); go_simp⟩) (by assumption) ?_
    simp only [Act.put]
    refine wpAnyH_take (i := 20) (oi := _) (v := (.pointer (some ⟨b, 0, none⟩))) rfl (by kernel_rfl) (by kernel_rfl) (by kernel_rfl) (fun _ _ _ h => h) (Or.inl ⟨by kernel_rfl, fun w' hS => by have g0 := hS.cell hb0W (noB_not _); have g1 := hS.cell hb1W (noB_not _); go_simp⟩) (by assumption) ?_
    simp only [Act.put]
    refine wpAnyH_take (i := 21) (oi := _) (v := (.pointer (some ⟨b, 1, none⟩))) rfl (by kernel_rfl) (by kernel_rfl) (by kernel_rfl) (fun _ _ _ h => h) (Or.inl ⟨by kernel_rfl, fun w' hS => by have g0 := hS.cell hb0W (noB_not _); have g1 := hS.cell hb1W (noB_not _); go_simp⟩) (by assumption) ?_
    simp only [Act.put]
    refine wpAnyH_take (i := 22) (oi := _) (v := (.slice A2 set.length cap2)) rfl (by kernel_rfl) (by kernel_rfl) (by kernel_rfl) (fun _ _ _ h => h) (Or.inl ⟨by kernel_rfl, fun w' hS => by have g0 := hS.cell hb0W (noB_not _); have g1 := hS.cell hb1W (noB_not _); go_simp⟩) (by assumption) ?_
    simp only [Act.put]
    refine wpAnyH_ready (rs := [18]) (by kernel_rfl) (by simp) ?_
    refine AllReadyH.cons (o := _) rfl (fun K hK => ?_) AllReadyH.nil
    rw [if_pos (by kernel_rfl)]
    go_simp
    refine (HCAN.out _ (hkW.trans hHeld)).mono ?_
    rintro e w1 ⟨u, rfl, hru, hk1⟩
    go_simp
    refine hK.out _ _ (hHeld.trans hk1) (fun hHeld1 => ?_)
    clear hK K
    try simp only [Act.put, List.setIfInBounds_toArray, List.set_cons_zero, List.set_cons_succ]
    refine wpAnyH_ready (rs := [23]) (by kernel_rfl) (by simp) ?_
    refine AllReadyH.cons (o := _) rfl (fun K hK => ?_) AllReadyH.nil
    rw [if_pos (by kernel_rfl)]
    go_simp
    refine (HEQ.out _ _ _ ((hkW.trans hHeld).trans hk1) hru HUL.out).mono ?_
    rintro e w2 ⟨rfl, q2, hw2⟩
    have hk12 : Kp noB w1 w2 := by rw [hw2]; exact (Kp.refl _ _).drewN _
    clear hw2
    go_simp
    refine hK.out _ _ (hHeld1.trans hk12) (fun hHeld2 => ?_)
    clear hK K
    try simp only [Act.put, List.setIfInBounds_toArray, List.set_cons_zero, List.set_cons_succ]
    cases bq with
    | false =>
      refine wpAnyH_take (i := 24) (oi := _) (v := (.bool true)) rfl (by kernel_rfl) (by kernel_rfl) (by kernel_rfl) (fun _ _ _ h => h) (Or.inl ⟨by kernel_rfl, fun w' hS => by have g0 := hS.cell hb0W (noB_not _); have g1 := hS.cell hb1W (noB_not _); go_simp⟩) (by assumption) ?_
      simp only [Act.put, List.setIfInBounds_toArray]
      refine wpAnyH_take (i := 25) (oi := _) (v := (.bool true)) rfl (by kernel_rfl) (by kernel_rfl) (by kernel_rfl) (fun _ _ _ h => h) (Or.inl ⟨by kernel_rfl, fun w' hS => by have g0 := hS.cell hb0W (noB_not _); have g1 := hS.cell hb1W (noB_not _); go_simp⟩) (by assumption) ?_
      simp only [Act.put]
      refine wpAnyH_done (by kernel_rfl) ?_ _
      have hk2 : Kp noB w w2 := (hkW.trans hHeld2)
      have c0 := hk2.cell hb0 (noB_not _)
      have c2 := hk2.cell hb2 (noB_not _)
      have c3 := hk2.cell hb3 (noB_not _)
      have c4 := hk2.cell hb4 (noB_not _)
      clear hHeld hHeld1 hHeld2 hk1 hru HEQ HCAN hb0W hb1W hb4W hb0 hb1 hb2 hb3 hb4 HUL HC
      have hnot : ¬ canonOf (inR set) = set := by have := HBQ.out; simpa using this
      have HN := Lib.hid hnot
      clear hnot
      go_wp2_with fail
      go_ret
      exact ⟨false, rfl, ⟨fun h => (by cases h), fun h => absurd h.1 HN.out⟩, hk2⟩
    | true =>
      refine wpAnyH_take (i := 24) (oi := _) (v := (.bool false)) rfl (by kernel_rfl) (by kernel_rfl) (by kernel_rfl) (fun _ _ _ h => h) (Or.inl ⟨by kernel_rfl, fun w' hS => by have g0 := hS.cell hb0W (noB_not _); have g1 := hS.cell hb1W (noB_not _); go_simp⟩) (by assumption) ?_
      simp only [Act.put, List.setIfInBounds_toArray]
      refine wpAnyH_take (i := 25) (oi := _) (v := (.bool false)) rfl (by kernel_rfl) (by kernel_rfl) (by kernel_rfl) (fun _ _ _ h => h) (Or.inl ⟨by kernel_rfl, fun w' hS => by have g0 := hS.cell hb0W (noB_not _); have g1 := hS.cell hb1W (noB_not _); go_simp⟩) (by assumption) ?_
      simp only [Act.put]
      refine wpAnyH_done (by kernel_rfl) ?_ _
      have hk2 : Kp noB w w2 := (hkW.trans hHeld2)
      have c0 := hk2.cell hb0 (noB_not _)
      have c2 := hk2.cell hb2 (noB_not _)
      have c3 := hk2.cell hb3 (noB_not _)
      have c4 := hk2.cell hb4 (noB_not _)
      clear hHeld hHeld1 hHeld2 hk1 hru HEQ HCAN hb0W hb1W hb4W hb0 hb1 hb2 hb3 hb4 HUL HC
      have hyes : canonOf (inR set) = set := by have := HBQ.out; simpa using this
      have HY := Lib.hid hyes
      clear hyes
      by_cases h6 : kind = 6
      · subst h6
        exact absurd hd1 (by decide)
      · have hb6 : (kind != (6 : Int)) = true := by simp [h6]
        by_cases hz : mn = 0 ∧ mx = 0
        · have HTM : Hid (if kind = 6 then timesOk mn mx else mn = 0 ∧ mx = 0) := Lib.hid (by rw [if_neg h6]; exact hz)
          have hm0 : (mn != (0 : Int)) = false := by simp [hz.1]
          have hx0 : (mx != (0 : Int)) = false := by simp [hz.2]
          clear hz h6
          have hnl := HNL.out
          go_wp2_with fail
          go_loopw [112] (fun c wr => ∃ k : Nat, k ≤ n ∧ c = .int .i64 k ∧ Kp noB w wr ∧ Hid (∀ (i : Nat) (t : Rx), i < k → kids[i]? = some t → Shp (d + 1) t)) (fun c _ => n - (intOf c).toNat)
          case atStart => exact ⟨0, Nat.zero_le _, rfl, hk2, Lib.hid fun i t h => absurd h (Nat.not_lt_zero _)⟩
          case round =>
            obtain ⟨k, hk, rfl, hkp, HALL⟩ := hrel
            rcases Nat.lt_or_ge k n with hlt | hge
            · have hb2 : decide ((k : Int) < (n : Int)) = true := decide_eq_true (by omega)
              obtain ⟨t, ht⟩ : ∃ t, kids[k]? = some t := ⟨kids[k]'(by rw [← HNK.out]; exact hlt), by simp⟩
              obtain ⟨g, off, u, rfl, hgl, hcu, hcall⟩ := HKC.out k t ht
              have hcu' := hkp.cell hcu (noB_not _)
              have HC := Lib.hid (hcall wr hkp)
              have HT := Lib.hid ht
              have hdw := HDW.out
              clear hcall hcu ht
              go_wp2_with fail
              refine HC.out.mono ?_
              rintro e w5 ⟨bl, rfl, hbl, hk5⟩
              cases bl with
              | false =>
                have HN : Hid (¬ Shp (d + 1) t) := Lib.hid fun h => (by have := hbl.2 h; cases this)
                clear hbl
                go_wp2_with fail
                go_ret
                exact ⟨false, rfl, ⟨fun h => (by cases h), fun h => absurd (shpL_iff.1 h.2.2 k t HT.out) HN.out⟩, hkp.trans hk5⟩
              | true =>
                have HS := Lib.hid (hbl.1 rfl)
                have HALL2 : Hid (∀ (i : Nat) (t : Rx), i < k + 1 → kids[i]? = some t → Shp (d + 1) t) := Lib.hid (by
                  intro i t' hi ht'
                  rcases Nat.lt_or_ge i k with h | h
                  · exact HALL.out i t' h ht'
                  · obtain rfl : i = k := by omega
                    rw [HT.out] at ht'
                    cases ht'
                    exact HS.out)
                clear hbl
                go_wp2_with fail
                go_roundw
                case rel => exact ⟨k + 1, by omega, by simp, hkp.trans hk5, HALL2⟩
                case measure => simp [intOf]; omega
            · obtain rfl : k = n := by omega
              have hb2 : decide ((k : Int) < (k : Int)) = false := decide_eq_false (by omega)
              have HL := Lib.hid (shpL_iff.2 fun i t ht => HALL.out i t (by have := (List.getElem?_eq_some_iff.1 ht).1; rw [HNK.out]; exact this) ht : ShpL (d + 1) kids)
              go_wp2_with fail
              go_ret
              exact ⟨true, rfl, ⟨fun _ => ⟨HY.out, HTM.out, HL.out⟩, fun _ => rfl⟩, hkp⟩
        · have hzz : ((mn != (0 : Int)) = true) ∨ ((mn != (0 : Int)) = false ∧ (mx != (0 : Int)) = true) := by
            by_cases h : mn = 0
            · exact .inr ⟨by simp [h], by simp; omega⟩
            · exact .inl (by simp [h])
          have HZ := Lib.hid (fun h => hz (by rw [if_neg h6] at h; exact h) : ¬ (if kind = 6 then timesOk mn mx else mn = 0 ∧ mx = 0))
          clear hz h6
          rcases hzz with q1 | ⟨q1, q2⟩
          · go_wp2_with fail
            go_ret
            exact ⟨false, rfl, ⟨fun h => (by cases h), fun h => absurd h.2.1 HZ.out⟩, hk2⟩
          · go_wp2_with fail
            go_ret
            exact ⟨false, rfl, ⟨fun h => (by cases h), fun h => absurd h.2.1 HZ.out⟩, hk2⟩
  · have hd3 : decide ((set.length : Int) > 0) = false := decide_eq_false (by omega)
    have hd4 : decide (0 < set.length) = false := decide_eq_false (by omega)
    clear hd2
    refine wp_region_held_drew (S := fun w' => Kp noB W w') (by kernel_rfl) (Kp.refl _ _).drew (fun hHeld => ?_)
    refine wpAnyH_take (i := 0) (oi := _) (v := (.pointer (some ⟨b, 0, none⟩))) rfl (by kernel_rfl) (by kernel_rfl) (by kernel_rfl) (fun _ _ _ h => h) (Or.inl ⟨by kernel_rfl, fun w' hS => by have g0 := hS.cell hb0W (noB_not _); have g1 := hS.cell hb1W (noB_not _); go_simp⟩) (by assumption) ?_
    simp only [Act.put, List.setIfInBounds_toArray]
    refine wpAnyH_take (i := 1) (oi := _) (v := (.pointer (some ⟨b, 0, none⟩))) rfl (by kernel_rfl) (by kernel_rfl) (by kernel_rfl) (fun _ _ _ h => h) (Or.inl ⟨by kernel_rfl, fun w' hS => by have g0 := hS.cell hb0W (noB_not _); have g1 := hS.cell hb1W (noB_not _); go_simp⟩) (by assumption) ?_
    simp only [Act.put]
    refine wpAnyH_take (i := 2) (oi := _) (v := (.pointer (some ⟨b, 0, none⟩))) rfl (by kernel_rfl) (by kernel_rfl) (by kernel_rfl) (fun _ _ _ h => h) (Or.inl ⟨by kernel_rfl, fun w' hS => by have g0 := hS.cell hb0W (noB_not _); have g1 := hS.cell hb1W (noB_not _); go_simp⟩) (by assumption) ?_
    simp only [Act.put]
    refine wpAnyH_take (i := 3) (oi := _) (v := (.int .i64 kind)) rfl (by kernel_rfl) (by kernel_rfl) (by kernel_rfl) (fun _ _ _ h => h) (Or.inl ⟨by kernel_rfl, fun w' hS => by have g0 := hS.cell hb0W (noB_not _); have g1 := hS.cell hb1W (noB_not _); go_simp⟩) (by assumption) ?_
    simp only [Act.put]
    refine wpAnyH_take (i := 4) (oi := _) (v := (.bool true)) rfl (by kernel_rfl) (by kernel_rfl) (by kernel_rfl) (fun _ _ _ h => h) (Or.inl ⟨by kernel_rfl, fun w' hS => by have g0 := hS.cell hb0W (noB_not _); have g1 := hS.cell hb1W (noB_not _); go_simp⟩) (by assumption) ?_
    simp only [Act.put]
    refine wpAnyH_take (i := 5) (oi := _) (v := (.bool true)) rfl (by kernel_rfl) (by kernel_rfl) (by kernel_rfl) (fun _ _ _ h => h) (Or.inl ⟨by kernel_rfl, fun w' hS => by have g0 := hS.cell hb0W (noB_not _); have g1 := hS.cell hb1W (noB_not _); go_simp⟩) (by assumption) ?_
    simp only [Act.put]
    refine wpAnyH_take (i := 6) (oi := _) (v := (.pointer (some ⟨b, 0, none⟩))) rfl (by kernel_rfl) (by kernel_rfl) (by kernel_rfl) (fun _ _ _ h => h) (Or.inl ⟨by kernel_rfl, fun w' hS => by have g0 := hS.cell hb0W (noB_not _); have g1 := hS.cell hb1W (noB_not _); go_simp⟩) (by assumption) ?_
    simp only [Act.put]
    refine wpAnyH_take (i := 7) (oi := _) (v := (.pointer (some ⟨b, 0, none⟩))) rfl (by kernel_rfl) (by kernel_rfl) (by kernel_rfl) (fun _ _ _ h => h) (Or.inl ⟨by kernel_rfl, fun w' hS => by have g0 := hS.cell hb0W (noB_not _); have g1 := hS.cell hb1W (noB_not _); go_simp⟩) (by assumption) ?_
    simp only [Act.put]
    refine wpAnyH_take (i := 8) (oi := _) (v := (.pointer (some ⟨b, 1, none⟩))) rfl (by kernel_rfl) (by kernel_rfl) (by kernel_rfl) (fun _ _ _ h => h) (Or.inl ⟨by kernel_rfl, fun w' hS => by have g0 := hS.cell hb0W (noB_not _); have g1 := hS.cell hb1W (noB_not _); go_simp⟩) (by assumption) ?_
    simp only [Act.put]
    refine wpAnyH_take (i := 9) (oi := _) (v := (.slice A2 set.length cap2)) rfl (by kernel_rfl) (by kernel_rfl) (by kernel_rfl) (fun _ _ _ h => h) (Or.inl ⟨by kernel_rfl, fun w' hS => by have g0 := hS.cell hb0W (noB_not _); have g1 := hS.cell hb1W (noB_not _); go_simp⟩) (by assumption) ?_
    simp only [Act.put]
    refine wpAnyH_take (i := 10) (oi := _) (v := (.int .i64 set.length)) rfl (by kernel_rfl) (by kernel_rfl) (by kernel_rfl) (fun _ _ _ h => h) (Or.inl ⟨by kernel_rfl, fun w' hS => by have g0 := hS.cell hb0W (noB_not _); have g1 := hS.cell hb1W (noB_not _); go_simp⟩) (by assumption) ?_
    simp only [Act.put]
    refine wpAnyH_take (i := 11) (oi := _) (v := (.bool false)) rfl (by kernel_rfl) (by kernel_rfl) (by kernel_rfl) (fun _ _ _ h => h) (Or.inl ⟨by kernel_rfl, fun w' hS => by have g0 := hS.cell hb0W (noB_not _); have g1 := hS.cell hb1W (noB_not _); go_simp⟩) (by assumption) ?_
    simp only [Act.put]
    refine wpAnyH_take (i := 12) (oi := _) (v := (.bool false)) rfl (by kernel_rfl) (by kernel_rfl) (by kernel_rfl) (fun _ _ _ h => h) (Or.inl ⟨by kernel_rfl, fun w' hS => by have g0 := hS.cell hb0W (noB_not _); have g1 := hS.cell hb1W (noB_not _); go_simp⟩) (by assumption) ?_
    simp only [Act.put]
    refine wpAnyH_take (i := 13) (oi := _) (v := (.bool false)) rfl (by kernel_rfl) (by kernel_rfl) (by kernel_rfl) (fun _ _ _ h => h) (Or.inl ⟨by kernel_rfl, fun w' hS => by have g0 := hS.cell hb0W (noB_not _); have g1 := hS.cell hb1W (noB_not _); go_simp⟩) (by assumption) ?_
    simp only [Act.put]
    refine wpAnyH_take (i := 14) (oi := _) (v := (.pointer (some ⟨b, 0, none⟩))) rfl (by kernel_rfl) (by kernel_rfl) (by kernel_rfl) (fun _ _ _ h => h) (Or.inl ⟨by kernel_rfl, fun w' hS => by have g0 := hS.cell hb0W (noB_not _); have g1 := hS.cell hb1W (noB_not _); go_simp⟩) (by assumption) ?_
    simp only [Act.put]
    refine wpAnyH_take (i := 15) (oi := _) (v := (.pointer (some ⟨b, 0, none⟩))) rfl (by kernel_rfl) (by kernel_rfl) (by kernel_rfl) (fun _ _ _ h => h) (Or.inl ⟨by kernel_rfl, fun w' hS => by have g0 := hS.cell hb0W (noB_not _); have g1 := hS.cell hb1W (noB_not _); go_simp⟩) (by assumption) ?_
    simp only [Act.put]
    refine wpAnyH_take (i := 16) (oi := _) (v := (.pointer (some ⟨b, 1, none⟩))) rfl (by kernel_rfl) (by kernel_rfl) (by kernel_rfl) (fun _ _ _ h => h) (Or.inl ⟨by kernel_rfl, fun w' hS => by have g0 := hS.cell hb0W (noB_not _); have g1 := hS.cell hb1W (noB_not _); go_simp⟩) (by assumption) ?_
    simp only [Act.put]
    refine wpAnyH_take (i := 17) (oi := _) (v := (.slice A2 set.length cap2)) rfl (by kernel_rfl) (by kernel_rfl) (by kernel_rfl) (fun _ _ _ h => h) (Or.inl ⟨by kernel_rfl, fun w' hS => by have g0 := hS.cell hb0W (noB_not _); have g1 := hS.cell hb1W (noB_not _); go_simp⟩) (by assumption) ?_
    simp only [Act.put]
    refine wpAnyH_take (i := 19) (oi := _) (v := (.pointer (some ⟨b, 0, none⟩))) rfl (by kernel_rfl) (by kernel_rfl) (by kernel_rfl) (fun _ _ _ h => h) (Or.inl ⟨by kernel_rfl, fun w' hS => by have g0 := hS.cell hb0W (noB_not _); have g1 := hS.cell hb1W (noB_not _); go_simp⟩) (by assumption) ?_
    simp only [Act.put]
    refine wpAnyH_take (i := 20) (oi := _) (v := (.pointer (some ⟨b, 0, none⟩))) rfl (by kernel_rfl) (by kernel_rfl) (by kernel_rfl) (fun _ _ _ h => h) (Or.inl ⟨by kernel_rfl, fun w' hS => by have g0 := hS.cell hb0W (noB_not _); have g1 := hS.cell hb1W (noB_not _); go_simp⟩) (by assumption) ?_
    simp only [Act.put]
    refine wpAnyH_take (i := 21) (oi := _) (v := (.pointer (some ⟨b, 1, none⟩))) rfl (by kernel_rfl) (by kernel_rfl) (by kernel_rfl) (fun _ _ _ h => h) (Or.inl ⟨by kernel_rfl, fun w' hS => by have g0 := hS.cell hb0W (noB_not _); have g1 := hS.cell hb1W (noB_not _); go_simp⟩) (by assumption) ?_
    simp only [Act.put]
    refine wpAnyH_take (i := 22) (oi := _) (v := (.slice A2 set.length cap2)) rfl (by kernel_rfl) (by kernel_rfl) (by kernel_rfl) (fun _ _ _ h => h) (Or.inl ⟨by kernel_rfl, fun w' hS => by have g0 := hS.cell hb0W (noB_not _); have g1 := hS.cell hb1W (noB_not _); go_simp⟩) (by assumption) ?_
    simp only [Act.put]
    refine wpAnyH_ready (rs := [18]) (by kernel_rfl) (by simp) ?_
    refine AllReadyH.cons (o := _) rfl (fun K hK => ?_) AllReadyH.nil
    rw [if_pos (by kernel_rfl)]
    go_simp
    refine (HCAN.out _ (hkW.trans hHeld)).mono ?_
    rintro e w1 ⟨u, rfl, hru, hk1⟩
    go_simp
    refine hK.out _ _ (hHeld.trans hk1) (fun hHeld1 => ?_)
    clear hK K
    try simp only [Act.put, List.setIfInBounds_toArray, List.set_cons_zero, List.set_cons_succ]
    refine wpAnyH_ready (rs := [23]) (by kernel_rfl) (by simp) ?_
    refine AllReadyH.cons (o := _) rfl (fun K hK => ?_) AllReadyH.nil
    rw [if_pos (by kernel_rfl)]
    go_simp
    refine (HEQ.out _ _ _ ((hkW.trans hHeld).trans hk1) hru HUL.out).mono ?_
    rintro e w2 ⟨rfl, q2, hw2⟩
    have hk12 : Kp noB w1 w2 := by rw [hw2]; exact (Kp.refl _ _).drewN _
    clear hw2
    go_simp
    refine hK.out _ _ (hHeld1.trans hk12) (fun hHeld2 => ?_)
    clear hK K
    try simp only [Act.put, List.setIfInBounds_toArray, List.set_cons_zero, List.set_cons_succ]
    cases bq with
    | false =>
      refine wpAnyH_take (i := 24) (oi := _) (v := (.bool true)) rfl (by kernel_rfl) (by kernel_rfl) (by kernel_rfl) (fun _ _ _ h => h) (Or.inl ⟨by kernel_rfl, fun w' hS => by have g0 := hS.cell hb0W (noB_not _); have g1 := hS.cell hb1W (noB_not _); go_simp⟩) (by assumption) ?_
      simp only [Act.put, List.setIfInBounds_toArray]
      refine wpAnyH_take (i := 25) (oi := _) (v := (.bool true)) rfl (by kernel_rfl) (by kernel_rfl) (by kernel_rfl) (fun _ _ _ h => h) (Or.inl ⟨by kernel_rfl, fun w' hS => by have g0 := hS.cell hb0W (noB_not _); have g1 := hS.cell hb1W (noB_not _); go_simp⟩) (by assumption) ?_
      simp only [Act.put]
      refine wpAnyH_done (by kernel_rfl) ?_ _
      have hk2 : Kp noB w w2 := (hkW.trans hHeld2)
      have c0 := hk2.cell hb0 (noB_not _)
      have c2 := hk2.cell hb2 (noB_not _)
      have c3 := hk2.cell hb3 (noB_not _)
      have c4 := hk2.cell hb4 (noB_not _)
      clear hHeld hHeld1 hHeld2 hk1 hru HEQ HCAN hb0W hb1W hb4W hb0 hb1 hb2 hb3 hb4 HUL HC
      have hnot : ¬ canonOf (inR set) = set := by have := HBQ.out; simpa using this
      have HN := Lib.hid hnot
      clear hnot
      go_wp2_with fail
      go_ret
      exact ⟨false, rfl, ⟨fun h => (by cases h), fun h => absurd h.1 HN.out⟩, hk2⟩
    | true =>
      refine wpAnyH_take (i := 24) (oi := _) (v := (.bool false)) rfl (by kernel_rfl) (by kernel_rfl) (by kernel_rfl) (fun _ _ _ h => h) (Or.inl ⟨by kernel_rfl, fun w' hS => by have g0 := hS.cell hb0W (noB_not _); have g1 := hS.cell hb1W (noB_not _); go_simp⟩) (by assumption) ?_
      simp only [Act.put, List.setIfInBounds_toArray]
      refine wpAnyH_take (i := 25) (oi := _) (v := (.bool false)) rfl (by kernel_rfl) (by kernel_rfl) (by kernel_rfl) (fun _ _ _ h => h) (Or.inl ⟨by kernel_rfl, fun w' hS => by have g0 := hS.cell hb0W (noB_not _); have g1 := hS.cell hb1W (noB_not _); go_simp⟩) (by assumption) ?_
      simp only [Act.put]
      refine wpAnyH_done (by kernel_rfl) ?_ _
      have hk2 : Kp noB w w2 := (hkW.trans hHeld2)
      have c0 := hk2.cell hb0 (noB_not _)
      have c2 := hk2.cell hb2 (noB_not _)
      have c3 := hk2.cell hb3 (noB_not _)
      have c4 := hk2.cell hb4 (noB_not _)
      clear hHeld hHeld1 hHeld2 hk1 hru HEQ HCAN hb0W hb1W hb4W hb0 hb1 hb2 hb3 hb4 HUL HC
      have hyes : canonOf (inR set) = set := by have := HBQ.out; simpa using this
      have HY := Lib.hid hyes
      clear hyes
      by_cases h6 : kind = 6
      · subst h6
        by_cases hz : timesOk mn mx
        · have HTM : Hid (if (6 : Int) = 6 then timesOk mn mx else mn = 0 ∧ mx = 0) := Lib.hid (by rw [if_pos rfl]; exact hz)
          unfold timesOk at hz
          have b1 : decide (mn < (0 : Int)) = false := decide_eq_false (by omega)
          have b2 : decide (mn > (50 : Int)) = false := decide_eq_false (by omega)
          by_cases hm : mx = -1
          · have b3 : (mx != (-1 : Int)) = false := by simp [hm]
            clear hz hm
            go_upto_region 8 with (fail)
            go_quiet (fail)
            have hk2 := hk2.drewN nq
            have hnl := HNL.out
            go_wp2_with fail
            go_loopw [112] (fun c wr => ∃ k : Nat, k ≤ n ∧ c = .int .i64 k ∧ Kp noB w wr ∧ Hid (∀ (i : Nat) (t : Rx), i < k → kids[i]? = some t → Shp (d + 1) t)) (fun c _ => n - (intOf c).toNat)
            case atStart => exact ⟨0, Nat.zero_le _, rfl, hk2, Lib.hid fun i t h => absurd h (Nat.not_lt_zero _)⟩
            case round =>
              obtain ⟨k, hk, rfl, hkp, HALL⟩ := hrel
              rcases Nat.lt_or_ge k n with hlt | hge
              · have hb2 : decide ((k : Int) < (n : Int)) = true := decide_eq_true (by omega)
                obtain ⟨t, ht⟩ : ∃ t, kids[k]? = some t := ⟨kids[k]'(by rw [← HNK.out]; exact hlt), by simp⟩
                obtain ⟨g, off, u, rfl, hgl, hcu, hcall⟩ := HKC.out k t ht
                have hcu' := hkp.cell hcu (noB_not _)
                have HC := Lib.hid (hcall wr hkp)
                have HT := Lib.hid ht
                have hdw := HDW.out
                clear hcall hcu ht
                go_wp2_with fail
                refine HC.out.mono ?_
                rintro e w5 ⟨bl, rfl, hbl, hk5⟩
                cases bl with
                | false =>
                  have HN : Hid (¬ Shp (d + 1) t) := Lib.hid fun h => (by have := hbl.2 h; cases this)
                  clear hbl
                  go_wp2_with fail
                  go_ret
                  exact ⟨false, rfl, ⟨fun h => (by cases h), fun h => absurd (shpL_iff.1 h.2.2 k t HT.out) HN.out⟩, hkp.trans hk5⟩
                | true =>
                  have HS := Lib.hid (hbl.1 rfl)
                  have HALL2 : Hid (∀ (i : Nat) (t : Rx), i < k + 1 → kids[i]? = some t → Shp (d + 1) t) := Lib.hid (by
                    intro i t' hi ht'
                    rcases Nat.lt_or_ge i k with h | h
                    · exact HALL.out i t' h ht'
                    · obtain rfl : i = k := by omega
                      rw [HT.out] at ht'
                      cases ht'
                      exact HS.out)
                  clear hbl
                  go_wp2_with fail
                  go_roundw
                  case rel => exact ⟨k + 1, by omega, by simp, hkp.trans hk5, HALL2⟩
                  case measure => simp [intOf]; omega
              · obtain rfl : k = n := by omega
                have hb2 : decide ((k : Int) < (k : Int)) = false := decide_eq_false (by omega)
                have HL := Lib.hid (shpL_iff.2 fun i t ht => HALL.out i t (by have := (List.getElem?_eq_some_iff.1 ht).1; rw [HNK.out]; exact this) ht : ShpL (d + 1) kids)
                go_wp2_with fail
                go_ret
                exact ⟨true, rfl, ⟨fun _ => ⟨HY.out, HTM.out, HL.out⟩, fun _ => rfl⟩, hkp⟩
          · have b3 : (mx != (-1 : Int)) = true := by simp [hm]
            have b5 : decide (mx > (50 : Int)) = false := decide_eq_false (by omega)
            by_cases h1 : 1 ≤ mn
            · have b4 : decide (mx < mn) = false := decide_eq_false (by omega)
              have e1 : max mn 1 = mn := by omega
              clear hz hm
              go_upto_region 8 with (fail)
              go_quiet (fail)
              have hk2 := hk2.drewN nq
              have hnl := HNL.out
              go_wp2_with fail
              go_loopw [112] (fun c wr => ∃ k : Nat, k ≤ n ∧ c = .int .i64 k ∧ Kp noB w wr ∧ Hid (∀ (i : Nat) (t : Rx), i < k → kids[i]? = some t → Shp (d + 1) t)) (fun c _ => n - (intOf c).toNat)
              case atStart => exact ⟨0, Nat.zero_le _, rfl, hk2, Lib.hid fun i t h => absurd h (Nat.not_lt_zero _)⟩
              case round =>
                obtain ⟨k, hk, rfl, hkp, HALL⟩ := hrel
                rcases Nat.lt_or_ge k n with hlt | hge
                · have hb2 : decide ((k : Int) < (n : Int)) = true := decide_eq_true (by omega)
                  obtain ⟨t, ht⟩ : ∃ t, kids[k]? = some t := ⟨kids[k]'(by rw [← HNK.out]; exact hlt), by simp⟩
                  obtain ⟨g, off, u, rfl, hgl, hcu, hcall⟩ := HKC.out k t ht
                  have hcu' := hkp.cell hcu (noB_not _)
                  have HC := Lib.hid (hcall wr hkp)
                  have HT := Lib.hid ht
                  have hdw := HDW.out
                  clear hcall hcu ht
                  go_wp2_with fail
                  refine HC.out.mono ?_
                  rintro e w5 ⟨bl, rfl, hbl, hk5⟩
                  cases bl with
                  | false =>
                    have HN : Hid (¬ Shp (d + 1) t) := Lib.hid fun h => (by have := hbl.2 h; cases this)
                    clear hbl
                    go_wp2_with fail
                    go_ret
                    exact ⟨false, rfl, ⟨fun h => (by cases h), fun h => absurd (shpL_iff.1 h.2.2 k t HT.out) HN.out⟩, hkp.trans hk5⟩
                  | true =>
                    have HS := Lib.hid (hbl.1 rfl)
                    have HALL2 : Hid (∀ (i : Nat) (t : Rx), i < k + 1 → kids[i]? = some t → Shp (d + 1) t) := Lib.hid (by
                      intro i t' hi ht'
                      rcases Nat.lt_or_ge i k with h | h
                      · exact HALL.out i t' h ht'
                      · obtain rfl : i = k := by omega
                        rw [HT.out] at ht'
                        cases ht'
                        exact HS.out)
                    clear hbl
                    go_wp2_with fail
                    go_roundw
                    case rel => exact ⟨k + 1, by omega, by simp, hkp.trans hk5, HALL2⟩
                    case measure => simp [intOf]; omega
                · obtain rfl : k = n := by omega
                  have hb2 : decide ((k : Int) < (k : Int)) = false := decide_eq_false (by omega)
                  have HL := Lib.hid (shpL_iff.2 fun i t ht => HALL.out i t (by have := (List.getElem?_eq_some_iff.1 ht).1; rw [HNK.out]; exact this) ht : ShpL (d + 1) kids)
                  go_wp2_with fail
                  go_ret
                  exact ⟨true, rfl, ⟨fun _ => ⟨HY.out, HTM.out, HL.out⟩, fun _ => rfl⟩, hkp⟩
            · have b4 : decide (mx < (1 : Int)) = false := decide_eq_false (by omega)
              have e1 : max mn 1 = 1 := by omega
              clear hz hm
              go_upto_region 8 with (fail)
              go_quiet (fail)
              have hk2 := hk2.drewN nq
              have hnl := HNL.out
              go_wp2_with fail
              go_loopw [112] (fun c wr => ∃ k : Nat, k ≤ n ∧ c = .int .i64 k ∧ Kp noB w wr ∧ Hid (∀ (i : Nat) (t : Rx), i < k → kids[i]? = some t → Shp (d + 1) t)) (fun c _ => n - (intOf c).toNat)
              case atStart => exact ⟨0, Nat.zero_le _, rfl, hk2, Lib.hid fun i t h => absurd h (Nat.not_lt_zero _)⟩
              case round =>
                obtain ⟨k, hk, rfl, hkp, HALL⟩ := hrel
                rcases Nat.lt_or_ge k n with hlt | hge
                · have hb2 : decide ((k : Int) < (n : Int)) = true := decide_eq_true (by omega)
                  obtain ⟨t, ht⟩ : ∃ t, kids[k]? = some t := ⟨kids[k]'(by rw [← HNK.out]; exact hlt), by simp⟩
                  obtain ⟨g, off, u, rfl, hgl, hcu, hcall⟩ := HKC.out k t ht
                  have hcu' := hkp.cell hcu (noB_not _)
                  have HC := Lib.hid (hcall wr hkp)
                  have HT := Lib.hid ht
                  have hdw := HDW.out
                  clear hcall hcu ht
                  go_wp2_with fail
                  refine HC.out.mono ?_
                  rintro e w5 ⟨bl, rfl, hbl, hk5⟩
                  cases bl with
                  | false =>
                    have HN : Hid (¬ Shp (d + 1) t) := Lib.hid fun h => (by have := hbl.2 h; cases this)
                    clear hbl
                    go_wp2_with fail
                    go_ret
                    exact ⟨false, rfl, ⟨fun h => (by cases h), fun h => absurd (shpL_iff.1 h.2.2 k t HT.out) HN.out⟩, hkp.trans hk5⟩
                  | true =>
                    have HS := Lib.hid (hbl.1 rfl)
                    have HALL2 : Hid (∀ (i : Nat) (t : Rx), i < k + 1 → kids[i]? = some t → Shp (d + 1) t) := Lib.hid (by
                      intro i t' hi ht'
                      rcases Nat.lt_or_ge i k with h | h
                      · exact HALL.out i t' h ht'
                      · obtain rfl : i = k := by omega
                        rw [HT.out] at ht'
                        cases ht'
                        exact HS.out)
                    clear hbl
                    go_wp2_with fail
                    go_roundw
                    case rel => exact ⟨k + 1, by omega, by simp, hkp.trans hk5, HALL2⟩
                    case measure => simp [intOf]; omega
                · obtain rfl : k = n := by omega
                  have hb2 : decide ((k : Int) < (k : Int)) = false := decide_eq_false (by omega)
                  have HL := Lib.hid (shpL_iff.2 fun i t ht => HALL.out i t (by have := (List.getElem?_eq_some_iff.1 ht).1; rw [HNK.out]; exact this) ht : ShpL (d + 1) kids)
                  go_wp2_with fail
                  go_ret
                  exact ⟨true, rfl, ⟨fun _ => ⟨HY.out, HTM.out, HL.out⟩, fun _ => rfl⟩, hkp⟩
        · have HZ := Lib.hid (fun h => hz (by rw [if_pos rfl] at h; exact h) : ¬ (if (6 : Int) = 6 then timesOk mn mx else mn = 0 ∧ mx = 0))
          unfold timesOk at hz
          have hcase : mn < 0 ∨ (¬ mn < 0 ∧ mn > 50) ∨ (¬ mn < 0 ∧ ¬ mn > 50 ∧ mx ≠ -1 ∧ 1 ≤ mn ∧ mx < mn) ∨ (¬ mn < 0 ∧ ¬ mn > 50 ∧ mx ≠ -1 ∧ ¬ 1 ≤ mn ∧ mx < 1) ∨ (¬ mn < 0 ∧ ¬ mn > 50 ∧ mx ≠ -1 ∧ 1 ≤ mn ∧ ¬ mx < mn ∧ mx > 50) ∨ (¬ mn < 0 ∧ ¬ mn > 50 ∧ mx ≠ -1 ∧ ¬ 1 ≤ mn ∧ ¬ mx < 1 ∧ mx > 50) := by omega
          rcases hcase with q | ⟨q1, q2⟩ | ⟨q1, q2, q3, q4, q5⟩ | ⟨q1, q2, q3, q4, q5⟩ | ⟨q1, q2, q3, q4, q5, q6⟩ | ⟨q1, q2, q3, q4, q5, q6⟩
          · have b1 : decide (mn < (0 : Int)) = true := decide_eq_true q
            clear q
            clear hz
            go_upto_region 8 with (fail)
            go_quiet (fail)
            go_wp2_with fail
            go_ret
            exact ⟨false, rfl, ⟨fun h => (by cases h), fun h => absurd h.2.1 HZ.out⟩, hk2.drewN _⟩
          · have b1 : decide (mn < (0 : Int)) = false := decide_eq_false q1
            have b2 : decide (mn > (50 : Int)) = true := decide_eq_true q2
            clear q1 q2
            clear hz
            go_upto_region 8 with (fail)
            go_quiet (fail)
            go_wp2_with fail
            go_ret
            exact ⟨false, rfl, ⟨fun h => (by cases h), fun h => absurd h.2.1 HZ.out⟩, hk2.drewN _⟩
          · have b1 : decide (mn < (0 : Int)) = false := decide_eq_false q1
            have b2 : decide (mn > (50 : Int)) = false := decide_eq_false q2
            have b3 : (mx != (-1 : Int)) = true := by simp [q3]
            have b4 : decide (mx < mn) = true := decide_eq_true q5
            have e1 : max mn 1 = mn := by omega
            clear q1 q2 q3 q5
            clear hz
            go_upto_region 8 with (fail)
            go_quiet (fail)
            go_wp2_with fail
            go_ret
            exact ⟨false, rfl, ⟨fun h => (by cases h), fun h => absurd h.2.1 HZ.out⟩, hk2.drewN _⟩
          · have b1 : decide (mn < (0 : Int)) = false := decide_eq_false q1
            have b2 : decide (mn > (50 : Int)) = false := decide_eq_false q2
            have b3 : (mx != (-1 : Int)) = true := by simp [q3]
            have b4 : decide (mx < (1 : Int)) = true := decide_eq_true q5
            have e1 : max mn 1 = 1 := by omega
            clear q1 q2 q3 q5
            clear hz
            go_upto_region 8 with (fail)
            go_quiet (fail)
            go_wp2_with fail
            go_ret
            exact ⟨false, rfl, ⟨fun h => (by cases h), fun h => absurd h.2.1 HZ.out⟩, hk2.drewN _⟩
          · have b1 : decide (mn < (0 : Int)) = false := decide_eq_false q1
            have b2 : decide (mn > (50 : Int)) = false := decide_eq_false q2
            have b3 : (mx != (-1 : Int)) = true := by simp [q3]
            have b4 : decide (mx < mn) = false := decide_eq_false q5
            have b5 : decide (mx > (50 : Int)) = true := decide_eq_true q6
            have e1 : max mn 1 = mn := by omega
            clear q1 q2 q3 q5 q6
            clear hz
            go_upto_region 8 with (fail)
            go_quiet (fail)
            go_wp2_with fail
            go_ret
            exact ⟨false, rfl, ⟨fun h => (by cases h), fun h => absurd h.2.1 HZ.out⟩, hk2.drewN _⟩
          · have b1 : decide (mn < (0 : Int)) = false := decide_eq_false q1
            have b2 : decide (mn > (50 : Int)) = false := decide_eq_false q2
            have b3 : (mx != (-1 : Int)) = true := by simp [q3]
            have b4 : decide (mx < (1 : Int)) = false := decide_eq_false q5
            have b5 : decide (mx > (50 : Int)) = true := decide_eq_true q6
            have e1 : max mn 1 = 1 := by omega
            clear q1 q2 q3 q5 q6
            clear hz
            go_upto_region 8 with (fail)
            go_quiet (fail)
            go_wp2_with fail
            go_ret
            exact ⟨false, rfl, ⟨fun h => (by cases h), fun h => absurd h.2.1 HZ.out⟩, hk2.drewN _⟩
      · have hb6 : (kind != (6 : Int)) = true := by simp [h6]
        by_cases hz : mn = 0 ∧ mx = 0
        · have HTM : Hid (if kind = 6 then timesOk mn mx else mn = 0 ∧ mx = 0) := Lib.hid (by rw [if_neg h6]; exact hz)
          have hm0 : (mn != (0 : Int)) = false := by simp [hz.1]
          have hx0 : (mx != (0 : Int)) = false := by simp [hz.2]
          clear hz h6
          have hnl := HNL.out
          go_wp2_with fail
          go_loopw [112] (fun c wr => ∃ k : Nat, k ≤ n ∧ c = .int .i64 k ∧ Kp noB w wr ∧ Hid (∀ (i : Nat) (t : Rx), i < k → kids[i]? = some t → Shp (d + 1) t)) (fun c _ => n - (intOf c).toNat)
          case atStart => exact ⟨0, Nat.zero_le _, rfl, hk2, Lib.hid fun i t h => absurd h (Nat.not_lt_zero _)⟩
          case round =>
            obtain ⟨k, hk, rfl, hkp, HALL⟩ := hrel
            rcases Nat.lt_or_ge k n with hlt | hge
            · have hb2 : decide ((k : Int) < (n : Int)) = true := decide_eq_true (by omega)
              obtain ⟨t, ht⟩ : ∃ t, kids[k]? = some t := ⟨kids[k]'(by rw [← HNK.out]; exact hlt), by simp⟩
              obtain ⟨g, off, u, rfl, hgl, hcu, hcall⟩ := HKC.out k t ht
              have hcu' := hkp.cell hcu (noB_not _)
              have HC := Lib.hid (hcall wr hkp)
              have HT := Lib.hid ht
              have hdw := HDW.out
              clear hcall hcu ht
              go_wp2_with fail
              refine HC.out.mono ?_
              rintro e w5 ⟨bl, rfl, hbl, hk5⟩
              cases bl with
              | false =>
                have HN : Hid (¬ Shp (d + 1) t) := Lib.hid fun h => (by have := hbl.2 h; cases this)
                clear hbl
                go_wp2_with fail
                go_ret
                exact ⟨false, rfl, ⟨fun h => (by cases h), fun h => absurd (shpL_iff.1 h.2.2 k t HT.out) HN.out⟩, hkp.trans hk5⟩
              | true =>
                have HS := Lib.hid (hbl.1 rfl)
                have HALL2 : Hid (∀ (i : Nat) (t : Rx), i < k + 1 → kids[i]? = some t → Shp (d + 1) t) := Lib.hid (by
                  intro i t' hi ht'
                  rcases Nat.lt_or_ge i k with h | h
                  · exact HALL.out i t' h ht'
                  · obtain rfl : i = k := by omega
                    rw [HT.out] at ht'
                    cases ht'
                    exact HS.out)
                clear hbl
                go_wp2_with fail
                go_roundw
                case rel => exact ⟨k + 1, by omega, by simp, hkp.trans hk5, HALL2⟩
                case measure => simp [intOf]; omega
            · obtain rfl : k = n := by omega
              have hb2 : decide ((k : Int) < (k : Int)) = false := decide_eq_false (by omega)
              have HL := Lib.hid (shpL_iff.2 fun i t ht => HALL.out i t (by have := (List.getElem?_eq_some_iff.1 ht).1; rw [HNK.out]; exact this) ht : ShpL (d + 1) kids)
              go_wp2_with fail
              go_ret
              exact ⟨true, rfl, ⟨fun _ => ⟨HY.out, HTM.out, HL.out⟩, fun _ => rfl⟩, hkp⟩
        · have hzz : ((mn != (0 : Int)) = true) ∨ ((mn != (0 : Int)) = false ∧ (mx != (0 : Int)) = true) := by
            by_cases h : mn = 0
            · exact .inr ⟨by simp [h], by simp; omega⟩
            · exact .inl (by simp [h])
          have HZ := Lib.hid (fun h => hz (by rw [if_neg h6] at h; exact h) : ¬ (if kind = 6 then timesOk mn mx else mn = 0 ∧ mx = 0))
          clear hz h6
          rcases hzz with q1 | ⟨q1, q2⟩
          · go_wp2_with fail
            go_ret
            exact ⟨false, rfl, ⟨fun h => (by cases h), fun h => absurd h.2.1 HZ.out⟩, hk2⟩
          · go_wp2_with fail
            go_ret
            exact ⟨false, rfl, ⟨fun h => (by cases h), fun h => absurd h.2.1 HZ.out⟩, hk2⟩
end
end Go.Proofs.YtoijabgcgdgacaaGreatDoor

namespace Go.Proofs.YtoijabgcgdgacaaGreatDoor
open Go.RowKit Go.Proofs.Gram Go.Lib

theorem shaped_any : ∀ (n : Nat) (t : Rx), SizeOf.sizeOf t ≤ n → ShC t := by
  intro n
  induction n with
  | zero => intro t h; cases t <;> simp at h
  | succ n ih =>
    intro t hsz d v okk w hd hre hsm
    cases t with
    | nil =>
      cases hre
      exact (shaped_nil d w).mono fun e w' ⟨he, hk⟩ => ⟨false, he, ⟨fun h => (by cases h), fun h => (by simp [Shp] at h)⟩, hk⟩
    | mk kind set mn mx kids =>
      obtain ⟨b, sv, kv, ps, rfl, hb, hok, hrs, hkc, hpl, hkid⟩ := hre.inv
      have hk0 : w.cell? ⟨b, 0, none⟩ = some (.int .i64 kind) := by simp [World.cell?, hb]
      have hk1 : w.cell? ⟨b, 1, none⟩ = some sv := by simp [World.cell?, hb]
      have hk2 : w.cell? ⟨b, 2, none⟩ = some (.int .i64 mn) := by simp [World.cell?, hb]
      have hk3 : w.cell? ⟨b, 3, none⟩ = some (.int .i64 mx) := by simp [World.cell?, hb]
      have hk4 : w.cell? ⟨b, 4, none⟩ = some kv := by simp [World.cell?, hb]
      obtain ⟨A, cap, rfl, hkl, hcs⟩ := cells_open hkc
      obtain ⟨A2, cap2, rfl, _⟩ := rngs_open hrs
      simp only [Rx.mk.sizeOf_spec] at hsz
      by_cases h30 : d ≤ 30
      · by_cases hc : cntOk kind kids.length
        · by_cases h1 : kind = 1 ∨ set = []
          · refine (shaped_rest (okk := okk) (kids := kids) h30 hk0 hk4 hc hk1 h1 hrs hsm.1 hk2 hk3 rfl hkl (Lib.hid ?_)).mono ?_
            · intro k t ht
              obtain ⟨u, hu⟩ : ∃ u, ps[k]? = some u := ⟨ps[k]'(by have := (List.getElem?_eq_some_iff.1 ht).1; omega), by simp⟩
              obtain ⟨g, off, rfl, _, hgl, hcu⟩ := hcs k u hu
              refine ⟨g, off, u, rfl, hgl, hcu, fun W hW => ?_⟩
              exact ih t (by have := mem_size ht; omega) (d + 1) u okk W (by omega) ((hkid k u t hu ht).kp hW fun _ _ _ => noB_not _) (smallL_at hsm.2 ht)
            · rintro e w' ⟨bl, he, hbl, hk⟩
              exact ⟨bl, he, hbl.trans ⟨fun h => ⟨h30, hc, h1, h⟩, fun h => h.2.2.2⟩, hk⟩
          · have h1' : kind ≠ 1 := fun h => h1 (.inl h)
            have h2' : set.length ≠ 0 := fun h => h1 (.inr (List.eq_nil_of_length_eq_zero h))
            exact (shaped_set h30 hk0 hk4 hc hk1 h1' h2').mono fun e w' ⟨he, hk⟩ => ⟨false, he, ⟨fun h => (by cases h), fun h => absurd h.2.2.1 h1⟩, hk⟩
        · exact (shaped_count h30 hk0 hk4 hc).mono fun e w' ⟨he, hk⟩ => ⟨false, he, ⟨fun h => (by cases h), fun h => absurd h.2.1 hc⟩, hk⟩
      · exact (shaped_deep (by omega)).mono fun e w' ⟨he, hk⟩ => ⟨false, he, ⟨fun h => (by cases h), fun h => absurd h.1 h30⟩, hk⟩
end Go.Proofs.YtoijabgcgdgacaaGreatDoor

namespace Go.Proofs.YtoijabgcgdgacaaGreatDoor
open Go.RowKit Go.Proofs.Gram Go.Lib

set_option maxRecDepth 100000 in
theorem ok_any (t : Rx) (v : Value) (okk : Nat → Prop) (w : World) (hre : IsRe w okk v t) (hsm : Small t) :
    Calls Tryz.prog 18 #[v] w fun e w' => ∃ bl, e = .returned (.bool bl) ∧ (bl = true ↔ OkR t) ∧ Kp noB w w' := by
  have HS := Lib.hid (shaped_any _ t (Nat.le_refl _) 0 v okk w (by omega) hre hsm)
  have HW := Lib.hid (weight_any _ t (Nat.le_refl _))
  have HRE := Lib.hid hre
  clear hre
  go_enter Tryz.func18, Tryz.ntmps18
  go_wp2_with fail
  refine HS.out.mono ?_
  rintro e w1 ⟨bl, rfl, hbl, hk1⟩
  cases bl with
  | false =>
    have HN : Hid (¬ OkR t) := Lib.hid fun h => (by have := hbl.2 h.1; cases this)
    clear hbl
    go_wp2_with fail
    go_ret
    exact ⟨false, rfl, ⟨fun h => (by cases h), fun h => absurd h HN.out⟩, hk1⟩
  | true =>
    have HSH := Lib.hid (hbl.1 rfl)
    have HWT := Lib.hid (HW.out 0 v okk w1 (HRE.out.kp hk1 fun _ _ _ => noB_not _) HSH.out)
    clear hbl
    go_wp2_with fail
    refine HWT.out.mono ?_
    rintro e w2 ⟨rfl, q, rfl⟩
    by_cases h : wt t ≤ 60
    · have hb : decide (wt t ≤ (60 : Int)) = true := decide_eq_true h
      have HO : Hid (OkR t) := Lib.hid ⟨HSH.out, h⟩
      clear h
      go_wp2_with fail
      go_ret
      exact ⟨true, rfl, ⟨fun _ => HO.out, fun _ => rfl⟩, hk1.drewN _⟩
    · have hb : decide (wt t ≤ (60 : Int)) = false := decide_eq_false h
      have HO : Hid (¬ OkR t) := Lib.hid fun k => h k.2
      clear h
      go_wp2_with fail
      go_ret
      exact ⟨false, rfl, ⟨fun h => (by cases h), fun h => absurd h HO.out⟩, hk1.drewN _⟩
end Go.Proofs.YtoijabgcgdgacaaGreatDoor
