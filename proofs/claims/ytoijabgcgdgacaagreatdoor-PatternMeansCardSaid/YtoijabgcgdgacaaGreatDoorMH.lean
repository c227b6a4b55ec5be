/-
  WALKS, mt: the program's matcher: several times.
  WALKS, mu: the program's matcher: several times, at every place.
-/
import Derived.Test.YtoijabgcgdgacaaGreatDoorMG
import Derived.Deep.DeepCutAuto
namespace Go.Proofs.YtoijabgcgdgacaaGreatDoor
open Go.RowKit Go.Proofs.Gram Go.Lib

section
variable {w0 : World} {r mb b f u n N cap : Nat} {A : Option Addr} {L : List Int} {set : List (Int × Int)} {mn mx : Int} {a : Rx}

theorem ans6 (k : Ky) : AnsK L (.mk 6 set mn mx [a]) k ↔ Tn mn mx (Lg a) k.n (seg L k.f k.t) := by
  rw [AnsK, if_neg (by decide)]
  rfl

set_option maxRecDepth 100000 in
set_option maxHeartbeats 4000000 in
theorem times_body (hW : MW w0 r mb A N cap L) (ht : NT w0 r b (.mk 6 set mn mx [a])) (hne : a ≠ .nil) (h0 : 0 ≤ mn ∧ mn ≤ 50) (h1 : mx = -1 ∨ (1 ≤ mx ∧ mn ≤ mx ∧ mx ≤ 50)) (hnx : mx < 0 ∨ (n : Int) ≤ mx) (hn50 : n ≤ 50)
    (hfu : f ≤ u) (huL : u ≤ L.length) {sb xb : Nat} {w : World} {M : List (Ky × Int)}
    (s0 : w.cell? ⟨sb, 0, none⟩ = some (.pointer (some ⟨b, 0, none⟩))) (s1 : w.cell? ⟨sb, 1, none⟩ = some (.int .i64 f)) (s2 : w.cell? ⟨sb, 2, none⟩ = some (.int .i64 u)) (s3 : w.cell? ⟨sb, 3, none⟩ = some (.int .i64 n))
    (x0 : w.cell? ⟨xb, 0, none⟩ = some (.pointer (some ⟨mb, 0, none⟩))) (hsr : sb ≠ r) (hxr : xb ≠ r) (hI : MI w0 w r M) (hg : Good w0 r L (rank (.mk 6 set mn mx [a]) ⟨b, f, u, n⟩) M)
    (hof : OfC w0 r mb L a) (hmore : (n : Int) < mn → KeyAt 100 w0 r mb L (.mk 6 set mn mx [a]) b f u (n + 1))
    (hnext : ¬ (0 ≤ mx ∧ (n : Int) = mx) → ∀ i, f < i → i ≤ u → KeyAt 100 w0 r mb L (.mk 6 set mn mx [a]) b i u (nxt mn mx n)) :
    Calls Tryz.prog 156 #[.pointer (some ⟨sb, 0, none⟩), .pointer (some ⟨xb, 0, none⟩)] w (MP w0 w r L (rank (.mk 6 set mn mx [a]) ⟨b, f, u, n⟩) M (AnsK L (.mk 6 set mn mx [a]) ⟨b, f, u, n⟩)) := by
  obtain ⟨KA, cap2, _, b2', b3', b4', hbr, hkl, hkids⟩ := ht.kids (by simpa using hne)
  obtain ⟨g, off, c, rfl, hgr, kc', hnt⟩ := hkids 0 a rfl
  have b2 := hI.kp.cell b2' (onB_not hbr)
  have b3 := hI.kp.cell b3' (onB_not hbr)
  have b4 := hI.kp.cell b4' (onB_not hbr)
  have kc := hI.kp.cell kc' (onB_not hgr)
  simp only [List.length_cons, List.length_nil, Nat.zero_add, Nat.add_zero] at b4 kc
  have hu40 : u ≤ 40 := by have := hW.len; have := hW.small; omega
  have HANS : Hid (AnsK L (.mk 6 set mn mx [a]) ⟨b, f, u, n⟩ ↔ (mn ≤ n ∧ f = u) ∨ (¬ (0 ≤ mx ∧ (n : Int) = mx) ∧ (((n : Int) < mn ∧ Lg a (seg L f f) ∧ Tn mn mx (Lg a) (n + 1) (seg L f u)) ∨ ∃ i, f + 1 ≤ i ∧ i ≤ u ∧ Lg a (seg L f i) ∧ Tn mn mx (Lg a) (nxt mn mx n) (seg L i u)))) := Lib.hid (by
    rw [ans6]
    exact tn_step L hfu huL h0.1 (by omega) (Lg a) n hnx)
  have HM0 : Hid (MI w0 w r M) := Lib.hid hI
  have hxs : SizeOf.sizeOf a < SizeOf.sizeOf (Rx.mk 6 set mn mx [a]) := by
    simp only [Rx.mk.sizeOf_spec, List.cons.sizeOf_spec, List.nil.sizeOf_spec]
    omega
  have hB1 : base (SizeOf.sizeOf a + 1) ≤ rank (.mk 6 set mn mx [a]) ⟨b, f, u, n⟩ := by
    have := base_le (show SizeOf.sizeOf a + 1 ≤ SizeOf.sizeOf (Rx.mk 6 set mn mx [a]) by omega)
    unfold rank
    omega
  have hB2 : (n : Int) < mn → rank (.mk 6 set mn mx [a]) ⟨b, f, u, n + 1⟩ + 1 ≤ rank (.mk 6 set mn mx [a]) ⟨b, f, u, n⟩ := fun h => by
    unfold rank
    simp only [localK]
    rw [if_neg (by decide), if_neg (by decide)]
    omega
  have hB3 : ∀ i, f < i → i ≤ u → rank (.mk 6 set mn mx [a]) ⟨b, i, u, nxt mn mx n⟩ + 1 ≤ rank (.mk 6 set mn mx [a]) ⟨b, f, u, n⟩ := fun i h1 h2 => by
    unfold rank
    simp only [localK]
    rw [if_neg (by decide), if_neg (by decide)]
    omega
  have HOFX : Hid (∀ (j : Nat) (w1 : World) (M1 : List (Ky × Int)), f ≤ j → j ≤ u → MI w0 w1 r M1 → Ext w0 r L (rank (.mk 6 set mn mx [a]) ⟨b, f, u, n⟩) M M1 →
      Calls Tryz.prog 48 #[.pointer (some ⟨mb, 0, none⟩), .pointer (some ⟨c, 0, none⟩), .int .i64 f, .int .i64 j] w1 (MP w0 w1 r L (rank (.mk 6 set mn mx [a]) ⟨b, f, u, n⟩) M1 (Lg a (seg L f j)))) := Lib.hid fun j w1 M1 h1 h2 h3 h4 =>
    (hof c f j w1 M1 hnt h1 (by omega) h3 ((hg.ext h4).mono hB1)).mono fun e w' h => h.mono hB1 Iff.rfl
  have HMORE : Hid ((n : Int) < mn → ∀ (w1 : World) (M1 : List (Ky × Int)), MI w0 w1 r M1 → Ext w0 r L (rank (.mk 6 set mn mx [a]) ⟨b, f, u, n⟩) M M1 →
      Calls Tryz.prog 100 #[.pointer (some ⟨mb, 0, none⟩), .agg #[.pointer (some ⟨b, 0, none⟩), .int .i64 f, .int .i64 u, .int .i64 ((n : Int) + 1)]] w1 (MP w0 w1 r L (rank (.mk 6 set mn mx [a]) ⟨b, f, u, n⟩) M1 (Tn mn mx (Lg a) (n + 1) (seg L f u)))) := Lib.hid fun h w1 M1 h3 h4 =>
    (hmore h w1 M1 h3 ((hg.ext h4).mono (hB2 h))).mono fun e w' h' => h'.mono (hB2 h) (ans6 _)
  obtain ⟨NX, hNX⟩ : ∃ NX, nxt mn mx n = NX := ⟨_, rfl⟩
  rw [hNX] at hnext hB3 HANS
  have HNEXT : Hid (¬ (0 ≤ mx ∧ (n : Int) = mx) → ∀ (j : Nat) (w1 : World) (M1 : List (Ky × Int)), f < j → j ≤ u → MI w0 w1 r M1 → Ext w0 r L (rank (.mk 6 set mn mx [a]) ⟨b, f, u, n⟩) M M1 →
      Calls Tryz.prog 100 #[.pointer (some ⟨mb, 0, none⟩), .agg #[.pointer (some ⟨b, 0, none⟩), .int .i64 j, .int .i64 u, .int .i64 NX]] w1 (MP w0 w1 r L (rank (.mk 6 set mn mx [a]) ⟨b, f, u, n⟩) M1 (Tn mn mx (Lg a) NX (seg L j u)))) := Lib.hid fun h0 j w1 M1 h1 h2 h3 h4 =>
    (hnext h0 j h1 h2 w1 M1 h3 ((hg.ext h4).mono (hB3 j h1 h2))).mono fun e w' h' => h'.mono (hB3 j h1 h2) (ans6 _)
  have HNX : Hid ((mx < 0 → (NX : Int) = min ((n : Int) + 1) mn) ∧ (¬ mx < 0 → (NX : Int) = (n : Int) + 1)) := Lib.hid (by
    rw [← hNX]
    unfold nxt
    constructor
    · intro h
      rw [if_pos h]
      omega
    · intro h
      rw [if_neg h]
      omega)
  generalize hRK : rank (.mk 6 set mn mx [a]) ⟨b, f, u, n⟩ = RK at *
  clear hkids hof hmore hnext hg ht hW hne hI b2' b3' b4' kc' hnt hxs hB1 hB2 hB3 hRK hNX
  by_cases hA : mn ≤ (n : Int) ∧ f = u
  · have d1 : decide ((n : Int) ≥ mn) = true := decide_eq_true hA.1
    have d1' : decide (mn ≤ (n : Int)) = true := decide_eq_true hA.1
    have d2 : ((f : Int) == (u : Int)) = true := by simp [hA.2]
    have HY := Lib.hid (HANS.out.2 (.inl hA))
    clear hA
    go_enter Tryz.func156, Tryz.ntmps156
    go_wp2_with fail
    go_ret
    exact ⟨true, M, rfl, ⟨fun _ => HY.out, fun _ => rfl⟩, HM0.out, Ext.refl, Kp.refl _ _⟩
  have hA' : (decide ((n : Int) ≥ mn) = true ∧ decide (mn ≤ (n : Int)) = true ∧ ((f : Int) == (u : Int)) = false) ∨ (decide ((n : Int) ≥ mn) = false ∧ decide (mn ≤ (n : Int)) = false) := by
    by_cases h : mn ≤ (n : Int)
    · exact .inl ⟨decide_eq_true h, decide_eq_true h, beq_eq_false_iff_ne.2 (by omega)⟩
    · exact .inr ⟨decide_eq_false h, decide_eq_false h⟩
  by_cases hBx : 0 ≤ mx ∧ (n : Int) = mx
  · have e1 : decide (mx ≥ (0 : Int)) = true := decide_eq_true hBx.1
    have e1' : decide ((0 : Int) ≤ mx) = true := decide_eq_true hBx.1
    have e2 : ((n : Int) == mx) = true := by simp [hBx.2]
    have HN : Hid (¬ AnsK L (.mk 6 set mn mx [a]) ⟨b, f, u, n⟩) := Lib.hid fun h => by
      rcases HANS.out.1 h with h | h
      · exact hA h
      · exact h.1 hBx
    clear hBx hA
    rcases hA' with ⟨d1, d2, d3⟩ | ⟨d1, d2⟩
    all_goals
      go_enter Tryz.func156, Tryz.ntmps156
      go_wp2_with fail
      go_ret
      exact ⟨false, M, rfl, ⟨fun h => (by cases h), fun h => absurd h HN.out⟩, HM0.out, Ext.refl, Kp.refl _ _⟩
  have hB' : (decide (mx ≥ (0 : Int)) = true ∧ decide ((0 : Int) ≤ mx) = true ∧ ((n : Int) == mx) = false) ∨ (decide (mx ≥ (0 : Int)) = false ∧ decide ((0 : Int) ≤ mx) = false) := by
    by_cases h : 0 ≤ mx
    · exact .inl ⟨decide_eq_true h, decide_eq_true h, beq_eq_false_iff_ne.2 (by omega)⟩
    · exact .inr ⟨decide_eq_false h, decide_eq_false h⟩
  have HANS2 : Hid (AnsK L (.mk 6 set mn mx [a]) ⟨b, f, u, n⟩ ↔ (((n : Int) < mn ∧ Lg a (seg L f f) ∧ Tn mn mx (Lg a) (n + 1) (seg L f u)) ∨ ∃ i, f + 1 ≤ i ∧ i ≤ u ∧ Lg a (seg L f i) ∧ Tn mn mx (Lg a) NX (seg L i u))) := Lib.hid ⟨fun h => (HANS.out.1 h).elim (fun h => absurd h hA) fun h => h.2, fun h => HANS.out.2 (.inr ⟨hBx, h⟩)⟩
  have HCOND := Lib.hid (And.intro hA' hB')
  have HNEXT := Lib.hid (HNEXT.out hBx)
  clear HANS hA hBx hA' hB'
  go_enter Tryz.func156, Tryz.ntmps156
  go_upto_region 2 with (fail)
  go_cut [21] (fun s21 wc => s21 = .bool false ∧ wc = w)
  case first =>
    rcases HCOND.out.1 with ⟨d1, d2, d3⟩ | ⟨d1, d2⟩
    all_goals
      go_wp2_with fail
      go_meet
      exact ⟨rfl, rfl⟩
  case rest =>
    obtain ⟨rfl, hw⟩ := hcut
    have hw := hw.symm
    subst hw
    go_upto_region 4 with (fail)
    go_cut [36] (fun s36 wc => s36 = .bool false ∧ wc = w)
    case first =>
      rcases HCOND.out.2 with ⟨e1, e2, e3⟩ | ⟨e1, e2⟩
      all_goals
        go_wp2_with fail
        go_meet
        exact ⟨rfl, rfl⟩
    case rest =>
      obtain ⟨rfl, hw⟩ := hcut
      have hw := hw.symm
      subst hw
      go_upto_region 6 with (fail)
      go_cut [71] (fun s71 wc => ∃ (bl : Bool) (M1 : List (Ky × Int)), s71 = .bool bl ∧ Hid (bl = true ↔ ((n : Int) < mn ∧ Lg a (seg L f f) ∧ Tn mn mx (Lg a) (n + 1) (seg L f u))) ∧ Hid (MI w0 wc r M1 ∧ Ext w0 r L RK M M1 ∧ Kp (onB r) w wc))
      case first =>
        by_cases hlt : (n : Int) < mn
        · skip
          have d5 : decide ((n : Int) < mn) = true := decide_eq_true hlt
          have HML := Lib.hid (HMORE.out hlt)
          have hwrap : IntKind.i64.wrap ((n : Int) + 1) = (n : Int) + 1 := IntWalk.i64_in _ (by omega)
          have HOF := Lib.hid (HOFX.out f w.drew M (Nat.le_refl _) hfu (HM0.out.keep (Kp.refl noB w).drew) Ext.refl)
          have HLT := Lib.hid hlt
          have q0 := s0
          have q1 := s1
          have q2 := s2
          have q3 := s3
          have qx := x0
          have qb := b4
          have qb2 := b2
          have qk := kc
          refine wp_region_held_drew (S := fun w' => Kp (onB r) w w') (by kernel_rfl) (Kp.refl _ _).drew (fun hHeld => ?_)
          refine takeD (i := 0) (d := 37) (v := (.int .i64 n)) rfl (by kernel_rfl) (by kernel_rfl) (by kernel_rfl) (by kernel_rfl) (fun _ _ _ h => h) (Or.inl ⟨by kernel_rfl, fun w' hS => by go_simp⟩) (by assumption) ?_
          simp only [List.setIfInBounds_toArray, List.set_cons_zero, List.set_cons_succ]
          refine takeD (i := 1) (d := 38) (v := (.pointer (some ⟨sb, 0, none⟩))) rfl (by kernel_rfl) (by kernel_rfl) (by kernel_rfl) (by kernel_rfl) (fun _ _ _ h => h) (Or.inl ⟨by kernel_rfl, fun w' hS => by go_simp⟩) (by assumption) ?_
          simp only [List.setIfInBounds_toArray, List.set_cons_zero, List.set_cons_succ]
          refine takeD (i := 2) (d := 39) (v := (.pointer (some ⟨b, 0, none⟩))) rfl (by kernel_rfl) (by kernel_rfl) (by kernel_rfl) (by kernel_rfl) (fun _ _ _ h => h) (Or.inl ⟨by kernel_rfl, fun w' hS => by have g0 := hS.cell q0 (onB_not hsr); go_simp⟩) (by assumption) ?_
          simp only [List.setIfInBounds_toArray, List.set_cons_zero, List.set_cons_succ]
          refine takeD (i := 3) (d := 40) (v := (.pointer (some ⟨b, 0, none⟩))) rfl (by kernel_rfl) (by kernel_rfl) (by kernel_rfl) (by kernel_rfl) (fun _ _ _ h => h) (Or.inl ⟨by kernel_rfl, fun w' hS => by go_simp⟩) (by assumption) ?_
          simp only [List.setIfInBounds_toArray, List.set_cons_zero, List.set_cons_succ]
          refine takeD (i := 4) (d := 41) (v := (.pointer (some ⟨b, 2, none⟩))) rfl (by kernel_rfl) (by kernel_rfl) (by kernel_rfl) (by kernel_rfl) (fun _ _ _ h => h) (Or.inl ⟨by kernel_rfl, fun w' hS => by go_simp⟩) (by assumption) ?_
          simp only [List.setIfInBounds_toArray, List.set_cons_zero, List.set_cons_succ]
          refine takeD (i := 5) (d := 42) (v := (.int .i64 mn)) rfl (by kernel_rfl) (by kernel_rfl) (by kernel_rfl) (by kernel_rfl) (fun _ _ _ h => h) (Or.inl ⟨by kernel_rfl, fun w' hS => by have g0 := hS.cell qb2 (onB_not hbr); go_simp⟩) (by assumption) ?_
          simp only [List.setIfInBounds_toArray, List.set_cons_zero, List.set_cons_succ]
          refine takeD (i := 6) (d := 43) (v := (.bool true)) rfl (by kernel_rfl) (by kernel_rfl) (by kernel_rfl) (by kernel_rfl) (fun _ _ _ h => h) (Or.inl ⟨by kernel_rfl, fun w' hS => by go_simp⟩) (by assumption) ?_
          simp only [List.setIfInBounds_toArray, List.set_cons_zero, List.set_cons_succ]
          refine takeD (i := 7) (d := 44) (v := (.bool true)) rfl (by kernel_rfl) (by kernel_rfl) (by kernel_rfl) (by kernel_rfl) (fun _ _ _ h => h) (Or.inl ⟨by kernel_rfl, fun w' hS => by go_simp⟩) (by assumption) ?_
          simp only [List.setIfInBounds_toArray, List.set_cons_zero, List.set_cons_succ]
          refine takeD (i := 8) (d := 45) (v := (.pointer (some ⟨mb, 0, none⟩))) rfl (by kernel_rfl) (by kernel_rfl) (by kernel_rfl) (by kernel_rfl) (fun _ _ _ h => h) (Or.inl ⟨by kernel_rfl, fun w' hS => by have g0 := hS.cell qx (onB_not hxr); go_simp⟩) (by assumption) ?_
          simp only [List.setIfInBounds_toArray, List.set_cons_zero, List.set_cons_succ]
          refine takeD (i := 9) (d := 46) (v := (.pointer (some ⟨sb, 0, none⟩))) rfl (by kernel_rfl) (by kernel_rfl) (by kernel_rfl) (by kernel_rfl) (fun _ _ _ h => h) (Or.inl ⟨by kernel_rfl, fun w' hS => by go_simp⟩) (by assumption) ?_
          simp only [List.setIfInBounds_toArray, List.set_cons_zero, List.set_cons_succ]
          refine takeD (i := 10) (d := 47) (v := (.pointer (some ⟨b, 0, none⟩))) rfl (by kernel_rfl) (by kernel_rfl) (by kernel_rfl) (by kernel_rfl) (fun _ _ _ h => h) (Or.inl ⟨by kernel_rfl, fun w' hS => by have g0 := hS.cell q0 (onB_not hsr); go_simp⟩) (by assumption) ?_
          simp only [List.setIfInBounds_toArray, List.set_cons_zero, List.set_cons_succ]
          refine takeD (i := 11) (d := 48) (v := (.pointer (some ⟨b, 0, none⟩))) rfl (by kernel_rfl) (by kernel_rfl) (by kernel_rfl) (by kernel_rfl) (fun _ _ _ h => h) (Or.inl ⟨by kernel_rfl, fun w' hS => by go_simp⟩) (by assumption) ?_
          simp only [List.setIfInBounds_toArray, List.set_cons_zero, List.set_cons_succ]
          refine takeD (i := 12) (d := 49) (v := (.pointer (some ⟨b, 4, none⟩))) rfl (by kernel_rfl) (by kernel_rfl) (by kernel_rfl) (by kernel_rfl) (fun _ _ _ h => h) (Or.inl ⟨by kernel_rfl, fun w' hS => by go_simp⟩) (by assumption) ?_
          simp only [List.setIfInBounds_toArray, List.set_cons_zero, List.set_cons_succ]
          refine takeD (i := 13) (d := 50) (v := (.slice (some ⟨g, off, none⟩) 1 cap2)) rfl (by kernel_rfl) (by kernel_rfl) (by kernel_rfl) (by kernel_rfl) (fun _ _ _ h => h) (Or.inl ⟨by kernel_rfl, fun w' hS => by have g0 := hS.cell qb (onB_not hbr); go_simp⟩) (by assumption) ?_
          simp only [List.setIfInBounds_toArray, List.set_cons_zero, List.set_cons_succ]
          refine takeD (i := 14) (d := 51) (v := (.pointer (some ⟨g, off, none⟩))) rfl (by kernel_rfl) (by kernel_rfl) (by kernel_rfl) (by kernel_rfl) (fun _ _ _ h => h) (Or.inl ⟨by kernel_rfl, fun w' hS => by go_simp⟩) (by assumption) ?_
          simp only [List.setIfInBounds_toArray, List.set_cons_zero, List.set_cons_succ]
          refine takeD (i := 15) (d := 52) (v := (.pointer (some ⟨c, 0, none⟩))) rfl (by kernel_rfl) (by kernel_rfl) (by kernel_rfl) (by kernel_rfl) (fun _ _ _ h => h) (Or.inl ⟨by kernel_rfl, fun w' hS => by have g0 := hS.cell qk (onB_not hgr); go_simp⟩) (by assumption) ?_
          simp only [List.setIfInBounds_toArray, List.set_cons_zero, List.set_cons_succ]
          refine takeD (i := 16) (d := 53) (v := (.pointer (some ⟨sb, 1, none⟩))) rfl (by kernel_rfl) (by kernel_rfl) (by kernel_rfl) (by kernel_rfl) (fun _ _ _ h => h) (Or.inl ⟨by kernel_rfl, fun w' hS => by go_simp⟩) (by assumption) ?_
          simp only [List.setIfInBounds_toArray, List.set_cons_zero, List.set_cons_succ]
          refine takeD (i := 17) (d := 54) (v := (.int .i64 f)) rfl (by kernel_rfl) (by kernel_rfl) (by kernel_rfl) (by kernel_rfl) (fun _ _ _ h => h) (Or.inl ⟨by kernel_rfl, fun w' hS => by have g0 := hS.cell q1 (onB_not hsr); go_simp⟩) (by assumption) ?_
          simp only [List.setIfInBounds_toArray, List.set_cons_zero, List.set_cons_succ]
          refine takeD (i := 18) (d := 55) (v := (.pointer (some ⟨sb, 1, none⟩))) rfl (by kernel_rfl) (by kernel_rfl) (by kernel_rfl) (by kernel_rfl) (fun _ _ _ h => h) (Or.inl ⟨by kernel_rfl, fun w' hS => by go_simp⟩) (by assumption) ?_
          simp only [List.setIfInBounds_toArray, List.set_cons_zero, List.set_cons_succ]
          refine takeD (i := 19) (d := 56) (v := (.int .i64 f)) rfl (by kernel_rfl) (by kernel_rfl) (by kernel_rfl) (by kernel_rfl) (fun _ _ _ h => h) (Or.inl ⟨by kernel_rfl, fun w' hS => by have g0 := hS.cell q1 (onB_not hsr); go_simp⟩) (by assumption) ?_
          simp only [List.setIfInBounds_toArray, List.set_cons_zero, List.set_cons_succ]
          refine wpAnyH_ready (rs := [20]) (by kernel_rfl) (by simp) ?_
          refine AllReadyH.cons (o := _) rfl (fun K hK => ?_) AllReadyH.nil
          rw [if_pos (by kernel_rfl)]
          go_simp
          refine HOF.out.mono ?_
          rintro e w2 ⟨bl, M2, rfl, hbl, hI2, hE2, hk2⟩
          go_simp
          refine hK.out _ _ (hHeld.trans hk2) (fun hHeld1 => ?_)
          clear hK K
          try simp only [Act.put, List.setIfInBounds_toArray, List.set_cons_zero, List.set_cons_succ]
          have HR2 := Lib.hid (HML.out w2 M2 hI2 hE2)
          have HBL := Lib.hid (And.intro hbl (And.intro hI2 (And.intro hE2 hk2)))
          clear hbl hI2 hE2
          cases bl with
          | false =>
            refine takeD (i := 21) (d := 58) (v := (.bool false)) rfl (by kernel_rfl) (by kernel_rfl) (by kernel_rfl) (by kernel_rfl) (fun _ _ _ h => h) (Or.inl ⟨by kernel_rfl, fun w' hS => by go_simp⟩) (by assumption) ?_
            simp only [List.setIfInBounds_toArray, List.set_cons_zero, List.set_cons_succ]
            refine takeD (i := 22) (d := 59) (v := (.bool false)) rfl (by kernel_rfl) (by kernel_rfl) (by kernel_rfl) (by kernel_rfl) (fun _ _ _ h => h) (Or.inl ⟨by kernel_rfl, fun w' hS => by go_simp⟩) (by assumption) ?_
            simp only [List.setIfInBounds_toArray, List.set_cons_zero, List.set_cons_succ]
            refine takeD (i := 23) (d := 60) (v := undef) rfl (by kernel_rfl) (by kernel_rfl) (by kernel_rfl) (by kernel_rfl) (fun _ _ _ h => h) (Or.inr ⟨by kernel_rfl, rfl⟩) (by assumption) ?_
            simp only [List.setIfInBounds_toArray, List.set_cons_zero, List.set_cons_succ]
            refine takeD (i := 24) (d := 61) (v := undef) rfl (by kernel_rfl) (by kernel_rfl) (by kernel_rfl) (by kernel_rfl) (fun _ _ _ h => h) (Or.inr ⟨by kernel_rfl, rfl⟩) (by assumption) ?_
            simp only [List.setIfInBounds_toArray, List.set_cons_zero, List.set_cons_succ]
            refine takeD (i := 25) (d := 62) (v := undef) rfl (by kernel_rfl) (by kernel_rfl) (by kernel_rfl) (by kernel_rfl) (fun _ _ _ h => h) (Or.inr ⟨by kernel_rfl, rfl⟩) (by assumption) ?_
            simp only [List.setIfInBounds_toArray, List.set_cons_zero, List.set_cons_succ]
            refine takeD (i := 26) (d := 63) (v := undef) rfl (by kernel_rfl) (by kernel_rfl) (by kernel_rfl) (by kernel_rfl) (fun _ _ _ h => h) (Or.inr ⟨by kernel_rfl, rfl⟩) (by assumption) ?_
            simp only [List.setIfInBounds_toArray, List.set_cons_zero, List.set_cons_succ]
            refine takeD (i := 27) (d := 64) (v := undef) rfl (by kernel_rfl) (by kernel_rfl) (by kernel_rfl) (by kernel_rfl) (fun _ _ _ h => h) (Or.inr ⟨by kernel_rfl, rfl⟩) (by assumption) ?_
            simp only [List.setIfInBounds_toArray, List.set_cons_zero, List.set_cons_succ]
            refine takeD (i := 28) (d := 65) (v := undef) rfl (by kernel_rfl) (by kernel_rfl) (by kernel_rfl) (by kernel_rfl) (fun _ _ _ h => h) (Or.inr ⟨by kernel_rfl, rfl⟩) (by assumption) ?_
            simp only [List.setIfInBounds_toArray, List.set_cons_zero, List.set_cons_succ]
            refine takeD (i := 29) (d := 66) (v := undef) rfl (by kernel_rfl) (by kernel_rfl) (by kernel_rfl) (by kernel_rfl) (fun _ _ _ h => h) (Or.inr ⟨by kernel_rfl, rfl⟩) (by assumption) ?_
            simp only [List.setIfInBounds_toArray, List.set_cons_zero, List.set_cons_succ]
            refine takeD (i := 30) (d := 67) (v := undef) rfl (by kernel_rfl) (by kernel_rfl) (by kernel_rfl) (by kernel_rfl) (fun _ _ _ h => h) (Or.inr ⟨by kernel_rfl, rfl⟩) (by assumption) ?_
            simp only [List.setIfInBounds_toArray, List.set_cons_zero, List.set_cons_succ]
            refine takeD (i := 31) (d := 68) (v := undef) rfl (by kernel_rfl) (by kernel_rfl) (by kernel_rfl) (by kernel_rfl) (fun _ _ _ h => h) (Or.inr ⟨by kernel_rfl, rfl⟩) (by assumption) ?_
            simp only [List.setIfInBounds_toArray, List.set_cons_zero, List.set_cons_succ]
            refine takeD (i := 32) (d := 69) (v := undef) rfl (by kernel_rfl) (by kernel_rfl) (by kernel_rfl) (by kernel_rfl) (fun _ _ _ h => h) (Or.inr ⟨by kernel_rfl, rfl⟩) (by assumption) ?_
            simp only [List.setIfInBounds_toArray, List.set_cons_zero, List.set_cons_succ]
            refine takeD (i := 33) (d := 70) (v := undef) rfl (by kernel_rfl) (by kernel_rfl) (by kernel_rfl) (by kernel_rfl) (fun _ _ _ h => h) (Or.inr ⟨by kernel_rfl, rfl⟩) (by assumption) ?_
            simp only [List.setIfInBounds_toArray, List.set_cons_zero, List.set_cons_succ]
            refine takeD (i := 34) (d := 71) (v := (.bool false)) rfl (by kernel_rfl) (by kernel_rfl) (by kernel_rfl) (by kernel_rfl) (fun _ _ _ h => h) (Or.inl ⟨by kernel_rfl, fun w' hS => by go_simp⟩) (by assumption) ?_
            simp only [List.setIfInBounds_toArray, List.set_cons_zero, List.set_cons_succ]
            refine wpAnyH_done (by kernel_rfl) ?_ _
            have HMK2 := Lib.hid (And.intro HBL.out.2.1 (And.intro HBL.out.2.2.1 hHeld1))
            have HN : Hid (¬ ((n : Int) < mn ∧ Lg a (seg L f f) ∧ Tn mn mx (Lg a) (n + 1) (seg L f u))) := Lib.hid fun h => absurd (HBL.out.1.2 h.2.1) (by simp)
            clear hHeld HBL q0 q1 q2 q3 qx qb qb2 qk hHeld1 HR2
            go_wp2_with fail
            go_meet
            exact ⟨false, M2, rfl, Lib.hid ⟨fun h => (by cases h), fun h => absurd h HN.out⟩, HMK2⟩
          | true =>
            refine takeD (i := 21) (d := 58) (v := (.bool true)) rfl (by kernel_rfl) (by kernel_rfl) (by kernel_rfl) (by kernel_rfl) (fun _ _ _ h => h) (Or.inl ⟨by kernel_rfl, fun w' hS => by go_simp⟩) (by assumption) ?_
            simp only [List.setIfInBounds_toArray, List.set_cons_zero, List.set_cons_succ]
            refine takeD (i := 22) (d := 59) (v := (.bool true)) rfl (by kernel_rfl) (by kernel_rfl) (by kernel_rfl) (by kernel_rfl) (fun _ _ _ h => h) (Or.inl ⟨by kernel_rfl, fun w' hS => by go_simp⟩) (by assumption) ?_
            simp only [List.setIfInBounds_toArray, List.set_cons_zero, List.set_cons_succ]
            refine takeD (i := 23) (d := 60) (v := (.pointer (some ⟨mb, 0, none⟩))) rfl (by kernel_rfl) (by kernel_rfl) (by kernel_rfl) (by kernel_rfl) (fun _ _ _ h => h) (Or.inl ⟨by kernel_rfl, fun w' hS => by have g0 := hS.cell qx (onB_not hxr); go_simp⟩) (by assumption) ?_
            simp only [List.setIfInBounds_toArray, List.set_cons_zero, List.set_cons_succ]
            refine takeD (i := 24) (d := 61) (v := (.pointer (some ⟨sb, 0, none⟩))) rfl (by kernel_rfl) (by kernel_rfl) (by kernel_rfl) (by kernel_rfl) (fun _ _ _ h => h) (Or.inl ⟨by kernel_rfl, fun w' hS => by go_simp⟩) (by assumption) ?_
            simp only [List.setIfInBounds_toArray, List.set_cons_zero, List.set_cons_succ]
            refine takeD (i := 25) (d := 62) (v := (.pointer (some ⟨b, 0, none⟩))) rfl (by kernel_rfl) (by kernel_rfl) (by kernel_rfl) (by kernel_rfl) (fun _ _ _ h => h) (Or.inl ⟨by kernel_rfl, fun w' hS => by have g0 := hS.cell q0 (onB_not hsr); go_simp⟩) (by assumption) ?_
            simp only [List.setIfInBounds_toArray, List.set_cons_zero, List.set_cons_succ]
            refine takeD (i := 26) (d := 63) (v := (.pointer (some ⟨sb, 1, none⟩))) rfl (by kernel_rfl) (by kernel_rfl) (by kernel_rfl) (by kernel_rfl) (fun _ _ _ h => h) (Or.inl ⟨by kernel_rfl, fun w' hS => by go_simp⟩) (by assumption) ?_
            simp only [List.setIfInBounds_toArray, List.set_cons_zero, List.set_cons_succ]
            refine takeD (i := 27) (d := 64) (v := (.int .i64 f)) rfl (by kernel_rfl) (by kernel_rfl) (by kernel_rfl) (by kernel_rfl) (fun _ _ _ h => h) (Or.inl ⟨by kernel_rfl, fun w' hS => by have g0 := hS.cell q1 (onB_not hsr); go_simp⟩) (by assumption) ?_
            simp only [List.setIfInBounds_toArray, List.set_cons_zero, List.set_cons_succ]
            refine takeD (i := 28) (d := 65) (v := (.pointer (some ⟨sb, 2, none⟩))) rfl (by kernel_rfl) (by kernel_rfl) (by kernel_rfl) (by kernel_rfl) (fun _ _ _ h => h) (Or.inl ⟨by kernel_rfl, fun w' hS => by go_simp⟩) (by assumption) ?_
            simp only [List.setIfInBounds_toArray, List.set_cons_zero, List.set_cons_succ]
            refine takeD (i := 29) (d := 66) (v := (.int .i64 u)) rfl (by kernel_rfl) (by kernel_rfl) (by kernel_rfl) (by kernel_rfl) (fun _ _ _ h => h) (Or.inl ⟨by kernel_rfl, fun w' hS => by have g0 := hS.cell q2 (onB_not hsr); go_simp⟩) (by assumption) ?_
            simp only [List.setIfInBounds_toArray, List.set_cons_zero, List.set_cons_succ]
            refine takeD (i := 30) (d := 67) (v := (.int .i64 n)) rfl (by kernel_rfl) (by kernel_rfl) (by kernel_rfl) (by kernel_rfl) (fun _ _ _ h => h) (Or.inl ⟨by kernel_rfl, fun w' hS => by go_simp⟩) (by assumption) ?_
            simp only [List.setIfInBounds_toArray, List.set_cons_zero, List.set_cons_succ]
            refine takeD (i := 31) (d := 68) (v := (.int .i64 ((n : Int) + 1))) rfl (by kernel_rfl) (by kernel_rfl) (by kernel_rfl) (by kernel_rfl) (fun _ _ _ h => h) (Or.inl ⟨by kernel_rfl, fun w' hS => by go_simp⟩) (by assumption) ?_
            simp only [List.setIfInBounds_toArray, List.set_cons_zero, List.set_cons_succ]
            refine takeD (i := 32) (d := 69) (v := (.agg #[.pointer (some ⟨b, 0, none⟩), .int .i64 f, .int .i64 u, .int .i64 ((n : Int) + 1)])) rfl (by kernel_rfl) (by kernel_rfl) (by kernel_rfl) (by kernel_rfl) (fun _ _ _ h => h) (Or.inl ⟨by kernel_rfl, fun w' hS => by go_simp⟩) (by assumption) ?_
            simp only [List.setIfInBounds_toArray, List.set_cons_zero, List.set_cons_succ]
            refine wpAnyH_ready (rs := [33]) (by kernel_rfl) (by simp) ?_
            refine AllReadyH.cons (o := _) rfl (fun K hK => ?_) AllReadyH.nil
            rw [if_pos (by kernel_rfl)]
            go_simp
            refine HR2.out.mono ?_
            rintro e w3 ⟨bl2, M3, rfl, hbl2, hI3, hE3, hk3⟩
            go_simp
            refine hK.out _ _ (hHeld1.trans hk3) (fun hHeld2 => ?_)
            clear hK K
            try simp only [Act.put, List.setIfInBounds_toArray, List.set_cons_zero, List.set_cons_succ]
            have HBL2 := Lib.hid (And.intro hbl2 (And.intro hI3 (And.intro hE3 hk3)))
            clear hbl2 hI3 hE3
            cases bl2 with
            | false =>
              refine takeD (i := 34) (d := 71) (v := (.bool false)) rfl (by kernel_rfl) (by kernel_rfl) (by kernel_rfl) (by kernel_rfl) (fun _ _ _ h => h) (Or.inl ⟨by kernel_rfl, fun w' hS => by go_simp⟩) (by assumption) ?_
              simp only [List.setIfInBounds_toArray, List.set_cons_zero, List.set_cons_succ]
              refine wpAnyH_done (by kernel_rfl) ?_ _
              have HMK2 := Lib.hid (And.intro HBL2.out.2.1 (And.intro (HBL.out.2.2.1.trans HBL2.out.2.2.1) hHeld2))
              have HB2 := Lib.hid (And.intro HBL.out.1 HBL2.out.1)
              clear hHeld HBL HBL2 q0 q1 q2 q3 qx qb qb2 qk hHeld1 hHeld2 HR2
              go_wp2_with fail
              go_meet
              exact ⟨false, M3, rfl, Lib.hid ⟨fun h => (by cases h), fun h => absurd (HB2.out.2.2 h.2.2) (by simp)⟩, HMK2⟩
            | true =>
              refine takeD (i := 34) (d := 71) (v := (.bool true)) rfl (by kernel_rfl) (by kernel_rfl) (by kernel_rfl) (by kernel_rfl) (fun _ _ _ h => h) (Or.inl ⟨by kernel_rfl, fun w' hS => by go_simp⟩) (by assumption) ?_
              simp only [List.setIfInBounds_toArray, List.set_cons_zero, List.set_cons_succ]
              refine wpAnyH_done (by kernel_rfl) ?_ _
              have HMK2 := Lib.hid (And.intro HBL2.out.2.1 (And.intro (HBL.out.2.2.1.trans HBL2.out.2.2.1) hHeld2))
              have HB2 := Lib.hid (And.intro HBL.out.1 HBL2.out.1)
              clear hHeld HBL HBL2 q0 q1 q2 q3 qx qb qb2 qk hHeld1 hHeld2 HR2
              go_wp2_with fail
              go_meet
              exact ⟨true, M3, rfl, Lib.hid ⟨fun _ => ⟨HLT.out, HB2.out.1.1 (by simp), HB2.out.2.1 (by simp)⟩, fun _ => rfl⟩, HMK2⟩
        · have d5 : decide ((n : Int) < mn) = false := decide_eq_false hlt
          have HN : Hid (¬ ((n : Int) < mn ∧ Lg a (seg L f f) ∧ Tn mn mx (Lg a) (n + 1) (seg L f u))) := Lib.hid fun h => hlt h.1
          clear hlt
          go_quiet (fail)
          go_wp2_with fail
          go_meet
          exact ⟨false, M, rfl, Lib.hid ⟨fun h => (by cases h), fun h => absurd h HN.out⟩, Lib.hid ⟨HM0.out.keep ((Kp.refl noB w).drewN _), Ext.refl, (Kp.refl _ _).drewN _⟩⟩
      case rest =>
        obtain ⟨bl, M1, rfl, HBL, HMK⟩ := hcut
        cases bl with
        | true =>
          have HY := Lib.hid (HANS2.out.2 (.inl (HBL.out.1 rfl)))
          go_wp2_with fail
          go_ret
          exact ⟨true, M1, rfl, ⟨fun _ => HY.out, fun _ => rfl⟩, HMK.out.1, HMK.out.2.1, HMK.out.2.2⟩
        | false =>
          have HNO1 : Hid (¬ ((n : Int) < mn ∧ Lg a (seg L f f) ∧ Tn mn mx (Lg a) (n + 1) (seg L f u))) := Lib.hid fun h => absurd (HBL.out.2 h) (by simp)
          have p0 := HMK.out.2.2.cell s0 (onB_not hsr)
          have p1 := HMK.out.2.2.cell s1 (onB_not hsr)
          have p2 := HMK.out.2.2.cell b2 (onB_not hbr)
          have p3 := HMK.out.2.2.cell b3 (onB_not hbr)
          clear HBL
          go_upto_if 79 with (fail)
          go_cut [4] (fun s4 wd => s4 = .int .i64 NX ∧ wd = wc)
          case first =>
            by_cases hm : mx < 0
            · have d6 : decide (mx < 0) = true := decide_eq_true hm
              have HE := Lib.hid (HNX.out.1 hm)
              rcases Int.lt_or_le mn ((n : Int) + 1) with h9 | h9
              · have e9 : min ((n : Int) + 1) mn = mn := by omega
                go_wp2_with fail
                go_meet
                exact ⟨by rw [HE.out, e9], rfl⟩
              · have e9 : min ((n : Int) + 1) mn = (n : Int) + 1 := by omega
                go_wp2_with fail
                go_meet
                exact ⟨by rw [HE.out, e9], rfl⟩
            · have d6 : decide (mx < 0) = false := decide_eq_false hm
              have HE := Lib.hid (HNX.out.2 hm)
              have hm2 : 0 ≤ mx := by omega
              clear hm
              go_wp2_with fail
              go_meet
              exact ⟨by rw [HE.out], rfl⟩
          case rest =>
            obtain ⟨rfl, hw⟩ := hcut
            have hw := hw.symm
            subst hw
            have HM1 := HMK
            clear HMORE HCOND HNX p2 p3
            go_wp2_with fail
            go_loopw [5] (fun c' wr => ∃ (j : Nat) (Mk : List (Ky × Int)), f + 1 ≤ j ∧ j ≤ u + 1 ∧ c' = .int .i64 j ∧ Hid (∀ i, f + 1 ≤ i → i < j → ¬ (Lg a (seg L f i) ∧ Tn mn mx (Lg a) NX (seg L i u))) ∧ Hid (MI w0 wr r Mk ∧ Ext w0 r L RK M Mk ∧ Kp (onB r) w wr)) (fun c' _ => u + 1 - (intOf c').toNat)
            case atStart => exact ⟨f + 1, M1, Nat.le_refl _, by omega, by simp, Lib.hid fun i h1 h2 => by omega, HM1⟩
            case round =>
              clear p0 p1 HMK HM1
              obtain ⟨j, Mk, hfj, hju, rfl, HNO, HMK⟩ := hrel
              have q2 := HMK.out.2.2.cell s2 (onB_not hsr)
              rcases Nat.lt_or_ge u j with hgt | hle
              · have hb2 : decide ((j : Int) ≤ (u : Int)) = false := decide_eq_false (by omega)
                go_wp2_with fail
                go_ret
                refine ⟨false, Mk, rfl, ⟨fun h => (by cases h), fun h => ?_⟩, HMK.out.1, HMK.out.2.1, HMK.out.2.2⟩
                rcases HANS2.out.1 h with h | ⟨i, h1, h2, h3⟩
                · exact absurd h HNO1.out
                · exact absurd h3 (HNO.out i h1 (by omega))
              · have hb2 : decide ((j : Int) ≤ (u : Int)) = true := decide_eq_true (by omega)
                have q0 := HMK.out.2.2.cell s0 (onB_not hsr)
                have q1 := HMK.out.2.2.cell s1 (onB_not hsr)
                have qx := HMK.out.2.2.cell x0 (onB_not hxr)
                have qb := HMK.out.2.2.cell b4 (onB_not hbr)
                have qk := HMK.out.2.2.cell kc (onB_not hgr)
                have HROW : Hid (∀ (w2 : World) (M2 : List (Ky × Int)), MI w0 w2 r M2 → Ext w0 r L RK Mk M2 → Calls Tryz.prog 100 #[.pointer (some ⟨mb, 0, none⟩), .agg #[.pointer (some ⟨b, 0, none⟩), .int .i64 j, .int .i64 u, .int .i64 NX]] w2 (MP w0 w2 r L RK M2 (Tn mn mx (Lg a) NX (seg L j u)))) := Lib.hid fun w2 M2 h1 h2 => HNEXT.out j w2 M2 (by omega) hle h1 (HMK.out.2.1.trans h2)
                have HOF := Lib.hid (HOFX.out j wr.drew Mk (by omega) hle (HMK.out.1.keep (Kp.refl noB wr).drew) HMK.out.2.1)
                go_upto_region 14 with (fail)
                refine wp_region_held_drew (S := fun w' => Kp (onB r) wr w') (by kernel_rfl) (Kp.refl _ _).drew (fun hHeld => ?_)
                refine takeD (i := 0) (d := 96) (v := (.pointer (some ⟨mb, 0, none⟩))) rfl (by kernel_rfl) (by kernel_rfl) (by kernel_rfl) (by kernel_rfl) (fun _ _ _ h => h) (Or.inl ⟨by kernel_rfl, fun w' hS => by have g0 := hS.cell qx (onB_not hxr); go_simp⟩) (by assumption) ?_
                simp only [List.setIfInBounds_toArray, List.set_cons_zero, List.set_cons_succ]
                refine takeD (i := 1) (d := 97) (v := (.pointer (some ⟨sb, 0, none⟩))) rfl (by kernel_rfl) (by kernel_rfl) (by kernel_rfl) (by kernel_rfl) (fun _ _ _ h => h) (Or.inl ⟨by kernel_rfl, fun w' hS => by go_simp⟩) (by assumption) ?_
                simp only [List.setIfInBounds_toArray, List.set_cons_zero, List.set_cons_succ]
                refine takeD (i := 2) (d := 98) (v := (.pointer (some ⟨b, 0, none⟩))) rfl (by kernel_rfl) (by kernel_rfl) (by kernel_rfl) (by kernel_rfl) (fun _ _ _ h => h) (Or.inl ⟨by kernel_rfl, fun w' hS => by have g0 := hS.cell q0 (onB_not hsr); go_simp⟩) (by assumption) ?_
                simp only [List.setIfInBounds_toArray, List.set_cons_zero, List.set_cons_succ]
                refine takeD (i := 3) (d := 99) (v := (.pointer (some ⟨b, 0, none⟩))) rfl (by kernel_rfl) (by kernel_rfl) (by kernel_rfl) (by kernel_rfl) (fun _ _ _ h => h) (Or.inl ⟨by kernel_rfl, fun w' hS => by go_simp⟩) (by assumption) ?_
                simp only [List.setIfInBounds_toArray, List.set_cons_zero, List.set_cons_succ]
                refine takeD (i := 4) (d := 100) (v := (.pointer (some ⟨b, 4, none⟩))) rfl (by kernel_rfl) (by kernel_rfl) (by kernel_rfl) (by kernel_rfl) (fun _ _ _ h => h) (Or.inl ⟨by kernel_rfl, fun w' hS => by go_simp⟩) (by assumption) ?_
                simp only [List.setIfInBounds_toArray, List.set_cons_zero, List.set_cons_succ]
                refine takeD (i := 5) (d := 101) (v := (.slice (some ⟨g, off, none⟩) 1 cap2)) rfl (by kernel_rfl) (by kernel_rfl) (by kernel_rfl) (by kernel_rfl) (fun _ _ _ h => h) (Or.inl ⟨by kernel_rfl, fun w' hS => by have g0 := hS.cell qb (onB_not hbr); go_simp⟩) (by assumption) ?_
                simp only [List.setIfInBounds_toArray, List.set_cons_zero, List.set_cons_succ]
                refine takeD (i := 6) (d := 102) (v := (.pointer (some ⟨g, off, none⟩))) rfl (by kernel_rfl) (by kernel_rfl) (by kernel_rfl) (by kernel_rfl) (fun _ _ _ h => h) (Or.inl ⟨by kernel_rfl, fun w' hS => by go_simp⟩) (by assumption) ?_
                simp only [List.setIfInBounds_toArray, List.set_cons_zero, List.set_cons_succ]
                refine takeD (i := 7) (d := 103) (v := (.pointer (some ⟨c, 0, none⟩))) rfl (by kernel_rfl) (by kernel_rfl) (by kernel_rfl) (by kernel_rfl) (fun _ _ _ h => h) (Or.inl ⟨by kernel_rfl, fun w' hS => by have g0 := hS.cell qk (onB_not hgr); go_simp⟩) (by assumption) ?_
                simp only [List.setIfInBounds_toArray, List.set_cons_zero, List.set_cons_succ]
                refine takeD (i := 8) (d := 104) (v := (.pointer (some ⟨sb, 1, none⟩))) rfl (by kernel_rfl) (by kernel_rfl) (by kernel_rfl) (by kernel_rfl) (fun _ _ _ h => h) (Or.inl ⟨by kernel_rfl, fun w' hS => by go_simp⟩) (by assumption) ?_
                simp only [List.setIfInBounds_toArray, List.set_cons_zero, List.set_cons_succ]
                refine takeD (i := 9) (d := 105) (v := (.int .i64 f)) rfl (by kernel_rfl) (by kernel_rfl) (by kernel_rfl) (by kernel_rfl) (fun _ _ _ h => h) (Or.inl ⟨by kernel_rfl, fun w' hS => by have g0 := hS.cell q1 (onB_not hsr); go_simp⟩) (by assumption) ?_
                simp only [List.setIfInBounds_toArray, List.set_cons_zero, List.set_cons_succ]
                refine takeD (i := 10) (d := 106) (v := (.int .i64 j)) rfl (by kernel_rfl) (by kernel_rfl) (by kernel_rfl) (by kernel_rfl) (fun _ _ _ h => h) (Or.inl ⟨by kernel_rfl, fun w' hS => by go_simp⟩) (by assumption) ?_
                simp only [List.setIfInBounds_toArray, List.set_cons_zero, List.set_cons_succ]
                refine wpAnyH_ready (rs := [11]) (by kernel_rfl) (by simp) ?_
                refine AllReadyH.cons (o := _) rfl (fun K hK => ?_) AllReadyH.nil
                rw [if_pos (by kernel_rfl)]
                go_simp
                refine HOF.out.mono ?_
                rintro e w2 ⟨bl, M2, rfl, hbl, hI2, hE2, hk2⟩
                go_simp
                refine hK.out _ _ (hHeld.trans hk2) (fun hHeld1 => ?_)
                clear hK K
                try simp only [Act.put, List.setIfInBounds_toArray, List.set_cons_zero, List.set_cons_succ]
                have HR2 := Lib.hid (HROW.out w2 M2 hI2 hE2)
                have HBL := Lib.hid (And.intro hbl (And.intro hI2 (And.intro hE2 hk2)))
                clear hbl hI2 hE2
                cases bl with
                | false =>
                  refine takeD (i := 12) (d := 108) (v := (.bool false)) rfl (by kernel_rfl) (by kernel_rfl) (by kernel_rfl) (by kernel_rfl) (fun _ _ _ h => h) (Or.inl ⟨by kernel_rfl, fun w' hS => by go_simp⟩) (by assumption) ?_
                  simp only [List.setIfInBounds_toArray, List.set_cons_zero, List.set_cons_succ]
                  refine takeD (i := 13) (d := 109) (v := undef) rfl (by kernel_rfl) (by kernel_rfl) (by kernel_rfl) (by kernel_rfl) (fun _ _ _ h => h) (Or.inr ⟨by kernel_rfl, rfl⟩) (by assumption) ?_
                  simp only [List.setIfInBounds_toArray, List.set_cons_zero, List.set_cons_succ]
                  refine takeD (i := 14) (d := 110) (v := undef) rfl (by kernel_rfl) (by kernel_rfl) (by kernel_rfl) (by kernel_rfl) (fun _ _ _ h => h) (Or.inr ⟨by kernel_rfl, rfl⟩) (by assumption) ?_
                  simp only [List.setIfInBounds_toArray, List.set_cons_zero, List.set_cons_succ]
                  refine takeD (i := 15) (d := 111) (v := undef) rfl (by kernel_rfl) (by kernel_rfl) (by kernel_rfl) (by kernel_rfl) (fun _ _ _ h => h) (Or.inr ⟨by kernel_rfl, rfl⟩) (by assumption) ?_
                  simp only [List.setIfInBounds_toArray, List.set_cons_zero, List.set_cons_succ]
                  refine takeD (i := 16) (d := 112) (v := undef) rfl (by kernel_rfl) (by kernel_rfl) (by kernel_rfl) (by kernel_rfl) (fun _ _ _ h => h) (Or.inr ⟨by kernel_rfl, rfl⟩) (by assumption) ?_
                  simp only [List.setIfInBounds_toArray, List.set_cons_zero, List.set_cons_succ]
                  refine takeD (i := 17) (d := 113) (v := undef) rfl (by kernel_rfl) (by kernel_rfl) (by kernel_rfl) (by kernel_rfl) (fun _ _ _ h => h) (Or.inr ⟨by kernel_rfl, rfl⟩) (by assumption) ?_
                  simp only [List.setIfInBounds_toArray, List.set_cons_zero, List.set_cons_succ]
                  refine takeD (i := 18) (d := 114) (v := undef) rfl (by kernel_rfl) (by kernel_rfl) (by kernel_rfl) (by kernel_rfl) (fun _ _ _ h => h) (Or.inr ⟨by kernel_rfl, rfl⟩) (by assumption) ?_
                  simp only [List.setIfInBounds_toArray, List.set_cons_zero, List.set_cons_succ]
                  refine takeD (i := 19) (d := 115) (v := undef) rfl (by kernel_rfl) (by kernel_rfl) (by kernel_rfl) (by kernel_rfl) (fun _ _ _ h => h) (Or.inr ⟨by kernel_rfl, rfl⟩) (by assumption) ?_
                  simp only [List.setIfInBounds_toArray, List.set_cons_zero, List.set_cons_succ]
                  refine takeD (i := 20) (d := 116) (v := undef) rfl (by kernel_rfl) (by kernel_rfl) (by kernel_rfl) (by kernel_rfl) (fun _ _ _ h => h) (Or.inr ⟨by kernel_rfl, rfl⟩) (by assumption) ?_
                  simp only [List.setIfInBounds_toArray, List.set_cons_zero, List.set_cons_succ]
                  refine takeD (i := 21) (d := 117) (v := undef) rfl (by kernel_rfl) (by kernel_rfl) (by kernel_rfl) (by kernel_rfl) (fun _ _ _ h => h) (Or.inr ⟨by kernel_rfl, rfl⟩) (by assumption) ?_
                  simp only [List.setIfInBounds_toArray, List.set_cons_zero, List.set_cons_succ]
                  refine takeD (i := 22) (d := 118) (v := (.bool false)) rfl (by kernel_rfl) (by kernel_rfl) (by kernel_rfl) (by kernel_rfl) (fun _ _ _ h => h) (Or.inl ⟨by kernel_rfl, fun w' hS => by go_simp⟩) (by assumption) ?_
                  simp only [List.setIfInBounds_toArray, List.set_cons_zero, List.set_cons_succ]
                  refine wpAnyH_done (by kernel_rfl) ?_ _
                  have HN2 : Hid (∀ i, f + 1 ≤ i → i < j + 1 → ¬ (Lg a (seg L f i) ∧ Tn mn mx (Lg a) NX (seg L i u))) := Lib.hid fun i h1 h2 h3 => by
                    rcases Nat.lt_or_ge i j with h | h
                    · exact HNO.out i h1 h h3
                    · obtain rfl : i = j := by omega
                      exact absurd (HBL.out.1.2 h3.1) (by simp)
                  have HMK2 := Lib.hid (And.intro HBL.out.2.1 (And.intro (HMK.out.2.1.trans HBL.out.2.2.1) (HMK.out.2.2.trans hHeld1)))
                  clear hHeld HBL q0 q1 qx qb qk q2 hHeld1 HR2
                  go_wp2_with fail
                  go_roundw
                  case rel => exact ⟨j + 1, _, by omega, by omega, by simp, HN2, HMK2⟩
                  case measure => simp only [intOf]; omega
                | true =>
                  refine takeD (i := 12) (d := 108) (v := (.bool true)) rfl (by kernel_rfl) (by kernel_rfl) (by kernel_rfl) (by kernel_rfl) (fun _ _ _ h => h) (Or.inl ⟨by kernel_rfl, fun w' hS => by go_simp⟩) (by assumption) ?_
                  simp only [List.setIfInBounds_toArray, List.set_cons_zero, List.set_cons_succ]
                  refine takeD (i := 13) (d := 109) (v := (.pointer (some ⟨mb, 0, none⟩))) rfl (by kernel_rfl) (by kernel_rfl) (by kernel_rfl) (by kernel_rfl) (fun _ _ _ h => h) (Or.inl ⟨by kernel_rfl, fun w' hS => by have g0 := hS.cell qx (onB_not hxr); go_simp⟩) (by assumption) ?_
                  simp only [List.setIfInBounds_toArray, List.set_cons_zero, List.set_cons_succ]
                  refine takeD (i := 14) (d := 110) (v := (.pointer (some ⟨sb, 0, none⟩))) rfl (by kernel_rfl) (by kernel_rfl) (by kernel_rfl) (by kernel_rfl) (fun _ _ _ h => h) (Or.inl ⟨by kernel_rfl, fun w' hS => by go_simp⟩) (by assumption) ?_
                  simp only [List.setIfInBounds_toArray, List.set_cons_zero, List.set_cons_succ]
                  refine takeD (i := 15) (d := 111) (v := (.pointer (some ⟨b, 0, none⟩))) rfl (by kernel_rfl) (by kernel_rfl) (by kernel_rfl) (by kernel_rfl) (fun _ _ _ h => h) (Or.inl ⟨by kernel_rfl, fun w' hS => by have g0 := hS.cell q0 (onB_not hsr); go_simp⟩) (by assumption) ?_
                  simp only [List.setIfInBounds_toArray, List.set_cons_zero, List.set_cons_succ]
                  refine takeD (i := 16) (d := 112) (v := (.int .i64 j)) rfl (by kernel_rfl) (by kernel_rfl) (by kernel_rfl) (by kernel_rfl) (fun _ _ _ h => h) (Or.inl ⟨by kernel_rfl, fun w' hS => by go_simp⟩) (by assumption) ?_
                  simp only [List.setIfInBounds_toArray, List.set_cons_zero, List.set_cons_succ]
                  refine takeD (i := 17) (d := 113) (v := (.pointer (some ⟨sb, 2, none⟩))) rfl (by kernel_rfl) (by kernel_rfl) (by kernel_rfl) (by kernel_rfl) (fun _ _ _ h => h) (Or.inl ⟨by kernel_rfl, fun w' hS => by go_simp⟩) (by assumption) ?_
                  simp only [List.setIfInBounds_toArray, List.set_cons_zero, List.set_cons_succ]
                  refine takeD (i := 18) (d := 114) (v := (.int .i64 u)) rfl (by kernel_rfl) (by kernel_rfl) (by kernel_rfl) (by kernel_rfl) (fun _ _ _ h => h) (Or.inl ⟨by kernel_rfl, fun w' hS => by have g0 := hS.cell q2 (onB_not hsr); go_simp⟩) (by assumption) ?_
                  simp only [List.setIfInBounds_toArray, List.set_cons_zero, List.set_cons_succ]
                  refine takeD (i := 19) (d := 115) (v := (.int .i64 NX)) rfl (by kernel_rfl) (by kernel_rfl) (by kernel_rfl) (by kernel_rfl) (fun _ _ _ h => h) (Or.inl ⟨by kernel_rfl, fun w' hS => by go_simp⟩) (by assumption) ?_
                  simp only [List.setIfInBounds_toArray, List.set_cons_zero, List.set_cons_succ]
                  refine takeD (i := 20) (d := 116) (v := (.agg #[.pointer (some ⟨b, 0, none⟩), .int .i64 j, .int .i64 u, .int .i64 NX])) rfl (by kernel_rfl) (by kernel_rfl) (by kernel_rfl) (by kernel_rfl) (fun _ _ _ h => h) (Or.inl ⟨by kernel_rfl, fun w' hS => by go_simp⟩) (by assumption) ?_
                  simp only [List.setIfInBounds_toArray, List.set_cons_zero, List.set_cons_succ]
                  refine wpAnyH_ready (rs := [21]) (by kernel_rfl) (by simp) ?_
                  refine AllReadyH.cons (o := _) rfl (fun K hK => ?_) AllReadyH.nil
                  rw [if_pos (by kernel_rfl)]
                  go_simp
                  refine HR2.out.mono ?_
                  rintro e w3 ⟨bl2, M3, rfl, hbl2, hI3, hE3, hk3⟩
                  go_simp
                  refine hK.out _ _ (hHeld1.trans hk3) (fun hHeld2 => ?_)
                  clear hK K
                  try simp only [Act.put, List.setIfInBounds_toArray, List.set_cons_zero, List.set_cons_succ]
                  have HBL2 := Lib.hid (And.intro hbl2 (And.intro hI3 (And.intro hE3 hk3)))
                  clear hbl2 hI3 hE3
                  cases bl2 with
                  | false =>
                    refine takeD (i := 22) (d := 118) (v := (.bool false)) rfl (by kernel_rfl) (by kernel_rfl) (by kernel_rfl) (by kernel_rfl) (fun _ _ _ h => h) (Or.inl ⟨by kernel_rfl, fun w' hS => by go_simp⟩) (by assumption) ?_
                    simp only [List.setIfInBounds_toArray, List.set_cons_zero, List.set_cons_succ]
                    refine wpAnyH_done (by kernel_rfl) ?_ _
                    have HN2 : Hid (∀ i, f + 1 ≤ i → i < j + 1 → ¬ (Lg a (seg L f i) ∧ Tn mn mx (Lg a) NX (seg L i u))) := Lib.hid fun i h1 h2 h3 => by
                      rcases Nat.lt_or_ge i j with h | h
                      · exact HNO.out i h1 h h3
                      · obtain rfl : i = j := by omega
                        exact absurd (HBL2.out.1.2 h3.2) (by simp)
                    have HMK2 := Lib.hid (And.intro HBL2.out.2.1 (And.intro ((HMK.out.2.1.trans HBL.out.2.2.1).trans HBL2.out.2.2.1) (HMK.out.2.2.trans hHeld2)))
                    clear hHeld HBL q0 q1 qx qb qk q2 hHeld1 hHeld2 HBL2 HR2
                    go_wp2_with fail
                    go_roundw
                    case rel => exact ⟨j + 1, _, by omega, by omega, by simp, HN2, HMK2⟩
                    case measure => simp only [intOf]; omega
                  | true =>
                    refine takeD (i := 22) (d := 118) (v := (.bool true)) rfl (by kernel_rfl) (by kernel_rfl) (by kernel_rfl) (by kernel_rfl) (fun _ _ _ h => h) (Or.inl ⟨by kernel_rfl, fun w' hS => by go_simp⟩) (by assumption) ?_
                    simp only [List.setIfInBounds_toArray, List.set_cons_zero, List.set_cons_succ]
                    refine wpAnyH_done (by kernel_rfl) ?_ _
                    have HMK2 := Lib.hid (And.intro HBL2.out.2.1 (And.intro ((HMK.out.2.1.trans HBL.out.2.2.1).trans HBL2.out.2.2.1) (HMK.out.2.2.trans hHeld2)))
                    have HYES := Lib.hid (HANS2.out.2 (.inr ⟨j, hfj, hle, HBL.out.1.1 rfl, HBL2.out.1.1 rfl⟩))
                    clear hHeld HBL q0 q1 qx qb qk q2 hHeld1 hHeld2 HBL2 HR2
                    go_wp2_with fail
                    go_ret
                    exact ⟨true, _, rfl, ⟨fun _ => HYES.out, fun _ => rfl⟩, HMK2.out.1, HMK2.out.2.1, HMK2.out.2.2⟩
end
end Go.Proofs.YtoijabgcgdgacaaGreatDoor

namespace Go.Proofs.YtoijabgcgdgacaaGreatDoor
open Go.RowKit Go.Proofs.Gram Go.Lib

section
variable {w0 : World} {r mb N cap : Nat} {A : Option Addr} {L : List Int}

theorem times_any {set : List (Int × Int)} {mn mx : Int} {a : Rx} (hW : MW w0 r mb A N cap L) (hne : a ≠ .nil) (h0 : 0 ≤ mn ∧ mn ≤ 50) (h1 : mx = -1 ∨ (1 ≤ mx ∧ mn ≤ mx ∧ mx ≤ 50)) (hof : OfC w0 r mb L a) (b : Nat) (ht : NT w0 r b (.mk 6 set mn mx [a])) :
    ∀ (m n f u : Nat), (u - f) * 60 + (60 - n) = m → (mx < 0 ∨ (n : Int) ≤ mx) → n ≤ 50 → f ≤ u → u ≤ L.length → KeyAt 100 w0 r mb L (.mk 6 set mn mx [a]) b f u n := by
  intro m
  induction m using Nat.strongRecOn with
  | ind m ih =>
    intro n f u hm hnx hn hfu huL
    refine key_call100 hW ht fun sb xb w M s0 s1 s2 s3 x0 hsr hxr hI hg => times_body hW ht hne h0 h1 hnx hn hfu huL s0 s1 s2 s3 x0 hsr hxr hI hg hof (fun h => ?_) fun hb i hi1 hi2 => ?_
    · exact ih _ (by omega) (n + 1) f u rfl (by omega) (by omega) hfu huL
    · have hnn : nxt mn mx n ≤ 50 ∧ (mx < 0 ∨ (nxt mn mx n : Int) ≤ mx) := by
        unfold nxt
        split
        · exact ⟨by omega, .inl (by assumption)⟩
        · omega
      exact ih _ (by omega) (nxt mn mx n) i u rfl hnn.2 hnn.1 hi2 huL
end
end Go.Proofs.YtoijabgcgdgacaaGreatDoor
