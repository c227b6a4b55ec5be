/-
  WALKS, mr: the program's matcher: a row, from one of its kids on.
  WALKS, ms: the program's matcher: a row.
-/
import Derived.Test.YtoijabgcgdgacaaGreatDoorMF
import Derived.Test.YtoijabgcgdgacaaGreatDoorGH
namespace Go.Proofs.YtoijabgcgdgacaaGreatDoor
open Go.RowKit Go.Proofs.Gram Go.Lib

/-- A take, its slot named. -/
theorem takeD {P : Program} {ops : Array Oper} {Q : Exit → Act → World → Prop} {md : Region.Mode} {S : World → Prop} {i d : Nat} {oi : Oper} {v : Value} {fuel : Nat} {ls : Array Bool} {tm : Array Value} {D : List Deferred} {w : World} (hi : ops[i]? = some oi) (hd : oi.dst = some d)
    (hs : Region.noSelect ops = true) (hf : Region.free md ops ls i = true) (hr : (Region.ready md ops ls).contains i = true)
    (hQ : ∀ c a w, Q (.panic c) { a with tmps := a.tmps.setIfInBounds d v } w → Q (.panic c) a w) (hy : YieldsIf P ops S oi v ⟨tm, D⟩) (hS : S w)
    (h : wpAnyH P md ops Q S fuel (ls.setIfInBounds i true) ⟨tm.setIfInBounds d v, D⟩ w) : wpAnyH P md ops Q S (fuel + 1) ls ⟨tm, D⟩ w := by
  refine wpAnyH_take hi hs hf hr ?_ hy hS ?_
  · intro c a w
    rw [hd]
    exact hQ c a w
  · rw [hd]
    exact h

/-- What the matcher tells of a pattern between two places. -/
def OfC (w0 : World) (r mb : Nat) (L : List Int) (x : Rx) : Prop := ∀ (b f u : Nat) (w : World) (M : List (Ky × Int)), NT w0 r b x → f ≤ u → u ≤ L.length → MI w0 w r M → Good w0 r L (base (SizeOf.sizeOf x + 1)) M →
  Calls Tryz.prog 48 #[.pointer (some ⟨mb, 0, none⟩), .pointer (some ⟨b, 0, none⟩), .int .i64 f, .int .i64 u] w (MP w0 w r L (base (SizeOf.sizeOf x + 1)) M (Lg x (seg L f u)))
/-- What it tells of a key. -/
def KeyC (F : Nat) (w0 : World) (r mb : Nat) (L : List Int) (t : Rx) (n : Nat) : Prop := ∀ (b f u : Nat) (w : World) (M : List (Ky × Int)), NT w0 r b t → f ≤ u → u ≤ L.length → MI w0 w r M → Good w0 r L (rank t ⟨b, f, u, n⟩ + 1) M →
  Calls Tryz.prog F #[.pointer (some ⟨mb, 0, none⟩), .agg #[.pointer (some ⟨b, 0, none⟩), .int .i64 f, .int .i64 u, .int .i64 n]] w (MP w0 w r L (rank t ⟨b, f, u, n⟩ + 1) M (AnsK L t ⟨b, f, u, n⟩))

def KeyAt (F : Nat) (w0 : World) (r mb : Nat) (L : List Int) (t : Rx) (b f u n : Nat) : Prop := ∀ (w : World) (M : List (Ky × Int)), MI w0 w r M → Good w0 r L (rank t ⟨b, f, u, n⟩ + 1) M →
  Calls Tryz.prog F #[.pointer (some ⟨mb, 0, none⟩), .agg #[.pointer (some ⟨b, 0, none⟩), .int .i64 f, .int .i64 u, .int .i64 n]] w (MP w0 w r L (rank t ⟨b, f, u, n⟩ + 1) M (AnsK L t ⟨b, f, u, n⟩))

/-- The kids of a pattern, as they lie. -/
theorem NT.kids {w0 : World} {r b : Nat} {k mn mx : Int} {s : List (Int × Int)} {kids : List Rx} (h : NT w0 r b (.mk k s mn mx kids)) (hne : ∀ x ∈ kids, x ≠ .nil) : ∃ A cap, w0.cell? ⟨b, 0, none⟩ = some (.int .i64 k) ∧ w0.cell? ⟨b, 2, none⟩ = some (.int .i64 mn) ∧ w0.cell? ⟨b, 3, none⟩ = some (.int .i64 mx) ∧
    w0.cell? ⟨b, 4, none⟩ = some (.slice A kids.length cap) ∧ b ≠ r ∧ kids.length ≤ 9223372036854775807 ∧ ∀ i x, kids[i]? = some x → ∃ g off c, A = some ⟨g, off, none⟩ ∧ g ≠ r ∧ w0.cell? ⟨g, off + i, none⟩ = some (.pointer (some ⟨c, 0, none⟩)) ∧ NT w0 r c x := by
  obtain ⟨b', sv, kv, ps, e, hb, hok, hrs, hkc, hpl, hkid⟩ := IsRe.inv h
  simp only [Value.pointer.injEq, Option.some.injEq, Addr.mk.injEq, and_true] at e
  subst e
  obtain ⟨A, cap, rfl, hkl, hcs⟩ := cells_open hkc
  refine ⟨A, cap, by simp [World.cell?, hb], by simp [World.cell?, hb], by simp [World.cell?, hb], by simp [World.cell?, hb], hok, hkl, fun i x hx => ?_⟩
  obtain ⟨u, hu⟩ : ∃ u, ps[i]? = some u := ⟨ps[i]'(by have := (List.getElem?_eq_some_iff.1 hx).1; omega), by simp⟩
  obtain ⟨g, off, hA, hg, _, hcu⟩ := hcs i u hu
  have hre := hkid i u x hu hx
  cases x with
  | nil => exact absurd rfl (hne _ (List.mem_of_getElem? hx))
  | mk k' s' mn' mx' kids' =>
    obtain ⟨c, _, _, _, rfl, _⟩ := hre.inv
    exact ⟨g, off, c, hA, hg, hcu, hre⟩

section
variable {w0 : World} {r mb b f u n cap N cap2 : Nat} {A : Option Addr} {L : List Int} {set : List (Int × Int)} {mn mx : Int} {kids : List Rx}

set_option maxRecDepth 100000 in
set_option maxHeartbeats 4000000 in
theorem row_body (hW : MW w0 r mb A N cap L) (ht : NT w0 r b (.mk 2 set mn mx kids)) (hne : ∀ x ∈ kids, x ≠ .nil) (hfu : f ≤ u) (huL : u ≤ L.length) (hn : n ≤ kids.length) {sb xb : Nat} {w : World} {M : List (Ky × Int)}
    (s0 : w.cell? ⟨sb, 0, none⟩ = some (.pointer (some ⟨b, 0, none⟩))) (s1 : w.cell? ⟨sb, 1, none⟩ = some (.int .i64 f)) (s2 : w.cell? ⟨sb, 2, none⟩ = some (.int .i64 u)) (s3 : w.cell? ⟨sb, 3, none⟩ = some (.int .i64 n))
    (x0 : w.cell? ⟨xb, 0, none⟩ = some (.pointer (some ⟨mb, 0, none⟩))) (hsr : sb ≠ r) (hxr : xb ≠ r) (hI : MI w0 w r M) (hg : Good w0 r L (rank (.mk 2 set mn mx kids) ⟨b, f, u, n⟩) M)
    (hof : ∀ x ∈ kids, OfC w0 r mb L x) (hrow : n < kids.length → KeyC 99 w0 r mb L (.mk 2 set mn mx kids) (n + 1)) :
    Calls Tryz.prog 155 #[.pointer (some ⟨sb, 0, none⟩), .pointer (some ⟨xb, 0, none⟩)] w (MP w0 w r L (rank (.mk 2 set mn mx kids) ⟨b, f, u, n⟩) M (AnsK L (.mk 2 set mn mx kids) ⟨b, f, u, n⟩)) := by
  obtain ⟨KA, cap2, _, _, _, b4', hbr, hkl, hkids⟩ := ht.kids hne
  have b4 := hI.kp.cell b4' (onB_not hbr)
  have hu40 : u ≤ 40 := by have := hW.len; have := hW.small; omega
  have HANS : Hid (AnsK L (.mk 2 set mn mx kids) ⟨b, f, u, n⟩ ↔ if n = kids.length then f = u else ∃ x, kids[n]? = some x ∧ ∃ i, f ≤ i ∧ i ≤ u ∧ Lg x (seg L f i) ∧ LgC (kids.drop (n + 1)) (seg L i u)) := Lib.hid (by
    rw [AnsK, if_pos rfl]
    exact of_row L hfu huL kids n hn)
  have HM0 : Hid (MI w0 w r M) := Lib.hid hI
  by_cases hnk : n = kids.length
  · have hb0 : ((n : Int) == (kids.length : Int)) = true := beq_iff_eq.2 (by omega)
    rw [if_pos hnk] at HANS
    have hb1 : ((f : Int) == (u : Int)) = decide (f = u) := by
      by_cases h : f = u
      · simp [h]
      · rw [decide_eq_false h]; exact beq_eq_false_iff_ne.2 (by omega)
    obtain ⟨K, hK⟩ : ∃ K, kids.length = K := ⟨_, rfl⟩
    rw [hK] at b4 hb0 hkl
    clear hkids hof hrow hg ht hW hne hI hn hnk hK b4'
    go_enter Tryz.func155, Tryz.ntmps155
    go_wp2_with fail
    go_quiet (fail)
    go_wp2_with fail
    go_ret
    refine ⟨decide (f = u), M, by rw [← hb1]; rfl, by rw [HANS.out]; simp, HM0.out.keep ((Kp.refl noB w).drewN _), Ext.refl, (Kp.refl _ _).drewN _⟩
  · have hlt : n < kids.length := by omega
    rw [if_neg hnk] at HANS
    have hb0 : ((n : Int) == (kids.length : Int)) = false := beq_eq_false_iff_ne.2 (by omega)
    obtain ⟨x, hx⟩ : ∃ x, kids[n]? = some x := ⟨kids[n], by simp [hlt]⟩
    obtain ⟨g, off, c, rfl, hgr, kc', hnt⟩ := hkids n x hx
    have kc := hI.kp.cell kc' (onB_not hgr)
    have hmem := List.mem_of_getElem? hx
    have hxs : SizeOf.sizeOf x < SizeOf.sizeOf (Rx.mk 2 set mn mx kids) := by
      have := List.sizeOf_lt_of_mem hmem
      simp only [Rx.mk.sizeOf_spec]
      omega
    have hB1 : base (SizeOf.sizeOf x + 1) ≤ rank (.mk 2 set mn mx kids) ⟨b, f, u, n⟩ := by
      have := base_le (show SizeOf.sizeOf x + 1 ≤ SizeOf.sizeOf (Rx.mk 2 set mn mx kids) by omega)
      unfold rank
      omega
    have hB2 : ∀ j, rank (.mk 2 set mn mx kids) ⟨b, j, u, n + 1⟩ + 1 ≤ rank (.mk 2 set mn mx kids) ⟨b, f, u, n⟩ := fun j => by
      unfold rank
      simp only [localK, if_true]
      omega
    have HOFX : Hid (∀ (j : Nat) (w1 : World) (M1 : List (Ky × Int)), f ≤ j → j ≤ u → MI w0 w1 r M1 → Ext w0 r L (rank (.mk 2 set mn mx kids) ⟨b, f, u, n⟩) M M1 →
        Calls Tryz.prog 48 #[.pointer (some ⟨mb, 0, none⟩), .pointer (some ⟨c, 0, none⟩), .int .i64 f, .int .i64 j] w1 (MP w0 w1 r L (rank (.mk 2 set mn mx kids) ⟨b, f, u, n⟩) M1 (Lg x (seg L f j)))) := Lib.hid fun j w1 M1 h1 h2 h3 h4 =>
      (hof x hmem c f j w1 M1 hnt h1 (by omega) h3 ((hg.ext h4).mono hB1)).mono fun e w' h => h.mono hB1 Iff.rfl
    have HROWX : Hid (∀ (j : Nat) (w1 : World) (M1 : List (Ky × Int)), f ≤ j → j ≤ u → MI w0 w1 r M1 → Ext w0 r L (rank (.mk 2 set mn mx kids) ⟨b, f, u, n⟩) M M1 →
        Calls Tryz.prog 99 #[.pointer (some ⟨mb, 0, none⟩), .agg #[.pointer (some ⟨b, 0, none⟩), .int .i64 j, .int .i64 u, .int .i64 ((n : Int) + 1)]] w1 (MP w0 w1 r L (rank (.mk 2 set mn mx kids) ⟨b, f, u, n⟩) M1 (LgC (kids.drop (n + 1)) (seg L j u)))) := Lib.hid fun j w1 M1 h1 h2 h3 h4 =>
      (hrow hlt b j u w1 M1 ht h2 huL h3 ((hg.ext h4).mono (hB2 j))).mono fun e w' h => h.mono (hB2 j) (by rw [AnsK, if_pos rfl])
    have HX := Lib.hid hx
    obtain ⟨K, hK⟩ : ∃ K, kids.length = K := ⟨_, rfl⟩
    rw [hK] at b4 hb0 hkl hlt
    have hn0 : (0 : Int) ≤ (n : Int) := by omega
    have hn1 : (n : Int) < (K : Int) := by omega
    generalize hRK : rank (.mk 2 set mn mx kids) ⟨b, f, u, n⟩ = RK at *
    clear hkids hof hrow hg ht hW hne hI hn hnk hK b4' kc' hnt hmem hxs hB1 hB2 hx hRK
    go_enter Tryz.func155, Tryz.ntmps155
    go_wp2_with fail
    go_quiet (fail)
    have HQ0 : Hid (MI w0 (w.drewN nq) r M ∧ Kp (onB r) w (w.drewN nq)) := Lib.hid ⟨HM0.out.keep ((Kp.refl noB w).drewN nq), (Kp.refl _ _).drewN _⟩
    have S0 := HQ0.out.2.cell s0 (onB_not hsr)
    have S1 := HQ0.out.2.cell s1 (onB_not hsr)
    have S2 := HQ0.out.2.cell s2 (onB_not hsr)
    have S3 := HQ0.out.2.cell s3 (onB_not hsr)
    have X0 := HQ0.out.2.cell x0 (onB_not hxr)
    have B4 := HQ0.out.2.cell b4 (onB_not hbr)
    have KC := HQ0.out.2.cell kc (onB_not hgr)
    generalize w.drewN nq = wq at *
    go_wp2_with fail
    go_loopw [3] (fun c' wr => ∃ (j : Nat) (Mk : List (Ky × Int)), f ≤ j ∧ j ≤ u + 1 ∧ c' = .int .i64 j ∧ Hid (∀ i, f ≤ i → i < j → ¬ (Lg x (seg L f i) ∧ LgC (kids.drop (n + 1)) (seg L i u))) ∧ Hid (MI w0 wr r Mk ∧ Ext w0 r L RK M Mk ∧ Kp (onB r) w wr)) (fun c' _ => u + 1 - (intOf c').toNat)
    case atStart => exact ⟨f, M, Nat.le_refl _, by omega, rfl, Lib.hid fun i h1 h2 => by omega, Lib.hid ⟨HQ0.out.1, Ext.refl, HQ0.out.2⟩⟩
    case round =>
      clear S0 S1 S2 S3 X0 B4 KC HQ0
      obtain ⟨j, Mk, hfj, hju, rfl, HNO, HMK⟩ := hrel
      have t2 := HMK.out.2.2.cell s2 (onB_not hsr)
      rcases Nat.lt_or_ge u j with hgt | hle
      · have hb2 : decide ((j : Int) ≤ (u : Int)) = false := decide_eq_false (by omega)
        go_wp2_with fail
        go_ret
        refine ⟨false, Mk, rfl, ⟨fun h => (by cases h), fun h => ?_⟩, HMK.out.1, HMK.out.2.1, HMK.out.2.2⟩
        obtain ⟨x', hx', i, h1, h2, h3⟩ := HANS.out.1 h
        rw [HX.out] at hx'
        cases hx'
        exact absurd h3 (HNO.out i h1 (by omega))
      · have hb2 : decide ((j : Int) ≤ (u : Int)) = true := decide_eq_true (by omega)
        have q0 := HMK.out.2.2.cell s0 (onB_not hsr)
        have q1 := HMK.out.2.2.cell s1 (onB_not hsr)
        have q3 := HMK.out.2.2.cell s3 (onB_not hsr)
        have qx := HMK.out.2.2.cell x0 (onB_not hxr)
        have qb := HMK.out.2.2.cell b4 (onB_not hbr)
        have qk := HMK.out.2.2.cell kc (onB_not hgr)
        have HROW : Hid (∀ (w2 : World) (M2 : List (Ky × Int)), MI w0 w2 r M2 → Ext w0 r L RK Mk M2 → Calls Tryz.prog 99 #[.pointer (some ⟨mb, 0, none⟩), .agg #[.pointer (some ⟨b, 0, none⟩), .int .i64 j, .int .i64 u, .int .i64 ((n : Int) + 1)]] w2 (MP w0 w2 r L RK M2 (LgC (kids.drop (n + 1)) (seg L j u)))) := Lib.hid fun w2 M2 h1 h2 => HROWX.out j w2 M2 hfj hle h1 (HMK.out.2.1.trans h2)
        have hwrap : IntKind.i64.wrap ((n : Int) + 1) = (n : Int) + 1 := IntWalk.i64_in _ (by omega)
        have HOF := Lib.hid (HOFX.out j wr.drew Mk hfj hle (HMK.out.1.keep (Kp.refl noB wr).drew) HMK.out.2.1)
        go_upto_region 6 with (fail)
        refine wp_region_held_drew (S := fun w' => Kp (onB r) wr w') (by kernel_rfl) (Kp.refl _ _).drew (fun hHeld => ?_)
        refine takeD (i := 0) (d := 26) (v := (.pointer (some ⟨mb, 0, none⟩))) rfl (by kernel_rfl) (by kernel_rfl) (by kernel_rfl) (by kernel_rfl) (fun _ _ _ h => h) (Or.inl ⟨by kernel_rfl, fun w' hS => by have g0 := hS.cell qx (onB_not hxr); go_simp⟩) (by assumption) ?_
        simp only [List.setIfInBounds_toArray, List.set_cons_zero, List.set_cons_succ]
        refine takeD (i := 1) (d := 27) (v := (.pointer (some ⟨sb, 0, none⟩))) rfl (by kernel_rfl) (by kernel_rfl) (by kernel_rfl) (by kernel_rfl) (fun _ _ _ h => h) (Or.inl ⟨by kernel_rfl, fun w' hS => by go_simp⟩) (by assumption) ?_
        simp only [List.setIfInBounds_toArray, List.set_cons_zero, List.set_cons_succ]
        refine takeD (i := 2) (d := 28) (v := (.pointer (some ⟨b, 0, none⟩))) rfl (by kernel_rfl) (by kernel_rfl) (by kernel_rfl) (by kernel_rfl) (fun _ _ _ h => h) (Or.inl ⟨by kernel_rfl, fun w' hS => by have g0 := hS.cell q0 (onB_not hsr); go_simp⟩) (by assumption) ?_
        simp only [List.setIfInBounds_toArray, List.set_cons_zero, List.set_cons_succ]
        refine takeD (i := 3) (d := 29) (v := (.pointer (some ⟨b, 0, none⟩))) rfl (by kernel_rfl) (by kernel_rfl) (by kernel_rfl) (by kernel_rfl) (fun _ _ _ h => h) (Or.inl ⟨by kernel_rfl, fun w' hS => by go_simp⟩) (by assumption) ?_
        simp only [List.setIfInBounds_toArray, List.set_cons_zero, List.set_cons_succ]
        refine takeD (i := 4) (d := 30) (v := (.pointer (some ⟨b, 4, none⟩))) rfl (by kernel_rfl) (by kernel_rfl) (by kernel_rfl) (by kernel_rfl) (fun _ _ _ h => h) (Or.inl ⟨by kernel_rfl, fun w' hS => by go_simp⟩) (by assumption) ?_
        simp only [List.setIfInBounds_toArray, List.set_cons_zero, List.set_cons_succ]
        refine takeD (i := 5) (d := 31) (v := (.slice (some ⟨g, off, none⟩) K cap2)) rfl (by kernel_rfl) (by kernel_rfl) (by kernel_rfl) (by kernel_rfl) (fun _ _ _ h => h) (Or.inl ⟨by kernel_rfl, fun w' hS => by have g0 := hS.cell qb (onB_not hbr); go_simp⟩) (by assumption) ?_
        simp only [List.setIfInBounds_toArray, List.set_cons_zero, List.set_cons_succ]
        refine takeD (i := 6) (d := 32) (v := (.pointer (some ⟨sb, 3, none⟩))) rfl (by kernel_rfl) (by kernel_rfl) (by kernel_rfl) (by kernel_rfl) (fun _ _ _ h => h) (Or.inl ⟨by kernel_rfl, fun w' hS => by go_simp⟩) (by assumption) ?_
        simp only [List.setIfInBounds_toArray, List.set_cons_zero, List.set_cons_succ]
        refine takeD (i := 7) (d := 33) (v := (.int .i64 n)) rfl (by kernel_rfl) (by kernel_rfl) (by kernel_rfl) (by kernel_rfl) (fun _ _ _ h => h) (Or.inl ⟨by kernel_rfl, fun w' hS => by have g0 := hS.cell q3 (onB_not hsr); go_simp⟩) (by assumption) ?_
        simp only [List.setIfInBounds_toArray, List.set_cons_zero, List.set_cons_succ]
        refine takeD (i := 8) (d := 34) (v := (.pointer (some ⟨g, off + n, none⟩))) rfl (by kernel_rfl) (by kernel_rfl) (by kernel_rfl) (by kernel_rfl) (fun _ _ _ h => h) (Or.inl ⟨by kernel_rfl, fun w' hS => by go_simp⟩) (by assumption) ?_
        simp only [List.setIfInBounds_toArray, List.set_cons_zero, List.set_cons_succ]
        refine takeD (i := 9) (d := 35) (v := (.pointer (some ⟨c, 0, none⟩))) rfl (by kernel_rfl) (by kernel_rfl) (by kernel_rfl) (by kernel_rfl) (fun _ _ _ h => h) (Or.inl ⟨by kernel_rfl, fun w' hS => by have g0 := hS.cell qk (onB_not hgr); go_simp⟩) (by assumption) ?_
        simp only [List.setIfInBounds_toArray, List.set_cons_zero, List.set_cons_succ]
        refine takeD (i := 10) (d := 36) (v := (.pointer (some ⟨sb, 1, none⟩))) rfl (by kernel_rfl) (by kernel_rfl) (by kernel_rfl) (by kernel_rfl) (fun _ _ _ h => h) (Or.inl ⟨by kernel_rfl, fun w' hS => by go_simp⟩) (by assumption) ?_
        simp only [List.setIfInBounds_toArray, List.set_cons_zero, List.set_cons_succ]
        refine takeD (i := 11) (d := 37) (v := (.int .i64 f)) rfl (by kernel_rfl) (by kernel_rfl) (by kernel_rfl) (by kernel_rfl) (fun _ _ _ h => h) (Or.inl ⟨by kernel_rfl, fun w' hS => by have g0 := hS.cell q1 (onB_not hsr); go_simp⟩) (by assumption) ?_
        simp only [List.setIfInBounds_toArray, List.set_cons_zero, List.set_cons_succ]
        refine takeD (i := 12) (d := 38) (v := (.int .i64 j)) rfl (by kernel_rfl) (by kernel_rfl) (by kernel_rfl) (by kernel_rfl) (fun _ _ _ h => h) (Or.inl ⟨by kernel_rfl, fun w' hS => by go_simp⟩) (by assumption) ?_
        simp only [List.setIfInBounds_toArray, List.set_cons_zero, List.set_cons_succ]
        refine wpAnyH_ready (rs := [13]) (by kernel_rfl) (by simp) ?_
        refine AllReadyH.cons (o := _) rfl (fun K hK => ?_) AllReadyH.nil
        rw [if_pos (by kernel_rfl)]
        go_simp
        refine HOF.out.mono ?_
        rintro e w2 ⟨bl, M2, rfl, hbl, hI2, hE2, hk2⟩
        go_simp
        refine hK.out _ _ (hHeld.trans hk2) (fun hHeld1 => ?_)
        clear hK K
        try simp only [Act.put, List.setIfInBounds_toArray, List.set_cons_zero, List.set_cons_succ]
        have HR2 := Lib.hid (HROW.out w2 M2 hI2 hE2)
        have HBL := Lib.hid (And.intro hbl (And.intro hI2 (And.intro hE2 hk2)))
        clear hbl hI2 hE2
        cases bl with
        | false =>
          refine takeD (i := 14) (d := 40) (v := (.bool false)) rfl (by kernel_rfl) (by kernel_rfl) (by kernel_rfl) (by kernel_rfl) (fun _ _ _ h => h) (Or.inl ⟨by kernel_rfl, fun w' hS => by go_simp⟩) (by assumption) ?_
          simp only [List.setIfInBounds_toArray, List.set_cons_zero, List.set_cons_succ]
          refine takeD (i := 15) (d := 41) (v := undef) rfl (by kernel_rfl) (by kernel_rfl) (by kernel_rfl) (by kernel_rfl) (fun _ _ _ h => h) (Or.inr ⟨by kernel_rfl, rfl⟩) (by assumption) ?_
          simp only [List.setIfInBounds_toArray, List.set_cons_zero, List.set_cons_succ]
          refine takeD (i := 16) (d := 42) (v := undef) rfl (by kernel_rfl) (by kernel_rfl) (by kernel_rfl) (by kernel_rfl) (fun _ _ _ h => h) (Or.inr ⟨by kernel_rfl, rfl⟩) (by assumption) ?_
          simp only [List.setIfInBounds_toArray, List.set_cons_zero, List.set_cons_succ]
          refine takeD (i := 17) (d := 43) (v := undef) rfl (by kernel_rfl) (by kernel_rfl) (by kernel_rfl) (by kernel_rfl) (fun _ _ _ h => h) (Or.inr ⟨by kernel_rfl, rfl⟩) (by assumption) ?_
          simp only [List.setIfInBounds_toArray, List.set_cons_zero, List.set_cons_succ]
          refine takeD (i := 18) (d := 44) (v := undef) rfl (by kernel_rfl) (by kernel_rfl) (by kernel_rfl) (by kernel_rfl) (fun _ _ _ h => h) (Or.inr ⟨by kernel_rfl, rfl⟩) (by assumption) ?_
          simp only [List.setIfInBounds_toArray, List.set_cons_zero, List.set_cons_succ]
          refine takeD (i := 19) (d := 45) (v := undef) rfl (by kernel_rfl) (by kernel_rfl) (by kernel_rfl) (by kernel_rfl) (fun _ _ _ h => h) (Or.inr ⟨by kernel_rfl, rfl⟩) (by assumption) ?_
          simp only [List.setIfInBounds_toArray, List.set_cons_zero, List.set_cons_succ]
          refine takeD (i := 20) (d := 46) (v := undef) rfl (by kernel_rfl) (by kernel_rfl) (by kernel_rfl) (by kernel_rfl) (fun _ _ _ h => h) (Or.inr ⟨by kernel_rfl, rfl⟩) (by assumption) ?_
          simp only [List.setIfInBounds_toArray, List.set_cons_zero, List.set_cons_succ]
          refine takeD (i := 21) (d := 47) (v := undef) rfl (by kernel_rfl) (by kernel_rfl) (by kernel_rfl) (by kernel_rfl) (fun _ _ _ h => h) (Or.inr ⟨by kernel_rfl, rfl⟩) (by assumption) ?_
          simp only [List.setIfInBounds_toArray, List.set_cons_zero, List.set_cons_succ]
          refine takeD (i := 22) (d := 48) (v := undef) rfl (by kernel_rfl) (by kernel_rfl) (by kernel_rfl) (by kernel_rfl) (fun _ _ _ h => h) (Or.inr ⟨by kernel_rfl, rfl⟩) (by assumption) ?_
          simp only [List.setIfInBounds_toArray, List.set_cons_zero, List.set_cons_succ]
          refine takeD (i := 23) (d := 49) (v := undef) rfl (by kernel_rfl) (by kernel_rfl) (by kernel_rfl) (by kernel_rfl) (fun _ _ _ h => h) (Or.inr ⟨by kernel_rfl, rfl⟩) (by assumption) ?_
          simp only [List.setIfInBounds_toArray, List.set_cons_zero, List.set_cons_succ]
          refine takeD (i := 24) (d := 50) (v := undef) rfl (by kernel_rfl) (by kernel_rfl) (by kernel_rfl) (by kernel_rfl) (fun _ _ _ h => h) (Or.inr ⟨by kernel_rfl, rfl⟩) (by assumption) ?_
          simp only [List.setIfInBounds_toArray, List.set_cons_zero, List.set_cons_succ]
          refine takeD (i := 25) (d := 51) (v := undef) rfl (by kernel_rfl) (by kernel_rfl) (by kernel_rfl) (by kernel_rfl) (fun _ _ _ h => h) (Or.inr ⟨by kernel_rfl, rfl⟩) (by assumption) ?_
          simp only [List.setIfInBounds_toArray, List.set_cons_zero, List.set_cons_succ]
          refine takeD (i := 26) (d := 52) (v := (.bool false)) rfl (by kernel_rfl) (by kernel_rfl) (by kernel_rfl) (by kernel_rfl) (fun _ _ _ h => h) (Or.inl ⟨by kernel_rfl, fun w' hS => by go_simp⟩) (by assumption) ?_
          simp only [List.setIfInBounds_toArray, List.set_cons_zero, List.set_cons_succ]
          refine wpAnyH_done (by kernel_rfl) ?_ _
          have HN2 : Hid (∀ i, f ≤ i → i < j + 1 → ¬ (Lg x (seg L f i) ∧ LgC (kids.drop (n + 1)) (seg L i u))) := Lib.hid fun i h1 h2 h3 => by
            rcases Nat.lt_or_ge i j with h | h
            · exact HNO.out i h1 h h3
            · obtain rfl : i = j := by omega
              exact absurd (HBL.out.1.2 h3.1) (by simp)
          have HMK2 := Lib.hid (And.intro HBL.out.2.1 (And.intro (HMK.out.2.1.trans HBL.out.2.2.1) (HMK.out.2.2.trans hHeld1)))
          clear hHeld HBL q0 q1 q3 qx qb qk t2 hHeld1 HR2
          go_wp2_with fail
          go_roundw
          case rel => exact ⟨j + 1, _, by omega, by omega, by simp, HN2, HMK2⟩
          case measure => simp only [intOf]; omega
        | true =>
          refine takeD (i := 14) (d := 40) (v := (.bool true)) rfl (by kernel_rfl) (by kernel_rfl) (by kernel_rfl) (by kernel_rfl) (fun _ _ _ h => h) (Or.inl ⟨by kernel_rfl, fun w' hS => by go_simp⟩) (by assumption) ?_
          simp only [List.setIfInBounds_toArray, List.set_cons_zero, List.set_cons_succ]
          refine takeD (i := 15) (d := 41) (v := (.pointer (some ⟨mb, 0, none⟩))) rfl (by kernel_rfl) (by kernel_rfl) (by kernel_rfl) (by kernel_rfl) (fun _ _ _ h => h) (Or.inl ⟨by kernel_rfl, fun w' hS => by have g0 := hS.cell qx (onB_not hxr); go_simp⟩) (by assumption) ?_
          simp only [List.setIfInBounds_toArray, List.set_cons_zero, List.set_cons_succ]
          refine takeD (i := 16) (d := 42) (v := (.pointer (some ⟨sb, 0, none⟩))) rfl (by kernel_rfl) (by kernel_rfl) (by kernel_rfl) (by kernel_rfl) (fun _ _ _ h => h) (Or.inl ⟨by kernel_rfl, fun w' hS => by go_simp⟩) (by assumption) ?_
          simp only [List.setIfInBounds_toArray, List.set_cons_zero, List.set_cons_succ]
          refine takeD (i := 17) (d := 43) (v := (.pointer (some ⟨b, 0, none⟩))) rfl (by kernel_rfl) (by kernel_rfl) (by kernel_rfl) (by kernel_rfl) (fun _ _ _ h => h) (Or.inl ⟨by kernel_rfl, fun w' hS => by have g0 := hS.cell q0 (onB_not hsr); go_simp⟩) (by assumption) ?_
          simp only [List.setIfInBounds_toArray, List.set_cons_zero, List.set_cons_succ]
          refine takeD (i := 18) (d := 44) (v := (.int .i64 j)) rfl (by kernel_rfl) (by kernel_rfl) (by kernel_rfl) (by kernel_rfl) (fun _ _ _ h => h) (Or.inl ⟨by kernel_rfl, fun w' hS => by go_simp⟩) (by assumption) ?_
          simp only [List.setIfInBounds_toArray, List.set_cons_zero, List.set_cons_succ]
          refine takeD (i := 19) (d := 45) (v := (.pointer (some ⟨sb, 2, none⟩))) rfl (by kernel_rfl) (by kernel_rfl) (by kernel_rfl) (by kernel_rfl) (fun _ _ _ h => h) (Or.inl ⟨by kernel_rfl, fun w' hS => by go_simp⟩) (by assumption) ?_
          simp only [List.setIfInBounds_toArray, List.set_cons_zero, List.set_cons_succ]
          refine takeD (i := 20) (d := 46) (v := (.int .i64 u)) rfl (by kernel_rfl) (by kernel_rfl) (by kernel_rfl) (by kernel_rfl) (fun _ _ _ h => h) (Or.inl ⟨by kernel_rfl, fun w' hS => by have g0 := hS.cell t2 (onB_not hsr); go_simp⟩) (by assumption) ?_
          simp only [List.setIfInBounds_toArray, List.set_cons_zero, List.set_cons_succ]
          refine takeD (i := 21) (d := 47) (v := (.pointer (some ⟨sb, 3, none⟩))) rfl (by kernel_rfl) (by kernel_rfl) (by kernel_rfl) (by kernel_rfl) (fun _ _ _ h => h) (Or.inl ⟨by kernel_rfl, fun w' hS => by go_simp⟩) (by assumption) ?_
          simp only [List.setIfInBounds_toArray, List.set_cons_zero, List.set_cons_succ]
          refine takeD (i := 22) (d := 48) (v := (.int .i64 n)) rfl (by kernel_rfl) (by kernel_rfl) (by kernel_rfl) (by kernel_rfl) (fun _ _ _ h => h) (Or.inl ⟨by kernel_rfl, fun w' hS => by have g0 := hS.cell q3 (onB_not hsr); go_simp⟩) (by assumption) ?_
          simp only [List.setIfInBounds_toArray, List.set_cons_zero, List.set_cons_succ]
          refine takeD (i := 23) (d := 49) (v := (.int .i64 ((n : Int) + 1))) rfl (by kernel_rfl) (by kernel_rfl) (by kernel_rfl) (by kernel_rfl) (fun _ _ _ h => h) (Or.inl ⟨by kernel_rfl, fun w' hS => by go_simp⟩) (by assumption) ?_
          simp only [List.setIfInBounds_toArray, List.set_cons_zero, List.set_cons_succ]
          refine takeD (i := 24) (d := 50) (v := (.agg #[.pointer (some ⟨b, 0, none⟩), .int .i64 j, .int .i64 u, .int .i64 ((n : Int) + 1)])) rfl (by kernel_rfl) (by kernel_rfl) (by kernel_rfl) (by kernel_rfl) (fun _ _ _ h => h) (Or.inl ⟨by kernel_rfl, fun w' hS => by go_simp⟩) (by assumption) ?_
          simp only [List.setIfInBounds_toArray, List.set_cons_zero, List.set_cons_succ]
          refine wpAnyH_ready (rs := [25]) (by kernel_rfl) (by simp) ?_
          refine AllReadyH.cons (o := _) rfl (fun K hK => ?_) AllReadyH.nil
          rw [if_pos (by kernel_rfl)]
          go_simp
          refine HR2.out.mono ?_
          rintro e w3 ⟨bl2, M3, rfl, hbl2, hI3, hE3, hk3⟩
          go_simp
          refine hK.out _ _ (hHeld1.trans hk3) (fun hHeld2 => ?_)
          clear hK K
          try simp only [Act.put, List.setIfInBounds_toArray, List.set_cons_zero, List.set_cons_succ]
          have HBL2 := Lib.hid (And.intro hbl2 (And.intro hI3 (And.intro hE3 hk3)))
          clear hbl2 hI3 hE3
          cases bl2 with
          | false =>
            refine takeD (i := 26) (d := 52) (v := (.bool false)) rfl (by kernel_rfl) (by kernel_rfl) (by kernel_rfl) (by kernel_rfl) (fun _ _ _ h => h) (Or.inl ⟨by kernel_rfl, fun w' hS => by go_simp⟩) (by assumption) ?_
            simp only [List.setIfInBounds_toArray, List.set_cons_zero, List.set_cons_succ]
            refine wpAnyH_done (by kernel_rfl) ?_ _
            have HN2 : Hid (∀ i, f ≤ i → i < j + 1 → ¬ (Lg x (seg L f i) ∧ LgC (kids.drop (n + 1)) (seg L i u))) := Lib.hid fun i h1 h2 h3 => by
              rcases Nat.lt_or_ge i j with h | h
              · exact HNO.out i h1 h h3
              · obtain rfl : i = j := by omega
                exact absurd (HBL2.out.1.2 h3.2) (by simp)
            have HMK2 := Lib.hid (And.intro HBL2.out.2.1 (And.intro ((HMK.out.2.1.trans HBL.out.2.2.1).trans HBL2.out.2.2.1) (HMK.out.2.2.trans hHeld2)))
            clear hHeld HBL q0 q1 q3 qx qb qk t2 hHeld1 hHeld2 HBL2 HR2
            go_wp2_with fail
            go_roundw
            case rel => exact ⟨j + 1, _, by omega, by omega, by simp, HN2, HMK2⟩
            case measure => simp only [intOf]; omega
          | true =>
            refine takeD (i := 26) (d := 52) (v := (.bool true)) rfl (by kernel_rfl) (by kernel_rfl) (by kernel_rfl) (by kernel_rfl) (fun _ _ _ h => h) (Or.inl ⟨by kernel_rfl, fun w' hS => by go_simp⟩) (by assumption) ?_
            simp only [List.setIfInBounds_toArray, List.set_cons_zero, List.set_cons_succ]
            refine wpAnyH_done (by kernel_rfl) ?_ _
            have HMK2 := Lib.hid (And.intro HBL2.out.2.1 (And.intro ((HMK.out.2.1.trans HBL.out.2.2.1).trans HBL2.out.2.2.1) (HMK.out.2.2.trans hHeld2)))
            have HYES := Lib.hid (HANS.out.2 ⟨x, HX.out, j, hfj, hle, HBL.out.1.1 rfl, HBL2.out.1.1 rfl⟩)
            clear hHeld HBL q0 q1 q3 qx qb qk t2 hHeld1 hHeld2 HBL2 HR2
            go_wp2_with fail
            go_ret
            exact ⟨true, _, rfl, ⟨fun _ => HYES.out, fun _ => rfl⟩, HMK2.out.1, HMK2.out.2.1, HMK2.out.2.2⟩

end
end Go.Proofs.YtoijabgcgdgacaaGreatDoor

namespace Go.Proofs.YtoijabgcgdgacaaGreatDoor
open Go.RowKit Go.Proofs.Gram Go.Lib

/-- The world with the two boxes of a call by a key. -/
def boxW (w : World) (mb b f u n : Nat) : World := (w.alloc (.cells #[.pointer (some ⟨mb, 0, none⟩)] 102)).alloc (.cells #[.pointer (some ⟨b, 0, none⟩), .int .i64 f, .int .i64 u, .int .i64 n] 182)
theorem box_kp (w : World) (mb b f u n : Nat) : Kp noB w (boxW w mb b f u n) := ((Kp.refl _ _).alloc _).alloc _
theorem box_cells (w : World) (mb b f u n : Nat) : (boxW w mb b f u n).cell? ⟨w.heap.size, 0, none⟩ = some (.pointer (some ⟨mb, 0, none⟩)) ∧
    (boxW w mb b f u n).cell? ⟨w.heap.size + 1, 0, none⟩ = some (.pointer (some ⟨b, 0, none⟩)) ∧ (boxW w mb b f u n).cell? ⟨w.heap.size + 1, 1, none⟩ = some (.int .i64 f) ∧
    (boxW w mb b f u n).cell? ⟨w.heap.size + 1, 2, none⟩ = some (.int .i64 u) ∧ (boxW w mb b f u n).cell? ⟨w.heap.size + 1, 3, none⟩ = some (.int .i64 n) := by
  have h4 := four_new (w.alloc (.cells #[.pointer (some ⟨mb, 0, none⟩)] 102)) (.pointer (some ⟨b, 0, none⟩)) (.int .i64 f) (.int .i64 u) (.int .i64 n) 182
  have hs : (w.alloc (.cells #[.pointer (some ⟨mb, 0, none⟩)] 102)).heap.size = w.heap.size + 1 := by simp
  rw [hs] at h4
  have h1 : (w.alloc (.cells #[.pointer (some ⟨mb, 0, none⟩)] 102)).cell? ⟨w.heap.size, 0, none⟩ = some (.pointer (some ⟨mb, 0, none⟩)) := by
    unfold World.cell?
    simp only [heap_alloc_new w (.cells #[.pointer (some ⟨mb, 0, none⟩)] 102)]
    rfl
  exact ⟨((Kp.refl noB _).alloc _).cell h1 (noB_not _), h4 0 _ rfl, h4 1 _ rfl, h4 2 _ rfl, h4 3 _ rfl⟩

section
variable {w0 : World} {r mb N cap : Nat} {A : Option Addr} {L : List Int} {t : Rx}

set_option maxRecDepth 100000 in
theorem key_call99 {b f u n : Nat} (hW : MW w0 r mb A N cap L) (ht : NT w0 r b t)
    (hbody : ∀ (sb xb : Nat) (w : World) (M : List (Ky × Int)), w.cell? ⟨sb, 0, none⟩ = some (.pointer (some ⟨b, 0, none⟩)) → w.cell? ⟨sb, 1, none⟩ = some (.int .i64 f) → w.cell? ⟨sb, 2, none⟩ = some (.int .i64 u) → w.cell? ⟨sb, 3, none⟩ = some (.int .i64 n) →
      w.cell? ⟨xb, 0, none⟩ = some (.pointer (some ⟨mb, 0, none⟩)) → sb ≠ r → xb ≠ r → MI w0 w r M → Good w0 r L (rank t ⟨b, f, u, n⟩) M → Calls Tryz.prog 155 #[.pointer (some ⟨sb, 0, none⟩), .pointer (some ⟨xb, 0, none⟩)] w (MP w0 w r L (rank t ⟨b, f, u, n⟩) M (AnsK L t ⟨b, f, u, n⟩))) :
    KeyAt 99 w0 r mb L t b f u n := by
  intro w M hI hg
  obtain ⟨c0, c1, c2, c3, c4⟩ := box_cells w mb b f u n
  have hkb := box_kp w mb b f u n
  have hsz := hI.kp.size
  have hrlt := hW.lt
  have hne1 : w.heap.size + 1 ≠ r := by omega
  have hne0 : w.heap.size ≠ r := by omega
  have H := Lib.hid (memo155_any (k := ⟨b, f, u, n⟩) hW (hI.keep hkb) hg ht #[.pointer (some ⟨w.heap.size + 1, 0, none⟩), .pointer (some ⟨w.heap.size, 0, none⟩)] fun w1 M1 hk1 hI1 hg1 =>
    hbody _ _ w1 M1 (hk1.cell c1 (onB_not hne1)) (hk1.cell c2 (onB_not hne1)) (hk1.cell c3 (onB_not hne1)) (hk1.cell c4 (onB_not hne1)) (hk1.cell c0 (onB_not hne0)) hne1 hne0 hI1 hg1)
  have HK := Lib.hid hkb
  unfold boxW at c0 c1 c2 c3 c4
  unfold boxW at H HK
  clear hbody hI hg ht hW hkb hsz hrlt hne1 hne0
  go_enter Tryz.func99, Tryz.ntmps99
  go_wp2_with (go_at_call 154; refine H.out.mono ?_; rintro e w' ⟨bl, M', rfl, h1, h2, h3, h4⟩)
  go_ret
  exact ⟨bl, M', rfl, h1, h2, h3, HK.out.any.trans h4⟩
set_option maxRecDepth 100000 in
theorem key_call100 {b f u n : Nat} (hW : MW w0 r mb A N cap L) (ht : NT w0 r b t)
    (hbody : ∀ (sb xb : Nat) (w : World) (M : List (Ky × Int)), w.cell? ⟨sb, 0, none⟩ = some (.pointer (some ⟨b, 0, none⟩)) → w.cell? ⟨sb, 1, none⟩ = some (.int .i64 f) → w.cell? ⟨sb, 2, none⟩ = some (.int .i64 u) → w.cell? ⟨sb, 3, none⟩ = some (.int .i64 n) →
      w.cell? ⟨xb, 0, none⟩ = some (.pointer (some ⟨mb, 0, none⟩)) → sb ≠ r → xb ≠ r → MI w0 w r M → Good w0 r L (rank t ⟨b, f, u, n⟩) M → Calls Tryz.prog 156 #[.pointer (some ⟨sb, 0, none⟩), .pointer (some ⟨xb, 0, none⟩)] w (MP w0 w r L (rank t ⟨b, f, u, n⟩) M (AnsK L t ⟨b, f, u, n⟩))) :
    KeyAt 100 w0 r mb L t b f u n := by
  intro w M hI hg
  obtain ⟨c0, c1, c2, c3, c4⟩ := box_cells w mb b f u n
  have hkb := box_kp w mb b f u n
  have hsz := hI.kp.size
  have hrlt := hW.lt
  have hne1 : w.heap.size + 1 ≠ r := by omega
  have hne0 : w.heap.size ≠ r := by omega
  have H := Lib.hid (memo156_any (k := ⟨b, f, u, n⟩) hW (hI.keep hkb) hg ht #[.pointer (some ⟨w.heap.size + 1, 0, none⟩), .pointer (some ⟨w.heap.size, 0, none⟩)] fun w1 M1 hk1 hI1 hg1 =>
    hbody _ _ w1 M1 (hk1.cell c1 (onB_not hne1)) (hk1.cell c2 (onB_not hne1)) (hk1.cell c3 (onB_not hne1)) (hk1.cell c4 (onB_not hne1)) (hk1.cell c0 (onB_not hne0)) hne1 hne0 hI1 hg1)
  have HK := Lib.hid hkb
  unfold boxW at c0 c1 c2 c3 c4
  unfold boxW at H HK
  clear hbody hI hg ht hW hkb hsz hrlt hne1 hne0
  go_enter Tryz.func100, Tryz.ntmps100
  go_wp2_with (go_at_call 154; refine H.out.mono ?_; rintro e w' ⟨bl, M', rfl, h1, h2, h3, h4⟩)
  go_ret
  exact ⟨bl, M', rfl, h1, h2, h3, HK.out.any.trans h4⟩

theorem mrow_any {set : List (Int × Int)} {mn mx : Int} {kids : List Rx} (hW : MW w0 r mb A N cap L) (hne : ∀ x ∈ kids, x ≠ .nil) (hof : ∀ x ∈ kids, OfC w0 r mb L x) : ∀ (m n : Nat), kids.length - n = m → n ≤ kids.length → KeyC 99 w0 r mb L (.mk 2 set mn mx kids) n := by
  intro m
  induction m with
  | zero =>
    intro n h1 h2 b f u w M ht hfu huL
    exact key_call99 hW ht (fun sb xb w M s0 s1 s2 s3 x0 hsr hxr hI hg => row_body hW ht hne hfu huL h2 s0 s1 s2 s3 x0 hsr hxr hI hg hof fun h => absurd h (by omega)) w M
  | succ m ih =>
    intro n h1 h2 b f u w M ht hfu huL
    exact key_call99 hW ht (fun sb xb w M s0 s1 s2 s3 x0 hsr hxr hI hg => row_body hW ht hne hfu huL h2 s0 s1 s2 s3 x0 hsr hxr hI hg hof fun h => ih (n + 1) (by omega) (by omega)) w M
end
end Go.Proofs.YtoijabgcgdgacaaGreatDoor
