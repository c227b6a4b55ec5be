/-
  WALKS, mm: the reference: the points of a text.
  WALKS, mn: the reference: does a pattern stand for a text.
-/
import Derived.Test.YtoijabgcgdgacaaGreatDoorMD
import Derived.Test.YtoijabgcgdgacaaGreatDoorRA
import Derived.Test.YtoijabgcgdgacaaGreatDoorPC
namespace Go.Proofs.YtoijabgcgdgacaaGreatDoor
open Go.RowKit Go.Proofs.Gram Go.Lib

theorem icells_snoc (l : List Int) (x : Int) : icells (l ++ [x]) = icells l ++ [.int .i64 x] := by simp [icells]

theorem ints_own {w w' : World} {base : Nat} {v : Value} {l : List Int} (h : w'.ownsRow base 3 1 v l.length (icells l)) (hb : w.heap.size ≤ base) : Ints w' (fun k => w.heap.size ≤ k) v l :=
  (own_cells h).ok fun _ _ h => Nat.le_trans hb h

set_option maxRecDepth 100000 in
set_option maxHeartbeats 2000000 in
theorem rpoints_any (s : ByteArray) (hs : s.size ≤ 65536) (w : World) :
    Calls Tryz.prog 49 #[.string s] w fun e w' => ∃ u, e = .returned u ∧ Ints w' (fun k => w.heap.size ≤ k) u (ptsOf s) ∧ Kp noB w w' := by
  obtain ⟨i0, hi, hz0, hz1, hz2⟩ := info3_parts
  go_enter Tryz.func49, Tryz.ntmps49
  go_wp2_with fail
  go_loopw [3, 4] (fun v c wr => ∃ (a f : Nat) (l : List Int), a ≤ s.size ∧ c = .int .i64 a ∧ l.length ≤ a ∧ Hid (s.size ≤ a + f ∧ l ++ ptsF s f a = ptsOf s) ∧ Hid (wr.ownsRow w.heap.size 3 1 v l.length (icells l)) ∧ Hid (Kp noB w wr)) (fun _ c _ => s.size - (intOf c).toNat)
  case atStart => exact ⟨0, s.size, [], Nat.zero_le _, rfl, Nat.zero_le _, Lib.hid ⟨by omega, rfl⟩, Lib.hid (World.ownsRow_nil _ _ _ _), Lib.hid (Kp.refl _ _)⟩
  case round =>
    obtain ⟨a, f, l, ha, rfl, hl, HF, HO, HKP⟩ := hrel
    rcases Nat.lt_or_ge a s.size with hlt | hge
    · have hb1 : decide ((a : Int) < (s.size : Int)) = true := decide_eq_true (by omega)
      obtain ⟨g, hg, hpt, hsg⟩ := pts_step s f a hlt HF.out.1
      have hnx := nx_le s a hlt
      have HPT := Lib.hid (rpoint_any (w := wr) hlt (by omega))
      have HN : Hid (s.size ≤ nx s a + g ∧ (l ++ [((Utf8.decode s a).1 : Int)]) ++ ptsF s g (nx s a) = ptsOf s) := Lib.hid ⟨hsg, by rw [← HF.out.2, hpt]; simp⟩
      obtain ⟨c1, hc1⟩ : ∃ c1, (Utf8.decode s a).1 = c1 := ⟨_, rfl⟩
      obtain ⟨c2, hc2⟩ : ∃ c2, (Utf8.decode s a).2 = c2 := ⟨_, rfl⟩
      unfold nx at HN hnx
      unfold PtE at HPT
      rw [hc1, hc2] at HPT
      rw [hc2] at hnx
      rw [hc1, hc2] at HN
      clear hg hpt hsg hc1 hc2
      go_wp2_with fail
      refine HPT.out.mono ?_
      rintro e w2 ⟨rfl, q, rfl⟩
      have hown : (wr.drewN q).ownsRow w.heap.size 3 1 u3 l.length (icells l) := HO.out
      have HK2 := Lib.hid (HKP.out.drewN q)
      have hsz2 : w.heap.size ≤ (wr.drewN q).heap.size := HK2.out.size
      generalize wr.drewN q = w2 at *
      clear HPT
      go_wp2_with (first
        | (at_builtin; refine wpList_append_own _ rfl (.tmp 19) (.tmp 21) 60 rfl w.heap.size 3 i0 (.int .i64 0) 1 8 Tryz.underlying60 hi hz0 hz1 hz2 rfl (by decide) _ _ _ rfl (hown.alloc _) ⟨w2.heap.size, 0, none⟩ 1 1 [.int .i64 c1] rfl rfl (cell_one_new w2 _ 3) (fun x hx => by simp at hx; subst hx; rfl) (by unfold maxLen; omega) (by omega) (by simp; omega) ?_; intro v' w9 hown' hgrow9 hnil9; have HK9 := Lib.hid ((HK2.out.alloc (.cells #[.int .i64 c1] 3)).grown hgrow9 (fun k hk => .inr (hown.lt k hk).1)); clear hgrow9 hnil9))
      have HO9 : Hid (w9.ownsRow w.heap.size 3 1 v' (l ++ [(c1 : Int)]).length (icells (l ++ [(c1 : Int)]))) := Lib.hid (by rw [icells_snoc, List.length_append]; exact hown')
      clear hown hown'
      go_roundw
      case rel => exact ⟨a + c2, g, l ++ [(c1 : Int)], by omega, by simp, by simp; omega, HN, HO9, HK9⟩
      case measure => simp only [intOf]; omega
    · have hb1 : decide ((a : Int) < (s.size : Int)) = false := decide_eq_false (by omega)
      have R : Hid (l = ptsOf s) := Lib.hid (by rw [← HF.out.2, pts_end s f a hge, List.append_nil])
      go_wp2_with fail
      go_ret
      rw [← R.out]
      exact ⟨_, rfl, ints_own HO.out (Nat.le_refl _), HKP.out⟩
end Go.Proofs.YtoijabgcgdgacaaGreatDoor

namespace Go.Proofs.YtoijabgcgdgacaaGreatDoor
open Go.RowKit Go.Proofs.Gram Go.Lib

theorem dw_ok {p : Rx} (hs : Shp 0 p) (hw : wt p ≤ 24) (hsm : Small p) (v : List Int) : v.length ≤ 40 → Gd (Dw (plR p) v) ∧ Nm BB (Dw (plR p) v) ∧ ∀ c, Bd BB c (Dw (plR p) v) := by
  have hg := (pl_ok _ p 0 (Nat.le_refl _) hs).1
  induction v using snoc_ind with
  | h0 => exact fun _ => ⟨hg, nm_pl (by decide) _ p 0 (Nat.le_refl _) hs hsm (bp_ok _ p 0 (Nat.le_refl _) hs hw), fun c => bd_ok hs hw [] (by simp) c⟩
  | h1 v c ih =>
    intro hl
    have ih := ih (by simp at hl; omega)
    refine ⟨gd_dw _ _ hg, ?_, fun c' => bd_ok hs hw _ hl c'⟩
    rw [dw_snoc]
    exact nm_dr (by decide) c _ _ (Nat.le_refl _) ih.1 ih.2.1 (ih.2.2 c)

set_option maxRecDepth 100000 in
set_option maxHeartbeats 2000000 in
theorem rmatch_any {p : Rx} (hs : Shp 0 p) (hw : wt p ≤ 24) (hsm : Small p) (s : ByteArray) (hsz : s.size ≤ 40) {v : Value} {ok : Nat → Prop} {w : World} (hre : IsRe w ok v p) :
    Calls Tryz.prog 16 #[v, .string s] w fun e w' => e = .returned (.bool (MR (plR p) (ptsOf s))) ∧ Kp noB w w' := by
  have HPS := Lib.hid (rpoints_any s (by omega) w)
  have HPL : Hid (∀ wr, Kp noB w wr → Calls Tryz.prog 50 #[v] wr fun e w' => ∃ u, e = .returned u ∧ IsRe w' anyB u (plR p) ∧ Kp noB wr w') := Lib.hid fun wr hk =>
    (plain_any _ p (Nat.le_refl _) 0 v ok wr (hre.kp hk fun _ _ _ => noB_not _) hs hw hsm (bp_ok _ p 0 (Nat.le_refl _) hs hw)).mono fun e w' ⟨u, he, h1, h2⟩ => ⟨u, he, h1.ok fun _ _ _ => trivial, h2⟩
  obtain ⟨L, hL⟩ : ∃ L, ptsOf s = L := ⟨_, rfl⟩
  have hlen : L.length ≤ 40 := by
    rw [← hL]
    have := pts_len s s.size 0
    unfold ptsOf
    omega
  have HISP : Hid (∀ x ∈ L, isP x) := Lib.hid fun x hx => pts_isP s s.size 0 x (by rw [← hL] at hx; exact hx)
  have HST : Hid (∀ (k : Nat) (x : Int), L[k]? = some x → ∀ (u : Value) (wr : World), IsRe wr anyB u (Dw (plR p) (L.take k)) → Calls Tryz.prog 51 #[u, .int .i64 x] wr fun e w' => ∃ u, e = .returned u ∧ IsRe w' anyB u (Dw (plR p) (L.take (k + 1))) ∧ Kp noB wr w') := Lib.hid fun k x hx u wr hu => by
    have h := dw_ok hs hw hsm (L.take k) (by simp; omega)
    rw [take_snoc _ _ _ hx, dw_snoc]
    exact (behind_any (HISP.out x (List.mem_of_getElem? hx)) _ _ (Nat.le_refl _) u anyB wr hu h.1 h.2.1 (h.2.2 x)).mono fun e w' ⟨u, he, h1, h2⟩ => ⟨u, he, h1.ok fun _ _ _ => trivial, h2⟩
  have HTE : Hid (∀ (u : Value) (wr : World), IsRe wr anyB u (Dw (plR p) L) → Calls Tryz.prog 52 #[u] wr fun e w' => e = .returned (.bool (MR (plR p) L)) ∧ w' = wr) := Lib.hid fun u wr hu =>
    tE_any _ _ (Nat.le_refl _) (dw_ok hs hw hsm L hlen).1 u anyB wr hu
  have H0 : Hid (Dw (plR p) (L.take 0) = plR p) := Lib.hid rfl
  obtain ⟨N, hN⟩ : ∃ N, L.length = N := ⟨_, rfl⟩
  rw [hL] at HPS ⊢
  rw [hN] at hlen
  have HN := Lib.hid hN
  clear hre hs hw hsm hL hsz HISP hN
  go_enter Tryz.func16, Tryz.ntmps16
  go_wp2_with fail
  refine HPS.out.mono ?_
  rintro e w1 ⟨u1, rfl, h1, h2⟩
  have HI := Lib.hid h1
  have HK1 := Lib.hid h2
  have HP1 := Lib.hid (HPL.out _ h2)
  clear h1 h2 HPS HPL
  go_wp2_with fail
  refine HP1.out.mono ?_
  rintro e w2 ⟨u2, rfl, h1, h2⟩
  have HR2 := Lib.hid h1
  have HK2 := Lib.hid (HK1.out.trans h2)
  have hi2 := Cells.kp HI.out h2 fun _ _ _ => noB_not _
  obtain ⟨A, cap, rfl, hal, hac⟩ := cells_open hi2
  have HAC := Lib.hid hac
  rw [HN.out]
  rw [HN.out] at hal
  clear h1 h2 hi2 hac HP1 HI
  go_wp2_with fail
  go_loopw [6, 7] (fun q c wr => ∃ k : Nat, k ≤ N ∧ c = .int .i64 k ∧ Hid (IsRe wr anyB q (Dw (plR p) (L.take k))) ∧ Hid (Kp noB w2 wr)) (fun _ c _ => N - (intOf c).toNat)
  case atStart => exact ⟨0, Nat.zero_le _, rfl, by rw [H0.out]; exact HR2, Lib.hid (Kp.refl _ _)⟩
  case round =>
    obtain ⟨k, hk, rfl, HQ, HKQ⟩ := hrel
    rcases Nat.lt_or_ge k N with hlt | hge
    · obtain ⟨x, hx⟩ : ∃ x, L[k]? = some x := ⟨L[k]'(by rw [HN.out]; exact hlt), by simp⟩
      obtain ⟨g, off, rfl, _, _, hcu⟩ := HAC.out k _ (icells_at L k x hx)
      have hcu' := HKQ.out.cell hcu (noB_not _)
      have HC := Lib.hid (HST.out k x hx _ _ HQ.out)
      have hb1 : decide ((k : Int) < (N : Int)) = true := decide_eq_true (by omega)
      clear hx
      go_wp2_with fail
      refine HC.out.mono ?_
      rintro e w3 ⟨u3, rfl, h1, h2⟩
      have HQ3 := Lib.hid h1
      have HK3 := Lib.hid (HKQ.out.trans h2)
      clear h1 h2
      go_wp2_with fail
      go_roundw
      case rel => exact ⟨k + 1, by omega, by simp, HQ3, HK3⟩
      case measure => simp only [intOf]; omega
    · have hb1 : decide ((k : Int) < (N : Int)) = false := decide_eq_false (by omega)
      have HE : Hid (L.take k = L) := Lib.hid (List.take_of_length_le (by rw [HN.out]; exact hge))
      rw [HE.out] at HQ
      have HC := Lib.hid (HTE.out _ _ HQ.out)
      have HKF := Lib.hid (HK2.out.trans HKQ.out)
      clear HE HQ HTE HST
      go_wp2_with fail
      refine HC.out.mono ?_
      rintro e w3 ⟨rfl, rfl⟩
      go_wp2_with fail
      go_ret
      exact ⟨rfl, HKF.out⟩
end Go.Proofs.YtoijabgcgdgacaaGreatDoor
