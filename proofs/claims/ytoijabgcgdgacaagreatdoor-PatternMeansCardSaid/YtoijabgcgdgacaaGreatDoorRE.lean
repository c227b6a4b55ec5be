/-
  WALKS, rs: the reference's reader: a row; lists. (Written by a program, gen_rs.py.)
  WALKS, rt: the reference's reader: a class.
  WALKS, ru: the reference's reader: a class, read.
-/
import Derived.Test.YtoijabgcgdgacaaGreatDoorRD
namespace Go.Proofs.YtoijabgcgdgacaaGreatDoor
open Go.RowKit Go.Proofs.Gram

/-- Is the reader good? -/
def stN (w : World) (b : Nat) : Nat := match w.cell? ⟨b, 3, none⟩ with | some .nilIface => 1 | _ => 0
theorem stN_good {eb es : Addr} {s : ByteArray} {b a o : Nat} {w : World} (h : QR eb es s b a o none w) : stN w b = 1 := by
  unfold stN
  rw [h.c3]
  rfl
theorem stN_bad {eb es : Addr} {s : ByteArray} {b a o : Nat} {x : Nat × Nat} {w : World} (h : QR eb es s b a o (some x) w) : stN w b = 0 := by
  unfold stN
  rw [h.c3]
  rfl
theorem stN_le (w : World) (b : Nat) : stN w b ≤ 1 := by
  unfold stN
  split <;> omega

theorem info22_parts : ∃ i, Tryz.prog.info? 22 = some i ∧ i.zero = some (.pointer none) ∧ i.size = 1 ∧ i.bytes = 8 := by
  obtain ⟨i, hi, h⟩ := Option.map_eq_some_iff.1 info22
  simp only [Prod.mk.injEq] at h
  exact ⟨i, hi, h.1, h.2.1, h.2.2⟩

section
variable {eb es : Addr} {s : ByteArray}

/-- A list pushed: what stays. -/
theorem push_all {w W w3 : World} {b p o' : Nat} {st : Option (Nat × Nat)} {v v' : Value} {z : Option Addr} {ts : List Rx} {t : Rx} (hK : KidsR W w.heap.size v ts) (hre : IsRe W (fun k => w.heap.size ≤ k ∧ v.ownBlock ≠ some k) (.pointer z) t) (hk : Kp (onB b) w W) (hq : QR eb es s b p o' st W) (hb : b < w.heap.size)
    (ps : List Value) (hown : W.ownsRow w.heap.size 22 1 v ts.length ps) (hl : ps.length = ts.length) (hr : ∀ (i : Nat) (p : Value) (t : Rx), ps[i]? = some p → ts[i]? = some t → IsRe W (fun k => w.heap.size ≤ k ∧ v.ownBlock ≠ some k) p t)
    (hown' : w3.ownsRow w.heap.size 22 1 v' (ts.length + 1) (ps ++ [.pointer z])) (hg : (W.alloc (.cells #[.pointer z] 22)).grownBy w3 v.ownBlock) (hv : v'.ownBlock = v.ownBlock ∨ v'.ownBlock = some (W.alloc (.cells #[.pointer z] 22)).heap.size) :
    KidsR w3 w.heap.size v' (ts ++ [t]) ∧ Kp (onB b) w w3 ∧ QR eb es s b p o' st w3 := by
  have R := kids_push hown hl hr hre hown' hg hv
  have hfar := hK.far
  exact ⟨R.1, hk.later R.2 (fun i hi he => by have := (hfar i he).1; omega), hq.kp R.2 (fun he => by have := (hfar b he).1; omega)⟩

set_option maxRecDepth 100000 in
set_option maxHeartbeats 4000000 in
theorem rrow_any (hsz : s.size ≤ 65536) {n : Nat} (hU : RPartC eb es s n) : RRowC eb es s n := by
  intro b a o w hr hE ha hn ho
  have HU := Lib.hid hU
  have hfar := hr.far
  have hblt := hr.lt
  have HE := Lib.hid hE
  have HQ0 := Lib.hid hr
  obtain ⟨i0, hi, hz0, hz1, hz2⟩ := info22_parts
  clear hr hE hU
  go_enter Tryz.func168, Tryz.ntmps168
  go_wp2_with fail
  go_loopw [3] (fun v wr => ∃ ts p st o', a ≤ p ∧ p ≤ s.size ∧ o ≤ o' ∧ o' ≤ 101 ∧ ts.length ≤ p + 1 ∧ Hid (KidsR wr w.heap.size v ts ∧ Kp (onB b) w wr ∧ QR eb es s b p o' st wr ∧ Inv s (.row []) a (.row ts) p o o' st (ts.length ≤ p)))
    (fun _ wr => 2 * (s.size - (intOf ((wr.cell? ⟨b, 1, none⟩).getD undef)).toNat) + stN wr b)
  case atStart => exact ⟨[], a, none, o, Nat.le_refl _, ha, Nat.le_refl _, by omega, by simp, Lib.hid ⟨kids_nil _ _, Kp.refl _ _, HQ0.out, .inl ⟨rfl, rfl, by simp, fun r h => h⟩⟩⟩
  case round =>
    obtain ⟨ts, p, st, o', hap, hps, hoo, hoo', htl, HR⟩ := hrel
    have HKD := Lib.hid HR.out.1
    have HK := Lib.hid HR.out.2.1
    have HQ := Lib.hid HR.out.2.2.1
    have hks := HK.out.size
    have HEr := Lib.hid (HE.out.kp HK.out (fun k hk => onB_not (by omega)))
    have hc1r := Lib.hid HQ.out.c1
    rcases HR.out.2.2.2 with ⟨rfl, rfl, hlt, hI⟩ | ⟨y, rfl, hev⟩
    rotate_left
    · have HEV := Lib.hid hev
      have HN := Lib.hid (now_old HQ.out)
      have hb1 : decide ((-1 : Int) < 0) = true := rfl
      clear hev HR
      go_wp2_with fail
      refine HN.out.mono ?_
      rintro e w2 ⟨rfl, hk2⟩
      have HS := Lib.hid (several_any 2 u3 ts w.heap.size w2 (HKD.out.kp hk2 fun _ _ => noB_not _) (Nat.le_trans hks hk2.size))
      have HK2 := Lib.hid hk2
      clear hk2
      go_wp2_with fail
      refine HS.out.mono ?_
      rintro e w3 ⟨u, rfl, hre, hk3⟩
      have hk4 := HK2.out.trans hk3
      have R : Hid (TR eb es s (.row []) b a o w (.returned u) w3) := Lib.hid (tr_er hre (HQ.out.kp hk4 (noB_not _)) (HK.out.trans hk4.any) hap hps hoo hoo' HEV.out)
      clear hre hk3 hk4
      go_wp2_with fail
      go_ret
      exact R.out
    have HI := Lib.hid hI
    have HLT := Lib.hid hlt
    clear HR hI hlt
    by_cases h2 : pk s p = -2
    · have HN := Lib.hid (now_hurt HQ.out HEr.out (by omega) h2)
      have HEV := Lib.hid (HI.out _ (Ev.row_bad h2))
      have hb1 : decide ((-1 : Int) < 0) = true := rfl
      clear h2
      go_wp2_with fail
      refine HN.out.mono ?_
      rintro e w2 ⟨rfl, hq2, hk2⟩
      have HS := Lib.hid (several_any 2 u3 ts w.heap.size w2 (HKD.out.kp hk2 fun k hk => onB_not (by omega)) (Nat.le_trans hks hk2.size))
      have HK2 := Lib.hid hk2
      have HQ2 := Lib.hid hq2
      clear hk2 hq2
      go_wp2_with fail
      refine HS.out.mono ?_
      rintro e w3 ⟨u, rfl, hre, hk3⟩
      have R : Hid (TR eb es s (.row []) b a o' w (.returned u) w3) := Lib.hid (tr_er (x := (1, p)) hre (HQ2.out.kp hk3 (noB_not _)) ((HK.out.trans HK2.out).trans hk3.any) hap hps (Nat.le_refl _) (by omega) HEV.out)
      clear hre hk3
      go_wp2_with fail
      go_ret
      exact R.out
    have HN := Lib.hid (now_ok HQ.out hsz _ rfl h2)
    obtain ⟨c, hc⟩ : ∃ c, pk s p = c := ⟨_, rfl⟩
    rw [hc] at HN
    have HC := Lib.hid hc
    have H2 := Lib.hid h2
    have hcb := (pk_bnd s p).2
    rw [hc] at hcb h2
    clear hc
    by_cases hst : c = -1 ∨ c = 124 ∨ c = 38 ∨ c = 41
    · have HEV := Lib.hid (HI.out _ (Ev.row_stop (by rw [HC.out]; exact hst)))
      have hb : decide (c < (0 : Int)) = true ∨ (decide (c < (0 : Int)) = false ∧ (c == (124 : Int)) = true) ∨ (decide (c < (0 : Int)) = false ∧ (c == (124 : Int)) = false ∧ (c == (38 : Int)) = true) ∨ (decide (c < (0 : Int)) = false ∧ (c == (124 : Int)) = false ∧ (c == (38 : Int)) = false ∧ (c == (41 : Int)) = true) := by
        rcases hst with rfl | rfl | rfl | rfl <;> decide
      clear hst h2 hcb
      rcases hb with hb1 | ⟨hb1, hb2⟩ | ⟨hb1, hb2, hb3⟩ | ⟨hb1, hb2, hb3, hb4⟩
      all_goals
        go_wp2_with fail
        refine HN.out.mono ?_
        rintro e w2 ⟨rfl, hk2⟩
        have HS := Lib.hid (several_any 2 u3 ts w.heap.size w2 (HKD.out.kp hk2 fun _ _ => noB_not _) (Nat.le_trans hks hk2.size))
        have HK2 := Lib.hid hk2
        clear hk2
        go_wp2_with fail
        refine HS.out.mono ?_
        rintro e w3 ⟨u, rfl, hre, hk3⟩
        have hk4 := HK2.out.trans hk3
        have R : Hid (TR eb es s (.row []) b a o' w (.returned u) w3) := Lib.hid (tr_ok hre (HQ.out.kp hk4 (noB_not _)) (HK.out.trans hk4.any) hap hps (by omega) HEV.out)
        clear hre hk3 hk4
        go_wp2_with fail
        go_ret
        exact R.out
    have hb1 : decide (c < (0 : Int)) = false := decide_eq_false (by omega)
    have hb2 : (c == (124 : Int)) = false := beq_eq_false_iff_ne.2 (by omega)
    have hb3 : (c == (38 : Int)) = false := beq_eq_false_iff_ne.2 (by omega)
    have hb4 : (c == (41 : Int)) = false := beq_eq_false_iff_ne.2 (by omega)
    have HST := Lib.hid hst
    rw [← HC.out] at HST
    clear hst h2 hcb
    go_wp2_with fail
    refine HN.out.mono ?_
    rintro e w2 ⟨rfl, hk2⟩
    have HP := Lib.hid (HU.out b p o' w2 (HQ.out.kp hk2 (noB_not _)) (HEr.out.kp hk2 (fun _ _ => noB_not _)) hps (by omega) ho)
    have HK2 : Hid (Kp (onB b) w w2) := Lib.hid (HK.out.trans hk2.any)
    have HKD2 := Lib.hid (HKD.out.kp hk2 fun _ _ => noB_not _)
    clear hk2
    go_wp2_with fail
    refine HP.out.mono ?_
    clear HP
    rintro e w3 ⟨v3, t3, st3, p3, o3, rfl, hre3, hq3, hk3, hap3, hps3, ho3, ho3', HD3⟩
    obtain ⟨z, rfl⟩ := IsRe_ptr hre3
    have HSTEP : Hid (ts.length + 1 ≤ p3 + 1 ∧ (2 * (s.size - p3) + stN w3 b < 2 * (s.size - p) + 1) ∧ Inv s (.row []) a (.row (ts ++ [t3])) p3 o' o3 st3 (ts.length + 1 ≤ p3)) := Lib.hid (by
      rcases HD3.out with ⟨h1, h2, h3, h4⟩ | ⟨x, h1, h2⟩
      · refine ⟨by have := HLT.out; omega, by have := stN_le w3 b; omega, .inl ⟨h1, h2, by have := HLT.out; omega, fun r h => HI.out _ (Ev.row_ok H2.out HST.out h4 h)⟩⟩
      · subst h1
        refine ⟨by have := HLT.out; omega, by have := stN_bad hq3; omega, .inr ⟨x, rfl, HI.out _ (Ev.row_er H2.out HST.out h2)⟩⟩)
    have HKD3 := Lib.hid (HKD2.out.kp hk3 fun k hk => onB_not (by have := HK2.out.size; omega))
    have HK3 := Lib.hid (HK2.out.trans hk3)
    have hks2 := HK2.out.size
    have hks3 := HK3.out.size
    have hfarK := HKD2.out.far
    have HRE3 : Hid (IsRe w3 (fun k => w.heap.size ≤ k ∧ u3.ownBlock ≠ some k) (.pointer z) t3) := Lib.hid (hre3.ok fun k _ hk => ⟨by omega, fun he => by have := (hfarK k he).2; omega⟩)
    have HQ3 := Lib.hid hq3
    obtain ⟨ps, hown, hpl, hkids⟩ := HKD3.out
    have HOW := Lib.hid hown
    have HKI := Lib.hid (And.intro hpl hkids)
    have hpl1 : ts.length ≤ 65537 := by omega
    clear hre3 hq3 hk3 HD3 hfarK hown hpl hkids
    go_wp2_with (first
      | (at_builtin; refine wpList_append_own_at _ rfl (.tmp 26) (.tmp 28) 32 rfl w.heap.size 22 i0 (.pointer none) 1 8 Tryz.underlying32 hi hz0 hz1 hz2 rfl (by decide) _ _ _ rfl (HOW.out.alloc _) ⟨w3.heap.size, 0, none⟩ 1 1 [.pointer z] rfl rfl (cell_one_new w3 (.pointer z) 22) (fun x hx => by simp at hx; subst hx; rfl) (by unfold maxLen; omega) (by omega) (by simp; omega) ?_; intro v' w9 hown' hgrow9 hnil9 hat9; have R := Lib.hid (push_all HKD3.out HRE3.out HK3.out HQ3.out hblt ps HOW.out HKI.out.1 HKI.out.2 hown' hgrow9 hat9); have HQ9 := Lib.hid R.out.2.2; have HST9 : Hid (stN w9 b = stN w3 b) := Lib.hid (by unfold stN; rw [HQ9.out.c3, HQ3.out.c3]); clear hown' hgrow9 hnil9 hat9))
    go_roundw
    case rel => exact ⟨ts ++ [t3], p3, st3, o3, by omega, hps3, by omega, ho3', by simp; have := HSTEP.out.1; omega, Lib.hid ⟨R.out.1, R.out.2.1, R.out.2.2, by rw [List.length_append]; exact HSTEP.out.2.2⟩⟩
    case measure => rw [HQ9.out.c1, hc1r.out, HST9.out, stN_good HQ.out]; simp only [intOf, Option.getD_some]; have := HSTEP.out.2.1; omega

set_option maxRecDepth 100000 in
set_option maxHeartbeats 4000000 in
theorem rboth_list (hsz : s.size ≤ 65536) {n : Nat} (hU : RRowC eb es s n) : RBothC eb es s n := by
  intro b a o w hr hE ha hn ho
  have HU := Lib.hid hU
  have HP := Lib.hid (hU b a o w hr hE ha hn ho)
  have hfar := hr.far
  have hblt := hr.lt
  have HE := Lib.hid hE
  obtain ⟨i0, hi, hz0, hz1, hz2⟩ := info22_parts
  clear hr hE hU
  go_enter Tryz.func115, Tryz.ntmps115
  go_wp2_with fail
  refine HP.out.mono ?_
  clear HP
  rintro e w1 ⟨v1, t1, st1, p1, o1, rfl, hre1, hq1, hk1, hap1, hps1, ho1, ho1', HD1⟩
  obtain ⟨z1, rfl⟩ := IsRe_ptr hre1
  have H1 : Hid (KidsR (w1.alloc (.cells #[.pointer z1] 22)) w.heap.size (.slice (some ⟨w1.heap.size, 0, none⟩) 1 1) [t1] ∧ Kp (onB b) w (w1.alloc (.cells #[.pointer z1] 22)) ∧ QR eb es s b p1 o1 st1 (w1.alloc (.cells #[.pointer z1] 22)) ∧ Inv s .both a (.bothL [t1]) p1 o o1 st1 ([t1].length ≤ p1 + 1)) := Lib.hid ⟨kids_one hre1 hk1.size, hk1.alloc _, hq1.kp ((Kp.refl noB w1).alloc _) (noB_not _), by
    rcases HD1.out with ⟨h1, h2, h4⟩ | ⟨x, h1, h2⟩
    · exact .inl ⟨h1, h2, by simp, fun r h => Ev.both_ok h4 h⟩
    · exact .inr ⟨x, h1, Ev.both_er h2⟩⟩
  clear hre1 hq1 hk1 HD1
  go_wp2_with fail
  go_loopw [4] (fun v wr => ∃ ts p st o', a ≤ p ∧ p ≤ s.size ∧ o ≤ o' ∧ o' ≤ 101 ∧ ts.length ≤ p + 1 ∧ Hid (KidsR wr w.heap.size v ts ∧ Kp (onB b) w wr ∧ QR eb es s b p o' st wr ∧ Inv s .both a (.bothL ts) p o o' st (ts.length ≤ p + 1)))
    (fun _ wr => s.size - (intOf ((wr.cell? ⟨b, 1, none⟩).getD undef)).toNat)
  case atStart => exact ⟨[t1], p1, st1, o1, hap1, hps1, ho1, ho1', by simp, H1⟩
  case round =>
    clear H1 hap1 hps1 ho1 ho1'
    obtain ⟨ts, p, st, o', hap, hps, hoo, hoo', htl, HR⟩ := hrel
    have HKD := Lib.hid HR.out.1
    have HK := Lib.hid HR.out.2.1
    have HQ := Lib.hid HR.out.2.2.1
    have hks := HK.out.size
    have HEr := Lib.hid (HE.out.kp HK.out (fun k hk => onB_not (by omega)))
    have hc1r := Lib.hid HQ.out.c1
    rcases HR.out.2.2.2 with ⟨rfl, rfl, hlt, hI⟩ | ⟨y, rfl, hev⟩
    rotate_left
    · have HEV := Lib.hid hev
      have HN := Lib.hid (eat_old 38 HQ.out (by omega))
      clear hev HR
      go_wp2_with fail
      refine HN.out.mono ?_
      rintro e w2 ⟨rfl, hk2⟩
      have HS := Lib.hid (several_any 4 u4 ts w.heap.size w2 (HKD.out.kp hk2 fun _ _ => noB_not _) (Nat.le_trans hks hk2.size))
      have HK2 := Lib.hid hk2
      clear hk2
      go_wp2_with fail
      refine HS.out.mono ?_
      rintro e w3 ⟨u, rfl, hre, hk3⟩
      have hk4 := HK2.out.trans hk3
      have R : Hid (TR eb es s .both b a o w (.returned u) w3) := Lib.hid (tr_er hre (HQ.out.kp hk4 (noB_not _)) (HK.out.trans hk4.any) hap hps hoo hoo' HEV.out)
      clear hre hk3 hk4
      go_wp2_with fail
      go_ret
      exact R.out
    have HI := Lib.hid hI
    clear HR hI hlt
    by_cases h2 : pk s p = -2
    · have HN := Lib.hid (eat_hurt 38 HQ.out HEr.out hsz (by omega) h2)
      have HEV := Lib.hid (HI.out _ (Ev.bothL_bad h2))
      clear h2
      go_wp2_with fail
      refine HN.out.mono ?_
      rintro e w2 ⟨rfl, hk2, hq2⟩
      have HS := Lib.hid (several_any 4 u4 ts w.heap.size w2 (HKD.out.kp hk2 fun k hk => onB_not (by omega)) (Nat.le_trans hks hk2.size))
      have HK2 := Lib.hid hk2
      have HQ2 := Lib.hid hq2
      clear hk2 hq2
      go_wp2_with fail
      refine HS.out.mono ?_
      rintro e w3 ⟨u, rfl, hre, hk3⟩
      have R : Hid (TR eb es s .both b a o' w (.returned u) w3) := Lib.hid (tr_er (x := (1, p)) hre (HQ2.out.kp hk3 (noB_not _)) ((HK.out.trans HK2.out).trans hk3.any) hap hps (Nat.le_refl _) (by omega) HEV.out)
      clear hre hk3
      go_wp2_with fail
      go_ret
      exact R.out
    by_cases hs : pk s p = 38
    rotate_left
    · have HN := Lib.hid (eat_no 38 HQ.out hsz h2 hs)
      have HEV := Lib.hid (HI.out _ (Ev.bothL_stop h2 hs))
      clear h2 hs
      go_wp2_with fail
      refine HN.out.mono ?_
      rintro e w2 ⟨rfl, hk2⟩
      have HS := Lib.hid (several_any 4 u4 ts w.heap.size w2 (HKD.out.kp hk2 fun _ _ => noB_not _) (Nat.le_trans hks hk2.size))
      have HK2 := Lib.hid hk2
      clear hk2
      go_wp2_with fail
      refine HS.out.mono ?_
      rintro e w3 ⟨u, rfl, hre, hk3⟩
      have hk4 := HK2.out.trans hk3
      have R : Hid (TR eb es s .both b a o' w (.returned u) w3) := Lib.hid (tr_ok hre (HQ.out.kp hk4 (noB_not _)) (HK.out.trans hk4.any) hap hps (by omega) HEV.out)
      clear hre hk3 hk4
      go_wp2_with fail
      go_ret
      exact R.out
    have HN := Lib.hid (eat_yes 38 HQ.out hsz (by omega) (by omega) hs)
    have HS := Lib.hid hs
    have hpl := pk_lt s p (by omega)
    clear h2 hs
    go_wp2_with fail
    refine HN.out.mono ?_
    rintro e w2 ⟨rfl, hk2, hq2⟩
    have HP := Lib.hid (HU.out b (p + 1) o' w2 hq2 (HEr.out.kp hk2 (fun k hk => onB_not (by omega))) (by omega) (by omega) ho)
    have HK2 : Hid (Kp (onB b) w w2) := Lib.hid (HK.out.trans hk2)
    have HKD2 := Lib.hid (HKD.out.kp hk2 fun k hk => onB_not (by omega))
    clear hk2 hq2
    go_wp2_with fail
    refine HP.out.mono ?_
    clear HP
    rintro e w3 ⟨v3, t3, st3, p3, o3, rfl, hre3, hq3, hk3, hap3, hps3, ho3, ho3', HD3⟩
    obtain ⟨z, rfl⟩ := IsRe_ptr hre3
    have HSTEP : Hid (Inv s .both a (.bothL (ts ++ [t3])) p3 o' o3 st3 (ts.length + 1 ≤ p3 + 1)) := Lib.hid (by
      rcases HD3.out with ⟨h1, h2, h4⟩ | ⟨x, h1, h2⟩
      · exact .inl ⟨h1, h2, by omega, fun r h => HI.out _ (Ev.bothL_ok HS.out h4 h)⟩
      · exact .inr ⟨x, h1, HI.out _ (Ev.bothL_er HS.out h2)⟩)
    have HKD3 := Lib.hid (HKD2.out.kp hk3 fun k hk => onB_not (by have := HK2.out.size; omega))
    have HK3 := Lib.hid (HK2.out.trans hk3)
    have hks2 := HK2.out.size
    have hks3 := HK3.out.size
    have hfarK := HKD2.out.far
    have HRE3 : Hid (IsRe w3 (fun k => w.heap.size ≤ k ∧ u4.ownBlock ≠ some k) (.pointer z) t3) := Lib.hid (hre3.ok fun k _ hk => ⟨by omega, fun he => by have := (hfarK k he).2; omega⟩)
    have HQ3 := Lib.hid hq3
    obtain ⟨ps, hown, hpl1, hkids⟩ := HKD3.out
    have HOW := Lib.hid hown
    have HKI := Lib.hid (And.intro hpl1 hkids)
    have hpl2 : ts.length ≤ 65537 := by omega
    clear hre3 hq3 hk3 HD3 hfarK hown hpl1 hkids
    go_wp2_with (first
      | (at_builtin; refine wpList_append_own_at _ rfl (.tmp 18) (.tmp 20) 32 rfl w.heap.size 22 i0 (.pointer none) 1 8 Tryz.underlying32 hi hz0 hz1 hz2 rfl (by decide) _ _ _ rfl (HOW.out.alloc _) ⟨w3.heap.size, 0, none⟩ 1 1 [.pointer z] rfl rfl (cell_one_new w3 (.pointer z) 22) (fun x hx => by simp at hx; subst hx; rfl) (by unfold maxLen; omega) (by omega) (by simp; omega) ?_; intro v' w9 hown' hgrow9 hnil9 hat9; have R := Lib.hid (push_all HKD3.out HRE3.out HK3.out HQ3.out hblt ps HOW.out HKI.out.1 HKI.out.2 hown' hgrow9 hat9); have HQ9 := Lib.hid R.out.2.2; clear hown' hgrow9 hnil9 hat9))
    go_roundw
    case rel => exact ⟨ts ++ [t3], p3, st3, o3, by omega, hps3, by omega, ho3', by simp; omega, Lib.hid ⟨R.out.1, R.out.2.1, R.out.2.2, by rw [List.length_append]; exact HSTEP.out⟩⟩
    case measure => rw [HQ9.out.c1, hc1r.out]; simp only [intOf, Option.getD_some]; omega

set_option maxRecDepth 100000 in
set_option maxHeartbeats 4000000 in
theorem rany_list (hsz : s.size ≤ 65536) {n : Nat} (hU : RBothC eb es s n) : RAnyC eb es s n := by
  intro b a o w hr hE ha hn ho
  have HU := Lib.hid hU
  have HP := Lib.hid (hU b a o w hr hE ha hn ho)
  have hfar := hr.far
  have hblt := hr.lt
  have HE := Lib.hid hE
  obtain ⟨i0, hi, hz0, hz1, hz2⟩ := info22_parts
  clear hr hE hU
  go_enter Tryz.func57, Tryz.ntmps57
  go_wp2_with fail
  refine HP.out.mono ?_
  clear HP
  rintro e w1 ⟨v1, t1, st1, p1, o1, rfl, hre1, hq1, hk1, hap1, hps1, ho1, ho1', HD1⟩
  obtain ⟨z1, rfl⟩ := IsRe_ptr hre1
  have H1 : Hid (KidsR (w1.alloc (.cells #[.pointer z1] 22)) w.heap.size (.slice (some ⟨w1.heap.size, 0, none⟩) 1 1) [t1] ∧ Kp (onB b) w (w1.alloc (.cells #[.pointer z1] 22)) ∧ QR eb es s b p1 o1 st1 (w1.alloc (.cells #[.pointer z1] 22)) ∧ Inv s .any a (.anyL [t1]) p1 o o1 st1 ([t1].length ≤ p1 + 1)) := Lib.hid ⟨kids_one hre1 hk1.size, hk1.alloc _, hq1.kp ((Kp.refl noB w1).alloc _) (noB_not _), by
    rcases HD1.out with ⟨h1, h2, h4⟩ | ⟨x, h1, h2⟩
    · exact .inl ⟨h1, h2, by simp, fun r h => Ev.any_ok h4 h⟩
    · exact .inr ⟨x, h1, Ev.any_er h2⟩⟩
  clear hre1 hq1 hk1 HD1
  go_wp2_with fail
  go_loopw [4] (fun v wr => ∃ ts p st o', a ≤ p ∧ p ≤ s.size ∧ o ≤ o' ∧ o' ≤ 101 ∧ ts.length ≤ p + 1 ∧ Hid (KidsR wr w.heap.size v ts ∧ Kp (onB b) w wr ∧ QR eb es s b p o' st wr ∧ Inv s .any a (.anyL ts) p o o' st (ts.length ≤ p + 1)))
    (fun _ wr => s.size - (intOf ((wr.cell? ⟨b, 1, none⟩).getD undef)).toNat)
  case atStart => exact ⟨[t1], p1, st1, o1, hap1, hps1, ho1, ho1', by simp, H1⟩
  case round =>
    clear H1 hap1 hps1 ho1 ho1'
    obtain ⟨ts, p, st, o', hap, hps, hoo, hoo', htl, HR⟩ := hrel
    have HKD := Lib.hid HR.out.1
    have HK := Lib.hid HR.out.2.1
    have HQ := Lib.hid HR.out.2.2.1
    have hks := HK.out.size
    have HEr := Lib.hid (HE.out.kp HK.out (fun k hk => onB_not (by omega)))
    have hc1r := Lib.hid HQ.out.c1
    rcases HR.out.2.2.2 with ⟨rfl, rfl, hlt, hI⟩ | ⟨y, rfl, hev⟩
    rotate_left
    · have HEV := Lib.hid hev
      have HN := Lib.hid (eat_old 124 HQ.out (by omega))
      clear hev HR
      go_wp2_with fail
      refine HN.out.mono ?_
      rintro e w2 ⟨rfl, hk2⟩
      have HS := Lib.hid (several_any 3 u4 ts w.heap.size w2 (HKD.out.kp hk2 fun _ _ => noB_not _) (Nat.le_trans hks hk2.size))
      have HK2 := Lib.hid hk2
      clear hk2
      go_wp2_with fail
      refine HS.out.mono ?_
      rintro e w3 ⟨u, rfl, hre, hk3⟩
      have hk4 := HK2.out.trans hk3
      have R : Hid (TR eb es s .any b a o w (.returned u) w3) := Lib.hid (tr_er hre (HQ.out.kp hk4 (noB_not _)) (HK.out.trans hk4.any) hap hps hoo hoo' HEV.out)
      clear hre hk3 hk4
      go_wp2_with fail
      go_ret
      exact R.out
    have HI := Lib.hid hI
    clear HR hI hlt
    by_cases h2 : pk s p = -2
    · have HN := Lib.hid (eat_hurt 124 HQ.out HEr.out hsz (by omega) h2)
      have HEV := Lib.hid (HI.out _ (Ev.anyL_bad h2))
      clear h2
      go_wp2_with fail
      refine HN.out.mono ?_
      rintro e w2 ⟨rfl, hk2, hq2⟩
      have HS := Lib.hid (several_any 3 u4 ts w.heap.size w2 (HKD.out.kp hk2 fun k hk => onB_not (by omega)) (Nat.le_trans hks hk2.size))
      have HK2 := Lib.hid hk2
      have HQ2 := Lib.hid hq2
      clear hk2 hq2
      go_wp2_with fail
      refine HS.out.mono ?_
      rintro e w3 ⟨u, rfl, hre, hk3⟩
      have R : Hid (TR eb es s .any b a o' w (.returned u) w3) := Lib.hid (tr_er (x := (1, p)) hre (HQ2.out.kp hk3 (noB_not _)) ((HK.out.trans HK2.out).trans hk3.any) hap hps (Nat.le_refl _) (by omega) HEV.out)
      clear hre hk3
      go_wp2_with fail
      go_ret
      exact R.out
    by_cases hs : pk s p = 124
    rotate_left
    · have HN := Lib.hid (eat_no 124 HQ.out hsz h2 hs)
      have HEV := Lib.hid (HI.out _ (Ev.anyL_stop h2 hs))
      clear h2 hs
      go_wp2_with fail
      refine HN.out.mono ?_
      rintro e w2 ⟨rfl, hk2⟩
      have HS := Lib.hid (several_any 3 u4 ts w.heap.size w2 (HKD.out.kp hk2 fun _ _ => noB_not _) (Nat.le_trans hks hk2.size))
      have HK2 := Lib.hid hk2
      clear hk2
      go_wp2_with fail
      refine HS.out.mono ?_
      rintro e w3 ⟨u, rfl, hre, hk3⟩
      have hk4 := HK2.out.trans hk3
      have R : Hid (TR eb es s .any b a o' w (.returned u) w3) := Lib.hid (tr_ok hre (HQ.out.kp hk4 (noB_not _)) (HK.out.trans hk4.any) hap hps (by omega) HEV.out)
      clear hre hk3 hk4
      go_wp2_with fail
      go_ret
      exact R.out
    have HN := Lib.hid (eat_yes 124 HQ.out hsz (by omega) (by omega) hs)
    have HS := Lib.hid hs
    have hpl := pk_lt s p (by omega)
    clear h2 hs
    go_wp2_with fail
    refine HN.out.mono ?_
    rintro e w2 ⟨rfl, hk2, hq2⟩
    have HP := Lib.hid (HU.out b (p + 1) o' w2 hq2 (HEr.out.kp hk2 (fun k hk => onB_not (by omega))) (by omega) (by omega) ho)
    have HK2 : Hid (Kp (onB b) w w2) := Lib.hid (HK.out.trans hk2)
    have HKD2 := Lib.hid (HKD.out.kp hk2 fun k hk => onB_not (by omega))
    clear hk2 hq2
    go_wp2_with fail
    refine HP.out.mono ?_
    clear HP
    rintro e w3 ⟨v3, t3, st3, p3, o3, rfl, hre3, hq3, hk3, hap3, hps3, ho3, ho3', HD3⟩
    obtain ⟨z, rfl⟩ := IsRe_ptr hre3
    have HSTEP : Hid (Inv s .any a (.anyL (ts ++ [t3])) p3 o' o3 st3 (ts.length + 1 ≤ p3 + 1)) := Lib.hid (by
      rcases HD3.out with ⟨h1, h2, h4⟩ | ⟨x, h1, h2⟩
      · exact .inl ⟨h1, h2, by omega, fun r h => HI.out _ (Ev.anyL_ok HS.out h4 h)⟩
      · exact .inr ⟨x, h1, HI.out _ (Ev.anyL_er HS.out h2)⟩)
    have HKD3 := Lib.hid (HKD2.out.kp hk3 fun k hk => onB_not (by have := HK2.out.size; omega))
    have HK3 := Lib.hid (HK2.out.trans hk3)
    have hks2 := HK2.out.size
    have hks3 := HK3.out.size
    have hfarK := HKD2.out.far
    have HRE3 : Hid (IsRe w3 (fun k => w.heap.size ≤ k ∧ u4.ownBlock ≠ some k) (.pointer z) t3) := Lib.hid (hre3.ok fun k _ hk => ⟨by omega, fun he => by have := (hfarK k he).2; omega⟩)
    have HQ3 := Lib.hid hq3
    obtain ⟨ps, hown, hpl1, hkids⟩ := HKD3.out
    have HOW := Lib.hid hown
    have HKI := Lib.hid (And.intro hpl1 hkids)
    have hpl2 : ts.length ≤ 65537 := by omega
    clear hre3 hq3 hk3 HD3 hfarK hown hpl1 hkids
    go_wp2_with (first
      | (at_builtin; refine wpList_append_own_at _ rfl (.tmp 18) (.tmp 20) 32 rfl w.heap.size 22 i0 (.pointer none) 1 8 Tryz.underlying32 hi hz0 hz1 hz2 rfl (by decide) _ _ _ rfl (HOW.out.alloc _) ⟨w3.heap.size, 0, none⟩ 1 1 [.pointer z] rfl rfl (cell_one_new w3 (.pointer z) 22) (fun x hx => by simp at hx; subst hx; rfl) (by unfold maxLen; omega) (by omega) (by simp; omega) ?_; intro v' w9 hown' hgrow9 hnil9 hat9; have R := Lib.hid (push_all HKD3.out HRE3.out HK3.out HQ3.out hblt ps HOW.out HKI.out.1 HKI.out.2 hown' hgrow9 hat9); have HQ9 := Lib.hid R.out.2.2; clear hown' hgrow9 hnil9 hat9))
    go_roundw
    case rel => exact ⟨ts ++ [t3], p3, st3, o3, by omega, hps3, by omega, ho3', by simp; omega, Lib.hid ⟨R.out.1, R.out.2.1, R.out.2.2, by rw [List.length_append]; exact HSTEP.out⟩⟩
    case measure => rw [HQ9.out.c1, hc1r.out]; simp only [intOf, Option.getD_some]; omega

theorem rany_of_unit (hsz : s.size ≤ 65536) {n : Nat} (hU : RUnitC eb es s n) : RAnyC eb es s n := rany_list hsz (rboth_list hsz (rrow_any hsz (rpart_any hsz hU)))
end
end Go.Proofs.YtoijabgcgdgacaaGreatDoor

namespace Go.Proofs.YtoijabgcgdgacaaGreatDoor
open Go.RowKit Go.Proofs.Gram

/-- How reading a class ends. -/
def TC (eb es : Addr) (s : ByteArray) (b q o : Nat) (w : World) (e : Ending) (w' : World) : Prop :=
  ∃ v t st p, e = .returned v ∧ IsRe w' (fun k => w.heap.size ≤ k) v t ∧ QR eb es s b p o st w' ∧ Kp (onB b) w w' ∧ q ≤ p ∧ p ≤ s.size ∧
    Hid ((st = none ∧ Cls s q (.ok t p)) ∨ ∃ x, st = some x ∧ Cls s q (.er x.1 x.2))

def InvC (s : ByteArray) (a1 p : Nat) (l : List (Int × Int)) (st : Option (Nat × Nat)) : Prop :=
  (st = none ∧ l.length ≤ p ∧ ∀ r, Items s p l r → Items s a1 [] r) ∨ ∃ x, st = some x ∧ Items s a1 [] (.er x.1 x.2)

section
variable {eb es : Addr} {s : ByteArray} {b a o : Nat} {w : World}

theorem eat_any (c : Int) (h : QR eb es s b a o none w) (hs : s.size ≤ 65536) (h0 : 0 ≤ c) (h1 : c < 128) (h2 : pk s a ≠ -2) :
    Calls Tryz.prog 116 #[.pointer (some ⟨b, 0, none⟩), .int .i64 c] w fun e w' => ∃ nb a1, e = .returned (.bool nb) ∧ Kp (onB b) w w' ∧ QR eb es s b a1 o none w' ∧ Hid ((nb = true ∧ pk s a = c ∧ a1 = a + 1 ∧ a + 1 ≤ s.size) ∨ (nb = false ∧ pk s a ≠ c ∧ a1 = a)) := by
  by_cases hc : pk s a = c
  · have := pk_lt s a (by omega)
    exact (eat_yes c h hs h0 h1 hc).mono fun e w' ⟨he, hk, hr'⟩ => ⟨true, a + 1, he, hk, hr', Lib.hid (.inl ⟨rfl, hc, rfl, this⟩)⟩
  · exact (eat_no c h hs h2 hc).mono fun e w' ⟨he, hk⟩ => ⟨false, a, he, hk.any, h.kp hk (noB_not _), Lib.hid (.inr ⟨rfl, hc, rfl⟩)⟩

set_option maxRecDepth 100000 in
theorem rclass_hurt (h : QR eb es s b a o none w) (hE : Env 406 eb es w) (hs : s.size ≤ 65536) (h2 : pk s a = -2) :
    Calls Tryz.prog 288 #[.pointer (some ⟨b, 0, none⟩), .int .i64 91] w (TC eb es s b a o w) := by
  have HN := Lib.hid (eat_hurt 94 h hE hs (by omega) h2)
  have HC := Lib.hid (Cls.bad h2)
  have hal := (pk_bad h2).1
  have herr := err_eq
  have t126 : ((91 : Int) == 126) = false := rfl
  have t40 : ((91 : Int) == 40) = false := rfl
  clear h hE h2
  go_enter Tryz.func288, Tryz.ntmps288
  go_wp2_with fail
  refine HN.out.mono ?_
  rintro e w1 ⟨rfl, hk1, hq1⟩
  have g3 := hq1.c3
  simp only [badV] at g3
  have HQ1 := Lib.hid hq1
  have HK1 := Lib.hid hk1
  have HCN := Lib.hid (rcanon_any (.slice none 0 0) [] (fun _ => True) w1 (rngs_nil _ _) (by simp))
  clear hq1 hk1
  go_wp2_with fail
  go_loopw [8] (fun v wr => v = .slice none 0 0 ∧ wr = w1) (fun _ _ => 0)
  case atStart => exact ⟨rfl, rfl⟩
  case round =>
    obtain ⟨rfl, rfl⟩ := hrel
    go_wp2_with fail
    refine HCN.out.mono ?_
    rintro e w2 ⟨u, rfl, hru, hk2⟩
    obtain ⟨A, cap, rfl, _⟩ := rngs_open hru
    obtain ⟨n4, HN4⟩ : ∃ n4, Hid ((canonOf (inR [])).length = n4) := ⟨_, rfl⟩
    rw [HN4.out] at hru ⊢
    have R : Hid (TC eb es s b a o w (.returned (.pointer (some ⟨w2.heap.size, 0, none⟩))) (w2.alloc (.cells #[.int .i64 1, .slice A n4 cap, .int .i64 0, .int .i64 0, .slice none 0 0] 34))) := Lib.hid (by
      have hR := isRe_set hru hk2.size
      have hk3 := hk2.alloc (.cells #[.int .i64 1, .slice A n4 cap, .int .i64 0, .int .i64 0, .slice none 0 0] 34)
      exact ⟨_, _, some (1, a), a, rfl, hR.ok (fun k _ h => by have := HK1.out.size; omega), HQ1.out.kp hk3 (noB_not _), HK1.out.trans hk3.any, Nat.le_refl _, by omega, Lib.hid (.inr ⟨_, rfl, HC.out⟩)⟩)
    clear hru hk2
    go_wp2_with fail
    go_ret
    exact R.out
end
end Go.Proofs.YtoijabgcgdgacaaGreatDoor

namespace Go.Proofs.YtoijabgcgdgacaaGreatDoor
open Go.RowKit Go.Proofs.Gram

section
variable {eb es : Addr} {s : ByteArray} {b a o : Nat} {w : World}

/-- One range more. -/
theorem cls_push {w W w3 : World} {b p o' : Nat} {st : Option (Nat × Nat)} {v v' : Value} {l : List (Int × Int)} {x y : Int} {o2 : Obj} (hown : Own W w.heap.size v l) (hk : Kp (onB b) w W) (hq : QR eb es s b p o' st W) (hb : b < w.heap.size)
    (hown' : w3.ownsRow w.heap.size 191 2 v' (l.length + 1) (rcells l ++ [.int .i64 x, .int .i64 y])) (hg : (W.alloc o2).grownBy w3 v.ownBlock) :
    Own w3 w.heap.size v' (l ++ [(x, y)]) ∧ Kp (onB b) w w3 ∧ QR eb es s b p o' st w3 := by
  have R := own_push2 hown hown' hg hk (Nat.le_refl _)
  exact ⟨R.1, R.2.1, hq.kp R.2.2 (by omega)⟩

set_option maxRecDepth 100000 in
set_option maxHeartbeats 8000000 in
theorem rclass_good (h : QR eb es s b a o none w) (hE : Env 406 eb es w) (hs : s.size ≤ 65536) (ha : a ≤ s.size) (h2 : pk s a ≠ -2) :
    Calls Tryz.prog 288 #[.pointer (some ⟨b, 0, none⟩), .int .i64 91] w (TC eb es s b a o w) := by
  have HN0 := Lib.hid (eat_any 94 h hs (by omega) (by omega) h2)
  have H2 := Lib.hid h2
  have hfar := h.far
  have hblt := h.lt
  have HE := Lib.hid hE
  have herr := err_eq
  have hnil := nil_eq
  have t126 : ((91 : Int) == 126) = false := rfl
  have t40 : ((91 : Int) == 40) = false := rfl
  obtain ⟨i0, hi, hz0, hz1, hz2⟩ := info191_parts
  clear h hE h2
  go_enter Tryz.func288, Tryz.ntmps288
  go_wp2_with fail
  refine HN0.out.mono ?_
  clear HN0
  rintro e w1 ⟨nb, a1, rfl, hk1, hq1, HN⟩
  have HA1 : Hid (a ≤ a1 ∧ a1 ≤ s.size) := Lib.hid (by rcases HN.out with ⟨_, _, rfl, h⟩ | ⟨_, _, rfl⟩ <;> omega)
  -- what the items tell, the class tells
  have HCE : Hid (∀ x : Nat × Nat, Items s a1 [] (.er x.1 x.2) → Cls s a (.er x.1 x.2)) := Lib.hid fun x hi => by
    rcases HN.out with ⟨_, h, rfl, _⟩ | ⟨_, h, rfl⟩
    · exact Cls.not_er h hi
    · exact Cls.in_er H2.out h hi
  have HQ1 := Lib.hid hq1
  have HK1 := Lib.hid hk1
  have ha1s := HA1.out.2
  clear hq1 hk1
  go_wp2_with fail
  go_loopw [8] (fun v wr => ∃ l p st, a1 ≤ p ∧ p ≤ s.size ∧ l.length ≤ p + 1 ∧ Hid (Own wr w.heap.size v l ∧ Kp (onB b) w wr ∧ QR eb es s b p o st wr ∧ InvC s a1 p l st))
    (fun _ wr => 2 * (s.size - (intOf ((wr.cell? ⟨b, 1, none⟩).getD undef)).toNat) + stN wr b)
  case atStart => exact ⟨[], a1, none, Nat.le_refl _, ha1s, by simp, Lib.hid ⟨own_nil _ _, HK1.out, HQ1.out, .inl ⟨rfl, by simp, fun r h => h⟩⟩⟩
  case round =>
    obtain ⟨l, p, st, hap, hps, hll, HR⟩ := hrel
    have HO := Lib.hid HR.out.1
    have HK := Lib.hid HR.out.2.1
    have HQ := Lib.hid HR.out.2.2.1
    have HIV := Lib.hid HR.out.2.2.2
    clear HR
    -- the end, whichever way
    have HEND : Hid (∀ W, Kp (onB b) w W → Own W w.heap.size u8 l → Calls Tryz.prog 173 #[u8] W fun e w' => ∃ A n cap, e = .returned (.slice A n cap) ∧ Kp noB W w' ∧ Hid (Rngs w' (fun k => W.heap.size ≤ k) (.slice A n cap) (canonOf (inR l)))) := Lib.hid fun W hk hO =>
      (rcanon_any u8 l _ W hO.rngs (by omega)).mono fun e w' ⟨u, he, hru, hk'⟩ => by
        obtain ⟨A, cap, rfl, _⟩ := rngs_open hru
        exact ⟨A, _, cap, he, hk', Lib.hid hru⟩
    have HOTH : Hid (∀ (W : World) (va : Value) (ok1 : Nat → Prop), Rngs W ok1 va [(0, 1114111)] → Own W w.heap.size u8 l → Calls Tryz.prog 211 #[va, u8, .int .i64 3] W fun e w' => ∃ A n cap, e = .returned (.slice A n cap) ∧ Kp noB W w' ∧ Hid (Rngs w' (fun k => W.heap.size ≤ k) (.slice A n cap) (canonOf fun p => ¬ inR l p))) := Lib.hid fun W va ok1 hra hO =>
      (rother_any va u8 l ok1 _ W hra hO.rngs (by omega)).mono fun e w' ⟨u, he, hru, hk'⟩ => by
        obtain ⟨A, cap, rfl, _⟩ := rngs_open hru
        exact ⟨A, _, cap, he, hk', Lib.hid hru⟩
    rcases HIV.out with ⟨rfl, hlp, hI⟩ | ⟨x, rfl, hev⟩
    rotate_left
    · -- something was wrong
      have HEV := Lib.hid (HCE.out x hev)
      have g3 := HQ.out.c3
      simp only [badV] at g3
      have HFIN : Hid (∀ (t : List (Int × Int)) (W2 : World) (A : Option Addr) (n cap : Nat), Kp noB wr W2 → Rngs W2 (fun k => w.heap.size ≤ k) (.slice A n cap) t → TC eb es s b a o w (.returned (.pointer (some ⟨W2.heap.size, 0, none⟩))) (W2.alloc (.cells #[.int .i64 1, .slice A n cap, .int .i64 0, .int .i64 0, .slice none 0 0] 34))) := Lib.hid fun t W2 A n cap hk hru => by
        have hR := isRe_set hru (Nat.le_trans HK.out.size hk.size)
        have hk3 := hk.alloc (.cells #[.int .i64 1, .slice A n cap, .int .i64 0, .int .i64 0, .slice none 0 0] 34)
        exact ⟨_, _, some x, p, rfl, hR, HQ.out.kp hk3 (noB_not _), HK.out.trans hk3.any, by have := HA1.out; omega, hps, Lib.hid (.inr ⟨x, rfl, HEV.out⟩)⟩
      have HC1 := Lib.hid (HEND.out wr HK.out HO.out)
      have hks := HK.out.size
      clear hev HIV
      rcases HN.out with ⟨rfl, _⟩ | ⟨rfl, _⟩
      · go_wp2_with fail
        refine HC1.out.mono ?_
        rintro e w2 ⟨A, n, cap, rfl, hk2, HRU⟩
        have HAL := Lib.hid (all_any w2)
        have HK2 := Lib.hid hk2
        clear hk2
        go_wp2_with fail
        refine HAL.out.mono ?_
        rintro e w3 ⟨va, rfl, hra, hk3⟩
        have HK3 := Lib.hid (HK2.out.trans hk3)
        have HOT := Lib.hid (HOTH.out w3 va _ hra (HO.out.kp HK3.out fun k _ => noB_not _))
        clear hk3 hra
        go_wp2_with fail
        refine HOT.out.mono ?_
        rintro e w4 ⟨A', n', cap', rfl, hk4, HRU'⟩
        have R := Lib.hid (HFIN.out _ w4 A' n' cap' (HK3.out.trans hk4) (HRU'.out.ok fun k _ h => by have := HK3.out.size; omega))
        clear hk4
        go_wp2_with fail
        go_ret
        exact R.out
      · go_wp2_with fail
        refine HC1.out.mono ?_
        rintro e w2 ⟨A, n, cap, rfl, hk2, HRU⟩
        have R := Lib.hid (HFIN.out _ w2 A n cap hk2 (HRU.out.ok fun k _ h => by omega))
        clear hk2
        go_wp2_with fail
        go_ret
        exact R.out
    have HI := Lib.hid hI
    have HLP := Lib.hid hlp
    have g3 := HQ.out.c3
    simp only [badV] at g3
    have hks := HK.out.size
    have HEr := Lib.hid (HE.out.kp HK.out (fun k hk => onB_not (by omega)))
    have hc1r := Lib.hid HQ.out.c1
    have HSTN := Lib.hid (stN_good HQ.out)
    clear hI hlp HIV
    by_cases h93 : pk s p = 93
    · -- its end
      have HN3 := Lib.hid (eat_yes 93 HQ.out hs (by omega) (by omega) h93)
      have HIT := Lib.hid (HI.out _ (Items.stop h93))
      have hpl := pk_lt s p (by omega)
      clear h93
      have HC0 : Hid (∀ W2, Kp (onB b) wr W2 → Calls Tryz.prog 173 #[u8] W2 fun e w' => ∃ A n cap, e = .returned (.slice A n cap) ∧ Kp noB W2 w' ∧ Hid (Rngs w' (fun k => W2.heap.size ≤ k) (.slice A n cap) (canonOf (inR l)))) := Lib.hid fun W2 hk => HEND.out W2 (HK.out.trans hk) (HO.out.kp hk fun k hk => onB_not (by omega))
      rcases HN.out with ⟨rfl, h94, rfl, _⟩ | ⟨rfl, h94, rfl⟩
      · have HCL := Lib.hid (Cls.not_ok h94 HIT.out)
        clear h94
        go_wp2_with fail
        refine HN3.out.mono ?_
        rintro e w2 ⟨rfl, hk2, hq2⟩
        have HC1 := Lib.hid (HC0.out w2 hk2)
        have HK2 := Lib.hid (HK.out.trans hk2)
        have HQ2 := Lib.hid hq2
        have HO2 := Lib.hid (HO.out.kp hk2 fun k hk => onB_not (by omega))
        clear hk2 hq2
        go_wp2_with fail
        refine HC1.out.mono ?_
        rintro e w3 ⟨A, n, cap, rfl, hk3, HRU⟩
        have HAL := Lib.hid (all_any w3)
        have HK3 := Lib.hid hk3
        clear hk3
        go_wp2_with fail
        refine HAL.out.mono ?_
        rintro e w4 ⟨va, rfl, hra, hk4⟩
        have HK4 := Lib.hid (HK3.out.trans hk4)
        have HOT := Lib.hid (HOTH.out w4 va _ hra (HO2.out.kp HK4.out fun k _ => noB_not _))
        clear hk4 hra
        go_wp2_with fail
        refine HOT.out.mono ?_
        rintro e w5 ⟨A', n', cap', rfl, hk5, HRU'⟩
        have R : Hid (TC eb es s b a o w (.returned (.pointer (some ⟨w5.heap.size, 0, none⟩))) (w5.alloc (.cells #[.int .i64 1, .slice A' n' cap', .int .i64 0, .int .i64 0, .slice none 0 0] 34))) := Lib.hid (by
          have hk25 := HK4.out.trans hk5
          have hs2 := HK2.out.size
          have hs25 := hk25.size
          have hR := isRe_set (HRU'.out.ok (ok' := fun k => w.heap.size ≤ k) fun k _ h => by have := HK4.out.size; omega) (by omega)
          have hk3 := hk25.alloc (.cells #[.int .i64 1, .slice A' n' cap', .int .i64 0, .int .i64 0, .slice none 0 0] 34)
          exact ⟨_, _, none, p + 1, rfl, hR, HQ2.out.kp hk3 (noB_not _), HK2.out.trans hk3.any, by omega, by omega, Lib.hid (.inl ⟨rfl, HCL.out⟩)⟩)
        clear hk5
        go_wp2_with fail
        go_ret
        exact R.out
      · have HCL := Lib.hid (Cls.in_ok H2.out h94 HIT.out)
        clear h94
        go_wp2_with fail
        refine HN3.out.mono ?_
        rintro e w2 ⟨rfl, hk2, hq2⟩
        have HC1 := Lib.hid (HC0.out w2 hk2)
        have HK2 := Lib.hid (HK.out.trans hk2)
        have HQ2 := Lib.hid hq2
        clear hk2 hq2
        go_wp2_with fail
        refine HC1.out.mono ?_
        rintro e w3 ⟨A, n, cap, rfl, hk3, HRU⟩
        have R : Hid (TC eb es s b a1 o w (.returned (.pointer (some ⟨w3.heap.size, 0, none⟩))) (w3.alloc (.cells #[.int .i64 1, .slice A n cap, .int .i64 0, .int .i64 0, .slice none 0 0] 34))) := Lib.hid (by
          have hs2 := HK2.out.size
          have hs3 := hk3.size
          have hR := isRe_set (HRU.out.ok (ok' := fun k => w.heap.size ≤ k) fun k _ h => by omega) (by omega)
          have hk4 := hk3.alloc (.cells #[.int .i64 1, .slice A n cap, .int .i64 0, .int .i64 0, .slice none 0 0] 34)
          exact ⟨_, _, none, p + 1, rfl, hR, HQ2.out.kp hk4 (noB_not _), HK2.out.trans hk4.any, by omega, by omega, Lib.hid (.inl ⟨rfl, HCL.out⟩)⟩)
        clear hk3
        go_wp2_with fail
        go_ret
        exact R.out
    -- an item: the append at its end
    have HAPP : Hid (l.length + 1 ≤ maxLen ∧ (l.length + 1) * 16 ≤ 140737488355328) := Lib.hid ⟨by unfold maxLen; omega, by omega⟩
    by_cases h2 : pk s p = -2
    · have HN3 := Lib.hid (eat_hurt 93 HQ.out HEr.out hs (by omega) h2)
      have HIT := Lib.hid (HI.out _ (Items.bad h2))
      clear h2 h93
      go_wp2_with fail
      refine HN3.out.mono ?_
      rintro e w2 ⟨rfl, hk2, hq2⟩
      have HPT := Lib.hid (rpoint_old insR (by decide) hq2 (HEr.out.kp hk2 (fun k hk => onB_not (by omega))))
      unfold insR at HPT
      have HK2 := Lib.hid (HK.out.trans hk2)
      have HQ2 := Lib.hid hq2
      have HO2 := Lib.hid (HO.out.kp hk2 fun k hk => onB_not (by omega))
      have g1 := hq2.c1
      clear hk2 hq2
      go_wp2_with fail
      refine HPT.out.mono ?_
      rintro e w3 ⟨rfl, hk3⟩
      have HEO := Lib.hid (eat_old 45 (HQ2.out.kp hk3 (noB_not _)) (by omega))
      have HK3 := Lib.hid hk3
      clear hk3
      go_wp2_with fail
      refine HEO.out.mono ?_
      rintro e w4 ⟨rfl, hk4⟩
      have hk24 := HK3.out.trans hk4
      have HK4 := Lib.hid (HK2.out.trans hk24.any)
      have HQ4 := Lib.hid (HQ2.out.kp hk24 (noB_not _))
      have HO4 := Lib.hid (HO2.out.kp hk24 fun k _ => noB_not _)
      have hlt : decide ((0 : Int) < 0) = false := rfl
      clear hk4 hk24
      go_wp2_with (first
        | (at_builtin; refine wpList_append_own _ rfl (.tmp 59) (.tmp 63) 31 rfl w.heap.size 191 i0 (.agg #[.int .i64 0, .int .i64 0]) 2 16 Tryz.underlying31 hi hz0 hz1 hz2 rfl (by decide) _ _ _ rfl (HO4.out.alloc _) ⟨w4.heap.size, 0, none⟩ 1 1 [.int .i64 0, .int .i64 0] rfl rfl (two_new w4 (.int .i64 0) (.int .i64 0) 191) (fun x hx => by simp at hx; subst hx; rfl) HAPP.out.1 HAPP.out.2 (by have := HK4.out.size; simp; omega) ?_; intro v' w9 hown' hgrow9 hnil9; have R := Lib.hid (cls_push HO4.out HK4.out HQ4.out hblt hown' hgrow9); clear hown' hgrow9 hnil9))
      have HQ9 := Lib.hid R.out.2.2
      have HS9 := Lib.hid (stN_bad HQ9.out)
      go_roundw
      case rel => exact ⟨l ++ [(0, 0)], p, _, hap, hps, by simp; have := HLP.out; omega, Lib.hid ⟨R.out.1, R.out.2.1, R.out.2.2, .inr ⟨_, rfl, HIT.out⟩⟩⟩
      case measure => rw [HQ9.out.c1, hc1r.out, HS9.out, HSTN.out]; simp only [intOf, Option.getD_some]; omega
    have HNE := Lib.hid (And.intro h2 h93)
    have HN3 := Lib.hid (eat_no 93 HQ.out hs h2 h93)
    clear h2 h93
    go_wp2_with fail
    refine HN3.out.mono ?_
    rintro e w2 ⟨rfl, hk2⟩
    have hq2 := HQ.out.kp hk2 (noB_not _)
    have g1 := hq2.c1
    have HE2 := Lib.hid (HEr.out.kp hk2 (fun k _ => noB_not _))
    have HPT := Lib.hid (rpt_any (S := insR) (by decide) ins_iff hq2 HE2.out hs hps (by decide))
    unfold insR at HPT
    have HK2 := Lib.hid (HK.out.trans hk2.any)
    have HO2 := Lib.hid (HO.out.kp hk2 fun k _ => noB_not _)
    clear hk2 hq2
    go_wp2_with fail
    refine HPT.out.mono ?_
    clear HPT
    intro e w3 hP3
    unfold PtR at hP3
    cases hpt : point s ins p with
    | er c d =>
      rw [hpt] at hP3
      obtain ⟨rfl, hk3, a3, ha3, ha3s, hq3⟩ := hP3
      have HIT := Lib.hid (HI.out _ (Items.er HNE.out.1 HNE.out.2 hpt))
      have HEO := Lib.hid (eat_old 45 hq3 (by omega))
      have HK3 := Lib.hid (HK2.out.trans hk3)
      have HQ3 := Lib.hid hq3
      have HO3 := Lib.hid (HO2.out.kp hk3 fun k hk => onB_not (by omega))
      have hlt : decide ((0 : Int) < 0) = false := rfl
      clear hq3 hk3 hpt
      go_wp2_with fail
      refine HEO.out.mono ?_
      rintro e w4 ⟨rfl, hk4⟩
      have HK4 := Lib.hid (HK3.out.trans hk4.any)
      have HQ4 := Lib.hid (HQ3.out.kp hk4 (noB_not _))
      have HO4 := Lib.hid (HO3.out.kp hk4 fun k _ => noB_not _)
      clear hk4
      go_wp2_with (first
        | (at_builtin; refine wpList_append_own _ rfl (.tmp 59) (.tmp 63) 31 rfl w.heap.size 191 i0 (.agg #[.int .i64 0, .int .i64 0]) 2 16 Tryz.underlying31 hi hz0 hz1 hz2 rfl (by decide) _ _ _ rfl (HO4.out.alloc _) ⟨w4.heap.size, 0, none⟩ 1 1 [.int .i64 0, .int .i64 0] rfl rfl (two_new w4 (.int .i64 0) (.int .i64 0) 191) (fun x hx => by simp at hx; subst hx; rfl) HAPP.out.1 HAPP.out.2 (by have := HK4.out.size; simp; omega) ?_; intro v' w9 hown' hgrow9 hnil9; have R := Lib.hid (cls_push HO4.out HK4.out HQ4.out hblt hown' hgrow9); clear hown' hgrow9 hnil9))
      have HQ9 := Lib.hid R.out.2.2
      have HS9 := Lib.hid (stN_bad HQ9.out)
      go_roundw
      case rel => exact ⟨l ++ [(0, 0)], a3, _, by omega, by omega, by simp; have := HLP.out; omega, Lib.hid ⟨R.out.1, R.out.2.1, R.out.2.2, .inr ⟨_, rfl, HIT.out⟩⟩⟩
      case measure => rw [HQ9.out.c1, hc1r.out, HS9.out, HSTN.out]; simp only [intOf, Option.getD_some]; omega
    | ok lo d =>
      rw [hpt] at hP3
      obtain ⟨rfl, hk3, hq3⟩ := hP3
      have hadv := point_adv hpt
      have HPT := Lib.hid hpt
      have HK3 := Lib.hid (HK2.out.trans hk3)
      have HQ3 := Lib.hid hq3
      have HE3 := Lib.hid (HE2.out.kp hk3 fun k hk => onB_not (by omega))
      have HO3 := Lib.hid (HO2.out.kp hk3 fun k hk => onB_not (by omega))
      clear hq3 hk3 hpt
      by_cases h2 : pk s d = -2
      · have HIT := Lib.hid (HI.out _ (Items.bad2 HNE.out.1 HNE.out.2 HPT.out h2))
        have HEO := Lib.hid (eat_hurt 45 HQ3.out HE3.out hs (by omega) h2)
        have hlt : decide (lo < lo) = false := decide_eq_false (by omega)
        clear h2
        go_wp2_with fail
        refine HEO.out.mono ?_
        rintro e w4 ⟨rfl, hk4, hq4⟩
        have HK4 := Lib.hid (HK3.out.trans hk4)
        have HQ4 := Lib.hid hq4
        have HO4 := Lib.hid (HO3.out.kp hk4 fun k hk => onB_not (by omega))
        clear hk4 hq4
        go_wp2_with (first
        | (at_builtin; refine wpList_append_own _ rfl (.tmp 59) (.tmp 63) 31 rfl w.heap.size 191 i0 (.agg #[.int .i64 0, .int .i64 0]) 2 16 Tryz.underlying31 hi hz0 hz1 hz2 rfl (by decide) _ _ _ rfl (HO4.out.alloc _) ⟨w4.heap.size, 0, none⟩ 1 1 [.int .i64 lo, .int .i64 lo] rfl rfl (two_new w4 (.int .i64 lo) (.int .i64 lo) 191) (fun x hx => by simp at hx; rcases hx with rfl | rfl <;> rfl) HAPP.out.1 HAPP.out.2 (by have := HK4.out.size; simp; omega) ?_; intro v' w9 hown' hgrow9 hnil9; have R := Lib.hid (cls_push HO4.out HK4.out HQ4.out hblt hown' hgrow9); clear hown' hgrow9 hnil9))
        have HQ9 := Lib.hid R.out.2.2
        have HS9 := Lib.hid (stN_bad HQ9.out)
        go_roundw
        case rel => exact ⟨l ++ [(lo, lo)], d, _, by omega, by omega, by simp; have := HLP.out; omega, Lib.hid ⟨R.out.1, R.out.2.1, R.out.2.2, .inr ⟨_, rfl, HIT.out⟩⟩⟩
        case measure => rw [HQ9.out.c1, hc1r.out, HS9.out, HSTN.out]; simp only [intOf, Option.getD_some]; omega
      by_cases h45 : pk s d = 45
      · have HEO := Lib.hid (eat_yes 45 HQ3.out hs (by omega) (by omega) h45)
        have hql := pk_lt s d (by omega)
        have H45 := Lib.hid h45
        clear h45 h2
        go_wp2_with fail
        refine HEO.out.mono ?_
        rintro e w4 ⟨rfl, hk4, hq4⟩
        have HE4 := Lib.hid (HE3.out.kp hk4 fun k hk => onB_not (by omega))
        have HPT2 := Lib.hid (rpt_any (S := insR) (by decide) ins_iff hq4 HE4.out hs (by omega) (by decide))
        unfold insR at HPT2
        have HK4 := Lib.hid (HK3.out.trans hk4)
        have HO4 := Lib.hid (HO3.out.kp hk4 fun k hk => onB_not (by omega))
        clear hk4 hq4
        go_wp2_with fail
        refine HPT2.out.mono ?_
        clear HPT2
        intro e w5 hP5
        unfold PtR at hP5
        cases hpt : point s ins (d + 1) with
        | er c f =>
          rw [hpt] at hP5
          obtain ⟨rfl, hk5, a5, ha5, ha5s, hq5⟩ := hP5
          have HIT := Lib.hid (HI.out _ (Items.er2 HNE.out.1 HNE.out.2 HPT.out H45.out hpt))
          have HK5 := Lib.hid (HK4.out.trans hk5)
          have HQ5 := Lib.hid hq5
          have HO5 := Lib.hid (HO4.out.kp hk5 fun k hk => onB_not (by omega))
          have gsy := (HE4.out.kp hk5 fun k hk => onB_not (by omega)).syn
          have HF : Hid (∀ ev p, Calls Tryz.prog 58 #[.pointer (some ⟨b, 0, none⟩), ev, .int .i64 p] w5 fun e w' => e = .returned (.tuple #[]) ∧ w' = w5) := Lib.hid fun ev p => rfail_old (w := w5) HQ5.out ev p
          have hlt : decide ((0 : Int) < lo) = true ∨ decide ((0 : Int) < lo) = false := by
            by_cases e : 0 < lo
            · exact .inl (decide_eq_true e)
            · exact .inr (decide_eq_false e)
          clear hq5 hk5 hpt
          rcases hlt with hlt | hlt
          · go_wp2_with fail
            refine (HF.out _ _).mono ?_
            rintro e w6 ⟨rfl, rfl⟩
            have HK6 := HK5
            have HQ6 := HQ5
            have HO6 := HO5
            go_wp2_with (first
            | (at_builtin; refine wpList_append_own _ rfl (.tmp 59) (.tmp 63) 31 rfl w.heap.size 191 i0 (.agg #[.int .i64 0, .int .i64 0]) 2 16 Tryz.underlying31 hi hz0 hz1 hz2 rfl (by decide) _ _ _ rfl (HO6.out.alloc _) ⟨w6.heap.size, 0, none⟩ 1 1 [.int .i64 lo, .int .i64 0] rfl rfl (two_new w6 (.int .i64 lo) (.int .i64 0) 191) (fun x hx => by simp at hx; rcases hx with rfl | rfl <;> rfl) HAPP.out.1 HAPP.out.2 (by have := HK6.out.size; simp; omega) ?_; intro v' w9 hown' hgrow9 hnil9; have R := Lib.hid (cls_push HO6.out HK6.out HQ6.out hblt hown' hgrow9); clear hown' hgrow9 hnil9))
            have HQ9 := Lib.hid R.out.2.2
            have HS9 := Lib.hid (stN_bad HQ9.out)
            go_roundw
            case rel => exact ⟨l ++ [(lo, 0)], a5, _, by omega, by omega, by simp; have := HLP.out; omega, Lib.hid ⟨R.out.1, R.out.2.1, R.out.2.2, .inr ⟨_, rfl, HIT.out⟩⟩⟩
            case measure => rw [HQ9.out.c1, hc1r.out, HS9.out, HSTN.out]; simp only [intOf, Option.getD_some]; omega
          · go_wp2_with (first
            | (at_builtin; refine wpList_append_own _ rfl (.tmp 59) (.tmp 63) 31 rfl w.heap.size 191 i0 (.agg #[.int .i64 0, .int .i64 0]) 2 16 Tryz.underlying31 hi hz0 hz1 hz2 rfl (by decide) _ _ _ rfl (HO5.out.alloc _) ⟨w5.heap.size, 0, none⟩ 1 1 [.int .i64 lo, .int .i64 0] rfl rfl (two_new w5 (.int .i64 lo) (.int .i64 0) 191) (fun x hx => by simp at hx; rcases hx with rfl | rfl <;> rfl) HAPP.out.1 HAPP.out.2 (by have := HK5.out.size; simp; omega) ?_; intro v' w9 hown' hgrow9 hnil9; have R := Lib.hid (cls_push HO5.out HK5.out HQ5.out hblt hown' hgrow9); clear hown' hgrow9 hnil9))
            have HQ9 := Lib.hid R.out.2.2
            have HS9 := Lib.hid (stN_bad HQ9.out)
            go_roundw
            case rel => exact ⟨l ++ [(lo, 0)], a5, _, by omega, by omega, by simp; have := HLP.out; omega, Lib.hid ⟨R.out.1, R.out.2.1, R.out.2.2, .inr ⟨_, rfl, HIT.out⟩⟩⟩
            case measure => rw [HQ9.out.c1, hc1r.out, HS9.out, HSTN.out]; simp only [intOf, Option.getD_some]; omega
        | ok hh f =>
          rw [hpt] at hP5
          obtain ⟨rfl, hk5, hq5⟩ := hP5
          have hadv2 := point_adv hpt
          have HPT2 := Lib.hid hpt
          have HK5 := Lib.hid (HK4.out.trans hk5)
          have HQ5 := Lib.hid hq5
          have HO5 := Lib.hid (HO4.out.kp hk5 fun k hk => onB_not (by omega))
          have gsy := (HE4.out.kp hk5 fun k hk => onB_not (by omega)).syn
          clear hq5 hk5 hpt
          by_cases hl : hh < lo
          · have hlt : decide (hh < lo) = true := decide_eq_true hl
            have HIT := Lib.hid (HI.out _ (Items.less HNE.out.1 HNE.out.2 HPT.out H45.out HPT2.out hl))
            have HF := Lib.hid (rfail_new HQ5.out 1 p)
            clear hl
            go_wp2_with fail
            refine HF.out.mono ?_
            rintro e w6 ⟨rfl, hq6, hk6⟩
            have HK6 := Lib.hid (HK5.out.trans hk6)
            have HQ6 := Lib.hid hq6
            have HO6 := Lib.hid (HO5.out.kp hk6 fun k hk => onB_not (by omega))
            clear hq6 hk6
            go_wp2_with (first
            | (at_builtin; refine wpList_append_own _ rfl (.tmp 59) (.tmp 63) 31 rfl w.heap.size 191 i0 (.agg #[.int .i64 0, .int .i64 0]) 2 16 Tryz.underlying31 hi hz0 hz1 hz2 rfl (by decide) _ _ _ rfl (HO6.out.alloc _) ⟨w6.heap.size, 0, none⟩ 1 1 [.int .i64 lo, .int .i64 hh] rfl rfl (two_new w6 (.int .i64 lo) (.int .i64 hh) 191) (fun x hx => by simp at hx; rcases hx with rfl | rfl <;> rfl) HAPP.out.1 HAPP.out.2 (by have := HK6.out.size; simp; omega) ?_; intro v' w9 hown' hgrow9 hnil9; have R := Lib.hid (cls_push HO6.out HK6.out HQ6.out hblt hown' hgrow9); clear hown' hgrow9 hnil9))
            have HQ9 := Lib.hid R.out.2.2
            have HS9 := Lib.hid (stN_bad HQ9.out)
            go_roundw
            case rel => exact ⟨l ++ [(lo, hh)], f, _, by omega, by omega, by simp; have := HLP.out; omega, Lib.hid ⟨R.out.1, R.out.2.1, R.out.2.2, .inr ⟨_, rfl, HIT.out⟩⟩⟩
            case measure => rw [HQ9.out.c1, hc1r.out, HS9.out, HSTN.out]; simp only [intOf, Option.getD_some]; omega
          · have hlt : decide (hh < lo) = false := decide_eq_false hl
            have HIT : Hid (∀ r, Items s f (l ++ [(lo, hh)]) r → Items s a1 [] r) := Lib.hid fun r h => HI.out _ (Items.two HNE.out.1 HNE.out.2 HPT.out H45.out HPT2.out hl h)
            clear hl
            go_wp2_with (first
            | (at_builtin; refine wpList_append_own _ rfl (.tmp 59) (.tmp 63) 31 rfl w.heap.size 191 i0 (.agg #[.int .i64 0, .int .i64 0]) 2 16 Tryz.underlying31 hi hz0 hz1 hz2 rfl (by decide) _ _ _ rfl (HO5.out.alloc _) ⟨w5.heap.size, 0, none⟩ 1 1 [.int .i64 lo, .int .i64 hh] rfl rfl (two_new w5 (.int .i64 lo) (.int .i64 hh) 191) (fun x hx => by simp at hx; rcases hx with rfl | rfl <;> rfl) HAPP.out.1 HAPP.out.2 (by have := HK5.out.size; simp; omega) ?_; intro v' w9 hown' hgrow9 hnil9; have R := Lib.hid (cls_push HO5.out HK5.out HQ5.out hblt hown' hgrow9); clear hown' hgrow9 hnil9))
            have HQ9 := Lib.hid R.out.2.2
            have HS9 := Lib.hid (stN_le w9 b)
            go_roundw
            case rel => exact ⟨l ++ [(lo, hh)], f, none, by omega, by omega, by simp; have := HLP.out; omega, Lib.hid ⟨R.out.1, R.out.2.1, R.out.2.2, .inl ⟨rfl, by simp; have := HLP.out; omega, HIT.out⟩⟩⟩
            case measure => rw [HQ9.out.c1, hc1r.out, HSTN.out]; simp only [intOf, Option.getD_some]; have := HS9.out; omega
      · have HEO := Lib.hid (eat_no 45 HQ3.out hs h2 h45)
        have HIT : Hid (∀ r, Items s d (l ++ [(lo, lo)]) r → Items s a1 [] r) := Lib.hid fun r h => HI.out _ (Items.one HNE.out.1 HNE.out.2 HPT.out h2 h45 h)
        have hlt : decide (lo < lo) = false := decide_eq_false (by omega)
        clear h2 h45
        go_wp2_with fail
        refine HEO.out.mono ?_
        rintro e w4 ⟨rfl, hk4⟩
        have HK4 := Lib.hid (HK3.out.trans hk4.any)
        have HQ4 := Lib.hid (HQ3.out.kp hk4 (noB_not _))
        have HO4 := Lib.hid (HO3.out.kp hk4 fun k _ => noB_not _)
        clear hk4
        go_wp2_with (first
        | (at_builtin; refine wpList_append_own _ rfl (.tmp 59) (.tmp 63) 31 rfl w.heap.size 191 i0 (.agg #[.int .i64 0, .int .i64 0]) 2 16 Tryz.underlying31 hi hz0 hz1 hz2 rfl (by decide) _ _ _ rfl (HO4.out.alloc _) ⟨w4.heap.size, 0, none⟩ 1 1 [.int .i64 lo, .int .i64 lo] rfl rfl (two_new w4 (.int .i64 lo) (.int .i64 lo) 191) (fun x hx => by simp at hx; rcases hx with rfl | rfl <;> rfl) HAPP.out.1 HAPP.out.2 (by have := HK4.out.size; simp; omega) ?_; intro v' w9 hown' hgrow9 hnil9; have R := Lib.hid (cls_push HO4.out HK4.out HQ4.out hblt hown' hgrow9); clear hown' hgrow9 hnil9))
        have HQ9 := Lib.hid R.out.2.2
        have HS9 := Lib.hid (stN_le w9 b)
        go_roundw
        case rel => exact ⟨l ++ [(lo, lo)], d, none, by omega, by omega, by simp; have := HLP.out; omega, Lib.hid ⟨R.out.1, R.out.2.1, R.out.2.2, .inl ⟨rfl, by simp; have := HLP.out; omega, HIT.out⟩⟩⟩
        case measure => rw [HQ9.out.c1, hc1r.out, HSTN.out]; simp only [intOf, Option.getD_some]; have := HS9.out; omega

theorem rclass_any (h : QR eb es s b a o none w) (hE : Env 406 eb es w) (hs : s.size ≤ 65536) (ha : a ≤ s.size) :
    Calls Tryz.prog 288 #[.pointer (some ⟨b, 0, none⟩), .int .i64 91] w (TC eb es s b a o w) := by
  by_cases h2 : pk s a = -2
  · exact rclass_hurt h hE hs h2
  · exact rclass_good h hE hs ha h2
end
end Go.Proofs.YtoijabgcgdgacaaGreatDoor
