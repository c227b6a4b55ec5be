/-
  WALKS, rq: the reference's reader: counts in braces. (Written by a program, gen_rq.py.)
  WALKS, rr: the reference's reader: several as one; a part. (Written by a program, gen_rr.py.)
-/
import Derived.Test.YtoijabgcgdgacaaGreatDoorRC
import Derived.Test.YtoijabgcgdgacaaGreatDoorGE
import Derived.Test.YtoijabgcgdgacaaGreatDoorGG
namespace Go.Proofs.YtoijabgcgdgacaaGreatDoor
open Go.RowKit Go.Proofs.Gram

/-- How counts end: the pattern's block bears them. -/
def TimR (eb es : Addr) (s : ByteArray) (b a o q : Nat) (sv kv : Value) (w : World) (e : Ending) (w' : World) : Prop :=
  e = .returned (.tuple #[]) ∧ Kp (onB2 b q) w w' ∧ match counted s a with
    | .ok x p => QR eb es s b p o none w' ∧ QD q 6 sv x.1 x.2 kv w'
    | .er c p => ∃ mn mx a', a ≤ a' ∧ a' ≤ s.size ∧ QR eb es s b a' o (some (c, p)) w' ∧ QD q 6 sv mn mx kv w'

section
variable {eb es : Addr} {s : ByteArray} {b a o q : Nat} {w : World} {sv kv : Value}

theorem QR.other {st : Option (Nat × Nat)} {p : Addr} (h : QR eb es s b a o st w) (hp : p.block ≠ b) (u : Value) : QR eb es s b a o st (w.setCell p u) :=
  ⟨by rw [Below.heap_setCell _ _ _ _ (Ne.symm hp)]; exact h.blk, h.far⟩

theorem tim_ok {x : Int × Int} {p : Nat} (h : counted s a = .ok x p) (e : Ending) (w' : World) (hh : e = .returned (.tuple #[]) ∧ Kp (onB2 b q) w w' ∧ QR eb es s b p o none w' ∧ QD q 6 sv x.1 x.2 kv w') : TimR eb es s b a o q sv kv w e w' := by
  unfold TimR
  rw [h]
  exact hh
theorem tim_er {c p : Nat} (h : counted s a = .er c p) (e : Ending) (w' : World) (a' : Nat) (mn mx : Int) (h1 : a ≤ a') (h2 : a' ≤ s.size) (hh : e = .returned (.tuple #[]) ∧ Kp (onB2 b q) w w' ∧ QR eb es s b a' o (some (c, p)) w' ∧ QD q 6 sv mn mx kv w') : TimR eb es s b a o q sv kv w e w' := by
  unfold TimR
  rw [h]
  exact ⟨hh.1, hh.2.1, mn, mx, a', h1, h2, hh.2.2⟩

set_option maxRecDepth 100000 in
set_option maxHeartbeats 1000000 in
theorem rtim_er (h : QR eb es s b a o none w) (hE : Env 406 eb es w) (hsz : s.size ≤ 65536) (ha : a ≤ s.size) (hq : QD q 6 sv 0 0 kv w) (hqb : q ≠ b) (hq16 : 16 ≤ q) (c p : Nat) (hc : count s a = .er c p) :
    Calls Tryz.prog 259 #[.pointer (some ⟨b, 0, none⟩), .pointer (some ⟨q, 0, none⟩)] w (TimR eb es s b a o q sv kv w) := by
  have HCC : Hid (counted s a = .er c p) := Lib.hid (by unfold counted; rw [hc])
  have hN16 : ∀ k, k < 16 → ¬ onB2 b q k := fun k hk => onB2_not (by have := h.far; omega) (by omega)
  have hNB : ∀ k, k < 16 → ¬ onB b k := fun k hk => onB_not (by have := h.far; omega)
  have HQB := Lib.hid hqb
  have hc0 := h.c1
  have HC := rcount_any h hE hsz ha
  unfold CntR at HC
  rw [hc] at HC
  have HC := Lib.hid HC
  have H := Lib.hid h
  clear h
  clear hc
  go_enter Tryz.func259, Tryz.ntmps259
  go_wp2_with fail
  refine HC.out.mono ?_
  rintro e w1 ⟨v, a1, rfl, hk1, hv0, hv9, ha1, ha1s, hr1⟩
  have hq1 := hq.kp hk1 (onB_not HQB.out)
  have hqz1 := hq1.z
  have hqc12 := hq1.c2
  have hqc13 := hq1.c3
  have hq2 := (hq1.min v).max v
  have hr2 := (hr1.other (p := ⟨q, 2, none⟩) HQB.out (.int .i64 v)).other (p := ⟨q, 3, none⟩) HQB.out (.int .i64 v)
  have hk2 := (hk1.two (q := q)).setCell (F := onB2 b q) (p := ⟨q, 2, none⟩) (.inl (onB2_r b q)) (.int .i64 v) |>.setCell (F := onB2 b q) (p := ⟨q, 3, none⟩) (.inl (onB2_r b q)) (.int .i64 v)
  obtain ⟨w2, HW2⟩ : ∃ w2, Hid ((w1.setCell ⟨q, 2, none⟩ (.int .i64 v)).setCell ⟨q, 3, none⟩ (.int .i64 v) = w2) := ⟨_, rfl⟩
  rw [HW2.out] at hr2 hk2 hq2
  have hE2 := hE.kp hk2 hN16
  go_upto_region 3 with (fail)
  rw [HW2.out]
  clear hqz1 hqc12 hqc13 hk1 hr1 hq1
  have HEO := Lib.hid (eat_old 44 hr2 (by omega))
  go_wp2_with fail
  refine HEO.out.mono ?_
  rintro e w3 ⟨rfl, hk3⟩
  have hr3 := hr2.kp hk3 (noB_not _)
  have hq3 := hq2.kp hk3 (noB_not _)
  have hE3 := hE2.kp hk3 (fun k _ => noB_not _)
  have hk3 := hk2.trans hk3.any
  clear hr2 hq2 hE2 hk2
  have hc12 := hq3.c2
  have hc13 := hq3.c3
  have hy := hE3.syn
  have HRK := Lib.hid hr3
  have HQK := Lib.hid hq3
  have HEK := Lib.hid hE3
  have HKK := Lib.hid hk3
  clear hr3 hq3 hE3 hk3
  have hb1 : decide ((0 : Int) ≤ v) = true := decide_eq_true (by omega)
  have hb2 : decide (v < v) = false := decide_eq_false (by omega)
  have hb3 : (v == (0 : Int)) = true ∨ (v == (0 : Int)) = false := by
    by_cases e : v = 0
    · exact .inl (beq_iff_eq.2 e)
    · exact .inr (beq_eq_false_iff_ne.2 e)
  rcases hb3 with hb3 | hb3
  all_goals
    go_wp2_with fail
    go_quiet (fail)
    have hk5 : Kp noB w3 (w3.drewN nq) := (Kp.refl _ _).drewN _
    have hr5 := HRK.out.kp hk5 (noB_not _)
    have hq5 := HQK.out.kp hk5 (noB_not _)
    have hE5 := HEK.out.kp hk5 (fun k _ => noB_not _)
    have hy5 := hE5.syn
    have HK5 := Lib.hid (HKK.out.trans hk5.any)
    generalize w3.drewN nq = w5 at hr5 hq5 hE5 hy5 HK5 ⊢
    have HF : Hid (∀ ev p, Calls Tryz.prog 58 #[.pointer (some ⟨b, 0, none⟩), ev, .int .i64 p] w5 fun e w' => e = .returned (.tuple #[]) ∧ w' = w5) := Lib.hid fun ev p => rfail_old (w := w5) hr5 ev p
    have HNE := Lib.hid (need_old 125 hr5 hE5 (by omega))
    have HR5 := Lib.hid hr5
    have HQ5 := Lib.hid hq5
    clear hr5 hq5 hE5 hk5
    go_wp2_with (first | (go_at_call 58; refine (HF.out _ _).mono ?_; rintro e w6 ⟨rfl, rfl⟩) | (go_at_call 291; refine HNE.out.mono ?_; rintro e w7 ⟨rfl, hk7⟩))
    go_end0
    exact tim_er HCC.out _ _ a1 _ _ ha1 ha1s ⟨rfl, HK5.out.trans hk7.any, HR5.out.kp hk7 (noB_not _), HQ5.out.kp hk7 (noB_not _)⟩

set_option maxRecDepth 100000 in
set_option maxHeartbeats 1000000 in
theorem rtim_broken (h : QR eb es s b a o none w) (hE : Env 406 eb es w) (hsz : s.size ≤ 65536) (ha : a ≤ s.size) (hq : QD q 6 sv 0 0 kv w) (hqb : q ≠ b) (hq16 : 16 ≤ q) (n p : Nat) (hc : count s a = .ok n p) (h2 : pk s p = -2) :
    Calls Tryz.prog 259 #[.pointer (some ⟨b, 0, none⟩), .pointer (some ⟨q, 0, none⟩)] w (TimR eb es s b a o q sv kv w) := by
  have HCC : Hid (counted s a = .er 1 p) := Lib.hid (by unfold counted; rw [hc]; simp only; rw [if_pos h2])
  obtain ⟨hn50, hap, hps, _, hn0⟩ := count_ok hc ha
  have hnI : (n : Int) ≤ 50 := by omega
  have H2 := Lib.hid h2
  clear h2
  have hN16 : ∀ k, k < 16 → ¬ onB2 b q k := fun k hk => onB2_not (by have := h.far; omega) (by omega)
  have hNB : ∀ k, k < 16 → ¬ onB b k := fun k hk => onB_not (by have := h.far; omega)
  have HQB := Lib.hid hqb
  have hc0 := h.c1
  have HC := rcount_any h hE hsz ha
  unfold CntR at HC
  rw [hc] at HC
  have HC := Lib.hid HC
  have H := Lib.hid h
  clear h
  clear hc
  go_enter Tryz.func259, Tryz.ntmps259
  go_wp2_with fail
  refine HC.out.mono ?_
  rintro e w1 ⟨rfl, hk1, hr1⟩
  have hq1 := hq.kp hk1 (onB_not HQB.out)
  have hqz1 := hq1.z
  have hqc12 := hq1.c2
  have hqc13 := hq1.c3
  have hq2 := (hq1.min (n : Int)).max (n : Int)
  have hr2 := (hr1.other (p := ⟨q, 2, none⟩) HQB.out (.int .i64 (n : Int))).other (p := ⟨q, 3, none⟩) HQB.out (.int .i64 (n : Int))
  have hk2 := (hk1.two (q := q)).setCell (F := onB2 b q) (p := ⟨q, 2, none⟩) (.inl (onB2_r b q)) (.int .i64 (n : Int)) |>.setCell (F := onB2 b q) (p := ⟨q, 3, none⟩) (.inl (onB2_r b q)) (.int .i64 (n : Int))
  obtain ⟨w2, HW2⟩ : ∃ w2, Hid ((w1.setCell ⟨q, 2, none⟩ (.int .i64 (n : Int))).setCell ⟨q, 3, none⟩ (.int .i64 (n : Int)) = w2) := ⟨_, rfl⟩
  rw [HW2.out] at hr2 hk2 hq2
  have hE2 := hE.kp hk2 hN16
  go_upto_region 3 with (fail)
  rw [HW2.out]
  clear hqz1 hqc12 hqc13 hk1 hr1 hq1
  have HEO := Lib.hid (eat_hurt 44 hr2 hE2 hsz (by omega) H2.out)
  clear hr2
  go_wp2_with fail
  refine HEO.out.mono ?_
  rintro e w3 ⟨rfl, hk3, hr3⟩
  have hq3 := hq2.kp hk3 (onB_not HQB.out)
  have hE3 := hE2.kp hk3 hNB
  have hk3 := hk2.trans hk3.two
  clear hq2 hE2 hk2
  have hc12 := hq3.c2
  have hc13 := hq3.c3
  have hy := hE3.syn
  have HRK := Lib.hid hr3
  have HQK := Lib.hid hq3
  have HEK := Lib.hid hE3
  have HKK := Lib.hid hk3
  clear hr3 hq3 hE3 hk3
  have hb1 : decide ((0 : Int) ≤ (n : Int)) = true := decide_eq_true (by omega)
  have hb2 : decide ((n : Int) < (n : Int)) = false := decide_eq_false (by omega)
  have hb3 : ((n : Int) == (0 : Int)) = true ∨ ((n : Int) == (0 : Int)) = false := by
    by_cases e : (n : Int) = 0
    · exact .inl (beq_iff_eq.2 e)
    · exact .inr (beq_eq_false_iff_ne.2 e)
  rcases hb3 with hb3 | hb3
  all_goals
    go_wp2_with fail
    go_quiet (fail)
    have hk5 : Kp noB w3 (w3.drewN nq) := (Kp.refl _ _).drewN _
    have hr5 := HRK.out.kp hk5 (noB_not _)
    have hq5 := HQK.out.kp hk5 (noB_not _)
    have hE5 := HEK.out.kp hk5 (fun k _ => noB_not _)
    have hy5 := hE5.syn
    have HK5 := Lib.hid (HKK.out.trans hk5.any)
    generalize w3.drewN nq = w5 at hr5 hq5 hE5 hy5 HK5 ⊢
    have HF : Hid (∀ ev p, Calls Tryz.prog 58 #[.pointer (some ⟨b, 0, none⟩), ev, .int .i64 p] w5 fun e w' => e = .returned (.tuple #[]) ∧ w' = w5) := Lib.hid fun ev p => rfail_old (w := w5) hr5 ev p
    have HNE := Lib.hid (need_old 125 hr5 hE5 (by omega))
    have HR5 := Lib.hid hr5
    have HQ5 := Lib.hid hq5
    clear hr5 hq5 hE5 hk5
    go_wp2_with (first | (go_at_call 58; refine (HF.out _ _).mono ?_; rintro e w6 ⟨rfl, rfl⟩) | (go_at_call 291; refine HNE.out.mono ?_; rintro e w7 ⟨rfl, hk7⟩))
    go_end0
    exact tim_er HCC.out _ _ p _ _ (by omega) hps ⟨rfl, HK5.out.trans hk7.any, HR5.out.kp hk7 (noB_not _), HQ5.out.kp hk7 (noB_not _)⟩

set_option maxRecDepth 100000 in
set_option maxHeartbeats 1000000 in
theorem rtim_zero (h : QR eb es s b a o none w) (hE : Env 406 eb es w) (hsz : s.size ≤ 65536) (ha : a ≤ s.size) (hq : QD q 6 sv 0 0 kv w) (hqb : q ≠ b) (hq16 : 16 ≤ q) (n p : Nat) (hc : count s a = .ok n p) (h44 : pk s p ≠ 44) (h0 : n = 0) :
    Calls Tryz.prog 259 #[.pointer (some ⟨b, 0, none⟩), .pointer (some ⟨q, 0, none⟩)] w (TimR eb es s b a o q sv kv w) := by
  obtain ⟨hn50, hap, hps, hpne, hn0⟩ := count_ok hc ha
  have HCC : Hid (counted s a = .er 1 a) := Lib.hid (by unfold counted; rw [hc]; simp only; rw [if_neg hpne, if_neg h44, if_pos h0])
  have H0 := Lib.hid h0
  clear h0 hn0
  have hN16 : ∀ k, k < 16 → ¬ onB2 b q k := fun k hk => onB2_not (by have := h.far; omega) (by omega)
  have hNB : ∀ k, k < 16 → ¬ onB b k := fun k hk => onB_not (by have := h.far; omega)
  have HQB := Lib.hid hqb
  have hc0 := h.c1
  have HC := rcount_any h hE hsz ha
  unfold CntR at HC
  rw [hc] at HC
  have HC := Lib.hid HC
  have H := Lib.hid h
  clear h
  clear hc
  go_enter Tryz.func259, Tryz.ntmps259
  go_wp2_with fail
  refine HC.out.mono ?_
  rintro e w1 ⟨rfl, hk1, hr1⟩
  have hq1 := hq.kp hk1 (onB_not HQB.out)
  have hqz1 := hq1.z
  have hqc12 := hq1.c2
  have hqc13 := hq1.c3
  have hq2 := (hq1.min (n : Int)).max (n : Int)
  have hr2 := (hr1.other (p := ⟨q, 2, none⟩) HQB.out (.int .i64 (n : Int))).other (p := ⟨q, 3, none⟩) HQB.out (.int .i64 (n : Int))
  have hk2 := (hk1.two (q := q)).setCell (F := onB2 b q) (p := ⟨q, 2, none⟩) (.inl (onB2_r b q)) (.int .i64 (n : Int)) |>.setCell (F := onB2 b q) (p := ⟨q, 3, none⟩) (.inl (onB2_r b q)) (.int .i64 (n : Int))
  obtain ⟨w2, HW2⟩ : ∃ w2, Hid ((w1.setCell ⟨q, 2, none⟩ (.int .i64 (n : Int))).setCell ⟨q, 3, none⟩ (.int .i64 (n : Int)) = w2) := ⟨_, rfl⟩
  rw [HW2.out] at hr2 hk2 hq2
  have hE2 := hE.kp hk2 hN16
  go_upto_region 3 with (fail)
  rw [HW2.out]
  clear hqz1 hqc12 hqc13 hk1 hr1 hq1
  have HEO := Lib.hid (eat_no 44 hr2 hsz hpne h44)
  clear h44 hpne
  go_wp2_with fail
  refine HEO.out.mono ?_
  rintro e w3 ⟨rfl, hk3⟩
  have hr3 := hr2.kp hk3 (noB_not _)
  have hq3 := hq2.kp hk3 (noB_not _)
  have hE3 := hE2.kp hk3 (fun k _ => noB_not _)
  have hk3 := hk2.trans hk3.any
  clear hr2 hq2 hE2 hk2
  have hc12 := hq3.c2
  have hc13 := hq3.c3
  have hy := hE3.syn
  have HRK := Lib.hid hr3
  have HQK := Lib.hid hq3
  have HEK := Lib.hid hE3
  have HKK := Lib.hid hk3
  clear hr3 hq3 hE3 hk3
  have hb1 : decide ((0 : Int) ≤ (n : Int)) = true := decide_eq_true (by omega)
  have hb2 : decide ((n : Int) < (n : Int)) = false := decide_eq_false (by omega)
  have hb3 : ((n : Int) == (0 : Int)) = true := beq_iff_eq.2 (by have := H0.out; omega)
  all_goals
    go_wp2_with fail
    go_quiet (fail)
    have hk5 : Kp noB w3 (w3.drewN nq) := (Kp.refl _ _).drewN _
    have hr5 := HRK.out.kp hk5 (noB_not _)
    have hq5 := HQK.out.kp hk5 (noB_not _)
    have hE5 := HEK.out.kp hk5 (fun k _ => noB_not _)
    have hy5 := hE5.syn
    have HK5 := Lib.hid (HKK.out.trans hk5.any)
    generalize w3.drewN nq = w5 at hr5 hq5 hE5 hy5 HK5 ⊢
    have HF := Lib.hid (rfail_new hr5 1 a)
    have HQ5 := Lib.hid hq5
    have HE5 := Lib.hid hE5
    clear hr5 hq5 hE5 hk5
    go_wp2_with fail
    refine HF.out.mono ?_
    rintro e w6 ⟨rfl, hr6, hk6⟩
    have HNE := Lib.hid (need_old 125 hr6 (HE5.out.kp hk6 hNB) (by omega))
    have HR6 := Lib.hid hr6
    have HK6 := Lib.hid hk6
    clear hr6 hk6
    go_wp2_with fail
    refine HNE.out.mono ?_
    rintro e w7 ⟨rfl, hk7⟩
    go_wp2_with fail
    go_end0
    exact tim_er HCC.out _ _ p _ _ (by omega) hps ⟨rfl, (HK5.out.trans HK6.out.two).trans hk7.any, HR6.out.kp hk7 (noB_not _), (HQ5.out.kp HK6.out (onB_not HQB.out)).kp hk7 (noB_not _)⟩

set_option maxRecDepth 100000 in
set_option maxHeartbeats 1000000 in
theorem rtim_one (h : QR eb es s b a o none w) (hE : Env 406 eb es w) (hsz : s.size ≤ 65536) (ha : a ≤ s.size) (hq : QD q 6 sv 0 0 kv w) (hqb : q ≠ b) (hq16 : 16 ≤ q) (n p : Nat) (hc : count s a = .ok n p) (h44 : pk s p ≠ 44) (h0 : n ≠ 0) :
    Calls Tryz.prog 259 #[.pointer (some ⟨b, 0, none⟩), .pointer (some ⟨q, 0, none⟩)] w (TimR eb es s b a o q sv kv w) := by
  obtain ⟨hn50, hap, hps, hpne, hn0⟩ := count_ok hc ha
  have HCL : Hid ((pk s p = 125 → counted s a = .ok ((n : Int), (n : Int)) (p + 1)) ∧ (pk s p ≠ 125 → counted s a = .er 1 p)) := Lib.hid (by
    have e : counted s a = closed s (n : Int) (n : Int) p := by unfold counted; rw [hc]; simp only; rw [if_neg hpne, if_neg h44, if_neg h0]
    rw [e]
    unfold closed
    exact ⟨fun h => by rw [if_pos h], fun h => by rw [if_neg h]⟩)
  have hN16 : ∀ k, k < 16 → ¬ onB2 b q k := fun k hk => onB2_not (by have := h.far; omega) (by omega)
  have hNB : ∀ k, k < 16 → ¬ onB b k := fun k hk => onB_not (by have := h.far; omega)
  have HQB := Lib.hid hqb
  have hc0 := h.c1
  have HC := rcount_any h hE hsz ha
  unfold CntR at HC
  rw [hc] at HC
  have HC := Lib.hid HC
  have H := Lib.hid h
  clear h
  clear hc
  go_enter Tryz.func259, Tryz.ntmps259
  go_wp2_with fail
  refine HC.out.mono ?_
  rintro e w1 ⟨rfl, hk1, hr1⟩
  have hq1 := hq.kp hk1 (onB_not HQB.out)
  have hqz1 := hq1.z
  have hqc12 := hq1.c2
  have hqc13 := hq1.c3
  have hq2 := (hq1.min (n : Int)).max (n : Int)
  have hr2 := (hr1.other (p := ⟨q, 2, none⟩) HQB.out (.int .i64 (n : Int))).other (p := ⟨q, 3, none⟩) HQB.out (.int .i64 (n : Int))
  have hk2 := (hk1.two (q := q)).setCell (F := onB2 b q) (p := ⟨q, 2, none⟩) (.inl (onB2_r b q)) (.int .i64 (n : Int)) |>.setCell (F := onB2 b q) (p := ⟨q, 3, none⟩) (.inl (onB2_r b q)) (.int .i64 (n : Int))
  obtain ⟨w2, HW2⟩ : ∃ w2, Hid ((w1.setCell ⟨q, 2, none⟩ (.int .i64 (n : Int))).setCell ⟨q, 3, none⟩ (.int .i64 (n : Int)) = w2) := ⟨_, rfl⟩
  rw [HW2.out] at hr2 hk2 hq2
  have hE2 := hE.kp hk2 hN16
  go_upto_region 3 with (fail)
  rw [HW2.out]
  clear hqz1 hqc12 hqc13 hk1 hr1 hq1
  have HEO := Lib.hid (eat_no 44 hr2 hsz hpne h44)
  clear h44 hpne
  go_wp2_with fail
  refine HEO.out.mono ?_
  rintro e w3 ⟨rfl, hk3⟩
  have hr3 := hr2.kp hk3 (noB_not _)
  have hq3 := hq2.kp hk3 (noB_not _)
  have hE3 := hE2.kp hk3 (fun k _ => noB_not _)
  have hk3 := hk2.trans hk3.any
  clear hr2 hq2 hE2 hk2
  have hc12 := hq3.c2
  have hc13 := hq3.c3
  have hy := hE3.syn
  have HRK := Lib.hid hr3
  have HQK := Lib.hid hq3
  have HEK := Lib.hid hE3
  have HKK := Lib.hid hk3
  clear hr3 hq3 hE3 hk3
  have hb1 : decide ((0 : Int) ≤ (n : Int)) = true := decide_eq_true (by omega)
  have hb2 : decide ((n : Int) < (n : Int)) = false := decide_eq_false (by omega)
  have hb3 : ((n : Int) == (0 : Int)) = false := beq_eq_false_iff_ne.2 (by omega)
  clear h0 hn0
  go_wp2_with fail
  go_quiet (fail)
  have hk5 : Kp noB w3 (w3.drewN nq) := (Kp.refl _ _).drewN _
  have hr5 := HRK.out.kp hk5 (noB_not _)
  have hq5 := HQK.out.kp hk5 (noB_not _)
  have hE5 := HEK.out.kp hk5 (fun k _ => noB_not _)
  have HK5 := Lib.hid (HKK.out.trans hk5.any)
  generalize w3.drewN nq = w5 at hr5 hq5 hE5 HK5 ⊢
  have HQ5 := Lib.hid hq5
  by_cases h125 : pk s p = 125
  · have HCC := Lib.hid (HCL.out.1 h125)
    have HNE := Lib.hid (need_yes 125 hr5 hsz (by omega) (by omega) h125)
    clear hr5 hq5 hE5 hk5 h125
    go_wp2_with fail
    refine HNE.out.mono ?_
    rintro e w6 ⟨rfl, hk6, hr6⟩
    go_wp2_with fail
    go_end0
    exact tim_ok HCC.out _ _ ⟨rfl, HK5.out.trans hk6.two, hr6, HQ5.out.kp hk6 (onB_not HQB.out)⟩
  · have HCC := Lib.hid (HCL.out.2 h125)
    have HNE := Lib.hid (need_er 125 hr5 hE5 hsz (by omega) h125)
    clear hr5 hq5 hE5 hk5 h125
    go_wp2_with fail
    refine HNE.out.mono ?_
    rintro e w6 ⟨rfl, hk6, hr6⟩
    go_wp2_with fail
    go_end0
    exact tim_er HCC.out _ _ p _ _ (by omega) (by omega) ⟨rfl, HK5.out.trans hk6.two, hr6, HQ5.out.kp hk6 (onB_not HQB.out)⟩

set_option maxRecDepth 100000 in
set_option maxHeartbeats 1000000 in
theorem rtim_comma_broken (h : QR eb es s b a o none w) (hE : Env 406 eb es w) (hsz : s.size ≤ 65536) (ha : a ≤ s.size) (hq : QD q 6 sv 0 0 kv w) (hqb : q ≠ b) (hq16 : 16 ≤ q) (n p : Nat) (hc : count s a = .ok n p) (h44 : pk s p = 44) (h2 : pk s (p + 1) = -2) :
    Calls Tryz.prog 259 #[.pointer (some ⟨b, 0, none⟩), .pointer (some ⟨q, 0, none⟩)] w (TimR eb es s b a o q sv kv w) := by
  obtain ⟨hn50, hap, hps, hpne, hn0⟩ := count_ok hc ha
  have HCC : Hid (counted s a = .er 1 (p + 1)) := Lib.hid (by unfold counted; rw [hc]; simp only; rw [if_neg hpne, if_pos h44, if_pos h2])
  have hnI : (n : Int) ≤ 50 := by omega
  have hN16 : ∀ k, k < 16 → ¬ onB2 b q k := fun k hk => onB2_not (by have := h.far; omega) (by omega)
  have hNB : ∀ k, k < 16 → ¬ onB b k := fun k hk => onB_not (by have := h.far; omega)
  have HQB := Lib.hid hqb
  have hc0 := h.c1
  have HC := rcount_any h hE hsz ha
  unfold CntR at HC
  rw [hc] at HC
  have HC := Lib.hid HC
  have H := Lib.hid h
  clear h
  clear hc
  go_enter Tryz.func259, Tryz.ntmps259
  go_wp2_with fail
  refine HC.out.mono ?_
  rintro e w1 ⟨rfl, hk1, hr1⟩
  have hq1 := hq.kp hk1 (onB_not HQB.out)
  have hqz1 := hq1.z
  have hqc12 := hq1.c2
  have hqc13 := hq1.c3
  have hq2 := (hq1.min (n : Int)).max (n : Int)
  have hr2 := (hr1.other (p := ⟨q, 2, none⟩) HQB.out (.int .i64 (n : Int))).other (p := ⟨q, 3, none⟩) HQB.out (.int .i64 (n : Int))
  have hk2 := (hk1.two (q := q)).setCell (F := onB2 b q) (p := ⟨q, 2, none⟩) (.inl (onB2_r b q)) (.int .i64 (n : Int)) |>.setCell (F := onB2 b q) (p := ⟨q, 3, none⟩) (.inl (onB2_r b q)) (.int .i64 (n : Int))
  obtain ⟨w2, HW2⟩ : ∃ w2, Hid ((w1.setCell ⟨q, 2, none⟩ (.int .i64 (n : Int))).setCell ⟨q, 3, none⟩ (.int .i64 (n : Int)) = w2) := ⟨_, rfl⟩
  rw [HW2.out] at hr2 hk2 hq2
  have hE2 := hE.kp hk2 hN16
  go_upto_region 3 with (fail)
  rw [HW2.out]
  clear hqz1 hqc12 hqc13 hk1 hr1 hq1
  have hp1 := pk_lt s p (by omega)
  have HEO := Lib.hid (eat_yes 44 hr2 hsz (by omega) (by omega) h44)
  clear h44 hpne hr2
  go_wp2_with fail
  refine HEO.out.mono ?_
  rintro e w3 ⟨rfl, hk3, hr3⟩
  have hq3 := hq2.kp hk3 (onB_not HQB.out)
  have hE3 := hE2.kp hk3 hNB
  have hk3 := hk2.trans hk3.two
  have hc3 := hr3.c1
  clear hq2 hE2 hk2
  have HNO := Lib.hid (now_hurt hr3 hE3 (by omega) h2)
  clear h2 hr3
  go_wp2_with fail
  refine HNO.out.mono ?_
  rintro e w4 ⟨rfl, hr4, hk4⟩
  have hq4 := hq3.kp hk4 (onB_not HQB.out)
  have hE4 := hE3.kp hk4 hNB
  have hk4 := hk3.trans hk4.two
  have HCO := Lib.hid (rcount_old hr4 hE4)
  have hne : ((-1 : Int) == 125) = false := rfl
  clear hq3 hE3 hk3 hc3
  go_wp2_with fail
  refine HCO.out.mono ?_
  rintro e w6 ⟨rfl, hk6⟩
  have hr6 := hr4.kp hk6 (noB_not _)
  have hq6 := hq4.kp hk6 (noB_not _)
  have hk6 := hk4.trans hk6.any
  clear hr4 hq4 hE4 hk4
  have hqz4 := hq6.z
  have hqc43 := hq6.c3
  have hq8 := hq6.max 0
  have hr8 := hr6.other (p := ⟨q, 3, none⟩) HQB.out (.int .i64 0)
  have hk8 := hk6.setCell (F := onB2 b q) (p := ⟨q, 3, none⟩) (.inl (onB2_r b q)) (.int .i64 0)
  have hE8 := hE.kp hk8 hN16
  obtain ⟨w8, HW8⟩ : ∃ w8, Hid (w6.setCell ⟨q, 3, none⟩ (.int .i64 0) = w8) := ⟨_, rfl⟩
  rw [HW8.out] at hr8 hk8 hq8 hE8
  go_upto_region 10 with (fail)
  rw [HW8.out]
  clear hqz4 hqc43 hr6 hq6 hk6
  have hc12 := hq8.c2
  have hc13 := hq8.c3
  have hy := hE8.syn
  have HRK := Lib.hid hr8
  have HQK := Lib.hid hq8
  have HEK := Lib.hid hE8
  have HKK := Lib.hid hk8
  clear hr8 hq8 hE8 hk8
  have hb1 : decide ((0 : Int) ≤ 0) = true := rfl
  have hb3 : ((0 : Int) == (0 : Int)) = true := rfl
  have hb2 : decide ((0 : Int) < (n : Int)) = true ∧ decide (0 < n) = true ∨ decide ((0 : Int) < (n : Int)) = false ∧ decide (0 < n) = false := by
    by_cases e : 0 < n
    · exact .inl ⟨decide_eq_true (by omega), decide_eq_true e⟩
    · exact .inr ⟨decide_eq_false (by omega), decide_eq_false e⟩
  clear hn0
  rcases hb2 with ⟨hb2, hb4⟩ | ⟨hb2, hb4⟩
  all_goals
    go_wp2_with fail
    go_quiet (fail)
    have hk5 : Kp noB w8 (w8.drewN nq) := (Kp.refl _ _).drewN _
    have hr5 := HRK.out.kp hk5 (noB_not _)
    have hq5 := HQK.out.kp hk5 (noB_not _)
    have hE5 := HEK.out.kp hk5 (fun k _ => noB_not _)
    have hy5 := hE5.syn
    have HK5 := Lib.hid (HKK.out.trans hk5.any)
    generalize w8.drewN nq = w5 at hr5 hq5 hE5 hy5 HK5 ⊢
    have HF : Hid (∀ ev p, Calls Tryz.prog 58 #[.pointer (some ⟨b, 0, none⟩), ev, .int .i64 p] w5 fun e w' => e = .returned (.tuple #[]) ∧ w' = w5) := Lib.hid fun ev p => rfail_old (w := w5) hr5 ev p
    have HNE := Lib.hid (need_old 125 hr5 hE5 (by omega))
    have HR5 := Lib.hid hr5
    have HQ5 := Lib.hid hq5
    clear hr5 hq5 hE5 hk5
    go_wp2_with (first | (go_at_call 58; refine (HF.out _ _).mono ?_; rintro e w6 ⟨rfl, rfl⟩) | (go_at_call 291; refine HNE.out.mono ?_; rintro e w7 ⟨rfl, hk7⟩))
    go_end0
    exact tim_er HCC.out _ _ (p + 1) _ _ (by omega) (by omega) ⟨rfl, HK5.out.trans hk7.any, HR5.out.kp hk7 (noB_not _), HQ5.out.kp hk7 (noB_not _)⟩

set_option maxRecDepth 100000 in
set_option maxHeartbeats 1000000 in
theorem rtim_comma_close (h : QR eb es s b a o none w) (hE : Env 406 eb es w) (hsz : s.size ≤ 65536) (ha : a ≤ s.size) (hq : QD q 6 sv 0 0 kv w) (hqb : q ≠ b) (hq16 : 16 ≤ q) (n p : Nat) (hc : count s a = .ok n p) (h44 : pk s p = 44) (hx125 : pk s (p + 1) = 125) :
    Calls Tryz.prog 259 #[.pointer (some ⟨b, 0, none⟩), .pointer (some ⟨q, 0, none⟩)] w (TimR eb es s b a o q sv kv w) := by
  obtain ⟨hn50, hap, hps, hpne, hn0⟩ := count_ok hc ha
  have HCL : Hid ((pk s (p + 1) = 125 → counted s a = .ok ((n : Int), (-1)) ((p + 1) + 1)) ∧ (pk s (p + 1) ≠ 125 → counted s a = .er 1 (p + 1))) := Lib.hid (by
    have e : counted s a = closed s (n : Int) (-1) (p + 1) := by unfold counted; rw [hc]; simp only; rw [if_neg hpne, if_pos h44, if_neg (by omega), if_pos hx125]
    rw [e]
    unfold closed
    exact ⟨fun h => by rw [if_pos h], fun h => by rw [if_neg h]⟩)
  have hN16 : ∀ k, k < 16 → ¬ onB2 b q k := fun k hk => onB2_not (by have := h.far; omega) (by omega)
  have hNB : ∀ k, k < 16 → ¬ onB b k := fun k hk => onB_not (by have := h.far; omega)
  have HQB := Lib.hid hqb
  have hc0 := h.c1
  have HC := rcount_any h hE hsz ha
  unfold CntR at HC
  rw [hc] at HC
  have HC := Lib.hid HC
  have H := Lib.hid h
  clear h
  clear hc
  go_enter Tryz.func259, Tryz.ntmps259
  go_wp2_with fail
  refine HC.out.mono ?_
  rintro e w1 ⟨rfl, hk1, hr1⟩
  have hq1 := hq.kp hk1 (onB_not HQB.out)
  have hqz1 := hq1.z
  have hqc12 := hq1.c2
  have hqc13 := hq1.c3
  have hq2 := (hq1.min (n : Int)).max (n : Int)
  have hr2 := (hr1.other (p := ⟨q, 2, none⟩) HQB.out (.int .i64 (n : Int))).other (p := ⟨q, 3, none⟩) HQB.out (.int .i64 (n : Int))
  have hk2 := (hk1.two (q := q)).setCell (F := onB2 b q) (p := ⟨q, 2, none⟩) (.inl (onB2_r b q)) (.int .i64 (n : Int)) |>.setCell (F := onB2 b q) (p := ⟨q, 3, none⟩) (.inl (onB2_r b q)) (.int .i64 (n : Int))
  obtain ⟨w2, HW2⟩ : ∃ w2, Hid ((w1.setCell ⟨q, 2, none⟩ (.int .i64 (n : Int))).setCell ⟨q, 3, none⟩ (.int .i64 (n : Int)) = w2) := ⟨_, rfl⟩
  rw [HW2.out] at hr2 hk2 hq2
  have hE2 := hE.kp hk2 hN16
  go_upto_region 3 with (fail)
  rw [HW2.out]
  clear hqz1 hqc12 hqc13 hk1 hr1 hq1
  have hp1 := pk_lt s p (by omega)
  have HEO := Lib.hid (eat_yes 44 hr2 hsz (by omega) (by omega) h44)
  clear h44 hpne hr2
  go_wp2_with fail
  refine HEO.out.mono ?_
  rintro e w3 ⟨rfl, hk3, hr3⟩
  have hq3 := hq2.kp hk3 (onB_not HQB.out)
  have hE3 := hE2.kp hk3 hNB
  have hk3 := hk2.trans hk3.two
  have hc3 := hr3.c1
  clear hq2 hE2 hk2
  have hpl1 := pk_lt s (p + 1) (by omega)
  have HNO := Lib.hid (now_ok hr3 hsz 125 hx125 (by omega))
  clear hx125
  go_wp2_with fail
  refine HNO.out.mono ?_
  rintro e w6 ⟨rfl, hk6⟩
  have hr6 := hr3.kp hk6 (noB_not _)
  have hq6 := hq3.kp hk6 (noB_not _)
  have hk6 := hk3.trans hk6.any
  have hne : ((125 : Int) == 125) = true := rfl
  clear hr3 hq3 hE3 hk3 hc3
  have hqz4 := hq6.z
  have hqc43 := hq6.c3
  have hq8 := hq6.max (-1)
  have hr8 := hr6.other (p := ⟨q, 3, none⟩) HQB.out (.int .i64 (-1))
  have hk8 := hk6.setCell (F := onB2 b q) (p := ⟨q, 3, none⟩) (.inl (onB2_r b q)) (.int .i64 (-1))
  have hE8 := hE.kp hk8 hN16
  obtain ⟨w8, HW8⟩ : ∃ w8, Hid (w6.setCell ⟨q, 3, none⟩ (.int .i64 (-1)) = w8) := ⟨_, rfl⟩
  rw [HW8.out] at hr8 hk8 hq8 hE8
  go_upto_region 10 with (fail)
  rw [HW8.out]
  clear hqz4 hqc43 hr6 hq6 hk6
  have hc12 := hq8.c2
  have hc13 := hq8.c3
  have hy := hE8.syn
  have HRK := Lib.hid hr8
  have HQK := Lib.hid hq8
  have HEK := Lib.hid hE8
  have HKK := Lib.hid hk8
  clear hr8 hq8 hE8 hk8
  have hb1 : decide ((0 : Int) ≤ -1) = false := rfl
  go_wp2_with fail
  go_quiet (fail)
  have hk5 : Kp noB w8 (w8.drewN nq) := (Kp.refl _ _).drewN _
  have hr5 := HRK.out.kp hk5 (noB_not _)
  have hq5 := HQK.out.kp hk5 (noB_not _)
  have hE5 := HEK.out.kp hk5 (fun k _ => noB_not _)
  have HK5 := Lib.hid (HKK.out.trans hk5.any)
  generalize w8.drewN nq = w5 at hr5 hq5 hE5 HK5 ⊢
  have HQ5 := Lib.hid hq5
  by_cases h125 : pk s (p + 1) = 125
  · have HCC := Lib.hid (HCL.out.1 h125)
    have HNE := Lib.hid (need_yes 125 hr5 hsz (by omega) (by omega) h125)
    clear hr5 hq5 hE5 hk5 h125
    go_wp2_with fail
    refine HNE.out.mono ?_
    rintro e w6 ⟨rfl, hk6, hr6⟩
    go_wp2_with fail
    go_end0
    exact tim_ok HCC.out _ _ ⟨rfl, HK5.out.trans hk6.two, hr6, HQ5.out.kp hk6 (onB_not HQB.out)⟩
  · have HCC := Lib.hid (HCL.out.2 h125)
    have HNE := Lib.hid (need_er 125 hr5 hE5 hsz (by omega) h125)
    clear hr5 hq5 hE5 hk5 h125
    go_wp2_with fail
    refine HNE.out.mono ?_
    rintro e w6 ⟨rfl, hk6, hr6⟩
    go_wp2_with fail
    go_end0
    exact tim_er HCC.out _ _ (p + 1) _ _ (by omega) (by omega) ⟨rfl, HK5.out.trans hk6.two, hr6, HQ5.out.kp hk6 (onB_not HQB.out)⟩

set_option maxRecDepth 100000 in
set_option maxHeartbeats 1000000 in
theorem rtim_comma_er (h : QR eb es s b a o none w) (hE : Env 406 eb es w) (hsz : s.size ≤ 65536) (ha : a ≤ s.size) (hq : QD q 6 sv 0 0 kv w) (hqb : q ≠ b) (hq16 : 16 ≤ q) (n p : Nat) (hc : count s a = .ok n p) (h44 : pk s p = 44) (h2 : pk s (p + 1) ≠ -2) (hn125 : pk s (p + 1) ≠ 125) (c d : Nat) (hc2 : count s (p + 1) = .er c d) :
    Calls Tryz.prog 259 #[.pointer (some ⟨b, 0, none⟩), .pointer (some ⟨q, 0, none⟩)] w (TimR eb es s b a o q sv kv w) := by
  obtain ⟨hn50, hap, hps, hpne, hn0⟩ := count_ok hc ha
  have HCC : Hid (counted s a = .er c d) := Lib.hid (by unfold counted; rw [hc]; simp only; rw [if_neg hpne, if_pos h44, if_neg h2, if_neg hn125, hc2])
  have hnI : (n : Int) ≤ 50 := by omega
  have hN16 : ∀ k, k < 16 → ¬ onB2 b q k := fun k hk => onB2_not (by have := h.far; omega) (by omega)
  have hNB : ∀ k, k < 16 → ¬ onB b k := fun k hk => onB_not (by have := h.far; omega)
  have HQB := Lib.hid hqb
  have hc0 := h.c1
  have HC := rcount_any h hE hsz ha
  unfold CntR at HC
  rw [hc] at HC
  have HC := Lib.hid HC
  have H := Lib.hid h
  clear h
  clear hc
  go_enter Tryz.func259, Tryz.ntmps259
  go_wp2_with fail
  refine HC.out.mono ?_
  rintro e w1 ⟨rfl, hk1, hr1⟩
  have hq1 := hq.kp hk1 (onB_not HQB.out)
  have hqz1 := hq1.z
  have hqc12 := hq1.c2
  have hqc13 := hq1.c3
  have hq2 := (hq1.min (n : Int)).max (n : Int)
  have hr2 := (hr1.other (p := ⟨q, 2, none⟩) HQB.out (.int .i64 (n : Int))).other (p := ⟨q, 3, none⟩) HQB.out (.int .i64 (n : Int))
  have hk2 := (hk1.two (q := q)).setCell (F := onB2 b q) (p := ⟨q, 2, none⟩) (.inl (onB2_r b q)) (.int .i64 (n : Int)) |>.setCell (F := onB2 b q) (p := ⟨q, 3, none⟩) (.inl (onB2_r b q)) (.int .i64 (n : Int))
  obtain ⟨w2, HW2⟩ : ∃ w2, Hid ((w1.setCell ⟨q, 2, none⟩ (.int .i64 (n : Int))).setCell ⟨q, 3, none⟩ (.int .i64 (n : Int)) = w2) := ⟨_, rfl⟩
  rw [HW2.out] at hr2 hk2 hq2
  have hE2 := hE.kp hk2 hN16
  go_upto_region 3 with (fail)
  rw [HW2.out]
  clear hqz1 hqc12 hqc13 hk1 hr1 hq1
  have hp1 := pk_lt s p (by omega)
  have HEO := Lib.hid (eat_yes 44 hr2 hsz (by omega) (by omega) h44)
  clear h44 hpne hr2
  go_wp2_with fail
  refine HEO.out.mono ?_
  rintro e w3 ⟨rfl, hk3, hr3⟩
  have hq3 := hq2.kp hk3 (onB_not HQB.out)
  have hE3 := hE2.kp hk3 hNB
  have hk3 := hk2.trans hk3.two
  have hc3 := hr3.c1
  clear hq2 hE2 hk2
  have HNO := Lib.hid (now_ok hr3 hsz _ rfl h2)
  obtain ⟨x, hx⟩ : ∃ x, pk s (p + 1) = x := ⟨_, rfl⟩
  rw [hx] at HNO
  have hne : (x == (125 : Int)) = false := beq_eq_false_iff_ne.2 (by rw [← hx]; exact hn125)
  clear h2 hn125 hx
  go_wp2_with fail
  refine HNO.out.mono ?_
  rintro e w4 ⟨rfl, hk4⟩
  have hr4 := hr3.kp hk4 (noB_not _)
  have hq4 := hq3.kp hk4 (noB_not _)
  have hE4 := hE3.kp hk4 (fun k _ => noB_not _)
  have hk4 := hk3.trans hk4.any
  have HCN := rcount_any hr4 hE4 hsz (by omega)
  unfold CntR at HCN
  rw [hc2] at HCN
  have HC2 := Lib.hid HCN
  clear hr3 hq3 hE3 hk3 hc3 hc2 HCN
  go_wp2_with fail
  refine HC2.out.mono ?_
  rintro e w6 ⟨v, a6, rfl, hk6, hv0, hv9, ha6, ha6s, hr6⟩
  have hq6 := hq4.kp hk6 (onB_not HQB.out)
  have hk6 := hk4.trans hk6.two
  clear hr4 hq4 hE4 hk4
  have hqz4 := hq6.z
  have hqc43 := hq6.c3
  have hq8 := hq6.max v
  have hr8 := hr6.other (p := ⟨q, 3, none⟩) HQB.out (.int .i64 v)
  have hk8 := hk6.setCell (F := onB2 b q) (p := ⟨q, 3, none⟩) (.inl (onB2_r b q)) (.int .i64 v)
  have hE8 := hE.kp hk8 hN16
  obtain ⟨w8, HW8⟩ : ∃ w8, Hid (w6.setCell ⟨q, 3, none⟩ (.int .i64 v) = w8) := ⟨_, rfl⟩
  rw [HW8.out] at hr8 hk8 hq8 hE8
  go_upto_region 10 with (fail)
  rw [HW8.out]
  clear hqz4 hqc43 hr6 hq6 hk6
  have hc12 := hq8.c2
  have hc13 := hq8.c3
  have hy := hE8.syn
  have HRK := Lib.hid hr8
  have HQK := Lib.hid hq8
  have HEK := Lib.hid hE8
  have HKK := Lib.hid hk8
  clear hr8 hq8 hE8 hk8
  have hb1 : decide ((0 : Int) ≤ v) = true := decide_eq_true hv0
  have hb2 : decide (v < (n : Int)) = true ∨ decide (v < (n : Int)) = false ∧ (v == (0 : Int)) = true ∨ decide (v < (n : Int)) = false ∧ (v == (0 : Int)) = false := by
    by_cases e : v < n
    · exact .inl (decide_eq_true e)
    · by_cases e2 : v = 0
      · exact .inr (.inl ⟨decide_eq_false e, beq_iff_eq.2 e2⟩)
      · exact .inr (.inr ⟨decide_eq_false e, beq_eq_false_iff_ne.2 e2⟩)
  rcases hb2 with hb2 | ⟨hb2, hb3⟩ | ⟨hb2, hb3⟩
  all_goals
    go_wp2_with fail
    go_quiet (fail)
    have hk5 : Kp noB w8 (w8.drewN nq) := (Kp.refl _ _).drewN _
    have hr5 := HRK.out.kp hk5 (noB_not _)
    have hq5 := HQK.out.kp hk5 (noB_not _)
    have hE5 := HEK.out.kp hk5 (fun k _ => noB_not _)
    have hy5 := hE5.syn
    have HK5 := Lib.hid (HKK.out.trans hk5.any)
    generalize w8.drewN nq = w5 at hr5 hq5 hE5 hy5 HK5 ⊢
    have HF : Hid (∀ ev p, Calls Tryz.prog 58 #[.pointer (some ⟨b, 0, none⟩), ev, .int .i64 p] w5 fun e w' => e = .returned (.tuple #[]) ∧ w' = w5) := Lib.hid fun ev p => rfail_old (w := w5) hr5 ev p
    have HNE := Lib.hid (need_old 125 hr5 hE5 (by omega))
    have HR5 := Lib.hid hr5
    have HQ5 := Lib.hid hq5
    clear hr5 hq5 hE5 hk5
    go_wp2_with (first | (go_at_call 58; refine (HF.out _ _).mono ?_; rintro e w6 ⟨rfl, rfl⟩) | (go_at_call 291; refine HNE.out.mono ?_; rintro e w7 ⟨rfl, hk7⟩))
    go_end0
    exact tim_er HCC.out _ _ a6 _ _ (by omega) ha6s ⟨rfl, HK5.out.trans hk7.any, HR5.out.kp hk7 (noB_not _), HQ5.out.kp hk7 (noB_not _)⟩

set_option maxRecDepth 100000 in
set_option maxHeartbeats 1000000 in
theorem rtim_low (h : QR eb es s b a o none w) (hE : Env 406 eb es w) (hsz : s.size ≤ 65536) (ha : a ≤ s.size) (hq : QD q 6 sv 0 0 kv w) (hqb : q ≠ b) (hq16 : 16 ≤ q) (n p : Nat) (hc : count s a = .ok n p) (h44 : pk s p = 44) (h2 : pk s (p + 1) ≠ -2) (hn125 : pk s (p + 1) ≠ 125) (m d : Nat) (hc2 : count s (p + 1) = .ok m d) (hmn : m < n ∨ m = 0) :
    Calls Tryz.prog 259 #[.pointer (some ⟨b, 0, none⟩), .pointer (some ⟨q, 0, none⟩)] w (TimR eb es s b a o q sv kv w) := by
  obtain ⟨hn50, hap, hps, hpne, hn0⟩ := count_ok hc ha
  have HCC : Hid (counted s a = .er 1 (p + 1)) := Lib.hid (by unfold counted; rw [hc]; simp only; rw [if_neg hpne, if_pos h44, if_neg h2, if_neg hn125, hc2]; simp only; rw [if_pos hmn])
  have hN16 : ∀ k, k < 16 → ¬ onB2 b q k := fun k hk => onB2_not (by have := h.far; omega) (by omega)
  have hNB : ∀ k, k < 16 → ¬ onB b k := fun k hk => onB_not (by have := h.far; omega)
  have HQB := Lib.hid hqb
  have hc0 := h.c1
  have HC := rcount_any h hE hsz ha
  unfold CntR at HC
  rw [hc] at HC
  have HC := Lib.hid HC
  have H := Lib.hid h
  clear h
  clear hc
  go_enter Tryz.func259, Tryz.ntmps259
  go_wp2_with fail
  refine HC.out.mono ?_
  rintro e w1 ⟨rfl, hk1, hr1⟩
  have hq1 := hq.kp hk1 (onB_not HQB.out)
  have hqz1 := hq1.z
  have hqc12 := hq1.c2
  have hqc13 := hq1.c3
  have hq2 := (hq1.min (n : Int)).max (n : Int)
  have hr2 := (hr1.other (p := ⟨q, 2, none⟩) HQB.out (.int .i64 (n : Int))).other (p := ⟨q, 3, none⟩) HQB.out (.int .i64 (n : Int))
  have hk2 := (hk1.two (q := q)).setCell (F := onB2 b q) (p := ⟨q, 2, none⟩) (.inl (onB2_r b q)) (.int .i64 (n : Int)) |>.setCell (F := onB2 b q) (p := ⟨q, 3, none⟩) (.inl (onB2_r b q)) (.int .i64 (n : Int))
  obtain ⟨w2, HW2⟩ : ∃ w2, Hid ((w1.setCell ⟨q, 2, none⟩ (.int .i64 (n : Int))).setCell ⟨q, 3, none⟩ (.int .i64 (n : Int)) = w2) := ⟨_, rfl⟩
  rw [HW2.out] at hr2 hk2 hq2
  have hE2 := hE.kp hk2 hN16
  go_upto_region 3 with (fail)
  rw [HW2.out]
  clear hqz1 hqc12 hqc13 hk1 hr1 hq1
  have hp1 := pk_lt s p (by omega)
  have HEO := Lib.hid (eat_yes 44 hr2 hsz (by omega) (by omega) h44)
  clear h44 hpne hr2
  go_wp2_with fail
  refine HEO.out.mono ?_
  rintro e w3 ⟨rfl, hk3, hr3⟩
  have hq3 := hq2.kp hk3 (onB_not HQB.out)
  have hE3 := hE2.kp hk3 hNB
  have hk3 := hk2.trans hk3.two
  have hc3 := hr3.c1
  clear hq2 hE2 hk2
  obtain ⟨hm50, hpd, hds, _, _⟩ := count_ok hc2 (by omega)
  have HNO := Lib.hid (now_ok hr3 hsz _ rfl h2)
  obtain ⟨x, hx⟩ : ∃ x, pk s (p + 1) = x := ⟨_, rfl⟩
  rw [hx] at HNO
  have hne : (x == (125 : Int)) = false := beq_eq_false_iff_ne.2 (by rw [← hx]; exact hn125)
  clear h2 hn125 hx
  go_wp2_with fail
  refine HNO.out.mono ?_
  rintro e w4 ⟨rfl, hk4⟩
  have hr4 := hr3.kp hk4 (noB_not _)
  have hq4 := hq3.kp hk4 (noB_not _)
  have hE4 := hE3.kp hk4 (fun k _ => noB_not _)
  have hk4 := hk3.trans hk4.any
  have HCN := rcount_any hr4 hE4 hsz (by omega)
  unfold CntR at HCN
  rw [hc2] at HCN
  have HC2 := Lib.hid HCN
  clear hr3 hq3 hE3 hk3 hc3 hc2 HCN
  go_wp2_with fail
  refine HC2.out.mono ?_
  rintro e w6 ⟨rfl, hk6, hr6⟩
  have hq6 := hq4.kp hk6 (onB_not HQB.out)
  have hk6 := hk4.trans hk6.two
  clear hr4 hq4 hE4 hk4
  have hqz4 := hq6.z
  have hqc43 := hq6.c3
  have hq8 := hq6.max (m : Int)
  have hr8 := hr6.other (p := ⟨q, 3, none⟩) HQB.out (.int .i64 (m : Int))
  have hk8 := hk6.setCell (F := onB2 b q) (p := ⟨q, 3, none⟩) (.inl (onB2_r b q)) (.int .i64 (m : Int))
  have hE8 := hE.kp hk8 hN16
  obtain ⟨w8, HW8⟩ : ∃ w8, Hid (w6.setCell ⟨q, 3, none⟩ (.int .i64 (m : Int)) = w8) := ⟨_, rfl⟩
  rw [HW8.out] at hr8 hk8 hq8 hE8
  go_upto_region 10 with (fail)
  rw [HW8.out]
  clear hqz4 hqc43 hr6 hq6 hk6
  have hc12 := hq8.c2
  have hc13 := hq8.c3
  have hy := hE8.syn
  have HRK := Lib.hid hr8
  have HQK := Lib.hid hq8
  have HEK := Lib.hid hE8
  have HKK := Lib.hid hk8
  clear hr8 hq8 hE8 hk8
  have hb1 : decide ((0 : Int) ≤ (m : Int)) = true := decide_eq_true (by omega)
  have hb2 : decide (m < n) = true ∨ decide (m < n) = false ∧ ((m : Int) == (0 : Int)) = true := by
    by_cases e : m < n
    · exact .inl (decide_eq_true e)
    · exact .inr ⟨decide_eq_false e, beq_iff_eq.2 (by omega)⟩
  clear hmn hn0
  rcases hb2 with hb2 | ⟨hb2, hb3⟩
  all_goals
    go_wp2_with fail
    go_quiet (fail)
    have hk5 : Kp noB w8 (w8.drewN nq) := (Kp.refl _ _).drewN _
    have hr5 := HRK.out.kp hk5 (noB_not _)
    have hq5 := HQK.out.kp hk5 (noB_not _)
    have hE5 := HEK.out.kp hk5 (fun k _ => noB_not _)
    have hy5 := hE5.syn
    have HK5 := Lib.hid (HKK.out.trans hk5.any)
    generalize w8.drewN nq = w5 at hr5 hq5 hE5 hy5 HK5 ⊢
    have HF := Lib.hid (rfail_new hr5 1 (p + 1))
    have HQ5 := Lib.hid hq5
    have HE5 := Lib.hid hE5
    clear hr5 hq5 hE5 hk5
    go_wp2_with fail
    refine HF.out.mono ?_
    rintro e w6 ⟨rfl, hr6, hk6⟩
    have HNE := Lib.hid (need_old 125 hr6 (HE5.out.kp hk6 hNB) (by omega))
    have HR6 := Lib.hid hr6
    have HK6 := Lib.hid hk6
    clear hr6 hk6
    go_wp2_with fail
    refine HNE.out.mono ?_
    rintro e w7 ⟨rfl, hk7⟩
    go_wp2_with fail
    go_end0
    exact tim_er HCC.out _ _ d _ _ (by omega) hds ⟨rfl, (HK5.out.trans HK6.out.two).trans hk7.any, HR6.out.kp hk7 (noB_not _), (HQ5.out.kp HK6.out (onB_not HQB.out)).kp hk7 (noB_not _)⟩

set_option maxRecDepth 100000 in
set_option maxHeartbeats 1000000 in
theorem rtim_two (h : QR eb es s b a o none w) (hE : Env 406 eb es w) (hsz : s.size ≤ 65536) (ha : a ≤ s.size) (hq : QD q 6 sv 0 0 kv w) (hqb : q ≠ b) (hq16 : 16 ≤ q) (n p : Nat) (hc : count s a = .ok n p) (h44 : pk s p = 44) (h2 : pk s (p + 1) ≠ -2) (hn125 : pk s (p + 1) ≠ 125) (m d : Nat) (hc2 : count s (p + 1) = .ok m d) (hmn : ¬ (m < n ∨ m = 0)) :
    Calls Tryz.prog 259 #[.pointer (some ⟨b, 0, none⟩), .pointer (some ⟨q, 0, none⟩)] w (TimR eb es s b a o q sv kv w) := by
  obtain ⟨hn50, hap, hps, hpne, hn0⟩ := count_ok hc ha
  have HCL : Hid ((pk s d = 125 → counted s a = .ok ((n : Int), (m : Int)) (d + 1)) ∧ (pk s d ≠ 125 → counted s a = .er 1 d)) := Lib.hid (by
    have e : counted s a = closed s (n : Int) (m : Int) d := by unfold counted; rw [hc]; simp only; rw [if_neg hpne, if_pos h44, if_neg h2, if_neg hn125, hc2]; simp only; rw [if_neg hmn]
    rw [e]
    unfold closed
    exact ⟨fun h => by rw [if_pos h], fun h => by rw [if_neg h]⟩)
  have hN16 : ∀ k, k < 16 → ¬ onB2 b q k := fun k hk => onB2_not (by have := h.far; omega) (by omega)
  have hNB : ∀ k, k < 16 → ¬ onB b k := fun k hk => onB_not (by have := h.far; omega)
  have HQB := Lib.hid hqb
  have hc0 := h.c1
  have HC := rcount_any h hE hsz ha
  unfold CntR at HC
  rw [hc] at HC
  have HC := Lib.hid HC
  have H := Lib.hid h
  clear h
  clear hc
  go_enter Tryz.func259, Tryz.ntmps259
  go_wp2_with fail
  refine HC.out.mono ?_
  rintro e w1 ⟨rfl, hk1, hr1⟩
  have hq1 := hq.kp hk1 (onB_not HQB.out)
  have hqz1 := hq1.z
  have hqc12 := hq1.c2
  have hqc13 := hq1.c3
  have hq2 := (hq1.min (n : Int)).max (n : Int)
  have hr2 := (hr1.other (p := ⟨q, 2, none⟩) HQB.out (.int .i64 (n : Int))).other (p := ⟨q, 3, none⟩) HQB.out (.int .i64 (n : Int))
  have hk2 := (hk1.two (q := q)).setCell (F := onB2 b q) (p := ⟨q, 2, none⟩) (.inl (onB2_r b q)) (.int .i64 (n : Int)) |>.setCell (F := onB2 b q) (p := ⟨q, 3, none⟩) (.inl (onB2_r b q)) (.int .i64 (n : Int))
  obtain ⟨w2, HW2⟩ : ∃ w2, Hid ((w1.setCell ⟨q, 2, none⟩ (.int .i64 (n : Int))).setCell ⟨q, 3, none⟩ (.int .i64 (n : Int)) = w2) := ⟨_, rfl⟩
  rw [HW2.out] at hr2 hk2 hq2
  have hE2 := hE.kp hk2 hN16
  go_upto_region 3 with (fail)
  rw [HW2.out]
  clear hqz1 hqc12 hqc13 hk1 hr1 hq1
  have hp1 := pk_lt s p (by omega)
  have HEO := Lib.hid (eat_yes 44 hr2 hsz (by omega) (by omega) h44)
  clear h44 hpne hr2
  go_wp2_with fail
  refine HEO.out.mono ?_
  rintro e w3 ⟨rfl, hk3, hr3⟩
  have hq3 := hq2.kp hk3 (onB_not HQB.out)
  have hE3 := hE2.kp hk3 hNB
  have hk3 := hk2.trans hk3.two
  have hc3 := hr3.c1
  clear hq2 hE2 hk2
  obtain ⟨hm50, hpd, hds, _, _⟩ := count_ok hc2 (by omega)
  have HNO := Lib.hid (now_ok hr3 hsz _ rfl h2)
  obtain ⟨x, hx⟩ : ∃ x, pk s (p + 1) = x := ⟨_, rfl⟩
  rw [hx] at HNO
  have hne : (x == (125 : Int)) = false := beq_eq_false_iff_ne.2 (by rw [← hx]; exact hn125)
  clear h2 hn125 hx
  go_wp2_with fail
  refine HNO.out.mono ?_
  rintro e w4 ⟨rfl, hk4⟩
  have hr4 := hr3.kp hk4 (noB_not _)
  have hq4 := hq3.kp hk4 (noB_not _)
  have hE4 := hE3.kp hk4 (fun k _ => noB_not _)
  have hk4 := hk3.trans hk4.any
  have HCN := rcount_any hr4 hE4 hsz (by omega)
  unfold CntR at HCN
  rw [hc2] at HCN
  have HC2 := Lib.hid HCN
  clear hr3 hq3 hE3 hk3 hc3 hc2 HCN
  go_wp2_with fail
  refine HC2.out.mono ?_
  rintro e w6 ⟨rfl, hk6, hr6⟩
  have hq6 := hq4.kp hk6 (onB_not HQB.out)
  have hk6 := hk4.trans hk6.two
  clear hr4 hq4 hE4 hk4
  have hqz4 := hq6.z
  have hqc43 := hq6.c3
  have hq8 := hq6.max (m : Int)
  have hr8 := hr6.other (p := ⟨q, 3, none⟩) HQB.out (.int .i64 (m : Int))
  have hk8 := hk6.setCell (F := onB2 b q) (p := ⟨q, 3, none⟩) (.inl (onB2_r b q)) (.int .i64 (m : Int))
  have hE8 := hE.kp hk8 hN16
  obtain ⟨w8, HW8⟩ : ∃ w8, Hid (w6.setCell ⟨q, 3, none⟩ (.int .i64 (m : Int)) = w8) := ⟨_, rfl⟩
  rw [HW8.out] at hr8 hk8 hq8 hE8
  go_upto_region 10 with (fail)
  rw [HW8.out]
  clear hqz4 hqc43 hr6 hq6 hk6
  have hc12 := hq8.c2
  have hc13 := hq8.c3
  have hy := hE8.syn
  have HRK := Lib.hid hr8
  have HQK := Lib.hid hq8
  have HEK := Lib.hid hE8
  have HKK := Lib.hid hk8
  clear hr8 hq8 hE8 hk8
  have hb1 : decide ((0 : Int) ≤ (m : Int)) = true := decide_eq_true (by omega)
  have hb2 : decide (m < n) = false := decide_eq_false (fun e => hmn (.inl e))
  have hb3 : ((m : Int) == (0 : Int)) = false := beq_eq_false_iff_ne.2 (fun e => hmn (.inr (by omega)))
  clear hmn hn0
  go_wp2_with fail
  go_quiet (fail)
  have hk5 : Kp noB w8 (w8.drewN nq) := (Kp.refl _ _).drewN _
  have hr5 := HRK.out.kp hk5 (noB_not _)
  have hq5 := HQK.out.kp hk5 (noB_not _)
  have hE5 := HEK.out.kp hk5 (fun k _ => noB_not _)
  have HK5 := Lib.hid (HKK.out.trans hk5.any)
  generalize w8.drewN nq = w5 at hr5 hq5 hE5 HK5 ⊢
  have HQ5 := Lib.hid hq5
  by_cases h125 : pk s d = 125
  · have HCC := Lib.hid (HCL.out.1 h125)
    have HNE := Lib.hid (need_yes 125 hr5 hsz (by omega) (by omega) h125)
    clear hr5 hq5 hE5 hk5 h125
    go_wp2_with fail
    refine HNE.out.mono ?_
    rintro e w6 ⟨rfl, hk6, hr6⟩
    go_wp2_with fail
    go_end0
    exact tim_ok HCC.out _ _ ⟨rfl, HK5.out.trans hk6.two, hr6, HQ5.out.kp hk6 (onB_not HQB.out)⟩
  · have HCC := Lib.hid (HCL.out.2 h125)
    have HNE := Lib.hid (need_er 125 hr5 hE5 hsz (by omega) h125)
    clear hr5 hq5 hE5 hk5 h125
    go_wp2_with fail
    refine HNE.out.mono ?_
    rintro e w6 ⟨rfl, hk6, hr6⟩
    go_wp2_with fail
    go_end0
    exact tim_er HCC.out _ _ d _ _ (by omega) (by omega) ⟨rfl, HK5.out.trans hk6.two, hr6, HQ5.out.kp hk6 (onB_not HQB.out)⟩

theorem rtimes_any (h : QR eb es s b a o none w) (hE : Env 406 eb es w) (hsz : s.size ≤ 65536) (ha : a ≤ s.size) (hq : QD q 6 sv 0 0 kv w) (hqb : q ≠ b) (hq16 : 16 ≤ q) :
    Calls Tryz.prog 259 #[.pointer (some ⟨b, 0, none⟩), .pointer (some ⟨q, 0, none⟩)] w (TimR eb es s b a o q sv kv w) := by
  cases hc : count s a with
  | er c p => exact rtim_er h hE hsz ha hq hqb hq16 c p hc
  | ok n p =>
    by_cases h2 : pk s p = -2
    · exact rtim_broken h hE hsz ha hq hqb hq16 n p hc h2
    by_cases h44 : pk s p = 44
    · by_cases h3 : pk s (p + 1) = -2
      · exact rtim_comma_broken h hE hsz ha hq hqb hq16 n p hc h44 h3
      by_cases h125 : pk s (p + 1) = 125
      · exact rtim_comma_close h hE hsz ha hq hqb hq16 n p hc h44 h125
      cases hc2 : count s (p + 1) with
      | er c d => exact rtim_comma_er h hE hsz ha hq hqb hq16 n p hc h44 h3 h125 c d hc2
      | ok m d =>
        by_cases hmn : m < n ∨ m = 0
        · exact rtim_low h hE hsz ha hq hqb hq16 n p hc h44 h3 h125 m d hc2 hmn
        · exact rtim_two h hE hsz ha hq hqb hq16 n p hc h44 h3 h125 m d hc2 hmn
    by_cases h0 : n = 0
    · exact rtim_zero h hE hsz ha hq hqb hq16 n p hc h44 h0
    · exact rtim_one h hE hsz ha hq hqb hq16 n p hc h44 h0
end
end Go.Proofs.YtoijabgcgdgacaaGreatDoor

namespace Go.Proofs.YtoijabgcgdgacaaGreatDoor
open Go.RowKit Go.Proofs.Gram

/-- How reading a pattern ends: a pattern, and the reader good behind it; or some pattern, and the reader says what is wrong. -/
def TR (eb es : Addr) (s : ByteArray) (nt : NT) (b a o : Nat) (w : World) (e : Ending) (w' : World) : Prop :=
  ∃ v t st p o', e = .returned v ∧ IsRe w' (fun k => w.heap.size ≤ k) v t ∧ QR eb es s b p o' st w' ∧ Kp (onB b) w w' ∧ a ≤ p ∧ p ≤ s.size ∧ o ≤ o' ∧ o' ≤ 101 ∧
    Hid ((st = none ∧ o' = o ∧ Ev s nt a o (.ok t p)) ∨ ∃ x, st = some x ∧ Ev s nt a o (.er x.1 x.2))

/-- .. and it goes on. -/
def TRS (eb es : Addr) (s : ByteArray) (nt : NT) (b a o : Nat) (w : World) (e : Ending) (w' : World) : Prop :=
  ∃ v t st p o', e = .returned v ∧ IsRe w' (fun k => w.heap.size ≤ k) v t ∧ QR eb es s b p o' st w' ∧ Kp (onB b) w w' ∧ a ≤ p ∧ p ≤ s.size ∧ o ≤ o' ∧ o' ≤ 101 ∧
    Hid ((st = none ∧ o' = o ∧ a < p ∧ Ev s nt a o (.ok t p)) ∨ ∃ x, st = some x ∧ Ev s nt a o (.er x.1 x.2))

/-- What holds at a loop's head: what is read from there on tells all; or it is known what is wrong. -/
def Inv (s : ByteArray) (nt : NT) (a : Nat) (L : NT) (p o o' : Nat) (st : Option (Nat × Nat)) (adv : Prop) : Prop :=
  (st = none ∧ o' = o ∧ adv ∧ ∀ r, Ev s L p o r → Ev s nt a o r) ∨ ∃ x, st = some x ∧ Ev s nt a o (.er x.1 x.2)

theorem tr_ok {eb es : Addr} {s : ByteArray} {nt : NT} {b a o : Nat} {w : World} {v : Value} {t : Rx} {p : Nat} {w' : World} (h1 : IsRe w' (fun k => w.heap.size ≤ k) v t) (h2 : QR eb es s b p o none w') (h3 : Kp (onB b) w w') (h4 : a ≤ p) (h5 : p ≤ s.size) (h6 : o ≤ 100) (h7 : Ev s nt a o (.ok t p)) : TR eb es s nt b a o w (.returned v) w' :=
  ⟨v, t, none, p, o, rfl, h1, h2, h3, h4, h5, Nat.le_refl _, by omega, Lib.hid (.inl ⟨rfl, rfl, h7⟩)⟩
theorem tr_er {eb es : Addr} {s : ByteArray} {nt : NT} {b a o o' : Nat} {w : World} {v : Value} {t : Rx} {p : Nat} {x : Nat × Nat} {w' : World} (h1 : IsRe w' (fun k => w.heap.size ≤ k) v t) (h2 : QR eb es s b p o' (some x) w') (h3 : Kp (onB b) w w') (h4 : a ≤ p) (h5 : p ≤ s.size) (h6 : o ≤ o') (h6' : o' ≤ 101) (h7 : Ev s nt a o (.er x.1 x.2)) : TR eb es s nt b a o w (.returned v) w' :=
  ⟨v, t, some x, p, o', rfl, h1, h2, h3, h4, h5, h6, h6', Lib.hid (.inr ⟨x, rfl, h7⟩)⟩
theorem trs_ok {eb es : Addr} {s : ByteArray} {nt : NT} {b a o : Nat} {w : World} {v : Value} {t : Rx} {p : Nat} {w' : World} (h1 : IsRe w' (fun k => w.heap.size ≤ k) v t) (h2 : QR eb es s b p o none w') (h3 : Kp (onB b) w w') (h4 : a < p) (h5 : p ≤ s.size) (h6 : o ≤ 100) (h7 : Ev s nt a o (.ok t p)) : TRS eb es s nt b a o w (.returned v) w' :=
  ⟨v, t, none, p, o, rfl, h1, h2, h3, by omega, h5, Nat.le_refl _, by omega, Lib.hid (.inl ⟨rfl, rfl, h4, h7⟩)⟩
theorem trs_er {eb es : Addr} {s : ByteArray} {nt : NT} {b a o o' : Nat} {w : World} {v : Value} {t : Rx} {p : Nat} {x : Nat × Nat} {w' : World} (h1 : IsRe w' (fun k => w.heap.size ≤ k) v t) (h2 : QR eb es s b p o' (some x) w') (h3 : Kp (onB b) w w') (h4 : a ≤ p) (h5 : p ≤ s.size) (h6 : o ≤ o') (h6' : o' ≤ 101) (h7 : Ev s nt a o (.er x.1 x.2)) : TRS eb es s nt b a o w (.returned v) w' :=
  ⟨v, t, some x, p, o', rfl, h1, h2, h3, h4, h5, h6, h6', Lib.hid (.inr ⟨x, rfl, h7⟩)⟩

def RUnitC (eb es : Addr) (s : ByteArray) (n : Nat) : Prop := ∀ (b a o : Nat) (w : World), QR eb es s b a o none w → Env 406 eb es w → a ≤ s.size → s.size ≤ a + n → o ≤ 100 →
  Calls Tryz.prog 258 #[.pointer (some ⟨b, 0, none⟩)] w (TRS eb es s .unit b a o w)
def RPartC (eb es : Addr) (s : ByteArray) (n : Nat) : Prop := ∀ (b a o : Nat) (w : World), QR eb es s b a o none w → Env 406 eb es w → a ≤ s.size → s.size ≤ a + n → o ≤ 100 →
  Calls Tryz.prog 210 #[.pointer (some ⟨b, 0, none⟩)] w (TRS eb es s .part b a o w)
def RRowC (eb es : Addr) (s : ByteArray) (n : Nat) : Prop := ∀ (b a o : Nat) (w : World), QR eb es s b a o none w → Env 406 eb es w → a ≤ s.size → s.size ≤ a + n → o ≤ 100 →
  Calls Tryz.prog 168 #[.pointer (some ⟨b, 0, none⟩)] w (TR eb es s (.row []) b a o w)
def RBothC (eb es : Addr) (s : ByteArray) (n : Nat) : Prop := ∀ (b a o : Nat) (w : World), QR eb es s b a o none w → Env 406 eb es w → a ≤ s.size → s.size ≤ a + n → o ≤ 100 →
  Calls Tryz.prog 115 #[.pointer (some ⟨b, 0, none⟩)] w (TR eb es s .both b a o w)
def RAnyC (eb es : Addr) (s : ByteArray) (n : Nat) : Prop := ∀ (b a o : Nat) (w : World), QR eb es s b a o none w → Env 406 eb es w → a ≤ s.size → s.size ≤ a + n → o ≤ 100 →
  Calls Tryz.prog 57 #[.pointer (some ⟨b, 0, none⟩)] w (TR eb es s .any b a o w)

set_option maxRecDepth 100000 in
/-- Several as one. -/
theorem several_any (kind : Int) (v : Value) (ts : List Rx) (B : Nat) (w : World) (hK : KidsR w B v ts) (hB : B ≤ w.heap.size) :
    Calls Tryz.prog 117 #[.int .i64 kind, v] w fun e w' => ∃ u, e = .returned u ∧ IsRe w' (fun k => B ≤ k) u (sev kind ts) ∧ Kp noB w w' := by
  by_cases hl : ts.length = 1
  · obtain ⟨t, rfl⟩ := List.length_eq_one_iff.1 hl
    obtain ⟨g, cap, y, rfl, hc, hre⟩ := kids_head hK
    have HRE := Lib.hid hre
    clear hre hK hl
    go_enter Tryz.func117, Tryz.ntmps117
    go_wp2_with fail
    go_ret
    exact ⟨_, rfl, HRE.out, Kp.refl _ _⟩
  · obtain ⟨A, cap, rfl⟩ := kids_open hK
    have hbl : ((ts.length : Int) == 1) = false := by simp; omega
    have HRE := Lib.hid (isRe_kids kind 0 0 hK hB)
    rw [← sev_many kind ts hl] at HRE
    have HK : Hid (Kp noB w (w.alloc (.cells #[.int .i64 kind, .slice none 0 0, .int .i64 0, .int .i64 0, .slice A ts.length cap] 34))) := Lib.hid ((Kp.refl _ _).alloc _)
    clear hK hl
    go_enter Tryz.func117, Tryz.ntmps117
    go_wp2_with fail
    go_ret
    exact ⟨_, rfl, HRE.out, HK.out⟩

section
variable {eb es : Addr} {s : ByteArray}

set_option maxRecDepth 100000 in
set_option maxHeartbeats 4000000 in
theorem rpart_any (hsz : s.size ≤ 65536) {n : Nat} (hU : RUnitC eb es s n) : RPartC eb es s n := by
  intro b a o w hr hE ha hn ho
  have HU := Lib.hid (hU b a o w hr hE ha hn ho)
  clear hU
  have hfar := hr.far
  have hblt := hr.lt
  have HE := Lib.hid hE
  clear hr hE
  go_enter Tryz.func210, Tryz.ntmps210
  go_wp2_with fail
  refine HU.out.mono ?_
  rintro e w1 ⟨v1, t1, st1, p1, o1, rfl, hre1, hq1, hk1, hap1, hps1, ho1, ho1', HD1⟩
  have H1 : Hid (Kp (onB b) w w1 ∧ QR eb es s b p1 o1 st1 w1 ∧ IsRe w1 (fun k => w.heap.size ≤ k) v1 t1 ∧ Inv s .part a (.partL t1) p1 o o1 st1 (a < p1)) := Lib.hid ⟨hk1, hq1, hre1, by
    rcases HD1.out with ⟨h1, h2, h3, h4⟩ | ⟨x, h1, h2⟩
    · exact .inl ⟨h1, h2, h3, fun r h => h4.part_ok h⟩
    · exact .inr ⟨x, h1, h2.part_er⟩⟩
  clear hre1 hq1 hk1 HD1 HU
  go_wp2_with fail
  go_loopw [3] (fun v wr => ∃ t p st o', a ≤ p ∧ p ≤ s.size ∧ o ≤ o' ∧ o' ≤ 101 ∧ Hid (Kp (onB b) w wr ∧ QR eb es s b p o' st wr ∧ IsRe wr (fun k => w.heap.size ≤ k) v t ∧ Inv s .part a (.partL t) p o o' st (a < p)))
    (fun _ wr => s.size - (intOf ((wr.cell? ⟨b, 1, none⟩).getD undef)).toNat)
  case atStart => exact ⟨t1, p1, st1, o1, hap1, hps1, ho1, ho1', H1⟩
  case round =>
    clear H1 hap1 hps1 ho1 ho1'
    obtain ⟨t, p, st, o', hap, hps, hoo, hoo', HR⟩ := hrel
    obtain ⟨x, hx⟩ := IsRe_ptr HR.out.2.2.1
    subst hx
    have HK := Lib.hid HR.out.1
    have HRE := Lib.hid HR.out.2.2.1
    have HQ := Lib.hid HR.out.2.1
    have hks := HK.out.size
    have HEr := Lib.hid (HE.out.kp HK.out (fun k hk => onB_not (by omega)))
    have hc1r := Lib.hid HQ.out.c1
    rcases HR.out.2.2.2 with ⟨rfl, rfl, hlt, hI⟩ | ⟨y, rfl, hev⟩
    rotate_left
    · -- something was wrong
      have HEV := Lib.hid hev
      have HN := Lib.hid (now_old HQ.out)
      have t42 : ((-1 : Int) == 42) = false := rfl
      have t43 : ((-1 : Int) == 43) = false := rfl
      have t63 : ((-1 : Int) == 63) = false := rfl
      have t123 : ((-1 : Int) == 123) = false := rfl
      clear hev HR
      go_wp2_with fail
      refine HN.out.mono ?_
      rintro e w2 ⟨rfl, hk2⟩
      have R : Hid (TRS eb es s .part b a o w (.returned (.pointer x)) ((w2.alloc (.cells #[.pointer x] 22)).alloc (.cells #[.int .i64 6, .slice none 0 0, .int .i64 0, .int .i64 0, .slice (some ⟨w2.heap.size, 0, none⟩) 1 1] 34))) := Lib.hid (by
        have hk3 : Kp noB wr ((w2.alloc (.cells #[.pointer x] 22)).alloc (.cells #[.int .i64 6, .slice none 0 0, .int .i64 0, .int .i64 0, .slice (some ⟨w2.heap.size, 0, none⟩) 1 1] 34)) := (hk2.alloc _).alloc _
        exact trs_er (HRE.out.kp hk3 fun _ _ _ => noB_not _) (HQ.out.kp hk3 (noB_not _)) (HK.out.trans hk3.any) hap hps hoo hoo' HEV.out)
      clear hk2
      go_wp2_with fail
      go_ret
      exact R.out
    have HI := Lib.hid hI
    clear HR hI
    by_cases h2 : pk s p = -2
    · have HN := Lib.hid (now_hurt HQ.out HEr.out (by omega) h2)
      have HEV := Lib.hid (HI.out _ (Ev.partL_bad h2))
      have t42 : ((-1 : Int) == 42) = false := rfl
      have t43 : ((-1 : Int) == 43) = false := rfl
      have t63 : ((-1 : Int) == 63) = false := rfl
      have t123 : ((-1 : Int) == 123) = false := rfl
      clear h2
      go_wp2_with fail
      refine HN.out.mono ?_
      rintro e w2 ⟨rfl, hq2, hk2⟩
      have R : Hid (TRS eb es s .part b a o' w (.returned (.pointer x)) ((w2.alloc (.cells #[.pointer x] 22)).alloc (.cells #[.int .i64 6, .slice none 0 0, .int .i64 0, .int .i64 0, .slice (some ⟨w2.heap.size, 0, none⟩) 1 1] 34))) := Lib.hid (by
        have hk3 : Kp noB w2 ((w2.alloc (.cells #[.pointer x] 22)).alloc (.cells #[.int .i64 6, .slice none 0 0, .int .i64 0, .int .i64 0, .slice (some ⟨w2.heap.size, 0, none⟩) 1 1] 34)) := ((Kp.refl _ _).alloc _).alloc _
        have hre2 := HRE.out.kp hk2 (fun k _ hk => onB_not (by omega))
        exact trs_er (x := (1, p)) (hre2.kp hk3 fun _ _ _ => noB_not _) (hq2.kp hk3 (noB_not _)) ((HK.out.trans hk2).trans hk3.any) hap hps (Nat.le_refl _) (by omega) HEV.out)
      clear hq2 hk2
      go_wp2_with fail
      go_ret
      exact R.out
    have HN := Lib.hid (now_ok HQ.out hsz _ rfl h2)
    obtain ⟨c, hc⟩ : ∃ c, pk s p = c := ⟨_, rfl⟩
    rw [hc] at HN
    have HC := Lib.hid hc
    have H2 := Lib.hid h2
    clear h2 hc
    -- to behind the new pattern
    have HW0 : Hid (∀ w2, Kp noB wr w2 → ∃ W, Hid ((w2.alloc (.cells #[.pointer x] 22)).alloc (.cells #[.int .i64 6, .slice none 0 0, .int .i64 0, .int .i64 0, .slice (some ⟨w2.heap.size, 0, none⟩) 1 1] 34) = W) ∧ Kp (onB b) w W ∧ QR eb es s b p o' none W ∧ QD (w2.heap.size + 1) 6 (.slice none 0 0) 0 0 (.slice (some ⟨w2.heap.size, 0, none⟩) 1 1) W ∧ w.heap.size ≤ w2.heap.size ∧ w.heap.size ≤ W.heap.size ∧ IsRe W (fun k => w.heap.size ≤ k) (.pointer x) t ∧
        (∀ (W2 : World) (mn mx : Int), Kp (onB2 b (w2.heap.size + 1)) W W2 → QD (w2.heap.size + 1) 6 (.slice none 0 0) mn mx (.slice (some ⟨w2.heap.size, 0, none⟩) 1 1) W2 → IsRe W2 (fun k => w.heap.size ≤ k) (.pointer (some ⟨w2.heap.size + 1, 0, none⟩)) (.mk 6 [] mn mx [t]))) := Lib.hid fun w2 hk2 => by
      have hk3 : Kp noB w2 ((w2.alloc (.cells #[.pointer x] 22)).alloc (.cells #[.int .i64 6, .slice none 0 0, .int .i64 0, .int .i64 0, .slice (some ⟨w2.heap.size, 0, none⟩) 1 1] 34)) := ((Kp.refl _ _).alloc _).alloc _
      have hks2 := hk2.size
      have hre2 := HRE.out.kp hk2 (fun _ _ _ => noB_not _)
      refine ⟨_, Lib.hid rfl, (HK.out.trans hk2.any).trans hk3.any, HQ.out.kp (hk2.trans hk3) (noB_not _), ⟨by have := heap_alloc_new (w2.alloc (.cells #[.pointer x] 22)) (.cells #[.int .i64 6, .slice none 0 0, .int .i64 0, .int .i64 0, .slice (some ⟨w2.heap.size, 0, none⟩) 1 1] 34); simpa using this⟩, by omega, by have := hk3.size; omega, hre2.kp hk3 (fun _ _ _ => noB_not _), fun W2 mn mx hk4 hq4 => ?_⟩
      exact isRe_rep hre2 (by omega) hblt hk4 hq4
    by_cases h42 : c = 42
    · subst h42
      have HI2 : Hid (∀ r, Ev s (.partL (.mk 6 [] 0 (-1) [t])) (p + 1) o' r → Ev s .part a o' r) := Lib.hid fun r h => HI.out _ (Ev.partL_star HC.out h)
      have hpl := pk_lt s p (by rw [HC.out]; omega)
      have HNX := Lib.hid (nx_sign HC.out (by omega) (by omega))
      have t42 : ((42 : Int) == 42) = true := rfl
      have t123 : ((42 : Int) == 123) = false := rfl
      have HNN := Lib.hid HN.out
      go_wp2_with fail
      refine HNN.out.mono ?_
      rintro e w2 ⟨rfl, hk2⟩
      obtain ⟨W, HW, hkN, hrN, hqN, hw2, hWs, hreW, hREP⟩ := HW0.out w2 hk2
      have hqb : w2.heap.size + 1 ≠ b := by omega
      have HKN := Lib.hid hkN
      have HRN := Lib.hid hrN
      have HQN := Lib.hid hqN
      have HREW := Lib.hid hreW
      have HREP := Lib.hid hREP
      clear hkN hrN hqN hreW hREP hk2
      go_upto_region 4 with (fail)
      rw [HW.out]
      have hz := HQN.out.z
      have hm2 := HQN.out.c2
      have hm3 := HQN.out.c3
      have HK3 : Hid (Kp (onB2 b (w2.heap.size + 1)) W (W.setCell ⟨w2.heap.size + 1, 3, none⟩ (.int .i64 (-1)))) := Lib.hid ((Kp.refl (onB2 b (w2.heap.size + 1)) W).setCell (F := onB2 b (w2.heap.size + 1)) (p := ⟨w2.heap.size + 1, 3, none⟩) (.inl (onB2_r _ _)) (.int .i64 (-1)))
      have HQ3 : Hid (QD (w2.heap.size + 1) 6 (.slice none 0 0) 0 (-1) (.slice (some ⟨w2.heap.size, 0, none⟩) 1 1) (W.setCell ⟨w2.heap.size + 1, 3, none⟩ (.int .i64 (-1)))) := Lib.hid (HQN.out.max (-1))
      have HR3 : Hid (QR eb es s b p o' none (W.setCell ⟨w2.heap.size + 1, 3, none⟩ (.int .i64 (-1)))) := Lib.hid (HRN.out.other (p := ⟨w2.heap.size + 1, 3, none⟩) hqb (.int .i64 (-1)))
      have HKW3 : Hid (Kp (onB b) w (W.setCell ⟨w2.heap.size + 1, 3, none⟩ (.int .i64 (-1)))) := Lib.hid (HKN.out.setCell (F := onB b) (p := ⟨w2.heap.size + 1, 3, none⟩) (.inr (by show w.heap.size ≤ w2.heap.size + 1; omega)) (.int .i64 (-1)))
      have HSK := Lib.hid (skip_any HR3.out hpl (by omega))
      rw [HNX.out] at HSK
      go_wp2_with fail
      refine HSK.out.mono ?_
      rintro e w4 ⟨rfl, hr4, hk4⟩
      have HR4 := Lib.hid hr4
      have hre4 := HREP.out w4 0 (-1) (HK3.out.trans hk4.two) (HQ3.out.kp hk4 (onB_not hqb))
      have R : Hid (Kp (onB b) w w4 ∧ QR eb es s b (p + 1) o' none w4 ∧ IsRe w4 (fun k => w.heap.size ≤ k) (.pointer (some ⟨w2.heap.size + 1, 0, none⟩)) (.mk 6 [] 0 (-1) [t]) ∧ Inv s .part a (.partL (.mk 6 [] 0 (-1) [t])) (p + 1) o' o' none (a < p + 1)) := Lib.hid ⟨HKW3.out.trans hk4, hr4, hre4, .inl ⟨rfl, rfl, by omega, HI2.out⟩⟩
      clear hr4 hk4 hre4 hz hm2 hm3
      go_wp2_with fail
      go_roundw
      case rel => exact ⟨_, p + 1, none, o', by omega, by omega, Nat.le_refl _, by omega, R⟩
      case measure => rw [HR4.out.c1, hc1r.out]; simp only [intOf, Option.getD_some]; omega
    by_cases h43 : c = 43
    · subst h43
      have HI2 : Hid (∀ r, Ev s (.partL (.mk 6 [] 1 (-1) [t])) (p + 1) o' r → Ev s .part a o' r) := Lib.hid fun r h => HI.out _ (Ev.partL_plus HC.out h)
      have hpl := pk_lt s p (by rw [HC.out]; omega)
      have HNX := Lib.hid (nx_sign HC.out (by omega) (by omega))
      have t42 : ((43 : Int) == 42) = false := rfl
      have t43 : ((43 : Int) == 43) = true := rfl
      have t123 : ((43 : Int) == 123) = false := rfl
      have HNN := Lib.hid HN.out
      go_wp2_with fail
      refine HNN.out.mono ?_
      rintro e w2 ⟨rfl, hk2⟩
      obtain ⟨W, HW, hkN, hrN, hqN, hw2, hWs, hreW, hREP⟩ := HW0.out w2 hk2
      have hqb : w2.heap.size + 1 ≠ b := by omega
      have HKN := Lib.hid hkN
      have HRN := Lib.hid hrN
      have HQN := Lib.hid hqN
      have HREW := Lib.hid hreW
      have HREP := Lib.hid hREP
      clear hkN hrN hqN hreW hREP hk2
      go_upto_region 4 with (fail)
      rw [HW.out]
      have hz := HQN.out.z
      have hm2 := HQN.out.c2
      have hm3 := HQN.out.c3
      have HK3 : Hid (Kp (onB2 b (w2.heap.size + 1)) W ((W.setCell ⟨w2.heap.size + 1, 2, none⟩ (.int .i64 1)).setCell ⟨w2.heap.size + 1, 3, none⟩ (.int .i64 (-1)))) := Lib.hid (((Kp.refl (onB2 b (w2.heap.size + 1)) W).setCell (F := onB2 b (w2.heap.size + 1)) (p := ⟨w2.heap.size + 1, 2, none⟩) (.inl (onB2_r _ _)) (.int .i64 1)).setCell (F := onB2 b (w2.heap.size + 1)) (p := ⟨w2.heap.size + 1, 3, none⟩) (.inl (onB2_r _ _)) (.int .i64 (-1)))
      have HQ3 : Hid (QD (w2.heap.size + 1) 6 (.slice none 0 0) 1 (-1) (.slice (some ⟨w2.heap.size, 0, none⟩) 1 1) ((W.setCell ⟨w2.heap.size + 1, 2, none⟩ (.int .i64 1)).setCell ⟨w2.heap.size + 1, 3, none⟩ (.int .i64 (-1)))) := Lib.hid ((HQN.out.min 1).max (-1))
      have HR3 : Hid (QR eb es s b p o' none ((W.setCell ⟨w2.heap.size + 1, 2, none⟩ (.int .i64 1)).setCell ⟨w2.heap.size + 1, 3, none⟩ (.int .i64 (-1)))) := Lib.hid ((HRN.out.other (p := ⟨w2.heap.size + 1, 2, none⟩) hqb (.int .i64 1)).other (p := ⟨w2.heap.size + 1, 3, none⟩) hqb (.int .i64 (-1)))
      have HKW3 : Hid (Kp (onB b) w ((W.setCell ⟨w2.heap.size + 1, 2, none⟩ (.int .i64 1)).setCell ⟨w2.heap.size + 1, 3, none⟩ (.int .i64 (-1)))) := Lib.hid ((HKN.out.setCell (F := onB b) (p := ⟨w2.heap.size + 1, 2, none⟩) (.inr (by show w.heap.size ≤ w2.heap.size + 1; omega)) (.int .i64 1)).setCell (F := onB b) (p := ⟨w2.heap.size + 1, 3, none⟩) (.inr (by show w.heap.size ≤ w2.heap.size + 1; omega)) (.int .i64 (-1)))
      have HSK := Lib.hid (skip_any HR3.out hpl (by omega))
      rw [HNX.out] at HSK
      go_wp2_with fail
      refine HSK.out.mono ?_
      rintro e w4 ⟨rfl, hr4, hk4⟩
      have HR4 := Lib.hid hr4
      have hre4 := HREP.out w4 1 (-1) (HK3.out.trans hk4.two) (HQ3.out.kp hk4 (onB_not hqb))
      have R : Hid (Kp (onB b) w w4 ∧ QR eb es s b (p + 1) o' none w4 ∧ IsRe w4 (fun k => w.heap.size ≤ k) (.pointer (some ⟨w2.heap.size + 1, 0, none⟩)) (.mk 6 [] 1 (-1) [t]) ∧ Inv s .part a (.partL (.mk 6 [] 1 (-1) [t])) (p + 1) o' o' none (a < p + 1)) := Lib.hid ⟨HKW3.out.trans hk4, hr4, hre4, .inl ⟨rfl, rfl, by omega, HI2.out⟩⟩
      clear hr4 hk4 hre4 hz hm2 hm3
      go_wp2_with fail
      go_roundw
      case rel => exact ⟨_, p + 1, none, o', by omega, by omega, Nat.le_refl _, by omega, R⟩
      case measure => rw [HR4.out.c1, hc1r.out]; simp only [intOf, Option.getD_some]; omega
    by_cases h63 : c = 63
    · subst h63
      have HI2 : Hid (∀ r, Ev s (.partL (.mk 6 [] 0 1 [t])) (p + 1) o' r → Ev s .part a o' r) := Lib.hid fun r h => HI.out _ (Ev.partL_ask HC.out h)
      have hpl := pk_lt s p (by rw [HC.out]; omega)
      have HNX := Lib.hid (nx_sign HC.out (by omega) (by omega))
      have t42 : ((63 : Int) == 42) = false := rfl
      have t43 : ((63 : Int) == 43) = false := rfl
      have t63 : ((63 : Int) == 63) = true := rfl
      have t123 : ((63 : Int) == 123) = false := rfl
      have HNN := Lib.hid HN.out
      go_wp2_with fail
      refine HNN.out.mono ?_
      rintro e w2 ⟨rfl, hk2⟩
      obtain ⟨W, HW, hkN, hrN, hqN, hw2, hWs, hreW, hREP⟩ := HW0.out w2 hk2
      have hqb : w2.heap.size + 1 ≠ b := by omega
      have HKN := Lib.hid hkN
      have HRN := Lib.hid hrN
      have HQN := Lib.hid hqN
      have HREW := Lib.hid hreW
      have HREP := Lib.hid hREP
      clear hkN hrN hqN hreW hREP hk2
      go_upto_region 4 with (fail)
      rw [HW.out]
      have hz := HQN.out.z
      have hm2 := HQN.out.c2
      have hm3 := HQN.out.c3
      have HK3 : Hid (Kp (onB2 b (w2.heap.size + 1)) W (W.setCell ⟨w2.heap.size + 1, 3, none⟩ (.int .i64 1))) := Lib.hid ((Kp.refl (onB2 b (w2.heap.size + 1)) W).setCell (F := onB2 b (w2.heap.size + 1)) (p := ⟨w2.heap.size + 1, 3, none⟩) (.inl (onB2_r _ _)) (.int .i64 1))
      have HQ3 : Hid (QD (w2.heap.size + 1) 6 (.slice none 0 0) 0 1 (.slice (some ⟨w2.heap.size, 0, none⟩) 1 1) (W.setCell ⟨w2.heap.size + 1, 3, none⟩ (.int .i64 1))) := Lib.hid (HQN.out.max 1)
      have HR3 : Hid (QR eb es s b p o' none (W.setCell ⟨w2.heap.size + 1, 3, none⟩ (.int .i64 1))) := Lib.hid (HRN.out.other (p := ⟨w2.heap.size + 1, 3, none⟩) hqb (.int .i64 1))
      have HKW3 : Hid (Kp (onB b) w (W.setCell ⟨w2.heap.size + 1, 3, none⟩ (.int .i64 1))) := Lib.hid (HKN.out.setCell (F := onB b) (p := ⟨w2.heap.size + 1, 3, none⟩) (.inr (by show w.heap.size ≤ w2.heap.size + 1; omega)) (.int .i64 1))
      have HSK := Lib.hid (skip_any HR3.out hpl (by omega))
      rw [HNX.out] at HSK
      go_wp2_with fail
      refine HSK.out.mono ?_
      rintro e w4 ⟨rfl, hr4, hk4⟩
      have HR4 := Lib.hid hr4
      have hre4 := HREP.out w4 0 1 (HK3.out.trans hk4.two) (HQ3.out.kp hk4 (onB_not hqb))
      have R : Hid (Kp (onB b) w w4 ∧ QR eb es s b (p + 1) o' none w4 ∧ IsRe w4 (fun k => w.heap.size ≤ k) (.pointer (some ⟨w2.heap.size + 1, 0, none⟩)) (.mk 6 [] 0 1 [t]) ∧ Inv s .part a (.partL (.mk 6 [] 0 1 [t])) (p + 1) o' o' none (a < p + 1)) := Lib.hid ⟨HKW3.out.trans hk4, hr4, hre4, .inl ⟨rfl, rfl, by omega, HI2.out⟩⟩
      clear hr4 hk4 hre4 hz hm2 hm3
      go_wp2_with fail
      go_roundw
      case rel => exact ⟨_, p + 1, none, o', by omega, by omega, Nat.le_refl _, by omega, R⟩
      case measure => rw [HR4.out.c1, hc1r.out]; simp only [intOf, Option.getD_some]; omega
    by_cases h123 : c = 123
    · subst h123
      have hpl := pk_lt s p (by rw [HC.out]; omega)
      have HNX := Lib.hid (nx_sign HC.out (by omega) (by omega))
      have t42 : ((123 : Int) == 42) = false := rfl
      have t43 : ((123 : Int) == 43) = false := rfl
      have t63 : ((123 : Int) == 63) = false := rfl
      have t123 : ((123 : Int) == 123) = true := rfl
      clear h42 h43 h63
      have HNN := Lib.hid HN.out
      go_wp2_with fail
      refine HNN.out.mono ?_
      rintro e w2 ⟨rfl, hk2⟩
      obtain ⟨W, HW, hkN, hrN, hqN, hw2, hWs, hreW, hREP⟩ := HW0.out w2 hk2
      have hqb : w2.heap.size + 1 ≠ b := by omega
      have HKN := Lib.hid hkN
      have HRN := Lib.hid hrN
      have HQN := Lib.hid hqN
      have HREW := Lib.hid hreW
      have HREP := Lib.hid hREP
      clear hkN hrN hqN hreW hREP hk2
      go_upto_region 4 with (fail)
      rw [HW.out]
      have HSK := Lib.hid (skip_any HRN.out hpl (by omega))
      rw [HNX.out] at HSK
      have HEW := Lib.hid (HE.out.kp HKN.out (fun k hk => onB_not (by omega)))
      go_wp2_with fail
      refine HSK.out.mono ?_
      rintro e w4 ⟨rfl, hr4, hk4⟩
      have HTM := Lib.hid (rtimes_any hr4 (HEW.out.kp hk4 (fun k hk => onB_not (by omega))) hsz (by omega) (HQN.out.kp hk4 (onB_not hqb)) hqb (by omega))
      have HK4 := Lib.hid hk4
      clear hr4 hk4
      go_wp2_with fail
      refine HTM.out.mono ?_
      rintro e w5 ⟨rfl, hk5, hcase⟩
      have hkw5 : Kp (onB b) w w5 := (HKN.out.trans HK4.out).later hk5 fun i hi h => by rcases h with h | h; exact h; omega
      cases hcn : counted s (p + 1) with
      | ok y d =>
        rw [hcn] at hcase
        obtain ⟨hr5, hq5⟩ := hcase
        obtain ⟨mn, mx⟩ := y
        have hadv := counted_adv hcn (by omega)
        have HI2 : Hid (∀ r, Ev s (.partL (.mk 6 [] mn mx [t])) d o' r → Ev s .part a o' r) := Lib.hid fun r h => HI.out _ (Ev.partL_ok HC.out hcn h)
        have HR5 := Lib.hid hr5
        have hre5 := HREP.out w5 mn mx (HK4.out.two.trans hk5) hq5
        have R : Hid (Kp (onB b) w w5 ∧ QR eb es s b d o' none w5 ∧ IsRe w5 (fun k => w.heap.size ≤ k) (.pointer (some ⟨w2.heap.size + 1, 0, none⟩)) (.mk 6 [] mn mx [t]) ∧ Inv s .part a (.partL (.mk 6 [] mn mx [t])) d o' o' none (a < d)) := Lib.hid ⟨hkw5, hr5, hre5, .inl ⟨rfl, rfl, by omega, HI2.out⟩⟩
        clear hr5 hk5 hre5 hq5 hkw5 hcn
        go_wp2_with fail
        go_roundw
        case rel => exact ⟨_, d, none, o', by omega, by omega, Nat.le_refl _, by omega, R⟩
        case measure => rw [HR5.out.c1, hc1r.out]; simp only [intOf, Option.getD_some]; omega
      | er c d =>
        rw [hcn] at hcase
        obtain ⟨mn, mx, a', haa, has', hr5, hq5⟩ := hcase
        have HEV := Lib.hid (HI.out _ (Ev.partL_er HC.out hcn))
        have HR5 := Lib.hid hr5
        have hre5 := HREP.out w5 mn mx (HK4.out.two.trans hk5) hq5
        have R : Hid (Kp (onB b) w w5 ∧ QR eb es s b a' o' (some (c, d)) w5 ∧ IsRe w5 (fun k => w.heap.size ≤ k) (.pointer (some ⟨w2.heap.size + 1, 0, none⟩)) (.mk 6 [] mn mx [t]) ∧ Inv s .part a (.partL (.mk 6 [] mn mx [t])) a' o' o' (some (c, d)) (a < a')) := Lib.hid ⟨hkw5, hr5, hre5, .inr ⟨_, rfl, HEV.out⟩⟩
        clear hr5 hk5 hre5 hq5 hkw5 hcn
        go_wp2_with fail
        go_roundw
        case rel => exact ⟨_, a', _, o', by omega, by omega, Nat.le_refl _, by omega, R⟩
        case measure => rw [HR5.out.c1, hc1r.out]; simp only [intOf, Option.getD_some]; omega
    have t42 : (c == (42 : Int)) = false := beq_eq_false_iff_ne.2 h42
    have t43 : (c == (43 : Int)) = false := beq_eq_false_iff_ne.2 h43
    have t63 : (c == (63 : Int)) = false := beq_eq_false_iff_ne.2 h63
    have t123 : (c == (123 : Int)) = false := beq_eq_false_iff_ne.2 h123
    have HEV := Lib.hid (HI.out _ (Ev.partL_stop H2.out (by rw [HC.out]; exact h42) (by rw [HC.out]; exact h43) (by rw [HC.out]; exact h63) (by rw [HC.out]; exact h123)))
    clear h42 h43 h63 h123
    have HNN := Lib.hid HN.out
    go_wp2_with fail
    refine HNN.out.mono ?_
    rintro e w2 ⟨rfl, hk2⟩
    obtain ⟨W, HW, hkN, hrN, hqN, hw2, hWs, hreW, hREP⟩ := HW0.out w2 hk2
    have hqb : w2.heap.size + 1 ≠ b := by omega
    have HKN := Lib.hid hkN
    have HRN := Lib.hid hrN
    have HQN := Lib.hid hqN
    have HREW := Lib.hid hreW
    have HREP := Lib.hid hREP
    clear hkN hrN hqN hreW hREP hk2
    go_upto_region 4 with (fail)
    rw [HW.out]
    have R : Hid (TRS eb es s .part b a o' w (.returned (.pointer x)) W) := Lib.hid (trs_ok HREW.out HRN.out HKN.out hlt hps (by omega) HEV.out)
    go_wp2_with fail
    go_ret
    exact R.out
end
end Go.Proofs.YtoijabgcgdgacaaGreatDoor
