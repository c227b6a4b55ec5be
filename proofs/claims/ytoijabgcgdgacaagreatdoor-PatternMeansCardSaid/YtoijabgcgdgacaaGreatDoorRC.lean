/-
  WALKS, rk: the reference's reader: a sign eaten; a sign that must stand.
  WALKS, rl: the reference's reader: the number of an escape.
  WALKS, rm: the reference's reader: a code point, or an escape.
  WALKS, rn: the reference's reader: an escape; a code point whatever stands there. (Written by a program, gen_rn.py.)
  WALKS, ro: the reference's reader: a count.
-/
import Derived.Test.YtoijabgcgdgacaaGreatDoorRB
import Derived.Test.YtoijabgcgdgacaaGreatDoorRA
import Derived.Test.YtoijabgcgdgacaaGreatDoorGB
namespace Go.Proofs.YtoijabgcgdgacaaGreatDoor
open Go.RowKit Go.Proofs.Gram

section
variable {eb es : Addr} {s : ByteArray} {b a o : Nat} {st : Option (Nat × Nat)} {w : World}

theorem now_ok (h : QR eb es s b a o none w) (hs : s.size ≤ 65536) (x : Int) (hx : pk s a = x) (h2 : x ≠ -2) :
    Calls Tryz.prog 169 #[.pointer (some ⟨b, 0, none⟩)] w fun e w' => e = .returned (.int .i64 x) ∧ Kp noB w w' := by
  subst hx
  rcases Nat.lt_or_ge a s.size with ha | ha
  · exact (now_in h ha (by omega) h2).mono fun e w' ⟨he, q, hw⟩ => ⟨he, by rw [hw]; exact (Kp.refl _ _).drewN _⟩
  · rw [pk_end ha]
    exact (now_end h ha).mono fun e w' ⟨he, q, hw⟩ => ⟨he, by rw [hw]; exact (Kp.refl _ _).drewN _⟩
theorem now_old {x : Nat × Nat} (h : QR eb es s b a o (some x) w) : Calls Tryz.prog 169 #[.pointer (some ⟨b, 0, none⟩)] w fun e w' => e = .returned (.int .i64 (-1)) ∧ Kp noB w w' :=
  (now_bad h).mono fun e w' ⟨he, q, hw⟩ => ⟨he, by rw [hw]; exact (Kp.refl _ _).drewN _⟩

theorem nx_sign {c : Int} (h : pk s a = c) (h0 : 0 ≤ c) (h1 : c < 128) : nx s a = a + 1 := by
  obtain ⟨ha, _, hd⟩ := pk_ascii s a (by omega) (by omega)
  unfold nx
  rw [hd]

set_option maxRecDepth 100000 in
theorem eat_yes (c : Int) (h : QR eb es s b a o none w) (hs : s.size ≤ 65536) (h0 : 0 ≤ c) (h1 : c < 128) (hc : pk s a = c) :
    Calls Tryz.prog 116 #[.pointer (some ⟨b, 0, none⟩), .int .i64 c] w fun e w' => e = .returned (.bool true) ∧ Kp (onB b) w w' ∧ QR eb es s b (a + 1) o none w' := by
  have HN := Lib.hid (now_ok h hs c hc (by omega))
  have ha := pk_lt s a (by omega)
  have HX := Lib.hid (nx_sign hc h0 h1)
  have hb : (c != c) = false := by simp
  clear hc
  go_enter Tryz.func116, Tryz.ntmps116
  go_wp2_with fail
  refine HN.out.mono ?_
  rintro e w1 ⟨rfl, hk1⟩
  have HS := Lib.hid (skip_any (h.kp hk1 (noB_not _)) ha (by omega))
  go_wp2_with fail
  refine HS.out.mono ?_
  rintro e w2 ⟨rfl, hq2, hk2⟩
  rw [HX.out] at hq2
  go_wp2_with fail
  go_ret
  exact ⟨rfl, hk1.any.trans hk2, hq2⟩

set_option maxRecDepth 100000 in
theorem eat_no (c : Int) (h : QR eb es s b a o none w) (hs : s.size ≤ 65536) (h2 : pk s a ≠ -2) (hc : pk s a ≠ c) :
    Calls Tryz.prog 116 #[.pointer (some ⟨b, 0, none⟩), .int .i64 c] w fun e w' => e = .returned (.bool false) ∧ Kp noB w w' := by
  have hn := now_ok h hs _ rfl h2
  generalize pk s a = x at hn hc h2
  have HN := Lib.hid hn
  have hb : (x != c) = true := bne_iff_ne.2 hc
  clear hc h2 hn
  go_enter Tryz.func116, Tryz.ntmps116
  go_wp2_with fail
  refine HN.out.mono ?_
  rintro e w1 ⟨rfl, hk1⟩
  go_wp2_with fail
  go_ret
  exact ⟨rfl, hk1⟩

set_option maxRecDepth 100000 in
theorem eat_hurt (c : Int) (h : QR eb es s b a o none w) (hE : Env 406 eb es w) (hs : s.size ≤ 65536) (h0 : 0 ≤ c) (h2 : pk s a = -2) :
    Calls Tryz.prog 116 #[.pointer (some ⟨b, 0, none⟩), .int .i64 c] w fun e w' => e = .returned (.bool false) ∧ Kp (onB b) w w' ∧ QR eb es s b a o (some (1, a)) w' := by
  have HN := Lib.hid (now_hurt h hE (by omega) h2)
  have hb : ((-1 : Int) != c) = true := bne_iff_ne.2 (by omega)
  clear h2
  go_enter Tryz.func116, Tryz.ntmps116
  go_wp2_with fail
  refine HN.out.mono ?_
  rintro e w1 ⟨rfl, hq1, hk1⟩
  go_wp2_with fail
  go_ret
  exact ⟨rfl, hk1, hq1⟩

set_option maxRecDepth 100000 in
theorem eat_old (c : Int) {x : Nat × Nat} (h : QR eb es s b a o (some x) w) (h0 : 0 ≤ c) :
    Calls Tryz.prog 116 #[.pointer (some ⟨b, 0, none⟩), .int .i64 c] w fun e w' => e = .returned (.bool false) ∧ Kp noB w w' := by
  have HN := Lib.hid (now_old h)
  have hb : ((-1 : Int) != c) = true := bne_iff_ne.2 (by omega)
  clear h
  go_enter Tryz.func116, Tryz.ntmps116
  go_wp2_with fail
  refine HN.out.mono ?_
  rintro e w1 ⟨rfl, hk1⟩
  go_wp2_with fail
  go_ret
  exact ⟨rfl, hk1⟩

set_option maxRecDepth 100000 in
theorem need_yes (c : Int) (h : QR eb es s b a o none w) (hs : s.size ≤ 65536) (h0 : 0 ≤ c) (h1 : c < 128) (hc : pk s a = c) :
    Calls Tryz.prog 291 #[.pointer (some ⟨b, 0, none⟩), .int .i64 c] w fun e w' => e = .returned (.tuple #[]) ∧ Kp (onB b) w w' ∧ QR eb es s b (a + 1) o none w' := by
  have HN := Lib.hid (eat_yes c h hs h0 h1 hc)
  clear hc h
  go_enter Tryz.func291, Tryz.ntmps291
  go_wp2_with fail
  refine HN.out.mono ?_
  rintro e w1 ⟨rfl, hk1, hq1⟩
  go_wp2_with fail
  go_end0
  exact ⟨rfl, hk1, hq1⟩

set_option maxRecDepth 100000 in
theorem need_old (c : Int) {x : Nat × Nat} (h : QR eb es s b a o (some x) w) (hE : Env 406 eb es w) (h0 : 0 ≤ c) :
    Calls Tryz.prog 291 #[.pointer (some ⟨b, 0, none⟩), .int .i64 c] w fun e w' => e = .returned (.tuple #[]) ∧ Kp noB w w' := by
  have HN := Lib.hid (eat_old c h h0)
  go_enter Tryz.func291, Tryz.ntmps291
  go_wp2_with fail
  refine HN.out.mono ?_
  rintro e w1 ⟨rfl, hk1⟩
  have hq1 := h.kp hk1 (noB_not _)
  have g1 := hq1.c1
  have g2 := (hE.kp hk1 (fun k _ => noB_not _)).syn
  have HF : Hid (∀ ev p, Calls Tryz.prog 58 #[.pointer (some ⟨b, 0, none⟩), ev, .int .i64 p] w1.drew fun e w' => e = .returned (.tuple #[]) ∧ w' = w1.drew) := Lib.hid fun ev p => rfail_old (w := w1.drew) (hq1.kp ((Kp.refl _ _).drew) (noB_not _)) ev p
  clear h hE hq1
  go_wp2_with fail
  go_still_tail 6, (by kernel_rfl)
  change wpList _ _ _ _ _ w1.drew
  go_wp2_with fail
  refine (HF.out _ _).mono ?_
  rintro e w2 ⟨rfl, rfl⟩
  go_wp2_with fail
  go_end0
  exact ⟨rfl, hk1.drew⟩

set_option maxRecDepth 100000 in
theorem need_er (c : Int) (h : QR eb es s b a o none w) (hE : Env 406 eb es w) (hs : s.size ≤ 65536) (h0 : 0 ≤ c) (hc : pk s a ≠ c) :
    Calls Tryz.prog 291 #[.pointer (some ⟨b, 0, none⟩), .int .i64 c] w fun e w' => e = .returned (.tuple #[]) ∧ Kp (onB b) w w' ∧ QR eb es s b a o (some (1, a)) w' := by
  have hfar := h.far
  by_cases h2 : pk s a = -2
  · have HN := Lib.hid (eat_hurt c h hE hs h0 h2)
    clear h2 hc
    go_enter Tryz.func291, Tryz.ntmps291
    go_wp2_with fail
    refine HN.out.mono ?_
    rintro e w1 ⟨rfl, hk1, hq1⟩
    have g1 := hq1.c1
    have g2 := (hE.kp hk1 (fun k _ => onB_not (by omega))).syn
    have HQ := Lib.hid (hq1.kp ((Kp.refl noB w1).drew) (noB_not _))
    have HF : Hid (∀ ev p, Calls Tryz.prog 58 #[.pointer (some ⟨b, 0, none⟩), ev, .int .i64 p] w1.drew fun e w' => e = .returned (.tuple #[]) ∧ w' = w1.drew) := Lib.hid fun ev p => rfail_old (w := w1.drew) HQ.out ev p
    clear h hE hq1
    go_wp2_with fail
    go_still_tail 6, (by kernel_rfl)
    change wpList _ _ _ _ _ w1.drew
    go_wp2_with fail
    refine (HF.out _ _).mono ?_
    rintro e w2 ⟨rfl, rfl⟩
    go_wp2_with fail
    go_end0
    exact ⟨rfl, hk1.drew, HQ.out⟩
  · have HN := Lib.hid (eat_no c h hs h2 hc)
    clear h2 hc
    go_enter Tryz.func291, Tryz.ntmps291
    go_wp2_with fail
    refine HN.out.mono ?_
    rintro e w1 ⟨rfl, hk1⟩
    have hq1 := h.kp hk1 (noB_not _)
    have g1 := hq1.c1
    have g2 := (hE.kp hk1 (fun k _ => noB_not _)).syn
    have HF : Hid (Calls Tryz.prog 58 #[.pointer (some ⟨b, 0, none⟩), .iface 406 (.pointer (some es)), .int .i64 a] w1.drew fun e w' => e = .returned (.tuple #[]) ∧ QR eb es s b a o (some (1, a)) w' ∧ Kp (onB b) w1.drew w') := Lib.hid (rfail_new (hq1.kp ((Kp.refl noB w1).drew) (noB_not _)) 1 a)
    clear h hE hq1
    go_wp2_with fail
    go_still_tail 6, (by kernel_rfl)
    change wpList _ _ _ _ _ w1.drew
    go_wp2_with fail
    refine HF.out.mono ?_
    rintro e w2 ⟨rfl, hq2, hk2⟩
    go_wp2_with fail
    go_end0
    exact ⟨rfl, hk1.drew.any.trans hk2, hq2⟩
end
end Go.Proofs.YtoijabgcgdgacaaGreatDoor

namespace Go.Proofs.YtoijabgcgdgacaaGreatDoor
open Go.RowKit Go.Proofs.Gram

theorem hexI_cases (b : UInt8) : (hexI b = -1 ∧ hexv b = none) ∨ ∃ d : Nat, d ≤ 15 ∧ hexI b = d ∧ hexv b = some d := by
  unfold hexI
  cases h : hexv b with
  | none => exact .inl ⟨rfl, rfl⟩
  | some d =>
    refine .inr ⟨d, ?_, rfl, rfl⟩
    unfold hexv at h
    repeat' split at h
    all_goals first
      | (cases h; done)
      | (cases h; omega)

def DigE (eb es : Addr) (s : ByteArray) (b a o frm : Nat) (w : World) (e : Ending) (w' : World) : Prop :=
  match numb s frm a with
  | .ok n p => e = .returned (.int .i64 n) ∧ Kp (onB b) w w' ∧ QR eb es s b p o none w'
  | .er c p => e = .returned (.int .i64 0) ∧ Kp (onB b) w w' ∧ QR eb es s b a o (some (c, p)) w'

section
variable {eb es : Addr} {s : ByteArray} {b a o frm : Nat} {w : World}

theorem dig_er (h : numb s frm a = .er 1 frm) (e : Ending) (w' : World) (hh : e = .returned (.int .i64 0) ∧ Kp (onB b) w w' ∧ QR eb es s b a o (some (1, frm)) w') : DigE eb es s b a o frm w e w' := by
  unfold DigE
  rw [h]
  exact hh
theorem dig_ok {n p : Nat} (h : numb s frm a = .ok n p) (e : Ending) (w' : World) (hh : e = .returned (.int .i64 n) ∧ Kp (onB b) w w' ∧ QR eb es s b p o none w') : DigE eb es s b a o frm w e w' := by
  unfold DigE
  rw [h]
  exact hh

set_option maxRecDepth 100000 in
set_option maxHeartbeats 1000000 in
theorem digits_any (h : QR eb es s b a o none w) (hE : Env 406 eb es w) (hs : s.size ≤ 65536) (ha : a ≤ s.size) :
    Calls Tryz.prog 306 #[.pointer (some ⟨b, 0, none⟩), .int .i64 frm] w (DigE eb es s b a o frm w) := by
  have h0 := h.c0
  have h1 := h.c1
  have hz := h.z 1
  have hsy := hE.syn
  have HQ := Lib.hid h
  have HF : Hid (∀ W, Kp noB w W → Calls Tryz.prog 58 #[.pointer (some ⟨b, 0, none⟩), .iface 406 (.pointer (some es)), .int .i64 frm] W fun e w' => e = .returned (.tuple #[]) ∧ QR eb es s b a o (some (1, frm)) w' ∧ Kp (onB b) w w') := Lib.hid fun W hk => (rfail_new (HQ.out.kp hk (noB_not _)) 1 frm).mono fun e w' ⟨he, hq, hk'⟩ => ⟨he, hq, hk.any.trans hk'⟩
  have hw1 : IntKind.i64.wrap ((a : Int) + 1) = (a : Int) + 1 := by rw [IntKind.wrap_i64]; omega
  clear h hE
  by_cases hge : s.size ≤ a
  · have hb : decide (s.size ≤ a) = true := decide_eq_true hge
    have HN : Hid (numb s frm a = .er 1 frm) := Lib.hid (by unfold numb; rw [dif_neg (by omega)])
    clear hge
    go_enter Tryz.func306, Tryz.ntmps306
    go_wp2_with fail
    go_quiet (fail)
    go_wp2_with fail
    refine (HF.out _ ((Kp.refl _ _).drewN _)).mono ?_
    rintro e w1 ⟨rfl, hq1, hk1⟩
    go_wp2_with fail
    go_ret
    exact dig_er HN.out _ _ ⟨rfl, hk1, hq1⟩
  have hb : decide (s.size ≤ a) = false := decide_eq_false (by omega)
  have hlt : a < s.size := by omega
  clear hge
  have hai : (a : Int) < (s.size : Int) := by omega
  by_cases h123 : s[a] ≠ 123
  · have hb2 : ((s[a].toNat : Int) != 123) = true := bne_iff_ne.2 fun hh => h123 (UInt8.toNat_inj.1 (by simpa using (show s[a].toNat = 123 by omega)))
    have HN : Hid (numb s frm a = .er 1 frm) := Lib.hid (by unfold numb; rw [dif_pos hlt, if_neg h123])
    clear h123
    go_enter Tryz.func306, Tryz.ntmps306
    go_wp2_with fail
    go_quiet (fail)
    go_wp2_with fail
    refine (HF.out _ ((Kp.refl _ _).drewN _)).mono ?_
    rintro e w1 ⟨rfl, hq1, hk1⟩
    go_wp2_with fail
    go_ret
    exact dig_er HN.out _ _ ⟨rfl, hk1, hq1⟩
  have h123 : s[a] = 123 := Classical.not_not.1 h123
  have hb2 : ((s[a].toNat : Int) != 123) = false := by rw [h123]; rfl
  have HN : Hid (numb s frm a = hexs s frm 7 (a + 1) 0 0) := Lib.hid (by unfold numb; rw [dif_pos hlt, if_pos h123])
  clear h123
  go_enter Tryz.func306, Tryz.ntmps306
  go_wp2_with fail
  go_quiet (fail)
  have hk0 : Kp noB w (w.drewN nq) := (Kp.refl _ _).drewN _
  have h0' : (w.drewN nq).cell? ⟨b, 0, none⟩ = some (.string s) := h0
  have h1' : (w.drewN nq).cell? ⟨b, 1, none⟩ = some (.int .i64 a) := h1
  have hz' : (w.drewN nq).frozen? ⟨b, 1, none⟩ = false := hz
  have hsy' : (w.drewN nq).cell? ⟨1, 0, none⟩ = some (.iface 406 (.pointer (some es))) := hsy
  have HK0 := Lib.hid hk0
  clear h0 h1 hz hsy hk0
  obtain ⟨W, HW⟩ : ∃ W, Hid (w.drewN nq = W) := ⟨_, Lib.hid rfl⟩
  rw [HW.out] at h0' h1' hz' hsy' HK0 ⊢
  go_wp2_with fail
  go_loop [5, 6, 7] (fun n kk i => ∃ k m p : Nat, k ≤ 7 ∧ p ≤ s.size ∧ Hid (p = a + 1 + k) ∧ n = .int .i64 m ∧ kk = .int .i64 k ∧ i = .int .i64 p ∧ m < 16 ^ k ∧ Hid (hexs s frm 7 (a + 1) 0 0 = hexs s frm (7 - k) p k m)) (fun _ kk _ => 8 - (intOf kk).toNat)
  case atStart => exact ⟨0, 0, a + 1, by omega, by omega, Lib.hid rfl, rfl, rfl, by simp, by simp, Lib.hid rfl⟩
  case round =>
    obtain ⟨k, m, p, hk7, hks, HP, rfl, rfl, rfl, hm, HX⟩ := hrel
    have hpw : 16 ^ k ≤ 268435456 := Nat.le_trans (Nat.pow_le_pow_right (by omega) hk7) (by decide)
    have HMI : Hid ((m : Int) < 268435456) := Lib.hid (by omega)
    have HM := Lib.hid hm
    clear hm hpw
    have hfail : Hid (hexs s frm (7 - k) (p) k m = .er 1 frm → numb s frm a = .er 1 frm) := Lib.hid fun h => by rw [HN.out, HX.out, h]
    by_cases hig : s.size ≤ p
    · have hb3 : decide (p < s.size) = false := decide_eq_false (by omega)
      have hb5 : decide (s.size ≤ p) = true := decide_eq_true hig
      have R : Hid (numb s frm a = .er 1 frm) := Lib.hid (hfail.out (by
        rcases Nat.lt_or_ge k 7 with h | h
        · rw [show 7 - k = (7 - (k + 1)) + 1 from by omega, hexs, dif_neg (by omega)]
        · rw [show 7 - k = 0 from by omega, hexs]))
      have hcs : decide ((k : Int) < 1) = true ∨ decide ((k : Int) < 1) = false ∧ (decide ((6 : Int) < k) = true ∨ decide ((6 : Int) < k) = false ∧ (decide ((1114111 : Int) < m) = true ∨ decide ((1114111 : Int) < m) = false)) := by
        by_cases g1 : k < 1
        · exact .inl (decide_eq_true (by omega))
        · refine .inr ⟨decide_eq_false (by omega), ?_⟩
          by_cases g2 : 6 < k
          · exact .inl (decide_eq_true (by omega))
          · refine .inr ⟨decide_eq_false (by omega), ?_⟩
            by_cases g3 : 1114111 < m
            · exact .inl (decide_eq_true (by omega))
            · exact .inr (decide_eq_false (by omega))
      clear hig hk7
      rcases hcs with c1 | ⟨c1, c2 | ⟨c2, c3 | c3⟩⟩
      all_goals
        go_wp2_with fail
        refine (HF.out W HK0.out).mono ?_
        rintro e w1 ⟨rfl, hq1, hk1⟩
        go_wp2_with fail
        go_ret
        exact dig_er R.out _ _ ⟨rfl, hk1, hq1⟩
    have hil : p < s.size := by omega
    have hb3 : decide (p < s.size) = true := decide_eq_true hil
    have hb5 : decide (s.size ≤ p) = false := decide_eq_false (by omega)
    clear hig
    by_cases hk6 : 6 < k
    · have hb4 : decide ((k : Int) ≤ 6) = false := decide_eq_false (by omega)
      have c1 : decide ((k : Int) < 1) = false := decide_eq_false (by omega)
      have c2 : decide ((6 : Int) < k) = true := decide_eq_true (by omega)
      have R : Hid (numb s frm a = .er 1 frm) := Lib.hid (hfail.out (by rw [show 7 - k = 0 from by omega, hexs]))
      clear hk6 hk7
      go_wp2_with fail
      refine (HF.out W HK0.out).mono ?_
      rintro e w1 ⟨rfl, hq1, hk1⟩
      go_wp2_with fail
      go_ret
      exact dig_er R.out _ _ ⟨rfl, hk1, hq1⟩
    have hb4 : decide ((k : Int) ≤ 6) = true := decide_eq_true (by omega)
    have c2 : decide ((6 : Int) < k) = false := decide_eq_false (by omega)
    have hstep : hexs s frm (7 - k) (p) k m = match hexv (s[p]'hil) with
        | some d => hexs s frm (7 - (k + 1)) (p + 1) (k + 1) (m * 16 + d)
        | none => if s[p]'hil = 125 ∧ 1 ≤ k ∧ m ≤ 0x10FFFF then .ok m (p + 1) else .er 1 frm := by
      rw [show 7 - k = (7 - (k + 1)) + 1 from by omega, hexs, dif_pos hil]
      rfl
    have HST := Lib.hid hstep
    have HH := Lib.hid (fun W => hex_any (s[p]'hil) W)
    have hcase := hexI_cases (s[p]'hil)
    generalize hexI (s[p]'hil) = x at HH hcase
    clear hstep
    rcases hcase with ⟨rfl, hv⟩ | ⟨d, hd, rfl, hv⟩
    · have HV := Lib.hid hv
      clear hv
      by_cases hgood : s[p]'hil = 125 ∧ 1 ≤ k ∧ m ≤ 0x10FFFF
      · have c1 : decide ((k : Int) < 1) = false := decide_eq_false (by omega)
        have c3 : decide ((1114111 : Int) < m) = false := decide_eq_false (by omega)
        have c4 : (((s[p]'hil).toNat : Int) != 125) = false := by rw [hgood.1]; rfl
        have R : Hid (numb s frm a = .ok m (p + 1)) := Lib.hid (by rw [HN.out, HX.out, HST.out, HV.out]; simp only; rw [if_pos hgood])
        have R2 : Hid (QR eb es s b (p + 1) o none (W.setCell ⟨b, 1, none⟩ (.int .i64 ((p : Int) + 1))) ∧ Kp (onB b) w (W.setCell ⟨b, 1, none⟩ (.int .i64 ((p : Int) + 1)))) := Lib.hid (by
          refine ⟨?_, HK0.out.any.setCell (F := onB b) (p := ⟨b, 1, none⟩) (.inl (onB_self b)) _⟩
          have := (HQ.out.kp HK0.out (noB_not _)).at (p + 1)
          rwa [show ((p + 1 : Nat) : Int) = (p : Int) + 1 from by omega] at this)
        clear hgood hk6 hk7
        go_wp2_with fail
        refine (HH.out _).mono ?_
        rintro e w1 ⟨rfl, rfl⟩
        go_wp2_with fail
        go_ret
        exact dig_ok R.out _ _ ⟨rfl, R2.out.2, R2.out.1⟩
      · have R : Hid (numb s frm a = .er 1 frm) := Lib.hid (hfail.out (by rw [HST.out, HV.out]; simp only; rw [if_neg hgood]))
        have hcs : decide ((k : Int) < 1) = true ∨ decide ((k : Int) < 1) = false ∧ (decide ((1114111 : Int) < m) = true ∨ decide ((1114111 : Int) < m) = false ∧ (((s[p]'hil).toNat : Int) != 125) = true) := by
          by_cases g1 : k < 1
          · exact .inl (decide_eq_true (by omega))
          · refine .inr ⟨decide_eq_false (by omega), ?_⟩
            by_cases g3 : 1114111 < m
            · exact .inl (decide_eq_true (by omega))
            · refine .inr ⟨decide_eq_false (by omega), bne_iff_ne.2 fun hh => hgood ⟨UInt8.toNat_inj.1 (by simpa using (show (s[p]'hil).toNat = 125 by omega)), by omega, by omega⟩⟩
        clear hgood hk6 hk7
        rcases hcs with c1 | ⟨c1, c3 | ⟨c3, c4⟩⟩
        all_goals
          go_wp2_with fail
          refine (HH.out _).mono ?_
          rintro e w1 ⟨rfl, rfl⟩
          go_wp2_with fail
          refine (HF.out w1 HK0.out).mono ?_
          rintro e w2 ⟨rfl, hq1, hk1⟩
          go_wp2_with fail
          go_ret
          exact dig_er R.out _ _ ⟨rfl, hk1, hq1⟩
    · have HV := Lib.hid hv
      clear hv
      have hdb : decide ((d : Int) < 0) = false := decide_eq_false (by omega)
      have R : Hid (hexs s frm 7 (a + 1) 0 0 = hexs s frm (7 - (k + 1)) (p + 1) (k + 1) (m * 16 + d)) := Lib.hid (by rw [HX.out, HST.out, HV.out])
      have HMM : Hid (m * 16 + d < 16 ^ (k + 1)) := Lib.hid (by have := HM.out; rw [Nat.pow_succ]; omega)
      have hkk : k + 1 ≤ 7 := by omega
      have hm1 : IntKind.i64.wrap ((m : Int) * 16) = (m : Int) * 16 := by have := HMI.out; rw [IntKind.wrap_i64]; omega
      have hm2 : IntKind.i64.wrap ((m : Int) * 16 + d) = (m : Int) * 16 + d := by have := HMI.out; rw [IntKind.wrap_i64]; omega
      clear hk6 hk7
      go_wp2_with fail
      refine (HH.out _).mono ?_
      rintro e w1 ⟨rfl, rfl⟩
      go_wp2_with fail
      go_round
      case rel => exact ⟨k + 1, m * 16 + d, p + 1, hkk, by omega, Lib.hid (by rw [HP.out]; omega), by go_num, by go_num, by go_num, HMM.out, R⟩
      case measure => simp [intOf]; omega
end
end Go.Proofs.YtoijabgcgdgacaaGreatDoor

namespace Go.Proofs.YtoijabgcgdgacaaGreatDoor
open Go.RowKit Go.Proofs.Gram

/-- How reading a point ends. -/
def PtR (eb es : Addr) (s : ByteArray) (bl : List Int) (b a o : Nat) (w : World) (e : Ending) (w' : World) : Prop :=
  match point s bl a with
  | .ok c p => e = .returned (.int .i64 c) ∧ Kp (onB b) w w' ∧ QR eb es s b p o none w'
  | .er c p => e = .returned (.int .i64 0) ∧ Kp (onB b) w w' ∧ ∃ a', a ≤ a' ∧ a' ≤ s.size ∧ QR eb es s b a' o (some (c, p)) w'

section
variable {eb es : Addr} {s : ByteArray} {bl : List Int} {b a o : Nat} {w : World} {S : ByteArray}

theorem pt_ok' {x : Int} {p : Nat} (h : point s bl a = .ok x p) (e : Ending) (w' : World) (hh : e = .returned (.int .i64 x) ∧ Kp (onB b) w w' ∧ QR eb es s b p o none w') : PtR eb es s bl b a o w e w' := by
  unfold PtR
  rw [h]
  exact hh
theorem pt_er' {c p : Nat} (h : point s bl a = .er c p) (e : Ending) (w' : World) (a' : Nat) (h1 : a ≤ a') (h2 : a' ≤ s.size) (hh : e = .returned (.int .i64 0) ∧ Kp (onB b) w w' ∧ QR eb es s b a' o (some (c, p)) w') : PtR eb es s bl b a o w e w' := by
  unfold PtR
  rw [h]
  exact ⟨hh.1, hh.2.1, a', h1, h2, hh.2.2⟩

set_option maxRecDepth 100000 in
/-- Where something was wrong: nothing is done. -/
theorem rpoint_old (S : ByteArray) (hS : S.size ≤ 1000) {x : Nat × Nat} (h : QR eb es s b a o (some x) w) (hE : Env 406 eb es w) :
    Calls Tryz.prog 289 #[.pointer (some ⟨b, 0, none⟩), .string S] w fun e w' => e = .returned (.int .i64 0) ∧ Kp noB w w' := by
  have HN := Lib.hid (now_old h)
  have HW := Lib.hid (fun W => rwithin_any S hS (-1) W)
  generalize inB S (-1) = y at HW
  have HQ := Lib.hid h
  have HE := Lib.hid hE
  have hb : decide ((-1 : Int) < 0) = true := rfl
  clear h hE
  go_enter Tryz.func289, Tryz.ntmps289
  go_wp2_with fail
  refine HN.out.mono ?_
  rintro e w1 ⟨rfl, hk1⟩
  have g1 := (HQ.out.kp hk1 (noB_not _)).c1
  have g2 := (HE.out.kp hk1 (fun k _ => noB_not _)).syn
  have HF : Hid (∀ ev p, Calls Tryz.prog 58 #[.pointer (some ⟨b, 0, none⟩), ev, .int .i64 p] w1.drew fun e w' => e = .returned (.tuple #[]) ∧ w' = w1.drew) := Lib.hid fun ev p => rfail_old (w := w1.drew) (HQ.out.kp (hk1.drew) (noB_not _)) ev p
  go_wp2_with fail
  refine (HW.out _).mono ?_
  rintro e w2 ⟨rfl, rfl⟩
  go_wp2_with fail
  go_still_tail 6, (by kernel_rfl)
  change wpList _ _ _ _ _ w2.drew
  go_wp2_with fail
  refine (HF.out _ _).mono ?_
  rintro e w3 ⟨rfl, rfl⟩
  go_wp2_with fail
  go_ret
  exact ⟨rfl, hk1.drew⟩

set_option maxRecDepth 100000 in
theorem rpoint_hurt (hS : S.size ≤ 1000) (h : QR eb es s b a o none w) (hE : Env 406 eb es w) (hs : s.size ≤ 65536) (h2 : pk s a = -2) :
    Calls Tryz.prog 289 #[.pointer (some ⟨b, 0, none⟩), .string S] w (PtR eb es s bl b a o w) := by
  have HN := Lib.hid (now_hurt h hE (by omega) h2)
  have HW := Lib.hid (fun W => rwithin_any S hS (-1) W)
  have HP : Hid (point s bl a = .er 1 a) := Lib.hid (by unfold point; simp only; rw [if_pos (.inl (by omega))])
  have ha := (pk_bad h2).1
  generalize inB S (-1) = y at HW
  have hfar := h.far
  have HE := Lib.hid hE
  have hb : decide ((-1 : Int) < 0) = true := rfl
  clear h hE h2
  go_enter Tryz.func289, Tryz.ntmps289
  go_wp2_with fail
  refine HN.out.mono ?_
  rintro e w1 ⟨rfl, hq1, hk1⟩
  have g1 := hq1.c1
  have g2 := (HE.out.kp hk1 (fun k _ => onB_not (by omega))).syn
  have HQ := Lib.hid (hq1.kp ((Kp.refl noB w1).drew) (noB_not _))
  have HF : Hid (∀ ev p, Calls Tryz.prog 58 #[.pointer (some ⟨b, 0, none⟩), ev, .int .i64 p] w1.drew fun e w' => e = .returned (.tuple #[]) ∧ w' = w1.drew) := Lib.hid fun ev p => rfail_old (w := w1.drew) HQ.out ev p
  clear hq1
  go_wp2_with fail
  refine (HW.out _).mono ?_
  rintro e w2 ⟨rfl, rfl⟩
  go_wp2_with fail
  go_still_tail 6, (by kernel_rfl)
  change wpList _ _ _ _ _ w2.drew
  go_wp2_with fail
  refine (HF.out _ _).mono ?_
  rintro e w3 ⟨rfl, rfl⟩
  go_wp2_with fail
  go_ret
  exact pt_er' HP.out _ _ a (Nat.le_refl _) (by omega) ⟨rfl, hk1.drew, HQ.out⟩

set_option maxRecDepth 100000 in
theorem rpoint_barred (hS : S.size ≤ 1000) (hbl : ∀ c : Int, inB S c = true ↔ c ∈ bl) (h : QR eb es s b a o none w) (hE : Env 406 eb es w) (hs : s.size ≤ 65536) (ha : a ≤ s.size) (h2 : pk s a ≠ -2) (hx : pk s a < 0 ∨ pk s a ∈ bl) :
    Calls Tryz.prog 289 #[.pointer (some ⟨b, 0, none⟩), .string S] w (PtR eb es s bl b a o w) := by
  have hN := now_ok h hs _ rfl h2
  have HP : Hid (point s bl a = .er 1 a) := Lib.hid (by unfold point; simp only; rw [if_pos hx])
  have hW := fun W => rwithin_any S hS (pk s a) W
  have hbl' := hbl (pk s a)
  generalize pk s a = x at hN hW hx hbl'
  generalize inB S x = y at hW hbl'
  have hc : decide (x < 0) = true ∨ decide (x < 0) = false ∧ y = true := by
    by_cases h : x < 0
    · exact .inl (decide_eq_true h)
    · exact .inr ⟨decide_eq_false h, hbl'.2 (hx.resolve_left h)⟩
  have HN := Lib.hid hN
  have HW := Lib.hid hW
  have HQ := Lib.hid h
  have HE := Lib.hid hE
  have hfar := h.far
  clear h hE h2 hx hN hW hbl'
  rcases hc with hb | ⟨hb, rfl⟩
  all_goals
    go_enter Tryz.func289, Tryz.ntmps289
    go_wp2_with fail
    refine HN.out.mono ?_
    rintro e w1 ⟨rfl, hk1⟩
    have g1 := (HQ.out.kp hk1 (noB_not _)).c1
    have g2 := (HE.out.kp hk1 (fun k _ => noB_not _)).syn
    have HF : Hid (Calls Tryz.prog 58 #[.pointer (some ⟨b, 0, none⟩), .iface 406 (.pointer (some es)), .int .i64 a] w1.drew fun e w' => e = .returned (.tuple #[]) ∧ QR eb es s b a o (some (1, a)) w' ∧ Kp (onB b) w1.drew w') := Lib.hid (rfail_new (HQ.out.kp hk1.drew (noB_not _)) 1 a)
    go_wp2_with fail
    refine (HW.out _).mono ?_
    rintro e w2 ⟨rfl, rfl⟩
    go_wp2_with fail
    go_still_tail 6, (by kernel_rfl)
    change wpList _ _ _ _ _ w2.drew
    go_wp2_with fail
    refine HF.out.mono ?_
    rintro e w3 ⟨rfl, hq3, hk3⟩
    go_wp2_with fail
    go_ret
    exact pt_er' HP.out _ _ a (Nat.le_refl _) ha ⟨rfl, hk1.drew.any.trans hk3, hq3⟩

set_option maxRecDepth 100000 in
theorem rpoint_plain (hS : S.size ≤ 1000) (hbl : ∀ c : Int, inB S c = true ↔ c ∈ bl) (h : QR eb es s b a o none w) (hs : s.size ≤ 65536) (h0 : 0 ≤ pk s a) (hx : pk s a ∉ bl) (h92 : pk s a ≠ 92) :
    Calls Tryz.prog 289 #[.pointer (some ⟨b, 0, none⟩), .string S] w (PtR eb es s bl b a o w) := by
  have hN := now_ok h hs _ rfl (by omega)
  have ha := pk_lt s a (by omega)
  have hP : point s bl a = .ok (pk s a) (nx s a) := by unfold point; simp only; rw [if_neg (fun h => h.elim (fun h => by omega) hx), if_pos h92]
  have hW := fun W => rwithin_any S hS (pk s a) W
  have hbl' := hbl (pk s a)
  generalize pk s a = x at hN hW hx hbl' h0 h92 hP
  have hy : inB S x = false := by
    cases hh : inB S x
    · rfl
    · exact absurd (hbl'.1 hh) hx
  rw [hy] at hW
  have hb : decide (x < 0) = false := decide_eq_false (by omega)
  have hb2 : (x != (92 : Int)) = true := bne_iff_ne.2 h92
  have HN := Lib.hid hN
  have HW := Lib.hid hW
  have HQ := Lib.hid h
  have HP := Lib.hid hP
  clear h hx hN hW hbl' h0 h92 hP hy
  go_enter Tryz.func289, Tryz.ntmps289
  go_wp2_with fail
  refine HN.out.mono ?_
  rintro e w1 ⟨rfl, hk1⟩
  have hq1 := HQ.out.kp hk1 (noB_not _)
  have g1 := hq1.c1
  have HSK := Lib.hid (skip_any hq1 ha (by omega))
  clear hq1
  go_wp2_with fail
  refine (HW.out _).mono ?_
  rintro e w2 ⟨rfl, rfl⟩
  go_wp2_with fail
  refine HSK.out.mono ?_
  rintro e w3 ⟨rfl, hq3, hk3⟩
  go_wp2_with fail
  go_ret
  exact pt_ok' HP.out _ _ ⟨rfl, hk1.any.trans hk3, hq3⟩
end
end Go.Proofs.YtoijabgcgdgacaaGreatDoor

namespace Go.Proofs.YtoijabgcgdgacaaGreatDoor
open Go.RowKit Go.Proofs.Gram

def escR : ByteArray := ⟨#[124, 38, 42, 43, 63, 123, 125, 126, 40, 41, 91, 93, 46, 92, 45, 94, 34, 39, 32]⟩
def outR : ByteArray := ⟨#[124, 38, 42, 43, 63, 123, 125, 126, 40, 41, 91, 93, 46]⟩
def insR : ByteArray := ⟨#[91, 93, 45, 94]⟩

theorem inB_iff (S : ByteArray) (l : List Int) (h : S.data.toList.map (fun x => (x.toNat : Int)) = l) (c : Int) : inB S c = true ↔ c ∈ l := by
  rw [← h, List.mem_map]
  unfold inB
  rw [List.any_eq_true]
  simp only [beq_iff_eq]
theorem esc_iff (c : Int) : inB escR c = true ↔ c ∈ escs := inB_iff escR escs rfl c
theorem out_iff (c : Int) : inB outR c = true ↔ c ∈ outs := inB_iff outR outs rfl c
theorem ins_iff (c : Int) : inB insR c = true ↔ c ∈ ins := inB_iff insR ins rfl c

section
variable {eb es : Addr} {s : ByteArray} {bl : List Int} {b a o : Nat} {w : World} {S : ByteArray}

set_option maxRecDepth 100000 in
theorem resc_hurt (hS : S.size ≤ 1000) (hbl : ∀ c : Int, inB S c = true ↔ c ∈ bl) (h : QR eb es s b a o none w) (hE : Env 406 eb es w) (hs : s.size ≤ 65536) (h92 : pk s a = 92) (hno : (92 : Int) ∉ bl) (h2 : pk s (a + 1) = -2) :
    Calls Tryz.prog 289 #[.pointer (some ⟨b, 0, none⟩), .string S] w (PtR eb es s bl b a o w) := by
  have HN := Lib.hid (now_ok h hs 92 h92 (by omega))
  have ha := pk_lt s a (by omega)
  have hW := fun W => rwithin_any S hS 92 W
  have hy : inB S 92 = false := by
    cases hh : inB S 92
    · rfl
    · exact absurd ((hbl 92).1 hh) hno
  rw [hy] at hW
  have HW := Lib.hid hW
  have hb : decide ((92 : Int) < 0) = false := rfl
  have hb2 : ((92 : Int) != 92) = false := rfl
  have hnx := nx_sign h92 (by omega) (by omega)
  have HQ := Lib.hid h
  have HE := Lib.hid hE
  have hfar := h.far
  have hnil := nil_ne
  have herr := err_ne
  have HP : Hid (point s bl a = .er 1 (a + 1)) := Lib.hid (by unfold point; simp only; rw [if_neg (fun h => h.elim (fun h => by omega) (by rw [h92]; exact hno)), if_neg (by omega)]; rw [if_pos h2])
  have ha1 := (pk_bad h2).1
  clear h hE hW hy hno hbl h92
  go_enter Tryz.func289, Tryz.ntmps289
  go_wp2_with fail
  refine HN.out.mono ?_
  rintro e w1 ⟨rfl, hk1⟩
  have hq1 := HQ.out.kp hk1 (noB_not _)
  have g1 := hq1.c1
  have HSK := Lib.hid (skip_any hq1 ha (by omega))
  rw [hnx] at HSK
  clear hq1 hnx
  go_wp2_with fail
  refine (HW.out _).mono ?_
  rintro e w2 ⟨rfl, rfl⟩
  go_wp2_with fail
  refine HSK.out.mono ?_
  rintro e w3 ⟨rfl, hq3, hk3⟩
  have hk03 := hk1.any.trans hk3
  have hE3 := HE.out.kp hk03 (fun k _ => onB_not (by omega))
  have HN2 := Lib.hid (now_hurt hq3 hE3 (by omega) h2)
  clear hq3 hE3 h2
  go_wp2_with fail
  refine HN2.out.mono ?_
  rintro e w4 ⟨rfl, hq4, hk4⟩
  have g3 := hq4.c3
  simp only [badV] at g3
  have R := Lib.hid (And.intro hq4 (hk03.trans hk4))
  clear hq4
  go_wp2_with fail
  go_ret
  exact pt_er' HP.out _ _ (a + 1) (by omega) (by omega) ⟨rfl, R.out.2, R.out.1⟩

set_option maxRecDepth 100000 in
theorem resc_n (hS : S.size ≤ 1000) (hbl : ∀ c : Int, inB S c = true ↔ c ∈ bl) (h : QR eb es s b a o none w) (hE : Env 406 eb es w) (hs : s.size ≤ 65536) (h92 : pk s a = 92) (hno : (92 : Int) ∉ bl) (hx : pk s (a + 1) = 110) :
    Calls Tryz.prog 289 #[.pointer (some ⟨b, 0, none⟩), .string S] w (PtR eb es s bl b a o w) := by
  have HN := Lib.hid (now_ok h hs 92 h92 (by omega))
  have ha := pk_lt s a (by omega)
  have hW := fun W => rwithin_any S hS 92 W
  have hy : inB S 92 = false := by
    cases hh : inB S 92
    · rfl
    · exact absurd ((hbl 92).1 hh) hno
  rw [hy] at hW
  have HW := Lib.hid hW
  have hb : decide ((92 : Int) < 0) = false := rfl
  have hb2 : ((92 : Int) != 92) = false := rfl
  have hnx := nx_sign h92 (by omega) (by omega)
  have HQ := Lib.hid h
  have HE := Lib.hid hE
  have hfar := h.far
  have hnil := nil_ne
  have herr := err_ne
  have HP : Hid (point s bl a = .ok 10 (a + 2)) := Lib.hid (by unfold point; simp only; rw [if_neg (fun h => h.elim (fun h => by omega) (by rw [h92]; exact hno)), if_neg (by omega)]; rw [if_neg (by omega), if_pos hx])
  have ha1 := pk_lt s (a + 1) (by omega)
  have hnx2 := nx_sign hx (by omega) (by omega)
  have hWE := fun W => rwithin_any escR (by decide) 110 W
  unfold escR at hWE
  have HWE := Lib.hid hWE
  have HX := Lib.hid hx
  have HNX := Lib.hid hnx2
  have hx2 : (110 : Int) ≠ -2 := by omega
  have ht110 : ((110 : Int) == 110) = true := rfl
  clear hWE hx hnx2
  clear h hE hW hy hno hbl h92
  go_enter Tryz.func289, Tryz.ntmps289
  go_wp2_with fail
  refine HN.out.mono ?_
  rintro e w1 ⟨rfl, hk1⟩
  have hq1 := HQ.out.kp hk1 (noB_not _)
  have g1 := hq1.c1
  have HSK := Lib.hid (skip_any hq1 ha (by omega))
  rw [hnx] at HSK
  clear hq1 hnx
  go_wp2_with fail
  refine (HW.out _).mono ?_
  rintro e w2 ⟨rfl, rfl⟩
  go_wp2_with fail
  refine HSK.out.mono ?_
  rintro e w3 ⟨rfl, hq3, hk3⟩
  have hk03 := hk1.any.trans hk3
  have hE3 := HE.out.kp hk03 (fun k _ => onB_not (by omega))
  have HN2 := Lib.hid (now_ok hq3 hs _ HX.out hx2)
  have HQ3 := Lib.hid hq3
  have HE3 := Lib.hid hE3
  clear hq3 hE3
  go_wp2_with fail
  refine HN2.out.mono ?_
  rintro e w4 ⟨rfl, hk4⟩
  have HQ4 := Lib.hid (HQ3.out.kp hk4 (noB_not _))
  have HK4 := Lib.hid (hk03.trans hk4.any)
  have g3 := HQ4.out.c3
  simp only [badV] at g3
  have g2 := (HE3.out.kp hk4 (fun k _ => noB_not _)).syn
  go_wp2_with fail
  refine (HWE.out _).mono ?_
  rintro e w5 ⟨rfl, rfl⟩
  have HSK2 := Lib.hid (skip_any HQ4.out ha1 (by omega))
  rw [HNX.out] at HSK2
  go_wp2_with fail
  refine HSK2.out.mono ?_
  rintro e w6 ⟨rfl, hq6, hk6⟩
  have R := Lib.hid (And.intro hq6 (HK4.out.trans hk6))
  clear hq6 hk6
  go_wp2_with fail
  go_ret
  exact pt_ok' HP.out _ _ ⟨rfl, R.out.2, R.out.1⟩

set_option maxRecDepth 100000 in
theorem resc_r (hS : S.size ≤ 1000) (hbl : ∀ c : Int, inB S c = true ↔ c ∈ bl) (h : QR eb es s b a o none w) (hE : Env 406 eb es w) (hs : s.size ≤ 65536) (h92 : pk s a = 92) (hno : (92 : Int) ∉ bl) (hx : pk s (a + 1) = 114) :
    Calls Tryz.prog 289 #[.pointer (some ⟨b, 0, none⟩), .string S] w (PtR eb es s bl b a o w) := by
  have HN := Lib.hid (now_ok h hs 92 h92 (by omega))
  have ha := pk_lt s a (by omega)
  have hW := fun W => rwithin_any S hS 92 W
  have hy : inB S 92 = false := by
    cases hh : inB S 92
    · rfl
    · exact absurd ((hbl 92).1 hh) hno
  rw [hy] at hW
  have HW := Lib.hid hW
  have hb : decide ((92 : Int) < 0) = false := rfl
  have hb2 : ((92 : Int) != 92) = false := rfl
  have hnx := nx_sign h92 (by omega) (by omega)
  have HQ := Lib.hid h
  have HE := Lib.hid hE
  have hfar := h.far
  have hnil := nil_ne
  have herr := err_ne
  have HP : Hid (point s bl a = .ok 13 (a + 2)) := Lib.hid (by unfold point; simp only; rw [if_neg (fun h => h.elim (fun h => by omega) (by rw [h92]; exact hno)), if_neg (by omega)]; rw [if_neg (by omega), if_neg (by omega), if_pos hx])
  have ha1 := pk_lt s (a + 1) (by omega)
  have hnx2 := nx_sign hx (by omega) (by omega)
  have hWE := fun W => rwithin_any escR (by decide) 114 W
  unfold escR at hWE
  have HWE := Lib.hid hWE
  have HX := Lib.hid hx
  have HNX := Lib.hid hnx2
  have hx2 : (114 : Int) ≠ -2 := by omega
  have ht110 : ((114 : Int) == 110) = false := rfl
  have ht114 : ((114 : Int) == 114) = true := rfl
  clear hWE hx hnx2
  clear h hE hW hy hno hbl h92
  go_enter Tryz.func289, Tryz.ntmps289
  go_wp2_with fail
  refine HN.out.mono ?_
  rintro e w1 ⟨rfl, hk1⟩
  have hq1 := HQ.out.kp hk1 (noB_not _)
  have g1 := hq1.c1
  have HSK := Lib.hid (skip_any hq1 ha (by omega))
  rw [hnx] at HSK
  clear hq1 hnx
  go_wp2_with fail
  refine (HW.out _).mono ?_
  rintro e w2 ⟨rfl, rfl⟩
  go_wp2_with fail
  refine HSK.out.mono ?_
  rintro e w3 ⟨rfl, hq3, hk3⟩
  have hk03 := hk1.any.trans hk3
  have hE3 := HE.out.kp hk03 (fun k _ => onB_not (by omega))
  have HN2 := Lib.hid (now_ok hq3 hs _ HX.out hx2)
  have HQ3 := Lib.hid hq3
  have HE3 := Lib.hid hE3
  clear hq3 hE3
  go_wp2_with fail
  refine HN2.out.mono ?_
  rintro e w4 ⟨rfl, hk4⟩
  have HQ4 := Lib.hid (HQ3.out.kp hk4 (noB_not _))
  have HK4 := Lib.hid (hk03.trans hk4.any)
  have g3 := HQ4.out.c3
  simp only [badV] at g3
  have g2 := (HE3.out.kp hk4 (fun k _ => noB_not _)).syn
  go_wp2_with fail
  refine (HWE.out _).mono ?_
  rintro e w5 ⟨rfl, rfl⟩
  have HSK2 := Lib.hid (skip_any HQ4.out ha1 (by omega))
  rw [HNX.out] at HSK2
  go_wp2_with fail
  refine HSK2.out.mono ?_
  rintro e w6 ⟨rfl, hq6, hk6⟩
  have R := Lib.hid (And.intro hq6 (HK4.out.trans hk6))
  clear hq6 hk6
  go_wp2_with fail
  go_ret
  exact pt_ok' HP.out _ _ ⟨rfl, R.out.2, R.out.1⟩

set_option maxRecDepth 100000 in
theorem resc_t (hS : S.size ≤ 1000) (hbl : ∀ c : Int, inB S c = true ↔ c ∈ bl) (h : QR eb es s b a o none w) (hE : Env 406 eb es w) (hs : s.size ≤ 65536) (h92 : pk s a = 92) (hno : (92 : Int) ∉ bl) (hx : pk s (a + 1) = 116) :
    Calls Tryz.prog 289 #[.pointer (some ⟨b, 0, none⟩), .string S] w (PtR eb es s bl b a o w) := by
  have HN := Lib.hid (now_ok h hs 92 h92 (by omega))
  have ha := pk_lt s a (by omega)
  have hW := fun W => rwithin_any S hS 92 W
  have hy : inB S 92 = false := by
    cases hh : inB S 92
    · rfl
    · exact absurd ((hbl 92).1 hh) hno
  rw [hy] at hW
  have HW := Lib.hid hW
  have hb : decide ((92 : Int) < 0) = false := rfl
  have hb2 : ((92 : Int) != 92) = false := rfl
  have hnx := nx_sign h92 (by omega) (by omega)
  have HQ := Lib.hid h
  have HE := Lib.hid hE
  have hfar := h.far
  have hnil := nil_ne
  have herr := err_ne
  have HP : Hid (point s bl a = .ok 9 (a + 2)) := Lib.hid (by unfold point; simp only; rw [if_neg (fun h => h.elim (fun h => by omega) (by rw [h92]; exact hno)), if_neg (by omega)]; rw [if_neg (by omega), if_neg (by omega), if_neg (by omega), if_pos hx])
  have ha1 := pk_lt s (a + 1) (by omega)
  have hnx2 := nx_sign hx (by omega) (by omega)
  have hWE := fun W => rwithin_any escR (by decide) 116 W
  unfold escR at hWE
  have HWE := Lib.hid hWE
  have HX := Lib.hid hx
  have HNX := Lib.hid hnx2
  have hx2 : (116 : Int) ≠ -2 := by omega
  have ht110 : ((116 : Int) == 110) = false := rfl
  have ht114 : ((116 : Int) == 114) = false := rfl
  have ht116 : ((116 : Int) == 116) = true := rfl
  clear hWE hx hnx2
  clear h hE hW hy hno hbl h92
  go_enter Tryz.func289, Tryz.ntmps289
  go_wp2_with fail
  refine HN.out.mono ?_
  rintro e w1 ⟨rfl, hk1⟩
  have hq1 := HQ.out.kp hk1 (noB_not _)
  have g1 := hq1.c1
  have HSK := Lib.hid (skip_any hq1 ha (by omega))
  rw [hnx] at HSK
  clear hq1 hnx
  go_wp2_with fail
  refine (HW.out _).mono ?_
  rintro e w2 ⟨rfl, rfl⟩
  go_wp2_with fail
  refine HSK.out.mono ?_
  rintro e w3 ⟨rfl, hq3, hk3⟩
  have hk03 := hk1.any.trans hk3
  have hE3 := HE.out.kp hk03 (fun k _ => onB_not (by omega))
  have HN2 := Lib.hid (now_ok hq3 hs _ HX.out hx2)
  have HQ3 := Lib.hid hq3
  have HE3 := Lib.hid hE3
  clear hq3 hE3
  go_wp2_with fail
  refine HN2.out.mono ?_
  rintro e w4 ⟨rfl, hk4⟩
  have HQ4 := Lib.hid (HQ3.out.kp hk4 (noB_not _))
  have HK4 := Lib.hid (hk03.trans hk4.any)
  have g3 := HQ4.out.c3
  simp only [badV] at g3
  have g2 := (HE3.out.kp hk4 (fun k _ => noB_not _)).syn
  go_wp2_with fail
  refine (HWE.out _).mono ?_
  rintro e w5 ⟨rfl, rfl⟩
  have HSK2 := Lib.hid (skip_any HQ4.out ha1 (by omega))
  rw [HNX.out] at HSK2
  go_wp2_with fail
  refine HSK2.out.mono ?_
  rintro e w6 ⟨rfl, hq6, hk6⟩
  have R := Lib.hid (And.intro hq6 (HK4.out.trans hk6))
  clear hq6 hk6
  go_wp2_with fail
  go_ret
  exact pt_ok' HP.out _ _ ⟨rfl, R.out.2, R.out.1⟩

set_option maxRecDepth 100000 in
theorem resc_u (hS : S.size ≤ 1000) (hbl : ∀ c : Int, inB S c = true ↔ c ∈ bl) (h : QR eb es s b a o none w) (hE : Env 406 eb es w) (hs : s.size ≤ 65536) (h92 : pk s a = 92) (hno : (92 : Int) ∉ bl) (hx : pk s (a + 1) = 117) :
    Calls Tryz.prog 289 #[.pointer (some ⟨b, 0, none⟩), .string S] w (PtR eb es s bl b a o w) := by
  have HN := Lib.hid (now_ok h hs 92 h92 (by omega))
  have ha := pk_lt s a (by omega)
  have hW := fun W => rwithin_any S hS 92 W
  have hy : inB S 92 = false := by
    cases hh : inB S 92
    · rfl
    · exact absurd ((hbl 92).1 hh) hno
  rw [hy] at hW
  have HW := Lib.hid hW
  have hb : decide ((92 : Int) < 0) = false := rfl
  have hb2 : ((92 : Int) != 92) = false := rfl
  have hnx := nx_sign h92 (by omega) (by omega)
  have HQ := Lib.hid h
  have HE := Lib.hid hE
  have hfar := h.far
  have hnil := nil_ne
  have herr := err_ne
  have HP : Hid (point s bl a = match numb s a (a + 2) with | .ok n b => .ok (n : Int) b | .er c b => .er c b) := Lib.hid (by unfold point; simp only; rw [if_neg (fun h => h.elim (fun h => by omega) (by rw [h92]; exact hno)), if_neg (by omega)]; rw [if_neg (by omega), if_neg (by omega), if_neg (by omega), if_neg (by omega), if_pos hx]; cases numb s a (a + 2) <;> rfl)
  have ha1 := pk_lt s (a + 1) (by omega)
  have hnx2 := nx_sign hx (by omega) (by omega)
  have hWE := fun W => rwithin_any escR (by decide) 117 W
  unfold escR at hWE
  have HWE := Lib.hid hWE
  have HX := Lib.hid hx
  have HNX := Lib.hid hnx2
  have hx2 : (117 : Int) ≠ -2 := by omega
  have ht110 : ((117 : Int) == 110) = false := rfl
  have ht114 : ((117 : Int) == 114) = false := rfl
  have ht116 : ((117 : Int) == 116) = false := rfl
  have ht117 : ((117 : Int) == 117) = true := rfl
  clear hWE hx hnx2
  clear h hE hW hy hno hbl h92
  go_enter Tryz.func289, Tryz.ntmps289
  go_wp2_with fail
  refine HN.out.mono ?_
  rintro e w1 ⟨rfl, hk1⟩
  have hq1 := HQ.out.kp hk1 (noB_not _)
  have g1 := hq1.c1
  have HSK := Lib.hid (skip_any hq1 ha (by omega))
  rw [hnx] at HSK
  clear hq1 hnx
  go_wp2_with fail
  refine (HW.out _).mono ?_
  rintro e w2 ⟨rfl, rfl⟩
  go_wp2_with fail
  refine HSK.out.mono ?_
  rintro e w3 ⟨rfl, hq3, hk3⟩
  have hk03 := hk1.any.trans hk3
  have hE3 := HE.out.kp hk03 (fun k _ => onB_not (by omega))
  have HN2 := Lib.hid (now_ok hq3 hs _ HX.out hx2)
  have HQ3 := Lib.hid hq3
  have HE3 := Lib.hid hE3
  clear hq3 hE3
  go_wp2_with fail
  refine HN2.out.mono ?_
  rintro e w4 ⟨rfl, hk4⟩
  have HQ4 := Lib.hid (HQ3.out.kp hk4 (noB_not _))
  have HK4 := Lib.hid (hk03.trans hk4.any)
  have g3 := HQ4.out.c3
  simp only [badV] at g3
  have g2 := (HE3.out.kp hk4 (fun k _ => noB_not _)).syn
  go_wp2_with fail
  refine (HWE.out _).mono ?_
  rintro e w5 ⟨rfl, rfl⟩
  have HSK2 := Lib.hid (skip_any HQ4.out ha1 (by omega))
  rw [HNX.out] at HSK2
  have HE4 := Lib.hid (HE3.out.kp hk4 (fun k _ => noB_not _))
  go_wp2_with fail
  refine HSK2.out.mono ?_
  rintro e w6 ⟨rfl, hq6, hk6⟩
  have HD := Lib.hid (digits_any (frm := a) hq6 (HE4.out.kp hk6 (fun k _ => onB_not (by omega))) hs (by omega))
  have HK6 := Lib.hid (HK4.out.trans hk6)
  clear hq6 hk6
  go_wp2_with fail
  refine HD.out.mono ?_
  intro e w7 hd
  unfold DigE at hd
  cases hn : numb s a (a + 2) with
  | ok n p =>
    rw [hn] at hd
    obtain ⟨rfl, hk7, hq7⟩ := hd
    have R := Lib.hid (And.intro hq7 (HK6.out.trans hk7))
    have RP : Hid (point s bl a = .ok (n : Int) p) := Lib.hid (by rw [HP.out, hn])
    clear hq7 hk7 hn
    go_wp2_with fail
    go_ret
    exact pt_ok' RP.out _ _ ⟨rfl, R.out.2, R.out.1⟩
  | er c p =>
    rw [hn] at hd
    obtain ⟨rfl, hk7, hq7⟩ := hd
    have R := Lib.hid (And.intro hq7 (HK6.out.trans hk7))
    have RP : Hid (point s bl a = .er c p) := Lib.hid (by rw [HP.out, hn])
    clear hq7 hk7 hn
    go_wp2_with fail
    go_ret
    exact pt_er' RP.out _ _ (a + 1 + 1) (by omega) (by omega) ⟨rfl, R.out.2, R.out.1⟩

set_option maxRecDepth 100000 in
theorem resc_none (hS : S.size ≤ 1000) (hbl : ∀ c : Int, inB S c = true ↔ c ∈ bl) (h : QR eb es s b a o none w) (hE : Env 406 eb es w) (hs : s.size ≤ 65536) (h92 : pk s a = 92) (hno : (92 : Int) ∉ bl) (x : Int) (hx : pk s (a + 1) = x) (hx2 : x ≠ -2) (h110 : x ≠ 110) (h114 : x ≠ 114) (h116 : x ≠ 116) (h117 : x ≠ 117) (hxe : x < 0 ∨ x ∉ escs) :
    Calls Tryz.prog 289 #[.pointer (some ⟨b, 0, none⟩), .string S] w (PtR eb es s bl b a o w) := by
  have HN := Lib.hid (now_ok h hs 92 h92 (by omega))
  have ha := pk_lt s a (by omega)
  have hW := fun W => rwithin_any S hS 92 W
  have hy : inB S 92 = false := by
    cases hh : inB S 92
    · rfl
    · exact absurd ((hbl 92).1 hh) hno
  rw [hy] at hW
  have HW := Lib.hid hW
  have hb : decide ((92 : Int) < 0) = false := rfl
  have hb2 : ((92 : Int) != 92) = false := rfl
  have hnx := nx_sign h92 (by omega) (by omega)
  have HQ := Lib.hid h
  have HE := Lib.hid hE
  have hfar := h.far
  have hnil := nil_ne
  have herr := err_ne
  have HP : Hid (point s bl a = .er 1 a) := Lib.hid (by unfold point; simp only; rw [if_neg (fun h => h.elim (fun h => by omega) (by rw [h92]; exact hno)), if_neg (by omega)]; rw [if_neg (by omega), if_neg (by omega), if_neg (by omega), if_neg (by omega), if_neg (by omega), if_pos (by rw [hx]; exact hxe)])
  have hWE := fun W => rwithin_any escR (by decide) x W
  have hyE : inB escR x = false := by
    cases hh : inB escR x
    · rfl
    · have h3 := (esc_iff x).1 hh
      rcases hxe with h4 | h4
      · simp [escs] at h3; omega
      · exact absurd h3 h4
  rw [hyE] at hWE
  unfold escR at hWE
  have HWE := Lib.hid hWE
  have HX := Lib.hid hx
  have ht110 : (x == (110 : Int)) = false := beq_eq_false_iff_ne.2 h110
  have ht114 : (x == (114 : Int)) = false := beq_eq_false_iff_ne.2 h114
  have ht116 : (x == (116 : Int)) = false := beq_eq_false_iff_ne.2 h116
  have ht117 : (x == (117 : Int)) = false := beq_eq_false_iff_ne.2 h117
  have has : a + 1 ≤ s.size := by omega
  clear hWE hx hyE hxe h110 h114 h116 h117
  clear h hE hW hy hno hbl h92
  go_enter Tryz.func289, Tryz.ntmps289
  go_wp2_with fail
  refine HN.out.mono ?_
  rintro e w1 ⟨rfl, hk1⟩
  have hq1 := HQ.out.kp hk1 (noB_not _)
  have g1 := hq1.c1
  have HSK := Lib.hid (skip_any hq1 ha (by omega))
  rw [hnx] at HSK
  clear hq1 hnx
  go_wp2_with fail
  refine (HW.out _).mono ?_
  rintro e w2 ⟨rfl, rfl⟩
  go_wp2_with fail
  refine HSK.out.mono ?_
  rintro e w3 ⟨rfl, hq3, hk3⟩
  have hk03 := hk1.any.trans hk3
  have hE3 := HE.out.kp hk03 (fun k _ => onB_not (by omega))
  have HN2 := Lib.hid (now_ok hq3 hs _ HX.out hx2)
  have HQ3 := Lib.hid hq3
  have HE3 := Lib.hid hE3
  clear hq3 hE3
  go_wp2_with fail
  refine HN2.out.mono ?_
  rintro e w4 ⟨rfl, hk4⟩
  have HQ4 := Lib.hid (HQ3.out.kp hk4 (noB_not _))
  have HK4 := Lib.hid (hk03.trans hk4.any)
  have g3 := HQ4.out.c3
  simp only [badV] at g3
  have g2 := (HE3.out.kp hk4 (fun k _ => noB_not _)).syn
  have HF : Hid (Calls Tryz.prog 58 #[.pointer (some ⟨b, 0, none⟩), .iface 406 (.pointer (some es)), .int .i64 a] w4 fun e w' => e = .returned (.tuple #[]) ∧ QR eb es s b (a + 1) o (some (1, a)) w' ∧ Kp (onB b) w4 w') := Lib.hid (rfail_new HQ4.out 1 a)
  go_wp2_with fail
  refine (HWE.out _).mono ?_
  rintro e w5 ⟨rfl, rfl⟩
  go_wp2_with fail
  refine HF.out.mono ?_
  rintro e w6 ⟨rfl, hq6, hk6⟩
  have R := Lib.hid (And.intro hq6 (HK4.out.trans hk6))
  clear hq6 hk6
  go_wp2_with fail
  go_ret
  exact pt_er' HP.out _ _ (a + 1) (by omega) has ⟨rfl, R.out.2, R.out.1⟩

set_option maxRecDepth 100000 in
theorem resc_sign (hS : S.size ≤ 1000) (hbl : ∀ c : Int, inB S c = true ↔ c ∈ bl) (h : QR eb es s b a o none w) (hE : Env 406 eb es w) (hs : s.size ≤ 65536) (h92 : pk s a = 92) (hno : (92 : Int) ∉ bl) (x : Int) (hx : pk s (a + 1) = x) (hx0 : 0 ≤ x) (h110 : x ≠ 110) (h114 : x ≠ 114) (h116 : x ≠ 116) (h117 : x ≠ 117) (hxe : x ∈ escs) :
    Calls Tryz.prog 289 #[.pointer (some ⟨b, 0, none⟩), .string S] w (PtR eb es s bl b a o w) := by
  have HN := Lib.hid (now_ok h hs 92 h92 (by omega))
  have ha := pk_lt s a (by omega)
  have hW := fun W => rwithin_any S hS 92 W
  have hy : inB S 92 = false := by
    cases hh : inB S 92
    · rfl
    · exact absurd ((hbl 92).1 hh) hno
  rw [hy] at hW
  have HW := Lib.hid hW
  have hb : decide ((92 : Int) < 0) = false := rfl
  have hb2 : ((92 : Int) != 92) = false := rfl
  have hnx := nx_sign h92 (by omega) (by omega)
  have HQ := Lib.hid h
  have HE := Lib.hid hE
  have hfar := h.far
  have hnil := nil_ne
  have herr := err_ne
  have HP : Hid (point s bl a = .ok x (a + 2)) := Lib.hid (by unfold point; simp only; rw [if_neg (fun h => h.elim (fun h => by omega) (by rw [h92]; exact hno)), if_neg (by omega)]; rw [if_neg (by omega), if_neg (by omega), if_neg (by omega), if_neg (by omega), if_neg (by omega), if_neg (by rw [hx]; exact fun h => h.elim (fun h => by omega) (fun h => h hxe)), hx])
  have hWE := fun W => rwithin_any escR (by decide) x W
  rw [(esc_iff x).2 hxe] at hWE
  unfold escR at hWE
  have HWE := Lib.hid hWE
  have HX := Lib.hid hx
  have ha1 := pk_lt s (a + 1) (by omega)
  have hx128 : x < 128 := by simp [escs] at hxe; omega
  have hnx2 := nx_sign hx (by omega) hx128
  have HNX := Lib.hid hnx2
  have hx2 : x ≠ -2 := by omega
  have ht110 : (x == (110 : Int)) = false := beq_eq_false_iff_ne.2 h110
  have ht114 : (x == (114 : Int)) = false := beq_eq_false_iff_ne.2 h114
  have ht116 : (x == (116 : Int)) = false := beq_eq_false_iff_ne.2 h116
  have ht117 : (x == (117 : Int)) = false := beq_eq_false_iff_ne.2 h117
  clear hWE hx hxe h110 h114 h116 h117 hnx2
  clear h hE hW hy hno hbl h92
  go_enter Tryz.func289, Tryz.ntmps289
  go_wp2_with fail
  refine HN.out.mono ?_
  rintro e w1 ⟨rfl, hk1⟩
  have hq1 := HQ.out.kp hk1 (noB_not _)
  have g1 := hq1.c1
  have HSK := Lib.hid (skip_any hq1 ha (by omega))
  rw [hnx] at HSK
  clear hq1 hnx
  go_wp2_with fail
  refine (HW.out _).mono ?_
  rintro e w2 ⟨rfl, rfl⟩
  go_wp2_with fail
  refine HSK.out.mono ?_
  rintro e w3 ⟨rfl, hq3, hk3⟩
  have hk03 := hk1.any.trans hk3
  have hE3 := HE.out.kp hk03 (fun k _ => onB_not (by omega))
  have HN2 := Lib.hid (now_ok hq3 hs _ HX.out hx2)
  have HQ3 := Lib.hid hq3
  have HE3 := Lib.hid hE3
  clear hq3 hE3
  go_wp2_with fail
  refine HN2.out.mono ?_
  rintro e w4 ⟨rfl, hk4⟩
  have HQ4 := Lib.hid (HQ3.out.kp hk4 (noB_not _))
  have HK4 := Lib.hid (hk03.trans hk4.any)
  have g3 := HQ4.out.c3
  simp only [badV] at g3
  have g2 := (HE3.out.kp hk4 (fun k _ => noB_not _)).syn
  go_wp2_with fail
  refine (HWE.out _).mono ?_
  rintro e w5 ⟨rfl, rfl⟩
  have HSK2 := Lib.hid (skip_any HQ4.out ha1 (by omega))
  rw [HNX.out] at HSK2
  go_wp2_with fail
  refine HSK2.out.mono ?_
  rintro e w6 ⟨rfl, hq6, hk6⟩
  have R := Lib.hid (And.intro hq6 (HK4.out.trans hk6))
  clear hq6 hk6
  go_wp2_with fail
  go_ret
  exact pt_ok' HP.out _ _ ⟨rfl, R.out.2, R.out.1⟩

theorem rpt_any (hS : S.size ≤ 1000) (hbl : ∀ c : Int, inB S c = true ↔ c ∈ bl) (h : QR eb es s b a o none w) (hE : Env 406 eb es w) (hs : s.size ≤ 65536) (ha : a ≤ s.size) (hno : (92 : Int) ∉ bl) :
    Calls Tryz.prog 289 #[.pointer (some ⟨b, 0, none⟩), .string S] w (PtR eb es s bl b a o w) := by
  by_cases h2 : pk s a = -2
  · exact rpoint_hurt hS h hE hs h2
  by_cases h0 : pk s a < 0 ∨ pk s a ∈ bl
  · exact rpoint_barred hS hbl h hE hs ha h2 h0
  have h0' : ¬ pk s a < 0 := fun h => h0 (.inl h)
  by_cases h92 : pk s a = 92
  · by_cases e2 : pk s (a + 1) = -2
    · exact resc_hurt hS hbl h hE hs h92 hno e2
    by_cases e110 : pk s (a + 1) = 110
    · exact resc_n hS hbl h hE hs h92 hno e110
    by_cases e114 : pk s (a + 1) = 114
    · exact resc_r hS hbl h hE hs h92 hno e114
    by_cases e116 : pk s (a + 1) = 116
    · exact resc_t hS hbl h hE hs h92 hno e116
    by_cases e117 : pk s (a + 1) = 117
    · exact resc_u hS hbl h hE hs h92 hno e117
    by_cases hxe : pk s (a + 1) < 0 ∨ pk s (a + 1) ∉ escs
    · exact resc_none hS hbl h hE hs h92 hno _ rfl e2 e110 e114 e116 e117 hxe
    · exact resc_sign hS hbl h hE hs h92 hno _ rfl (by have := fun h => hxe (.inl h); omega) e110 e114 e116 e117 (Classical.not_not.1 fun h => hxe (.inr h))
  · exact rpoint_plain hS hbl h hs (by omega) (fun h => h0 (.inr h)) h92
end
end Go.Proofs.YtoijabgcgdgacaaGreatDoor

namespace Go.Proofs.YtoijabgcgdgacaaGreatDoor
open Go.RowKit Go.Proofs.Gram

/-- What the reference has of m digits: above 50 it goes on no more. -/
def capv (s : ByteArray) (a : Nat) : Nat → Nat
  | 0 => 0
  | m + 1 => if capv s a m ≤ 50 then capv s a m * 10 + (pk s (a + m) - 48).toNat else capv s a m

theorem capv_bnd (s : ByteArray) (a : Nat) : ∀ (m : Nat), allDig s a m → capv s a m ≤ 509 ∧ (dv s a m 0 ≤ 50 → capv s a m = dv s a m 0) ∧ (50 < dv s a m 0 → 50 < capv s a m)
  | 0, _ => by simp [capv, dv]
  | m + 1, h => by
    obtain ⟨h1, h2, h3⟩ := capv_bnd s a m (fun i hi => h i (by omega))
    have hd := h m (by omega)
    rw [capv, dv]
    by_cases hc : capv s a m ≤ 50
    · rw [if_pos hc]
      by_cases h50 : dv s a m 0 ≤ 50
      · have := h2 h50
        omega
      · have := h3 (by omega)
        omega
    · rw [if_neg hc]
      by_cases h50 : dv s a m 0 ≤ 50
      · have := h2 h50
        omega
      · omega

def CntR (eb es : Addr) (s : ByteArray) (b a o : Nat) (w : World) (e : Ending) (w' : World) : Prop :=
  match count s a with
  | .ok n p => e = .returned (.int .i64 n) ∧ Kp (onB b) w w' ∧ QR eb es s b p o none w'
  | .er c p => ∃ v a', e = .returned (.int .i64 v) ∧ Kp (onB b) w w' ∧ 0 ≤ v ∧ v ≤ 509 ∧ a ≤ a' ∧ a' ≤ s.size ∧ QR eb es s b a' o (some (c, p)) w'

section
variable {eb es : Addr} {s : ByteArray} {b a o : Nat} {w : World}

theorem cnt_ok {n p : Nat} (h : count s a = .ok n p) (e : Ending) (w' : World) (hh : e = .returned (.int .i64 n) ∧ Kp (onB b) w w' ∧ QR eb es s b p o none w') : CntR eb es s b a o w e w' := by
  unfold CntR
  rw [h]
  exact hh
theorem cnt_er {c p : Nat} (h : count s a = .er c p) (e : Ending) (w' : World) (v : Int) (a' : Nat) (h0 : 0 ≤ v ∧ v ≤ 509) (h1 : a ≤ a') (h2 : a' ≤ s.size) (hh : e = .returned (.int .i64 v) ∧ Kp (onB b) w w' ∧ QR eb es s b a' o (some (c, p)) w') : CntR eb es s b a o w e w' := by
  unfold CntR
  rw [h]
  exact ⟨v, a', hh.1, hh.2.1, h0.1, h0.2, h1, h2, hh.2.2⟩

set_option maxRecDepth 100000 in
theorem rcount_old {x : Nat × Nat} (h : QR eb es s b a o (some x) w) (hE : Env 406 eb es w) :
    Calls Tryz.prog 290 #[.pointer (some ⟨b, 0, none⟩)] w fun e w' => e = .returned (.int .i64 0) ∧ Kp noB w w' := by
  have hc1 := h.c1
  have HN : Hid (∀ W, Kp noB w W → Calls Tryz.prog 169 #[.pointer (some ⟨b, 0, none⟩)] W fun e w' => e = .returned (.int .i64 (-1)) ∧ Kp noB w w') := Lib.hid fun W hk => (now_old (h.kp hk (noB_not _))).mono fun e w' ⟨he, hk'⟩ => ⟨he, hk.trans hk'⟩
  have HF : Hid (∀ W ev p, Kp noB w W → Calls Tryz.prog 58 #[.pointer (some ⟨b, 0, none⟩), ev, .int .i64 p] W fun e w' => e = .returned (.tuple #[]) ∧ w' = W) := Lib.hid fun W ev p hk => rfail_old (w := W) (h.kp hk (noB_not _)) ev p
  have HQ := Lib.hid h
  have HE := Lib.hid hE
  have hb1 : decide ((-1 : Int) < 48) = true := rfl
  have hb2 : ((a : Int) == (a : Int)) = true := beq_self_eq_true _
  have hb3 : decide ((50 : Int) < 0) = false := rfl
  clear h hE
  go_enter Tryz.func290, Tryz.ntmps290
  go_wp2_with fail
  go_loopw [4] (fun n wr => n = .int .i64 0 ∧ wr = w) (fun _ _ => 0)
  case atStart => exact ⟨rfl, rfl⟩
  case round =>
    obtain ⟨rfl, rfl⟩ := hrel
    go_wp2_with fail
    refine (HN.out _ (Kp.refl _ _)).mono ?_
    rintro e w1 ⟨rfl, hk1⟩
    have g1 := (HQ.out.kp hk1 (noB_not _)).c1
    have g2 := (HE.out.kp hk1 (fun k _ => noB_not _)).syn
    go_wp2_with fail
    refine (HF.out _ _ _ hk1).mono ?_
    rintro e w2 ⟨rfl, rfl⟩
    go_wp2_with fail
    go_ret
    exact ⟨rfl, hk1⟩

set_option maxRecDepth 100000 in
set_option maxHeartbeats 1000000 in
theorem rcount_any (h : QR eb es s b a o none w) (hE : Env 406 eb es w) (hs : s.size ≤ 65536) (ha : a ≤ s.size) :
    Calls Tryz.prog 290 #[.pointer (some ⟨b, 0, none⟩)] w (CntR eb es s b a o w) := by
  have hc1 := h.c1
  have hfar := h.far
  have HQ := Lib.hid h
  have HE := Lib.hid hE
  have HS := Lib.hid hs
  clear h hE
  go_enter Tryz.func290, Tryz.ntmps290
  go_wp2_with fail
  go_loopw [4] (fun n wr => ∃ m p q : Nat, p ≤ s.size ∧ a ≤ p ∧ Hid (p = a + m) ∧ n = .int .i64 q ∧ q ≤ 509 ∧ Hid (capv s a m = q) ∧ Hid (allDig s a m) ∧ Hid (Kp (onB b) w wr) ∧ Hid (QR eb es s b p o none wr))
    (fun _ wr => s.size - (intOf ((wr.cell? ⟨b, 1, none⟩).getD undef)).toNat)
  case atStart => exact ⟨0, a, 0, ha, Nat.le_refl _, Lib.hid rfl, rfl, by omega, Lib.hid rfl, Lib.hid fun i hi => by omega, Lib.hid (Kp.refl _ _), HQ⟩
  case round =>
    obtain ⟨m, p, q, hps, hap, HP, rfl, hq9, HC, HALL, HK, HR⟩ := hrel
    have hcp := HR.out.c1
    have hcz := HR.out.z 1
    have hc0 := HR.out.c0
    have HEp := Lib.hid (HE.out.kp HK.out (fun k _ => onB_not (by omega)))
    have hsyn := HEp.out.syn
    have hbnd := HEp.out.bound
    have hbound := Lib.hid (capv_bnd s a m HALL.out)
    have hwp : IntKind.i64.wrap ((p : Int) + 1) = (p : Int) + 1 := by rw [IntKind.wrap_i64]; omega
    have hwa : IntKind.i64.wrap ((a : Int) + 1) = (a : Int) + 1 := by rw [IntKind.wrap_i64]; omega
    -- how it ends in a good state that fails at its beginning, or above the bound
    by_cases h2 : pk s p = -2
    · have hcount : count s a = .er 1 p := by
        have hd := digs_stop s m a HALL.out (by have := HP.out; omega) (by rw [← HP.out, h2]; omega)
        rw [← HP.out] at hd
        unfold count
        rw [hd]
        simp [h2]
      have HCC := Lib.hid hcount
      have HN := Lib.hid (now_hurt HR.out HEp.out (by omega) h2)
      have hb1 : decide ((-1 : Int) < 48) = true := rfl
      have hsl : a < s.size := by have := (pk_bad h2).1; omega
      have hcs : (p == a) = true ∧ ((p : Int) == (a : Int)) = true ∨ (p == a) = false ∧ ((p : Int) == (a : Int)) = false ∧ (decide (a + 1 < p) = false ∧ decide ((a : Int) + 1 < p) = false ∨ decide (a + 1 < p) = true ∧ decide ((a : Int) + 1 < p) = true ∧ (((s[a]'hsl).toNat : Int) == 48) = true ∨ decide (a + 1 < p) = true ∧ decide ((a : Int) + 1 < p) = true ∧ (((s[a]'hsl).toNat : Int) == 48) = false) := by
        by_cases e1 : p = a
        · exact .inl ⟨beq_iff_eq.2 e1, beq_iff_eq.2 (by omega)⟩
        · refine .inr ⟨beq_eq_false_iff_ne.2 e1, beq_eq_false_iff_ne.2 (by omega), ?_⟩
          by_cases e2 : a + 1 < p
          · by_cases e3 : ((s[a]'hsl).toNat : Int) = 48
            · exact .inr (.inl ⟨decide_eq_true e2, decide_eq_true (by omega), beq_iff_eq.2 e3⟩)
            · exact .inr (.inr ⟨decide_eq_true e2, decide_eq_true (by omega), beq_eq_false_iff_ne.2 e3⟩)
          · exact .inl ⟨decide_eq_false e2, decide_eq_false (by omega)⟩
      have hqs : decide ((50 : Int) < q) = true ∨ decide ((50 : Int) < q) = false := by
        by_cases e : 50 < q
        · exact .inl (decide_eq_true (by omega))
        · exact .inr (decide_eq_false (by omega))
      have hai : (a : Int) < (s.size : Int) := by omega
      clear h2 hcount hs
      go_wp2_with fail
      refine HN.out.mono ?_
      rintro e w1 ⟨rfl, hq1, hk1⟩
      have g0 := hq1.c0
      have g1 := hq1.c1
      have HE1 := Lib.hid (HEp.out.kp hk1 (fun k _ => onB_not (by omega)))
      have g2 := HE1.out.syn
      have g3 := HE1.out.bound
      have HQ1 := Lib.hid hq1
      have HK1 := Lib.hid (HK.out.trans hk1)
      have HF : Hid (∀ ev p, Calls Tryz.prog 58 #[.pointer (some ⟨b, 0, none⟩), ev, .int .i64 p] w1 fun e w' => e = .returned (.tuple #[]) ∧ w' = w1) := Lib.hid fun ev p => rfail_old (w := w1) HQ1.out ev p
      clear hq1 hk1
      rcases hcs with ⟨d1, d2⟩ | ⟨d1, d2, ⟨d3, d4⟩ | ⟨d3, d4, d5⟩ | ⟨d3, d4, d5⟩⟩ <;> rcases hqs with hq50 | hq50
      all_goals
        go_wp2_with (go_at_call 58; refine (HF.out _ _).mono ?_; rintro e w2 ⟨rfl, rfl⟩)
        go_ret
        exact cnt_er HCC.out _ _ q p (by omega) hap hps ⟨rfl, HK1.out, HQ1.out⟩
    have HN := Lib.hid (now_ok HR.out hs _ rfl h2)
    by_cases hd : 48 ≤ pk s p ∧ pk s p ≤ 57
    · obtain ⟨x, hx⟩ : ∃ x, pk s p = x := ⟨_, rfl⟩
      have hpl := (pk_ascii s p (by omega) (by omega)).1
      rw [hx] at HN hd
      have hb1 : decide (x < (48 : Int)) = false := decide_eq_false (by omega)
      have hb2 : decide ((57 : Int) < x) = false := decide_eq_false (by omega)
      have HALL1 : Hid (allDig s a (m + 1)) := Lib.hid fun i hi => by
        rcases Nat.lt_or_ge i m with h | h
        · exact HALL.out i h
        · obtain rfl : i = m := by omega
          rw [← HP.out, hx]
          exact hd
      have hcv : capv s a (m + 1) = if q ≤ 50 then q * 10 + (x - 48).toNat else q := by rw [capv, HC.out, ← HP.out, hx]
      have R : Hid (Kp (onB b) w (wr.setCell ⟨b, 1, none⟩ (.int .i64 ((p : Int) + 1))) ∧ QR eb es s b (p + 1) o none (wr.setCell ⟨b, 1, none⟩ (.int .i64 ((p : Int) + 1)))) := Lib.hid (by
        refine ⟨HK.out.setCell (F := onB b) (p := ⟨b, 1, none⟩) (.inl (onB_self b)) _, ?_⟩
        have := HR.out.at (p + 1)
        rwa [show ((p + 1 : Nat) : Int) = (p : Int) + 1 from by omega] at this)
      by_cases hq50 : q ≤ 50
      · rw [if_pos hq50] at hcv
        have hb3 : decide ((q : Int) ≤ 50) = true := decide_eq_true (by omega)
        have hw1 : IntKind.i64.wrap ((q : Int) * 10) = (q : Int) * 10 := by rw [IntKind.wrap_i64]; omega
        have hw2 : IntKind.i64.wrap ((q : Int) * 10 + x) = (q : Int) * 10 + x := by rw [IntKind.wrap_i64]; omega
        have hw3 : IntKind.i64.wrap ((q : Int) * 10 + x - 48) = (q : Int) * 10 + x - 48 := by rw [IntKind.wrap_i64]; omega
        have HV : Hid ((q : Int) * 10 + x - 48 = ((q * 10 + (x - 48).toNat : Nat) : Int) ∧ q * 10 + (x - 48).toNat ≤ 509) := Lib.hid (by omega)
        have HCV := Lib.hid hcv
        have HPK : Hid (Kp noB wr wr) := Lib.hid (Kp.refl _ _)
        clear hq50 hcv hd hx h2 hs
        go_wp2_with fail
        refine HN.out.mono ?_
        rintro e w1 ⟨rfl, hk1⟩
        have g1 := (HR.out.kp hk1 (noB_not _)).c1
        have gz := (HR.out.kp hk1 (noB_not _)).z 1
        have HK1 := Lib.hid hk1
        have R2 : Hid (Kp (onB b) w (w1.setCell ⟨b, 1, none⟩ (.int .i64 ((p : Int) + 1))) ∧ QR eb es s b (p + 1) o none (w1.setCell ⟨b, 1, none⟩ (.int .i64 ((p : Int) + 1)))) := Lib.hid (by
          refine ⟨(HK.out.trans HK1.out.any).setCell (F := onB b) (p := ⟨b, 1, none⟩) (.inl (onB_self b)) _, ?_⟩
          have := (HR.out.kp HK1.out (noB_not _)).at (p + 1)
          rwa [show ((p + 1 : Nat) : Int) = (p : Int) + 1 from by omega] at this)
        clear hk1
        go_wp2_with fail
        go_roundw
        case rel => exact ⟨m + 1, p + 1, q * 10 + (x - 48).toNat, by omega, by omega, Lib.hid (by rw [HP.out]; omega), by rw [HV.out.1], HV.out.2, HCV, HALL1, Lib.hid R2.out.1, Lib.hid R2.out.2⟩
        case measure => rw [R2.out.2.c1, hcp]; simp only [intOf, Option.getD_some]; omega
      · rw [if_neg hq50] at hcv
        have hb3 : decide ((q : Int) ≤ 50) = false := decide_eq_false (by omega)
        have HCV := Lib.hid hcv
        clear hq50 hcv hd hx h2 hs
        go_wp2_with fail
        refine HN.out.mono ?_
        rintro e w1 ⟨rfl, hk1⟩
        have g1 := (HR.out.kp hk1 (noB_not _)).c1
        have gz := (HR.out.kp hk1 (noB_not _)).z 1
        have HK1 := Lib.hid hk1
        have R2 : Hid (Kp (onB b) w (w1.setCell ⟨b, 1, none⟩ (.int .i64 ((p : Int) + 1))) ∧ QR eb es s b (p + 1) o none (w1.setCell ⟨b, 1, none⟩ (.int .i64 ((p : Int) + 1)))) := Lib.hid (by
          refine ⟨(HK.out.trans HK1.out.any).setCell (F := onB b) (p := ⟨b, 1, none⟩) (.inl (onB_self b)) _, ?_⟩
          have := (HR.out.kp HK1.out (noB_not _)).at (p + 1)
          rwa [show ((p + 1 : Nat) : Int) = (p : Int) + 1 from by omega] at this)
        clear hk1
        go_wp2_with fail
        go_roundw
        case rel => exact ⟨m + 1, p + 1, q, by omega, by omega, Lib.hid (by rw [HP.out]; omega), rfl, hq9, HCV, HALL1, Lib.hid R2.out.1, Lib.hid R2.out.2⟩
        case measure => rw [R2.out.2.c1, hcp]; simp only [intOf, Option.getD_some]; omega
    · have hstop := digs_stop s m a HALL.out (by have := HP.out; omega) (by rw [← HP.out]; exact hd)
      have hcount : count s a = if m = 0 ∨ (1 < m ∧ pk s a = 48) then .er 1 a else if 50 < dv s a m 0 then .er 2 a else .ok (dv s a m 0) p := by
        unfold count
        rw [hstop, ← HP.out]
        simp only [if_neg h2]
        have e1 : (p = a ∨ a + 1 < p ∧ pk s a = 48) = (m = 0 ∨ 1 < m ∧ pk s a = 48) := by
          have := HP.out
          apply propext
          constructor
          · rintro (h | ⟨h, h'⟩)
            · exact .inl (by omega)
            · exact .inr ⟨by omega, h'⟩
          · rintro (h | ⟨h, h'⟩)
            · exact .inl (by omega)
            · exact .inr ⟨by omega, h'⟩
        simp only [e1]
      obtain ⟨x, hx⟩ : ∃ x, pk s p = x := ⟨_, rfl⟩
      rw [hx] at HN hd
      have hb : decide (x < (48 : Int)) = true ∨ (decide (x < (48 : Int)) = false ∧ decide ((57 : Int) < x) = true) := by
        by_cases h : x < 48
        · exact .inl (decide_eq_true h)
        · exact .inr ⟨decide_eq_false h, decide_eq_true (by omega)⟩
      have HCC := Lib.hid hcount
      clear hd hstop hcount h2 hx hs
      by_cases h0 : m = 0
      · have hR : count s a = .er 1 a := by rw [HCC.out, if_pos (.inl h0)]
        have RC := Lib.hid hR
        have hpa : p = a := by have := HP.out; omega
        subst hpa
        have d2 : ((p : Int) == (p : Int)) = true := beq_self_eq_true _
        have hq0 : q = 0 := by rw [← HC.out, h0]; rfl
        subst hq0
        have hq50 : decide ((50 : Int) < ((0 : Nat) : Int)) = false := rfl
        clear hR h0
        rcases hb with hb1 | ⟨hb1, hb2⟩
        all_goals
          go_wp2_with fail
          refine HN.out.mono ?_
          rintro e w1 ⟨rfl, hk1⟩
          have HQ1 := Lib.hid (HR.out.kp hk1 (noB_not _))
          have g1 := HQ1.out.c1
          have g2 := (HEp.out.kp hk1 (fun k _ => noB_not _)).syn
          have HF := Lib.hid (rfail_new HQ1.out 1 p)
          have HK1 := Lib.hid (HK.out.trans hk1.any)
          clear hk1
          go_wp2_with fail
          refine HF.out.mono ?_
          rintro e w2 ⟨rfl, hq2, hk2⟩
          have R := Lib.hid (And.intro hq2 (HK1.out.trans hk2))
          clear hq2 hk2
          go_wp2_with fail
          go_ret
          exact cnt_er RC.out _ _ 0 p (by omega) (Nat.le_refl _) hps ⟨rfl, R.out.2, R.out.1⟩
      have hap' : a < p := by have := HP.out; omega
      have d1 : (p == a) = false := beq_eq_false_iff_ne.2 (by omega)
      have d2 : ((p : Int) == (a : Int)) = false := beq_eq_false_iff_ne.2 (by omega)
      have hsl : a < s.size := by omega
      have hai : (a : Int) < (s.size : Int) := by omega
      have hb0 : ((s[a]'hsl).toNat : Int) = pk s a := by
        have h48 := HALL.out 0 (by omega)
        obtain ⟨h1, h2, _⟩ := pk_ascii s a (by simpa using (by omega : 0 ≤ pk s (a + 0))) (by simpa using (by omega : pk s (a + 0) < 128))
        rw [← h2]
      by_cases hz0 : 1 < m ∧ pk s a = 48
      · have hR : count s a = .er 1 a := by rw [HCC.out, if_pos (.inr hz0)]
        have RC := Lib.hid hR
        have d3 : decide (a + 1 < p) = true := decide_eq_true (by have := HP.out; omega)
        have d4 : decide ((a : Int) + 1 < p) = true := decide_eq_true (by have := HP.out; omega)
        have d5 : (((s[a]'hsl).toNat : Int) == 48) = true := beq_iff_eq.2 (by omega)
        have hqs : decide ((50 : Int) < q) = true ∨ decide ((50 : Int) < q) = false := by
          by_cases e : 50 < q
          · exact .inl (decide_eq_true (by omega))
          · exact .inr (decide_eq_false (by omega))
        clear hR h0 hz0 hb0
        rcases hb with hb1 | ⟨hb1, hb2⟩ <;> rcases hqs with hq50 | hq50
        all_goals
          go_wp2_with fail
          refine HN.out.mono ?_
          rintro e w1 ⟨rfl, hk1⟩
          have HQ1 := Lib.hid (HR.out.kp hk1 (noB_not _))
          have g0 := HQ1.out.c0
          have g1 := HQ1.out.c1
          have HE1 := Lib.hid (HEp.out.kp hk1 (fun k _ => noB_not _))
          have g2 := HE1.out.syn
          have HF := Lib.hid (rfail_new HQ1.out 1 a)
          have HK1 := Lib.hid (HK.out.trans hk1.any)
          clear hk1
          go_wp2_with fail
          refine HF.out.mono ?_
          rintro e w2 ⟨rfl, hq2, hk2⟩
          have g3 := (HE1.out.kp hk2 (fun k _ => onB_not (by omega))).bound
          have HF2 : Hid (∀ ev p, Calls Tryz.prog 58 #[.pointer (some ⟨b, 0, none⟩), ev, .int .i64 p] w2 fun e w' => e = .returned (.tuple #[]) ∧ w' = w2) := Lib.hid fun ev p => rfail_old (w := w2) hq2 ev p
          have R := Lib.hid (And.intro hq2 (HK1.out.trans hk2))
          clear hq2 hk2
          go_wp2_with (go_at_call 58; refine (HF2.out _ _).mono ?_; rintro e w3 ⟨rfl, rfl⟩)
          go_ret
          exact cnt_er RC.out _ _ q p (by omega) hap hps ⟨rfl, R.out.2, R.out.1⟩
      have hdz : decide (a + 1 < p) = false ∧ decide ((a : Int) + 1 < p) = false ∨ decide (a + 1 < p) = true ∧ decide ((a : Int) + 1 < p) = true ∧ (((s[a]'hsl).toNat : Int) == 48) = false := by
        have := HP.out
        by_cases e2 : a + 1 < p
        · exact .inr ⟨decide_eq_true e2, decide_eq_true (by omega), beq_eq_false_iff_ne.2 fun h => hz0 ⟨by omega, by omega⟩⟩
        · exact .inl ⟨decide_eq_false e2, decide_eq_false (by omega)⟩
      by_cases h50 : 50 < dv s a m 0
      · have hR : count s a = .er 2 a := by rw [HCC.out, if_neg (fun h => h.elim h0 hz0), if_pos h50]
        have RC := Lib.hid hR
        have hq50 : decide ((50 : Int) < q) = true := decide_eq_true (by have := hbound.out.2.2 h50; have := HC.out; omega)
        clear hR h0 hz0 hb0 h50
        rcases hb with hb1 | ⟨hb1, hb2⟩ <;> rcases hdz with ⟨d3, d4⟩ | ⟨d3, d4, d5⟩
        all_goals
          go_wp2_with fail
          refine HN.out.mono ?_
          rintro e w1 ⟨rfl, hk1⟩
          have HQ1 := Lib.hid (HR.out.kp hk1 (noB_not _))
          have g0 := HQ1.out.c0
          have g1 := HQ1.out.c1
          have HE1 := Lib.hid (HEp.out.kp hk1 (fun k _ => noB_not _))
          have g2 := HE1.out.bound
          have HF := Lib.hid (rfail_new HQ1.out 2 a)
          have HK1 := Lib.hid (HK.out.trans hk1.any)
          clear hk1
          go_wp2_with fail
          refine HF.out.mono ?_
          rintro e w2 ⟨rfl, hq2, hk2⟩
          have R := Lib.hid (And.intro hq2 (HK1.out.trans hk2))
          clear hq2 hk2
          go_wp2_with fail
          go_ret
          exact cnt_er RC.out _ _ q p (by omega) hap hps ⟨rfl, R.out.2, R.out.1⟩
      · have hqd : q = dv s a m 0 := by rw [← HC.out]; exact hbound.out.2.1 (by omega)
        have hR : count s a = .ok q p := by rw [HCC.out, if_neg (fun h => h.elim h0 hz0), if_neg h50, hqd]
        have RC := Lib.hid hR
        have hq50 : decide ((50 : Int) < q) = false := decide_eq_false (by omega)
        clear hR h0 hz0 hb0 h50 hqd
        rcases hb with hb1 | ⟨hb1, hb2⟩ <;> rcases hdz with ⟨d3, d4⟩ | ⟨d3, d4, d5⟩
        all_goals
          go_wp2_with fail
          refine HN.out.mono ?_
          rintro e w1 ⟨rfl, hk1⟩
          have HQ1 := Lib.hid (HR.out.kp hk1 (noB_not _))
          have g0 := HQ1.out.c0
          have g1 := HQ1.out.c1
          have HK1 := Lib.hid (HK.out.trans hk1.any)
          clear hk1
          go_wp2_with fail
          go_ret
          exact cnt_ok RC.out _ _ ⟨rfl, HK1.out, HQ1.out⟩
end
end Go.Proofs.YtoijabgcgdgacaaGreatDoor
