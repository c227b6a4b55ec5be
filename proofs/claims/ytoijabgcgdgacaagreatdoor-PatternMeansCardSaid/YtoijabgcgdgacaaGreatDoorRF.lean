/-
  WALKS, rv: the reference's reader: a unit; the knot.
  WALKS, rw: the reference's reader: a unit within a sign; the knot.
-/
import Derived.Test.YtoijabgcgdgacaaGreatDoorRE
import Derived.Test.YtoijabgcgdgacaaGreatDoorGH
namespace Go.Proofs.YtoijabgcgdgacaaGreatDoor
open Go.RowKit Go.Proofs.Gram

/-- How what stands within a sign ends. -/
def TI (eb es : Addr) (s : ByteArray) (b a o : Nat) (w : World) (e : Ending) (w' : World) : Prop :=
  ∃ v t st p o', e = .returned v ∧ IsRe w' (fun k => w.heap.size ≤ k) v t ∧ QR eb es s b p o' st w' ∧ Kp (onB b) w w' ∧ a + 1 ≤ p ∧ p ≤ s.size ∧ o + 1 ≤ o' ∧ o' ≤ 101 ∧
    Hid ((st = none ∧ o' = o + 1 ∧ Ev s .unit a o (.ok t p)) ∨ ∃ x, st = some x ∧ Ev s .unit a o (.er x.1 x.2))

section
variable {eb es : Addr} {s : ByteArray} {b a o : Nat} {w : World}

set_option maxRecDepth 100000 in
theorem rinner_not (hs : s.size ≤ 65536) {n : Nat} (hU : RUnitC eb es s n) (h : QR eb es s b (a + 1) (o + 1) none w) (hE : Env 406 eb es w) (ha : a + 1 ≤ s.size) (hn : s.size ≤ a + (n + 1)) (ho : o < 100) (hx : pk s a = 126) :
    Calls Tryz.prog 288 #[.pointer (some ⟨b, 0, none⟩), .int .i64 126] w (TI eb es s b a o w) := by
  have HP := Lib.hid (hU b (a + 1) (o + 1) w h hE ha (by omega) (by omega))
  have HX := Lib.hid hx
  have t126 : ((126 : Int) == 126) = true := rfl
  clear h hE hU hx
  go_enter Tryz.func288, Tryz.ntmps288
  go_wp2_with fail
  refine HP.out.mono ?_
  rintro e w1 ⟨v, t, st, p, o', rfl, hre, hq, hk, hap, hps, hoo, hoo', HD⟩
  obtain ⟨z, rfl⟩ := IsRe_ptr hre
  have hK := kids_one hre hk.size
  have hRE := isRe_kids 5 0 0 hK (by have := hk.size; simp; omega)
  have hk3 := (hk.alloc (.cells #[.pointer z] 22)).alloc (.cells #[.int .i64 5, .slice none 0 0, .int .i64 0, .int .i64 0, .slice (some ⟨w1.heap.size, 0, none⟩) 1 1] 34)
  have hq3 := hq.kp (((Kp.refl noB w1).alloc (.cells #[.pointer z] 22)).alloc (.cells #[.int .i64 5, .slice none 0 0, .int .i64 0, .int .i64 0, .slice (some ⟨w1.heap.size, 0, none⟩) 1 1] 34)) (noB_not _)
  rw [show (w1.alloc (Obj.cells #[Value.pointer z] 22)).heap.size = w1.heap.size + 1 by simp] at hRE
  have R : Hid (TI eb es s b a o w (.returned (.pointer (some ⟨w1.heap.size + 1, 0, none⟩))) ((w1.alloc (.cells #[.pointer z] 22)).alloc (.cells #[.int .i64 5, .slice none 0 0, .int .i64 0, .int .i64 0, .slice (some ⟨w1.heap.size, 0, none⟩) 1 1] 34))) := Lib.hid
    ⟨_, _, st, p, o', rfl, hRE, hq3, hk3, hap, hps, hoo, hoo', Lib.hid (by
      rcases HD.out with ⟨h1, h2, h3, h4⟩ | ⟨x, h1, h2⟩
      · exact .inl ⟨h1, h2, Ev.not_ok HX.out ho h4⟩
      · exact .inr ⟨x, h1, Ev.not_er HX.out ho h2⟩)⟩
  clear hre hq hk hK hRE hk3 hq3 HD HP
  go_wp2_with fail
  go_ret
  exact R.out

set_option maxRecDepth 100000 in
theorem rinner_open (hs : s.size ≤ 65536) {n : Nat} (hU : RAnyC eb es s n) (h : QR eb es s b (a + 1) (o + 1) none w) (hE : Env 406 eb es w) (ha : a + 1 ≤ s.size) (hn : s.size ≤ a + (n + 1)) (ho : o < 100) (hx : pk s a = 40) :
    Calls Tryz.prog 288 #[.pointer (some ⟨b, 0, none⟩), .int .i64 40] w (TI eb es s b a o w) := by
  have HP := Lib.hid (hU b (a + 1) (o + 1) w h hE ha (by omega) (by omega))
  have HX := Lib.hid hx
  have hfar := h.far
  have hblt := h.lt
  have HE := Lib.hid hE
  have t126 : ((40 : Int) == 126) = false := rfl
  have t40 : ((40 : Int) == 40) = true := rfl
  clear h hE hU hx
  go_enter Tryz.func288, Tryz.ntmps288
  go_wp2_with fail
  refine HP.out.mono ?_
  clear HP
  rintro e w1 ⟨v, t, st, p, o', rfl, hre, hq, hk, hap, hps, hoo, hoo', HD⟩
  obtain ⟨z, rfl⟩ := IsRe_ptr hre
  have HRE := Lib.hid hre
  have HQ := Lib.hid hq
  have HK := Lib.hid hk
  have HE1 := Lib.hid (HE.out.kp hk (fun k hk => onB_not (by omega)))
  clear hre hq hk
  rcases HD.out with ⟨rfl, rfl, h4⟩ | ⟨x, rfl, h2⟩
  · by_cases h41 : pk s p = 41
    · have HN := Lib.hid (need_yes 41 HQ.out hs (by omega) (by omega) h41)
      have HEV := Lib.hid (Ev.open_ok HX.out ho h4 h41)
      have hpl := pk_lt s p (by omega)
      clear h4 h41 HD
      go_wp2_with fail
      refine HN.out.mono ?_
      rintro e w2 ⟨rfl, hk2, hq2⟩
      have R : Hid (TI eb es s b a o w (.returned (.pointer z)) w2) := Lib.hid ⟨_, t, none, p + 1, o + 1, rfl, HRE.out.kp hk2 (fun k _ hk => onB_not (by omega)), hq2, HK.out.trans hk2, by omega, by omega, Nat.le_refl _, by omega, Lib.hid (.inl ⟨rfl, rfl, HEV.out⟩)⟩
      clear hk2 hq2
      go_wp2_with fail
      go_ret
      exact R.out
    · have HN := Lib.hid (need_er 41 HQ.out HE1.out hs (by omega) h41)
      have HEV := Lib.hid (Ev.open_no HX.out ho h4 h41)
      clear h4 h41 HD
      go_wp2_with fail
      refine HN.out.mono ?_
      rintro e w2 ⟨rfl, hk2, hq2⟩
      have R : Hid (TI eb es s b a o w (.returned (.pointer z)) w2) := Lib.hid ⟨_, t, some (1, p), p, o + 1, rfl, HRE.out.kp hk2 (fun k _ hk => onB_not (by omega)), hq2, HK.out.trans hk2, by omega, by omega, Nat.le_refl _, by omega, Lib.hid (.inr ⟨_, rfl, HEV.out⟩)⟩
      clear hk2 hq2
      go_wp2_with fail
      go_ret
      exact R.out
  · have HN := Lib.hid (need_old 41 HQ.out HE1.out (by omega))
    have HEV := Lib.hid (Ev.open_er HX.out ho h2)
    clear h2 HD
    go_wp2_with fail
    refine HN.out.mono ?_
    rintro e w2 ⟨rfl, hk2⟩
    have R : Hid (TI eb es s b a o w (.returned (.pointer z)) w2) := Lib.hid ⟨_, t, some x, p, o', rfl, HRE.out.kp hk2 (fun k _ hk => noB_not _), HQ.out.kp hk2 (noB_not _), HK.out.trans hk2.any, by omega, by omega, hoo, hoo', Lib.hid (.inr ⟨x, rfl, HEV.out⟩)⟩
    clear hk2
    go_wp2_with fail
    go_ret
    exact R.out

theorem rinner_class (hs : s.size ≤ 65536) (h : QR eb es s b (a + 1) (o + 1) none w) (hE : Env 406 eb es w) (ha : a + 1 ≤ s.size) (ho : o < 100) (hx : pk s a = 91) :
    Calls Tryz.prog 288 #[.pointer (some ⟨b, 0, none⟩), .int .i64 91] w (TI eb es s b a o w) :=
  (rclass_any h hE hs ha).mono fun e w' ⟨v, t, st, p, he, hre, hq, hk, hap, hps, HD⟩ => ⟨v, t, st, p, o + 1, he, hre, hq, hk, hap, hps, Nat.le_refl _, by omega, Lib.hid (by
    rcases HD.out with ⟨h1, h2⟩ | ⟨x, h1, h2⟩
    · exact .inl ⟨h1, rfl, Ev.cls hx ho h2⟩
    · exact .inr ⟨x, h1, Ev.cls hx ho h2⟩)⟩

theorem isRe_pt {w : World} {B : Nat} (y : Int) (hB : B ≤ w.heap.size) : IsRe ((w.alloc (.cells #[.int .i64 y, .int .i64 y] 191)).alloc (.cells #[.int .i64 1, .slice (some ⟨w.heap.size, 0, none⟩) 1 1, .int .i64 0, .int .i64 0, .slice none 0 0] 34)) (fun k => B ≤ k) (.pointer (some ⟨w.heap.size + 1, 0, none⟩)) (.mk 1 [(y, y)] 0 0 []) := by
  have h1 := isRe_two y y hB
  have h2 := isRe_set h1 (by simp; omega)
  rw [show (w.alloc (Obj.cells #[Value.int IntKind.i64 y, Value.int IntKind.i64 y] 191)).heap.size = w.heap.size + 1 by simp] at h2
  exact h2

set_option maxRecDepth 100000 in
theorem runit_hurt (h : QR eb es s b a o none w) (hE : Env 406 eb es w) (hs : s.size ≤ 65536) (ho : o ≤ 100) (h2 : pk s a = -2) :
    Calls Tryz.prog 258 #[.pointer (some ⟨b, 0, none⟩)] w (TRS eb es s .unit b a o w) := by
  have HN := Lib.hid (now_hurt h hE (by omega) h2)
  have HEV := Lib.hid (Ev.unit_bad (o := o) h2)
  have hal := (pk_bad h2).1
  have hfar := h.far
  have HE := Lib.hid hE
  have t40 : ((-1 : Int) == 40) = false := rfl
  have t91 : ((-1 : Int) == 91) = false := rfl
  have t126 : ((-1 : Int) == 126) = false := rfl
  have t46 : ((-1 : Int) == 46) = false := rfl
  clear h hE h2
  go_enter Tryz.func258, Tryz.ntmps258
  go_wp2_with fail
  refine HN.out.mono ?_
  rintro e w1 ⟨rfl, hq1, hk1⟩
  have HP := Lib.hid (rpoint_old outR (by decide) hq1 (HE.out.kp hk1 (fun k hk => onB_not (by omega))))
  unfold outR at HP
  have HQ1 := Lib.hid hq1
  have HK1 := Lib.hid hk1
  clear hq1 hk1
  go_wp2_with fail
  refine HP.out.mono ?_
  rintro e w2 ⟨rfl, hk2⟩
  have R : Hid (TRS eb es s .unit b a o w (.returned (.pointer (some ⟨w2.heap.size + 1, 0, none⟩))) ((w2.alloc (.cells #[.int .i64 0, .int .i64 0] 191)).alloc (.cells #[.int .i64 1, .slice (some ⟨w2.heap.size, 0, none⟩) 1 1, .int .i64 0, .int .i64 0, .slice none 0 0] 34))) := Lib.hid (by
    have hk3 := (hk2.alloc (.cells #[.int .i64 0, .int .i64 0] 191)).alloc (.cells #[.int .i64 1, .slice (some ⟨w2.heap.size, 0, none⟩) 1 1, .int .i64 0, .int .i64 0, .slice none 0 0] 34)
    exact trs_er (x := (1, a)) (isRe_pt 0 (Nat.le_trans HK1.out.size hk2.size)) (HQ1.out.kp hk3 (noB_not _)) (HK1.out.trans hk3.any) (Nat.le_refl _) (by omega) (Nat.le_refl _) (by omega) HEV.out)
  clear hk2
  go_wp2_with fail
  go_ret
  exact R.out

set_option maxRecDepth 100000 in
theorem runit_point (h : QR eb es s b a o none w) (hE : Env 406 eb es w) (hs : s.size ≤ 65536) (ha : a ≤ s.size) (ho : o ≤ 100) (h2 : pk s a ≠ -2) (h126 : pk s a ≠ 126) (h40 : pk s a ≠ 40) (h91 : pk s a ≠ 91) (h46 : pk s a ≠ 46) :
    Calls Tryz.prog 258 #[.pointer (some ⟨b, 0, none⟩)] w (TRS eb es s .unit b a o w) := by
  have hN := now_ok h hs _ rfl h2
  have HEO := Lib.hid (fun x p hp => Ev.point_ok (o := o) (x := x) (p := p) h2 h126 h40 h91 h46 hp)
  have HER := Lib.hid (fun c p hp => Ev.point_er (o := o) (c := c) (p := p) h2 h126 h40 h91 h46 hp)
  have hfar := h.far
  have HE := Lib.hid hE
  have HQ := Lib.hid h
  generalize pk s a = x at hN h2 h126 h40 h91 h46
  have HN := Lib.hid hN
  have t40 : (x == (40 : Int)) = false := beq_eq_false_iff_ne.2 h40
  have t91 : (x == (91 : Int)) = false := beq_eq_false_iff_ne.2 h91
  have t126 : (x == (126 : Int)) = false := beq_eq_false_iff_ne.2 h126
  have t46 : (x == (46 : Int)) = false := beq_eq_false_iff_ne.2 h46
  clear h hE h2 h126 h40 h91 h46 hN
  go_enter Tryz.func258, Tryz.ntmps258
  go_wp2_with fail
  refine HN.out.mono ?_
  rintro e w1 ⟨rfl, hk1⟩
  have HP := Lib.hid (rpt_any (S := outR) (by decide) out_iff (HQ.out.kp hk1 (noB_not _)) (HE.out.kp hk1 (fun k _ => noB_not _)) hs ha (by decide))
  unfold outR at HP
  have HK1 := Lib.hid hk1
  clear hk1
  go_wp2_with fail
  refine HP.out.mono ?_
  clear HP
  intro e w2 hP2
  unfold PtR at hP2
  cases hpt : point s outs a with
  | er c p =>
    rw [hpt] at hP2
    obtain ⟨rfl, hk2, a2, ha2, ha2s, hq2⟩ := hP2
    have HEV := Lib.hid (HER.out _ _ hpt)
    have R : Hid (TRS eb es s .unit b a o w (.returned (.pointer (some ⟨w2.heap.size + 1, 0, none⟩))) ((w2.alloc (.cells #[.int .i64 0, .int .i64 0] 191)).alloc (.cells #[.int .i64 1, .slice (some ⟨w2.heap.size, 0, none⟩) 1 1, .int .i64 0, .int .i64 0, .slice none 0 0] 34))) := Lib.hid (by
      have hk3 := ((Kp.refl noB w2).alloc (.cells #[.int .i64 0, .int .i64 0] 191)).alloc (.cells #[.int .i64 1, .slice (some ⟨w2.heap.size, 0, none⟩) 1 1, .int .i64 0, .int .i64 0, .slice none 0 0] 34)
      exact trs_er (x := (c, p)) (isRe_pt 0 (Nat.le_trans HK1.out.size hk2.size)) (hq2.kp hk3 (noB_not _)) ((HK1.out.any.trans hk2).trans hk3.any) ha2 ha2s (Nat.le_refl _) (by omega) HEV.out)
    clear hk2 hq2 hpt
    go_wp2_with fail
    go_ret
    exact R.out
  | ok y p =>
    rw [hpt] at hP2
    obtain ⟨rfl, hk2, hq2⟩ := hP2
    have hadv := point_adv hpt
    have HEV := Lib.hid (HEO.out _ _ hpt)
    have R : Hid (TRS eb es s .unit b a o w (.returned (.pointer (some ⟨w2.heap.size + 1, 0, none⟩))) ((w2.alloc (.cells #[.int .i64 y, .int .i64 y] 191)).alloc (.cells #[.int .i64 1, .slice (some ⟨w2.heap.size, 0, none⟩) 1 1, .int .i64 0, .int .i64 0, .slice none 0 0] 34))) := Lib.hid (by
      have hk3 := ((Kp.refl noB w2).alloc (.cells #[.int .i64 y, .int .i64 y] 191)).alloc (.cells #[.int .i64 1, .slice (some ⟨w2.heap.size, 0, none⟩) 1 1, .int .i64 0, .int .i64 0, .slice none 0 0] 34)
      exact trs_ok (isRe_pt y (Nat.le_trans HK1.out.size hk2.size)) (hq2.kp hk3 (noB_not _)) ((HK1.out.any.trans hk2).trans hk3.any) hadv.1 hadv.2.1 ho HEV.out)
    clear hk2 hq2 hpt
    go_wp2_with fail
    go_ret
    exact R.out

set_option maxRecDepth 100000 in
theorem runit_dot (h : QR eb es s b a o none w) (hs : s.size ≤ 65536) (ho : o ≤ 100) (h46 : pk s a = 46) :
    Calls Tryz.prog 258 #[.pointer (some ⟨b, 0, none⟩)] w (TRS eb es s .unit b a o w) := by
  have HN := Lib.hid (now_ok h hs 46 h46 (by omega))
  have HEV := Lib.hid (Ev.dot (o := o) h46)
  have hpl := pk_lt s a (by omega)
  have hnx := nx_sign h46 (by omega) (by omega)
  have HQ := Lib.hid h
  have t40 : ((46 : Int) == 40) = false := rfl
  have t91 : ((46 : Int) == 91) = false := rfl
  have t126 : ((46 : Int) == 126) = false := rfl
  have t46 : ((46 : Int) == 46) = true := rfl
  have HNX := Lib.hid hnx
  clear h h46 hnx
  go_enter Tryz.func258, Tryz.ntmps258
  go_wp2_with fail
  refine HN.out.mono ?_
  rintro e w1 ⟨rfl, hk1⟩
  have HS := Lib.hid (skip_any (HQ.out.kp hk1 (noB_not _)) hpl (by omega))
  rw [HNX.out] at HS
  have HK1 := Lib.hid hk1
  clear hk1
  go_wp2_with fail
  refine HS.out.mono ?_
  rintro e w2 ⟨rfl, hq2, hk2⟩
  have R : Hid (TRS eb es s .unit b a o w (.returned (.pointer (some ⟨w2.heap.size + 1, 0, none⟩))) ((w2.alloc (.cells #[.int .i64 0, .int .i64 9, .int .i64 11, .int .i64 1114111] 191)).alloc (.cells #[.int .i64 1, .slice (some ⟨w2.heap.size, 0, none⟩) 2 2, .int .i64 0, .int .i64 0, .slice none 0 0] 34))) := Lib.hid (by
    have hk3 := ((Kp.refl noB w2).alloc (.cells #[.int .i64 0, .int .i64 9, .int .i64 11, .int .i64 1114111] 191)).alloc (.cells #[.int .i64 1, .slice (some ⟨w2.heap.size, 0, none⟩) 2 2, .int .i64 0, .int .i64 0, .slice none 0 0] 34)
    have hB : w.heap.size ≤ w2.heap.size := Nat.le_trans HK1.out.size hk2.size
    have hr : Rngs (w2.alloc (.cells #[.int .i64 0, .int .i64 9, .int .i64 11, .int .i64 1114111] 191)) (fun k => w.heap.size ≤ k) (.slice (some ⟨w2.heap.size, 0, none⟩) 2 2) [(0, 9), (11, 1114111)] :=
      .inr ⟨w2.heap.size, 0, 2, rfl, Nat.le_refl _, by simp [maxLen], hB, by simp, fun i u hu => by
        match i, hu with
        | 0, hu => simp [rcells] at hu; subst hu; simp
        | 1, hu => simp [rcells] at hu; subst hu; simp
        | 2, hu => simp [rcells] at hu; subst hu; simp
        | 3, hu => simp [rcells] at hu; subst hu; simp
        | i + 4, hu => simp [rcells] at hu⟩
    have hre := isRe_set hr (by simp; omega)
    rw [show (w2.alloc (.cells #[.int .i64 0, .int .i64 9, .int .i64 11, .int .i64 1114111] 191)).heap.size = w2.heap.size + 1 by simp] at hre
    exact trs_ok hre (hq2.kp hk3 (noB_not _)) ((HK1.out.any.trans hk2).trans hk3.any) (by omega) (by omega) ho HEV.out)
  clear hk2 hq2
  go_wp2_with fail
  go_ret
  exact R.out
end
end Go.Proofs.YtoijabgcgdgacaaGreatDoor

namespace Go.Proofs.YtoijabgcgdgacaaGreatDoor
open Go.RowKit Go.Proofs.Gram

section
variable {eb es : Addr} {s : ByteArray} {b a o : Nat} {w : World}

set_option maxRecDepth 100000 in
theorem runit_deep (h : QR eb es s b a o none w) (hE : Env 406 eb es w) (hs : s.size ≤ 65536) (hx : pk s a = 126 ∨ pk s a = 40 ∨ pk s a = 91) (ho : o = 100) :
    Calls Tryz.prog 258 #[.pointer (some ⟨b, 0, none⟩)] w (TRS eb es s .unit b a o w) := by
  have HEV := Lib.hid (Ev.unit_deep (o := o) hx (by omega))
  have hal := pk_lt s a (by omega)
  have hN := now_ok h hs _ rfl (by omega)
  generalize pk s a = x at hN hx
  have hb : (x == (40 : Int)) = true ∨ (x == (40 : Int)) = false ∧ (x == (91 : Int)) = true ∨ (x == (40 : Int)) = false ∧ (x == (91 : Int)) = false ∧ (x == (126 : Int)) = true := by
    rcases hx with rfl | rfl | rfl <;> decide
  have HN := Lib.hid hN
  have HQ := Lib.hid h
  have HE := Lib.hid hE
  have hfar := h.far
  have hw1 : IntKind.i64.wrap ((o : Int) + 1) = (o : Int) + 1 := by rw [IntKind.wrap_i64]; omega
  have hd : decide ((100 : Int) < (o : Int) + 1) = true := decide_eq_true (by omega)
  have herr := err_ne
  have HO := Lib.hid ho
  clear h hE hx hN ho
  rcases hb with t1 | ⟨t1, t2⟩ | ⟨t1, t2, t3⟩
  all_goals
    go_enter Tryz.func258, Tryz.ntmps258
    go_wp2_with fail
    refine HN.out.mono ?_
    rintro e w1 ⟨rfl, hk1⟩
    have hq1 := HQ.out.kp hk1 (noB_not _)
    have hc2 := hq1.c2
    have hz2 := hq1.z 2
    have hq2 := hq1.op (o + 1)
    have hk2 := (hk1.any (F := onB b)).setCell (F := onB b) (p := ⟨b, 2, none⟩) (.inl (onB_self b)) (.int .i64 ((o + 1 : Nat) : Int))
    rw [show ((o + 1 : Nat) : Int) = (o : Int) + 1 from by omega] at hq2 hk2
    obtain ⟨w2, HW⟩ : ∃ w2, Hid (w1.setCell ⟨b, 2, none⟩ (.int .i64 ((o : Int) + 1)) = w2) := ⟨_, rfl⟩
    rw [HW.out] at hq2 hk2
    have HQ2 := Lib.hid hq2
    have HK2 := Lib.hid hk2
    clear hq1 hq2 hk2 hk1
    go_upto_region 4 with (fail)
    rw [HW.out]
    clear hc2 hz2
    have g2 := HQ2.out.c2
    have g1 := HQ2.out.c1
    have gb := (HE.out.kp HK2.out (fun k hk => onB_not (by omega))).bound
    rw [show ((o + 1 : Nat) : Int) = (o : Int) + 1 from by omega] at g2
    have HF : Hid (Calls Tryz.prog 58 #[.pointer (some ⟨b, 0, none⟩), .iface 406 (.pointer (some eb)), .int .i64 a] w2.drew fun e w' => e = .returned (.tuple #[]) ∧ QR eb es s b a (o + 1) (some (2, a)) w' ∧ Kp (onB b) w2.drew w') := Lib.hid (rfail_new (HQ2.out.kp ((Kp.refl noB w2).drew) (noB_not _)) 2 a)
    go_wp2_with fail
    go_still_tail 6, (by kernel_rfl)
    change wpList _ _ _ _ _ w2.drew
    go_wp2_with fail
    refine HF.out.mono ?_
    rintro e w3 ⟨rfl, hq3, hk3⟩
    have g3 := hq3.c3
    simp only [badV] at g3
    have R : Hid (TRS eb es s .unit b a o w (.returned (.pointer none)) w3) := Lib.hid (trs_er (x := (2, a)) .nil hq3 (HK2.out.drew.trans hk3) (Nat.le_refl _) (by omega) (by omega) (by have := HO.out; omega) HEV.out)
    clear hq3 hk3 g1 g2 gb
    go_wp2_with fail
    go_ret
    exact R.out

set_option maxRecDepth 100000 in
theorem runit_in (h : QR eb es s b a o none w) (hs : s.size ≤ 65536) (ho : o < 100) (x : Int) (hpx : pk s a = x) (hx : x = 126 ∨ x = 40 ∨ x = 91)
    (HIN : ∀ W, Kp (onB b) w W → QR eb es s b (a + 1) (o + 1) none W → Calls Tryz.prog 288 #[.pointer (some ⟨b, 0, none⟩), .int .i64 x] W (TI eb es s b a o W)) :
    Calls Tryz.prog 258 #[.pointer (some ⟨b, 0, none⟩)] w (TRS eb es s .unit b a o w) := by
  have hal := pk_lt s a (by omega)
  have hN := now_ok h hs x hpx (by omega)
  have hb : (x == (40 : Int)) = true ∨ (x == (40 : Int)) = false ∧ (x == (91 : Int)) = true ∨ (x == (40 : Int)) = false ∧ (x == (91 : Int)) = false ∧ (x == (126 : Int)) = true := by
    rcases hx with rfl | rfl | rfl <;> decide
  have hnx := nx_sign hpx (by omega) (by omega)
  have HNX := Lib.hid hnx
  have HN := Lib.hid hN
  have HQ := Lib.hid h
  have HI := Lib.hid HIN
  have hfar := h.far
  have hblt := h.lt
  have hw1 : IntKind.i64.wrap ((o : Int) + 1) = (o : Int) + 1 := by rw [IntKind.wrap_i64]; omega
  have hd : decide ((100 : Int) < (o : Int) + 1) = false := decide_eq_false (by omega)
  have hnil := nil_ne
  clear h hx hN hpx hnx HIN
  rcases hb with t1 | ⟨t1, t2⟩ | ⟨t1, t2, t3⟩
  all_goals
    go_enter Tryz.func258, Tryz.ntmps258
    go_wp2_with fail
    refine HN.out.mono ?_
    rintro e w1 ⟨rfl, hk1⟩
    have hq1 := HQ.out.kp hk1 (noB_not _)
    have hc2 := hq1.c2
    have hz2 := hq1.z 2
    have hq2 := hq1.op (o + 1)
    have hk2 := (hk1.any (F := onB b)).setCell (F := onB b) (p := ⟨b, 2, none⟩) (.inl (onB_self b)) (.int .i64 ((o + 1 : Nat) : Int))
    rw [show ((o + 1 : Nat) : Int) = (o : Int) + 1 from by omega] at hq2 hk2
    obtain ⟨w2, HW⟩ : ∃ w2, Hid (w1.setCell ⟨b, 2, none⟩ (.int .i64 ((o : Int) + 1)) = w2) := ⟨_, rfl⟩
    rw [HW.out] at hq2 hk2
    have HQ2 := Lib.hid hq2
    have HK2 := Lib.hid hk2
    clear hq1 hq2 hk2 hk1
    go_upto_region 4 with (fail)
    rw [HW.out]
    clear hc2 hz2
    have g2 := HQ2.out.c2
    have g3 := HQ2.out.c3
    simp only [badV] at g3
    rw [show ((o + 1 : Nat) : Int) = (o : Int) + 1 from by omega] at g2
    have HS := Lib.hid (skip_any HQ2.out hal (by omega))
    rw [HNX.out] at HS
    go_wp2_with fail
    refine HS.out.mono ?_
    rintro e w3 ⟨rfl, hq3, hk3⟩
    have HK3 := Lib.hid (HK2.out.trans hk3)
    have HP := Lib.hid (HI.out w3 HK3.out hq3)
    clear hq3 hk3 g2 g3
    go_wp2_with fail
    refine HP.out.mono ?_
    clear HP
    rintro e w4 ⟨v, t, st, p, o', rfl, hre, hq4, hk4, hap, hps, hoo, hoo', HD⟩
    obtain ⟨z, rfl⟩ := IsRe_ptr hre
    obtain ⟨o2, rfl⟩ : ∃ o2, o' = o2 + 1 := ⟨o' - 1, by omega⟩
    have g4 := hq4.c2
    have gz := hq4.z 2
    rw [show ((o2 + 1 : Nat) : Int) = (o2 : Int) + 1 from by omega] at g4
    have hw2 : IntKind.i64.wrap ((o2 : Int) + 1 - 1) = (o2 : Int) := by rw [IntKind.wrap_i64]; omega
    have R : Hid (TRS eb es s .unit b a o w (.returned (.pointer z)) (w4.setCell ⟨b, 2, none⟩ (.int .i64 o2))) := Lib.hid (by
      have hq5 := hq4.op o2
      have hk5 : Kp (onB b) w4 (w4.setCell ⟨b, 2, none⟩ (.int .i64 o2)) := (Kp.refl _ _).setCell (.inl (onB_self b)) _
      have hs3 := HK3.out.size
      have hre5 : IsRe (w4.setCell ⟨b, 2, none⟩ (.int .i64 o2)) (fun k => w.heap.size ≤ k) (.pointer z) t := (hre.kp hk5 (fun k _ hk => onB_not (by omega))).ok fun k _ hk => by omega
      have hk05 := (HK3.out.trans hk4).trans hk5
      rcases HD.out with ⟨rfl, h2, h3⟩ | ⟨y, rfl, h2⟩
      · obtain rfl : o2 = o := by omega
        exact trs_ok hre5 hq5 hk05 (by omega) hps (by omega) h3
      · exact trs_er hre5 hq5 hk05 (by omega) hps (by omega) (by omega) h2)
    clear hre hq4 hk4 HD
    go_wp2_with fail
    go_ret
    exact R.out

theorem runit_any (hs : s.size ≤ 65536) : ∀ n, RUnitC eb es s n := by
  intro n
  induction n with
  | zero =>
    intro b a o w hr hE ha hn ho
    by_cases h0 : pk s a = -2
    · exact runit_hurt hr hE hs ho h0
    have he : pk s a = -1 := by
      by_cases h : pk s a = -1
      · exact h
      · have := pk_lt s a h; omega
    exact runit_point hr hE hs ha ho h0 (by omega) (by omega) (by omega) (by omega)
  | succ n ih =>
    intro b a o w hr hE ha hn ho
    have hfar := hr.far
    by_cases h0 : pk s a = -2
    · exact runit_hurt hr hE hs ho h0
    have hEW : ∀ W, Kp (onB b) w W → Env 406 eb es W := fun W hk => hE.kp hk fun k hk => onB_not (by omega)
    by_cases h1 : pk s a = 126
    · have hpl := pk_lt s a (by omega)
      by_cases h : o < 100
      · exact runit_in hr hs h 126 h1 (.inl rfl) fun W hk hq => rinner_not hs ih hq (hEW W hk) (by omega) hn h h1
      · exact runit_deep hr hE hs (.inl h1) (by omega)
    by_cases h2 : pk s a = 40
    · have hpl := pk_lt s a (by omega)
      by_cases h : o < 100
      · exact runit_in hr hs h 40 h2 (.inr (.inl rfl)) fun W hk hq => rinner_open hs (rany_of_unit hs ih) hq (hEW W hk) (by omega) hn h h2
      · exact runit_deep hr hE hs (.inr (.inl h2)) (by omega)
    by_cases h3 : pk s a = 91
    · have hpl := pk_lt s a (by omega)
      by_cases h : o < 100
      · exact runit_in hr hs h 91 h3 (.inr (.inr rfl)) fun W hk hq => rinner_class hs hq (hEW W hk) (by omega) h h3
      · exact runit_deep hr hE hs (.inr (.inr h3)) (by omega)
    by_cases h4 : pk s a = 46
    · exact runit_dot hr hs ho h4
    exact runit_point hr hE hs ha ho h0 h1 h2 h3 h4

/-- THE REFERENCE's READER, but for the end. -/
theorem rany_any (hs : s.size ≤ 65536) (n : Nat) : RAnyC eb es s n := rany_of_unit hs (runit_any hs n)
end
end Go.Proofs.YtoijabgcgdgacaaGreatDoor
