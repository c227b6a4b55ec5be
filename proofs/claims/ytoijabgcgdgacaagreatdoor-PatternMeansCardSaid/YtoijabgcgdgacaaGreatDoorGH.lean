/-
  WALKS, s: the program's reader of patterns: a unit.
  WALKS, t: the program's reader of patterns: a unit's other arms; the knot.
  WALKS, u: slices.Equal on ranges; pattern.counts.
  WALKS, v: a pattern's weight.
-/
import Derived.Test.YtoijabgcgdgacaaGreatDoorGG
import Derived.Test.YtoijabgcgdgacaaGreatDoorGF
import Derived.Test.YtoijabgcgdgacaaGreatDoorGB
import Derived.Laws.StructEq
namespace Go.Proofs.YtoijabgcgdgacaaGreatDoor
open Go.RowKit Go.Proofs.Gram Go.Lib

def AnyC (T : TypeId) (eb es : Addr) (s : ByteArray) (n : Nat) : Prop := ∀ (b a o : Nat) (w : World), RD s b a o w → Env T eb es w → a ≤ s.size → s.size ≤ a + n → o ≤ 100 →
  Calls Tryz.prog 44 #[.pointer (some ⟨b, 0, none⟩), .int .i64 3, .int .i32 124, .func (.func 45) #[.pointer (some ⟨b, 0, none⟩)] #[]] w fun e w' => ∃ r, Ev s .any a o r ∧ TP T eb es s b a o w r e w'

theorem isRe_two {w : World} {B : Nat} (x y : Int) (hB : B ≤ w.heap.size) : Rngs (w.alloc (.cells #[.int .i64 x, .int .i64 y] 191)) (fun k => B ≤ k) (.slice (some ⟨w.heap.size, 0, none⟩) 1 1) [(x, y)] :=
  .inr ⟨w.heap.size, 0, 1, rfl, by simp, by simp [maxLen], hB, by simp, fun i u hu => by
    match i, hu with
    | 0, hu => exact two_new w (.int .i64 x) (.int .i64 y) 191 0 u hu
    | 1, hu => exact two_new w (.int .i64 x) (.int .i64 y) 191 1 u hu⟩

section
variable {T : TypeId} {eb es : Addr} {s : ByteArray} {b a o : Nat} {w : World}

set_option maxRecDepth 100000 in
theorem unit_bad (hr : RD s b a o w) (hE : Env T eb es w) (hsz : s.size ≤ 65536) (h : pk s a = -2) :
    Calls Tryz.prog 202 #[.pointer (some ⟨b, 0, none⟩)] w fun e w' => ∃ r, Ev s .unit a o r ∧ TS T eb es s b a o w r e w' := by
  have HQ := Lib.hid (peek_bad hr hE hsz h)
  have HR := Lib.hid (Ev.unit_bad (o := o) h)
  clear h
  go_enter Tryz.func202, Tryz.ntmps202
  go_wp2_with fail
  refine HQ.out.mono ?_
  rintro e w2 ⟨⟨g, rfl, hg⟩, hk2⟩
  go_wp2_with fail
  exact ⟨rfl, _, HR.out, ⟨by rw [erA_one]; exact ⟨g, rfl, hg⟩, hk2.any⟩, fun t p h => by cases h⟩

theorem erA_two (eb es : Addr) : erA eb es 2 = eb := by simp [erA]

set_option maxRecDepth 100000 in
theorem unit_deep (hr : RD s b a o w) (hE : Env T eb es w) (hsz : s.size ≤ 65536) (h : pk s a = 126 ∨ pk s a = 40 ∨ pk s a = 91) (ho : 100 ≤ o) (ho' : o ≤ 1000) :
    Calls Tryz.prog 202 #[.pointer (some ⟨b, 0, none⟩)] w fun e w' => ∃ r, Ev s .unit a o r ∧ TS T eb es s b a o w r e w' := by
  obtain ⟨x, hx⟩ : ∃ x, pk s a = x := ⟨_, rfl⟩
  have HQ := Lib.hid (peek_ok hr hE hsz x hx (by omega))
  have HR := Lib.hid (Ev.unit_deep (o := o) h ho)
  rw [hx] at h
  have hb : (x == (126 : Int)) = true ∨ ((x == (126 : Int)) = false ∧ (x == (40 : Int)) = true) ∨ ((x == (126 : Int)) = false ∧ (x == (40 : Int)) = false ∧ (x == (91 : Int)) = true) := by
    rcases h with rfl | rfl | rfl <;> decide
  clear h hx
  go_enter Tryz.func202, Tryz.ntmps202
  go_wp2_with fail
  refine HQ.out.mono ?_
  rintro e w2 ⟨rfl, hk2⟩
  have HD := Lib.hid (down_bad (hr.kp hk2 (noB_not _)) (hE.kp hk2 (fun k _ => noB_not _)) ho ho')
  rcases hb with hb1 | ⟨hb1, hb2⟩ | ⟨hb1, hb2, hb3⟩
  all_goals
    go_wp2_with fail
    refine HD.out.mono ?_
    rintro e w3 ⟨⟨g, rfl, hg⟩, hk3⟩
    go_wp2_with fail
    exact ⟨rfl, _, HR.out, ⟨by rw [erA_two]; exact ⟨g, rfl, hg⟩, hk2.any.trans hk3⟩, fun t p h => by cases h⟩

set_option maxRecDepth 100000 in
set_option maxHeartbeats 4000000 in
theorem unit_not (hr : RD s b a o w) (hE : Env T eb es w) (hsz : s.size ≤ 65536) {n : Nat} (hU : UnitC T eb es s n) (h : pk s a = 126) (ho : o < 100) (hn : s.size ≤ a + (n + 1)) :
    Calls Tryz.prog 202 #[.pointer (some ⟨b, 0, none⟩)] w fun e w' => ∃ r, Ev s .unit a o r ∧ TS T eb es s b a o w r e w' := by
  have HQ := Lib.hid (peek_ok hr hE hsz 126 h (by omega))
  have HS := Lib.hid h
  have hpl := pk_lt s a (by omega)
  have hfar := hr.far
  have hblt := hr.lt
  clear h
  go_enter Tryz.func202, Tryz.ntmps202
  go_wp2_with fail
  refine HQ.out.mono ?_
  rintro e w2 ⟨rfl, hk2⟩
  have HD := Lib.hid (down_ok (hr.kp hk2 (noB_not _)) ho)
  go_wp2_with fail
  refine HD.out.mono ?_
  clear HD
  rintro e w3 ⟨rfl, hk3, hr3⟩
  have hk03 := (hk2.any (F := onB b)).trans hk3
  have hc3 := hr3.c1
  have hz3 := hr3.z
  have hr4 := hr3.at (a + 1)
  have hk4 := hk03.setCell (F := onB b) (p := ⟨b, 1, none⟩) (.inl (onB_self b)) (.int .i64 ((a + 1 : Nat) : Int))
  rw [show ((a + 1 : Nat) : Int) = (a : Int) + 1 from by omega] at hr4 hk4
  obtain ⟨w4, HW⟩ : ∃ w4, Hid (w3.setCell ⟨b, 1, none⟩ (.int .i64 ((a : Int) + 1)) = w4) := ⟨_, rfl⟩
  rw [HW.out] at hr4 hk4
  clear hk03 hk3 hk2 hr3
  go_upto_region 8 with (fail)
  rw [HW.out]
  clear hc3 hz3
  have hE4 := hE.kp hk4 (fun k hk => onB_not (by omega))
  have HP := Lib.hid (hU b (a + 1) (o + 1) w4 hr4 hE4 (by omega) (by omega) (by omega))
  go_wp2_with fail
  refine HP.out.mono ?_
  clear HP
  rintro e w5 ⟨r, hev, hT, hadv⟩
  cases r with
  | er c q =>
    obtain ⟨⟨g, rfl, hg⟩, hk5⟩ := hT
    have HR := Lib.hid (Ev.not_er HS.out ho hev)
    clear hev hadv
    go_wp2_with fail
    exact ⟨rfl, _, HR.out, ⟨⟨g, rfl, hg⟩, hk4.trans hk5⟩, fun t p h => by cases h⟩
  | ok t q =>
    obtain ⟨y, rfl, hk5, hr5, hre, hpq, hqs⟩ := hT
    have HR := Lib.hid (Ev.not_ok HS.out ho hev)
    obtain ⟨z, rfl⟩ := IsRe_ptr hre
    have hks4 := hk4.size
    have hks5 := hk5.size
    have hk6 : Kp (onB b) w5 (w5.setCell ⟨b, 2, none⟩ (.int .i64 o)) := (Kp.refl _ _).setCell (.inl (onB_self b)) _
    have hr6 := hr5.op o
    obtain ⟨w6, HW6⟩ : ∃ w6, Hid (w5.setCell ⟨b, 2, none⟩ (.int .i64 o) = w6) := ⟨_, rfl⟩
    rw [HW6.out] at hk6 hr6
    have hre6 : IsRe w6 (fun k => w.heap.size ≤ k) (.pointer z) t := (hre.kp hk6 (fun k _ hk => onB_not (by omega))).ok fun k _ hk => by omega
    have hk06 := (hk4.trans hk5).trans hk6
    have HK := Lib.hid (kids_one hre6 hk06.size)
    have HRE := Lib.hid (isRe_kids 5 0 0 HK.out (by have := hk06.size; simp; omega))
    have HK6 := Lib.hid ((hk06.alloc (.cells #[.pointer z] 22)).alloc (.cells #[.int .i64 5, .slice none 0 0, .int .i64 0, .int .i64 0, .slice (some ⟨w6.heap.size, 0, none⟩) 1 1] 34))
    have HR6 := Lib.hid (hr6.kp (((Kp.refl noB _).alloc (.cells #[.pointer z] 22)).alloc (.cells #[.int .i64 5, .slice none 0 0, .int .i64 0, .int .i64 0, .slice (some ⟨w6.heap.size, 0, none⟩) 1 1] 34)) (noB_not _))
    have hc5 := hr5.c2
    have hz5 := hr5.z
    rw [show ((o + 1 : Nat) : Int) = (o : Int) + 1 from by omega] at hc5
    have hw : IntKind.i64.wrap ((o : Int) + 1 - 1) = (o : Int) := by rw [IntKind.wrap_i64]; omega
    clear hev hadv hre hre6 hk06 hr6 hr5 hk6 hk5 HK
    go_upto_region 10 with (fail)
    rw [HW6.out]
    clear hc5 hz5 hw
    go_wp2_with fail
    go_ret
    rw [show (w6.alloc (Obj.cells #[Value.pointer z] 22)).heap.size = w6.heap.size + 1 by simp] at HRE
    exact ⟨_, HR.out, ⟨_, rfl, HK6.out, HR6.out, HRE.out, by omega, hqs⟩, fun t' p' h => by cases h; omega⟩

end
end Go.Proofs.YtoijabgcgdgacaaGreatDoor

namespace Go.Proofs.YtoijabgcgdgacaaGreatDoor
open Go.RowKit Go.Proofs.Gram Go.Lib

section
variable {T : TypeId} {eb es : Addr} {s : ByteArray} {b a o : Nat} {w : World}

set_option maxRecDepth 100000 in
set_option maxHeartbeats 4000000 in
theorem unit_open (hr : RD s b a o w) (hE : Env T eb es w) (hsz : s.size ≤ 65536) {n : Nat} (hU : AnyC T eb es s n) (h : pk s a = 40) (ho : o < 100) (hn : s.size ≤ a + (n + 1)) :
    Calls Tryz.prog 202 #[.pointer (some ⟨b, 0, none⟩)] w fun e w' => ∃ r, Ev s .unit a o r ∧ TS T eb es s b a o w r e w' := by
  have HQ := Lib.hid (peek_ok hr hE hsz 40 h (by omega))
  have HS := Lib.hid h
  have hpl := pk_lt s a (by omega)
  have hfar := hr.far
  have hblt := hr.lt
  clear h
  go_enter Tryz.func202, Tryz.ntmps202
  go_wp2_with fail
  refine HQ.out.mono ?_
  rintro e w2 ⟨rfl, hk2⟩
  have HD := Lib.hid (down_ok (hr.kp hk2 (noB_not _)) ho)
  go_wp2_with fail
  refine HD.out.mono ?_
  clear HD
  rintro e w3 ⟨rfl, hk3, hr3⟩
  have hk03 := (hk2.any (F := onB b)).trans hk3
  have hc3 := hr3.c1
  have hz3 := hr3.z
  have hr4 := hr3.at (a + 1)
  have hk4 := hk03.setCell (F := onB b) (p := ⟨b, 1, none⟩) (.inl (onB_self b)) (.int .i64 ((a + 1 : Nat) : Int))
  rw [show ((a + 1 : Nat) : Int) = (a : Int) + 1 from by omega] at hr4 hk4
  obtain ⟨w4, HW⟩ : ∃ w4, Hid (w3.setCell ⟨b, 1, none⟩ (.int .i64 ((a : Int) + 1)) = w4) := ⟨_, rfl⟩
  rw [HW.out] at hr4 hk4
  clear hk03 hk3 hk2 hr3
  go_upto_region 14 with (fail)
  rw [HW.out]
  clear hc3 hz3
  have hE4 := hE.kp hk4 (fun k hk => onB_not (by omega))
  have HP := Lib.hid (hU b (a + 1) (o + 1) w4 hr4 hE4 (by omega) (by omega) (by omega))
  go_wp2_with fail
  refine HP.out.mono ?_
  clear HP
  rintro e w5 ⟨r, hev, hT⟩
  cases r with
  | er c q =>
    obtain ⟨⟨g, rfl, hg⟩, hk5⟩ := hT
    have HR := Lib.hid (Ev.open_er HS.out ho hev)
    clear hev
    go_wp2_with fail
    exact ⟨rfl, _, HR.out, ⟨⟨g, rfl, hg⟩, hk4.trans hk5⟩, fun t p h => by cases h⟩
  | ok t q =>
    obtain ⟨y, rfl, hk5, hr5, hre, hpq, hqs⟩ := hT
    obtain ⟨z, rfl⟩ := IsRe_ptr hre
    have hks4 := hk4.size
    have hks5 := hk5.size
    have hE5 := hE4.kp hk5 (fun k hk => onB_not (by omega))
    by_cases h41 : pk s q = 41
    · have HWT := Lib.hid (want_yes 41 hr5 hE5 hsz (by omega) (by omega) h41)
      have HR := Lib.hid (Ev.open_ok HS.out ho hev h41)
      have hql := pk_lt s q (by omega)
      clear h41 hev
      go_wp2_with fail
      refine HWT.out.mono ?_
      clear HWT
      rintro e w6 ⟨rfl, hk6, hr6⟩
      have hk7 : Kp (onB b) w6 (w6.setCell ⟨b, 2, none⟩ (.int .i64 o)) := (Kp.refl _ _).setCell (.inl (onB_self b)) _
      have hr7 := hr6.op o
      have hre7 : IsRe (w6.setCell ⟨b, 2, none⟩ (.int .i64 o)) (fun k => w.heap.size ≤ k) (.pointer z) t := (hre.kp (hk6.trans hk7) (fun k _ hk => onB_not (by omega))).ok fun k _ hk => by omega
      have R := Lib.hid (And.intro ((hk4.trans hk5).trans (hk6.trans hk7)) (And.intro hr7 hre7))
      have hc6 := hr6.c2
      have hz6 := hr6.z
      rw [show ((o + 1 : Nat) : Int) = (o : Int) + 1 from by omega] at hc6
      have hw : IntKind.i64.wrap ((o : Int) + 1 - 1) = (o : Int) := by rw [IntKind.wrap_i64]; omega
      clear hk7 hr7 hre7 hk6 hr6 hre hr5 hk5
      go_wp2_with fail
      go_ret
      exact ⟨_, HR.out, ⟨_, rfl, R.out.1, R.out.2.1, R.out.2.2, by omega, by omega⟩, fun t' p' h => by cases h; omega⟩
    · have HWT := Lib.hid (want_bad 41 hr5 hE5 hsz h41)
      have HR := Lib.hid (Ev.open_no HS.out ho hev h41)
      clear h41 hev
      go_wp2_with fail
      refine HWT.out.mono ?_
      clear HWT
      rintro e w6 ⟨⟨g, rfl, hg⟩, hk6⟩
      go_wp2_with fail
      exact ⟨rfl, _, HR.out, ⟨by rw [erA_one]; exact ⟨g, rfl, hg⟩, (hk4.trans hk5).trans hk6.any⟩, fun t p h => by cases h⟩

set_option maxRecDepth 100000 in
set_option maxHeartbeats 4000000 in
theorem unit_class (hr : RD s b a o w) (hE : Env T eb es w) (hsz : s.size ≤ 65536) (h : pk s a = 91) (ho : o < 100) :
    Calls Tryz.prog 202 #[.pointer (some ⟨b, 0, none⟩)] w fun e w' => ∃ r, Ev s .unit a o r ∧ TS T eb es s b a o w r e w' := by
  have HQ := Lib.hid (peek_ok hr hE hsz 91 h (by omega))
  have HS := Lib.hid h
  have hpl := pk_lt s a (by omega)
  have hfar := hr.far
  have hblt := hr.lt
  clear h
  go_enter Tryz.func202, Tryz.ntmps202
  go_wp2_with fail
  refine HQ.out.mono ?_
  rintro e w2 ⟨rfl, hk2⟩
  have HD := Lib.hid (down_ok (hr.kp hk2 (noB_not _)) ho)
  go_wp2_with fail
  refine HD.out.mono ?_
  clear HD
  rintro e w3 ⟨rfl, hk3, hr3⟩
  have hk03 := (hk2.any (F := onB b)).trans hk3
  have hc3 := hr3.c1
  have hz3 := hr3.z
  have hr4 := hr3.at (a + 1)
  have hk4 := hk03.setCell (F := onB b) (p := ⟨b, 1, none⟩) (.inl (onB_self b)) (.int .i64 ((a + 1 : Nat) : Int))
  rw [show ((a + 1 : Nat) : Int) = (a : Int) + 1 from by omega] at hr4 hk4
  obtain ⟨w4, HW⟩ : ∃ w4, Hid (w3.setCell ⟨b, 1, none⟩ (.int .i64 ((a : Int) + 1)) = w4) := ⟨_, rfl⟩
  rw [HW.out] at hr4 hk4
  clear hk03 hk3 hk2 hr3
  go_upto_region 21 with (fail)
  rw [HW.out]
  clear hc3 hz3
  have hE4 := hE.kp hk4 (fun k hk => onB_not (by omega))
  have HP := Lib.hid (class_any hr4 hE4 hsz (by omega))
  go_wp2_with fail
  refine HP.out.mono ?_
  clear HP
  rintro e w5 ⟨r, hev, hT⟩
  have HR := Lib.hid (Ev.cls HS.out ho hev)
  clear hev
  cases r with
  | er c q =>
    obtain ⟨⟨g, rfl, hg⟩, hk5⟩ := hT
    go_wp2_with fail
    exact ⟨rfl, _, HR.out, ⟨⟨g, rfl, hg⟩, hk4.trans hk5⟩, fun t p h => by cases h⟩
  | ok t q =>
    obtain ⟨y, rfl, hk5, hr5, hre, hpq, hqs⟩ := hT
    obtain ⟨z, rfl⟩ := IsRe_ptr hre
    have hks4 := hk4.size
    have hks5 := hk5.size
    have hk7 : Kp (onB b) w5 (w5.setCell ⟨b, 2, none⟩ (.int .i64 o)) := (Kp.refl _ _).setCell (.inl (onB_self b)) _
    have hr7 := hr5.op o
    have hre7 : IsRe (w5.setCell ⟨b, 2, none⟩ (.int .i64 o)) (fun k => w.heap.size ≤ k) (.pointer z) t := (hre.kp hk7 (fun k _ hk => onB_not (by omega))).ok fun k _ hk => by omega
    have R := Lib.hid (And.intro ((hk4.trans hk5).trans hk7) (And.intro hr7 hre7))
    have hc6 := hr5.c2
    have hz6 := hr5.z
    rw [show ((o + 1 : Nat) : Int) = (o : Int) + 1 from by omega] at hc6
    have hw : IntKind.i64.wrap ((o : Int) + 1 - 1) = (o : Int) := by rw [IntKind.wrap_i64]; omega
    clear hk7 hr7 hre7 hre hr5 hk5
    go_wp2_with fail
    go_ret
    exact ⟨_, HR.out, ⟨_, rfl, R.out.1, R.out.2.1, R.out.2.2, by omega, by omega⟩, fun t' p' h => by cases h; omega⟩

set_option maxRecDepth 100000 in
set_option maxHeartbeats 4000000 in
theorem unit_dot (hr : RD s b a o w) (hE : Env T eb es w) (hsz : s.size ≤ 65536) (h : pk s a = 46) :
    Calls Tryz.prog 202 #[.pointer (some ⟨b, 0, none⟩)] w fun e w' => ∃ r, Ev s .unit a o r ∧ TS T eb es s b a o w r e w' := by
  have HQ := Lib.hid (peek_ok hr hE hsz 46 h (by omega))
  have HR := Lib.hid (Ev.dot (o := o) h)
  have hpl := pk_lt s a (by omega)
  have hfar := hr.far
  have hblt := hr.lt
  clear h
  go_enter Tryz.func202, Tryz.ntmps202
  go_wp2_with fail
  refine HQ.out.mono ?_
  rintro e w2 ⟨rfl, hk2⟩
  have hr2 := hr.kp hk2 (noB_not _)
  have hc3 := hr2.c1
  have hz3 := hr2.z
  have hr4 := hr2.at (a + 1)
  have hk4 := (hk2.any (F := onB b)).setCell (F := onB b) (p := ⟨b, 1, none⟩) (.inl (onB_self b)) (.int .i64 ((a + 1 : Nat) : Int))
  rw [show ((a + 1 : Nat) : Int) = (a : Int) + 1 from by omega] at hr4 hk4
  obtain ⟨w4, HW⟩ : ∃ w4, Hid (w2.setCell ⟨b, 1, none⟩ (.int .i64 ((a : Int) + 1)) = w4) := ⟨_, rfl⟩
  rw [HW.out] at hr4 hk4
  clear hk2 hr2
  go_upto_region 26 with (fail)
  rw [HW.out]
  clear hc3 hz3
  have hks4 := hk4.size
  have HP := Lib.hid (other_any _ [(10, 10)] _ _ (isRe_two (B := w.heap.size) 10 10 hks4) (by simp))
  go_wp2_with fail
  refine HP.out.mono ?_
  clear HP
  rintro e w5 ⟨u, rfl, hru, hk5⟩
  rw [canonOf_dot] at hru
  obtain ⟨A5, cap5, rfl, _⟩ := rngs_open hru
  have hks5 := hk5.size
  simp only [World.size_alloc] at hks5
  have HRE := Lib.hid ((isRe_set hru hk5.size).ok (ok' := fun k => w.heap.size ≤ k) fun k _ hk => by simp only [World.size_alloc] at hk; omega)
  have hk45 : Kp noB w4 w5 := ((Kp.refl _ _).alloc _).trans hk5
  have HK := Lib.hid ((hk4.trans hk45.any).alloc (.cells #[.int .i64 1, .slice A5 2 cap5, .int .i64 0, .int .i64 0, .slice none 0 0] 34))
  have HR5 := Lib.hid (hr4.kp (hk45.alloc (.cells #[.int .i64 1, .slice A5 2 cap5, .int .i64 0, .int .i64 0, .slice none 0 0] 34)) (noB_not _))
  simp only [List.length_cons, List.length_nil] at HRE ⊢
  clear hru hk5 hk45 hr4
  go_wp2_with fail
  go_ret
  exact ⟨_, HR.out, ⟨_, rfl, HK.out, HR5.out, HRE.out, by omega, by omega⟩, fun t' p' h => by cases h; omega⟩

set_option maxRecDepth 100000 in
set_option maxHeartbeats 4000000 in
theorem unit_point (hr : RD s b a o w) (hE : Env T eb es w) (hsz : s.size ≤ 65536) (h0 : pk s a ≠ -2) (h1 : pk s a ≠ 126) (h2 : pk s a ≠ 40) (h3 : pk s a ≠ 91) (h4 : pk s a ≠ 46) :
    Calls Tryz.prog 202 #[.pointer (some ⟨b, 0, none⟩)] w fun e w' => ∃ r, Ev s .unit a o r ∧ TS T eb es s b a o w r e w' := by
  have HN := Lib.hid (And.intro h0 (And.intro h1 (And.intro h2 (And.intro h3 h4))))
  obtain ⟨x, hx⟩ : ∃ x, pk s a = x := ⟨_, rfl⟩
  have HQ := Lib.hid (peek_ok hr hE hsz x hx (by omega))
  have hb1 : (x == (126 : Int)) = false := by simp; omega
  have hb2 : (x == (40 : Int)) = false := by simp; omega
  have hb3 : (x == (91 : Int)) = false := by simp; omega
  have hb4 : (x == (46 : Int)) = false := by simp; omega
  have hblt := hr.lt
  have hfar := hr.far
  clear h0 h1 h2 h3 h4 hx
  go_enter Tryz.func202, Tryz.ntmps202
  go_wp2_with fail
  refine HQ.out.mono ?_
  rintro e w2 ⟨rfl, hk2⟩
  have hr2 := hr.kp hk2 (noB_not _)
  have hE2 := hE.kp hk2 (fun k _ => noB_not _)
  have HPT := Lib.hid (point_any outs_signs hr2 hE2 hsz (by decide))
  unfold outsB at HPT
  go_wp2_with fail
  refine HPT.out.mono ?_
  clear HPT
  intro e w3 hP
  cases hpt : point s outs a with
  | er c q =>
    rw [hpt] at hP
    obtain ⟨⟨g, rfl, hg⟩, hk3⟩ := hP
    have hc1 := point_er hpt
    subst hc1
    have HR := Lib.hid (Ev.point_er (o := o) HN.out.1 HN.out.2.1 HN.out.2.2.1 HN.out.2.2.2.1 HN.out.2.2.2.2 hpt)
    clear hpt
    go_wp2_with fail
    exact ⟨rfl, _, HR.out, ⟨by rw [erA_one]; exact ⟨g, rfl, hg⟩, hk2.any.trans hk3⟩, fun t p h => by cases h⟩
  | ok y q =>
    rw [hpt] at hP
    obtain ⟨rfl, hk3, hr3⟩ := hP
    have hadv := point_adv hpt
    have HR := Lib.hid (Ev.point_ok (o := o) HN.out.1 HN.out.2.1 HN.out.2.2.1 HN.out.2.2.2.1 HN.out.2.2.2.2 hpt)
    clear hpt
    have hk03 := (hk2.any (F := onB b)).trans hk3
    have HRE := Lib.hid (isRe_set (isRe_two (B := w.heap.size) y y hk03.size) (by have := hk03.size; simp; omega))
    have HK := Lib.hid ((hk03.alloc (.cells #[.int .i64 y, .int .i64 y] 191)).alloc (.cells #[.int .i64 1, .slice (some ⟨w3.heap.size, 0, none⟩) 1 1, .int .i64 0, .int .i64 0, .slice none 0 0] 34))
    have HR3 := Lib.hid (hr3.kp (((Kp.refl noB w3).alloc (.cells #[.int .i64 y, .int .i64 y] 191)).alloc (.cells #[.int .i64 1, .slice (some ⟨w3.heap.size, 0, none⟩) 1 1, .int .i64 0, .int .i64 0, .slice none 0 0] 34)) (noB_not _))
    rw [show (w3.alloc (Obj.cells #[Value.int IntKind.i64 y, Value.int IntKind.i64 y] 191)).heap.size = w3.heap.size + 1 by simp] at HRE
    clear hk2 hk3 hk03 hr3
    go_wp2_with fail
    go_ret
    exact ⟨_, HR.out, ⟨_, rfl, HK.out, HR3.out, HRE.out, by omega, by omega⟩, fun t' p' h => by cases h; omega⟩

theorem any_of_unit (hsz : s.size ≤ 65536) {n : Nat} (hU : UnitC T eb es s n) : AnyC T eb es s n :=
  list_any hsz (both_any hsz (row_any hsz (part_any hsz hU)))

theorem unit_any (hsz : s.size ≤ 65536) : ∀ n, UnitC T eb es s n := by
  intro n
  induction n with
  | zero =>
    intro b a o w hr hE ha hn ho
    by_cases h0 : pk s a = -2
    · exact unit_bad hr hE hsz h0
    have he : pk s a = -1 := by
      by_cases h : pk s a = -1
      · exact h
      · have := pk_lt s a h; omega
    exact unit_point hr hE hsz h0 (by omega) (by omega) (by omega) (by omega)
  | succ n ih =>
    intro b a o w hr hE ha hn ho
    by_cases h0 : pk s a = -2
    · exact unit_bad hr hE hsz h0
    by_cases h1 : pk s a = 126
    · by_cases h : o < 100
      · exact unit_not hr hE hsz ih h1 h hn
      · exact unit_deep hr hE hsz (.inl h1) (by omega) (by omega)
    by_cases h2 : pk s a = 40
    · by_cases h : o < 100
      · exact unit_open hr hE hsz (any_of_unit hsz ih) h2 h hn
      · exact unit_deep hr hE hsz (.inr (.inl h2)) (by omega) (by omega)
    by_cases h3 : pk s a = 91
    · by_cases h : o < 100
      · exact unit_class hr hE hsz h3 h
      · exact unit_deep hr hE hsz (.inr (.inr h3)) (by omega) (by omega)
    by_cases h4 : pk s a = 46
    · exact unit_dot hr hE hsz h4
    exact unit_point hr hE hsz h0 h1 h2 h3 h4

/-- THE PROGRAM's READER, but for the end. -/
theorem any_any (hsz : s.size ≤ 65536) (n : Nat) : AnyC T eb es s n := any_of_unit hsz (unit_any hsz n)
end
end Go.Proofs.YtoijabgcgdgacaaGreatDoor

namespace Go.Proofs.YtoijabgcgdgacaaGreatDoor
open Go.RowKit Go.Proofs.Gram Go.Lib Go.Shelf

def enc2 (x : Int × Int) : List Value := [.int .i64 x.1, .int .i64 x.2]

theorem neqR : NeqAt Tryz.prog 191 (fun x => .agg (enc2 x).toArray) (fun x y => x.1 == y.1 && x.2 == y.2) := by
  refine ⟨fun x y w => ?_, GuardAt.agg _ (by kernel_rfl)⟩
  have u3 := Tryz.underlying3
  have a3 := Tryz.isAgg3
  have z3 := Tryz.sizeOf3
  have hS : Tryz.prog.underlying 191 = some (.struct (Tryz.prog.fieldsOf 191)) := by kernel_rfl
  have hp : Tryz.prog.stoodInHeld 191 = false := by kernel_rfl
  simp only [enc2]
  rw [run_neq_struct, show (10000 : Nat) = 9999 + 1 from rfl, run_equalIn_agg w 9999 191 _ _ hS hp]
  simp only [Program.fieldsOf, Tryz.underlying191]
  go_simp
  by_cases h1 : x.fst = y.fst <;> by_cases h2 : x.snd = y.snd <;> simp [h1, h2]

theorem allEq_iff : ∀ (l l' : List (Int × Int)), Lib.allEq (fun x y => x.1 == y.1 && x.2 == y.2) l l' = decide (l = l')
  | [], [] => by simp [Lib.allEq]
  | [], _ :: _ => by simp [Lib.allEq]
  | _ :: _, [] => by simp [Lib.allEq]
  | x :: l, y :: l' => by
    rw [Lib.allEq, allEq_iff l l']
    obtain ⟨x1, x2⟩ := x
    obtain ⟨y1, y2⟩ := y
    by_cases h1 : x1 = y1 <;> by_cases h2 : x2 = y2 <;> by_cases h3 : l = l' <;> simp [h1, h2, h3]

set_option maxRecDepth 100000 in
set_option maxHeartbeats 4000000 in
theorem equal_any (u v : Value) (l l' : List (Int × Int)) (k1 k2 : Nat → Prop) (w : World) (hr : Rngs w k1 u l) (hr' : Rngs w k2 v l') (hl : l.length ≤ 16777217) (hl' : l'.length ≤ 16777217) :
    Calls Tryz.prog 113 #[u, v] w fun e w' => e = .returned (.bool (decide (l = l'))) ∧ ∃ q, w' = w.drewN q := by
  obtain ⟨A, cap, rfl, hc⟩ := rngs_open hr
  obtain ⟨A', cap', rfl, hc'⟩ := rngs_open hr'
  by_cases hn : l.length = l'.length
  · by_cases h0 : l.length = 0
    · have e1 := List.eq_nil_of_length_eq_zero h0
      have e2 := List.eq_nil_of_length_eq_zero (hn ▸ h0)
      subst e1
      subst e2
      clear hc hc' hr hr' hl hl' hn h0
      simp only [List.length_nil]
      go_enter Tryz.func113, Tryz.ntmps113
      go_wp2_with fail
      go_loopw [13] (fun c wr => c = .int .i64 0 ∧ wr = w) (fun _ _ => 0)
      case atStart => exact ⟨rfl, rfl⟩
      case round =>
        obtain ⟨rfl, rfl⟩ := hrel
        go_wp2_with fail
        go_ret
        exact ⟨rfl, 0, rfl⟩
    · obtain ⟨g, off, rfl, _, _, _⟩ := hc 0 (l[0]'(by omega)) (by simp)
      obtain ⟨g', off', rfl, _, _, _⟩ := hc' 0 (l'[0]'(by omega)) (by simp)
      have hh : ∀ (l : List (Int × Int)) (g off : Nat) (k1 : Nat → Prop), (∀ k r, l[k]? = some r → ∃ g' off', (some ⟨g, off, none⟩ : Option Addr) = some ⟨g', off', none⟩ ∧ k1 g' ∧ g' < w.heap.size ∧ w.cell? ⟨g', off' + k * 2, none⟩ = some (.int .i64 r.1) ∧ w.cell? ⟨g', off' + k * 2 + 1, none⟩ = some (.int .i64 r.2)) →
          ∀ j, j < l.length → ∀ i v, (enc2 l[j]!)[i]? = some v → w.cell? ⟨g, off + j * 2 + i, none⟩ = some v := by
        intro l g off k1 hc j hj i v hv
        obtain ⟨g', off', he, _, _, h1, h2⟩ := hc j l[j] (by simp [hj])
        cases he
        rw [getElem!_pos l j hj] at hv
        match i, hv with
        | 0, hv => simp [enc2] at hv; subst hv; exact h1
        | 1, hv => simp [enc2] at hv; subst hv; exact h2
      have hcon := AnyQ.slices_Equal Tryz.layEqualRange 2 Tryz.isAgg191 Tryz.sizeOf191 enc2 (fun _ => rfl) _ neqR g off l.length cap g' off' l'.length cap' l l' w (Nat.le_refl _) (Nat.le_refl _) (by omega) (by omega) (hh l g off _ hc) (hh l' g' off' _ hc')
      change Calls Tryz.prog 113 _ _ _ at hcon
      rw [List.take_length, List.take_length, allEq_iff] at hcon
      exact hcon
  · have hne : ¬ l = l' := fun h => hn (by rw [h])
    have hb : ((l.length : Int) != (l'.length : Int)) = true := by simp; omega
    rw [decide_eq_false hne]
    clear hc hc' hr hr' hne
    go_enter Tryz.func113, Tryz.ntmps113
    go_wp2_with fail
    go_ret
    exact ⟨rfl, 0, rfl⟩

set_option maxRecDepth 100000 in
theorem counts_any (kind : Int) (n : Nat) (w : World) : Calls Tryz.prog 112 #[.int .i64 kind, .int .i64 n] w fun e w' => e = .returned (.bool (decide (cntOk kind n))) ∧ w' = w := by
  have hc : kind = 1 ∨ kind = 2 ∨ kind = 3 ∨ kind = 4 ∨ kind = 5 ∨ kind = 6 ∨ (kind ≠ 1 ∧ kind ≠ 2 ∧ kind ≠ 3 ∧ kind ≠ 4 ∧ kind ≠ 5 ∧ kind ≠ 6) := by omega
  rcases hc with rfl | rfl | rfl | rfl | rfl | rfl | ⟨h1, h2, h3, h4, h5, h6⟩
  all_goals
    try have b1 : (kind == (1 : Int)) = false := by simp [h1]
    try have b2 : (kind == (2 : Int)) = false := by simp [h2]
    try have b3 : (kind == (3 : Int)) = false := by simp [h3]
    try have b4 : (kind == (4 : Int)) = false := by simp [h4]
    try have b5 : (kind == (5 : Int)) = false := by simp [h5]
    try have b6 : (kind == (6 : Int)) = false := by simp [h6]
    go_enter Tryz.func112, Tryz.ntmps112
    go_wp2_with fail
    go_ret
    refine ⟨?_, rfl⟩
    refine congrArg (fun b => Ending.returned (Value.bool b)) ?_
    rw [Bool.eq_iff_iff, decide_eq_true_iff]
    simp only [cntOk, beq_iff_eq, bne_iff_ne, decide_eq_true_iff, Bool.false_eq_true, false_iff]
    first
      | omega
      | (simp; done)
      | (simp; omega)
end Go.Proofs.YtoijabgcgdgacaaGreatDoor

namespace Go.Proofs.YtoijabgcgdgacaaGreatDoor
open Go.RowKit Go.Proofs.Gram Go.Lib

theorem cells_open {w : World} {ok : Nat → Prop} {v : Value} {n : Nat} {cs : List Value} (h : Cells w ok v n cs) : ∃ A cap, v = .slice A n cap ∧ n ≤ 9223372036854775807 ∧
    ∀ (k : Nat) (u : Value), cs[k]? = some u → ∃ g off, A = some ⟨g, off, none⟩ ∧ ok g ∧ g < w.heap.size ∧ w.cell? ⟨g, off + k, none⟩ = some u := by
  rcases h with ⟨rfl, rfl, rfl⟩ | ⟨g, off, cap, rfl, hn, hcap, hg, hlt, hc⟩
  · exact ⟨none, 0, rfl, by omega, fun k u hu => by simp at hu⟩
  · exact ⟨_, cap, rfl, by unfold maxLen at hcap; omega, fun k u hu => ⟨g, off, rfl, hg, hlt, hc k u hu⟩⟩

def WtC (t : Rx) : Prop := ∀ (d : Nat) (v : Value) (okk : Nat → Prop) (w : World), IsRe w okk v t → Shp d t →
  Calls Tryz.prog 55 #[v] w fun e w' => e = .returned (.int .i64 (wt t)) ∧ ∃ q, w' = w.drewN q

theorem wtL_take (l : List Rx) (k : Nat) (t : Rx) (n : Int) (h : l[k]? = some t) : wtL (l.take (k + 1)) n = min (wtL (l.take k) n + wt t) 61 := by
  rw [take_snoc l k t h, wtL_snoc]

theorem mem_size {l : List Rx} {k : Nat} {t : Rx} (h : l[k]? = some t) : SizeOf.sizeOf t < SizeOf.sizeOf l := List.sizeOf_lt_of_mem (List.mem_of_getElem? h)

set_option maxRecDepth 100000 in
set_option maxHeartbeats 4000000 in
theorem weight_any : ∀ (n : Nat) (t : Rx), SizeOf.sizeOf t ≤ n → WtC t := by
  intro n
  induction n with
  | zero => intro t h; cases t <;> simp at h
  | succ n ih =>
    intro t hsz d v okk w hre hsh
    cases t with
    | nil => exact absurd hsh (by simp [Shp])
    | mk kind set mn mx kids =>
      obtain ⟨b, sv, kv, ps, rfl, hb, hok, hrs, hkc, hpl, hkid⟩ := hre.inv
      obtain ⟨_, _, _, _, htm, hshl⟩ := hsh
      have hkk : w.cell? ⟨b, 0, none⟩ = some (.int .i64 kind) := by simp [World.cell?, hb]
      have hk2 : w.cell? ⟨b, 2, none⟩ = some (.int .i64 mn) := by simp [World.cell?, hb]
      have hk3 : w.cell? ⟨b, 3, none⟩ = some (.int .i64 mx) := by simp [World.cell?, hb]
      have hk4 : w.cell? ⟨b, 4, none⟩ = some kv := by simp [World.cell?, hb]
      obtain ⟨A, cap, rfl, hkl, hcs⟩ := cells_open hkc
      simp only [Rx.mk.sizeOf_spec] at hsz
      have hIH : ∀ (k : Nat) (u : Value) (t : Rx), ps[k]? = some u → kids[k]? = some t → ∀ q, Calls Tryz.prog 55 #[u] (w.drewN q) fun e w' => e = .returned (.int .i64 (wt t)) ∧ ∃ q', w' = (w.drewN q).drewN q' := by
        intro k u t hu ht q
        exact ih t (by have := mem_size ht; omega) (d + 1) u okk (w.drewN q) ((hkid k u t hu ht).kp ((Kp.refl noB w).drewN q) fun _ _ _ => noB_not _) (shpL_iff.1 hshl k t ht)
      have HIH := Lib.hid hIH
      have HTM := Lib.hid htm
      clear hIH hkid hshl hre hrs hkc htm hb ih hsz
      by_cases h1 : kind = 1
      · subst h1
        have hw1 : wt (.mk 1 set mn mx kids) = 1 := by simp [wt]
        rw [hw1]
        go_enter Tryz.func55, Tryz.ntmps55
        go_wp2_with fail
        go_ret
        exact ⟨rfl, 0, rfl⟩
      have hb1 : (kind == (1 : Int)) = false := by simp [h1]
      have hwt : wt (.mk kind set mn mx kids) = min ((if kind = 6 then wtL kids 0 * max (max mn mx) 1 else wtL kids 0) + 1) 61 := by rw [wt, if_neg h1]
      have HW := Lib.hid hwt
      clear hwt h1
      go_enter Tryz.func55, Tryz.ntmps55
      go_wp2_with fail
      go_loopw [3, 16] (fun x c wr => ∃ (k q : Nat), k ≤ kids.length ∧ c = .int .i64 k ∧ x = .int .i64 (wtL (kids.take k) 0) ∧ wr = w.drewN q) (fun _ c _ => kids.length - (intOf c).toNat)
      case atStart => exact ⟨0, 0, Nat.zero_le _, rfl, rfl, rfl⟩
      case round =>
        obtain ⟨k, q, hk, rfl, rfl, rfl⟩ := hrel
        have hbd := wtL_bounds (kids.take k) 0 (by omega) (by omega)
        rcases Nat.lt_or_ge k kids.length with hlt | hge
        · have hb2 : decide ((k : Int) < (kids.length : Int)) = true := decide_eq_true (by omega)
          obtain ⟨t, ht⟩ : ∃ t, kids[k]? = some t := ⟨kids[k], by simp [hlt]⟩
          obtain ⟨u, hu⟩ : ∃ u, ps[k]? = some u := ⟨ps[k]'(by omega), by simp⟩
          obtain ⟨g, off, rfl, _, _, hc⟩ := hcs k u hu
          have HC := Lib.hid (HIH.out k u t hu ht q)
          have hsn := wtL_take kids k t 0 ht
          have hbt := wt_bounds t
          have HSN := Lib.hid hsn
          generalize wtL (kids.take k) 0 = x at *
          have hwr : IntKind.i64.wrap (x + wt t) = x + wt t := by rw [IntKind.wrap_i64]; omega
          clear hsn hcs hbd hbt
          go_wp2_with fail
          refine HC.out.mono ?_
          rintro e w' ⟨rfl, q', rfl⟩
          go_wp2_with fail
          go_roundw
          case rel => exact ⟨k + 1, q + q', by omega, by simp, by rw [HSN.out], by simp⟩
          case measure => simp [intOf]; omega
        · obtain rfl : k = kids.length := by omega
          have hb2 : decide ((kids.length : Int) < (kids.length : Int)) = false := decide_eq_false (by omega)
          rw [List.take_length] at hbd ⊢
          generalize wtL kids 0 = x at *
          clear hcs
          by_cases h6 : kind = 6
          · subst h6
            have htm := HTM.out
            rw [if_pos rfl] at htm
            unfold timesOk at htm
            have hm : 1 ≤ max (max mn mx) 1 ∧ max (max mn mx) 1 ≤ 50 := by omega
            have hm1 : 0 ≤ x * max (max mn mx) 1 := Int.mul_nonneg hbd.1 (by omega)
            have hm2 : x * max (max mn mx) 1 ≤ 61 * 50 := Int.mul_le_mul hbd.2 hm.2 (by omega) (by omega)
            obtain ⟨y, hy⟩ : ∃ y, max (max mn mx) 1 = y := ⟨_, rfl⟩
            have HY := Lib.hid hy
            rw [hy] at hm1 hm2
            have hw1 : IntKind.i64.wrap (x * y) = x * y := by rw [IntKind.wrap_i64]; omega
            have hw2 : IntKind.i64.wrap (x * y + 1) = x * y + 1 := by rw [IntKind.wrap_i64]; omega
            have HWW := HW.out
            rw [if_pos rfl, HY.out] at HWW
            have HW3 := Lib.hid HWW
            clear HWW hm htm hy hm1 hm2
            go_upto_region 10 with (fail)
            have hw0 : IntKind.i64.wrap x = x := by rw [IntKind.wrap_i64]; omega
            have hw00 : IntKind.i64.wrap (x + 1) = x + 1 := by rw [IntKind.wrap_i64]; omega
            have hcs3 : (mn < mx ∧ 1 ≤ mx) ∨ (mx ≤ mn ∧ ¬ mn < mx ∧ 1 ≤ mn) ∨ (mx ≤ mn ∧ ¬ mn < mx ∧ mn < 1 ∧ ¬ 1 ≤ mn) := by have := HTM.out; rw [if_pos rfl] at this; unfold timesOk at this; omega
            rcases hcs3 with ⟨q1, q2⟩ | ⟨q0, q1, q2⟩ | ⟨q0, q1, q2, q3⟩
            · have e : y = mx := by have := HY.out; omega
              subst e
              clear HY HW HTM
              go_quiet (fail)
              go_wp2_with fail
              go_ret
              exact ⟨by rw [HW3.out]; first | rfl | simp, _, rfl⟩
            · have e : y = mn := by have := HY.out; omega
              subst e
              clear HY HW HTM
              go_quiet (fail)
              go_wp2_with fail
              go_ret
              exact ⟨by rw [HW3.out]; first | rfl | simp, _, rfl⟩
            · have e : y = 1 := by have := HY.out; omega
              subst e
              clear HY HW HTM
              go_quiet (fail)
              go_wp2_with fail
              go_ret
              exact ⟨by rw [HW3.out]; first | rfl | simp, _, rfl⟩
          · have hb6 : (kind == (6 : Int)) = false := by simp [h6]
            have HWW := HW.out
            rw [if_neg h6] at HWW
            have HW3 := Lib.hid HWW
            have hw2 : IntKind.i64.wrap (x + 1) = x + 1 := by rw [IntKind.wrap_i64]; omega
            clear HWW h6
            go_wp2_with fail
            go_ret
            exact ⟨by rw [HW3.out]; rfl, q, rfl⟩
end Go.Proofs.YtoijabgcgdgacaaGreatDoor
