/-
  WALKS, g: the program's reader of patterns: escapes. (Written by a program, gen_wg.py.)
  WALKS, h: the program's reader of patterns: a count.
  WALKS, i: the program's reader of patterns: counts in braces.
  WALKS, j: the program's reader of patterns: counts in braces, walked. (Written by a program, gen_wj.py.)
-/
import Derived.Test.YtoijabgcgdgacaaGreatDoorGD
import Derived.Test.YtoijabgcgdgacaaGreatDoorGB
import Derived.Test.YtoijabgcgdgacaaGreatDoorShB
import Derived.Lib.SmallJoins
namespace Go.Proofs.YtoijabgcgdgacaaGreatDoor
open Go.RowKit Go.Proofs.Gram

section
variable {T : TypeId} {eb es : Addr} {s : ByteArray} {b a o : Nat} {w : World}

set_option maxRecDepth 100000 in
theorem esc_broken {bad : ByteArray} {bl : List Int} (hS : Signs bad bl) (hr : RD s b a o w) (hE : Env T eb es w) (hsz : s.size ≤ 65536) (h92 : pk s a = 92) (hnb : ¬ (92 : Int) ∈ bl) (h : pk s (a + 1) = -2) :
    Calls Tryz.prog 242 #[.pointer (some ⟨b, 0, none⟩), .string bad] w fun e w' => Bad T es (a + 1) e w' ∧ Kp (onB b) w w' := by
  have hsz' : (s.size : Int) ≤ 65536 := by omega
  have hlt : a < s.size := by
    rcases Nat.lt_or_ge a s.size with h | h
    · exact h
    · rw [pk_end h] at h92; omega
  have HP := Lib.hid (peek_ok hr hE hsz _ h92 (by omega))
  have HC := hS.contains 92 (by omega) (by decide)
  rw [decide_eq_false hnb] at HC
  have HC := Lib.hid HC
  have hb : decide ((92 : Int) < 0) = false := rfl
  have hb2 : ((92 : Int) != 92) = false := rfl
  have hal : (a : Int) < s.size := by omega
  clear h92 hnb
  go_enter Tryz.func242, Tryz.ntmps242
  go_wp2_with fail
  refine HP.out.mono ?_
  rintro e w1 ⟨rfl, hk1⟩
  go_wp2_with fail
  refine (HC.out _).mono ?_
  rintro e w2 ⟨rfl, hk2⟩
  have hk := hk1.trans hk2
  have hr1 := hr.kp hk (noB_not _)
  have hc1 := hr1.c1
  have hz1 := hr1.z
  have hr2 := hr1.at (a + 1)
  have hk3 := hk.any.setCell (F := onB b) (p := ⟨b, 1, none⟩) (.inl (onB_self b)) (.int .i64 ((a + 1 : Nat) : Int))
  rw [show ((a + 1 : Nat) : Int) = (a : Int) + 1 from by omega] at hr2 hk3
  obtain ⟨w3, HW3⟩ : ∃ w3, Hid (w2.setCell ⟨b, 1, none⟩ (.int .i64 ((a : Int) + 1)) = w3) := ⟨_, rfl⟩
  rw [HW3.out] at hr2 hk3
  go_wp2_with fail
  rw [HW3.out]
  clear hc1 hz1
  have hE3 := hE.kp hk3 (fun k hk => onB_not (by have := hr.far; omega))
  refine (peek_bad hr2 hE3 hsz h).mono ?_
  rintro e w4 ⟨⟨g, rfl, hg⟩, hk4⟩
  go_wp2_with fail
  exact ⟨rfl, ⟨g, rfl, hg⟩, hk3.trans hk4.any⟩

set_option maxRecDepth 100000 in
theorem esc_n {bad : ByteArray} {bl : List Int} (hS : Signs bad bl) (hr : RD s b a o w) (hE : Env T eb es w) (hsz : s.size ≤ 65536) (h92 : pk s a = 92) (hnb : ¬ (92 : Int) ∈ bl) (h : pk s (a + 1) = 110) :
    Calls Tryz.prog 242 #[.pointer (some ⟨b, 0, none⟩), .string bad] w fun e w' => e = .returned (.int .i64 10) ∧ Kp (onB b) w w' ∧ RD s b (a + 2) o w' := by
  have hsz' : (s.size : Int) ≤ 65536 := by omega
  have hlt : a < s.size := by
    rcases Nat.lt_or_ge a s.size with h | h
    · exact h
    · rw [pk_end h] at h92; omega
  have HP := Lib.hid (peek_ok hr hE hsz _ h92 (by omega))
  have HC := hS.contains 92 (by omega) (by decide)
  rw [decide_eq_false hnb] at HC
  have HC := Lib.hid HC
  have hb : decide ((92 : Int) < 0) = false := rfl
  have hb2 : ((92 : Int) != 92) = false := rfl
  have hal : (a : Int) < s.size := by omega
  have hb110 : ((110 : Int) == 110) = true := rfl
  clear h92 hnb
  go_enter Tryz.func242, Tryz.ntmps242
  go_wp2_with fail
  refine HP.out.mono ?_
  rintro e w1 ⟨rfl, hk1⟩
  go_wp2_with fail
  refine (HC.out _).mono ?_
  rintro e w2 ⟨rfl, hk2⟩
  have hk := hk1.trans hk2
  have hr1 := hr.kp hk (noB_not _)
  have hc1 := hr1.c1
  have hz1 := hr1.z
  have hr2 := hr1.at (a + 1)
  have hk3 := hk.any.setCell (F := onB b) (p := ⟨b, 1, none⟩) (.inl (onB_self b)) (.int .i64 ((a + 1 : Nat) : Int))
  rw [show ((a + 1 : Nat) : Int) = (a : Int) + 1 from by omega] at hr2 hk3
  obtain ⟨w3, HW3⟩ : ∃ w3, Hid (w2.setCell ⟨b, 1, none⟩ (.int .i64 ((a : Int) + 1)) = w3) := ⟨_, rfl⟩
  rw [HW3.out] at hr2 hk3
  go_wp2_with fail
  rw [HW3.out]
  clear hc1 hz1
  have hE3 := hE.kp hk3 (fun k hk => onB_not (by have := hr.far; omega))
  refine (peek_ok hr2 hE3 hsz _ h (by omega)).mono ?_
  rintro e w4 ⟨rfl, hk4⟩
  have hr4 := hr2.kp hk4 (noB_not _)
  have hc4 := hr4.c1
  rw [show ((a + 1 : Nat) : Int) = (a : Int) + 1 from by omega] at hc4
  have hz4 := hr4.z
  go_wp2_with fail
  go_ret
  refine ⟨rfl, ?_, ?_⟩
  · exact (hk3.trans hk4.any).setCell (F := onB b) (p := ⟨b, 1, none⟩) (.inl (onB_self b)) _
  · have := hr4.at (a + 2)
    rw [show ((a + 2 : Nat) : Int) = (a : Int) + 1 + 1 from by omega] at this
    exact this

set_option maxRecDepth 100000 in
theorem esc_r {bad : ByteArray} {bl : List Int} (hS : Signs bad bl) (hr : RD s b a o w) (hE : Env T eb es w) (hsz : s.size ≤ 65536) (h92 : pk s a = 92) (hnb : ¬ (92 : Int) ∈ bl) (h : pk s (a + 1) = 114) :
    Calls Tryz.prog 242 #[.pointer (some ⟨b, 0, none⟩), .string bad] w fun e w' => e = .returned (.int .i64 13) ∧ Kp (onB b) w w' ∧ RD s b (a + 2) o w' := by
  have hsz' : (s.size : Int) ≤ 65536 := by omega
  have hlt : a < s.size := by
    rcases Nat.lt_or_ge a s.size with h | h
    · exact h
    · rw [pk_end h] at h92; omega
  have HP := Lib.hid (peek_ok hr hE hsz _ h92 (by omega))
  have HC := hS.contains 92 (by omega) (by decide)
  rw [decide_eq_false hnb] at HC
  have HC := Lib.hid HC
  have hb : decide ((92 : Int) < 0) = false := rfl
  have hb2 : ((92 : Int) != 92) = false := rfl
  have hal : (a : Int) < s.size := by omega
  have hb110 : ((114 : Int) == 110) = false := rfl
  have hb114 : ((114 : Int) == 114) = true := rfl
  clear h92 hnb
  go_enter Tryz.func242, Tryz.ntmps242
  go_wp2_with fail
  refine HP.out.mono ?_
  rintro e w1 ⟨rfl, hk1⟩
  go_wp2_with fail
  refine (HC.out _).mono ?_
  rintro e w2 ⟨rfl, hk2⟩
  have hk := hk1.trans hk2
  have hr1 := hr.kp hk (noB_not _)
  have hc1 := hr1.c1
  have hz1 := hr1.z
  have hr2 := hr1.at (a + 1)
  have hk3 := hk.any.setCell (F := onB b) (p := ⟨b, 1, none⟩) (.inl (onB_self b)) (.int .i64 ((a + 1 : Nat) : Int))
  rw [show ((a + 1 : Nat) : Int) = (a : Int) + 1 from by omega] at hr2 hk3
  obtain ⟨w3, HW3⟩ : ∃ w3, Hid (w2.setCell ⟨b, 1, none⟩ (.int .i64 ((a : Int) + 1)) = w3) := ⟨_, rfl⟩
  rw [HW3.out] at hr2 hk3
  go_wp2_with fail
  rw [HW3.out]
  clear hc1 hz1
  have hE3 := hE.kp hk3 (fun k hk => onB_not (by have := hr.far; omega))
  refine (peek_ok hr2 hE3 hsz _ h (by omega)).mono ?_
  rintro e w4 ⟨rfl, hk4⟩
  have hr4 := hr2.kp hk4 (noB_not _)
  have hc4 := hr4.c1
  rw [show ((a + 1 : Nat) : Int) = (a : Int) + 1 from by omega] at hc4
  have hz4 := hr4.z
  go_wp2_with fail
  go_ret
  refine ⟨rfl, ?_, ?_⟩
  · exact (hk3.trans hk4.any).setCell (F := onB b) (p := ⟨b, 1, none⟩) (.inl (onB_self b)) _
  · have := hr4.at (a + 2)
    rw [show ((a + 2 : Nat) : Int) = (a : Int) + 1 + 1 from by omega] at this
    exact this

set_option maxRecDepth 100000 in
theorem esc_t {bad : ByteArray} {bl : List Int} (hS : Signs bad bl) (hr : RD s b a o w) (hE : Env T eb es w) (hsz : s.size ≤ 65536) (h92 : pk s a = 92) (hnb : ¬ (92 : Int) ∈ bl) (h : pk s (a + 1) = 116) :
    Calls Tryz.prog 242 #[.pointer (some ⟨b, 0, none⟩), .string bad] w fun e w' => e = .returned (.int .i64 9) ∧ Kp (onB b) w w' ∧ RD s b (a + 2) o w' := by
  have hsz' : (s.size : Int) ≤ 65536 := by omega
  have hlt : a < s.size := by
    rcases Nat.lt_or_ge a s.size with h | h
    · exact h
    · rw [pk_end h] at h92; omega
  have HP := Lib.hid (peek_ok hr hE hsz _ h92 (by omega))
  have HC := hS.contains 92 (by omega) (by decide)
  rw [decide_eq_false hnb] at HC
  have HC := Lib.hid HC
  have hb : decide ((92 : Int) < 0) = false := rfl
  have hb2 : ((92 : Int) != 92) = false := rfl
  have hal : (a : Int) < s.size := by omega
  have hb110 : ((116 : Int) == 110) = false := rfl
  have hb114 : ((116 : Int) == 114) = false := rfl
  have hb116 : ((116 : Int) == 116) = true := rfl
  clear h92 hnb
  go_enter Tryz.func242, Tryz.ntmps242
  go_wp2_with fail
  refine HP.out.mono ?_
  rintro e w1 ⟨rfl, hk1⟩
  go_wp2_with fail
  refine (HC.out _).mono ?_
  rintro e w2 ⟨rfl, hk2⟩
  have hk := hk1.trans hk2
  have hr1 := hr.kp hk (noB_not _)
  have hc1 := hr1.c1
  have hz1 := hr1.z
  have hr2 := hr1.at (a + 1)
  have hk3 := hk.any.setCell (F := onB b) (p := ⟨b, 1, none⟩) (.inl (onB_self b)) (.int .i64 ((a + 1 : Nat) : Int))
  rw [show ((a + 1 : Nat) : Int) = (a : Int) + 1 from by omega] at hr2 hk3
  obtain ⟨w3, HW3⟩ : ∃ w3, Hid (w2.setCell ⟨b, 1, none⟩ (.int .i64 ((a : Int) + 1)) = w3) := ⟨_, rfl⟩
  rw [HW3.out] at hr2 hk3
  go_wp2_with fail
  rw [HW3.out]
  clear hc1 hz1
  have hE3 := hE.kp hk3 (fun k hk => onB_not (by have := hr.far; omega))
  refine (peek_ok hr2 hE3 hsz _ h (by omega)).mono ?_
  rintro e w4 ⟨rfl, hk4⟩
  have hr4 := hr2.kp hk4 (noB_not _)
  have hc4 := hr4.c1
  rw [show ((a + 1 : Nat) : Int) = (a : Int) + 1 from by omega] at hc4
  have hz4 := hr4.z
  go_wp2_with fail
  go_ret
  refine ⟨rfl, ?_, ?_⟩
  · exact (hk3.trans hk4.any).setCell (F := onB b) (p := ⟨b, 1, none⟩) (.inl (onB_self b)) _
  · have := hr4.at (a + 2)
    rw [show ((a + 2 : Nat) : Int) = (a : Int) + 1 + 1 from by omega] at this
    exact this

set_option maxRecDepth 100000 in
theorem esc_u_bad {bad : ByteArray} {bl : List Int} (hS : Signs bad bl) (hr : RD s b a o w) (hE : Env T eb es w) (hsz : s.size ≤ 65536) (h92 : pk s a = 92) (hnb : ¬ (92 : Int) ∈ bl) (h : pk s (a + 1) = 117) (c p : Nat) (hnum : numb s a (a + 2) = .er c p) :
    Calls Tryz.prog 242 #[.pointer (some ⟨b, 0, none⟩), .string bad] w fun e w' => Bad T es p e w' ∧ Kp (onB b) w w' := by
  have hsz' : (s.size : Int) ≤ 65536 := by omega
  have hlt : a < s.size := by
    rcases Nat.lt_or_ge a s.size with h | h
    · exact h
    · rw [pk_end h] at h92; omega
  have HP := Lib.hid (peek_ok hr hE hsz _ h92 (by omega))
  have HC := hS.contains 92 (by omega) (by decide)
  rw [decide_eq_false hnb] at HC
  have HC := Lib.hid HC
  have hb : decide ((92 : Int) < 0) = false := rfl
  have hb2 : ((92 : Int) != 92) = false := rfl
  have hal : (a : Int) < s.size := by omega
  have hb110 : ((117 : Int) == 110) = false := rfl
  have hb114 : ((117 : Int) == 114) = false := rfl
  have hb116 : ((117 : Int) == 116) = false := rfl
  have hb117 : ((117 : Int) == 117) = true := rfl
  have hlt1 : a + 1 < s.size := by
    rcases Nat.lt_or_ge (a + 1) s.size with h' | h'
    · exact h'
    · rw [pk_end h'] at h; omega
  have HNU := Lib.hid hnum
  clear hnum
  clear h92 hnb
  go_enter Tryz.func242, Tryz.ntmps242
  go_wp2_with fail
  refine HP.out.mono ?_
  rintro e w1 ⟨rfl, hk1⟩
  go_wp2_with fail
  refine (HC.out _).mono ?_
  rintro e w2 ⟨rfl, hk2⟩
  have hk := hk1.trans hk2
  have hr1 := hr.kp hk (noB_not _)
  have hc1 := hr1.c1
  have hz1 := hr1.z
  have hr2 := hr1.at (a + 1)
  have hk3 := hk.any.setCell (F := onB b) (p := ⟨b, 1, none⟩) (.inl (onB_self b)) (.int .i64 ((a + 1 : Nat) : Int))
  rw [show ((a + 1 : Nat) : Int) = (a : Int) + 1 from by omega] at hr2 hk3
  obtain ⟨w3, HW3⟩ : ∃ w3, Hid (w2.setCell ⟨b, 1, none⟩ (.int .i64 ((a : Int) + 1)) = w3) := ⟨_, rfl⟩
  rw [HW3.out] at hr2 hk3
  go_wp2_with fail
  rw [HW3.out]
  clear hc1 hz1
  have hE3 := hE.kp hk3 (fun k hk => onB_not (by have := hr.far; omega))
  refine (peek_ok hr2 hE3 hsz _ h (by omega)).mono ?_
  rintro e w4 ⟨rfl, hk4⟩
  have hr4 := hr2.kp hk4 (noB_not _)
  have hE4 := hE3.kp hk4 (fun k _ => noB_not _)
  have HN := number_any a hr4 hE4 hsz hlt1
  rw [show a + 1 + 1 = a + 2 from rfl, HNU.out] at HN
  have HN := Lib.hid HN
  go_wp2_with fail
  refine HN.out.mono ?_
  rintro e w5 ⟨⟨g, rfl, hg⟩, hk5⟩
  go_wp2_with fail
  exact ⟨rfl, ⟨g, rfl, hg⟩, (hk3.trans hk4.any).trans hk5.any⟩

set_option maxRecDepth 100000 in
theorem esc_u_ok {bad : ByteArray} {bl : List Int} (hS : Signs bad bl) (hr : RD s b a o w) (hE : Env T eb es w) (hsz : s.size ≤ 65536) (h92 : pk s a = 92) (hnb : ¬ (92 : Int) ∈ bl) (h : pk s (a + 1) = 117) (n p : Nat) (hnum : numb s a (a + 2) = .ok n p) :
    Calls Tryz.prog 242 #[.pointer (some ⟨b, 0, none⟩), .string bad] w fun e w' => e = .returned (.int .i64 n) ∧ Kp (onB b) w w' ∧ RD s b p o w' := by
  have hsz' : (s.size : Int) ≤ 65536 := by omega
  have hlt : a < s.size := by
    rcases Nat.lt_or_ge a s.size with h | h
    · exact h
    · rw [pk_end h] at h92; omega
  have HP := Lib.hid (peek_ok hr hE hsz _ h92 (by omega))
  have HC := hS.contains 92 (by omega) (by decide)
  rw [decide_eq_false hnb] at HC
  have HC := Lib.hid HC
  have hb : decide ((92 : Int) < 0) = false := rfl
  have hb2 : ((92 : Int) != 92) = false := rfl
  have hal : (a : Int) < s.size := by omega
  have hb110 : ((117 : Int) == 110) = false := rfl
  have hb114 : ((117 : Int) == 114) = false := rfl
  have hb116 : ((117 : Int) == 116) = false := rfl
  have hb117 : ((117 : Int) == 117) = true := rfl
  have hlt1 : a + 1 < s.size := by
    rcases Nat.lt_or_ge (a + 1) s.size with h' | h'
    · exact h'
    · rw [pk_end h'] at h; omega
  have HNU := Lib.hid hnum
  clear hnum
  clear h92 hnb
  go_enter Tryz.func242, Tryz.ntmps242
  go_wp2_with fail
  refine HP.out.mono ?_
  rintro e w1 ⟨rfl, hk1⟩
  go_wp2_with fail
  refine (HC.out _).mono ?_
  rintro e w2 ⟨rfl, hk2⟩
  have hk := hk1.trans hk2
  have hr1 := hr.kp hk (noB_not _)
  have hc1 := hr1.c1
  have hz1 := hr1.z
  have hr2 := hr1.at (a + 1)
  have hk3 := hk.any.setCell (F := onB b) (p := ⟨b, 1, none⟩) (.inl (onB_self b)) (.int .i64 ((a + 1 : Nat) : Int))
  rw [show ((a + 1 : Nat) : Int) = (a : Int) + 1 from by omega] at hr2 hk3
  obtain ⟨w3, HW3⟩ : ∃ w3, Hid (w2.setCell ⟨b, 1, none⟩ (.int .i64 ((a : Int) + 1)) = w3) := ⟨_, rfl⟩
  rw [HW3.out] at hr2 hk3
  go_wp2_with fail
  rw [HW3.out]
  clear hc1 hz1
  have hE3 := hE.kp hk3 (fun k hk => onB_not (by have := hr.far; omega))
  refine (peek_ok hr2 hE3 hsz _ h (by omega)).mono ?_
  rintro e w4 ⟨rfl, hk4⟩
  have hr4 := hr2.kp hk4 (noB_not _)
  have hE4 := hE3.kp hk4 (fun k _ => noB_not _)
  have HN := number_any a hr4 hE4 hsz hlt1
  rw [show a + 1 + 1 = a + 2 from rfl, HNU.out] at HN
  have HN := Lib.hid HN
  go_wp2_with fail
  refine HN.out.mono ?_
  rintro e w5 ⟨rfl, hk5, hr5⟩
  go_wp2_with fail
  go_ret
  exact ⟨rfl, (hk3.trans hk4.any).trans hk5, hr5⟩

set_option maxRecDepth 100000 in
theorem esc_end {bad : ByteArray} {bl : List Int} (hS : Signs bad bl) (hr : RD s b a o w) (hE : Env T eb es w) (hsz : s.size ≤ 65536) (h92 : pk s a = 92) (hnb : ¬ (92 : Int) ∈ bl) (h : pk s (a + 1) = -1) :
    Calls Tryz.prog 242 #[.pointer (some ⟨b, 0, none⟩), .string bad] w fun e w' => Bad T es a e w' ∧ Kp (onB b) w w' := by
  have hsz' : (s.size : Int) ≤ 65536 := by omega
  have hlt : a < s.size := by
    rcases Nat.lt_or_ge a s.size with h | h
    · exact h
    · rw [pk_end h] at h92; omega
  have HP := Lib.hid (peek_ok hr hE hsz _ h92 (by omega))
  have HC := hS.contains 92 (by omega) (by decide)
  rw [decide_eq_false hnb] at HC
  have HC := Lib.hid HC
  have hb : decide ((92 : Int) < 0) = false := rfl
  have hb2 : ((92 : Int) != 92) = false := rfl
  have hal : (a : Int) < s.size := by omega
  have hx110 : ((-1 : Int) == 110) = false := rfl
  have hx114 : ((-1 : Int) == 114) = false := rfl
  have hx116 : ((-1 : Int) == 116) = false := rfl
  have hx117 : ((-1 : Int) == 117) = false := rfl
  have hbn : decide ((-1 : Int) < 0) = true := rfl
  clear h92 hnb
  go_enter Tryz.func242, Tryz.ntmps242
  go_wp2_with fail
  refine HP.out.mono ?_
  rintro e w1 ⟨rfl, hk1⟩
  go_wp2_with fail
  refine (HC.out _).mono ?_
  rintro e w2 ⟨rfl, hk2⟩
  have hk := hk1.trans hk2
  have hr1 := hr.kp hk (noB_not _)
  have hc1 := hr1.c1
  have hz1 := hr1.z
  have hr2 := hr1.at (a + 1)
  have hk3 := hk.any.setCell (F := onB b) (p := ⟨b, 1, none⟩) (.inl (onB_self b)) (.int .i64 ((a + 1 : Nat) : Int))
  rw [show ((a + 1 : Nat) : Int) = (a : Int) + 1 from by omega] at hr2 hk3
  obtain ⟨w3, HW3⟩ : ∃ w3, Hid (w2.setCell ⟨b, 1, none⟩ (.int .i64 ((a : Int) + 1)) = w3) := ⟨_, rfl⟩
  rw [HW3.out] at hr2 hk3
  go_wp2_with fail
  rw [HW3.out]
  clear hc1 hz1
  have hE3 := hE.kp hk3 (fun k hk => onB_not (by have := hr.far; omega))
  refine (peek_ok hr2 hE3 hsz _ h (by omega)).mono ?_
  rintro e w4 ⟨rfl, hk4⟩
  have hy := (hE3.kp hk4 (fun k _ => noB_not _)).syn
  go_wp2_with (go_at_call 46; refine (fail_bad _ _ _).mono ?_; rintro e w5 ⟨⟨g, rfl, hg⟩, hk5⟩)
  exact ⟨rfl, ⟨g, rfl, hg⟩, (hk3.trans hk4.any).trans hk5.any⟩

set_option maxRecDepth 100000 in
theorem esc_none {bad : ByteArray} {bl : List Int} (hS : Signs bad bl) (hr : RD s b a o w) (hE : Env T eb es w) (hsz : s.size ≤ 65536) (h92 : pk s a = 92) (hnb : ¬ (92 : Int) ∈ bl) (h0 : 0 ≤ pk s (a + 1)) (h110 : pk s (a + 1) ≠ 110) (h114 : pk s (a + 1) ≠ 114) (h116 : pk s (a + 1) ≠ 116) (h117 : pk s (a + 1) ≠ 117) (hm : ¬ pk s (a + 1) ∈ escs) :
    Calls Tryz.prog 242 #[.pointer (some ⟨b, 0, none⟩), .string bad] w fun e w' => Bad T es a e w' ∧ Kp (onB b) w w' := by
  have hsz' : (s.size : Int) ≤ 65536 := by omega
  have hlt : a < s.size := by
    rcases Nat.lt_or_ge a s.size with h | h
    · exact h
    · rw [pk_end h] at h92; omega
  have HP := Lib.hid (peek_ok hr hE hsz _ h92 (by omega))
  have HC := hS.contains 92 (by omega) (by decide)
  rw [decide_eq_false hnb] at HC
  have HC := Lib.hid HC
  have hb : decide ((92 : Int) < 0) = false := rfl
  have hb2 : ((92 : Int) != 92) = false := rfl
  have hal : (a : Int) < s.size := by omega
  obtain ⟨c, n, hd, ha1, hc, hne⟩ := pk_nonneg (s := s) (a := a + 1) (by omega) (by omega)
  obtain ⟨hrl, hv⟩ := runeLen_decode s (a + 1) c n hd hne
  have h' := hc
  rw [hc] at hm h110 h114 h116 h117
  have HC2 := escs_signs.contains c (by omega) hv
  rw [decide_eq_false hm] at HC2
  have HC2 := Lib.hid HC2
  have hx110 : ((c : Int) == 110) = false := beq_eq_false_iff_ne.2 (by omega)
  have hx114 : ((c : Int) == 114) = false := beq_eq_false_iff_ne.2 (by omega)
  have hx116 : ((c : Int) == 116) = false := beq_eq_false_iff_ne.2 (by omega)
  have hx117 : ((c : Int) == 117) = false := beq_eq_false_iff_ne.2 (by omega)
  have hbn : decide ((c : Int) < 0) = false := decide_eq_false (by omega)
  clear h0 hm h110 h114 h116 h117 hd hne hrl hv hc
  clear h92 hnb
  go_enter Tryz.func242, Tryz.ntmps242
  go_wp2_with fail
  refine HP.out.mono ?_
  rintro e w1 ⟨rfl, hk1⟩
  go_wp2_with fail
  refine (HC.out _).mono ?_
  rintro e w2 ⟨rfl, hk2⟩
  have hk := hk1.trans hk2
  have hr1 := hr.kp hk (noB_not _)
  have hc1 := hr1.c1
  have hz1 := hr1.z
  have hr2 := hr1.at (a + 1)
  have hk3 := hk.any.setCell (F := onB b) (p := ⟨b, 1, none⟩) (.inl (onB_self b)) (.int .i64 ((a + 1 : Nat) : Int))
  rw [show ((a + 1 : Nat) : Int) = (a : Int) + 1 from by omega] at hr2 hk3
  obtain ⟨w3, HW3⟩ : ∃ w3, Hid (w2.setCell ⟨b, 1, none⟩ (.int .i64 ((a : Int) + 1)) = w3) := ⟨_, rfl⟩
  rw [HW3.out] at hr2 hk3
  go_wp2_with fail
  rw [HW3.out]
  clear hc1 hz1
  have hE3 := hE.kp hk3 (fun k hk => onB_not (by have := hr.far; omega))
  refine (peek_ok hr2 hE3 hsz _ h' (by omega)).mono ?_
  rintro e w4 ⟨rfl, hk4⟩
  go_wp2_with fail
  refine (HC2.out _).mono ?_
  rintro e w5 ⟨rfl, hk5⟩
  have hk45 := hk4.trans hk5
  have hy := (hE3.kp hk45 (fun k _ => noB_not _)).syn
  go_wp2_with (go_at_call 46; refine (fail_bad _ _ _).mono ?_; rintro e w6 ⟨⟨g, rfl, hg⟩, hk6⟩)
  exact ⟨rfl, ⟨g, rfl, hg⟩, (hk3.trans hk45.any).trans hk6.any⟩

set_option maxRecDepth 100000 in
theorem esc_self {bad : ByteArray} {bl : List Int} (hS : Signs bad bl) (hr : RD s b a o w) (hE : Env T eb es w) (hsz : s.size ≤ 65536) (h92 : pk s a = 92) (hnb : ¬ (92 : Int) ∈ bl) (h0 : 0 ≤ pk s (a + 1)) (h110 : pk s (a + 1) ≠ 110) (h114 : pk s (a + 1) ≠ 114) (h116 : pk s (a + 1) ≠ 116) (h117 : pk s (a + 1) ≠ 117) (hm : pk s (a + 1) ∈ escs) :
    Calls Tryz.prog 242 #[.pointer (some ⟨b, 0, none⟩), .string bad] w fun e w' => e = .returned (.int .i64 (pk s (a + 1))) ∧ Kp (onB b) w w' ∧ RD s b (a + 2) o w' := by
  have hsz' : (s.size : Int) ≤ 65536 := by omega
  have hlt : a < s.size := by
    rcases Nat.lt_or_ge a s.size with h | h
    · exact h
    · rw [pk_end h] at h92; omega
  have HP := Lib.hid (peek_ok hr hE hsz _ h92 (by omega))
  have HC := hS.contains 92 (by omega) (by decide)
  rw [decide_eq_false hnb] at HC
  have HC := Lib.hid HC
  have hb : decide ((92 : Int) < 0) = false := rfl
  have hb2 : ((92 : Int) != 92) = false := rfl
  have hal : (a : Int) < s.size := by omega
  obtain ⟨c, n, hd, ha1, hc, hne⟩ := pk_nonneg (s := s) (a := a + 1) (by omega) (by omega)
  obtain ⟨hrl, hv⟩ := runeLen_decode s (a + 1) c n hd hne
  have h' := hc
  rw [hc] at hm h110 h114 h116 h117
  have HC2 := escs_signs.contains c (by omega) hv
  rw [decide_eq_true hm] at HC2
  have HC2 := Lib.hid HC2
  have hx110 : ((c : Int) == 110) = false := beq_eq_false_iff_ne.2 (by omega)
  have hx114 : ((c : Int) == 114) = false := beq_eq_false_iff_ne.2 (by omega)
  have hx116 : ((c : Int) == 116) = false := beq_eq_false_iff_ne.2 (by omega)
  have hx117 : ((c : Int) == 117) = false := beq_eq_false_iff_ne.2 (by omega)
  have hbn : decide ((c : Int) < 0) = false := decide_eq_false (by omega)
  rw [hc]
  have hcl : (c : Int) ≤ 1114111 := by
    simp only [Utf8.valid, Bool.or_eq_true, Bool.and_eq_true, decide_eq_true_eq] at hv
    omega
  clear h0 hm h110 h114 h116 h117 hd hne hrl hv hc
  clear h92 hnb
  go_enter Tryz.func242, Tryz.ntmps242
  go_wp2_with fail
  refine HP.out.mono ?_
  rintro e w1 ⟨rfl, hk1⟩
  go_wp2_with fail
  refine (HC.out _).mono ?_
  rintro e w2 ⟨rfl, hk2⟩
  have hk := hk1.trans hk2
  have hr1 := hr.kp hk (noB_not _)
  have hc1 := hr1.c1
  have hz1 := hr1.z
  have hr2 := hr1.at (a + 1)
  have hk3 := hk.any.setCell (F := onB b) (p := ⟨b, 1, none⟩) (.inl (onB_self b)) (.int .i64 ((a + 1 : Nat) : Int))
  rw [show ((a + 1 : Nat) : Int) = (a : Int) + 1 from by omega] at hr2 hk3
  obtain ⟨w3, HW3⟩ : ∃ w3, Hid (w2.setCell ⟨b, 1, none⟩ (.int .i64 ((a : Int) + 1)) = w3) := ⟨_, rfl⟩
  rw [HW3.out] at hr2 hk3
  go_wp2_with fail
  rw [HW3.out]
  clear hc1 hz1
  have hE3 := hE.kp hk3 (fun k hk => onB_not (by have := hr.far; omega))
  refine (peek_ok hr2 hE3 hsz _ h' (by omega)).mono ?_
  rintro e w4 ⟨rfl, hk4⟩
  go_wp2_with fail
  refine (HC2.out _).mono ?_
  rintro e w5 ⟨rfl, hk5⟩
  have hk45 := hk4.trans hk5
  have hr5 := hr2.kp hk45 (noB_not _)
  have hc5 := hr5.c1
  rw [show ((a + 1 : Nat) : Int) = (a : Int) + 1 from by omega] at hc5
  have hz5 := hr5.z
  go_wp2_with fail
  go_ret
  refine ⟨rfl, ?_, ?_⟩
  · exact (hk3.trans hk45.any).setCell (F := onB b) (p := ⟨b, 1, none⟩) (.inl (onB_self b)) _
  · have := hr5.at (a + 2)
    rw [show ((a + 2 : Nat) : Int) = (a : Int) + 1 + 1 from by omega] at this
    exact this

/-- A code point, but for those of `bad`, or an escape. -/
theorem point_any {bad : ByteArray} {bl : List Int} (hS : Signs bad bl) (hr : RD s b a o w) (hE : Env T eb es w) (hsz : s.size ≤ 65536) (hnb : ¬ (92 : Int) ∈ bl) :
    Calls Tryz.prog 242 #[.pointer (some ⟨b, 0, none⟩), .string bad] w fun e w' => PointP T es s b o w (point s bl a) e w' := by
  unfold point
  by_cases h1 : pk s a < 0 ∨ pk s a ∈ bl
  · simp only [if_pos h1]
    exact (point_stop hS hr hE hsz h1).mono fun e w' h => ⟨h.1, h.2.any⟩
  simp only [if_neg h1]
  have h1a : 0 ≤ pk s a := by
    by_cases h : pk s a < 0
    · exact absurd (.inl h) h1
    · omega
  have h1b : ¬ pk s a ∈ bl := fun h => h1 (.inr h)
  by_cases h2 : pk s a ≠ 92
  · simp only [if_pos h2]
    exact point_self hS hr hE hsz h1a h1b h2
  simp only [if_neg h2]
  have h92 : pk s a = 92 := by omega
  by_cases h3 : pk s (a + 1) = -2
  · simp only [if_pos h3]
    exact esc_broken hS hr hE hsz h92 hnb h3
  simp only [if_neg h3]
  by_cases h4 : pk s (a + 1) = 110
  · simp only [if_pos h4]
    exact esc_n hS hr hE hsz h92 hnb h4
  simp only [if_neg h4]
  by_cases h5 : pk s (a + 1) = 114
  · simp only [if_pos h5]
    exact esc_r hS hr hE hsz h92 hnb h5
  simp only [if_neg h5]
  by_cases h6 : pk s (a + 1) = 116
  · simp only [if_pos h6]
    exact esc_t hS hr hE hsz h92 hnb h6
  simp only [if_neg h6]
  by_cases h7 : pk s (a + 1) = 117
  · simp only [if_pos h7]
    cases hn : numb s a (a + 2) with
    | er c p => exact esc_u_bad hS hr hE hsz h92 hnb h7 c p hn
    | ok n p => exact esc_u_ok hS hr hE hsz h92 hnb h7 n p hn
  simp only [if_neg h7]
  by_cases h8 : pk s (a + 1) < 0
  · simp only [if_pos (show pk s (a + 1) < 0 ∨ ¬ pk s (a + 1) ∈ escs from .inl h8)]
    have h9 : pk s (a + 1) = -1 := by
      by_cases h : a + 1 < s.size
      · have := (pk_in h h3).1
        omega
      · exact pk_end (by omega)
    exact esc_end hS hr hE hsz h92 hnb h9
  by_cases h9 : pk s (a + 1) ∈ escs
  · simp only [if_neg (show ¬ (pk s (a + 1) < 0 ∨ ¬ pk s (a + 1) ∈ escs) from fun h => h.elim h8 (fun h => h h9))]
    exact esc_self hS hr hE hsz h92 hnb (by omega) h4 h5 h6 h7 h9
  · simp only [if_pos (show pk s (a + 1) < 0 ∨ ¬ pk s (a + 1) ∈ escs from .inr h9)]
    exact esc_none hS hr hE hsz h92 hnb (by omega) h4 h5 h6 h7 h9
end
end Go.Proofs.YtoijabgcgdgacaaGreatDoor

namespace Go.Proofs.YtoijabgcgdgacaaGreatDoor
open Go.RowKit Go.Proofs.Gram

/-- The address of the error of a number. -/
def erA (eb es : Addr) (c : Nat) : Addr := if c = 2 then eb else es

/-- How reading something ends. -/
def RP {α : Type} (T : TypeId) (eb es : Addr) (s : ByteArray) (b o : Nat) (w : World) (val : α → Value) (r : R α) (e : Ending) (w' : World) : Prop :=
  match r with
  | .er c p => Bad T (erA eb es c) p e w' ∧ Kp (onB b) w w'
  | .ok x p => e = .returned (val x) ∧ Kp (onB b) w w' ∧ RD s b p o w'

section
variable {T : TypeId} {eb es : Addr} {s : ByteArray} {b a o : Nat} {w : World}

set_option maxRecDepth 100000 in
set_option maxHeartbeats 800000 in
theorem count_any (hr : RD s b a o w) (hE : Env T eb es w) (hsz : s.size ≤ 65536) (ha : a ≤ s.size) :
    Calls Tryz.prog 243 #[.pointer (some ⟨b, 0, none⟩)] w fun e w' => RP T eb es s b o w (fun n : Nat => .int .i64 n) (count s a) e w' := by
  by_cases h2 : pk s a = -2
  · have hcount : count s a = .er 1 a := by
      have hd := digs_stop s 0 a (fun i hi => by omega) (by have := (pk_bad h2).1; omega) (by simp [h2])
      unfold count
      rw [hd]
      simp [h2]
    have HC := Lib.hid hcount
    have HP := Lib.hid (peek_bad hr hE hsz h2)
    have hc1 := hr.c1
    clear hcount h2
    go_enter Tryz.func243, Tryz.ntmps243
    go_wp2_with (go_at_call 148; refine HP.out.mono ?_; rintro e w1 ⟨⟨g, rfl, hg⟩, hk1⟩)
    refine ⟨rfl, ?_⟩
    show RP T eb es s b o w _ (count s a) _ _
    rw [HC.out]
    exact ⟨⟨g, rfl, hg⟩, hk1.any⟩
  · have HP := Lib.hid (peek_ok hr hE hsz _ rfl h2)
    have H2 := Lib.hid h2
    have hc1 := hr.c1
    clear h2
    go_enter Tryz.func243, Tryz.ntmps243
    go_wp2_with (go_at_call 148; refine HP.out.mono ?_; rintro e w1 ⟨rfl, hk1⟩)
    have HK1 := Lib.hid hk1
    clear hk1
    go_loopw [4] (fun c wr => ∃ m x, a + m ≤ s.size ∧ allDig s a m ∧ pk s (a + m) ≠ -2 ∧ c = .int .i32 x ∧ pk s (a + m) = x ∧ Kp (onB b) w wr ∧ RD s b (a + m) o wr)
      (fun _ wr => s.size - (intOf ((wr.cell? ⟨b, 1, none⟩).getD undef)).toNat)
    case atStart =>
      exact ⟨0, pk s a, ha, fun i hi => by omega, H2.out, rfl, rfl, HK1.out.any, hr.kp HK1.out (noB_not _)⟩
    case round =>
      obtain ⟨m, x, hm, hall, hne, rfl, hx, hk, hr1⟩ := hrel
      have hE1 := hE.kp hk (fun k hk => onB_not (by have := hr.far; omega))
      have hc1 := hr1.c1
      have hz1 := hr1.z
      have HALL := Lib.hid hall
      have HX := Lib.hid hx
      have HNE := Lib.hid hne
      have hle : ((a + m : Nat) : Int) ≤ 65536 := by omega
      clear hall hx hne
      by_cases hd : 48 ≤ x ∧ x ≤ 57
      · have hb1 : decide ((48 : Int) ≤ x) = true := decide_eq_true hd.1
        have hb2 : decide (x ≤ (57 : Int)) = true := decide_eq_true hd.2
        have hall1 : allDig s a (m + 1) := by
          intro i hi
          rcases Nat.lt_or_ge i m with h | h
          · exact HALL.out i h
          · obtain rfl : i = m := by omega
            rw [HX.out]
            exact hd
        have hm1 : a + (m + 1) ≤ s.size := by
          obtain ⟨h, _⟩ := pk_ascii s (a + m) (by rw [HX.out]; omega) (by rw [HX.out]; omega)
          omega
        have hr2 := hr1.at (a + (m + 1))
        have hk2 := hk.setCell (F := onB b) (p := ⟨b, 1, none⟩) (.inl (onB_self b)) (.int .i64 ((a + (m + 1) : Nat) : Int))
        rw [show ((a + (m + 1) : Nat) : Int) = ((a + m : Nat) : Int) + 1 from by omega] at hr2 hk2
        have HALL1 := Lib.hid hall1
        clear hd hall1
        by_cases h3 : pk s (a + (m + 1)) = -2
        · have hcount : count s a = .er 1 (a + (m + 1)) := by
            have hd := digs_stop s (m + 1) a HALL1.out hm1 (by simp [h3])
            unfold count
            rw [hd]
            simp [h3]
          have HC := Lib.hid hcount
          have HP := Lib.hid (peek_bad hr2 (hE.kp hk2 (fun k hk => onB_not (by have := hr.far; omega))) hsz h3)
          clear hcount h3
          go_wp2_with fail
          refine HP.out.mono ?_
          rintro e w1 ⟨⟨g, rfl, hg⟩, hk3⟩
          go_wp2_with fail
          refine ⟨rfl, ?_⟩
          show RP T eb es s b o w _ (count s a) _ _
          rw [HC.out]
          exact ⟨⟨g, rfl, hg⟩, hk2.trans hk3.any⟩
        · have HP := Lib.hid (peek_ok hr2 (hE.kp hk2 (fun k hk => onB_not (by have := hr.far; omega))) hsz _ rfl h3)
          have H3 := Lib.hid h3
          clear h3
          go_wp2_with fail
          refine HP.out.mono ?_
          rintro e w1 ⟨rfl, hk3⟩
          have hr3 := hr2.kp hk3 (noB_not _)
          go_wp2_with fail
          go_roundw
          case rel => exact ⟨m + 1, _, hm1, HALL1.out, H3.out, rfl, rfl, hk2.trans hk3.any, hr3⟩
          case measure =>
            rw [hr3.c1, hc1]
            simp [intOf]
            omega
      · have hstop := digs_stop s m a HALL.out hm (by rw [HX.out]; exact hd)
        have hcount : count s a = if m = 0 ∨ (1 < m ∧ pk s a = 48) then .er 1 a else if 50 < dv s a m 0 then .er 2 a else .ok (dv s a m 0) (a + m) := by
          unfold count
          rw [hstop]
          simp only [if_neg HNE.out]
          have e1 : (a + m = a ∨ a + 1 < a + m ∧ pk s a = 48) = (m = 0 ∨ 1 < m ∧ pk s a = 48) := by
            apply propext
            constructor
            · rintro (h | ⟨h, h'⟩)
              · exact .inl (by omega)
              · exact .inr ⟨by omega, h'⟩
            · rintro (h | ⟨h, h'⟩)
              · exact .inl (by omega)
              · exact .inr ⟨by omega, h'⟩
          simp only [e1]
        have hb : decide ((48 : Int) ≤ x) = false ∨ (decide ((48 : Int) ≤ x) = true ∧ decide (x ≤ (57 : Int)) = false) := by
          by_cases h : (48 : Int) ≤ x
          · exact .inr ⟨decide_eq_true h, decide_eq_false fun h' => hd ⟨h, h'⟩⟩
          · exact .inl (decide_eq_false h)
        obtain ⟨t, ht⟩ : ∃ t, s.extract a (a + m) = t := ⟨_, rfl⟩
        have htz : t.size = m := by rw [← ht]; simp; omega
        have hdv := dv_bytes s a m HALL.out hm
        rw [ht] at hdv
        have HT := Lib.hid ht
        have HDV := Lib.hid hdv
        have hc0 := hr1.c0
        have hy := hE1.syn
        have hyb := hE1.bound
        have hsl1 : (a : Int) ≤ (a + m : Nat) := by omega
        have hsl2 : ((a + m : Nat) : Int) ≤ s.size := by omega
        have hsl0 : (0 : Int) ≤ a := by omega
        clear hd hstop ht hdv
        by_cases h0 : m = 0
        · rw [if_pos (.inl h0)] at hcount
          have HC := Lib.hid hcount
          clear hcount
          rcases hb with hb1 | ⟨hb1, hb2⟩
          all_goals
            go_wp2_with fail
            go_quiet (fail)
            go_wp2_with (go_at_call 46; refine (fail_bad _ _ _).mono ?_; rintro e w2 ⟨⟨g, rfl, hg⟩, hk2⟩)
            refine ⟨rfl, ?_⟩
            show RP T eb es s b o w _ (count s a) _ _
            rw [HC.out]
            exact ⟨⟨g, rfl, hg⟩, (hk.drewN _).trans hk2.any⟩
        · have hm0 : 0 < m := by omega
          have hne : t.toList = [] ↔ False := by
            rw [ByteArray.toList_eq]
            refine ⟨fun h => ?_, False.elim⟩
            have := congrArg List.length h
            rw [Array.length_toList] at this
            have : t.size = 0 := this
            omega
          have hemp : t.toList.isEmpty = false := by
            rw [Bool.eq_false_iff]
            intro h
            exact hne.1 (List.isEmpty_iff.1 h)
          obtain ⟨ht0, hb0⟩ : ∃ h : 0 < t.size, ((t[0]).toNat : Int) = pk s a := by
            refine ⟨by omega, ?_⟩
            have h48 := HALL.out 0 hm0
            obtain ⟨h1, h2, _⟩ := pk_ascii s a (by simpa using (by omega : 0 ≤ pk s (a + 0))) (by simpa using (by omega : pk s (a + 0) < 128))
            rw [← h2]
            congr 2
            have := HT.out
            subst this
            rw [ByteArray.getElem_extract]
            rfl
          have htzI : (t.size : Int) = m := by omega
          clear h0
          by_cases hz0 : 1 < m ∧ pk s a = 48
          · rw [if_pos (.inr hz0)] at hcount
            have HC := Lib.hid hcount
            have g1 : decide ((1 : Int) < m) = true := decide_eq_true (by omega)
            have g2 : (((t[0]).toNat : Int) == 48) = true := beq_iff_eq.2 (by omega)
            clear hcount hz0 hb0
            rcases hb with hb1 | ⟨hb1, hb2⟩
            all_goals
              go_wp2_with fail
              go_quiet (fail)
              rw [HT.out]
              go_wp2_with (go_at_call 46; refine (fail_bad _ _ _).mono ?_; rintro e w2 ⟨⟨g, rfl, hg⟩, hk2⟩)
              refine ⟨rfl, ?_⟩
              show RP T eb es s b o w _ (count s a) _ _
              rw [HC.out]
              exact ⟨⟨g, rfl, hg⟩, (hk.drewN _).trans hk2.any⟩
          · rw [if_neg (fun h => h.elim (fun h => by omega) hz0)] at hcount
            have hg : decide ((1 : Int) < m) = false ∨ (decide ((1 : Int) < m) = true ∧ (((t[0]).toNat : Int) == 48) = false) := by
              by_cases h1 : 1 < m
              · exact .inr ⟨decide_eq_true (by omega), beq_eq_false_iff_ne.2 fun h => hz0 ⟨h1, by omega⟩⟩
              · exact .inl (decide_eq_false (by omega))
            have hat := atoi_digits t.data.toList (by
              intro h
              have := congrArg List.length h
              rw [Array.length_toList] at this
              have : t.size = 0 := this
              omega) HDV.out.2
            rw [HDV.out.1] at hat
            clear hz0 hb0
            rcases hat with hat | ⟨hat, h50⟩
            · have HA := Lib.hid (fun W => Tryz.strconv_Atoi_ok t (by omega) _ hat W)
              clear hat
              by_cases h50 : 50 < dv s a m 0
              · rw [if_pos h50] at hcount
                have HC := Lib.hid hcount
                have g3 : decide ((50 : Int) < dv s a m 0) = true := decide_eq_true (by omega)
                generalize dv s a m 0 = q at HA HC g3
                clear hcount h50
                rcases hb with hb1 | ⟨hb1, hb2⟩ <;> rcases hg with hg1 | ⟨hg1, hg2⟩
                all_goals
                  go_wp2_with fail
                  go_quiet (fail)
                  rw [HT.out]
                  go_wp2_with fail
                  refine (HA.out _).mono ?_
                  rintro e w3 ⟨rfl, hw3⟩
                  have hk3 : Kp (onB b) w w3 := by
                    rcases hw3 with rfl | ⟨t', rfl⟩
                    · exact hk.drewN _
                    · exact (hk.drewN _).trans (Kp.of_below (Joins.below_bytesWorld _ _ _ _ (Nat.le_refl _)))
                  have hyb3 := (hE.kp hk3 (fun k hk => onB_not (by have := hr.far; omega))).bound
                  clear hw3
                  go_wp2_with (go_at_call 46; refine (fail_bad _ _ _).mono ?_; rintro e w2 ⟨⟨g, rfl, hg⟩, hk2⟩)
                  refine ⟨rfl, ?_⟩
                  show RP T eb es s b o w _ (count s a) _ _
                  rw [HC.out]
                  exact ⟨⟨g, rfl, hg⟩, hk3.trans hk2.any⟩
              · rw [if_neg h50] at hcount
                have HC := Lib.hid hcount
                have g3 : decide ((50 : Int) < dv s a m 0) = false := decide_eq_false (by omega)
                generalize dv s a m 0 = q at HA HC g3
                clear hcount h50
                rcases hb with hb1 | ⟨hb1, hb2⟩ <;> rcases hg with hg1 | ⟨hg1, hg2⟩
                all_goals
                  go_wp2_with fail
                  go_quiet (fail)
                  rw [HT.out]
                  have hrq := hr1.kp (F := noB) (w' := wr.drewN nq) ((Kp.refl _ _).drewN _) (noB_not _)
                  go_wp2_with fail
                  refine (HA.out _).mono ?_
                  rintro e w3 ⟨rfl, hw3⟩
                  have hk3 : Kp noB (wr.drewN nq) w3 := by
                    rcases hw3 with rfl | ⟨t', rfl⟩
                    · exact Kp.refl _ _
                    · exact Kp.of_below (Joins.below_bytesWorld _ _ _ _ (Nat.le_refl _))
                  clear hw3
                  go_wp2_with fail
                  go_ret
                  show RP T eb es s b o w _ (count s a) _ _
                  rw [HC.out]
                  exact ⟨rfl, (hk.drewN _).trans hk3.any, hrq.kp hk3 (noB_not _)⟩
            · obtain ⟨tp, p, hvar⟩ := (hE1).range
              have HA := Lib.hid (fun W hW => Tryz.strconv_Atoi_range_var t (by omega) hat tp p W hW)
              rw [if_pos h50] at hcount
              have HC := Lib.hid hcount
              have HV := Lib.hid hvar
              clear hat hcount h50 hvar
              rcases hb with hb1 | ⟨hb1, hb2⟩ <;> rcases hg with hg1 | ⟨hg1, hg2⟩
              all_goals
                go_wp2_with fail
                go_quiet (fail)
                rw [HT.out]
                go_wp2_with fail
                refine (HA.out (wr.drewN nq) HV.out).mono ?_
                rintro e w3 ⟨N, rfl, _, _, hw3⟩
                have hk3 : Kp (onB b) w w3 := (hk.drewN _).trans (Kp.of_below hw3)
                have hyb3 := (hE.kp hk3 (fun k hk => onB_not (by have := hr.far; omega))).bound
                clear hw3
                go_wp2_with (go_at_call 46; refine (fail_bad _ _ _).mono ?_; rintro e w2 ⟨⟨g, rfl, hg⟩, hk2⟩)
                refine ⟨rfl, ?_⟩
                show RP T eb es s b o w _ (count s a) _ _
                rw [HC.out]
                exact ⟨⟨g, rfl, hg⟩, hk3.trans hk2.any⟩
end
end Go.Proofs.YtoijabgcgdgacaaGreatDoor

namespace Go.Proofs.YtoijabgcgdgacaaGreatDoor
open Go.RowKit Go.Proofs.Gram

/-- A pattern's block. -/
structure QD (q : Nat) (kind : Int) (sv : Value) (mn mx : Int) (kv : Value) (w : World) : Prop where
  blk : w.heap[q]? = some (.cells #[.int .i64 kind, sv, .int .i64 mn, .int .i64 mx, kv] 34 (0, 0))

section
variable {q : Nat} {kind mn mx : Int} {sv kv : Value} {w w' : World}
theorem QD.lt (h : QD q kind sv mn mx kv w) : q < w.heap.size := (Array.getElem?_eq_some_iff.1 h.blk).1
theorem QD.c0 (h : QD q kind sv mn mx kv w) : w.cell? ⟨q, 0, none⟩ = some (.int .i64 kind) := by simp [World.cell?, h.blk]
theorem QD.c1 (h : QD q kind sv mn mx kv w) : w.cell? ⟨q, 1, none⟩ = some sv := by simp [World.cell?, h.blk]
theorem QD.c2 (h : QD q kind sv mn mx kv w) : w.cell? ⟨q, 2, none⟩ = some (.int .i64 mn) := by simp [World.cell?, h.blk]
theorem QD.c3 (h : QD q kind sv mn mx kv w) : w.cell? ⟨q, 3, none⟩ = some (.int .i64 mx) := by simp [World.cell?, h.blk]
theorem QD.c4 (h : QD q kind sv mn mx kv w) : w.cell? ⟨q, 4, none⟩ = some kv := by simp [World.cell?, h.blk]
theorem QD.z (h : QD q kind sv mn mx kv w) (k : Nat) : w.frozen? ⟨q, k, none⟩ = false := by simp [World.frozen?, h.blk]
theorem QD.kp {F : Nat → Prop} (h : QD q kind sv mn mx kv w) (hk : Kp F w w') (hF : ¬ F q) : QD q kind sv mn mx kv w' := ⟨hk.heap h.blk hF⟩
theorem QD.min (h : QD q kind sv mn mx kv w) (x : Int) : QD q kind sv x mx kv (w.setCell ⟨q, 2, none⟩ (.int .i64 x)) := by
  refine ⟨?_⟩
  simp [World.setCell, Array.getElem?_modify, h.blk]
theorem QD.max (h : QD q kind sv mn mx kv w) (x : Int) : QD q kind sv mn x kv (w.setCell ⟨q, 3, none⟩ (.int .i64 x)) := by
  refine ⟨?_⟩
  simp [World.setCell, Array.getElem?_modify, h.blk]
end

def onB2 (b q : Nat) : Nat → Prop := fun k => k = b ∨ k = q
theorem onB2_l (b q : Nat) : onB2 b q b := .inl rfl
theorem onB2_r (b q : Nat) : onB2 b q q := .inr rfl
theorem onB2_not {b q k : Nat} (h : k ≠ b) (h' : k ≠ q) : ¬ onB2 b q k := fun e => e.elim h h'
theorem _root_.Go.Proofs.Gram.Kp.two {b q : Nat} {w w' : World} (h : Kp (onB b) w w') : Kp (onB2 b q) w w' := h.mono fun _ _ e => .inl e

section
variable {T : TypeId} {eb es : Addr} {s : ByteArray} {b a o : Nat} {w : World}

theorem RD.other {p : Addr} (h : RD s b a o w) (hp : p.block ≠ b) (u : Value) : RD s b a o (w.setCell p u) :=
  ⟨by rw [Below.heap_setCell _ _ _ _ (Ne.symm hp)]; exact h.blk, h.far⟩

/-- What a count is. -/
theorem count_ok {n p : Nat} (h : count s a = .ok n p) (ha : a ≤ s.size) : n ≤ 50 ∧ a < p ∧ p ≤ s.size ∧ pk s p ≠ -2 ∧ (n = 0 → p = a + 1) := by
  obtain ⟨m, hm, hall, hst⟩ : ∃ m, a + m ≤ s.size ∧ allDig s a m ∧ ¬ (48 ≤ pk s (a + m) ∧ pk s (a + m) ≤ 57) := by
    have : ∀ k m, a + m ≤ s.size → allDig s a m → s.size - (a + m) = k → ∃ m, a + m ≤ s.size ∧ allDig s a m ∧ ¬ (48 ≤ pk s (a + m) ∧ pk s (a + m) ≤ 57) := by
      intro k
      induction k with
      | zero =>
        intro m h1 h2 h3
        refine ⟨m, h1, h2, ?_⟩
        rw [pk_end (by omega)]
        omega
      | succ k ih =>
        intro m h1 h2 h3
        by_cases hd : 48 ≤ pk s (a + m) ∧ pk s (a + m) ≤ 57
        · refine ih (m + 1) (by omega) (fun i hi => ?_) (by omega)
          rcases Nat.lt_or_ge i m with h | h
          · exact h2 i h
          · obtain rfl : i = m := by omega
            exact hd
        · exact ⟨m, h1, h2, hd⟩
    exact this _ 0 (by omega) (fun i hi => by omega) rfl
  have hd := digs_stop s m a hall hm hst
  unfold count at h
  rw [hd] at h
  simp only at h
  split at h
  · cases h
  split at h
  · cases h
  split at h
  · cases h
  rename_i h1 h2 h3
  simp only [R.ok.injEq] at h
  obtain ⟨rfl, rfl⟩ := h
  refine ⟨by omega, by omega, hm, h1, fun h0 => ?_⟩
  rcases m with _ | m
  · exact absurd (.inl (by omega)) h2
  rcases m with _ | m
  · rfl
  exfalso
  have hf : pk s a ≠ 48 := fun h => h2 (.inr ⟨by omega, h⟩)
  have h4 := hall 0 (by omega)
  simp only [Nat.add_zero] at h4
  have hge : ∀ m n, n ≤ dv s (a + 1) m n := by
    intro m
    induction m with
    | zero => intro n; exact Nat.le_refl _
    | succ m ih => intro n; have := ih n; rw [dv]; omega
  rw [dv_shift] at h0
  have := hge (m + 1) (0 * 10 + (pk s a - 48).toNat)
  omega
end
end Go.Proofs.YtoijabgcgdgacaaGreatDoor

namespace Go.Proofs.YtoijabgcgdgacaaGreatDoor
open Go.RowKit Go.Proofs.Gram

section
variable {T : TypeId} {eb es : Addr} {s : ByteArray} {b a o : Nat} {w : World} {q : Nat} {sv kv : Value}

/-- How counts end: the pattern's block bears them. -/
def CP (T : TypeId) (eb es : Addr) (s : ByteArray) (b o q : Nat) (sv kv : Value) (w : World) (r : R (Int × Int)) (e : Ending) (w' : World) : Prop :=
  match r with
  | .er c p => Bad T (erA eb es c) p e w' ∧ Kp (onB2 b q) w w'
  | .ok x p => e = .returned (.tuple #[]) ∧ Kp (onB2 b q) w w' ∧ RD s b p o w' ∧ QD q 6 sv x.1 x.2 kv w'

set_option maxRecDepth 100000 in
theorem counted_er (hr : RD s b a o w) (hE : Env T eb es w) (hsz : s.size ≤ 65536) (ha : a ≤ s.size) (c p : Nat) (hc : count s a = .er c p) :
    Calls Tryz.prog 203 #[.pointer (some ⟨b, 0, none⟩), .pointer (some ⟨q, 0, none⟩)] w fun e w' => CP T eb es s b o q sv kv w (.er c p) e w' := by
  have HC := count_any hr hE hsz ha
  rw [hc] at HC
  have HC := Lib.hid HC
  clear hc
  go_enter Tryz.func203, Tryz.ntmps203
  go_wp2_with fail
  refine HC.out.mono ?_
  rintro e w1 ⟨⟨g, rfl, hg⟩, hk1⟩
  go_wp2_with fail
  exact ⟨rfl, ⟨g, rfl, hg⟩, hk1.two⟩

set_option maxRecDepth 100000 in
theorem counted_broken (hr : RD s b a o w) (hE : Env T eb es w) (hsz : s.size ≤ 65536) (ha : a ≤ s.size) (hq : QD q 6 sv 0 0 kv w) (hqb : q ≠ b) (hq16 : 16 ≤ q) (n p : Nat) (hc : count s a = .ok n p) (h : pk s p = -2) :
    Calls Tryz.prog 203 #[.pointer (some ⟨b, 0, none⟩), .pointer (some ⟨q, 0, none⟩)] w fun e w' => CP T eb es s b o q sv kv w (.er 1 p) e w' := by
  obtain ⟨hn50, hap, hps, hpne, hn0⟩ := count_ok hc ha
  have HC := count_any hr hE hsz ha
  rw [hc] at HC
  have HC := Lib.hid HC
  have hnI : (n : Int) ≤ 50 := by omega
  have hpI : (p : Int) ≤ 65536 := by omega
  have hqz := hq.z
  have hN16 : ∀ k, k < 16 → ¬ onB2 b q k := fun k hk => onB2_not (by have := hr.far; omega) (by omega)
  have HF := Lib.hid (⟨hqb, hq16, hap, hps, hpne, hn0⟩ : q ≠ b ∧ 16 ≤ q ∧ a < p ∧ p ≤ s.size ∧ pk s p ≠ -2 ∧ (n = 0 → p = a + 1))
  have HCC := Lib.hid hc
  clear hc hap hps hpne hn0
  go_enter Tryz.func203, Tryz.ntmps203
  go_wp2_with fail
  refine HC.out.mono ?_
  rintro e w1 ⟨rfl, hk1, hr1⟩
  have hq1 := hq.kp hk1 (onB_not hqb)
  have hqz1 := hq1.z
  have hqc12 := hq1.c2
  have hqc13 := hq1.c3
  have hq2 := (hq1.min n).max n
  have hr2 := (hr1.other (p := ⟨q, 2, none⟩) hqb (.int .i64 n)).other (p := ⟨q, 3, none⟩) hqb (.int .i64 n)
  have hk2 := (hk1.two (q := q)).setCell (F := onB2 b q) (p := ⟨q, 2, none⟩) (.inl (onB2_r b q)) (.int .i64 n) |>.setCell (F := onB2 b q) (p := ⟨q, 3, none⟩) (.inl (onB2_r b q)) (.int .i64 n)
  obtain ⟨w2, HW2⟩ : ∃ w2, Hid ((w1.setCell ⟨q, 2, none⟩ (.int .i64 n)).setCell ⟨q, 3, none⟩ (.int .i64 n) = w2) := ⟨_, rfl⟩
  rw [HW2.out] at hr2 hk2 hq2
  have hrc2 := hr2.c1
  go_upto_region 2 with (fail)
  rw [HW2.out]
  clear hqz1 hqc12 hqc13 hqz
  have hE2 := hE.kp hk2 hN16
  have hqz2 := hq2.z
  have hqc2 := hq2.c2
  have hqc3 := hq2.c3
  go_wp2_with fail
  refine (pass_bad 44 hr2 hE2 hsz h).mono ?_
  rintro e w3 ⟨⟨g, rfl, hg⟩, hk3⟩
  go_wp2_with fail
  exact ⟨rfl, ⟨g, rfl, hg⟩, hk2.trans hk3.any⟩

set_option maxRecDepth 100000 in
theorem counted_zero (hr : RD s b a o w) (hE : Env T eb es w) (hsz : s.size ≤ 65536) (ha : a ≤ s.size) (hq : QD q 6 sv 0 0 kv w) (hqb : q ≠ b) (hq16 : 16 ≤ q) (n p : Nat) (hc : count s a = .ok n p) (h44 : pk s p ≠ 44) (h0 : Hid (n = 0)) :
    Calls Tryz.prog 203 #[.pointer (some ⟨b, 0, none⟩), .pointer (some ⟨q, 0, none⟩)] w fun e w' => CP T eb es s b o q sv kv w (.er 1 a) e w' := by
  obtain ⟨hn50, hap, hps, hpne, hn0⟩ := count_ok hc ha
  have HC := count_any hr hE hsz ha
  rw [hc] at HC
  have HC := Lib.hid HC
  have hnI : (n : Int) ≤ 50 := by omega
  have hpI : (p : Int) ≤ 65536 := by omega
  have hqz := hq.z
  have hN16 : ∀ k, k < 16 → ¬ onB2 b q k := fun k hk => onB2_not (by have := hr.far; omega) (by omega)
  have HF := Lib.hid (⟨hqb, hq16, hap, hps, hpne, hn0⟩ : q ≠ b ∧ 16 ≤ q ∧ a < p ∧ p ≤ s.size ∧ pk s p ≠ -2 ∧ (n = 0 → p = a + 1))
  have HCC := Lib.hid hc
  clear hc hap hps hpne hn0
  go_enter Tryz.func203, Tryz.ntmps203
  go_wp2_with fail
  refine HC.out.mono ?_
  rintro e w1 ⟨rfl, hk1, hr1⟩
  have hq1 := hq.kp hk1 (onB_not hqb)
  have hqz1 := hq1.z
  have hqc12 := hq1.c2
  have hqc13 := hq1.c3
  have hq2 := (hq1.min n).max n
  have hr2 := (hr1.other (p := ⟨q, 2, none⟩) hqb (.int .i64 n)).other (p := ⟨q, 3, none⟩) hqb (.int .i64 n)
  have hk2 := (hk1.two (q := q)).setCell (F := onB2 b q) (p := ⟨q, 2, none⟩) (.inl (onB2_r b q)) (.int .i64 n) |>.setCell (F := onB2 b q) (p := ⟨q, 3, none⟩) (.inl (onB2_r b q)) (.int .i64 n)
  obtain ⟨w2, HW2⟩ : ∃ w2, Hid ((w1.setCell ⟨q, 2, none⟩ (.int .i64 n)).setCell ⟨q, 3, none⟩ (.int .i64 n) = w2) := ⟨_, rfl⟩
  rw [HW2.out] at hr2 hk2 hq2
  have hrc2 := hr2.c1
  go_upto_region 2 with (fail)
  rw [HW2.out]
  clear hqz1 hqc12 hqc13 hqz
  have hE2 := hE.kp hk2 hN16
  have hqz2 := hq2.z
  have hqc2 := hq2.c2
  have hqc3 := hq2.c3
  go_wp2_with fail
  refine (pass_no 44 hr2 hE2 hsz HF.out.2.2.2.2.1 h44).mono ?_
  rintro e w3 ⟨rfl, hk3⟩
  have hk23 := hk2.trans hk3.any
  have hr3 := hr2.kp hk3 (noB_not _)
  have hq3 := hq2.kp hk3 (noB_not _)
  have hE3 := hE2.kp hk3 (fun k _ => noB_not _)
  have hc12 := hq3.c2
  have hc13 := hq3.c3
  have hy3 := hE3.syn
  have he : (p : Int) - 1 = a := by have := HF.out.2.2.2.2.2 h0.out; omega
  have hb : ((n : Int) == 0) = true := beq_iff_eq.2 (by have := h0.out; omega)
  clear h0
  go_wp2_with (go_at_call 46; refine (fail_bad _ _ _).mono ?_; rintro e w5 ⟨⟨g, rfl, hg⟩, hk5⟩)
  exact ⟨rfl, ⟨g, rfl, hg⟩, hk23.trans hk5.any⟩

set_option maxRecDepth 100000 in
theorem counted_one (hr : RD s b a o w) (hE : Env T eb es w) (hsz : s.size ≤ 65536) (ha : a ≤ s.size) (hq : QD q 6 sv 0 0 kv w) (hqb : q ≠ b) (hq16 : 16 ≤ q) (n p : Nat) (hc : count s a = .ok n p) (h44 : pk s p ≠ 44) (h0 : n ≠ 0) (h125 : pk s p = 125) :
    Calls Tryz.prog 203 #[.pointer (some ⟨b, 0, none⟩), .pointer (some ⟨q, 0, none⟩)] w fun e w' => CP T eb es s b o q sv kv w (.ok ((n : Int), (n : Int)) (p + 1)) e w' := by
  obtain ⟨hn50, hap, hps, hpne, hn0⟩ := count_ok hc ha
  have HC := count_any hr hE hsz ha
  rw [hc] at HC
  have HC := Lib.hid HC
  have hnI : (n : Int) ≤ 50 := by omega
  have hpI : (p : Int) ≤ 65536 := by omega
  have hqz := hq.z
  have hN16 : ∀ k, k < 16 → ¬ onB2 b q k := fun k hk => onB2_not (by have := hr.far; omega) (by omega)
  have HF := Lib.hid (⟨hqb, hq16, hap, hps, hpne, hn0⟩ : q ≠ b ∧ 16 ≤ q ∧ a < p ∧ p ≤ s.size ∧ pk s p ≠ -2 ∧ (n = 0 → p = a + 1))
  have HCC := Lib.hid hc
  clear hc hap hps hpne hn0
  go_enter Tryz.func203, Tryz.ntmps203
  go_wp2_with fail
  refine HC.out.mono ?_
  rintro e w1 ⟨rfl, hk1, hr1⟩
  have hq1 := hq.kp hk1 (onB_not hqb)
  have hqz1 := hq1.z
  have hqc12 := hq1.c2
  have hqc13 := hq1.c3
  have hq2 := (hq1.min n).max n
  have hr2 := (hr1.other (p := ⟨q, 2, none⟩) hqb (.int .i64 n)).other (p := ⟨q, 3, none⟩) hqb (.int .i64 n)
  have hk2 := (hk1.two (q := q)).setCell (F := onB2 b q) (p := ⟨q, 2, none⟩) (.inl (onB2_r b q)) (.int .i64 n) |>.setCell (F := onB2 b q) (p := ⟨q, 3, none⟩) (.inl (onB2_r b q)) (.int .i64 n)
  obtain ⟨w2, HW2⟩ : ∃ w2, Hid ((w1.setCell ⟨q, 2, none⟩ (.int .i64 n)).setCell ⟨q, 3, none⟩ (.int .i64 n) = w2) := ⟨_, rfl⟩
  rw [HW2.out] at hr2 hk2 hq2
  have hrc2 := hr2.c1
  go_upto_region 2 with (fail)
  rw [HW2.out]
  clear hqz1 hqc12 hqc13 hqz
  have hE2 := hE.kp hk2 hN16
  have hqz2 := hq2.z
  have hqc2 := hq2.c2
  have hqc3 := hq2.c3
  go_wp2_with fail
  refine (pass_no 44 hr2 hE2 hsz HF.out.2.2.2.2.1 h44).mono ?_
  rintro e w3 ⟨rfl, hk3⟩
  have hk23 := hk2.trans hk3.any
  have hr3 := hr2.kp hk3 (noB_not _)
  have hq3 := hq2.kp hk3 (noB_not _)
  have hE3 := hE2.kp hk3 (fun k _ => noB_not _)
  have hc12 := hq3.c2
  have hc13 := hq3.c3
  have hy3 := hE3.syn
  have hb : ((n : Int) == 0) = false := beq_eq_false_iff_ne.2 (by omega)
  have hb1 : decide ((n : Int) < max (n : Int) 1) = false := decide_eq_false (by omega)
  clear h0
  go_wp2_with fail
  go_quiet (fail)
  have hk5 : Kp noB w3 (w3.drewN nq) := (Kp.refl _ _).drewN _
  have hr5 := hr3.kp hk5 (noB_not _)
  have hq5 := hq3.kp hk5 (noB_not _)
  have hE5 := hE3.kp hk5 (fun k _ => noB_not _)
  generalize w3.drewN nq = w5 at hk5 hr5 hq5 hE5 ⊢
  go_wp2_with fail
  refine (want_yes 125 hr5 hE5 hsz (by omega) (by omega) h125).mono ?_
  rintro e w6 ⟨rfl, hk6, hr6⟩
  go_wp2_with fail
  go_end0
  exact ⟨rfl, (hk23.trans hk5.any).trans hk6.two, hr6, hq5.kp hk6 (onB_not HF.out.1)⟩

set_option maxRecDepth 100000 in
theorem counted_open (hr : RD s b a o w) (hE : Env T eb es w) (hsz : s.size ≤ 65536) (ha : a ≤ s.size) (hq : QD q 6 sv 0 0 kv w) (hqb : q ≠ b) (hq16 : 16 ≤ q) (n p : Nat) (hc : count s a = .ok n p) (h44 : pk s p ≠ 44) (h0 : n ≠ 0) (h125 : pk s p ≠ 125) :
    Calls Tryz.prog 203 #[.pointer (some ⟨b, 0, none⟩), .pointer (some ⟨q, 0, none⟩)] w fun e w' => CP T eb es s b o q sv kv w (.er 1 p) e w' := by
  obtain ⟨hn50, hap, hps, hpne, hn0⟩ := count_ok hc ha
  have HC := count_any hr hE hsz ha
  rw [hc] at HC
  have HC := Lib.hid HC
  have hnI : (n : Int) ≤ 50 := by omega
  have hpI : (p : Int) ≤ 65536 := by omega
  have hqz := hq.z
  have hN16 : ∀ k, k < 16 → ¬ onB2 b q k := fun k hk => onB2_not (by have := hr.far; omega) (by omega)
  have HF := Lib.hid (⟨hqb, hq16, hap, hps, hpne, hn0⟩ : q ≠ b ∧ 16 ≤ q ∧ a < p ∧ p ≤ s.size ∧ pk s p ≠ -2 ∧ (n = 0 → p = a + 1))
  have HCC := Lib.hid hc
  clear hc hap hps hpne hn0
  go_enter Tryz.func203, Tryz.ntmps203
  go_wp2_with fail
  refine HC.out.mono ?_
  rintro e w1 ⟨rfl, hk1, hr1⟩
  have hq1 := hq.kp hk1 (onB_not hqb)
  have hqz1 := hq1.z
  have hqc12 := hq1.c2
  have hqc13 := hq1.c3
  have hq2 := (hq1.min n).max n
  have hr2 := (hr1.other (p := ⟨q, 2, none⟩) hqb (.int .i64 n)).other (p := ⟨q, 3, none⟩) hqb (.int .i64 n)
  have hk2 := (hk1.two (q := q)).setCell (F := onB2 b q) (p := ⟨q, 2, none⟩) (.inl (onB2_r b q)) (.int .i64 n) |>.setCell (F := onB2 b q) (p := ⟨q, 3, none⟩) (.inl (onB2_r b q)) (.int .i64 n)
  obtain ⟨w2, HW2⟩ : ∃ w2, Hid ((w1.setCell ⟨q, 2, none⟩ (.int .i64 n)).setCell ⟨q, 3, none⟩ (.int .i64 n) = w2) := ⟨_, rfl⟩
  rw [HW2.out] at hr2 hk2 hq2
  have hrc2 := hr2.c1
  go_upto_region 2 with (fail)
  rw [HW2.out]
  clear hqz1 hqc12 hqc13 hqz
  have hE2 := hE.kp hk2 hN16
  have hqz2 := hq2.z
  have hqc2 := hq2.c2
  have hqc3 := hq2.c3
  go_wp2_with fail
  refine (pass_no 44 hr2 hE2 hsz HF.out.2.2.2.2.1 h44).mono ?_
  rintro e w3 ⟨rfl, hk3⟩
  have hk23 := hk2.trans hk3.any
  have hr3 := hr2.kp hk3 (noB_not _)
  have hq3 := hq2.kp hk3 (noB_not _)
  have hE3 := hE2.kp hk3 (fun k _ => noB_not _)
  have hc12 := hq3.c2
  have hc13 := hq3.c3
  have hy3 := hE3.syn
  have hb : ((n : Int) == 0) = false := beq_eq_false_iff_ne.2 (by omega)
  have hb1 : decide ((n : Int) < max (n : Int) 1) = false := decide_eq_false (by omega)
  clear h0
  go_wp2_with fail
  go_quiet (fail)
  have hk5 : Kp noB w3 (w3.drewN nq) := (Kp.refl _ _).drewN _
  have hr5 := hr3.kp hk5 (noB_not _)
  have hq5 := hq3.kp hk5 (noB_not _)
  have hE5 := hE3.kp hk5 (fun k _ => noB_not _)
  generalize w3.drewN nq = w5 at hk5 hr5 hq5 hE5 ⊢
  go_wp2_with fail
  refine (want_bad 125 hr5 hE5 hsz h125).mono ?_
  rintro e w6 ⟨⟨g, rfl, hg⟩, hk6⟩
  go_wp2_with fail
  exact ⟨rfl, ⟨g, rfl, hg⟩, (hk23.trans hk5.any).trans hk6.any⟩

set_option maxRecDepth 100000 in
theorem counted_comma_broken (hr : RD s b a o w) (hE : Env T eb es w) (hsz : s.size ≤ 65536) (ha : a ≤ s.size) (hq : QD q 6 sv 0 0 kv w) (hqb : q ≠ b) (hq16 : 16 ≤ q) (n p : Nat) (hc : count s a = .ok n p) (h44 : pk s p = 44) (h : pk s (p + 1) = -2) :
    Calls Tryz.prog 203 #[.pointer (some ⟨b, 0, none⟩), .pointer (some ⟨q, 0, none⟩)] w fun e w' => CP T eb es s b o q sv kv w (.er 1 (p + 1)) e w' := by
  obtain ⟨hn50, hap, hps, hpne, hn0⟩ := count_ok hc ha
  have HC := count_any hr hE hsz ha
  rw [hc] at HC
  have HC := Lib.hid HC
  have hnI : (n : Int) ≤ 50 := by omega
  have hpI : (p : Int) ≤ 65536 := by omega
  have hqz := hq.z
  have hN16 : ∀ k, k < 16 → ¬ onB2 b q k := fun k hk => onB2_not (by have := hr.far; omega) (by omega)
  have HF := Lib.hid (⟨hqb, hq16, hap, hps, hpne, hn0⟩ : q ≠ b ∧ 16 ≤ q ∧ a < p ∧ p ≤ s.size ∧ pk s p ≠ -2 ∧ (n = 0 → p = a + 1))
  have HCC := Lib.hid hc
  clear hc hap hps hpne hn0
  go_enter Tryz.func203, Tryz.ntmps203
  go_wp2_with fail
  refine HC.out.mono ?_
  rintro e w1 ⟨rfl, hk1, hr1⟩
  have hq1 := hq.kp hk1 (onB_not hqb)
  have hqz1 := hq1.z
  have hqc12 := hq1.c2
  have hqc13 := hq1.c3
  have hq2 := (hq1.min n).max n
  have hr2 := (hr1.other (p := ⟨q, 2, none⟩) hqb (.int .i64 n)).other (p := ⟨q, 3, none⟩) hqb (.int .i64 n)
  have hk2 := (hk1.two (q := q)).setCell (F := onB2 b q) (p := ⟨q, 2, none⟩) (.inl (onB2_r b q)) (.int .i64 n) |>.setCell (F := onB2 b q) (p := ⟨q, 3, none⟩) (.inl (onB2_r b q)) (.int .i64 n)
  obtain ⟨w2, HW2⟩ : ∃ w2, Hid ((w1.setCell ⟨q, 2, none⟩ (.int .i64 n)).setCell ⟨q, 3, none⟩ (.int .i64 n) = w2) := ⟨_, rfl⟩
  rw [HW2.out] at hr2 hk2 hq2
  have hrc2 := hr2.c1
  go_upto_region 2 with (fail)
  rw [HW2.out]
  clear hqz1 hqc12 hqc13 hqz
  have hE2 := hE.kp hk2 hN16
  have hqz2 := hq2.z
  have hqc2 := hq2.c2
  have hqc3 := hq2.c3
  go_wp2_with fail
  refine (pass_yes 44 hr2 hE2 hsz (by omega) (by omega) h44).mono ?_
  rintro e w3 ⟨rfl, hk3, hr3⟩
  have hk23 := hk2.trans hk3.two
  have hq3 := hq2.kp hk3 (onB_not HF.out.1)
  have hE3 := hE.kp hk23 hN16
  have hz3 := hq3.z
  have hc13 := hq3.c3
  have hq4 := hq3.max (-1)
  have hr4 := hr3.other (p := ⟨q, 3, none⟩) HF.out.1 (.int .i64 (-1))
  have hk4 := hk23.setCell (F := onB2 b q) (p := ⟨q, 3, none⟩) (.inl (onB2_r b q)) (.int .i64 (-1))
  obtain ⟨w4, HW4⟩ : ∃ w4, Hid (w3.setCell ⟨q, 3, none⟩ (.int .i64 (-1)) = w4) := ⟨_, rfl⟩
  rw [HW4.out] at hr4 hk4 hq4
  have hc41 := hr4.c1
  go_upto_region 5 with (fail)
  rw [HW4.out]
  clear hz3 hc13 hqz2 hqc2 hqc3
  have hE4 := hE.kp hk4 hN16
  go_wp2_with fail
  refine (peek_bad hr4 hE4 hsz h).mono ?_
  rintro e w5 ⟨⟨g, rfl, hg⟩, hk5⟩
  go_wp2_with fail
  exact ⟨rfl, ⟨g, rfl, hg⟩, hk4.trans hk5.any⟩

set_option maxRecDepth 100000 in
theorem counted_comma_close (hr : RD s b a o w) (hE : Env T eb es w) (hsz : s.size ≤ 65536) (ha : a ≤ s.size) (hq : QD q 6 sv 0 0 kv w) (hqb : q ≠ b) (hq16 : 16 ≤ q) (n p : Nat) (hc : count s a = .ok n p) (h44 : pk s p = 44) (h125 : pk s (p + 1) = 125) :
    Calls Tryz.prog 203 #[.pointer (some ⟨b, 0, none⟩), .pointer (some ⟨q, 0, none⟩)] w fun e w' => CP T eb es s b o q sv kv w (.ok ((n : Int), -1) (p + 1 + 1)) e w' := by
  obtain ⟨hn50, hap, hps, hpne, hn0⟩ := count_ok hc ha
  have HC := count_any hr hE hsz ha
  rw [hc] at HC
  have HC := Lib.hid HC
  have hnI : (n : Int) ≤ 50 := by omega
  have hpI : (p : Int) ≤ 65536 := by omega
  have hqz := hq.z
  have hN16 : ∀ k, k < 16 → ¬ onB2 b q k := fun k hk => onB2_not (by have := hr.far; omega) (by omega)
  have HF := Lib.hid (⟨hqb, hq16, hap, hps, hpne, hn0⟩ : q ≠ b ∧ 16 ≤ q ∧ a < p ∧ p ≤ s.size ∧ pk s p ≠ -2 ∧ (n = 0 → p = a + 1))
  have HCC := Lib.hid hc
  clear hc hap hps hpne hn0
  go_enter Tryz.func203, Tryz.ntmps203
  go_wp2_with fail
  refine HC.out.mono ?_
  rintro e w1 ⟨rfl, hk1, hr1⟩
  have hq1 := hq.kp hk1 (onB_not hqb)
  have hqz1 := hq1.z
  have hqc12 := hq1.c2
  have hqc13 := hq1.c3
  have hq2 := (hq1.min n).max n
  have hr2 := (hr1.other (p := ⟨q, 2, none⟩) hqb (.int .i64 n)).other (p := ⟨q, 3, none⟩) hqb (.int .i64 n)
  have hk2 := (hk1.two (q := q)).setCell (F := onB2 b q) (p := ⟨q, 2, none⟩) (.inl (onB2_r b q)) (.int .i64 n) |>.setCell (F := onB2 b q) (p := ⟨q, 3, none⟩) (.inl (onB2_r b q)) (.int .i64 n)
  obtain ⟨w2, HW2⟩ : ∃ w2, Hid ((w1.setCell ⟨q, 2, none⟩ (.int .i64 n)).setCell ⟨q, 3, none⟩ (.int .i64 n) = w2) := ⟨_, rfl⟩
  rw [HW2.out] at hr2 hk2 hq2
  have hrc2 := hr2.c1
  go_upto_region 2 with (fail)
  rw [HW2.out]
  clear hqz1 hqc12 hqc13 hqz
  have hE2 := hE.kp hk2 hN16
  have hqz2 := hq2.z
  have hqc2 := hq2.c2
  have hqc3 := hq2.c3
  go_wp2_with fail
  refine (pass_yes 44 hr2 hE2 hsz (by omega) (by omega) h44).mono ?_
  rintro e w3 ⟨rfl, hk3, hr3⟩
  have hk23 := hk2.trans hk3.two
  have hq3 := hq2.kp hk3 (onB_not HF.out.1)
  have hE3 := hE.kp hk23 hN16
  have hz3 := hq3.z
  have hc13 := hq3.c3
  have hq4 := hq3.max (-1)
  have hr4 := hr3.other (p := ⟨q, 3, none⟩) HF.out.1 (.int .i64 (-1))
  have hk4 := hk23.setCell (F := onB2 b q) (p := ⟨q, 3, none⟩) (.inl (onB2_r b q)) (.int .i64 (-1))
  obtain ⟨w4, HW4⟩ : ∃ w4, Hid (w3.setCell ⟨q, 3, none⟩ (.int .i64 (-1)) = w4) := ⟨_, rfl⟩
  rw [HW4.out] at hr4 hk4 hq4
  have hc41 := hr4.c1
  go_upto_region 5 with (fail)
  rw [HW4.out]
  clear hz3 hc13 hqz2 hqc2 hqc3
  have hE4 := hE.kp hk4 hN16
  go_wp2_with fail
  refine (peek_ok hr4 hE4 hsz _ h125 (by omega)).mono ?_
  rintro e w5 ⟨rfl, hk5⟩
  have hr5 := hr4.kp hk5 (noB_not _)
  have hq5 := hq4.kp hk5 (noB_not _)
  have hE5 := hE4.kp hk5 (fun k _ => noB_not _)
  have hc53 := hq5.c3
  have hb : ((125 : Int) != 125) = false := rfl
  have hb2 : decide ((0 : Int) ≤ -1) = false := rfl
  go_wp2_with fail
  go_quiet (fail)
  have hk7 : Kp noB w5 (w5.drewN nq) := (Kp.refl _ _).drewN _
  have hr7 := hr5.kp hk7 (noB_not _)
  have hq7 := hq5.kp hk7 (noB_not _)
  have hE7 := hE5.kp hk7 (fun k _ => noB_not _)
  generalize w5.drewN nq = w7 at hk7 hr7 hq7 hE7 ⊢
  go_wp2_with fail
  refine (want_yes 125 hr7 hE7 hsz (by omega) (by omega) h125).mono ?_
  rintro e w6 ⟨rfl, hk6, hr6⟩
  go_wp2_with fail
  go_end0
  exact ⟨rfl, ((hk4.trans hk5.any).trans hk7.any).trans hk6.two, hr6, hq7.kp hk6 (onB_not HF.out.1)⟩

set_option maxRecDepth 100000 in
theorem counted_comma_er (hr : RD s b a o w) (hE : Env T eb es w) (hsz : s.size ≤ 65536) (ha : a ≤ s.size) (hq : QD q 6 sv 0 0 kv w) (hqb : q ≠ b) (hq16 : 16 ≤ q) (n p : Nat) (hc : count s a = .ok n p) (h44 : pk s p = 44) (h : pk s (p + 1) ≠ -2) (hn125 : pk s (p + 1) ≠ 125) (c d : Nat) (hc2 : count s (p + 1) = .er c d) :
    Calls Tryz.prog 203 #[.pointer (some ⟨b, 0, none⟩), .pointer (some ⟨q, 0, none⟩)] w fun e w' => CP T eb es s b o q sv kv w (.er c d) e w' := by
  have hps1 : p + 1 ≤ s.size := by
    rcases Nat.lt_or_ge p s.size with h' | h'
    · exact h'
    · rw [pk_end h'] at h44; omega
  obtain ⟨hn50, hap, hps, hpne, hn0⟩ := count_ok hc ha
  have HC := count_any hr hE hsz ha
  rw [hc] at HC
  have HC := Lib.hid HC
  have hnI : (n : Int) ≤ 50 := by omega
  have hpI : (p : Int) ≤ 65536 := by omega
  have hqz := hq.z
  have hN16 : ∀ k, k < 16 → ¬ onB2 b q k := fun k hk => onB2_not (by have := hr.far; omega) (by omega)
  have HF := Lib.hid (⟨hqb, hq16, hap, hps, hpne, hn0⟩ : q ≠ b ∧ 16 ≤ q ∧ a < p ∧ p ≤ s.size ∧ pk s p ≠ -2 ∧ (n = 0 → p = a + 1))
  have HCC := Lib.hid hc
  clear hc hap hps hpne hn0
  go_enter Tryz.func203, Tryz.ntmps203
  go_wp2_with fail
  refine HC.out.mono ?_
  rintro e w1 ⟨rfl, hk1, hr1⟩
  have hq1 := hq.kp hk1 (onB_not hqb)
  have hqz1 := hq1.z
  have hqc12 := hq1.c2
  have hqc13 := hq1.c3
  have hq2 := (hq1.min n).max n
  have hr2 := (hr1.other (p := ⟨q, 2, none⟩) hqb (.int .i64 n)).other (p := ⟨q, 3, none⟩) hqb (.int .i64 n)
  have hk2 := (hk1.two (q := q)).setCell (F := onB2 b q) (p := ⟨q, 2, none⟩) (.inl (onB2_r b q)) (.int .i64 n) |>.setCell (F := onB2 b q) (p := ⟨q, 3, none⟩) (.inl (onB2_r b q)) (.int .i64 n)
  obtain ⟨w2, HW2⟩ : ∃ w2, Hid ((w1.setCell ⟨q, 2, none⟩ (.int .i64 n)).setCell ⟨q, 3, none⟩ (.int .i64 n) = w2) := ⟨_, rfl⟩
  rw [HW2.out] at hr2 hk2 hq2
  have hrc2 := hr2.c1
  go_upto_region 2 with (fail)
  rw [HW2.out]
  clear hqz1 hqc12 hqc13 hqz
  have hE2 := hE.kp hk2 hN16
  have hqz2 := hq2.z
  have hqc2 := hq2.c2
  have hqc3 := hq2.c3
  go_wp2_with fail
  refine (pass_yes 44 hr2 hE2 hsz (by omega) (by omega) h44).mono ?_
  rintro e w3 ⟨rfl, hk3, hr3⟩
  have hk23 := hk2.trans hk3.two
  have hq3 := hq2.kp hk3 (onB_not HF.out.1)
  have hE3 := hE.kp hk23 hN16
  have hz3 := hq3.z
  have hc13 := hq3.c3
  have hq4 := hq3.max (-1)
  have hr4 := hr3.other (p := ⟨q, 3, none⟩) HF.out.1 (.int .i64 (-1))
  have hk4 := hk23.setCell (F := onB2 b q) (p := ⟨q, 3, none⟩) (.inl (onB2_r b q)) (.int .i64 (-1))
  obtain ⟨w4, HW4⟩ : ∃ w4, Hid (w3.setCell ⟨q, 3, none⟩ (.int .i64 (-1)) = w4) := ⟨_, rfl⟩
  rw [HW4.out] at hr4 hk4 hq4
  have hc41 := hr4.c1
  go_upto_region 5 with (fail)
  rw [HW4.out]
  clear hz3 hc13 hqz2 hqc2 hqc3
  have hE4 := hE.kp hk4 hN16
  go_wp2_with fail
  have hpk5 := peek_ok hr4 hE4 hsz _ rfl h
  have hb : (pk s (p + 1) != 125) = true := bne_iff_ne.2 hn125
  generalize pk s (p + 1) = x at hpk5 hb
  refine hpk5.mono ?_
  rintro e w5 ⟨rfl, hk5⟩
  have hr5 := hr4.kp hk5 (noB_not _)
  have hq5 := hq4.kp hk5 (noB_not _)
  have hE5 := hE4.kp hk5 (fun k _ => noB_not _)
  clear hpk5 hn125 h
  have HC5 := count_any hr5 hE5 hsz hps1
  rw [hc2] at HC5
  have HC5 := Lib.hid HC5
  have HCC2 := Lib.hid hc2
  clear hc2
  go_wp2_with fail
  refine HC5.out.mono ?_
  rintro e w6 ⟨⟨g, rfl, hg⟩, hk6⟩
  go_wp2_with fail
  exact ⟨rfl, ⟨g, rfl, hg⟩, (hk4.trans hk5.any).trans hk6.two⟩

set_option maxRecDepth 100000 in
theorem counted_low (hr : RD s b a o w) (hE : Env T eb es w) (hsz : s.size ≤ 65536) (ha : a ≤ s.size) (hq : QD q 6 sv 0 0 kv w) (hqb : q ≠ b) (hq16 : 16 ≤ q) (n p : Nat) (hc : count s a = .ok n p) (h44 : pk s p = 44) (h : pk s (p + 1) ≠ -2) (hn125 : pk s (p + 1) ≠ 125) (m d : Nat) (hc2 : count s (p + 1) = .ok m d) (hmn : m < n ∨ m = 0) :
    Calls Tryz.prog 203 #[.pointer (some ⟨b, 0, none⟩), .pointer (some ⟨q, 0, none⟩)] w fun e w' => CP T eb es s b o q sv kv w (.er 1 (p + 1)) e w' := by
  have hps1 : p + 1 ≤ s.size := by
    rcases Nat.lt_or_ge p s.size with h' | h'
    · exact h'
    · rw [pk_end h'] at h44; omega
  obtain ⟨hn50, hap, hps, hpne, hn0⟩ := count_ok hc ha
  have HC := count_any hr hE hsz ha
  rw [hc] at HC
  have HC := Lib.hid HC
  have hnI : (n : Int) ≤ 50 := by omega
  have hpI : (p : Int) ≤ 65536 := by omega
  have hqz := hq.z
  have hN16 : ∀ k, k < 16 → ¬ onB2 b q k := fun k hk => onB2_not (by have := hr.far; omega) (by omega)
  have HF := Lib.hid (⟨hqb, hq16, hap, hps, hpne, hn0⟩ : q ≠ b ∧ 16 ≤ q ∧ a < p ∧ p ≤ s.size ∧ pk s p ≠ -2 ∧ (n = 0 → p = a + 1))
  have HCC := Lib.hid hc
  clear hc hap hps hpne hn0
  go_enter Tryz.func203, Tryz.ntmps203
  go_wp2_with fail
  refine HC.out.mono ?_
  rintro e w1 ⟨rfl, hk1, hr1⟩
  have hq1 := hq.kp hk1 (onB_not hqb)
  have hqz1 := hq1.z
  have hqc12 := hq1.c2
  have hqc13 := hq1.c3
  have hq2 := (hq1.min n).max n
  have hr2 := (hr1.other (p := ⟨q, 2, none⟩) hqb (.int .i64 n)).other (p := ⟨q, 3, none⟩) hqb (.int .i64 n)
  have hk2 := (hk1.two (q := q)).setCell (F := onB2 b q) (p := ⟨q, 2, none⟩) (.inl (onB2_r b q)) (.int .i64 n) |>.setCell (F := onB2 b q) (p := ⟨q, 3, none⟩) (.inl (onB2_r b q)) (.int .i64 n)
  obtain ⟨w2, HW2⟩ : ∃ w2, Hid ((w1.setCell ⟨q, 2, none⟩ (.int .i64 n)).setCell ⟨q, 3, none⟩ (.int .i64 n) = w2) := ⟨_, rfl⟩
  rw [HW2.out] at hr2 hk2 hq2
  have hrc2 := hr2.c1
  go_upto_region 2 with (fail)
  rw [HW2.out]
  clear hqz1 hqc12 hqc13 hqz
  have hE2 := hE.kp hk2 hN16
  have hqz2 := hq2.z
  have hqc2 := hq2.c2
  have hqc3 := hq2.c3
  go_wp2_with fail
  refine (pass_yes 44 hr2 hE2 hsz (by omega) (by omega) h44).mono ?_
  rintro e w3 ⟨rfl, hk3, hr3⟩
  have hk23 := hk2.trans hk3.two
  have hq3 := hq2.kp hk3 (onB_not HF.out.1)
  have hE3 := hE.kp hk23 hN16
  have hz3 := hq3.z
  have hc13 := hq3.c3
  have hq4 := hq3.max (-1)
  have hr4 := hr3.other (p := ⟨q, 3, none⟩) HF.out.1 (.int .i64 (-1))
  have hk4 := hk23.setCell (F := onB2 b q) (p := ⟨q, 3, none⟩) (.inl (onB2_r b q)) (.int .i64 (-1))
  obtain ⟨w4, HW4⟩ : ∃ w4, Hid (w3.setCell ⟨q, 3, none⟩ (.int .i64 (-1)) = w4) := ⟨_, rfl⟩
  rw [HW4.out] at hr4 hk4 hq4
  have hc41 := hr4.c1
  go_upto_region 5 with (fail)
  rw [HW4.out]
  clear hz3 hc13 hqz2 hqc2 hqc3
  have hE4 := hE.kp hk4 hN16
  go_wp2_with fail
  have hpk5 := peek_ok hr4 hE4 hsz _ rfl h
  have hb : (pk s (p + 1) != 125) = true := bne_iff_ne.2 hn125
  generalize pk s (p + 1) = x at hpk5 hb
  refine hpk5.mono ?_
  rintro e w5 ⟨rfl, hk5⟩
  have hr5 := hr4.kp hk5 (noB_not _)
  have hq5 := hq4.kp hk5 (noB_not _)
  have hE5 := hE4.kp hk5 (fun k _ => noB_not _)
  clear hpk5 hn125 h
  have HC5 := count_any hr5 hE5 hsz hps1
  rw [hc2] at HC5
  have HC5 := Lib.hid HC5
  have HCC2 := Lib.hid hc2
  clear hc2
  go_wp2_with fail
  refine HC5.out.mono ?_
  rintro e w6 ⟨rfl, hk6, hr6⟩
  have hq6 := hq5.kp hk6 (onB_not HF.out.1)
  have hz6 := hq6.z
  have hc63 := hq6.c3
  have hk46 := (hk4.trans hk5.any).trans (hk6.two (q := q))
  have hq7 := hq6.max m
  have hr7 := hr6.other (p := ⟨q, 3, none⟩) HF.out.1 (.int .i64 m)
  have hk7 := hk46.setCell (F := onB2 b q) (p := ⟨q, 3, none⟩) (.inl (onB2_r b q)) (.int .i64 m)
  obtain ⟨w7, HW7⟩ : ∃ w7, Hid (w6.setCell ⟨q, 3, none⟩ (.int .i64 m) = w7) := ⟨_, rfl⟩
  rw [HW7.out] at hr7 hk7 hq7
  go_wp2_with fail
  rw [HW7.out]
  clear hz6 hc63
  have hE7 := hE.kp hk7 hN16
  have hc72 := hq7.c2
  have hc73 := hq7.c3
  have hy7 := hE7.syn
  have hb2 : decide ((m : Int) < max (n : Int) 1) = true := decide_eq_true (by omega)
  clear hmn
  go_quiet (fail)
  have hk8 : Kp noB w7 (w7.drewN nq) := (Kp.refl _ _).drewN _
  have hr8 := hr7.kp hk8 (noB_not _)
  have hq8 := hq7.kp hk8 (noB_not _)
  have hE8 := hE7.kp hk8 (fun k _ => noB_not _)
  go_wp2_with (go_at_call 46; refine (fail_bad _ _ _).mono ?_; rintro e w9 ⟨⟨g, rfl, hg⟩, hk9⟩)
  exact ⟨rfl, ⟨g, rfl, hg⟩, (hk7.trans hk8.any).trans hk9.any⟩

set_option maxRecDepth 100000 in
theorem counted_two (hr : RD s b a o w) (hE : Env T eb es w) (hsz : s.size ≤ 65536) (ha : a ≤ s.size) (hq : QD q 6 sv 0 0 kv w) (hqb : q ≠ b) (hq16 : 16 ≤ q) (n p : Nat) (hc : count s a = .ok n p) (h44 : pk s p = 44) (h : pk s (p + 1) ≠ -2) (hn125 : pk s (p + 1) ≠ 125) (m d : Nat) (hc2 : count s (p + 1) = .ok m d) (hmn : ¬ (m < n ∨ m = 0)) (h125 : pk s d = 125) :
    Calls Tryz.prog 203 #[.pointer (some ⟨b, 0, none⟩), .pointer (some ⟨q, 0, none⟩)] w fun e w' => CP T eb es s b o q sv kv w (.ok ((n : Int), (m : Int)) (d + 1)) e w' := by
  have hps1 : p + 1 ≤ s.size := by
    rcases Nat.lt_or_ge p s.size with h' | h'
    · exact h'
    · rw [pk_end h'] at h44; omega
  obtain ⟨hn50, hap, hps, hpne, hn0⟩ := count_ok hc ha
  have HC := count_any hr hE hsz ha
  rw [hc] at HC
  have HC := Lib.hid HC
  have hnI : (n : Int) ≤ 50 := by omega
  have hpI : (p : Int) ≤ 65536 := by omega
  have hqz := hq.z
  have hN16 : ∀ k, k < 16 → ¬ onB2 b q k := fun k hk => onB2_not (by have := hr.far; omega) (by omega)
  have HF := Lib.hid (⟨hqb, hq16, hap, hps, hpne, hn0⟩ : q ≠ b ∧ 16 ≤ q ∧ a < p ∧ p ≤ s.size ∧ pk s p ≠ -2 ∧ (n = 0 → p = a + 1))
  have HCC := Lib.hid hc
  clear hc hap hps hpne hn0
  go_enter Tryz.func203, Tryz.ntmps203
  go_wp2_with fail
  refine HC.out.mono ?_
  rintro e w1 ⟨rfl, hk1, hr1⟩
  have hq1 := hq.kp hk1 (onB_not hqb)
  have hqz1 := hq1.z
  have hqc12 := hq1.c2
  have hqc13 := hq1.c3
  have hq2 := (hq1.min n).max n
  have hr2 := (hr1.other (p := ⟨q, 2, none⟩) hqb (.int .i64 n)).other (p := ⟨q, 3, none⟩) hqb (.int .i64 n)
  have hk2 := (hk1.two (q := q)).setCell (F := onB2 b q) (p := ⟨q, 2, none⟩) (.inl (onB2_r b q)) (.int .i64 n) |>.setCell (F := onB2 b q) (p := ⟨q, 3, none⟩) (.inl (onB2_r b q)) (.int .i64 n)
  obtain ⟨w2, HW2⟩ : ∃ w2, Hid ((w1.setCell ⟨q, 2, none⟩ (.int .i64 n)).setCell ⟨q, 3, none⟩ (.int .i64 n) = w2) := ⟨_, rfl⟩
  rw [HW2.out] at hr2 hk2 hq2
  have hrc2 := hr2.c1
  go_upto_region 2 with (fail)
  rw [HW2.out]
  clear hqz1 hqc12 hqc13 hqz
  have hE2 := hE.kp hk2 hN16
  have hqz2 := hq2.z
  have hqc2 := hq2.c2
  have hqc3 := hq2.c3
  go_wp2_with fail
  refine (pass_yes 44 hr2 hE2 hsz (by omega) (by omega) h44).mono ?_
  rintro e w3 ⟨rfl, hk3, hr3⟩
  have hk23 := hk2.trans hk3.two
  have hq3 := hq2.kp hk3 (onB_not HF.out.1)
  have hE3 := hE.kp hk23 hN16
  have hz3 := hq3.z
  have hc13 := hq3.c3
  have hq4 := hq3.max (-1)
  have hr4 := hr3.other (p := ⟨q, 3, none⟩) HF.out.1 (.int .i64 (-1))
  have hk4 := hk23.setCell (F := onB2 b q) (p := ⟨q, 3, none⟩) (.inl (onB2_r b q)) (.int .i64 (-1))
  obtain ⟨w4, HW4⟩ : ∃ w4, Hid (w3.setCell ⟨q, 3, none⟩ (.int .i64 (-1)) = w4) := ⟨_, rfl⟩
  rw [HW4.out] at hr4 hk4 hq4
  have hc41 := hr4.c1
  go_upto_region 5 with (fail)
  rw [HW4.out]
  clear hz3 hc13 hqz2 hqc2 hqc3
  have hE4 := hE.kp hk4 hN16
  go_wp2_with fail
  have hpk5 := peek_ok hr4 hE4 hsz _ rfl h
  have hb : (pk s (p + 1) != 125) = true := bne_iff_ne.2 hn125
  generalize pk s (p + 1) = x at hpk5 hb
  refine hpk5.mono ?_
  rintro e w5 ⟨rfl, hk5⟩
  have hr5 := hr4.kp hk5 (noB_not _)
  have hq5 := hq4.kp hk5 (noB_not _)
  have hE5 := hE4.kp hk5 (fun k _ => noB_not _)
  clear hpk5 hn125 h
  have HC5 := count_any hr5 hE5 hsz hps1
  rw [hc2] at HC5
  have HC5 := Lib.hid HC5
  have HCC2 := Lib.hid hc2
  clear hc2
  go_wp2_with fail
  refine HC5.out.mono ?_
  rintro e w6 ⟨rfl, hk6, hr6⟩
  have hq6 := hq5.kp hk6 (onB_not HF.out.1)
  have hz6 := hq6.z
  have hc63 := hq6.c3
  have hk46 := (hk4.trans hk5.any).trans (hk6.two (q := q))
  have hq7 := hq6.max m
  have hr7 := hr6.other (p := ⟨q, 3, none⟩) HF.out.1 (.int .i64 m)
  have hk7 := hk46.setCell (F := onB2 b q) (p := ⟨q, 3, none⟩) (.inl (onB2_r b q)) (.int .i64 m)
  obtain ⟨w7, HW7⟩ : ∃ w7, Hid (w6.setCell ⟨q, 3, none⟩ (.int .i64 m) = w7) := ⟨_, rfl⟩
  rw [HW7.out] at hr7 hk7 hq7
  go_wp2_with fail
  rw [HW7.out]
  clear hz6 hc63
  have hE7 := hE.kp hk7 hN16
  have hc72 := hq7.c2
  have hc73 := hq7.c3
  have hy7 := hE7.syn
  have hb2 : decide ((m : Int) < max (n : Int) 1) = false := decide_eq_false (by omega)
  clear hmn
  go_quiet (fail)
  have hk8 : Kp noB w7 (w7.drewN nq) := (Kp.refl _ _).drewN _
  have hr8 := hr7.kp hk8 (noB_not _)
  have hq8 := hq7.kp hk8 (noB_not _)
  have hE8 := hE7.kp hk8 (fun k _ => noB_not _)
  generalize w7.drewN nq = w8 at hk8 hr8 hq8 hE8 ⊢
  go_wp2_with fail
  refine (want_yes 125 hr8 hE8 hsz (by omega) (by omega) h125).mono ?_
  rintro e w6 ⟨rfl, hk6, hr6⟩
  go_wp2_with fail
  go_end0
  exact ⟨rfl, (hk7.trans hk8.any).trans hk6.two, hr6, hq8.kp hk6 (onB_not HF.out.1)⟩

set_option maxRecDepth 100000 in
theorem counted_two_open (hr : RD s b a o w) (hE : Env T eb es w) (hsz : s.size ≤ 65536) (ha : a ≤ s.size) (hq : QD q 6 sv 0 0 kv w) (hqb : q ≠ b) (hq16 : 16 ≤ q) (n p : Nat) (hc : count s a = .ok n p) (h44 : pk s p = 44) (h : pk s (p + 1) ≠ -2) (hn125 : pk s (p + 1) ≠ 125) (m d : Nat) (hc2 : count s (p + 1) = .ok m d) (hmn : ¬ (m < n ∨ m = 0)) (h125 : pk s d ≠ 125) :
    Calls Tryz.prog 203 #[.pointer (some ⟨b, 0, none⟩), .pointer (some ⟨q, 0, none⟩)] w fun e w' => CP T eb es s b o q sv kv w (.er 1 d) e w' := by
  have hps1 : p + 1 ≤ s.size := by
    rcases Nat.lt_or_ge p s.size with h' | h'
    · exact h'
    · rw [pk_end h'] at h44; omega
  obtain ⟨hn50, hap, hps, hpne, hn0⟩ := count_ok hc ha
  have HC := count_any hr hE hsz ha
  rw [hc] at HC
  have HC := Lib.hid HC
  have hnI : (n : Int) ≤ 50 := by omega
  have hpI : (p : Int) ≤ 65536 := by omega
  have hqz := hq.z
  have hN16 : ∀ k, k < 16 → ¬ onB2 b q k := fun k hk => onB2_not (by have := hr.far; omega) (by omega)
  have HF := Lib.hid (⟨hqb, hq16, hap, hps, hpne, hn0⟩ : q ≠ b ∧ 16 ≤ q ∧ a < p ∧ p ≤ s.size ∧ pk s p ≠ -2 ∧ (n = 0 → p = a + 1))
  have HCC := Lib.hid hc
  clear hc hap hps hpne hn0
  go_enter Tryz.func203, Tryz.ntmps203
  go_wp2_with fail
  refine HC.out.mono ?_
  rintro e w1 ⟨rfl, hk1, hr1⟩
  have hq1 := hq.kp hk1 (onB_not hqb)
  have hqz1 := hq1.z
  have hqc12 := hq1.c2
  have hqc13 := hq1.c3
  have hq2 := (hq1.min n).max n
  have hr2 := (hr1.other (p := ⟨q, 2, none⟩) hqb (.int .i64 n)).other (p := ⟨q, 3, none⟩) hqb (.int .i64 n)
  have hk2 := (hk1.two (q := q)).setCell (F := onB2 b q) (p := ⟨q, 2, none⟩) (.inl (onB2_r b q)) (.int .i64 n) |>.setCell (F := onB2 b q) (p := ⟨q, 3, none⟩) (.inl (onB2_r b q)) (.int .i64 n)
  obtain ⟨w2, HW2⟩ : ∃ w2, Hid ((w1.setCell ⟨q, 2, none⟩ (.int .i64 n)).setCell ⟨q, 3, none⟩ (.int .i64 n) = w2) := ⟨_, rfl⟩
  rw [HW2.out] at hr2 hk2 hq2
  have hrc2 := hr2.c1
  go_upto_region 2 with (fail)
  rw [HW2.out]
  clear hqz1 hqc12 hqc13 hqz
  have hE2 := hE.kp hk2 hN16
  have hqz2 := hq2.z
  have hqc2 := hq2.c2
  have hqc3 := hq2.c3
  go_wp2_with fail
  refine (pass_yes 44 hr2 hE2 hsz (by omega) (by omega) h44).mono ?_
  rintro e w3 ⟨rfl, hk3, hr3⟩
  have hk23 := hk2.trans hk3.two
  have hq3 := hq2.kp hk3 (onB_not HF.out.1)
  have hE3 := hE.kp hk23 hN16
  have hz3 := hq3.z
  have hc13 := hq3.c3
  have hq4 := hq3.max (-1)
  have hr4 := hr3.other (p := ⟨q, 3, none⟩) HF.out.1 (.int .i64 (-1))
  have hk4 := hk23.setCell (F := onB2 b q) (p := ⟨q, 3, none⟩) (.inl (onB2_r b q)) (.int .i64 (-1))
  obtain ⟨w4, HW4⟩ : ∃ w4, Hid (w3.setCell ⟨q, 3, none⟩ (.int .i64 (-1)) = w4) := ⟨_, rfl⟩
  rw [HW4.out] at hr4 hk4 hq4
  have hc41 := hr4.c1
  go_upto_region 5 with (fail)
  rw [HW4.out]
  clear hz3 hc13 hqz2 hqc2 hqc3
  have hE4 := hE.kp hk4 hN16
  go_wp2_with fail
  have hpk5 := peek_ok hr4 hE4 hsz _ rfl h
  have hb : (pk s (p + 1) != 125) = true := bne_iff_ne.2 hn125
  generalize pk s (p + 1) = x at hpk5 hb
  refine hpk5.mono ?_
  rintro e w5 ⟨rfl, hk5⟩
  have hr5 := hr4.kp hk5 (noB_not _)
  have hq5 := hq4.kp hk5 (noB_not _)
  have hE5 := hE4.kp hk5 (fun k _ => noB_not _)
  clear hpk5 hn125 h
  have HC5 := count_any hr5 hE5 hsz hps1
  rw [hc2] at HC5
  have HC5 := Lib.hid HC5
  have HCC2 := Lib.hid hc2
  clear hc2
  go_wp2_with fail
  refine HC5.out.mono ?_
  rintro e w6 ⟨rfl, hk6, hr6⟩
  have hq6 := hq5.kp hk6 (onB_not HF.out.1)
  have hz6 := hq6.z
  have hc63 := hq6.c3
  have hk46 := (hk4.trans hk5.any).trans (hk6.two (q := q))
  have hq7 := hq6.max m
  have hr7 := hr6.other (p := ⟨q, 3, none⟩) HF.out.1 (.int .i64 m)
  have hk7 := hk46.setCell (F := onB2 b q) (p := ⟨q, 3, none⟩) (.inl (onB2_r b q)) (.int .i64 m)
  obtain ⟨w7, HW7⟩ : ∃ w7, Hid (w6.setCell ⟨q, 3, none⟩ (.int .i64 m) = w7) := ⟨_, rfl⟩
  rw [HW7.out] at hr7 hk7 hq7
  go_wp2_with fail
  rw [HW7.out]
  clear hz6 hc63
  have hE7 := hE.kp hk7 hN16
  have hc72 := hq7.c2
  have hc73 := hq7.c3
  have hy7 := hE7.syn
  have hb2 : decide ((m : Int) < max (n : Int) 1) = false := decide_eq_false (by omega)
  clear hmn
  go_quiet (fail)
  have hk8 : Kp noB w7 (w7.drewN nq) := (Kp.refl _ _).drewN _
  have hr8 := hr7.kp hk8 (noB_not _)
  have hq8 := hq7.kp hk8 (noB_not _)
  have hE8 := hE7.kp hk8 (fun k _ => noB_not _)
  generalize w7.drewN nq = w8 at hk8 hr8 hq8 hE8 ⊢
  go_wp2_with fail
  refine (want_bad 125 hr8 hE8 hsz h125).mono ?_
  rintro e w6 ⟨⟨g, rfl, hg⟩, hk6⟩
  go_wp2_with fail
  exact ⟨rfl, ⟨g, rfl, hg⟩, (hk7.trans hk8.any).trans hk6.any⟩

theorem counted_any (hr : RD s b a o w) (hE : Env T eb es w) (hsz : s.size ≤ 65536) (ha : a ≤ s.size) (hq : QD q 6 sv 0 0 kv w) (hqb : q ≠ b) (hq16 : 16 ≤ q) :
    Calls Tryz.prog 203 #[.pointer (some ⟨b, 0, none⟩), .pointer (some ⟨q, 0, none⟩)] w fun e w' => CP T eb es s b o q sv kv w (counted s a) e w' := by
  unfold counted
  cases hc : count s a with
  | er c p => exact counted_er hr hE hsz ha c p hc
  | ok n p =>
    simp only
    by_cases h1 : pk s p = -2
    · rw [if_pos h1]
      exact counted_broken hr hE hsz ha hq hqb hq16 n p hc h1
    rw [if_neg h1]
    by_cases h2 : pk s p = 44
    · rw [if_pos h2]
      by_cases h3 : pk s (p + 1) = -2
      · rw [if_pos h3]
        exact counted_comma_broken hr hE hsz ha hq hqb hq16 n p hc h2 h3
      rw [if_neg h3]
      by_cases h4 : pk s (p + 1) = 125
      · rw [if_pos h4]
        unfold closed
        rw [if_pos h4]
        exact counted_comma_close hr hE hsz ha hq hqb hq16 n p hc h2 h4
      rw [if_neg h4]
      cases hc2 : count s (p + 1) with
      | er c d => exact counted_comma_er hr hE hsz ha hq hqb hq16 n p hc h2 h3 h4 c d hc2
      | ok m d =>
        simp only
        by_cases h5 : m < n ∨ m = 0
        · rw [if_pos h5]
          exact counted_low hr hE hsz ha hq hqb hq16 n p hc h2 h3 h4 m d hc2 h5
        rw [if_neg h5]
        unfold closed
        by_cases h6 : pk s d = 125
        · rw [if_pos h6]
          exact counted_two hr hE hsz ha hq hqb hq16 n p hc h2 h3 h4 m d hc2 h5 h6
        · rw [if_neg h6]
          exact counted_two_open hr hE hsz ha hq hqb hq16 n p hc h2 h3 h4 m d hc2 h5 h6
    · rw [if_neg h2]
      by_cases h3 : n = 0
      · rw [if_pos h3]
        exact counted_zero hr hE hsz ha hq hqb hq16 n p hc h2 (Lib.hid h3)
      rw [if_neg h3]
      unfold closed
      by_cases h4 : pk s p = 125
      · rw [if_pos h4]
        exact counted_one hr hE hsz ha hq hqb hq16 n p hc h2 h3 h4
      · rw [if_neg h4]
        exact counted_open hr hE hsz ha hq hqb hq16 n p hc h2 h3 h4

end
end Go.Proofs.YtoijabgcgdgacaaGreatDoor
