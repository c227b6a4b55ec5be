/-
  WALKS, xi: the text of a pattern: a set; not; so often.
  WALKS, xj: the text of a pattern, joined; pattern.Write.
-/
import Derived.Test.YtoijabgcgdgacaaGreatDoorGM
import Derived.Test.YtoijabgcgdgacaaGreatDoorGI
import Derived.Test.YtoijabgcgdgacaaGreatDoorGC
namespace Go.Proofs.YtoijabgcgdgacaaGreatDoor
open Go.RowKit Go.Proofs.Gram Go.Lib

section
variable {b : Nat} {w : World} {A : Option Addr} {m cap : Nat} {kids : List Rx} {t : Rx}

set_option maxRecDepth 100000 in
theorem text_set {l : List (Int × Int)} {n c : Nat} {S : Option Addr} (h0 : w.cell? ⟨b, 0, none⟩ = some (.int .i64 1)) (h1 : w.cell? ⟨b, 1, none⟩ = some (.slice S n c))
    (HS : Hid (∀ W, Kp noB w W → Calls Tryz.prog 108 #[.slice S n c] W fun e w' => e = .returned (.string (bt (setT l))) ∧ Kp noB W w')) :
    Calls Tryz.prog 53 #[.pointer (some ⟨b, 0, none⟩)] w fun e w' => e = .returned (.string (bt (setT l))) ∧ Kp noB w w' := by
  go_enter Tryz.func53, Tryz.ntmps53
  go_wp2_with fail
  refine (HS.out w (Kp.refl _ _)).mono ?_
  rintro e w1 ⟨rfl, hk1⟩
  go_wp2_with fail
  go_ret
  exact ⟨rfl, hk1⟩

set_option maxRecDepth 100000 in
theorem text_not {g off : Nat} {u : Option Addr} (h0 : w.cell? ⟨b, 0, none⟩ = some (.int .i64 5)) (h4 : w.cell? ⟨b, 4, none⟩ = some (.slice (some ⟨g, off, none⟩) 1 cap)) (hu : w.cell? ⟨g, off, none⟩ = some (.pointer u))
    (HK : Hid (∀ W, Kp noB w W → Calls Tryz.prog 109 #[.pointer u, .int .i64 4] W fun e w' => ∃ S, e = .returned (.string S) ∧ S.size ≤ 100000000002 ∧ Hid (S = bt (wi 4 t)) ∧ Kp noB W w')) :
    Calls Tryz.prog 53 #[.pointer (some ⟨b, 0, none⟩)] w fun e w' => e = .returned (.string (bt (126 :: wi 4 t))) ∧ Kp noB w w' := by
  go_enter Tryz.func53, Tryz.ntmps53
  go_wp2_with fail
  refine (HK.out w (Kp.refl _ _)).mono ?_
  rintro e w1 ⟨S, rfl, hS, HS, hk1⟩
  go_wp2_with fail
  go_ret
  refine ⟨?_, hk1⟩
  rw [show bt (126 :: wi 4 t) = (⟨#[126]⟩ : ByteArray) ++ bt (wi 4 t) from by rw [show (⟨#[126]⟩ : ByteArray) = bt [126] from rfl, bt_append]; rfl, ← HS.out]
  rfl

/-! so often -/
theorem add_ok (x y : ByteArray) (h : x.size + y.size ≤ 1000000000000) : ∀ W, (binOp BinOp.add 9 (.string x) (.string y)).run Tryz.prog W = .ok (.string (x ++ y)) W := by
  intro W
  have h1 : ¬ (((x.size + y.size : Nat) : Int) > IntKind.i64.max) := by
    have : IntKind.i64.max = 9223372036854775807 := rfl
    omega
  go_simp
  omega

set_option maxRecDepth 100000 in
theorem text_rep1 {g off : Nat} {u : Option Addr} (h0 : w.cell? ⟨b, 0, none⟩ = some (.int .i64 6)) (h2 : w.cell? ⟨b, 2, none⟩ = some (.int .i64 0)) (h3 : w.cell? ⟨b, 3, none⟩ = some (.int .i64 (-1))) (h4 : w.cell? ⟨b, 4, none⟩ = some (.slice (some ⟨g, off, none⟩) 1 cap)) (hu : w.cell? ⟨g, off, none⟩ = some (.pointer u))
    (HK : Hid (∀ W, Kp noB w W → Calls Tryz.prog 109 #[.pointer u, .int .i64 3] W fun e w' => ∃ S, e = .returned (.string S) ∧ S.size ≤ 100000000002 ∧ Hid (S = bt (wi 3 t)) ∧ Kp noB W w')) :
    Calls Tryz.prog 53 #[.pointer (some ⟨b, 0, none⟩)] w fun e w' => e = .returned (.string (bt (wi 3 t ++ repT 0 (-1)))) ∧ Kp noB w w' := by
  go_enter Tryz.func53, Tryz.ntmps53
  go_wp2_with fail
  refine (HK.out w (Kp.refl _ _)).mono ?_
  rintro e w1 ⟨S, rfl, hS, HS, hk1⟩
  have e2 := hk1.cell h2 (noB_not _)
  have e3 := hk1.cell h3 (noB_not _)
  have HE : Hid (bt (wi 3 t ++ repT 0 (-1)) = S ++ ⟨#[42]⟩) := Lib.hid (by
    rw [show repT 0 (-1) = [42] from rfl, HS.out]
    apply ByteArray.ext
    simp [bt])
  clear h0 h2 h3 h4 hu
  go_wp2_with fail
  go_ret
  refine ⟨?_, by first | exact hk1 | exact hk1.drewN _ | exact (hk1.drewN _).drewN _⟩
  rw [HE.out]
  rfl

set_option maxRecDepth 100000 in
theorem text_rep2 {g off : Nat} {u : Option Addr} (h0 : w.cell? ⟨b, 0, none⟩ = some (.int .i64 6)) (h2 : w.cell? ⟨b, 2, none⟩ = some (.int .i64 1)) (h3 : w.cell? ⟨b, 3, none⟩ = some (.int .i64 (-1))) (h4 : w.cell? ⟨b, 4, none⟩ = some (.slice (some ⟨g, off, none⟩) 1 cap)) (hu : w.cell? ⟨g, off, none⟩ = some (.pointer u))
    (HK : Hid (∀ W, Kp noB w W → Calls Tryz.prog 109 #[.pointer u, .int .i64 3] W fun e w' => ∃ S, e = .returned (.string S) ∧ S.size ≤ 100000000002 ∧ Hid (S = bt (wi 3 t)) ∧ Kp noB W w')) :
    Calls Tryz.prog 53 #[.pointer (some ⟨b, 0, none⟩)] w fun e w' => e = .returned (.string (bt (wi 3 t ++ repT 1 (-1)))) ∧ Kp noB w w' := by
  go_enter Tryz.func53, Tryz.ntmps53
  go_wp2_with fail
  refine (HK.out w (Kp.refl _ _)).mono ?_
  rintro e w1 ⟨S, rfl, hS, HS, hk1⟩
  have e2 := hk1.cell h2 (noB_not _)
  have e3 := hk1.cell h3 (noB_not _)
  have HE : Hid (bt (wi 3 t ++ repT 1 (-1)) = S ++ ⟨#[43]⟩) := Lib.hid (by
    rw [show repT 1 (-1) = [43] from rfl, HS.out]
    apply ByteArray.ext
    simp [bt])
  clear h0 h2 h3 h4 hu
  go_wp2_with fail
  go_ret
  refine ⟨?_, by first | exact hk1 | exact hk1.drewN _ | exact (hk1.drewN _).drewN _⟩
  rw [HE.out]
  rfl

set_option maxRecDepth 100000 in
theorem text_rep3 {g off : Nat} {u : Option Addr} (h0 : w.cell? ⟨b, 0, none⟩ = some (.int .i64 6)) (h2 : w.cell? ⟨b, 2, none⟩ = some (.int .i64 0)) (h3 : w.cell? ⟨b, 3, none⟩ = some (.int .i64 1)) (h4 : w.cell? ⟨b, 4, none⟩ = some (.slice (some ⟨g, off, none⟩) 1 cap)) (hu : w.cell? ⟨g, off, none⟩ = some (.pointer u))
    (HK : Hid (∀ W, Kp noB w W → Calls Tryz.prog 109 #[.pointer u, .int .i64 3] W fun e w' => ∃ S, e = .returned (.string S) ∧ S.size ≤ 100000000002 ∧ Hid (S = bt (wi 3 t)) ∧ Kp noB W w')) :
    Calls Tryz.prog 53 #[.pointer (some ⟨b, 0, none⟩)] w fun e w' => e = .returned (.string (bt (wi 3 t ++ repT 0 1))) ∧ Kp noB w w' := by
  go_enter Tryz.func53, Tryz.ntmps53
  go_wp2_with fail
  refine (HK.out w (Kp.refl _ _)).mono ?_
  rintro e w1 ⟨S, rfl, hS, HS, hk1⟩
  have e2 := hk1.cell h2 (noB_not _)
  have e3 := hk1.cell h3 (noB_not _)
  have HE : Hid (bt (wi 3 t ++ repT 0 1) = S ++ ⟨#[63]⟩) := Lib.hid (by
    rw [show repT 0 1 = [63] from rfl, HS.out]
    apply ByteArray.ext
    simp [bt])
  clear h0 h2 h3 h4 hu
  go_wp2_with fail
  go_ret
  refine ⟨?_, by first | exact hk1 | exact hk1.drewN _ | exact (hk1.drewN _).drewN _⟩
  rw [HE.out]
  rfl

set_option maxRecDepth 100000 in
theorem text_rep4 {g off : Nat} {u : Option Addr} {a : Nat} (ha : 2 ≤ a) (ha5 : a ≤ 50) (h0 : w.cell? ⟨b, 0, none⟩ = some (.int .i64 6)) (h2 : w.cell? ⟨b, 2, none⟩ = some (.int .i64 a)) (h3 : w.cell? ⟨b, 3, none⟩ = some (.int .i64 (-1))) (h4 : w.cell? ⟨b, 4, none⟩ = some (.slice (some ⟨g, off, none⟩) 1 cap)) (hu : w.cell? ⟨g, off, none⟩ = some (.pointer u))
    (HK : Hid (∀ W, Kp noB w W → Calls Tryz.prog 109 #[.pointer u, .int .i64 3] W fun e w' => ∃ S, e = .returned (.string S) ∧ S.size ≤ 100000000002 ∧ Hid (S = bt (wi 3 t)) ∧ Kp noB W w')) :
    Calls Tryz.prog 53 #[.pointer (some ⟨b, 0, none⟩)] w fun e w' => e = .returned (.string (bt (wi 3 t ++ repT a (-1)))) ∧ Kp noB w w' := by
  have f1 : ((a : Int) == 0) = false := beq_eq_false_iff_ne.2 (by omega)
  have f2 : ((a : Int) == 1) = false := beq_eq_false_iff_ne.2 (by omega)
  have hd := dec_len a ha5
  go_enter Tryz.func53, Tryz.ntmps53
  go_wp2_with fail
  refine (HK.out w (Kp.refl _ _)).mono ?_
  rintro e w1 ⟨S, rfl, hS, HS, hk1⟩
  have e2 := hk1.cell h2 (noB_not _)
  have e3 := hk1.cell h3 (noB_not _)
  have HE : Hid (bt (wi 3 t ++ repT a (-1)) = S ++ ⟨#[123]⟩ ++ ⟨(Lib.decDigits a).toArray⟩ ++ ⟨#[44, 125]⟩) := Lib.hid (by
    rw [show repT a (-1) = 123 :: (Lib.decDigits a ++ [44, 125]) from by unfold repT; rw [if_neg (by omega), if_neg (by omega), if_neg (by omega), if_pos rfl, Int.toNat_natCast], HS.out]
    apply ByteArray.ext
    simp [bt])
  clear h0 h2 h3 h4 hu
  go_wp2_with (go_at_call 111; refine (Tryz.strconv_Itoa_small a (by omega) _).mono ?_; rintro e w2 ⟨rfl, rfl⟩)
  go_ret
  refine ⟨?_, by first | exact hk1 | exact hk1.drewN _ | exact (hk1.drewN _).drewN _⟩
  rw [HE.out]
  rfl

set_option maxRecDepth 100000 in
theorem text_rep5 {g off : Nat} {u : Option Addr} (h0 : w.cell? ⟨b, 0, none⟩ = some (.int .i64 6)) (h2 : w.cell? ⟨b, 2, none⟩ = some (.int .i64 1)) (h3 : w.cell? ⟨b, 3, none⟩ = some (.int .i64 1)) (h4 : w.cell? ⟨b, 4, none⟩ = some (.slice (some ⟨g, off, none⟩) 1 cap)) (hu : w.cell? ⟨g, off, none⟩ = some (.pointer u))
    (HK : Hid (∀ W, Kp noB w W → Calls Tryz.prog 109 #[.pointer u, .int .i64 3] W fun e w' => ∃ S, e = .returned (.string S) ∧ S.size ≤ 100000000002 ∧ Hid (S = bt (wi 3 t)) ∧ Kp noB W w')) :
    Calls Tryz.prog 53 #[.pointer (some ⟨b, 0, none⟩)] w fun e w' => e = .returned (.string (bt (wi 3 t ++ repT 1 1))) ∧ Kp noB w w' := by
  have hd := dec_len 1 (by decide)
  go_enter Tryz.func53, Tryz.ntmps53
  go_wp2_with fail
  refine (HK.out w (Kp.refl _ _)).mono ?_
  rintro e w1 ⟨S, rfl, hS, HS, hk1⟩
  have e2 := hk1.cell h2 (noB_not _)
  have e3 := hk1.cell h3 (noB_not _)
  have HE : Hid (bt (wi 3 t ++ repT 1 1) = S ++ ⟨#[123]⟩ ++ ⟨(Lib.decDigits 1).toArray⟩ ++ ⟨#[125]⟩) := Lib.hid (by
    rw [show repT 1 1 = 123 :: (Lib.decDigits 1 ++ [125]) from by unfold repT; rw [if_neg (by decide), if_neg (by decide), if_neg (by decide), if_neg (by decide), if_pos rfl]; rfl, HS.out]
    apply ByteArray.ext
    simp [bt])
  clear h0 h2 h3 h4 hu
  go_wp2_with fail
  go_quiet (fail)
  go_wp2_with (go_at_call 111; refine (Tryz.strconv_Itoa_small 1 (by omega) _).mono ?_; rintro e w2 ⟨rfl, rfl⟩)
  go_ret
  refine ⟨?_, by first | exact hk1 | exact hk1.drewN _ | exact (hk1.drewN _).drewN _⟩
  rw [HE.out]
  rfl

set_option maxRecDepth 100000 in
theorem text_rep6 {g off : Nat} {u : Option Addr} {a : Nat} (ha : 2 ≤ a) (ha5 : a ≤ 50) (h0 : w.cell? ⟨b, 0, none⟩ = some (.int .i64 6)) (h2 : w.cell? ⟨b, 2, none⟩ = some (.int .i64 a)) (h3 : w.cell? ⟨b, 3, none⟩ = some (.int .i64 a)) (h4 : w.cell? ⟨b, 4, none⟩ = some (.slice (some ⟨g, off, none⟩) 1 cap)) (hu : w.cell? ⟨g, off, none⟩ = some (.pointer u))
    (HK : Hid (∀ W, Kp noB w W → Calls Tryz.prog 109 #[.pointer u, .int .i64 3] W fun e w' => ∃ S, e = .returned (.string S) ∧ S.size ≤ 100000000002 ∧ Hid (S = bt (wi 3 t)) ∧ Kp noB W w')) :
    Calls Tryz.prog 53 #[.pointer (some ⟨b, 0, none⟩)] w fun e w' => e = .returned (.string (bt (wi 3 t ++ repT a a))) ∧ Kp noB w w' := by
  have f1 : ((a : Int) == 0) = false := beq_eq_false_iff_ne.2 (by omega)
  have f2 : ((a : Int) == 1) = false := beq_eq_false_iff_ne.2 (by omega)
  have f3 : ((a : Int) == -1) = false := beq_eq_false_iff_ne.2 (by omega)
  have hd := dec_len a ha5
  go_enter Tryz.func53, Tryz.ntmps53
  go_wp2_with fail
  refine (HK.out w (Kp.refl _ _)).mono ?_
  rintro e w1 ⟨S, rfl, hS, HS, hk1⟩
  have e2 := hk1.cell h2 (noB_not _)
  have e3 := hk1.cell h3 (noB_not _)
  have HE : Hid (bt (wi 3 t ++ repT a a) = S ++ ⟨#[123]⟩ ++ ⟨(Lib.decDigits a).toArray⟩ ++ ⟨#[125]⟩) := Lib.hid (by
    rw [show repT a a = 123 :: (Lib.decDigits a ++ [125]) from by unfold repT; rw [if_neg (by omega), if_neg (by omega), if_neg (by omega), if_neg (by omega), if_pos rfl, Int.toNat_natCast], HS.out]
    apply ByteArray.ext
    simp [bt])
  clear h0 h2 h3 h4 hu
  go_wp2_with fail
  go_quiet (fail)
  go_wp2_with (go_at_call 111; refine (Tryz.strconv_Itoa_small a (by omega) _).mono ?_; rintro e w2 ⟨rfl, rfl⟩)
  go_ret
  refine ⟨?_, by first | exact hk1 | exact hk1.drewN _ | exact (hk1.drewN _).drewN _⟩
  rw [HE.out]
  rfl

set_option maxRecDepth 100000 in
theorem text_rep7 {g off : Nat} {u : Option Addr} {c : Nat} (hc : 2 ≤ c) (hc5 : c ≤ 50) (h0 : w.cell? ⟨b, 0, none⟩ = some (.int .i64 6)) (h2 : w.cell? ⟨b, 2, none⟩ = some (.int .i64 0)) (h3 : w.cell? ⟨b, 3, none⟩ = some (.int .i64 c)) (h4 : w.cell? ⟨b, 4, none⟩ = some (.slice (some ⟨g, off, none⟩) 1 cap)) (hu : w.cell? ⟨g, off, none⟩ = some (.pointer u))
    (HK : Hid (∀ W, Kp noB w W → Calls Tryz.prog 109 #[.pointer u, .int .i64 3] W fun e w' => ∃ S, e = .returned (.string S) ∧ S.size ≤ 100000000002 ∧ Hid (S = bt (wi 3 t)) ∧ Kp noB W w')) :
    Calls Tryz.prog 53 #[.pointer (some ⟨b, 0, none⟩)] w fun e w' => e = .returned (.string (bt (wi 3 t ++ repT 0 c))) ∧ Kp noB w w' := by
  have f4 : ((c : Int) == 1) = false := beq_eq_false_iff_ne.2 (by omega)
  have f5 : ((c : Int) == -1) = false := beq_eq_false_iff_ne.2 (by omega)
  have hdc := dec_len c hc5
  have f6 : ((0 : Int) == (c : Int)) = false := beq_eq_false_iff_ne.2 (by omega)
  have hd := dec_len 0 (by decide)
  go_enter Tryz.func53, Tryz.ntmps53
  go_wp2_with fail
  refine (HK.out w (Kp.refl _ _)).mono ?_
  rintro e w1 ⟨S, rfl, hS, HS, hk1⟩
  have e2 := hk1.cell h2 (noB_not _)
  have e3 := hk1.cell h3 (noB_not _)
  have HE : Hid (bt (wi 3 t ++ repT 0 c) = S ++ ⟨#[123]⟩ ++ ⟨(Lib.decDigits 0).toArray⟩ ++ ⟨#[44]⟩ ++ ⟨(Lib.decDigits c).toArray⟩ ++ ⟨#[125]⟩) := Lib.hid (by
    rw [show repT 0 c = 123 :: (Lib.decDigits 0 ++ 44 :: (Lib.decDigits c ++ [125])) from by unfold repT; rw [if_neg (by omega), if_neg (by omega), if_neg (by omega), if_neg (by omega), if_neg (by omega), Int.toNat_natCast]; rfl, HS.out]
    apply ByteArray.ext
    simp [bt])
  clear h0 h2 h3 h4 hu
  go_wp2_with fail
  go_quiet (fail)
  have hsz0 : (Lib.decDigits 0).toArray.size ≤ 2 := by simpa using hd
  have hsz1 : (Lib.decDigits c).toArray.size ≤ 2 := by simpa using hdc
  have q1 := add_ok S ⟨#[123]⟩ (by have : (⟨#[123]⟩ : ByteArray).size = 1 := rfl; omega)
  have q2 := add_ok (S ++ ⟨#[123]⟩) ⟨(Lib.decDigits 0).toArray⟩ (by rw [ByteArray.size_append]; have : (⟨#[123]⟩ : ByteArray).size = 1 := rfl; have : (⟨(Lib.decDigits 0).toArray⟩ : ByteArray).size ≤ 2 := hsz0; omega)
  have q3 := add_ok (S ++ ⟨#[123]⟩ ++ ⟨(Lib.decDigits 0).toArray⟩) ⟨#[44]⟩ (by rw [ByteArray.size_append, ByteArray.size_append]; have : (⟨#[123]⟩ : ByteArray).size = 1 := rfl; have : (⟨#[44]⟩ : ByteArray).size = 1 := rfl; have : (⟨(Lib.decDigits 0).toArray⟩ : ByteArray).size ≤ 2 := hsz0; omega)
  have q4 := add_ok (S ++ ⟨#[123]⟩ ++ ⟨(Lib.decDigits 0).toArray⟩ ++ ⟨#[44]⟩) ⟨(Lib.decDigits c).toArray⟩ (by rw [ByteArray.size_append, ByteArray.size_append, ByteArray.size_append]; have : (⟨#[123]⟩ : ByteArray).size = 1 := rfl; have : (⟨#[44]⟩ : ByteArray).size = 1 := rfl; have : (⟨(Lib.decDigits 0).toArray⟩ : ByteArray).size ≤ 2 := hsz0; have : (⟨(Lib.decDigits c).toArray⟩ : ByteArray).size ≤ 2 := hsz1; omega)
  have q5 := add_ok (S ++ ⟨#[123]⟩ ++ ⟨(Lib.decDigits 0).toArray⟩ ++ ⟨#[44]⟩ ++ ⟨(Lib.decDigits c).toArray⟩) ⟨#[125]⟩ (by rw [ByteArray.size_append, ByteArray.size_append, ByteArray.size_append, ByteArray.size_append]; have : (⟨#[123]⟩ : ByteArray).size = 1 := rfl; have : (⟨#[44]⟩ : ByteArray).size = 1 := rfl; have : (⟨#[125]⟩ : ByteArray).size = 1 := rfl; have : (⟨(Lib.decDigits 0).toArray⟩ : ByteArray).size ≤ 2 := hsz0; have : (⟨(Lib.decDigits c).toArray⟩ : ByteArray).size ≤ 2 := hsz1; omega)
  have HI : ∀ i : Nat, Hid (i < 100 → ∀ n, Calls Tryz.prog 111 #[.int .i64 i] (w1.drewN (nq + n)) fun e w' => e = .returned (.string ⟨(Lib.decDigits i).toArray⟩) ∧ ∃ m, w' = w1.drewN (nq + m)) := fun i => Lib.hid fun hi n => (Tryz.strconv_Itoa_small i hi _).mono fun e w' ⟨he, hw⟩ => ⟨he, n, hw⟩
  go_wp2_with fail
  go_quiet ((first | (go_at_call 111; exact (HI 0).out (by omega) _) | (go_at_call 111; exact (HI c).out (by omega) _)))
  go_wp2_with fail
  go_ret
  refine ⟨?_, by first | exact hk1 | exact hk1.drewN _ | exact (hk1.drewN _).drewN _⟩
  rw [HE.out]
  rfl

set_option maxRecDepth 100000 in
theorem text_rep8 {g off : Nat} {u : Option Addr} {c : Nat} (hc : 2 ≤ c) (hc5 : c ≤ 50) (h0 : w.cell? ⟨b, 0, none⟩ = some (.int .i64 6)) (h2 : w.cell? ⟨b, 2, none⟩ = some (.int .i64 1)) (h3 : w.cell? ⟨b, 3, none⟩ = some (.int .i64 c)) (h4 : w.cell? ⟨b, 4, none⟩ = some (.slice (some ⟨g, off, none⟩) 1 cap)) (hu : w.cell? ⟨g, off, none⟩ = some (.pointer u))
    (HK : Hid (∀ W, Kp noB w W → Calls Tryz.prog 109 #[.pointer u, .int .i64 3] W fun e w' => ∃ S, e = .returned (.string S) ∧ S.size ≤ 100000000002 ∧ Hid (S = bt (wi 3 t)) ∧ Kp noB W w')) :
    Calls Tryz.prog 53 #[.pointer (some ⟨b, 0, none⟩)] w fun e w' => e = .returned (.string (bt (wi 3 t ++ repT 1 c))) ∧ Kp noB w w' := by
  have f4 : ((c : Int) == 1) = false := beq_eq_false_iff_ne.2 (by omega)
  have f5 : ((c : Int) == -1) = false := beq_eq_false_iff_ne.2 (by omega)
  have hdc := dec_len c hc5
  have f6 : ((1 : Int) == (c : Int)) = false := beq_eq_false_iff_ne.2 (by omega)
  have hd := dec_len 1 (by decide)
  go_enter Tryz.func53, Tryz.ntmps53
  go_wp2_with fail
  refine (HK.out w (Kp.refl _ _)).mono ?_
  rintro e w1 ⟨S, rfl, hS, HS, hk1⟩
  have e2 := hk1.cell h2 (noB_not _)
  have e3 := hk1.cell h3 (noB_not _)
  have HE : Hid (bt (wi 3 t ++ repT 1 c) = S ++ ⟨#[123]⟩ ++ ⟨(Lib.decDigits 1).toArray⟩ ++ ⟨#[44]⟩ ++ ⟨(Lib.decDigits c).toArray⟩ ++ ⟨#[125]⟩) := Lib.hid (by
    rw [show repT 1 c = 123 :: (Lib.decDigits 1 ++ 44 :: (Lib.decDigits c ++ [125])) from by unfold repT; rw [if_neg (by omega), if_neg (by omega), if_neg (by omega), if_neg (by omega), if_neg (by omega), Int.toNat_natCast]; rfl, HS.out]
    apply ByteArray.ext
    simp [bt])
  clear h0 h2 h3 h4 hu
  go_wp2_with fail
  go_quiet (fail)
  have hsz0 : (Lib.decDigits 1).toArray.size ≤ 2 := by simpa using hd
  have hsz1 : (Lib.decDigits c).toArray.size ≤ 2 := by simpa using hdc
  have q1 := add_ok S ⟨#[123]⟩ (by have : (⟨#[123]⟩ : ByteArray).size = 1 := rfl; omega)
  have q2 := add_ok (S ++ ⟨#[123]⟩) ⟨(Lib.decDigits 1).toArray⟩ (by rw [ByteArray.size_append]; have : (⟨#[123]⟩ : ByteArray).size = 1 := rfl; have : (⟨(Lib.decDigits 1).toArray⟩ : ByteArray).size ≤ 2 := hsz0; omega)
  have q3 := add_ok (S ++ ⟨#[123]⟩ ++ ⟨(Lib.decDigits 1).toArray⟩) ⟨#[44]⟩ (by rw [ByteArray.size_append, ByteArray.size_append]; have : (⟨#[123]⟩ : ByteArray).size = 1 := rfl; have : (⟨#[44]⟩ : ByteArray).size = 1 := rfl; have : (⟨(Lib.decDigits 1).toArray⟩ : ByteArray).size ≤ 2 := hsz0; omega)
  have q4 := add_ok (S ++ ⟨#[123]⟩ ++ ⟨(Lib.decDigits 1).toArray⟩ ++ ⟨#[44]⟩) ⟨(Lib.decDigits c).toArray⟩ (by rw [ByteArray.size_append, ByteArray.size_append, ByteArray.size_append]; have : (⟨#[123]⟩ : ByteArray).size = 1 := rfl; have : (⟨#[44]⟩ : ByteArray).size = 1 := rfl; have : (⟨(Lib.decDigits 1).toArray⟩ : ByteArray).size ≤ 2 := hsz0; have : (⟨(Lib.decDigits c).toArray⟩ : ByteArray).size ≤ 2 := hsz1; omega)
  have q5 := add_ok (S ++ ⟨#[123]⟩ ++ ⟨(Lib.decDigits 1).toArray⟩ ++ ⟨#[44]⟩ ++ ⟨(Lib.decDigits c).toArray⟩) ⟨#[125]⟩ (by rw [ByteArray.size_append, ByteArray.size_append, ByteArray.size_append, ByteArray.size_append]; have : (⟨#[123]⟩ : ByteArray).size = 1 := rfl; have : (⟨#[44]⟩ : ByteArray).size = 1 := rfl; have : (⟨#[125]⟩ : ByteArray).size = 1 := rfl; have : (⟨(Lib.decDigits 1).toArray⟩ : ByteArray).size ≤ 2 := hsz0; have : (⟨(Lib.decDigits c).toArray⟩ : ByteArray).size ≤ 2 := hsz1; omega)
  have HI : ∀ i : Nat, Hid (i < 100 → ∀ n, Calls Tryz.prog 111 #[.int .i64 i] (w1.drewN (nq + n)) fun e w' => e = .returned (.string ⟨(Lib.decDigits i).toArray⟩) ∧ ∃ m, w' = w1.drewN (nq + m)) := fun i => Lib.hid fun hi n => (Tryz.strconv_Itoa_small i hi _).mono fun e w' ⟨he, hw⟩ => ⟨he, n, hw⟩
  go_wp2_with fail
  go_quiet ((first | (go_at_call 111; exact (HI 1).out (by omega) _) | (go_at_call 111; exact (HI c).out (by omega) _)))
  go_wp2_with fail
  go_ret
  refine ⟨?_, by first | exact hk1 | exact hk1.drewN _ | exact (hk1.drewN _).drewN _⟩
  rw [HE.out]
  rfl

set_option maxRecDepth 100000 in
theorem text_rep9 {g off : Nat} {u : Option Addr} {a c : Nat} (ha : 2 ≤ a) (hac : a < c) (hc5 : c ≤ 50) (h0 : w.cell? ⟨b, 0, none⟩ = some (.int .i64 6)) (h2 : w.cell? ⟨b, 2, none⟩ = some (.int .i64 a)) (h3 : w.cell? ⟨b, 3, none⟩ = some (.int .i64 c)) (h4 : w.cell? ⟨b, 4, none⟩ = some (.slice (some ⟨g, off, none⟩) 1 cap)) (hu : w.cell? ⟨g, off, none⟩ = some (.pointer u))
    (HK : Hid (∀ W, Kp noB w W → Calls Tryz.prog 109 #[.pointer u, .int .i64 3] W fun e w' => ∃ S, e = .returned (.string S) ∧ S.size ≤ 100000000002 ∧ Hid (S = bt (wi 3 t)) ∧ Kp noB W w')) :
    Calls Tryz.prog 53 #[.pointer (some ⟨b, 0, none⟩)] w fun e w' => e = .returned (.string (bt (wi 3 t ++ repT a c))) ∧ Kp noB w w' := by
  have f4 : ((c : Int) == 1) = false := beq_eq_false_iff_ne.2 (by omega)
  have f5 : ((c : Int) == -1) = false := beq_eq_false_iff_ne.2 (by omega)
  have hdc := dec_len c hc5
  have f1 : ((a : Int) == 0) = false := beq_eq_false_iff_ne.2 (by omega)
  have f2 : ((a : Int) == 1) = false := beq_eq_false_iff_ne.2 (by omega)
  have f6 : ((a : Int) == (c : Int)) = false := beq_eq_false_iff_ne.2 (by omega)
  have f7 : (a == c) = false := beq_eq_false_iff_ne.2 (by omega)
  have hd := dec_len a (by omega)
  go_enter Tryz.func53, Tryz.ntmps53
  go_wp2_with fail
  refine (HK.out w (Kp.refl _ _)).mono ?_
  rintro e w1 ⟨S, rfl, hS, HS, hk1⟩
  have e2 := hk1.cell h2 (noB_not _)
  have e3 := hk1.cell h3 (noB_not _)
  have HE : Hid (bt (wi 3 t ++ repT a c) = S ++ ⟨#[123]⟩ ++ ⟨(Lib.decDigits a).toArray⟩ ++ ⟨#[44]⟩ ++ ⟨(Lib.decDigits c).toArray⟩ ++ ⟨#[125]⟩) := Lib.hid (by
    rw [show repT a c = 123 :: (Lib.decDigits a ++ 44 :: (Lib.decDigits c ++ [125])) from by unfold repT; rw [if_neg (by omega), if_neg (by omega), if_neg (by omega), if_neg (by omega), if_neg (by omega), Int.toNat_natCast, Int.toNat_natCast], HS.out]
    apply ByteArray.ext
    simp [bt])
  clear h0 h2 h3 h4 hu
  go_wp2_with fail
  go_quiet (fail)
  have hsz0 : (Lib.decDigits a).toArray.size ≤ 2 := by simpa using hd
  have hsz1 : (Lib.decDigits c).toArray.size ≤ 2 := by simpa using hdc
  have q1 := add_ok S ⟨#[123]⟩ (by have : (⟨#[123]⟩ : ByteArray).size = 1 := rfl; omega)
  have q2 := add_ok (S ++ ⟨#[123]⟩) ⟨(Lib.decDigits a).toArray⟩ (by rw [ByteArray.size_append]; have : (⟨#[123]⟩ : ByteArray).size = 1 := rfl; have : (⟨(Lib.decDigits a).toArray⟩ : ByteArray).size ≤ 2 := hsz0; omega)
  have q3 := add_ok (S ++ ⟨#[123]⟩ ++ ⟨(Lib.decDigits a).toArray⟩) ⟨#[44]⟩ (by rw [ByteArray.size_append, ByteArray.size_append]; have : (⟨#[123]⟩ : ByteArray).size = 1 := rfl; have : (⟨#[44]⟩ : ByteArray).size = 1 := rfl; have : (⟨(Lib.decDigits a).toArray⟩ : ByteArray).size ≤ 2 := hsz0; omega)
  have q4 := add_ok (S ++ ⟨#[123]⟩ ++ ⟨(Lib.decDigits a).toArray⟩ ++ ⟨#[44]⟩) ⟨(Lib.decDigits c).toArray⟩ (by rw [ByteArray.size_append, ByteArray.size_append, ByteArray.size_append]; have : (⟨#[123]⟩ : ByteArray).size = 1 := rfl; have : (⟨#[44]⟩ : ByteArray).size = 1 := rfl; have : (⟨(Lib.decDigits a).toArray⟩ : ByteArray).size ≤ 2 := hsz0; have : (⟨(Lib.decDigits c).toArray⟩ : ByteArray).size ≤ 2 := hsz1; omega)
  have q5 := add_ok (S ++ ⟨#[123]⟩ ++ ⟨(Lib.decDigits a).toArray⟩ ++ ⟨#[44]⟩ ++ ⟨(Lib.decDigits c).toArray⟩) ⟨#[125]⟩ (by rw [ByteArray.size_append, ByteArray.size_append, ByteArray.size_append, ByteArray.size_append]; have : (⟨#[123]⟩ : ByteArray).size = 1 := rfl; have : (⟨#[44]⟩ : ByteArray).size = 1 := rfl; have : (⟨#[125]⟩ : ByteArray).size = 1 := rfl; have : (⟨(Lib.decDigits a).toArray⟩ : ByteArray).size ≤ 2 := hsz0; have : (⟨(Lib.decDigits c).toArray⟩ : ByteArray).size ≤ 2 := hsz1; omega)
  have HI : ∀ i : Nat, Hid (i < 100 → ∀ n, Calls Tryz.prog 111 #[.int .i64 i] (w1.drewN (nq + n)) fun e w' => e = .returned (.string ⟨(Lib.decDigits i).toArray⟩) ∧ ∃ m, w' = w1.drewN (nq + m)) := fun i => Lib.hid fun hi n => (Tryz.strconv_Itoa_small i hi _).mono fun e w' ⟨he, hw⟩ => ⟨he, n, hw⟩
  go_wp2_with fail
  go_quiet ((first | (go_at_call 111; exact (HI a).out (by omega) _) | (go_at_call 111; exact (HI c).out (by omega) _)))
  go_wp2_with fail
  go_ret
  refine ⟨?_, by first | exact hk1 | exact hk1.drewN _ | exact (hk1.drewN _).drewN _⟩
  rw [HE.out]
  rfl
end
end Go.Proofs.YtoijabgcgdgacaaGreatDoor

namespace Go.Proofs.YtoijabgcgdgacaaGreatDoor
open Go.RowKit Go.Proofs.Gram Go.Lib

theorem shp_nd {d : Nat} {t : Rx} (h : Shp d t) : 1 ≤ nd t := by
  cases t with
  | nil => simp [Shp] at h
  | mk => rw [nd]; omega
theorem len_nd {d : Nat} : ∀ {l : List Rx}, ShpL d l → l.length ≤ ndL l
  | [], _ => Nat.zero_le _
  | k :: l, h => by
    have h1 := shp_nd h.1
    have h2 := len_nd h.2
    rw [ndL, List.length_cons]
    omega
theorem fits_kid : ∀ {l : List Rx} {k : Rx}, k ∈ l → rg k ≤ rgL l ∧ nd k ≤ ndL l
  | x :: l, k, h => by
    rw [rgL, ndL]
    rcases List.mem_cons.1 h with rfl | h
    · omega
    · have := fits_kid h
      omega
theorem small_rg : ∀ (n : Nat) (t : Rx), SizeOf.sizeOf t ≤ n → Small t → rg t ≤ 16777216 * nd t := by
  intro n
  induction n with
  | zero => intro t h; cases t <;> simp at h
  | succ n ih =>
    intro t hsz hs
    cases t with
    | nil => simp [rg]
    | mk kind set mn mx kids =>
      simp only [Rx.mk.sizeOf_spec] at hsz
      have hL : ∀ (l : List Rx), SizeOf.sizeOf l ≤ n → SmallL l → rgL l ≤ 16777216 * ndL l := by
        intro l
        induction l with
        | nil => intro _ _; simp [rgL]
        | cons k l ihl =>
          intro h1 h2
          simp only [List.cons.sizeOf_spec] at h1
          have a1 := ih k (by omega) h2.1
          have a2 := ihl (by omega) h2.2
          rw [rgL, ndL]
          omega
      have h1 := hL kids (by omega) hs.2
      have h2 := hs.1
      rw [rg, nd]
      omega

theorem text_any : ∀ (n : Nat) (t : Rx), SizeOf.sizeOf t ≤ n → TxC t := by
  intro n
  induction n with
  | zero => intro t h; cases t <;> simp at h
  | succ n ih =>
    intro t hsz d v okk w hre hsh hsm hf h13
    cases t with
    | nil => exact absurd hsh (by simp [Shp])
    | mk kind set mn mx kids =>
      obtain ⟨b, sv, kv, ps, rfl, hb, hok, hrs, hkc, hpl, hkid⟩ := hre.inv
      have hk0 : w.cell? ⟨b, 0, none⟩ = some (.int .i64 kind) := by simp [World.cell?, hb]
      have hk1 : w.cell? ⟨b, 1, none⟩ = some sv := by simp [World.cell?, hb]
      have hk2 : w.cell? ⟨b, 2, none⟩ = some (.int .i64 mn) := by simp [World.cell?, hb]
      have hk3 : w.cell? ⟨b, 3, none⟩ = some (.int .i64 mx) := by simp [World.cell?, hb]
      have hk4 : w.cell? ⟨b, 4, none⟩ = some kv := by simp [World.cell?, hb]
      obtain ⟨A, cap, rfl, hkl, hcs⟩ := cells_open hkc
      simp only [Rx.mk.sizeOf_spec] at hsz
      have hlen := tx_len _ _ d (Nat.le_refl _) hsh
      have hshp := hsh
      rw [Shp] at hsh
      obtain ⟨h30, hcnt, hset, hcan, htimes, hkids⟩ := hsh
      have hnd := len_nd hkids
      have hf' : 21 * rgL kids + 13 * ndL kids + 13 ≤ 100000000000 := by
        unfold Fits at hf
        rw [rg, nd] at hf
        omega
      have hlenx : (tx (.mk kind set mn mx kids)).length ≤ 100000000000 := by unfold Fits at hf; omega
      have HK : ∀ least : Nat, ∀ k t, kids[k]? = some t → ∃ g off u, A = some ⟨g, off, none⟩ ∧ w.cell? ⟨g, off + k, none⟩ = some (.pointer u) ∧ ∀ W, Kp noB w W → Calls Tryz.prog 109 #[.pointer u, .int .i64 least] W fun e w' => ∃ S, e = .returned (.string S) ∧ Hid (S = bt (wi least t)) ∧ Kp noB W w' := by
        intro least k t ht
        obtain ⟨u, hu⟩ : ∃ u, ps[k]? = some u := ⟨ps[k]'(by have := (List.getElem?_eq_some_iff.1 ht).1; omega), by simp⟩
        obtain ⟨g, off, rfl, _, hgl, hcu⟩ := hcs k u hu
        have hreu := hkid k u t hu ht
        obtain ⟨x, rfl⟩ := IsRe_ptr hreu
        have hmem := List.mem_of_getElem? ht
        have hft := fits_kid hmem
        refine ⟨g, off, x, rfl, hcu, fun W hW => ?_⟩
        exact within_any t (ih t (by have := mem_size ht; omega)) least (d + 1) _ okk W (hreu.kp hW fun _ _ _ => noB_not _) (shp_kid hkids t hmem) (smallL_at hsm.2 ht) (by unfold Fits; omega) (hW.cell h13 (noB_not _))
      unfold cntOk at hcnt
      have hk16 : kind = 1 ∨ kind = 2 ∨ kind = 3 ∨ kind = 4 ∨ kind = 5 ∨ kind = 6 := by omega
      rcases hk16 with rfl | rfl | rfl | rfl | rfl | rfl
      · obtain ⟨S, cs, rfl, _⟩ := rngs_open hrs
        rw [tx, if_pos rfl]
        exact text_set hk0 hk1 (Lib.hid fun W hW => setText_any _ set okk W (hrs.kp hW fun _ _ _ => noB_not _) hcan (by have := hsm.1; omega) (hW.cell h13 (noB_not _)))
      · rw [tx, if_neg (by decide), if_neg (by decide), if_neg (by decide), if_pos rfl] at hlenx ⊢
        exact text_cat hk0 hk4 (Lib.hid rfl) (by omega) (Lib.hid (HK 3)) (Lib.hid hlenx)
      · rw [tx, if_neg (by decide), if_pos rfl] at hlenx ⊢
        exact text_or hk0 hk4 (Lib.hid rfl) (by omega) (Lib.hid (HK 1)) (Lib.hid hlenx)
      · rw [tx, if_neg (by decide), if_neg (by decide), if_pos rfl] at hlenx ⊢
        exact text_and hk0 hk4 (Lib.hid rfl) (by omega) (Lib.hid (HK 2)) (Lib.hid hlenx)
      · obtain ⟨k, rfl⟩ : ∃ k, kids = [k] := by
          match kids, (by omega : kids.length = 1) with
          | [k], _ => exact ⟨k, rfl⟩
        have e : tx (.mk 5 set mn mx [k]) = 126 :: wi 4 k := by
          rw [tx, if_neg (by decide), if_neg (by decide), if_neg (by decide), if_neg (by decide), if_pos rfl, txL_eq]
          rfl
        rw [e] at hlenx ⊢
        obtain ⟨g, off, u, rfl, hu, hc⟩ := HK 4 0 k rfl
        refine text_not hk0 hk4 hu (Lib.hid fun W hW => (hc W hW).mono fun e w' ⟨S, he, hS, hk⟩ => ⟨S, he, ?_, hS, hk⟩)
        rw [hS.out, bt_size]
        simp only [List.length_cons] at hlenx
        omega
      · obtain ⟨k, rfl⟩ : ∃ k, kids = [k] := by
          match kids, (by omega : kids.length = 1) with
          | [k], _ => exact ⟨k, rfl⟩
        rw [if_pos rfl] at htimes
        have e : tx (.mk 6 set mn mx [k]) = wi 3 k ++ repT mn mx := by
          rw [tx, if_neg (by decide), if_neg (by decide), if_neg (by decide), if_neg (by decide), if_neg (by decide), txL_eq]
          rfl
        rw [e] at hlenx ⊢
        obtain ⟨g, off, u, rfl, hu, hc⟩ := HK 3 0 k rfl
        have HC : Hid (∀ W, Kp noB w W → Calls Tryz.prog 109 #[.pointer u, .int .i64 3] W fun e w' => ∃ S, e = .returned (.string S) ∧ S.size ≤ 100000000002 ∧ Hid (S = bt (wi 3 k)) ∧ Kp noB W w') := Lib.hid fun W hW => (hc W hW).mono fun e w' ⟨S, he, hS, hk⟩ => ⟨S, he, by
          rw [hS.out, bt_size]
          simp only [List.length_append] at hlenx
          omega, hS, hk⟩
        unfold timesOk at htimes
        obtain ⟨a, rfl⟩ : ∃ a : Nat, mn = a := ⟨mn.toNat, by omega⟩
        by_cases hx : mx = -1
        · subst hx
          by_cases a0 : a = 0
          · subst a0; exact text_rep1 hk0 hk2 hk3 hk4 hu HC
          by_cases a1 : a = 1
          · subst a1; exact text_rep2 hk0 hk2 hk3 hk4 hu HC
          exact text_rep4 (a := a) (by omega) (by omega) hk0 hk2 hk3 hk4 hu HC
        · obtain ⟨c, rfl⟩ : ∃ c : Nat, mx = c := ⟨mx.toNat, by omega⟩
          by_cases c1 : c = 1
          · subst c1
            by_cases a0 : a = 0
            · subst a0; exact text_rep3 hk0 hk2 hk3 hk4 hu HC
            obtain rfl : a = 1 := by omega
            exact text_rep5 hk0 hk2 hk3 hk4 hu HC
          by_cases a0 : a = 0
          · subst a0; exact text_rep7 (c := c) (by omega) (by omega) hk0 hk2 hk3 hk4 hu HC
          by_cases a1 : a = 1
          · subst a1; exact text_rep8 (c := c) (by omega) (by omega) hk0 hk2 hk3 hk4 hu HC
          by_cases hac : a = c
          · subst hac; exact text_rep6 (a := a) (by omega) (by omega) hk0 hk2 hk3 hk4 hu HC
          exact text_rep9 (a := a) (c := c) (by omega) (by omega) (by omega) hk0 hk2 hk3 hk4 hu HC

set_option maxRecDepth 100000 in
/-- pattern.Write of a valid pattern whose text is not too long. -/
theorem write_any (t : Rx) (v : Value) (okk : Nat → Prop) (w : World) (hre : IsRe w okk v t) (hsm : Small t) (hok : OkR t) (hlen : (tx t).length ≤ 65536) (h13 : w.cell? ⟨13, 15, none⟩ = some (.int .u8 4)) :
    Calls Tryz.prog 17 #[v] w fun e w' => e = .returned (.tuple #[.string (bt (tx t)), .nilIface]) ∧ Kp noB w w' := by
  have HO := Lib.hid (ok_any t v okk w hre hsm)
  have hf : Fits t := by
    have h1 := small_rg _ t (Nat.le_refl _) hsm
    have h2 := nd_wt _ t (Nat.le_refl _) 0 hok.1 hok.2
    have h3 := hok.2
    unfold Fits
    omega
  have HT : Hid (∀ W, Kp noB w W → Calls Tryz.prog 53 #[v] W fun e w' => e = .returned (.string (bt (tx t))) ∧ Kp noB W w') := Lib.hid fun W hW => text_any _ t (Nat.le_refl _) 0 v okk W (hre.kp hW fun _ _ _ => noB_not _) hok.1 hsm hf (hW.cell h13 (noB_not _))
  obtain ⟨S, HS⟩ : ∃ S, Hid (bt (tx t) = S) := ⟨_, Lib.hid rfl⟩
  have hS : S.size ≤ 65536 := by rw [← HS.out, bt_size]; exact hlen
  rw [HS.out] at HT ⊢
  obtain ⟨x, rfl⟩ := IsRe_ptr hre
  have HOK := Lib.hid hok
  clear hre hsm hok hlen h13 hf
  go_enter Tryz.func17, Tryz.ntmps17
  go_wp2_with fail
  refine HO.out.mono ?_
  rintro e w1 ⟨bl, rfl, hbl, hk1⟩
  obtain rfl : bl = true := hbl.2 HOK.out
  have HC := Lib.hid (HT.out w1 hk1)
  clear hbl
  go_wp2_with fail
  refine HC.out.mono ?_
  rintro e w2 ⟨rfl, hk2⟩
  go_wp2_with fail
  go_ret2
  exact ⟨rfl, hk1.trans hk2⟩
end Go.Proofs.YtoijabgcgdgacaaGreatDoor
