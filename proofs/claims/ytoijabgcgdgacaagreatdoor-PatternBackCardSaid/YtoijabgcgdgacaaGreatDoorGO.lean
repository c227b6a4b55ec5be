/-
  WALKS, xk: the law of writing.
-/
import Derived.Test.YtoijabgcgdgacaaGreatDoorGJ
import Derived.Test.YtoijabgcgdgacaaGreatDoorGL
import Derived.Test.YtoijabgcgdgacaaGreatDoorGN
import Derived.Test.YtoijabgcgdgacaaGreatDoorGC
namespace Go.Proofs.YtoijabgcgdgacaaGreatDoor
open Go.RowKit Go.Proofs.Gram Go.Lib

section
variable {T : TypeId} {eb es : Addr} {s : ByteArray} {w : World}

theorem rdd_ok {t : Rx} {p : Nat} {r : R Rx} (hs : s.size ≤ 65536) (hev : Ev s .any 0 0 (.ok t p)) (hp : p = s.size) (hok : OkR t) (h : Rdd s r) : r = .ok t p := by
  rcases h with ⟨h, _⟩ | ⟨_, r0, h0, h⟩
  · omega
  · have e := h0.unique hev
    subst e
    rcases h.2 with ⟨h, _⟩ | ⟨_, _, h⟩ | ⟨_, h, _⟩
    · omega
    · exact h
    · exact absurd hok h

/-- A text of which the pattern is known. -/
theorem read_known {t : Rx} {p : Nat} (hE : Env T eb es w) (hs : s.size ≤ 65536) (hev : Ev s .any 0 0 (.ok t p)) (hp : p = s.size) (hok : OkR t) :
    Calls Tryz.prog 14 #[.string s] w fun e w' => ∃ x, e = .returned (.tuple #[.pointer x, .nilIface]) ∧ IsRe w' (fun k => w.heap.size ≤ k) (.pointer x) t ∧ Small t ∧ Kp noB w w' := by
  refine (read_any (s := s) hE).mono ?_
  rintro e w' ⟨r, hr, hk, hm⟩
  have := rdd_ok hs hev hp hok hr
  subst this
  obtain ⟨v, he, hre, hsm⟩ := hm
  obtain ⟨x, rfl⟩ := IsRe_ptr hre
  exact ⟨x, he, hre, hsm, hk⟩

theorem read_first (hE : Env T eb es w) : Calls Tryz.prog 14 #[.string s0] w fun e w' => ∃ b, e = .returned (.tuple #[.pointer (some ⟨b, 0, none⟩), .nilIface]) ∧ w'.cell? ⟨b, 0, none⟩ = some (.int .i64 4) ∧ Kp noB w w' := by
  refine (read_known hE (by decide) ev_first rfl ok_first).mono ?_
  rintro e w' ⟨x, he, hre, _, hk⟩
  obtain ⟨b, sv, kv, ps, hx, hb, _⟩ := (show IsRe w' _ (.pointer x) (.mk 4 [] 0 0 [.mk 2 [] 0 0 [dig0, .mk 6 [] 0 1 [alt0]], .mk 5 [] 0 0 [dot0]]) from hre).inv
  cases hx
  exact ⟨b, he, by simp [World.cell?, hb], hk⟩

set_option maxRecDepth 100000 in
set_option maxHeartbeats 2000000 in
theorem back_any (hE : Env T eb es w) (h13 : w.cell? ⟨13, 15, none⟩ = some (.int .u8 4)) (hmax : s.size ≤ 9223372036854775807) :
    Calls Tryz.prog 4 #[.string s] w fun e w' => e = .returned (.bool true) ∧ Kp noB w w' := by
  have HR0 := Lib.hid (read_first hE)
  unfold s0 at HR0
  have hn1 : ∀ W : World, (binOp BinOp.neq 26 .nilIface .nilIface).run Tryz.prog W = .ok (.bool false) W := fun _ => by kernel_rfl
  have hn3 : ∀ W : World, (binOp BinOp.eql 26 .nilIface .nilIface).run Tryz.prog W = .ok (.bool true) W := fun _ => by kernel_rfl
  have HE := Lib.hid hE
  have H13 := Lib.hid h13
  clear hE h13
  go_enter Tryz.func4, Tryz.ntmps4
  go_wp2_with fail
  refine HR0.out.mono ?_
  rintro e w1 ⟨b, rfl, hb, hk1⟩
  have HK1 := Lib.hid hk1
  clear HR0 hk1
  by_cases hs : s.size ≤ 2000
  · have hb1 : decide ((2000 : Int) < (s.size : Int)) = false := decide_eq_false (by omega)
    have hb2 : decide (2000 < s.size) = false := decide_eq_false (by omega)
    have HS := Lib.hid hs
    have HR1 := Lib.hid (read_any (s := s) (HE.out.kp HK1.out fun k _ => noB_not _))
    clear hs
    go_wp2_with fail
    refine HR1.out.mono ?_
    rintro e w2 ⟨r, hr, hk2, hm⟩
    cases r with
    | er c p =>
      obtain ⟨g, rfl, hg⟩ := hm
      have hn2 : ∀ W : World, (binOp BinOp.neq 26 (.iface 90 (.pointer (some ⟨g, 0, none⟩))) .nilIface).run Tryz.prog W = .ok (.bool true) W := fun _ => by kernel_rfl
      have HKK := Lib.hid (HK1.out.trans hk2)
      clear hr hg hk2 HR1
      go_wp2_with fail
      go_ret
      exact ⟨rfl, HKK.out⟩
    | ok t p =>
      obtain ⟨v, rfl, hre, hsm⟩ := hm
      obtain ⟨x, rfl⟩ := IsRe_ptr hre
      have hev : Ev s .any 0 0 (.ok t p) ∧ p = s.size ∧ OkR t := by
        rcases hr with ⟨_, h⟩ | ⟨_, r0, h0, h⟩
        · cases h
        · cases r0 with
          | er c q => cases h
          | ok t' q =>
            rcases h.2 with ⟨_, h⟩ | ⟨h1, h2, h⟩ | ⟨_, _, h⟩
            · cases h
            · cases h; exact ⟨h0, h1, h2⟩
            · cases h
      have hkk := HK1.out.trans hk2
      have hlen := written_short HS.out hev.1 (by omega) hev.2.2
      have HW := Lib.hid (write_any t _ _ w2 hre hsm hev.2.2 hlen (hkk.cell H13.out (noB_not _)))
      have HEV := Lib.hid hev
      have HRE := Lib.hid (And.intro hre (And.intro hsm (And.intro hkk hlen)))
      clear hev hre hsm hkk hlen hr hk2 HR1
      go_wp2_with fail
      refine HW.out.mono ?_
      rintro e w3 ⟨rfl, hk3⟩
      have hkw3 := HRE.out.2.2.1.trans hk3
      have HR2 := Lib.hid (read_known (s := bt (tx t)) (HE.out.kp hkw3 fun k _ => noB_not _) (by rw [bt_size]; exact HRE.out.2.2.2) (tx_read t HEV.out.2.2.1) (by rw [bt_size]) HEV.out.2.2)
      have HRE3 := Lib.hid (And.intro (HRE.out.1.kp hk3 fun _ _ _ => noB_not _) hkw3)
      clear hk3 hkw3
      obtain ⟨S, HSS⟩ : ∃ S, Hid (bt (tx t) = S) := ⟨_, Lib.hid rfl⟩
      rw [HSS.out] at HR2 ⊢
      go_wp2_with fail
      refine HR2.out.mono ?_
      rintro e w4 ⟨y, rfl, hre4, hsm4, hk4⟩
      have hrp4 := HRE3.out.1.kp hk4 fun _ _ _ => noB_not _
      have HO := Lib.hid (ok_any t (.pointer x) _ w4 hrp4 hsm4)
      have HRE4 := Lib.hid (And.intro hre4 (And.intro hsm4 (And.intro hrp4 (HRE3.out.2.trans hk4))))
      clear hre4 hsm4 hk4 hrp4
      go_wp2_with fail
      refine HO.out.mono ?_
      rintro e w5 ⟨bl, rfl, hbl, hk5⟩
      obtain rfl : bl = true := hbl.2 HEV.out.2.2
      have HC := Lib.hid (same_any _ t (Nat.le_refl _) t (.pointer x) (.pointer y) _ _ w5 true (HRE4.out.2.2.1.kp hk5 fun _ _ _ => noB_not _) (HRE4.out.1.kp hk5 fun _ _ _ => noB_not _) HRE4.out.2.1 HRE4.out.2.1 ⟨fun _ => rfl, fun _ => rfl⟩)
      have HKK := Lib.hid (HRE4.out.2.2.2.trans hk5)
      clear hbl hk5
      go_wp2_with fail
      refine HC.out.mono ?_
      rintro e w6 ⟨rfl, q, rfl⟩
      go_wp2_with fail
      go_ret
      exact ⟨rfl, HKK.out.drewN q⟩
  · have hb1 : decide ((2000 : Int) < (s.size : Int)) = true := decide_eq_true (by omega)
    have hb2 : decide (2000 < s.size) = true := decide_eq_true (by omega)
    go_wp2_with fail
    go_ret
    exact ⟨rfl, HK1.out⟩
end
end Go.Proofs.YtoijabgcgdgacaaGreatDoor
