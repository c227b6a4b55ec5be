/-
  WALKS, ry: the reference's Read.
-/
import Derived.Test.YtoijabgcgdgacaaGreatDoorRF
import Derived.Test.YtoijabgcgdgacaaGreatDoorRG
import Derived.Test.YtoijabgcgdgacaaGreatDoorGJ
import Derived.OwnWalk
namespace Go.Proofs.YtoijabgcgdgacaaGreatDoor
open Go.RowKit Go.Proofs.Gram Go.Lib

/-- How the reference's Read ends. -/
def RRdE (eb es : Addr) (w : World) (r : R Rx) (e : Ending) (w' : World) : Prop :=
  Kp noB w w' ∧
  match r with
  | .er c p => e = .returned (.tuple #[.pointer none, .iface 406 (.pointer (some (erA eb es c))), .int .i64 p])
  | .ok t _ => ∃ v, e = .returned (.tuple #[v, .nilIface, .int .i64 0]) ∧ IsRe w' (fun k => w.heap.size ≤ k) v t ∧ Small t

section
variable {eb es : Addr} {s : ByteArray} {w : World}

set_option maxRecDepth 100000 in
theorem rread_big (hE : Env 406 eb es w) (hs : 65536 < s.size) : Calls Tryz.prog 20 #[.string s] w fun e w' => ∃ r, Rdd s r ∧ RRdE eb es w r e w' := by
  have hb : decide ((s.size : Int) > 65536) = true := decide_eq_true (by omega)
  have hb1 : decide ((65536 : Int) < s.size) = true := decide_eq_true (by omega)
  have hb2 : (65536 : Int) < s.size := by omega
  have hx := hE.bound
  have HS := Lib.hid hs
  clear hs hE
  go_enter Tryz.func20, Tryz.ntmps20
  go_wp2_with fail
  go_quiet (fail)
  go_wp2_with fail
  go_ret3
  exact ⟨.er 2 65536, .inl ⟨HS.out, rfl⟩, (Kp.refl _ _).drewN _, rfl⟩

set_option maxRecDepth 100000 in
set_option maxHeartbeats 1000000 in
theorem rread_small (hE : Env 406 eb es w) (hs : s.size ≤ 65536) : Calls Tryz.prog 20 #[.string s] w fun e w' => ∃ r, Rdd s r ∧ RRdE eb es w r e w' := by
  have hb : decide ((s.size : Int) > 65536) = false := decide_eq_false (by omega)
  have hb1 : decide ((65536 : Int) < s.size) = false := decide_eq_false (by omega)
  have hb2 : ¬ (65536 : Int) < s.size := by omega
  have h16 : 16 ≤ w.heap.size := by
    obtain ⟨_, _, _, _, h⟩ := hE.rng
    exact (Array.getElem?_eq_some_iff.1 h).1
  have hkA : Kp noB w (w.alloc (.cells #[.string s, .int .i64 0, .int .i64 0, .nilIface, .int .i64 0] 115)) := (Kp.refl noB w).alloc _
  have HQ : QR eb es s w.heap.size 0 0 none (w.alloc (.cells #[.string s, .int .i64 0, .int .i64 0, .nilIface, .int .i64 0] 115)) := ⟨heap_alloc_new w _, h16⟩
  have HA := Lib.hid (rany_any hs s.size w.heap.size 0 0 _ HQ (hE.kp hkA (fun k _ => noB_not _)) (Nat.zero_le _) (by omega) (by omega))
  have HS := Lib.hid hs
  have HKA := Lib.hid hkA
  have HE := Lib.hid hE
  have H16 := Lib.hid h16
  clear hs hE hkA HQ h16
  go_enter Tryz.func20, Tryz.ntmps20
  go_wp2_with fail
  refine HA.out.mono ?_
  rintro e w1 ⟨v, t, st, p, o', rfl, hre, hq, hk, hap, hps, hoo, ho', hd⟩
  have hkw : Kp noB w w1 := HKA.out.later hk (fun i hi h => by unfold onB at h; omega)
  have HRE : Hid (IsRe w1 (fun k => w.heap.size ≤ k) v t) := Lib.hid (hre.ok fun k _ h => by simp at h; omega)
  have HD := Lib.hid hd.out
  have HKW := Lib.hid hkw
  have c1 := hq.c1
  have HQ := Lib.hid hq
  have hE1 := HE.out.kp hkw (fun k _ => noB_not _)
  have g0 := hE1.bound
  have g1 := hE1.syn
  have HPS := Lib.hid hps
  clear hre hk hd hkw HA hoo ho' hq hE1 hap
  cases st with
  | none =>
    have HEV : Hid (Ev s .any 0 0 (.ok t p)) := Lib.hid (by
      rcases HD.out with h | ⟨x, h, _⟩
      · exact h.2.2
      · cases h)
    have hsm : Hid (Small t) := Lib.hid (by obtain ⟨n, hn⟩ := HEV.out; exact ev_small s HS.out n .any 0 0 t p trivial hn)
    by_cases hlt : p < s.size
    · have b1 : decide ((p : Int) < (s.size : Int)) = true := decide_eq_true (by omega)
      have b2 : decide (p < s.size) = true := decide_eq_true hlt
      have HF : Hid (Calls Tryz.prog 58 #[.pointer (some ⟨w.heap.size, 0, none⟩), .iface 406 (.pointer (some es)), .int .i64 p] w1.drew fun e w' => e = .returned (.tuple #[]) ∧ QR eb es s w.heap.size p o' (some (1, p)) w' ∧ Kp (onB w.heap.size) w1.drew w') :=
        Lib.hid (rfail_new (HQ.out.kp ((Kp.refl noB w1).drew) (noB_not _)) 1 p)
      have HL := Lib.hid hlt
      clear hlt hps
      go_wp2_with fail
      go_still_tail 6, (by kernel_rfl)
      change wpList _ _ _ _ _ w1.drew
      go_wp2_with fail
      refine HF.out.mono ?_
      rintro e w2 ⟨rfl, hq2, hk2⟩
      have c3 := hq2.c3
      have c4 := hq2.c4
      unfold badV at c3
      unfold badW at c4
      have hn := err_ne
      have HK : Hid (Kp noB w w2) := Lib.hid (HKW.out.drew.later hk2 (fun i hi h => by unfold onB at h; omega))
      clear hq2 hk2
      go_wp2_with fail
      go_quiet (fail)
      go_wp2_with fail
      go_ret3
      exact ⟨.er 1 p, .inr ⟨HS.out, _, HEV.out, HPS.out, .inl ⟨HL.out, rfl⟩⟩, HK.out.drewN _, rfl⟩
    · have b1 : decide ((p : Int) < (s.size : Int)) = false := decide_eq_false (by omega)
      have b2 : decide (p < s.size) = false := decide_eq_false hlt
      have HPE : Hid (p = s.size) := Lib.hid (by omega)
      have c3 := HQ.out.c3
      unfold badV at c3
      have hn := nil_ne
      have HOK := Lib.hid (rok_any t v _ w1 HRE.out hsm.out)
      clear hlt hps
      go_wp2_with fail
      refine HOK.out.mono ?_
      rintro e w2 ⟨bl, rfl, hbl, hk2⟩
      have g0 := ((HE.out.kp HKW.out (fun k _ => noB_not _)).kp hk2 (fun k _ => noB_not _)).bound
      have HK : Hid (Kp noB w w2) := Lib.hid (HKW.out.trans hk2)
      have HR2 := Lib.hid (HRE.out.kp hk2 fun _ _ _ => noB_not _)
      clear hk2
      cases bl with
      | true =>
        have HY := Lib.hid (hbl.1 rfl)
        clear hbl
        go_wp2_with fail
        go_ret3
        exact ⟨.ok t p, .inr ⟨HS.out, _, HEV.out, HPS.out, .inr (.inl ⟨HPE.out, HY.out, rfl⟩)⟩, HK.out, v, rfl, HR2.out, hsm.out⟩
      | false =>
        have HN : Hid (¬ OkR t) := Lib.hid fun h => by have := hbl.2 h; cases this
        clear hbl
        go_wp2_with fail
        go_quiet (fail)
        go_wp2_with fail
        go_ret3
        exact ⟨.er 2 0, .inr ⟨HS.out, _, HEV.out, HPS.out, .inr (.inr ⟨HPE.out, HN.out, rfl⟩)⟩, HK.out.drewN _, rfl⟩
  | some x =>
    obtain ⟨c, q⟩ := x
    have HEV : Hid (Ev s .any 0 0 (.er c q)) := Lib.hid (by
      rcases HD.out with h | ⟨x, h, h2⟩
      · cases h.1
      · cases h; exact h2)
    have c3 := HQ.out.c3
    have c4 := HQ.out.c4
    unfold badV at c3
    unfold badW at c4
    have hn := err_ne
    by_cases hlt : p < s.size
    · have b1 : decide ((p : Int) < (s.size : Int)) = true := decide_eq_true (by omega)
      have b2 : decide (p < s.size) = true := decide_eq_true hlt
      have HF : Hid (∀ ev p, Calls Tryz.prog 58 #[.pointer (some ⟨w.heap.size, 0, none⟩), ev, .int .i64 p] w1.drew fun e w' => e = .returned (.tuple #[]) ∧ w' = w1.drew) :=
        Lib.hid fun ev p => rfail_old (w := w1.drew) (HQ.out.kp ((Kp.refl noB w1).drew) (noB_not _)) ev p
      clear hlt hps
      go_wp2_with fail
      go_still_tail 6, (by kernel_rfl)
      change wpList _ _ _ _ _ w1.drew
      go_wp2_with fail
      refine (HF.out _ _).mono ?_
      rintro e w2 ⟨rfl, rfl⟩
      have c3' : w1.drew.cell? ⟨w.heap.size, 3, none⟩ = some (.iface 406 (.pointer (some (erA eb es c)))) := c3
      have c4' : w1.drew.cell? ⟨w.heap.size, 4, none⟩ = some (.int .i64 q) := c4
      go_wp2_with fail
      go_quiet (fail)
      go_wp2_with fail
      go_ret3
      exact ⟨.er c q, .inr ⟨HS.out, _, HEV.out, rfl⟩, HKW.out.drew.drewN _, rfl⟩
    · have b1 : decide ((p : Int) < (s.size : Int)) = false := decide_eq_false (by omega)
      have b2 : decide (p < s.size) = false := decide_eq_false hlt
      clear hlt hps
      go_wp2_with fail
      go_quiet (fail)
      go_wp2_with fail
      go_ret3
      exact ⟨.er c q, .inr ⟨HS.out, _, HEV.out, rfl⟩, HKW.out.drewN _, rfl⟩

/-- grammarsmithref1.Read. -/
theorem rread_any (hE : Env 406 eb es w) : Calls Tryz.prog 20 #[.string s] w fun e w' => ∃ r, Rdd s r ∧ RRdE eb es w r e w' := by
  by_cases h : s.size ≤ 65536
  · exact rread_small hE h
  · exact rread_big hE (by omega)

/-- What is read is one. -/
theorem rdd_unique {r r' : R Rx} (h : Rdd s r) (h' : Rdd s r') : r = r' := by
  rcases h with ⟨h1, rfl⟩ | ⟨h1, r0, h2, h3⟩
  · rcases h' with ⟨_, rfl⟩ | ⟨k1, _⟩
    · rfl
    · omega
  · rcases h' with ⟨k1, _⟩ | ⟨k1, r1, k2, k3⟩
    · omega
    · have e := h2.unique k2
      subst e
      cases r0 with
      | er c p => exact h3.trans k3.symm
      | ok t p =>
        obtain ⟨h4, h5⟩ := h3
        obtain ⟨k4, k5⟩ := k3
        rcases h5 with ⟨a1, rfl⟩ | ⟨a1, a2, rfl⟩ | ⟨a1, a2, rfl⟩ <;> rcases k5 with ⟨b1, rfl⟩ | ⟨b1, b2, rfl⟩ | ⟨b1, b2, rfl⟩ <;>
          first
            | rfl
            | omega
            | exact absurd b2 a2
            | exact absurd a2 b2
end
end Go.Proofs.YtoijabgcgdgacaaGreatDoor
