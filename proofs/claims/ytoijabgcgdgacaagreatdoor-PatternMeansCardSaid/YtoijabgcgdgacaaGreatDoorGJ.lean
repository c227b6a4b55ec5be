/-
  WALKS, z: pattern.Read's deferred closure.
  WALKS, za: pattern.Read: what a text tells, or what is wrong, and where.
-/
import Derived.Test.YtoijabgcgdgacaaGreatDoorGD
import Derived.Defers
import Derived.Recover
import Derived.Test.YtoijabgcgdgacaaGreatDoorGI
namespace Go.Proofs.YtoijabgcgdgacaaGreatDoor
open Go.RowKit Go.Proofs.Gram

/-- Behind a return the closure turns nothing. -/
theorem catch_idle (p q : Addr) (w : World) :
    CallsD Tryz.prog 43 #[.pointer (some p), .pointer (some q)] .returning w fun e u' w' => e = .returned (.tuple #[]) ∧ u' = .returning ∧ w' = w := by
  refine callsD_of_wpS Tryz.func43 rfl fun c₀ cs hu => ?_
  apply wpS_seq
  apply wpS_region
  simp [wpOpsS, go_sem, recoverD, hu, Tryz.ntmps43, Exit.thenS]
  apply wpS_seq
  apply wpS_region
  simp [wpOpsS, go_sem, Exit.thenS]
  refine wpS_cond (t := false) (by simp [Act.eval, Array.replicate]) ?_
  simp only [Bool.false_eq_true, if_false]
  refine wpS_of_wp (wp_skip ?_)
  cases c₀
  simp_all [bodyPostS, results, Tryz.results43, Exit.thenS]

set_option maxRecDepth 100000 in
set_option maxHeartbeats 1000000 in
/-- Behind a panic with what is wrong, it is caught. -/
theorem catch_bad (p q g : Nat) (w : World) (hp : p < w.heap.size) (hq : q < w.heap.size) (hzp : w.frozen? ⟨p, 0, none⟩ = false) (hzq : w.frozen? ⟨q, 0, none⟩ = false) (hpq : ¬ p = q) {vp vq : Value} (hcp : w.cell? ⟨p, 0, none⟩ = some vp) (hcq : w.cell? ⟨q, 0, none⟩ = some vq) :
    CallsD Tryz.prog 43 #[.pointer (some ⟨p, 0, none⟩), .pointer (some ⟨q, 0, none⟩)] (.panicking [{ v := .iface 94 (.agg #[.pointer (some ⟨g, 0, none⟩)]), recovered := false }]) w fun e u' w' => e = .returned (.tuple #[]) ∧
      u' = .panicking [{ v := .iface 94 (.agg #[.pointer (some ⟨g, 0, none⟩)]), recovered := true }] ∧
      w' = (((w.setCell ⟨p, 0, none⟩ (.pointer none)).setCell ⟨q, 0, none⟩ (.iface 90 (.pointer (some ⟨g, 0, none⟩)))).alloc (.cells #[.pointer (some ⟨g, 0, none⟩)] 94)).drew := by
  refine callsD_of_wpS Tryz.func43 rfl fun c₀ cs hu => ?_
  apply wpS_seq
  apply wpS_region
  simp [wpOpsS, go_sem, recoverD, hu, Tryz.ntmps43, Exit.thenS]
  refine wpS_of_wp ?_
  refine wp_mono (Q := fun e a' w' => e = .normal ∧ a'.defers = [] ∧ w' = (((w.setCell ⟨p, 0, none⟩ (.pointer none)).setCell ⟨q, 0, none⟩ (.iface 90 (.pointer (some ⟨g, 0, none⟩)))).alloc (.cells #[.pointer (some ⟨g, 0, none⟩)] 94)).drew) ?_ ?_
  · generalize hPQ : (fun (e : Exit) (a' : Act) (w' : World) => e = .normal ∧ a'.defers = [] ∧ w' = (((w.setCell ⟨p, 0, none⟩ (.pointer none)).setCell ⟨q, 0, none⟩ (.iface 90 (.pointer (some ⟨g, 0, none⟩)))).alloc (.cells #[.pointer (some ⟨g, 0, none⟩)] 94)).drew) = PQ
    have ht : #[Value.pointer (some ⟨p, 0, none⟩), Value.pointer (some ⟨q, 0, none⟩)] ++ ((Array.replicate 17 undef).setIfInBounds 3 (Value.iface 94 (Value.agg #[Value.pointer (some ⟨g, 0, none⟩)]))).setIfInBounds 0 (Value.iface 94 (Value.agg #[Value.pointer (some ⟨g, 0, none⟩)])) = #[Value.pointer (some ⟨p, 0, none⟩), Value.pointer (some ⟨q, 0, none⟩), Value.iface 94 (Value.agg #[Value.pointer (some ⟨g, 0, none⟩)]), undef, undef, Value.iface 94 (Value.agg #[Value.pointer (some ⟨g, 0, none⟩)]), undef, undef, undef, undef, undef, undef, undef, undef, undef, undef, undef, undef, undef] := rfl
    rw [ht]
    clear ht
    have hta : ∀ w : World, (Instr.typeAssert (Value.iface 94 (Value.agg #[Value.pointer (some ⟨g, 0, none⟩)])) 20 94 true).run Tryz.prog w = .ok (.tuple #[.agg #[.pointer (some ⟨g, 0, none⟩)], .bool true]) w := fun _ => by kernel_rfl
    clear hu
    have hpn : ¬ p = w.heap.size := by omega
    have hqn : ¬ q = w.heap.size := by omega
    have hqp : ¬ q = p := fun h => hpq h.symm
    have hnp : ¬ w.heap.size = p := by omega
    have hnq : ¬ w.heap.size = q := by omega
    go_wp2_with fail
    go_region
    subst hPQ
    refine ⟨rfl, rfl, ?_⟩
    rfl
  · rintro e a w' ⟨rfl, hd, rfl⟩
    refine ⟨hd, _, rfl, .tuple #[], ?_, rfl, rfl, rfl⟩
    simp [results, Tryz.results43]
end Go.Proofs.YtoijabgcgdgacaaGreatDoor

namespace Go.Proofs.YtoijabgcgdgacaaGreatDoor
open Go.RowKit Go.Proofs.Gram Go.Lib

/-- What Read answers, plainly. -/
def Rdd (s : ByteArray) (r : R Rx) : Prop :=
  (65536 < s.size ∧ r = .er 2 65536) ∨
  (s.size ≤ 65536 ∧ ∃ r0, Ev s .any 0 0 r0 ∧
    match r0 with
    | .er c p => r = .er c p
    | .ok t p => p ≤ s.size ∧ ((p < s.size ∧ r = .er 1 p) ∨ (p = s.size ∧ OkR t ∧ r = .ok t p) ∨ (p = s.size ∧ ¬ OkR t ∧ r = .er 2 0)))

/-- How Read ends. -/
def RdE (T : TypeId) (eb es : Addr) (w : World) (r : R Rx) (e : Ending) (w' : World) : Prop :=
  Kp noB w w' ∧
  match r with
  | .er c p => ∃ g, e = .returned (.tuple #[.pointer none, .iface 90 (.pointer (some ⟨g, 0, none⟩))]) ∧ w'.heap[g]? = some (.cells #[.iface T (.pointer (some (erA eb es c))), .int .i64 p] 92 (0, 0))
  | .ok t _ => ∃ v, e = .returned (.tuple #[v, .nilIface]) ∧ IsRe w' (fun k => w.heap.size ≤ k) v t ∧ Small t

section
variable {T : TypeId} {eb es : Addr} {s : ByteArray} {w : World}
theorem new3 (w : World) (a b c : Obj) : (((w.alloc a).alloc b).alloc c).heap[w.heap.size + 1 + 1]? = some c := by
  have h := heap_alloc_new ((w.alloc a).alloc b) c
  rw [show ((w.alloc a).alloc b).heap.size = w.heap.size + 1 + 1 from by simp] at h
  exact h
theorem new2 (w : World) (a b c : Obj) : (((w.alloc a).alloc b).alloc c).heap[w.heap.size + 1]? = some b := by
  have h := heap_alloc_new (w.alloc a) b
  rw [show (w.alloc a).heap.size = w.heap.size + 1 from by simp] at h
  rw [Below.heap_alloc _ _ _ (by simp)]
  exact h
theorem new1 (w : World) (a b c : Obj) : (((w.alloc a).alloc b).alloc c).heap[w.heap.size]? = some a := by
  rw [Below.heap_alloc _ _ _ (by simp; omega), Below.heap_alloc _ _ _ (by simp)]
  exact heap_alloc_new w a

set_option maxRecDepth 100000 in
set_option maxHeartbeats 1000000 in
theorem read_big (hE : Env T eb es w) (hs : 65536 < s.size) : Calls Tryz.prog 14 #[.string s] w fun e w' => ∃ r, Rdd s r ∧ RdE T eb es w r e w' := by
  have hb : (65536 : Int) < s.size := by omega
  have hx := hE.bound
  have HS := Lib.hid hs
  clear hs
  go_enter_defers Tryz.func14, Tryz.ntmps14
  have hlt := World.block_lt_of_cell? w _ hx
  go_wp2_with fail
  go_region
  go_wp2_with fail
  refine ⟨.tuple #[.pointer none, .iface 90 (.pointer (some ⟨w.heap.size + 1 + 1, 0, none⟩))], by simp [results, Tryz.results14, go_sem], .er 2 65536, .inl ⟨HS.out, rfl⟩, ?_, _, rfl, ?_⟩
  · exact ((((Kp.refl noB w).alloc _).alloc _).alloc _).drew
  · rw [show erA eb es 2 = eb from rfl]
    exact new3 w _ _ _

/-- The world behind the catch. -/
def caught (w1 : World) (P Q g : Nat) : World := (((w1.setCell ⟨P, 0, none⟩ (.pointer none)).setCell ⟨Q, 0, none⟩ (.iface 90 (.pointer (some ⟨g, 0, none⟩)))).alloc (.cells #[.pointer (some ⟨g, 0, none⟩)] 94)).drew
theorem caught_all {w0 w1 : World} {P Q g : Nat} {a b o : Value} {x y : Value} (hP : w1.heap[P]? = some (.cells #[a] 22 (0, 0))) (hQ : w1.heap[Q]? = some (.cells #[b] 26 (0, 0))) (hg : w1.heap[g]? = some (.cells #[x, y] 92 (0, 0))) (hPQ : P ≠ Q) (hk : Kp noB w0 w1) (hp : w0.heap.size ≤ P) (hq : w0.heap.size ≤ Q) :
    (caught w1 P Q g).cell? ⟨P, 0, none⟩ = some (.pointer none) ∧ (caught w1 P Q g).cell? ⟨Q, 0, none⟩ = some (.iface 90 (.pointer (some ⟨g, 0, none⟩))) ∧ (caught w1 P Q g).heap[g]? = some (.cells #[x, y] 92 (0, 0)) ∧ Kp noB w0 (caught w1 P Q g) := by
  have lP := (Array.getElem?_eq_some_iff.1 hP).1
  have lQ := (Array.getElem?_eq_some_iff.1 hQ).1
  have lg := (Array.getElem?_eq_some_iff.1 hg).1
  have gP : g ≠ P := fun h => by rw [h, hP] at hg; simp at hg
  have gQ : g ≠ Q := fun h => by rw [h, hQ] at hg; simp at hg
  have cP : w1.cell? ⟨P, 0, none⟩ = some a := by simp [World.cell?, hP]
  have cQ : w1.cell? ⟨Q, 0, none⟩ = some b := by simp [World.cell?, hQ]
  have e1 : (w1.setCell ⟨P, 0, none⟩ (.pointer none)).cell? ⟨P, 0, none⟩ = some (.pointer none) := World.cell?_setCell_same _ _ _ cP
  have e2 : (w1.setCell ⟨P, 0, none⟩ (.pointer none)).cell? ⟨Q, 0, none⟩ = some b := by rw [World.cell?_setCell_other _ _ _ _ (by simp [hPQ.symm, hPQ])]; exact cQ
  have kk : ∀ W, Kp noB W ((W.alloc (.cells #[.pointer (some ⟨g, 0, none⟩)] 94)).drew) := fun W => ((Kp.refl noB W).alloc _).drew
  refine ⟨?_, ?_, ?_, ?_⟩
  · exact (kk _).cell (by rw [World.cell?_setCell_other _ _ _ _ (by simp [hPQ.symm, hPQ])]; exact e1) (noB_not _)
  · exact (kk _).cell (World.cell?_setCell_same _ _ _ e2) (noB_not _)
  · refine (kk _).heap ?_ (noB_not _)
    rw [Below.heap_setCell _ _ _ _ (by exact gQ), Below.heap_setCell _ _ _ _ (by exact gP)]
    exact hg
  · exact ((((hk.setCell (.inr hp) _).setCell (.inr hq) _).alloc _).drew)

set_option maxRecDepth 100000 in
set_option maxHeartbeats 1000000 in
theorem read_small (hE : Env T eb es w) (hs : s.size ≤ 65536) : Calls Tryz.prog 14 #[.string s] w fun e w' => ∃ r, Rdd s r ∧ RdE T eb es w r e w' := by
  have hb : ¬ (65536 : Int) < s.size := by omega
  have h16 : 16 ≤ w.heap.size := by
    obtain ⟨_, _, _, _, h⟩ := hE.rng
    exact (Array.getElem?_eq_some_iff.1 h).1
  have hk3 := ((((Kp.refl noB w).alloc (.cells #[.pointer none] 22)).alloc (.cells #[.nilIface] 26)).alloc (.cells #[.string s, .int .i64 0, .int .i64 0] 98))
  have hE3 := hE.kp hk3 (fun k _ => noB_not _)
  have hr3 : RD s (w.heap.size + 1 + 1) 0 0 (((w.alloc (.cells #[.pointer none] 22)).alloc (.cells #[.nilIface] 26)).alloc (.cells #[.string s, .int .i64 0, .int .i64 0] 98)) := ⟨new3 w _ _ _, by omega⟩
  have HA := Lib.hid (any_any hs s.size _ 0 0 _ hr3 hE3 (Nat.zero_le _) (by omega) (by omega))
  have HS := Lib.hid hs
  have hmf : ∀ (fn : Fn) (first cap : Array Value) (w : World), (Instr.makeFunc fn first cap).run Tryz.prog w = .ok (.func fn first cap) w := fun _ _ _ _ => rfl
  clear hs hr3 hE3
  have HK3 := Lib.hid hk3
  clear hk3
  go_enter_defers Tryz.func14, Tryz.ntmps14
  go_wp2_with fail
  refine HA.out.mono ?_
  rintro e w1 ⟨r, hEv, hTP⟩
  cases r with
  | er c p =>
    obtain ⟨⟨g, rfl, hg⟩, hk1⟩ := hTP
    have HEV := Lib.hid hEv
    have hP : w1.heap[w.heap.size]? = some (.cells #[.pointer none] 22 (0, 0)) := hk1.heap (new1 w _ _ _) (onB_not (by omega))
    have hQ : w1.heap[w.heap.size + 1]? = some (.cells #[.nilIface] 26 (0, 0)) := hk1.heap (new2 w _ _ _) (onB_not (by omega))
    have HC := Lib.hid (catch_bad w.heap.size (w.heap.size + 1) g w1 (Array.getElem?_eq_some_iff.1 hP).1 (Array.getElem?_eq_some_iff.1 hQ).1 (by simp [World.frozen?, hP]) (by simp [World.frozen?, hQ]) (by omega) (vp := .pointer none) (vq := .nilIface) (by simp [World.cell?, hP]) (by simp [World.cell?, hQ]))
    have HG := Lib.hid (And.intro hP (And.intro hQ hg))
    have HK1 := Lib.hid hk1
    clear hEv hk1 hP hQ hg HA
    go_wp2_with fail
    refine leaves_cons (f := 43) (args := #[.pointer (some ⟨w.heap.size, 0, none⟩), .pointer (some ⟨w.heap.size + 1, 0, none⟩)]) (by simp) (by simp [go_sem]) ?_
    refine HC.out.mono ?_
    rintro e u' w2 ⟨rfl, rfl, rfl⟩
    have hkw : Kp noB w w1 := HK3.out.later HK1.out (fun i hi h => by unfold onB at h; omega)
    obtain ⟨c1, c2, c3, c4⟩ := caught_all (o := .nilIface) HG.out.1 HG.out.2.1 HG.out.2.2 (by omega) hkw (Nat.le_refl _) (by omega)
    refine ⟨.tuple #[.pointer none, .iface 90 (.pointer (some ⟨g, 0, none⟩))], ?_, .er c p, .inr ⟨HS.out, _, HEV.out, rfl⟩, c4, g, rfl, c3⟩
    unfold caught at c1 c2
    simp [results, Tryz.results14, go_sem, c1, c2]
  | ok t p =>
    obtain ⟨v, rfl, hk1, hr1, hre, h0p, hps⟩ := hTP
    obtain ⟨x, rfl⟩ := IsRe_ptr hre
    have HEV := Lib.hid hEv
    have hsm : Hid (Small t) := Lib.hid (by obtain ⟨n, hn⟩ := hEv; exact ev_small s HS.out n .any 0 0 t p trivial hn)
    have hP : w1.heap[w.heap.size]? = some (.cells #[.pointer none] 22 (0, 0)) := hk1.heap (new1 w _ _ _) (onB_not (by omega))
    have hQ : w1.heap[w.heap.size + 1]? = some (.cells #[.nilIface] 26 (0, 0)) := hk1.heap (new2 w _ _ _) (onB_not (by omega))
    have hcP : w1.cell? ⟨w.heap.size, 0, none⟩ = some (.pointer none) := by simp [World.cell?, hP]
    have hzP : w1.frozen? ⟨w.heap.size, 0, none⟩ = false := by simp [World.frozen?, hP]
    have hc1 := hr1.c1
    have hkw : Kp noB w w1 := HK3.out.later hk1 (fun i hi h => by unfold onB at h; omega)
    have hE1 := hE.kp hkw (fun k _ => noB_not _)
    have hy := hE1.syn
    have hx := hE1.bound
    have d1 : ¬ (1 : Nat) = w.heap.size := by omega
    have d0 : ¬ (0 : Nat) = w.heap.size := by omega
    have hkS : Kp (onB w.heap.size) w1 (w1.setCell ⟨w.heap.size, 0, none⟩ (.pointer x)) := (Kp.refl (onB w.heap.size) w1).setCell (p := ⟨w.heap.size, 0, none⟩) (.inl (onB_self _)) _
    have hk2 : Kp noB w (w1.setCell ⟨w.heap.size, 0, none⟩ (.pointer x)) := hkw.setCell (.inr (Nat.le_refl _)) _
    have hP2 : (w1.setCell ⟨w.heap.size, 0, none⟩ (.pointer x)).heap[w.heap.size]? = some (.cells #[.pointer x] 22 (0, 0)) := by
      simp [World.setCell, Array.getElem?_modify, hP]
    have hQ2 := hkS.heap hQ (onB_not (by omega))
    have hre2 : IsRe (w1.setCell ⟨w.heap.size, 0, none⟩ (.pointer x)) (fun k => w.heap.size + 3 ≤ k) (.pointer x) t :=
      (hre.kp hkS (fun k _ h => onB_not (by simp at h; omega))).ok (fun k _ h => by simp at h; omega)
    have hy2 := (hE.kp hk2 (fun k _ => noB_not _)).syn
    have hr2 := (hr1.kp hkS (onB_not (by omega))).c1
    obtain ⟨W2, HW2⟩ : ∃ W2, Hid (w1.setCell ⟨w.heap.size, 0, none⟩ (.pointer x) = W2) := ⟨_, Lib.hid rfl⟩
    rw [HW2.out] at hk2 hP2 hQ2 hre2 hy2 hr2
    have HG := Lib.hid (And.intro hP2 (And.intro hQ2 (And.intro hk2 hre2)))
    have HE2 := Lib.hid (hE.kp hk2 (fun k _ => noB_not _))
    clear hEv hk1 hr1 hre hP hQ HA hkw hE1 hkS hk2 hP2 hQ2 hre2
    by_cases hlt : p < s.size
    · have hb2 : decide (p < s.size) = true := decide_eq_true hlt
      have HL := Lib.hid hlt
      clear hlt h0p
      go_wp2_with fail
      rw [HW2.out]
      go_still_tail 6, (by kernel_rfl)
      change wpList _ _ _ _ _ W2.drew
      go_wp2_with (go_at_call 46; refine (fail_bad _ _ _).mono ?_; rintro e w2 ⟨⟨g, rfl, hg⟩, hk3⟩)
      have hP3 := hk3.heap (show W2.drew.heap[w.heap.size]? = some (.cells #[.pointer x] 22 (0, 0)) from HG.out.1) (noB_not _)
      have hQ3 := hk3.heap (show W2.drew.heap[w.heap.size + 1]? = some (.cells #[.nilIface] 26 (0, 0)) from HG.out.2.1) (noB_not _)
      have hkw2 : Kp noB w w2 := HG.out.2.2.1.drew.trans hk3
      refine leaves_cons (f := 43) (args := #[.pointer (some ⟨w.heap.size, 0, none⟩), .pointer (some ⟨w.heap.size + 1, 0, none⟩)]) (by simp) (by simp [go_sem]) ?_
      refine (catch_bad w.heap.size (w.heap.size + 1) g w2 (Array.getElem?_eq_some_iff.1 hP3).1 (Array.getElem?_eq_some_iff.1 hQ3).1 (by simp [World.frozen?, hP3]) (by simp [World.frozen?, hQ3]) (by omega) (vp := .pointer x) (vq := .nilIface) (by simp [World.cell?, hP3]) (by simp [World.cell?, hQ3])).mono ?_
      rintro e u' w3 ⟨rfl, rfl, rfl⟩
      obtain ⟨c1, c2, c3, c4⟩ := caught_all (o := .nilIface) hP3 hQ3 hg (by omega) hkw2 (Nat.le_refl _) (by omega)
      refine ⟨.tuple #[.pointer none, .iface 90 (.pointer (some ⟨g, 0, none⟩))], ?_, .er 1 p, .inr ⟨HS.out, _, HEV.out, hps, .inl ⟨HL.out, rfl⟩⟩, c4, g, rfl, c3⟩
      unfold caught at c1 c2
      simp [results, Tryz.results14, go_sem, c1, c2]
    · have hb2 : decide (p < s.size) = false := decide_eq_false hlt
      have hpe : p = s.size := by omega
      have HPE := Lib.hid hpe
      have HOK := Lib.hid (ok_any t (.pointer x) _ _ HG.out.2.2.2 hsm.out)
      clear hpe hlt
      go_wp2_with fail
      rw [HW2.out]
      refine HOK.out.mono ?_
      rintro e w2 ⟨bl, rfl, hbl, hk3⟩
      have hkw2 : Kp noB w w2 := HG.out.2.2.1.trans hk3
      have hP3 := hk3.heap HG.out.1 (noB_not _)
      have hQ3 := hk3.heap HG.out.2.1 (noB_not _)
      have hre3 := HG.out.2.2.2.kp hk3 (fun k _ _ => noB_not _)
      have hx3 := (HE2.out.kp hk3 (fun k _ => noB_not _)).bound
      have hcP3 : w2.cell? ⟨w.heap.size, 0, none⟩ = some (.pointer x) := by simp [World.cell?, hP3]
      have hcQ3 : w2.cell? ⟨w.heap.size + 1, 0, none⟩ = some .nilIface := by simp [World.cell?, hQ3]
      have hzP3 : w2.frozen? ⟨w.heap.size, 0, none⟩ = false := by simp [World.frozen?, hP3]
      have hzQ3 : w2.frozen? ⟨w.heap.size + 1, 0, none⟩ = false := by simp [World.frozen?, hQ3]
      have HH := Lib.hid (And.intro hkw2 (And.intro hP3 (And.intro hQ3 hre3)))
      clear hkw2 hP3 hQ3 hre3 hk3 hcP hzP hc1 hy hx HOK
      cases bl with
      | true =>
        have hcQ4 : (w2.setCell ⟨w.heap.size, 0, none⟩ (.pointer x)).cell? ⟨w.heap.size + 1, 0, none⟩ = some .nilIface := by
          rw [World.cell?_setCell_other _ _ _ _ (by simp)]
          exact hcQ3
        have hzQ4 : (w2.setCell ⟨w.heap.size, 0, none⟩ (.pointer x)).frozen? ⟨w.heap.size + 1, 0, none⟩ = false := by simpa using hzQ3
        have hc5 : ((w2.setCell ⟨w.heap.size, 0, none⟩ (.pointer x)).setCell ⟨w.heap.size + 1, 0, none⟩ .nilIface).cell? ⟨w.heap.size, 0, none⟩ = some (.pointer x) := by
          rw [World.cell?_setCell_other _ _ _ _ (by simp)]
          exact World.cell?_setCell_same _ _ _ hcP3
        have hc6 : ((w2.setCell ⟨w.heap.size, 0, none⟩ (.pointer x)).setCell ⟨w.heap.size + 1, 0, none⟩ .nilIface).cell? ⟨w.heap.size + 1, 0, none⟩ = some .nilIface := World.cell?_setCell_same _ _ _ hcQ4
        have hkk : Kp (fun k => k = w.heap.size ∨ k = w.heap.size + 1) w2 ((w2.setCell ⟨w.heap.size, 0, none⟩ (.pointer x)).setCell ⟨w.heap.size + 1, 0, none⟩ .nilIface) :=
          ((Kp.refl (fun k => k = w.heap.size ∨ k = w.heap.size + 1) w2).setCell (p := ⟨w.heap.size, 0, none⟩) (.inl (.inl rfl)) _).setCell (p := ⟨w.heap.size + 1, 0, none⟩) (.inl (.inr rfl)) _
        have HL := Lib.hid (And.intro hc5 (And.intro hc6 hkk))
        clear hc5 hc6 hkk
        go_wp2_with fail
        refine leaves_cons (f := 43) (args := #[.pointer (some ⟨w.heap.size, 0, none⟩), .pointer (some ⟨w.heap.size + 1, 0, none⟩)]) (by simp) (by simp [go_sem]) ?_
        refine (catch_idle ⟨w.heap.size, 0, none⟩ ⟨w.heap.size + 1, 0, none⟩ _).mono ?_
        rintro e u' w3 ⟨rfl, rfl, rfl⟩
        obtain ⟨hc5, hc6, hkk⟩ := HL.out
        refine ⟨.tuple #[.pointer x, .nilIface], by simp only [results, Tryz.results14]; simp [go_sem, hc5, hc6], .ok t p, .inr ⟨HS.out, _, HEV.out, hps, .inr (.inl ⟨HPE.out, hbl.1 trivial, rfl⟩)⟩, HH.out.1.later hkk (fun i hi h => by omega), _, rfl, ?_, hsm.out⟩
        exact (HH.out.2.2.2.kp hkk (fun k _ h => by omega)).ok (fun k _ h => by omega)
      | false =>
        have HB : Hid (¬ OkR t) := Lib.hid fun h => (by have := hbl.2 h; cases this)
        clear hbl
        go_wp2_with (go_at_call 46; refine (fail_bad _ _ _).mono ?_; rintro e w3 ⟨⟨g, rfl, hg⟩, hk3⟩)
        have hP4 := hk3.heap HH.out.2.1 (noB_not _)
        have hQ4 := hk3.heap HH.out.2.2.1 (noB_not _)
        have hkw2 : Kp noB w w3 := HH.out.1.trans hk3
        refine leaves_cons (f := 43) (args := #[.pointer (some ⟨w.heap.size, 0, none⟩), .pointer (some ⟨w.heap.size + 1, 0, none⟩)]) (by simp) (by simp [go_sem]) ?_
        refine (catch_bad w.heap.size (w.heap.size + 1) g w3 (Array.getElem?_eq_some_iff.1 hP4).1 (Array.getElem?_eq_some_iff.1 hQ4).1 (by simp [World.frozen?, hP4]) (by simp [World.frozen?, hQ4]) (by omega) (vp := .pointer x) (vq := .nilIface) (by simp [World.cell?, hP4]) (by simp [World.cell?, hQ4])).mono ?_
        rintro e u' w4 ⟨rfl, rfl, rfl⟩
        obtain ⟨c1, c2, c3, c4⟩ := caught_all (o := .nilIface) hP4 hQ4 hg (by omega) hkw2 (Nat.le_refl _) (by omega)
        refine ⟨.tuple #[.pointer none, .iface 90 (.pointer (some ⟨g, 0, none⟩))], ?_, .er 2 0, .inr ⟨HS.out, _, HEV.out, hps, .inr (.inr ⟨HPE.out, HB.out, rfl⟩)⟩, c4, g, rfl, c3⟩
        unfold caught at c1 c2
        simp [results, Tryz.results14, go_sem, c1, c2]

/-- pattern.Read. -/
theorem read_any (hE : Env T eb es w) : Calls Tryz.prog 14 #[.string s] w fun e w' => ∃ r, Rdd s r ∧ RdE T eb es w r e w' := by
  by_cases h : s.size ≤ 65536
  · exact read_small hE h
  · exact read_big hE (by omega)
end
end Go.Proofs.YtoijabgcgdgacaaGreatDoor
