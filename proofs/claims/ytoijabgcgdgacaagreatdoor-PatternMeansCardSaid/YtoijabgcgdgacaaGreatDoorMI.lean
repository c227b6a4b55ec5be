/-
  WALKS, mv: points.Has; slices.ContainsFunc on the kids of a pattern, with the matcher's two closures.
  WALKS, mw: the program's matcher: does a pattern stand for what lies between two places.
  WALKS, mx: the program's matcher: does a pattern stand for what lies between two places.
-/
import Derived.Test.YtoijabgcgdgacaaGreatDoorMH
import Derived.Test.YtoijabgcgdgacaaGreatDoorMB
import Derived.Test.YtoijabgcgdgacaaGreatDoorMD
namespace Go.Proofs.YtoijabgcgdgacaaGreatDoor
open Go.RowKit Go.Proofs.Gram Go.Lib

/-- What a test tells. -/
def HasP (w : World) (p : Prop) (e : Ending) (w' : World) : Prop := ∃ bl, e = .returned (.bool bl) ∧ (bl = true ↔ p) ∧ Kp noB w w'

set_option maxRecDepth 100000 in
theorem hasClo (lo hi p : Int) (pb : Nat) (w : World) (hp : w.cell? ⟨pb, 0, none⟩ = some (.int .i64 p)) :
    Calls Tryz.prog 152 #[.agg #[.int .i64 lo, .int .i64 hi], .pointer (some ⟨pb, 0, none⟩)] w (HasP w (lo ≤ p ∧ p ≤ hi)) := by
  have hk : Kp noB w (w.alloc (.cells #[.int .i64 lo, .int .i64 hi] 191)) := (Kp.refl _ _).alloc _
  have hp' := hk.cell hp (noB_not _)
  have h2 : ∀ i u, [(.int .i64 lo : Value), .int .i64 hi][i]? = some u → (w.alloc (.cells #[.int .i64 lo, .int .i64 hi] 191)).cell? ⟨w.heap.size, i, none⟩ = some u := by
    intro i u hu
    have hrow := heap_alloc_new w (.cells #[.int .i64 lo, .int .i64 hi] 191)
    unfold World.cell?
    simp only [hrow]
    rw [← hu, ← Array.getElem?_toList]
    rfl
  have g0 := h2 0 _ rfl
  have g1 := h2 1 _ rfl
  have HK := Lib.hid hk
  clear h2 hk
  by_cases h1 : lo ≤ p
  · have d1 : decide (lo ≤ p) = true := decide_eq_true h1
    by_cases h3 : p ≤ hi
    · have d2 : decide (p ≤ hi) = true := decide_eq_true h3
      have HY := Lib.hid (And.intro h1 h3)
      clear h1 h3
      go_enter Tryz.func152, Tryz.ntmps152
      go_wp2_with fail
      go_ret
      exact ⟨true, rfl, ⟨fun _ => HY.out, fun _ => rfl⟩, HK.out⟩
    · have d2 : decide (p ≤ hi) = false := decide_eq_false h3
      have HY : Hid (¬ (lo ≤ p ∧ p ≤ hi)) := Lib.hid fun h => h3 h.2
      clear h1 h3
      go_enter Tryz.func152, Tryz.ntmps152
      go_wp2_with fail
      go_ret
      exact ⟨false, rfl, ⟨fun h => (by cases h), fun h => absurd h HY.out⟩, HK.out⟩
  · have d1 : decide (lo ≤ p) = false := decide_eq_false h1
    have HY : Hid (¬ (lo ≤ p ∧ p ≤ hi)) := Lib.hid fun h => h1 h.1
    clear h1
    go_enter Tryz.func152, Tryz.ntmps152
    go_wp2_with fail
    go_ret
    exact ⟨false, rfl, ⟨fun h => (by cases h), fun h => absurd h HY.out⟩, HK.out⟩

set_option maxRecDepth 100000 in
set_option maxHeartbeats 1000000 in
theorem hasIdx {A : Option Addr} {cap : Nat} (l : List (Int × Int)) (p : Int) (pb : Nat) (w : World) (hp : w.cell? ⟨pb, 0, none⟩ = some (.int .i64 p)) (hc : RgAt w A l) (hl : l.length ≤ 16777217) :
    Calls Tryz.prog 204 #[.slice A l.length cap, .func (.func 152) #[] #[.pointer (some ⟨pb, 0, none⟩)]] w fun e w' => ∃ i : Int, e = .returned (.int .i64 i) ∧ (0 ≤ i ↔ inR l p) ∧ Kp noB w w' := by
  have HC := Lib.hid hc
  obtain ⟨n, hn⟩ : ∃ n, l.length = n := ⟨_, rfl⟩
  rw [hn] at hl ⊢
  have HN := Lib.hid hn
  clear hc hn
  go_enter Tryz.func204, Tryz.ntmps204
  go_wp2_with fail
  go_loopw [8] (fun c wr => ∃ k : Nat, k ≤ n ∧ c = .int .i64 k ∧ Hid (∀ i r, i < k → l[i]? = some r → ¬ (r.1 ≤ p ∧ p ≤ r.2)) ∧ Hid (Kp noB w wr)) (fun c _ => n - (intOf c).toNat)
  case atStart => exact ⟨0, Nat.zero_le _, rfl, Lib.hid fun i r h => by omega, Lib.hid (Kp.refl _ _)⟩
  case round =>
    obtain ⟨k, hk, rfl, HNO, HKP⟩ := hrel
    rcases Nat.lt_or_ge k n with hlt | hge
    · obtain ⟨q, hq⟩ : ∃ r, l[k]? = some r := ⟨l[k]'(by rw [HN.out]; exact hlt), by simp⟩
      obtain ⟨g, off, rfl, hc0, hc1⟩ := HC.out k q hq
      have hb1 : decide ((k : Int) < (n : Int)) = true := decide_eq_true (by omega)
      have hd0 := HKP.out.cell hc0 (noB_not _)
      have hd1 := HKP.out.cell hc1 (noB_not _)
      have HCL := Lib.hid (hasClo q.1 q.2 p pb _ (HKP.out.cell hp (noB_not _)))
      have HQ := Lib.hid hq
      clear hq
      go_wp2_with (go_at_call 152; refine HCL.out.mono ?_; rintro e w2 ⟨bl, rfl, hbl, hk2⟩)
      · have hbt : bl = true := by assumption
        subst hbt
        go_ret
        exact ⟨k, rfl, ⟨fun _ => ⟨q, List.mem_of_getElem? HQ.out, hbl.1 rfl⟩, fun _ => by omega⟩, HKP.out.trans hk2⟩
      · have hbf : bl = false := by assumption
        subst hbf
        have HN2 : Hid (∀ i r, i < k + 1 → l[i]? = some r → ¬ (r.1 ≤ p ∧ p ≤ r.2)) := Lib.hid fun i r hi hr h => by
          rcases Nat.lt_or_ge i k with h9 | h9
          · exact HNO.out i r h9 hr h
          · obtain rfl : i = k := by omega
            rw [HQ.out] at hr
            cases hr
            exact absurd (hbl.2 h) (by simp)
        have HK2 := Lib.hid (HKP.out.trans hk2)
        clear hbl hk2
        go_roundw
        case rel => exact ⟨k + 1, by omega, by simp, HN2, HK2⟩
        case measure => simp only [intOf]; omega
    · have hb1 : decide ((k : Int) < (n : Int)) = false := decide_eq_false (by omega)
      go_wp2_with fail
      go_ret
      refine ⟨-1, rfl, ⟨fun h => by omega, fun h => ?_⟩, HKP.out⟩
      obtain ⟨q, hq, h1⟩ := h
      obtain ⟨i, hi⟩ := List.getElem?_of_mem hq
      exact absurd h1 (HNO.out i q (by have := (List.getElem?_eq_some_iff.1 hi).1; rw [HN.out] at this; omega) hi)

set_option maxRecDepth 100000 in
theorem hasCon {A : Option Addr} {cap : Nat} (l : List (Int × Int)) (p : Int) (pb : Nat) (w : World) (hp : w.cell? ⟨pb, 0, none⟩ = some (.int .i64 p)) (hc : RgAt w A l) (hl : l.length ≤ 16777217) :
    Calls Tryz.prog 151 #[.slice A l.length cap, .func (.func 152) #[] #[.pointer (some ⟨pb, 0, none⟩)]] w (HasP w (inR l p)) := by
  have H := Lib.hid (hasIdx (cap := cap) l p pb w hp hc hl)
  clear hp hc hl
  go_enter Tryz.func151, Tryz.ntmps151
  go_wp2_with (go_at_call 204; refine H.out.mono ?_; rintro e w2 ⟨i, rfl, hi, hk2⟩)
  go_ret
  exact ⟨decide (0 ≤ i), by first | rfl | simp, by simp [hi], hk2⟩

set_option maxRecDepth 100000 in
theorem has95_any {v : Value} {l : List (Int × Int)} {ok : Nat → Prop} (p : Int) (w : World) (hr : Rngs w ok v l) (hl : l.length ≤ 16777217) :
    Calls Tryz.prog 95 #[v, .int .i64 p] w (HasP w (isP p ∧ inR l p)) := by
  obtain ⟨A, cap, rfl, _⟩ := rngs_open hr
  have hk : Kp noB w (w.alloc (.cells #[.int .i64 p] 3)) := (Kp.refl _ _).alloc _
  have hrow := heap_alloc_new w (.cells #[.int .i64 p] 3)
  have hp : (w.alloc (.cells #[.int .i64 p] 3)).cell? ⟨w.heap.size, 0, none⟩ = some (.int .i64 p) := by
    unfold World.cell?
    simp only [hrow]
    rfl
  have H := Lib.hid (hasCon (cap := cap) l p w.heap.size _ hp (rgAt_of (hr.kp hk fun _ _ _ => noB_not _)) hl)
  have HK := Lib.hid hk
  clear hr hl hk hrow
  by_cases h0 : p < 0
  · have d0 : decide (p < 0) = true := decide_eq_true h0
    have HN : Hid (¬ (isP p ∧ inR l p)) := Lib.hid fun h => by have := h.1.1; omega
    go_enter Tryz.func95, Tryz.ntmps95
    go_wp2_with fail
    go_ret
    exact ⟨false, rfl, ⟨fun h => (by cases h), fun h => absurd h HN.out⟩, HK.out⟩
  · have d0 : decide (p < 0) = false := decide_eq_false h0
    by_cases h1 : 1114111 < p
    · have d1 : decide (p > 1114111) = true := decide_eq_true h1
      have d1' : decide (1114111 < p) = true := decide_eq_true h1
      have HN : Hid (¬ (isP p ∧ inR l p)) := Lib.hid fun h => by have := h.1.2; omega
      go_enter Tryz.func95, Tryz.ntmps95
      go_wp2_with fail
      go_ret
      exact ⟨false, rfl, ⟨fun h => (by cases h), fun h => absurd h HN.out⟩, HK.out⟩
    · have d1 : decide (p > 1114111) = false := decide_eq_false h1
      have d1' : decide (1114111 < p) = false := decide_eq_false h1
      have HP : Hid (isP p) := Lib.hid ⟨by omega, by omega⟩
      go_enter Tryz.func95, Tryz.ntmps95
      go_wp2_with (go_at_call 151; refine H.out.mono ?_; rintro e w2 ⟨bl, rfl, hbl, hk2⟩)
      go_ret
      exact ⟨bl, rfl, ⟨fun h => ⟨HP.out, hbl.1 h⟩, fun h => hbl.2 h.2⟩, HK.out.trans hk2⟩

end Go.Proofs.YtoijabgcgdgacaaGreatDoor

namespace Go.Proofs.YtoijabgcgdgacaaGreatDoor
open Go.RowKit Go.Proofs.Gram Go.Lib

/-- What a search through the kids tells. -/
def IdxP (w0 w : World) (r : Nat) (L : List Int) (B : Nat) (M : List (Ky × Int)) (p : Prop) (e : Ending) (w' : World) : Prop :=
  ∃ (i : Int) (M' : List (Ky × Int)), e = .returned (.int .i64 i) ∧ (0 ≤ i ↔ p) ∧ MI w0 w' r M' ∧ Ext w0 r L B M M' ∧ Kp (onB r) w w'
/-- The kids, as they lie, and what is told of each. -/
def KidF (G : Nat) (w0 w : World) (r : Nat) (L : List Int) (B : Nat) (M : List (Ky × Int)) (A : Option Addr) (kids : List Rx) (x1 x2 x3 : Nat) (Q : Rx → Prop) : Prop :=
  ∀ i x, kids[i]? = some x → ∃ g off c, A = some ⟨g, off, none⟩ ∧ g ≠ r ∧ w.cell? ⟨g, off + i, none⟩ = some (.pointer (some ⟨c, 0, none⟩)) ∧
    ∀ w1 M1, Kp (onB r) w w1 → MI w0 w1 r M1 → Ext w0 r L B M M1 → Calls Tryz.prog G #[.pointer (some ⟨c, 0, none⟩), .pointer (some ⟨x1, 0, none⟩), .pointer (some ⟨x2, 0, none⟩), .pointer (some ⟨x3, 0, none⟩)] w1 (MP w0 w1 r L B M1 (Q x))

section
variable {w0 w : World} {r mb N cap cap2 B x1 x2 x3 : Nat} {A KA : Option Addr} {L : List Int} {M : List (Ky × Int)} {kids : List Rx} {Q : Rx → Prop}

set_option maxRecDepth 100000 in
set_option maxHeartbeats 1000000 in
theorem kidsIdx97 (hI : MI w0 w r M) (hk : KidF 97 w0 w r L B M KA kids x1 x2 x3 Q) (hl : kids.length ≤ 9223372036854775807) :
    Calls Tryz.prog 153 #[.slice KA kids.length cap2, .func (.func 97) #[] #[.pointer (some ⟨x1, 0, none⟩), .pointer (some ⟨x2, 0, none⟩), .pointer (some ⟨x3, 0, none⟩)]] w (IdxP w0 w r L B M (∃ x ∈ kids, Q x)) := by
  have HC := Lib.hid hk
  have HI := Lib.hid hI
  obtain ⟨n, hn⟩ : ∃ n, kids.length = n := ⟨_, rfl⟩
  rw [hn] at hl ⊢
  have HN := Lib.hid hn
  clear hk hn hI
  go_enter Tryz.func153, Tryz.ntmps153
  go_wp2_with fail
  go_loopw [8] (fun c wr => ∃ (k : Nat) (M1 : List (Ky × Int)), k ≤ n ∧ c = .int .i64 k ∧ Hid (∀ i x, i < k → kids[i]? = some x → ¬ Q x) ∧ Hid (MI w0 wr r M1 ∧ Ext w0 r L B M M1 ∧ Kp (onB r) w wr)) (fun c _ => n - (intOf c).toNat)
  case atStart => exact ⟨0, M, Nat.zero_le _, rfl, Lib.hid fun i x h => by omega, Lib.hid ⟨HI.out, Ext.refl, Kp.refl _ _⟩⟩
  case round =>
    obtain ⟨k, M1, hk, rfl, HNO, HMK⟩ := hrel
    rcases Nat.lt_or_ge k n with hlt | hge
    · obtain ⟨x, hx⟩ : ∃ r, kids[k]? = some r := ⟨kids[k]'(by rw [HN.out]; exact hlt), by simp⟩
      obtain ⟨g, off, c, rfl, hgr, hcu, hcall⟩ := HC.out k x hx
      have hb1 : decide ((k : Int) < (n : Int)) = true := decide_eq_true (by omega)
      have hcu' := HMK.out.2.2.cell hcu (onB_not hgr)
      have HCL := Lib.hid (hcall _ _ HMK.out.2.2 HMK.out.1 HMK.out.2.1)
      have HX := Lib.hid hx
      clear hx hcall
      go_wp2_with (go_at_call 97; refine HCL.out.mono ?_; rintro e w2 ⟨bl, M2, rfl, hbl, hI2, hE2, hk2⟩)
      · have hbt : bl = true := by assumption
        subst hbt
        go_ret
        exact ⟨k, M2, rfl, ⟨fun _ => ⟨x, List.mem_of_getElem? HX.out, hbl.1 rfl⟩, fun _ => by omega⟩, hI2, HMK.out.2.1.trans hE2, HMK.out.2.2.trans hk2⟩
      · have hbf : bl = false := by assumption
        subst hbf
        have HN2 : Hid (∀ i x, i < k + 1 → kids[i]? = some x → ¬ Q x) := Lib.hid fun i x' hi hr h => by
          rcases Nat.lt_or_ge i k with h9 | h9
          · exact HNO.out i x' h9 hr h
          · obtain rfl : i = k := by omega
            rw [HX.out] at hr
            cases hr
            exact absurd (hbl.2 h) (by simp)
        have HMK2 := Lib.hid (And.intro hI2 (And.intro (HMK.out.2.1.trans hE2) (HMK.out.2.2.trans hk2)))
        clear hbl hI2 hE2 hk2
        go_roundw
        case rel => exact ⟨k + 1, M2, by omega, by simp, HN2, HMK2⟩
        case measure => simp only [intOf]; omega
    · have hb1 : decide ((k : Int) < (n : Int)) = false := decide_eq_false (by omega)
      go_wp2_with fail
      go_ret
      refine ⟨-1, M1, rfl, ⟨fun h => by omega, fun h => ?_⟩, HMK.out⟩
      obtain ⟨x, hx, h1⟩ := h
      obtain ⟨i, hi⟩ := List.getElem?_of_mem hx
      exact absurd h1 (HNO.out i x (by have := (List.getElem?_eq_some_iff.1 hi).1; rw [HN.out] at this; omega) hi)

set_option maxRecDepth 100000 in
theorem kidsCon97 (hI : MI w0 w r M) (hk : KidF 97 w0 w r L B M KA kids x1 x2 x3 Q) (hl : kids.length ≤ 9223372036854775807) :
    Calls Tryz.prog 96 #[.slice KA kids.length cap2, .func (.func 97) #[] #[.pointer (some ⟨x1, 0, none⟩), .pointer (some ⟨x2, 0, none⟩), .pointer (some ⟨x3, 0, none⟩)]] w (MP w0 w r L B M (∃ x ∈ kids, Q x)) := by
  have H := Lib.hid (kidsIdx97 (cap2 := cap2) hI hk hl)
  clear hI hk hl
  go_enter Tryz.func96, Tryz.ntmps96
  go_wp2_with (go_at_call 153; refine H.out.mono ?_; rintro e w2 ⟨i, M2, rfl, hi, hI2, hE2, hk2⟩)
  go_ret
  exact ⟨decide (0 ≤ i), M2, by first | rfl | simp, by simp [hi], hI2, hE2, hk2⟩

set_option maxRecDepth 100000 in
theorem clo97 {c f u : Nat} {p : Prop} (h1 : w.cell? ⟨x1, 0, none⟩ = some (.pointer (some ⟨mb, 0, none⟩))) (h2 : w.cell? ⟨x2, 0, none⟩ = some (.int .i64 f)) (h3 : w.cell? ⟨x3, 0, none⟩ = some (.int .i64 u))
    (H : Hid (Calls Tryz.prog 48 #[.pointer (some ⟨mb, 0, none⟩), .pointer (some ⟨c, 0, none⟩), .int .i64 f, .int .i64 u] w (MP w0 w r L B M p))) :
    Calls Tryz.prog 97 #[.pointer (some ⟨c, 0, none⟩), .pointer (some ⟨x1, 0, none⟩), .pointer (some ⟨x2, 0, none⟩), .pointer (some ⟨x3, 0, none⟩)] w (MP w0 w r L B M p) := by
  go_enter Tryz.func97, Tryz.ntmps97
  go_wp2_with (go_at_call 48; refine H.out.mono ?_; rintro e w2 ⟨bl, M2, rfl, hbl, hI2, hE2, hk2⟩)
  go_ret
  exact ⟨bl, M2, rfl, hbl, hI2, hE2, hk2⟩

set_option maxRecDepth 100000 in
set_option maxHeartbeats 1000000 in
theorem kidsIdx98 (hI : MI w0 w r M) (hk : KidF 98 w0 w r L B M KA kids x1 x2 x3 Q) (hl : kids.length ≤ 9223372036854775807) :
    Calls Tryz.prog 153 #[.slice KA kids.length cap2, .func (.func 98) #[] #[.pointer (some ⟨x1, 0, none⟩), .pointer (some ⟨x2, 0, none⟩), .pointer (some ⟨x3, 0, none⟩)]] w (IdxP w0 w r L B M (∃ x ∈ kids, Q x)) := by
  have HC := Lib.hid hk
  have HI := Lib.hid hI
  obtain ⟨n, hn⟩ : ∃ n, kids.length = n := ⟨_, rfl⟩
  rw [hn] at hl ⊢
  have HN := Lib.hid hn
  clear hk hn hI
  go_enter Tryz.func153, Tryz.ntmps153
  go_wp2_with fail
  go_loopw [8] (fun c wr => ∃ (k : Nat) (M1 : List (Ky × Int)), k ≤ n ∧ c = .int .i64 k ∧ Hid (∀ i x, i < k → kids[i]? = some x → ¬ Q x) ∧ Hid (MI w0 wr r M1 ∧ Ext w0 r L B M M1 ∧ Kp (onB r) w wr)) (fun c _ => n - (intOf c).toNat)
  case atStart => exact ⟨0, M, Nat.zero_le _, rfl, Lib.hid fun i x h => by omega, Lib.hid ⟨HI.out, Ext.refl, Kp.refl _ _⟩⟩
  case round =>
    obtain ⟨k, M1, hk, rfl, HNO, HMK⟩ := hrel
    rcases Nat.lt_or_ge k n with hlt | hge
    · obtain ⟨x, hx⟩ : ∃ r, kids[k]? = some r := ⟨kids[k]'(by rw [HN.out]; exact hlt), by simp⟩
      obtain ⟨g, off, c, rfl, hgr, hcu, hcall⟩ := HC.out k x hx
      have hb1 : decide ((k : Int) < (n : Int)) = true := decide_eq_true (by omega)
      have hcu' := HMK.out.2.2.cell hcu (onB_not hgr)
      have HCL := Lib.hid (hcall _ _ HMK.out.2.2 HMK.out.1 HMK.out.2.1)
      have HX := Lib.hid hx
      clear hx hcall
      go_wp2_with (go_at_call 98; refine HCL.out.mono ?_; rintro e w2 ⟨bl, M2, rfl, hbl, hI2, hE2, hk2⟩)
      · have hbt : bl = true := by assumption
        subst hbt
        go_ret
        exact ⟨k, M2, rfl, ⟨fun _ => ⟨x, List.mem_of_getElem? HX.out, hbl.1 rfl⟩, fun _ => by omega⟩, hI2, HMK.out.2.1.trans hE2, HMK.out.2.2.trans hk2⟩
      · have hbf : bl = false := by assumption
        subst hbf
        have HN2 : Hid (∀ i x, i < k + 1 → kids[i]? = some x → ¬ Q x) := Lib.hid fun i x' hi hr h => by
          rcases Nat.lt_or_ge i k with h9 | h9
          · exact HNO.out i x' h9 hr h
          · obtain rfl : i = k := by omega
            rw [HX.out] at hr
            cases hr
            exact absurd (hbl.2 h) (by simp)
        have HMK2 := Lib.hid (And.intro hI2 (And.intro (HMK.out.2.1.trans hE2) (HMK.out.2.2.trans hk2)))
        clear hbl hI2 hE2 hk2
        go_roundw
        case rel => exact ⟨k + 1, M2, by omega, by simp, HN2, HMK2⟩
        case measure => simp only [intOf]; omega
    · have hb1 : decide ((k : Int) < (n : Int)) = false := decide_eq_false (by omega)
      go_wp2_with fail
      go_ret
      refine ⟨-1, M1, rfl, ⟨fun h => by omega, fun h => ?_⟩, HMK.out⟩
      obtain ⟨x, hx, h1⟩ := h
      obtain ⟨i, hi⟩ := List.getElem?_of_mem hx
      exact absurd h1 (HNO.out i x (by have := (List.getElem?_eq_some_iff.1 hi).1; rw [HN.out] at this; omega) hi)

set_option maxRecDepth 100000 in
theorem kidsCon98 (hI : MI w0 w r M) (hk : KidF 98 w0 w r L B M KA kids x1 x2 x3 Q) (hl : kids.length ≤ 9223372036854775807) :
    Calls Tryz.prog 96 #[.slice KA kids.length cap2, .func (.func 98) #[] #[.pointer (some ⟨x1, 0, none⟩), .pointer (some ⟨x2, 0, none⟩), .pointer (some ⟨x3, 0, none⟩)]] w (MP w0 w r L B M (∃ x ∈ kids, Q x)) := by
  have H := Lib.hid (kidsIdx98 (cap2 := cap2) hI hk hl)
  clear hI hk hl
  go_enter Tryz.func96, Tryz.ntmps96
  go_wp2_with (go_at_call 153; refine H.out.mono ?_; rintro e w2 ⟨i, M2, rfl, hi, hI2, hE2, hk2⟩)
  go_ret
  exact ⟨decide (0 ≤ i), M2, by first | rfl | simp, by simp [hi], hI2, hE2, hk2⟩

set_option maxRecDepth 100000 in
theorem clo98 {c f u : Nat} {p : Prop} (h1 : w.cell? ⟨x1, 0, none⟩ = some (.pointer (some ⟨mb, 0, none⟩))) (h2 : w.cell? ⟨x2, 0, none⟩ = some (.int .i64 f)) (h3 : w.cell? ⟨x3, 0, none⟩ = some (.int .i64 u))
    (H : Hid (Calls Tryz.prog 48 #[.pointer (some ⟨mb, 0, none⟩), .pointer (some ⟨c, 0, none⟩), .int .i64 f, .int .i64 u] w (MP w0 w r L B M p))) :
    Calls Tryz.prog 98 #[.pointer (some ⟨c, 0, none⟩), .pointer (some ⟨x1, 0, none⟩), .pointer (some ⟨x2, 0, none⟩), .pointer (some ⟨x3, 0, none⟩)] w (MP w0 w r L B M (¬ p)) := by
  go_enter Tryz.func98, Tryz.ntmps98
  go_wp2_with (go_at_call 48; refine H.out.mono ?_; rintro e w2 ⟨bl, M2, rfl, hbl, hI2, hE2, hk2⟩)
  go_ret
  exact ⟨!bl, M2, rfl, by rw [← hbl]; cases bl <;> simp, hI2, hE2, hk2⟩
end
end Go.Proofs.YtoijabgcgdgacaaGreatDoor

namespace Go.Proofs.YtoijabgcgdgacaaGreatDoor
open Go.RowKit Go.Proofs.Gram Go.Lib

/-- The world with the three boxes of a call. -/
def ofW (w : World) (mb f u : Nat) : World := ((w.alloc (.cells #[.pointer (some ⟨mb, 0, none⟩)] 102)).alloc (.cells #[.int .i64 f] 3)).alloc (.cells #[.int .i64 u] 3)
theorem one_new (w : World) (v : Value) (t : TypeId) : (w.alloc (.cells #[v] t)).cell? ⟨w.heap.size, 0, none⟩ = some v := by
  unfold World.cell?
  simp only [heap_alloc_new w (.cells #[v] t)]
  rfl
theorem ofW_kp (w : World) (mb f u : Nat) : Kp noB w (ofW w mb f u) := (((Kp.refl _ _).alloc _).alloc _).alloc _
theorem ofW_cells (w : World) (mb f u : Nat) : (ofW w mb f u).cell? ⟨w.heap.size, 0, none⟩ = some (.pointer (some ⟨mb, 0, none⟩)) ∧ (ofW w mb f u).cell? ⟨w.heap.size + 1, 0, none⟩ = some (.int .i64 f) ∧ (ofW w mb f u).cell? ⟨w.heap.size + 2, 0, none⟩ = some (.int .i64 u) := by
  have h1 := one_new w (.pointer (some ⟨mb, 0, none⟩)) 102
  have h2 := one_new (w.alloc (.cells #[.pointer (some ⟨mb, 0, none⟩)] 102)) (.int .i64 f) 3
  have h3 := one_new ((w.alloc (.cells #[.pointer (some ⟨mb, 0, none⟩)] 102)).alloc (.cells #[.int .i64 f] 3)) (.int .i64 u) 3
  have s1 : (w.alloc (.cells #[.pointer (some ⟨mb, 0, none⟩)] 102)).heap.size = w.heap.size + 1 := by simp
  have s2 : ((w.alloc (.cells #[.pointer (some ⟨mb, 0, none⟩)] 102)).alloc (.cells #[.int .i64 f] 3)).heap.size = w.heap.size + 2 := by simp
  rw [s1] at h2
  rw [s2] at h3
  exact ⟨(((Kp.refl noB _).alloc _).alloc _).cell h1 (noB_not _), ((Kp.refl noB _).alloc _).cell h2 (noB_not _), h3⟩

theorem lg_kids3 {s : List (Int × Int)} {mn mx : Int} {l : List Rx} {w : List Int} : (∃ x ∈ l, Lg x w) ↔ Lg (.mk 3 s mn mx l) w := (lg_or s mn mx l w).symm
theorem lg_kids4 {s : List (Int × Int)} {mn mx : Int} {l : List Rx} {w : List Int} : ¬ (∃ x ∈ l, ¬ Lg x w) ↔ Lg (.mk 4 s mn mx l) w := by
  rw [lg_and]
  exact ⟨fun h x hx => Classical.byContradiction fun hn => h ⟨x, hx, hn⟩, fun h ⟨x, hx, hn⟩ => hn (h x hx)⟩

section
variable {w0 : World} {r mb N cap : Nat} {A : Option Addr} {L : List Int}

set_option maxRecDepth 100000 in
set_option maxHeartbeats 4000000 in
theorem of_any (hW : MW w0 r mb A N cap L) (pts_in : ∀ x ∈ L, isP x) : ∀ (m : Nat) (t : Rx) (d : Nat), SizeOf.sizeOf t ≤ m → Shp d t → Small t → OfC w0 r mb L t := by
  intro m
  induction m with
  | zero => intro t d h; cases t <;> simp at h
  | succ m ih =>
    intro t d hsz hs hsm b f u w M ht hfu huL hI hg
    cases t with
    | nil => exact absurd hs (by simp [Shp])
    | mk kind set mn mx kids =>
      have hshp : ∀ x ∈ kids, Shp (d + 1) x := fun x hx => by
        obtain ⟨i, hi⟩ := List.getElem?_of_mem hx
        exact shpL_iff.1 hs.2.2.2.2.2 i x hi
      have hnn : ∀ x ∈ kids, x ≠ .nil := fun x hx e => by have := hshp x hx; rw [e] at this; exact absurd this (by simp [Shp])
      have hsmk : ∀ x ∈ kids, Small x := fun x hx => by
        obtain ⟨i, hi⟩ := List.getElem?_of_mem hx
        exact smallL_at hsm.2 hi
      have hk : (kind = 1 ∧ kids.length = 0) ∨ (kind = 2 ∧ kids.length ≠ 1) ∨ ((kind = 3 ∨ kind = 4) ∧ 1 < kids.length) ∨ ((kind = 5 ∨ kind = 6) ∧ kids.length = 1) := hs.2.1
      have htm := hs.2.2.2.2.1
      obtain ⟨KA, cap2, b0', b2', b3', b4', hbr, hkl, hkids⟩ := ht.kids hnn
      have hrs : ∃ sv, w0.cell? ⟨b, 1, none⟩ = some sv ∧ Rngs w0 (fun k => k ≠ r) sv set := by
        obtain ⟨b', sv, kv, ps, e, hb, hok, hrs, _⟩ := IsRe.inv ht
        simp only [Value.pointer.injEq, Option.some.injEq, Addr.mk.injEq, and_true] at e
        subst e
        exact ⟨sv, by simp [World.cell?, hb], hrs⟩
      have hrlt := hW.lt
      have hwsz := hI.kp.size
      have hn0 : w.heap.size ≠ r := by omega
      have hn1 : w.heap.size + 1 ≠ r := by omega
      have hn2 : w.heap.size + 2 ≠ r := by omega
      obtain ⟨c0, c1, c2⟩ := ofW_cells w mb f u
      have hIb := hI.keep (ofW_kp w mb f u)
      have HKB : Hid (Kp (onB r) w (ofW w mb f u)) := Lib.hid (ofW_kp w mb f u).any
      have b0 := hIb.kp.cell b0' (onB_not hbr)
      have b4 := hIb.kp.cell b4' (onB_not hbr)
      have hu40 : u ≤ 40 := by have := hW.len; have := hW.small; omega
      have hlt : ∀ x ∈ kids, SizeOf.sizeOf x < SizeOf.sizeOf (Rx.mk kind set mn mx kids) := fun x hx => by
        have := List.sizeOf_lt_of_mem hx
        simp only [Rx.mk.sizeOf_spec]
        omega
      have hof : ∀ x ∈ kids, OfC w0 r mb L x := fun x hx => ih x (d + 1) (by have := hlt x hx; omega) (hshp x hx) (hsmk x hx)
      have HB : Hid (MI w0 (ofW w mb f u) r M) := Lib.hid hIb
      generalize hBB : base (SizeOf.sizeOf (Rx.mk kind set mn mx kids) + 1) = BT at *
      have hofx : ∀ i x, kids[i]? = some x → ∃ g off c, KA = some ⟨g, off, none⟩ ∧ g ≠ r ∧ (ofW w mb f u).cell? ⟨g, off + i, none⟩ = some (.pointer (some ⟨c, 0, none⟩)) ∧
          ∀ w1 M1, MI w0 w1 r M1 → Ext w0 r L BT M M1 → Calls Tryz.prog 48 #[.pointer (some ⟨mb, 0, none⟩), .pointer (some ⟨c, 0, none⟩), .int .i64 f, .int .i64 u] w1 (MP w0 w1 r L BT M1 (Lg x (seg L f u))) := fun i x hx => by
        obtain ⟨g, off, c, hA, hgr, hc, hnt⟩ := hkids i x hx
        have hm := List.mem_of_getElem? hx
        have hBk : base (SizeOf.sizeOf x + 1) ≤ BT := by rw [← hBB]; exact base_le (by have := hlt x hm; omega)
        exact ⟨g, off, c, hA, hgr, hIb.kp.cell hc (onB_not hgr), fun w1 M1 h1 h2 => (hof x hm c f u w1 M1 hnt hfu huL h1 ((hg.ext h2).mono hBk)).mono fun e w' h => h.mono hBk Iff.rfl⟩
      rcases hk with ⟨rfl, h0⟩ | ⟨rfl, h0⟩ | ⟨rfl | rfl, h0⟩ | ⟨rfl | rfl, h0⟩
      · -- a set
        obtain ⟨sv, hsv, hrng⟩ := hrs
        have b1 := hIb.kp.cell hsv (onB_not hbr)
        have hrw := hrng.kp hIb.kp fun k _ h => onB_not h
        obtain ⟨SA, scap, rfl, _⟩ := rngs_open hrng
        obtain ⟨SN, hSN⟩ : ∃ SN, set.length = SN := ⟨_, rfl⟩
        rw [hSN] at b1 hrw
        have m0 := (two_cells (hIb.kp.heap hW.node (onB_not hW.ne))).1
        have hmr := hW.ne
        by_cases huf : u = f + 1
        · obtain ⟨x, hx⟩ : ∃ x, L[f]? = some x := ⟨L[f]'(by omega), by simp⟩
          obtain ⟨g, off, rfl, hpt, hgr⟩ := hW.pts f x hx
          have pt := hIb.kp.cell hpt (onB_not hgr)
          have hAN : Hid (isP x ∧ inR set x ↔ Lg (.mk 1 set mn mx kids) (seg L f u)) := Lib.hid (by
            have hxi := pts_in x (List.mem_of_getElem? hx)
            rw [of_set L hfu huL]
            obtain ⟨hl, he⟩ := List.getElem?_eq_some_iff.1 hx
            exact ⟨fun h => ⟨huf, hl, by rw [he]; exact h.2⟩, fun ⟨_, _, h⟩ => ⟨hxi, by rw [he] at h; exact h⟩⟩)
          have HHAS := Lib.hid (has95_any (v := .slice SA SN scap) (ok := fun k => k ≠ r) (l := set) x (ofW w mb f u).drew (by unfold Rngs; rw [hSN]; exact hrw.kp (Kp.refl noB _).drew fun _ _ _ => noB_not _) (by have := hsm.1; omega))
          have hf0 : (0 : Int) ≤ (f : Int) := by omega
          have hf1 : (f : Int) < (N : Int) := by have := hW.len; omega
          have d1 : ((u : Int) == ((f : Int) + 1)) = true := beq_iff_eq.2 (by omega)
          have hwrap : IntKind.i64.wrap ((f : Int) + 1) = (f : Int) + 1 := IntWalk.i64_in _ (by omega)
          have HK3 : Hid (Kp noB w (ofW w mb f u)) := Lib.hid (ofW_kp w mb f u)
          clear hkids hofx hof hlt ih hsz hs hsm ht hfu huL hI hg hshp hnn hsmk htm hrlt hwsz hIb hBB huf hu40 hsv hrng hrw hSN hx hpt b0' b2' b3' b4' h0 hW
          unfold ofW at *
          go_enter Tryz.func48, Tryz.ntmps48
          generalize hWF : ((w.alloc (.cells #[.pointer (some ⟨mb, 0, none⟩)] 102)).alloc (.cells #[.int .i64 f] 3)).alloc (.cells #[.int .i64 u] 3) = wf at *
          have HWF := Lib.hid hWF
          clear hWF
          go_upto_region 1 with (fail)
          rw [HWF.out]
          go_upto_region 3 with (fail)
          refine wp_region_held_drew (S := fun w' => Kp (onB r) wf w') (by kernel_rfl) (Kp.refl _ _).drew (fun hHeld => ?_)
          refine takeD (i := 0) (d := 15) (v := (.int .i64 u)) rfl (by kernel_rfl) (by kernel_rfl) (by kernel_rfl) (by kernel_rfl) (fun _ _ _ h => h) (Or.inl ⟨by kernel_rfl, fun w' hS => by have g0 := hS.cell c2 (onB_not hn2); go_simp⟩) (by assumption) ?_
          simp only [List.setIfInBounds_toArray, List.set_cons_zero, List.set_cons_succ]
          refine takeD (i := 1) (d := 16) (v := (.int .i64 f)) rfl (by kernel_rfl) (by kernel_rfl) (by kernel_rfl) (by kernel_rfl) (fun _ _ _ h => h) (Or.inl ⟨by kernel_rfl, fun w' hS => by have g0 := hS.cell c1 (onB_not hn1); go_simp⟩) (by assumption) ?_
          simp only [List.setIfInBounds_toArray, List.set_cons_zero, List.set_cons_succ]
          refine takeD (i := 2) (d := 17) (v := (.int .i64 ((f : Int) + 1))) rfl (by kernel_rfl) (by kernel_rfl) (by kernel_rfl) (by kernel_rfl) (fun _ _ _ h => h) (Or.inl ⟨by kernel_rfl, fun w' hS => by go_simp⟩) (by assumption) ?_
          simp only [List.setIfInBounds_toArray, List.set_cons_zero, List.set_cons_succ]
          refine takeD (i := 3) (d := 18) (v := (.bool true)) rfl (by kernel_rfl) (by kernel_rfl) (by kernel_rfl) (by kernel_rfl) (fun _ _ _ h => h) (Or.inl ⟨by kernel_rfl, fun w' hS => by go_simp⟩) (by assumption) ?_
          simp only [List.setIfInBounds_toArray, List.set_cons_zero, List.set_cons_succ]
          refine takeD (i := 4) (d := 19) (v := (.bool true)) rfl (by kernel_rfl) (by kernel_rfl) (by kernel_rfl) (by kernel_rfl) (fun _ _ _ h => h) (Or.inl ⟨by kernel_rfl, fun w' hS => by go_simp⟩) (by assumption) ?_
          simp only [List.setIfInBounds_toArray, List.set_cons_zero, List.set_cons_succ]
          refine takeD (i := 5) (d := 20) (v := (.pointer (some ⟨b, 0, none⟩))) rfl (by kernel_rfl) (by kernel_rfl) (by kernel_rfl) (by kernel_rfl) (fun _ _ _ h => h) (Or.inl ⟨by kernel_rfl, fun w' hS => by go_simp⟩) (by assumption) ?_
          simp only [List.setIfInBounds_toArray, List.set_cons_zero, List.set_cons_succ]
          refine takeD (i := 6) (d := 21) (v := (.pointer (some ⟨b, 0, none⟩))) rfl (by kernel_rfl) (by kernel_rfl) (by kernel_rfl) (by kernel_rfl) (fun _ _ _ h => h) (Or.inl ⟨by kernel_rfl, fun w' hS => by go_simp⟩) (by assumption) ?_
          simp only [List.setIfInBounds_toArray, List.set_cons_zero, List.set_cons_succ]
          refine takeD (i := 7) (d := 22) (v := (.pointer (some ⟨b, 1, none⟩))) rfl (by kernel_rfl) (by kernel_rfl) (by kernel_rfl) (by kernel_rfl) (fun _ _ _ h => h) (Or.inl ⟨by kernel_rfl, fun w' hS => by go_simp⟩) (by assumption) ?_
          simp only [List.setIfInBounds_toArray, List.set_cons_zero, List.set_cons_succ]
          refine takeD (i := 8) (d := 23) (v := (.slice SA SN scap)) rfl (by kernel_rfl) (by kernel_rfl) (by kernel_rfl) (by kernel_rfl) (fun _ _ _ h => h) (Or.inl ⟨by kernel_rfl, fun w' hS => by have g0 := hS.cell b1 (onB_not hbr); go_simp⟩) (by assumption) ?_
          simp only [List.setIfInBounds_toArray, List.set_cons_zero, List.set_cons_succ]
          refine takeD (i := 9) (d := 24) (v := (.pointer (some ⟨mb, 0, none⟩))) rfl (by kernel_rfl) (by kernel_rfl) (by kernel_rfl) (by kernel_rfl) (fun _ _ _ h => h) (Or.inl ⟨by kernel_rfl, fun w' hS => by have g0 := hS.cell c0 (onB_not hn0); go_simp⟩) (by assumption) ?_
          simp only [List.setIfInBounds_toArray, List.set_cons_zero, List.set_cons_succ]
          refine takeD (i := 10) (d := 25) (v := (.pointer (some ⟨mb, 0, none⟩))) rfl (by kernel_rfl) (by kernel_rfl) (by kernel_rfl) (by kernel_rfl) (fun _ _ _ h => h) (Or.inl ⟨by kernel_rfl, fun w' hS => by go_simp⟩) (by assumption) ?_
          simp only [List.setIfInBounds_toArray, List.set_cons_zero, List.set_cons_succ]
          refine takeD (i := 11) (d := 26) (v := (.pointer (some ⟨mb, 0, none⟩))) rfl (by kernel_rfl) (by kernel_rfl) (by kernel_rfl) (by kernel_rfl) (fun _ _ _ h => h) (Or.inl ⟨by kernel_rfl, fun w' hS => by go_simp⟩) (by assumption) ?_
          simp only [List.setIfInBounds_toArray, List.set_cons_zero, List.set_cons_succ]
          refine takeD (i := 12) (d := 27) (v := (.slice (some ⟨g, off, none⟩) N cap)) rfl (by kernel_rfl) (by kernel_rfl) (by kernel_rfl) (by kernel_rfl) (fun _ _ _ h => h) (Or.inl ⟨by kernel_rfl, fun w' hS => by have g0 := hS.cell m0 (onB_not hmr); go_simp⟩) (by assumption) ?_
          simp only [List.setIfInBounds_toArray, List.set_cons_zero, List.set_cons_succ]
          refine takeD (i := 13) (d := 28) (v := (.int .i64 f)) rfl (by kernel_rfl) (by kernel_rfl) (by kernel_rfl) (by kernel_rfl) (fun _ _ _ h => h) (Or.inl ⟨by kernel_rfl, fun w' hS => by have g0 := hS.cell c1 (onB_not hn1); go_simp⟩) (by assumption) ?_
          simp only [List.setIfInBounds_toArray, List.set_cons_zero, List.set_cons_succ]
          refine takeD (i := 14) (d := 29) (v := (.pointer (some ⟨g, off + f, none⟩))) rfl (by kernel_rfl) (by kernel_rfl) (by kernel_rfl) (by kernel_rfl) (fun _ _ _ h => h) (Or.inl ⟨by kernel_rfl, fun w' hS => by go_simp⟩) (by assumption) ?_
          simp only [List.setIfInBounds_toArray, List.set_cons_zero, List.set_cons_succ]
          refine takeD (i := 15) (d := 30) (v := (.int .i64 x)) rfl (by kernel_rfl) (by kernel_rfl) (by kernel_rfl) (by kernel_rfl) (fun _ _ _ h => h) (Or.inl ⟨by kernel_rfl, fun w' hS => by have g0 := hS.cell pt (onB_not hgr); go_simp⟩) (by assumption) ?_
          simp only [List.setIfInBounds_toArray, List.set_cons_zero, List.set_cons_succ]
          refine wpAnyH_ready (rs := [16]) (by kernel_rfl) (by simp) ?_
          refine AllReadyH.cons (o := _) rfl (fun K hK => ?_) AllReadyH.nil
          rw [if_pos (by kernel_rfl)]
          go_simp
          refine HHAS.out.mono ?_
          rintro e w2 ⟨bl, rfl, hbl, hk2⟩
          go_simp
          refine hK.out _ _ (hHeld.trans hk2.any) (fun hHeld1 => ?_)
          clear hK K
          try simp only [Act.put, List.setIfInBounds_toArray, List.set_cons_zero, List.set_cons_succ]
          have HBL := Lib.hid (And.intro hbl hk2)
          clear hbl
          refine takeD (i := 17) (d := 32) (v := (.bool bl)) rfl (by kernel_rfl) (by kernel_rfl) (by kernel_rfl) (by kernel_rfl) (fun _ _ _ h => h) (Or.inl ⟨by kernel_rfl, fun w' hS => by go_simp⟩) (by assumption) ?_
          simp only [List.setIfInBounds_toArray, List.set_cons_zero, List.set_cons_succ]
          refine takeD (i := 18) (d := 8) (v := (.bool bl)) rfl (by kernel_rfl) (by kernel_rfl) (by kernel_rfl) (by kernel_rfl) (fun _ _ _ h => h) (Or.inl ⟨by kernel_rfl, fun w' hS => by go_simp⟩) (by assumption) ?_
          simp only [List.setIfInBounds_toArray, List.set_cons_zero, List.set_cons_succ]
          refine wpAnyH_done (by kernel_rfl) ?_ _
          have HMF := Lib.hid (And.intro (HB.out.keep ((Kp.refl noB wf).drew.trans HBL.out.2)) (HKB.out.trans hHeld1))
          clear hHeld hHeld1 c0 c1 c2 b0 b1 b4 m0 pt
          go_wp2_with fail
          go_ret
          exact ⟨bl, M, rfl, HBL.out.1.trans hAN.out, HMF.out.1, Ext.refl, HMF.out.2⟩
        · have hAN : Hid (¬ Lg (.mk 1 set mn mx kids) (seg L f u)) := Lib.hid fun h => by
            have := (of_set L hfu huL set mn mx kids).1 h
            omega
          have d1 : ((u : Int) == ((f : Int) + 1)) = false := beq_eq_false_iff_ne.2 (by omega)
          have hwrap : IntKind.i64.wrap ((f : Int) + 1) = (f : Int) + 1 := IntWalk.i64_in _ (by omega)
          clear hkids hofx hof hlt ih hsz hs hsm ht huL hI hg hshp hnn hsmk htm hrlt hwsz hIb hBB huf hsv hrng hrw hSN b0' b2' b3' b4' h0 hW hfu
          unfold ofW at *
          go_enter Tryz.func48, Tryz.ntmps48
          generalize hWF : ((w.alloc (.cells #[.pointer (some ⟨mb, 0, none⟩)] 102)).alloc (.cells #[.int .i64 f] 3)).alloc (.cells #[.int .i64 u] 3) = wf at *
          have HWF := Lib.hid hWF
          clear hWF
          go_upto_region 1 with (fail)
          rw [HWF.out]
          go_upto_region 3 with (fail)
          go_quiet (fail)
          go_wp2_with fail
          go_ret
          exact ⟨false, M, rfl, ⟨fun h => (by cases h), fun h => absurd h hAN.out⟩, HB.out.keep ((Kp.refl noB wf).drewN _), Ext.refl, HKB.out.drewN _⟩
      · -- a row
        have HC : Hid (Calls Tryz.prog 99 #[.pointer (some ⟨mb, 0, none⟩), .agg #[.pointer (some ⟨b, 0, none⟩), .int .i64 f, .int .i64 u, .int .i64 0]] (ofW w mb f u) (MP w0 (ofW w mb f u) r L BT M (Lg (.mk 2 set mn mx kids) (seg L f u)))) := Lib.hid ((mrow_any (set := set) (mn := mn) (mx := mx) hW hnn hof kids.length 0 rfl (Nat.zero_le _) b f u (ofW w mb f u) M ht hfu huL hIb (hg.mono (by rw [← hBB]; exact rank_top (by show u - f ≤ 40; omega)))).mono fun e w' h => h.mono (by rw [← hBB]; exact rank_top (by show u - f ≤ 40; omega)) (show _ ↔ Lg (.mk 2 set mn mx kids) (seg L f u) by rw [AnsK, if_pos rfl]; simp [Lg]))
        clear hkids hofx hof hlt ih hsz hs hsm ht hfu huL hI hg hshp hnn hsmk hrs htm hrlt hwsz hIb hBB hu40 b0' b2' b3' b4' h0 hW
        unfold ofW at *
        go_enter Tryz.func48, Tryz.ntmps48
        generalize hWF : ((w.alloc (.cells #[.pointer (some ⟨mb, 0, none⟩)] 102)).alloc (.cells #[.int .i64 f] 3)).alloc (.cells #[.int .i64 u] 3) = wf at *
        have HWF := Lib.hid hWF
        clear hWF
        go_upto_region 1 with (fail)
        rw [HWF.out]
        go_wp2_with (go_at_call 99; refine HC.out.mono ?_; rintro e w2 ⟨bl, M2, rfl, hbl, hI2, hE2, hk2⟩)
        go_ret
        exact ⟨bl, M2, rfl, hbl, hI2, hE2, HKB.out.trans hk2⟩
      · -- a sum
        have HCON := Lib.hid (kidsCon97 (cap2 := cap2) (x1 := w.heap.size) (x2 := w.heap.size + 1) (x3 := w.heap.size + 2) (Q := fun x => Lg x (seg L f u)) hIb (fun i x hx => by
          obtain ⟨g, off, c, hA, hgr, hc, hcall⟩ := hofx i x hx
          exact ⟨g, off, c, hA, hgr, hc, fun w1 M1 hk1 hI1 hE1 => clo97 (hk1.cell c0 (onB_not hn0)) (hk1.cell c1 (onB_not hn1)) (hk1.cell c2 (onB_not hn2)) (Lib.hid (hcall w1 M1 hI1 hE1))⟩) hkl)
        clear hkids hofx hof hlt ih hsz hs hsm ht hfu huL hI hg hshp hnn hsmk hrs htm hrlt hwsz hIb hBB hu40 b0' b2' b3' b4' h0 hW
        unfold ofW at *
        go_enter Tryz.func48, Tryz.ntmps48
        generalize hWF : ((w.alloc (.cells #[.pointer (some ⟨mb, 0, none⟩)] 102)).alloc (.cells #[.int .i64 f] 3)).alloc (.cells #[.int .i64 u] 3) = wf at *
        have HWF := Lib.hid hWF
        clear hWF
        go_upto_region 1 with (fail)
        rw [HWF.out]
        go_wp2_with (go_at_call 96; refine HCON.out.mono ?_; rintro e w2 ⟨bl, M2, rfl, hbl, hI2, hE2, hk2⟩)
        go_ret
        exact ⟨bl, M2, rfl, hbl.trans lg_kids3, hI2, hE2, HKB.out.trans hk2⟩
      · -- a product
        have HCON := Lib.hid (kidsCon98 (cap2 := cap2) (x1 := w.heap.size) (x2 := w.heap.size + 1) (x3 := w.heap.size + 2) (Q := fun x => ¬ Lg x (seg L f u)) hIb (fun i x hx => by
          obtain ⟨g, off, c, hA, hgr, hc, hcall⟩ := hofx i x hx
          exact ⟨g, off, c, hA, hgr, hc, fun w1 M1 hk1 hI1 hE1 => clo98 (hk1.cell c0 (onB_not hn0)) (hk1.cell c1 (onB_not hn1)) (hk1.cell c2 (onB_not hn2)) (Lib.hid (hcall w1 M1 hI1 hE1))⟩) hkl)
        clear hkids hofx hof hlt ih hsz hs hsm ht hfu huL hI hg hshp hnn hsmk hrs htm hrlt hwsz hIb hBB hu40 b0' b2' b3' b4' h0 hW
        unfold ofW at *
        go_enter Tryz.func48, Tryz.ntmps48
        generalize hWF : ((w.alloc (.cells #[.pointer (some ⟨mb, 0, none⟩)] 102)).alloc (.cells #[.int .i64 f] 3)).alloc (.cells #[.int .i64 u] 3) = wf at *
        have HWF := Lib.hid hWF
        clear hWF
        go_upto_region 1 with (fail)
        rw [HWF.out]
        go_wp2_with (go_at_call 96; refine HCON.out.mono ?_; rintro e w2 ⟨bl, M2, rfl, hbl, hI2, hE2, hk2⟩)
        go_ret
        refine ⟨!bl, M2, rfl, ?_, hI2, hE2, HKB.out.trans hk2⟩
        rw [← lg_kids4, ← hbl]
        cases bl <;> simp
      · -- not
        obtain ⟨a, rfl⟩ := List.length_eq_one_iff.1 h0
        obtain ⟨g, off, c, rfl, hgr, kc, hcall⟩ := hofx 0 a rfl
        have HOF := Lib.hid (hcall (ofW w mb f u).drew M (hIb.keep (Kp.refl noB _).drew) Ext.refl)
        simp only [Nat.add_zero, List.length_cons, List.length_nil, Nat.zero_add] at kc b4
        clear hkids hcall hofx hof hlt ih hsz hs hsm ht hfu huL hI hg hshp hnn hsmk hrs htm hrlt hwsz hIb hBB hu40 b0' b2' b3' b4' h0 hW
        unfold ofW at *
        go_enter Tryz.func48, Tryz.ntmps48
        generalize hWF : ((w.alloc (.cells #[.pointer (some ⟨mb, 0, none⟩)] 102)).alloc (.cells #[.int .i64 f] 3)).alloc (.cells #[.int .i64 u] 3) = wf at *
        have HWF := Lib.hid hWF
        clear hWF
        go_upto_region 1 with (fail)
        rw [HWF.out]
        go_upto_region 9 with (fail)
        refine wp_region_held_drew (S := fun w' => Kp (onB r) wf w') (by kernel_rfl) (Kp.refl _ _).drew (fun hHeld => ?_)
        refine takeD (i := 0) (d := 52) (v := (.pointer (some ⟨mb, 0, none⟩))) rfl (by kernel_rfl) (by kernel_rfl) (by kernel_rfl) (by kernel_rfl) (fun _ _ _ h => h) (Or.inl ⟨by kernel_rfl, fun w' hS => by have g0 := hS.cell c0 (onB_not hn0); go_simp⟩) (by assumption) ?_
        simp only [List.setIfInBounds_toArray, List.set_cons_zero, List.set_cons_succ]
        refine takeD (i := 1) (d := 53) (v := (.pointer (some ⟨b, 0, none⟩))) rfl (by kernel_rfl) (by kernel_rfl) (by kernel_rfl) (by kernel_rfl) (fun _ _ _ h => h) (Or.inl ⟨by kernel_rfl, fun w' hS => by go_simp⟩) (by assumption) ?_
        simp only [List.setIfInBounds_toArray, List.set_cons_zero, List.set_cons_succ]
        refine takeD (i := 2) (d := 54) (v := (.pointer (some ⟨b, 0, none⟩))) rfl (by kernel_rfl) (by kernel_rfl) (by kernel_rfl) (by kernel_rfl) (fun _ _ _ h => h) (Or.inl ⟨by kernel_rfl, fun w' hS => by go_simp⟩) (by assumption) ?_
        simp only [List.setIfInBounds_toArray, List.set_cons_zero, List.set_cons_succ]
        refine takeD (i := 3) (d := 55) (v := (.pointer (some ⟨b, 4, none⟩))) rfl (by kernel_rfl) (by kernel_rfl) (by kernel_rfl) (by kernel_rfl) (fun _ _ _ h => h) (Or.inl ⟨by kernel_rfl, fun w' hS => by go_simp⟩) (by assumption) ?_
        simp only [List.setIfInBounds_toArray, List.set_cons_zero, List.set_cons_succ]
        refine takeD (i := 4) (d := 56) (v := (.slice (some ⟨g, off, none⟩) 1 cap2)) rfl (by kernel_rfl) (by kernel_rfl) (by kernel_rfl) (by kernel_rfl) (fun _ _ _ h => h) (Or.inl ⟨by kernel_rfl, fun w' hS => by have g0 := hS.cell b4 (onB_not hbr); go_simp⟩) (by assumption) ?_
        simp only [List.setIfInBounds_toArray, List.set_cons_zero, List.set_cons_succ]
        refine takeD (i := 5) (d := 57) (v := (.pointer (some ⟨g, off, none⟩))) rfl (by kernel_rfl) (by kernel_rfl) (by kernel_rfl) (by kernel_rfl) (fun _ _ _ h => h) (Or.inl ⟨by kernel_rfl, fun w' hS => by go_simp⟩) (by assumption) ?_
        simp only [List.setIfInBounds_toArray, List.set_cons_zero, List.set_cons_succ]
        refine takeD (i := 6) (d := 58) (v := (.pointer (some ⟨c, 0, none⟩))) rfl (by kernel_rfl) (by kernel_rfl) (by kernel_rfl) (by kernel_rfl) (fun _ _ _ h => h) (Or.inl ⟨by kernel_rfl, fun w' hS => by have g0 := hS.cell kc (onB_not hgr); go_simp⟩) (by assumption) ?_
        simp only [List.setIfInBounds_toArray, List.set_cons_zero, List.set_cons_succ]
        refine takeD (i := 7) (d := 59) (v := (.int .i64 f)) rfl (by kernel_rfl) (by kernel_rfl) (by kernel_rfl) (by kernel_rfl) (fun _ _ _ h => h) (Or.inl ⟨by kernel_rfl, fun w' hS => by have g0 := hS.cell c1 (onB_not hn1); go_simp⟩) (by assumption) ?_
        simp only [List.setIfInBounds_toArray, List.set_cons_zero, List.set_cons_succ]
        refine takeD (i := 8) (d := 60) (v := (.int .i64 u)) rfl (by kernel_rfl) (by kernel_rfl) (by kernel_rfl) (by kernel_rfl) (fun _ _ _ h => h) (Or.inl ⟨by kernel_rfl, fun w' hS => by have g0 := hS.cell c2 (onB_not hn2); go_simp⟩) (by assumption) ?_
        simp only [List.setIfInBounds_toArray, List.set_cons_zero, List.set_cons_succ]
        refine wpAnyH_ready (rs := [9]) (by kernel_rfl) (by simp) ?_
        refine AllReadyH.cons (o := _) rfl (fun K hK => ?_) AllReadyH.nil
        rw [if_pos (by kernel_rfl)]
        go_simp
        refine HOF.out.mono ?_
        rintro e w2 ⟨bl, M2, rfl, hbl, hI2, hE2, hk2⟩
        go_simp
        refine hK.out _ _ (hHeld.trans hk2) (fun hHeld1 => ?_)
        clear hK K
        try simp only [Act.put, List.setIfInBounds_toArray, List.set_cons_zero, List.set_cons_succ]
        have HBL := Lib.hid (And.intro hbl (And.intro hI2 (And.intro hE2 hk2)))
        clear hbl hI2 hE2
        refine takeD (i := 10) (d := 62) (v := (.bool (!bl))) rfl (by kernel_rfl) (by kernel_rfl) (by kernel_rfl) (by kernel_rfl) (fun _ _ _ h => h) (Or.inl ⟨by kernel_rfl, fun w' hS => by go_simp⟩) (by assumption) ?_
        simp only [List.setIfInBounds_toArray, List.set_cons_zero, List.set_cons_succ]
        refine takeD (i := 11) (d := 8) (v := (.bool (!bl))) rfl (by kernel_rfl) (by kernel_rfl) (by kernel_rfl) (by kernel_rfl) (fun _ _ _ h => h) (Or.inl ⟨by kernel_rfl, fun w' hS => by go_simp⟩) (by assumption) ?_
        simp only [List.setIfInBounds_toArray, List.set_cons_zero, List.set_cons_succ]
        refine wpAnyH_done (by kernel_rfl) ?_ _
        have HMF := Lib.hid (HKB.out.trans hHeld1)
        clear hHeld hHeld1 c0 c1 c2 b0 b4 kc
        go_wp2_with fail
        go_ret
        refine ⟨!bl, M2, rfl, ?_, HBL.out.2.1, HBL.out.2.2.1, HMF.out⟩
        have h5 : Lg (.mk 5 set mn mx [a]) (seg L f u) ↔ ¬ Lg a (seg L f u) := by simp [Lg, LgH]
        rw [h5, ← HBL.out.1]
        cases bl <;> simp
      · -- several times
        obtain ⟨a, rfl⟩ := List.length_eq_one_iff.1 h0
        rw [if_pos rfl] at htm
        unfold timesOk at htm
        have HC : Hid (Calls Tryz.prog 100 #[.pointer (some ⟨mb, 0, none⟩), .agg #[.pointer (some ⟨b, 0, none⟩), .int .i64 f, .int .i64 u, .int .i64 0]] (ofW w mb f u) (MP w0 (ofW w mb f u) r L BT M (Lg (.mk 6 set mn mx [a]) (seg L f u)))) := Lib.hid ((times_any (set := set) (mn := mn) (mx := mx) hW (hnn a (by simp)) ⟨by omega, by omega⟩ (by omega) (hof a (by simp)) b ht _ 0 f u rfl (by omega) (by omega) hfu huL (ofW w mb f u) M hIb (hg.mono (by rw [← hBB]; exact rank_top (by show u - f ≤ 40; omega)))).mono fun e w' h => h.mono (by rw [← hBB]; exact rank_top (by show u - f ≤ 40; omega)) (show _ ↔ Lg (.mk 6 set mn mx [a]) (seg L f u) by rw [ans6, tn_zero, lg_six]))
        clear hkids hofx hof hlt ih hsz hs hsm ht hfu huL hI hg hshp hnn hsmk hrs htm hrlt hwsz hIb hBB hu40 b0' b2' b3' b4' h0 hW
        unfold ofW at *
        go_enter Tryz.func48, Tryz.ntmps48
        generalize hWF : ((w.alloc (.cells #[.pointer (some ⟨mb, 0, none⟩)] 102)).alloc (.cells #[.int .i64 f] 3)).alloc (.cells #[.int .i64 u] 3) = wf at *
        have HWF := Lib.hid hWF
        clear hWF
        go_upto_region 1 with (fail)
        rw [HWF.out]
        go_wp2_with (go_at_call 100; refine HC.out.mono ?_; rintro e w2 ⟨bl, M2, rfl, hbl, hI2, hE2, hk2⟩)
        go_ret
        exact ⟨bl, M2, rfl, hbl, hI2, hE2, HKB.out.trans hk2⟩
end
end Go.Proofs.YtoijabgcgdgacaaGreatDoor
