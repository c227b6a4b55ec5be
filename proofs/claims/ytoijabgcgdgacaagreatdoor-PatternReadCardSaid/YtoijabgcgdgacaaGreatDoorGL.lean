/-
  WALKS, xd: the reference's comparison: of sets; of patterns.
  WALKS, xe: the reference's comparison of patterns.
  WALKS, xf: the reference's comparison of patterns: the kids.
-/
import Derived.Test.YtoijabgcgdgacaaGreatDoorGH
namespace Go.Proofs.YtoijabgcgdgacaaGreatDoor
open Go.RowKit Go.Proofs.Gram Go.Lib

set_option maxRecDepth 100000 in
set_option maxHeartbeats 1000000 in
theorem sameSet_any (u v : Value) (l l' : List (Int × Int)) (k1 k2 : Nat → Prop) (w : World) (hr : Rngs w k1 u l) (hr' : Rngs w k2 v l') (hl : l.length ≤ 16777217) (hl' : l'.length ≤ 16777217) :
    Calls Tryz.prog 56 #[u, v] w fun e w' => e = .returned (.bool (decide (l = l'))) ∧ ∃ q, w' = w.drewN q := by
  obtain ⟨A, cap, rfl, hc⟩ := rngs_open hr
  obtain ⟨A', cap', rfl, hc'⟩ := rngs_open hr'
  by_cases hn : l.length = l'.length
  · obtain ⟨n, hn1⟩ : ∃ n, n = l.length := ⟨_, rfl⟩
    have hn2 : n = l'.length := hn1.trans hn
    have HN1 := Lib.hid hn1
    have HN2 := Lib.hid hn2
    have HC := Lib.hid hc
    have HC' := Lib.hid hc'
    rw [← hn1] at hl ⊢
    rw [← hn2]
    have hb : ((n : Int) == (n : Int)) = true := beq_iff_eq.2 rfl
    have hb' : ((n : Int) != (n : Int)) = false := by simp
    clear hc hc' hr hr' hl' hn hn1 hn2
    go_enter Tryz.func56, Tryz.ntmps56
    go_wp2_with fail
    go_loopw [5] (fun c wr => ∃ k : Nat, k ≤ n ∧ c = .int .i64 k ∧ Hid (l.take k = l'.take k) ∧ ∃ q, wr = w.drewN q)
      (fun c _ => n - (intOf c).toNat)
    case atStart => exact ⟨0, Nat.zero_le _, rfl, Lib.hid rfl, 0, rfl⟩
    case round =>
      obtain ⟨k, hk, rfl, HT, q, rfl⟩ := hrel
      rcases Nat.lt_or_ge k n with hlt | hge
      · obtain ⟨r, hrk⟩ : ∃ r, l[k]? = some r := ⟨l[k]'(by rw [← HN1.out]; exact hlt), by simp⟩
        obtain ⟨r', hrk'⟩ : ∃ r, l'[k]? = some r := ⟨l'[k]'(by rw [← HN2.out]; exact hlt), by simp⟩
        obtain ⟨g, off, rfl, hg, hgl, hc0, hc1⟩ := HC.out k r hrk
        obtain ⟨g', off', rfl, hg', hgl', hc0', hc1'⟩ := HC'.out k r' hrk'
        have hb1 : decide ((k : Int) < (n : Int)) = true := decide_eq_true (by omega)
        have hneq := fun W => neqR.1 r r' W
        have HK := Lib.hid (And.intro hrk hrk')
        clear hrk hrk'
        obtain ⟨x1, x2⟩ := r
        obtain ⟨y1, y2⟩ := r'
        simp only [enc2] at hneq hc0 hc1 hc0' hc1'
        by_cases he : (x1 == y1 && x2 == y2) = true
        · rw [he] at hneq
          have HE := Lib.hid he
          clear he
          go_wp2_with fail
          go_quiet (fail)
          go_wp2_with fail
          go_roundw
          case rel =>
            refine ⟨k + 1, by omega, by simp, Lib.hid ?_, q + nq, by simp⟩
            have h := HE.out
            simp only [Bool.and_eq_true, beq_iff_eq] at h
            obtain ⟨rfl, rfl⟩ := h
            rw [take_snoc _ _ _ HK.out.1, take_snoc _ _ _ HK.out.2, HT.out]
          case measure => simp only [intOf]; omega
        · have he' : (x1 == y1 && x2 == y2) = false := by simpa using he
          rw [he'] at hneq
          have HE : Hid (decide (l = l') = false) := Lib.hid (decide_eq_false fun h => he (by
            have h1 := HK.out.1
            rw [h, HK.out.2] at h1
            simp only [Option.some.injEq, Prod.mk.injEq] at h1
            simp [h1.1, h1.2]))
          clear he he'
          go_wp2_with fail
          go_quiet (fail)
          go_wp2_with fail
          go_ret
          rw [HE.out]
          exact ⟨rfl, q + nq, by simp⟩
      · have hkn : k = n := by omega
        subst hkn
        have hb1 : decide ((k : Int) < (k : Int)) = false := decide_eq_false (by omega)
        have HE : Hid (decide (l = l') = true) := Lib.hid (decide_eq_true (by
          have h := HT.out
          rw [HN1.out, List.take_length, ← HN1.out, HN2.out, List.take_length] at h
          exact h))
        go_wp2_with fail
        go_ret
        rw [HE.out]
        exact ⟨rfl, q, rfl⟩
  · have hb : ((l.length : Int) != (l'.length : Int)) = true := by simp; omega
    have HE : Hid (decide (l = l') = false) := Lib.hid (decide_eq_false fun h => hn (by rw [h]))
    clear hn hc hc' hr hr' hl hl'
    go_enter Tryz.func56, Tryz.ntmps56
    go_wp2_with fail
    go_ret
    rw [HE.out]
    exact ⟨rfl, 0, rfl⟩
end Go.Proofs.YtoijabgcgdgacaaGreatDoor

namespace Go.Proofs.YtoijabgcgdgacaaGreatDoor
open Go.RowKit Go.Proofs.Gram Go.Lib

/-- Two patterns, compared. -/
def SmC (t : Rx) : Prop := ∀ (t' : Rx) (v v' : Value) (k1 k2 : Nat → Prop) (w : World) (bl : Bool), IsRe w k1 v t → IsRe w k2 v' t' → Small t → Small t' → (bl = true ↔ t = t') →
  Calls Tryz.prog 19 #[v, v'] w fun e w' => e = .returned (.bool bl) ∧ ∃ q, w' = w.drewN q

theorem same_nil_nil (w : World) : Calls Tryz.prog 19 #[.pointer none, .pointer none] w fun e w' => e = .returned (.bool true) ∧ w' = w := by
  go_enter Tryz.func19, Tryz.ntmps19
  go_wp2_with fail
  go_ret
  exact ⟨rfl, rfl⟩
theorem same_nil_mk (b : Nat) (w : World) : Calls Tryz.prog 19 #[.pointer none, .pointer (some ⟨b, 0, none⟩)] w fun e w' => e = .returned (.bool false) ∧ w' = w := by
  go_enter Tryz.func19, Tryz.ntmps19
  go_wp2_with fail
  go_ret
  exact ⟨rfl, rfl⟩
theorem same_mk_nil (b : Nat) (w : World) : Calls Tryz.prog 19 #[.pointer (some ⟨b, 0, none⟩), .pointer none] w fun e w' => e = .returned (.bool false) ∧ w' = w := by
  go_enter Tryz.func19, Tryz.ntmps19
  go_wp2_with fail
  go_ret
  exact ⟨rfl, rfl⟩

section
variable {kind kind' mn mn' mx mx' : Int} {b b' : Nat} {w : World} {A A' C C' : Option Addr} {n n' m m' ca ca' cc cc' : Nat} {bs : Bool}

set_option maxRecDepth 100000 in
set_option maxHeartbeats 1000000 in
theorem same_no (h0 : w.cell? ⟨b, 0, none⟩ = some (.int .i64 kind)) (h1 : w.cell? ⟨b, 1, none⟩ = some (.slice A n ca)) (h2 : w.cell? ⟨b, 2, none⟩ = some (.int .i64 mn)) (h3 : w.cell? ⟨b, 3, none⟩ = some (.int .i64 mx)) (h4 : w.cell? ⟨b, 4, none⟩ = some (.slice C m cc))
    (h0' : w.cell? ⟨b', 0, none⟩ = some (.int .i64 kind')) (h1' : w.cell? ⟨b', 1, none⟩ = some (.slice A' n' ca')) (h2' : w.cell? ⟨b', 2, none⟩ = some (.int .i64 mn')) (h3' : w.cell? ⟨b', 3, none⟩ = some (.int .i64 mx')) (h4' : w.cell? ⟨b', 4, none⟩ = some (.slice C' m' cc'))
    (HC : Hid (∀ q, Calls Tryz.prog 56 #[.slice A n ca, .slice A' n' ca'] (w.drewN q) fun e w' => e = .returned (.bool bs) ∧ ∃ q', w' = (w.drewN q).drewN q'))
    (hno : ¬ (kind = kind' ∧ mn = mn' ∧ mx = mx' ∧ m = m' ∧ bs = true)) :
    Calls Tryz.prog 19 #[.pointer (some ⟨b, 0, none⟩), .pointer (some ⟨b', 0, none⟩)] w fun e w' => e = .returned (.bool false) ∧ ∃ q, w' = w.drewN q := by
  by_cases e0 : kind = kind'
  · subst e0
    have d0 : (kind != kind) = false := by simp
    by_cases e2 : mn = mn'
    · subst e2
      have d2 : (mn != mn) = false := by simp
      by_cases e3 : mx = mx'
      · subst e3
        have d3 : (mx != mx) = false := by simp
        by_cases e4 : m = m'
        · subst e4
          have d4 : ((m : Int) != (m : Int)) = false := by simp
          have hbs : bs = false := by cases bs <;> simp at hno ⊢
          subst hbs
          clear hno
          go_enter Tryz.func19, Tryz.ntmps19
          go_wp2_with fail
          go_quiet ((go_at_call 56; refine Calls.quiet_of (HC.out _)))
          go_wp2_with fail
          go_quiet (fail)
          go_wp2_with fail
          go_ret
          exact ⟨rfl, _, by simp; rfl⟩
        · have d4 : ((m : Int) != (m' : Int)) = true := by simp; omega
          clear hno e4
          go_enter Tryz.func19, Tryz.ntmps19
          go_wp2_with fail
          go_quiet ((go_at_call 56; refine Calls.quiet_of (HC.out _)))
          go_wp2_with fail
          go_quiet (fail)
          go_wp2_with fail
          go_ret
          exact ⟨rfl, _, by simp; rfl⟩
      · have d3 : (mx != mx') = true := by simp [e3]
        clear hno e3
        go_enter Tryz.func19, Tryz.ntmps19
        go_wp2_with fail
        go_quiet ((go_at_call 56; refine Calls.quiet_of (HC.out _)))
        go_wp2_with fail
        go_quiet (fail)
        go_wp2_with fail
        go_ret
        exact ⟨rfl, _, by simp; rfl⟩
    · have d2 : (mn != mn') = true := by simp [e2]
      clear hno e2
      go_enter Tryz.func19, Tryz.ntmps19
      go_wp2_with fail
      go_quiet ((go_at_call 56; refine Calls.quiet_of (HC.out _)))
      go_wp2_with fail
      go_quiet (fail)
      go_wp2_with fail
      go_ret
      exact ⟨rfl, _, by simp; rfl⟩
  · have d0 : (kind != kind') = true := by simp [e0]
    clear hno e0
    go_enter Tryz.func19, Tryz.ntmps19
    go_wp2_with fail
    go_quiet ((go_at_call 56; refine Calls.quiet_of (HC.out _)))
    go_wp2_with fail
    go_quiet (fail)
    go_wp2_with fail
    go_ret
    exact ⟨rfl, _, by simp; rfl⟩
end
end Go.Proofs.YtoijabgcgdgacaaGreatDoor

namespace Go.Proofs.YtoijabgcgdgacaaGreatDoor
open Go.RowKit Go.Proofs.Gram Go.Lib
section
variable {kind kind' mn mn' mx mx' : Int} {b b' : Nat} {w : World} {A A' C C' : Option Addr} {n n' m m' ca ca' cc cc' : Nat} {bs : Bool}

set_option maxRecDepth 100000 in
set_option maxHeartbeats 2000000 in
theorem same_kids {kids kids' : List Rx} (h0 : w.cell? ⟨b, 0, none⟩ = some (.int .i64 kind)) (h1 : w.cell? ⟨b, 1, none⟩ = some (.slice A n ca)) (h2 : w.cell? ⟨b, 2, none⟩ = some (.int .i64 mn)) (h3 : w.cell? ⟨b, 3, none⟩ = some (.int .i64 mx)) (h4 : w.cell? ⟨b, 4, none⟩ = some (.slice C m cc))
    (h0' : w.cell? ⟨b', 0, none⟩ = some (.int .i64 kind)) (h1' : w.cell? ⟨b', 1, none⟩ = some (.slice A' n' ca')) (h2' : w.cell? ⟨b', 2, none⟩ = some (.int .i64 mn)) (h3' : w.cell? ⟨b', 3, none⟩ = some (.int .i64 mx)) (h4' : w.cell? ⟨b', 4, none⟩ = some (.slice C' m cc'))
    (HC : Hid (∀ q, Calls Tryz.prog 56 #[.slice A n ca, .slice A' n' ca'] (w.drewN q) fun e w' => e = .returned (.bool true) ∧ ∃ q', w' = (w.drewN q).drewN q'))
    (HB : Hid (bs = true ↔ kids = kids')) (hm : m ≤ 9223372036854775807) (HM : Hid (kids.length = m ∧ kids'.length = m))
    (HK : Hid (∀ (k : Nat) (t t' : Rx), kids[k]? = some t → kids'[k]? = some t' → ∃ g off u g' off' u', C = some ⟨g, off, none⟩ ∧ w.cell? ⟨g, off + k, none⟩ = some u ∧ C' = some ⟨g', off', none⟩ ∧ w.cell? ⟨g', off' + k, none⟩ = some u' ∧
      ∀ q bl, (bl = true ↔ t = t') → Calls Tryz.prog 19 #[u, u'] (w.drewN q) fun e w' => e = .returned (.bool bl) ∧ ∃ q', w' = (w.drewN q).drewN q')) :
    Calls Tryz.prog 19 #[.pointer (some ⟨b, 0, none⟩), .pointer (some ⟨b', 0, none⟩)] w fun e w' => e = .returned (.bool bs) ∧ ∃ q, w' = w.drewN q := by
  have d0 : (kind != kind) = false := by simp
  have d2 : (mn != mn) = false := by simp
  have d3 : (mx != mx) = false := by simp
  have d4 : ((m : Int) != (m : Int)) = false := by simp
  go_enter Tryz.func19, Tryz.ntmps19
  go_wp2_with fail
  go_quiet ((go_at_call 56; refine Calls.quiet_of (HC.out _)))
  go_wp2_with fail
  go_quiet (fail)
  go_wp2_with fail
  go_loopw [6] (fun c wr => ∃ k q : Nat, k ≤ m ∧ c = .int .i64 k ∧ Hid (kids.take k = kids'.take k) ∧ wr = w.drewN q)
    (fun c _ => m - (intOf c).toNat)
  case atStart => exact ⟨0, _, Nat.zero_le _, rfl, Lib.hid rfl, by simp; rfl⟩
  case round =>
    obtain ⟨k, q, hk, rfl, HT, rfl⟩ := hrel
    rcases Nat.lt_or_ge k m with hlt | hge
    · obtain ⟨t, ht⟩ : ∃ t, kids[k]? = some t := ⟨kids[k]'(by rw [HM.out.1]; exact hlt), by simp⟩
      obtain ⟨t', ht'⟩ : ∃ t, kids'[k]? = some t := ⟨kids'[k]'(by rw [HM.out.2]; exact hlt), by simp⟩
      obtain ⟨g, off, u, g', off', u', rfl, hu, rfl, hu', hcall⟩ := HK.out k t t' ht ht'
      have hb1 : decide ((k : Int) < (m : Int)) = true := decide_eq_true (by omega)
      have HTT := Lib.hid (And.intro ht ht')
      have hki0 : (0 : Int) ≤ (k : Int) := by omega
      have hki1 : (k : Int) < (m : Int) := by omega
      clear ht ht'
      by_cases he : t = t'
      · have HCL : Hid (∀ n, Calls Tryz.prog 19 #[u, u'] (w.drewN (q + n)) fun e w' => e = .returned (.bool true) ∧ ∃ m, w' = w.drewN (q + m)) := Lib.hid fun n =>
          (hcall (q + n) true ⟨fun _ => he, fun _ => rfl⟩).mono fun e w' ⟨he, m, hm⟩ => ⟨he, n + m, by rw [hm, World.drewN_drewN, Nat.add_assoc]⟩
        have HE := Lib.hid he
        clear he hcall
        go_wp2_with fail
        go_quiet ((go_at_call 19; exact HCL.out _))
        go_wp2_with fail
        go_roundw
        case rel =>
          refine ⟨k + 1, _, by omega, by simp, Lib.hid ?_, rfl⟩
          rw [take_snoc _ _ _ HTT.out.1, take_snoc _ _ _ HTT.out.2, HT.out, HE.out]
        case measure => simp only [intOf]; omega
      · have HCL : Hid (∀ n, Calls Tryz.prog 19 #[u, u'] (w.drewN (q + n)) fun e w' => e = .returned (.bool false) ∧ ∃ m, w' = w.drewN (q + m)) := Lib.hid fun n =>
          (hcall (q + n) false ⟨fun h => (by cases h), fun h => absurd h he⟩).mono fun e w' ⟨he, m, hm⟩ => ⟨he, n + m, by rw [hm, World.drewN_drewN, Nat.add_assoc]⟩
        have hbs : bs = false := by
          cases bs with
          | false => rfl
          | true =>
            have h := HB.out.1 rfl
            have h1 := HTT.out.1
            rw [h, HTT.out.2] at h1
            exact absurd (Option.some.inj h1).symm he
        subst hbs
        clear he hcall
        go_wp2_with fail
        go_quiet ((go_at_call 19; exact HCL.out _))
        go_wp2_with fail
        go_ret
        exact ⟨rfl, _, rfl⟩
    · have hkm : k = m := by omega
      subst hkm
      have hbs : bs = true := by
        refine HB.out.2 ?_
        have h := HT.out
        rw [List.take_of_length_le (by rw [HM.out.1]; exact Nat.le_refl _), List.take_of_length_le (by rw [HM.out.2]; exact Nat.le_refl _)] at h
        exact h
      subst hbs
      have hb1 : decide ((k : Int) < (k : Int)) = false := decide_eq_false (by omega)
      go_wp2_with fail
      go_ret
      exact ⟨rfl, q, rfl⟩
end

theorem same_any : ∀ (n : Nat) (t : Rx), SizeOf.sizeOf t ≤ n → SmC t := by
  intro n
  induction n with
  | zero => intro t h; cases t <;> simp at h
  | succ n ih =>
    intro t hsz t' v v' k1 k2 w bl hre hre' hsm hsm' hbl
    cases t with
    | nil =>
      cases hre
      cases t' with
      | nil =>
        cases hre'
        have : bl = true := hbl.2 rfl
        subst this
        exact (same_nil_nil w).mono fun e w' ⟨he, hw⟩ => ⟨he, 0, hw⟩
      | mk kind set mn mx kids =>
        obtain ⟨b', _, _, _, rfl, _⟩ := hre'.inv
        have : bl = false := by
          cases bl with
          | false => rfl
          | true => exact absurd (hbl.1 rfl) (by simp)
        subst this
        exact (same_nil_mk b' w).mono fun e w' ⟨he, hw⟩ => ⟨he, 0, hw⟩
    | mk kind set mn mx kids =>
      obtain ⟨b, sv, kv, ps, rfl, hb, hok, hrs, hkc, hpl, hkid⟩ := hre.inv
      cases t' with
      | nil =>
        cases hre'
        have : bl = false := by
          cases bl with
          | false => rfl
          | true => exact absurd (hbl.1 rfl) (by simp)
        subst this
        exact (same_mk_nil b w).mono fun e w' ⟨he, hw⟩ => ⟨he, 0, hw⟩
      | mk kind' set' mn' mx' kids' =>
        obtain ⟨b', sv', kv', ps', rfl, hb', hok', hrs', hkc', hpl', hkid'⟩ := hre'.inv
        have hc0 : w.cell? ⟨b, 0, none⟩ = some (.int .i64 kind) := by simp [World.cell?, hb]
        have hc1 : w.cell? ⟨b, 1, none⟩ = some sv := by simp [World.cell?, hb]
        have hc2 : w.cell? ⟨b, 2, none⟩ = some (.int .i64 mn) := by simp [World.cell?, hb]
        have hc3 : w.cell? ⟨b, 3, none⟩ = some (.int .i64 mx) := by simp [World.cell?, hb]
        have hc4 : w.cell? ⟨b, 4, none⟩ = some kv := by simp [World.cell?, hb]
        have hd0 : w.cell? ⟨b', 0, none⟩ = some (.int .i64 kind') := by simp [World.cell?, hb']
        have hd1 : w.cell? ⟨b', 1, none⟩ = some sv' := by simp [World.cell?, hb']
        have hd2 : w.cell? ⟨b', 2, none⟩ = some (.int .i64 mn') := by simp [World.cell?, hb']
        have hd3 : w.cell? ⟨b', 3, none⟩ = some (.int .i64 mx') := by simp [World.cell?, hb']
        have hd4 : w.cell? ⟨b', 4, none⟩ = some kv' := by simp [World.cell?, hb']
        have HC : Hid (∀ q, Calls Tryz.prog 56 #[sv, sv'] (w.drewN q) fun e w' => e = .returned (.bool (decide (set = set'))) ∧ ∃ q', w' = (w.drewN q).drewN q') :=
          Lib.hid fun q => sameSet_any sv sv' set set' k1 k2 (w.drewN q) hrs hrs' (by have := hsm.1; omega) (by have := hsm'.1; omega)
        obtain ⟨A, ca, rfl, hkl, hcs⟩ := cells_open hkc
        obtain ⟨A', ca', rfl, hkl', hcs'⟩ := cells_open hkc'
        obtain ⟨S, cs, rfl, _⟩ := rngs_open hrs
        obtain ⟨S', cs', rfl, _⟩ := rngs_open hrs'
        by_cases he : kind = kind' ∧ mn = mn' ∧ mx = mx' ∧ kids.length = kids'.length ∧ decide (set = set') = true
        · obtain ⟨rfl, rfl, rfl, hl, hs⟩ := he
          rw [hs] at HC
          have hs' := of_decide_eq_true hs
          subst hs'
          rw [← hl] at hd4
          refine same_kids (kids := kids) (kids' := kids')  hc0 hc1 hc2 hc3 hc4 hd0 hd1 hd2 hd3 hd4 HC (Lib.hid (hbl.trans ⟨fun h => by cases h; rfl, fun h => by rw [h]⟩)) hkl (Lib.hid ⟨rfl, hl.symm⟩) (Lib.hid ?_)
          intro k t t' ht ht'
          obtain ⟨u, hu⟩ : ∃ u, ps[k]? = some u := ⟨ps[k]'(by have := (List.getElem?_eq_some_iff.1 ht).1; omega), by simp⟩
          obtain ⟨u', hu'⟩ : ∃ u, ps'[k]? = some u := ⟨ps'[k]'(by have := (List.getElem?_eq_some_iff.1 ht').1; omega), by simp⟩
          obtain ⟨g, off, rfl, _, _, hcu⟩ := hcs k u hu
          obtain ⟨g', off', rfl, _, _, hcu'⟩ := hcs' k u' hu'
          refine ⟨g, off, u, g', off', u', rfl, hcu, rfl, hcu', fun q bl' hbl' => ?_⟩
          simp only [Rx.mk.sizeOf_spec] at hsz
          exact ih t (by have := mem_size ht; omega) t' u u' k1 k2 (w.drewN q) bl' ((hkid k u t hu ht).kp ((Kp.refl noB w).drewN q) fun _ _ _ => noB_not _) ((hkid' k u' t' hu' ht').kp ((Kp.refl noB w).drewN q) fun _ _ _ => noB_not _) (smallL_at hsm.2 ht) (smallL_at hsm'.2 ht') hbl'
        · have : bl = false := by
            cases bl with
            | false => rfl
            | true =>
              have h := hbl.1 rfl
              simp only [Rx.mk.injEq] at h
              obtain ⟨rfl, rfl, rfl, rfl, rfl⟩ := h
              exact absurd ⟨rfl, rfl, rfl, rfl, by simp⟩ he
          subst this
          exact same_no hc0 hc1 hc2 hc3 hc4 hd0 hd1 hd2 hd3 hd4 HC he
end Go.Proofs.YtoijabgcgdgacaaGreatDoor
