/-
  WALKS, me: the reference's order of patterns: where it is told ahead of the kids.
  WALKS, mf: the reference's order of patterns: the kids; the whole.
-/
import Derived.Test.YtoijabgcgdgacaaGreatDoorGL
import Derived.Test.YtoijabgcgdgacaaGreatDoorGH
import Derived.Test.YtoijabgcgdgacaaGreatDoorPC
namespace Go.Proofs.YtoijabgcgdgacaaGreatDoor
open Go.RowKit Go.Proofs.Gram Go.Lib

theorem drop_at {α : Type} {l : List α} {k : Nat} {r : α} (h : l[k]? = some r) : l.drop k = r :: l.drop (k + 1) := by
  obtain ⟨h1, h2⟩ := List.getElem?_eq_some_iff.1 h
  rw [List.drop_eq_getElem_cons h1, h2]

/-- The ranges of a set, as they lie. -/
def RgAt (w : World) (A : Option Addr) (l : List (Int × Int)) : Prop :=
  ∀ k r, l[k]? = some r → ∃ g off, A = some ⟨g, off, none⟩ ∧ w.cell? ⟨g, off + k * 2, none⟩ = some (.int .i64 r.1) ∧ w.cell? ⟨g, off + k * 2 + 1, none⟩ = some (.int .i64 r.2)
def RgSm (l : List (Int × Int)) : Prop := ∀ r ∈ l, 0 ≤ r.1 ∧ r.1 ≤ 0x10FFFF ∧ 0 ≤ r.2 ∧ r.2 ≤ 0x10FFFF

section
variable {kind kind' mn mn' mx mx' : Int} {b b' : Nat} {w : World} {A A' C C' : Option Addr} {n n' m m' ca ca' cc cc' : Nat}

set_option maxRecDepth 100000 in
set_option maxHeartbeats 1000000 in
theorem ord_kind (h0 : w.cell? ⟨b, 0, none⟩ = some (.int .i64 kind)) (h0' : w.cell? ⟨b', 0, none⟩ = some (.int .i64 kind')) (hne : kind ≠ kind') (hk : 1 ≤ kind ∧ kind ≤ 6) (hk' : 1 ≤ kind' ∧ kind' ≤ 6) :
    Calls Tryz.prog 196 #[.pointer (some ⟨b, 0, none⟩), .pointer (some ⟨b', 0, none⟩)] w fun e w' => e = .returned (.int .i64 (kind - kind')) ∧ ∃ q, w' = w.drewN q := by
  have d0 : (kind != kind') = true := by simp [hne]
  clear hne
  go_enter Tryz.func196, Tryz.ntmps196
  go_wp2_with fail
  go_quiet (fail)
  go_wp2_with fail
  go_quiet (fail)
  go_wp2_with fail
  go_ret
  exact ⟨rfl, _, by simp; rfl⟩

set_option maxRecDepth 100000 in
set_option maxHeartbeats 1000000 in
theorem ord_min (h0 : w.cell? ⟨b, 0, none⟩ = some (.int .i64 kind)) (h0' : w.cell? ⟨b', 0, none⟩ = some (.int .i64 kind))
    (h2 : w.cell? ⟨b, 2, none⟩ = some (.int .i64 mn)) (h2' : w.cell? ⟨b', 2, none⟩ = some (.int .i64 mn')) (hne : mn ≠ mn') (hk : -1 ≤ mn ∧ mn ≤ 50) (hk' : -1 ≤ mn' ∧ mn' ≤ 50) :
    Calls Tryz.prog 196 #[.pointer (some ⟨b, 0, none⟩), .pointer (some ⟨b', 0, none⟩)] w fun e w' => e = .returned (.int .i64 (mn - mn')) ∧ ∃ q, w' = w.drewN q := by
  have d0 : (kind != kind) = false := by simp
  have d2 : (mn != mn') = true := by simp [hne]
  clear hne
  go_enter Tryz.func196, Tryz.ntmps196
  go_wp2_with fail
  go_quiet (fail)
  go_wp2_with fail
  go_quiet (fail)
  go_wp2_with fail
  go_quiet (fail)
  go_wp2_with fail
  go_ret
  exact ⟨rfl, _, by simp; rfl⟩

set_option maxRecDepth 100000 in
set_option maxHeartbeats 1000000 in
theorem ord_max (h0 : w.cell? ⟨b, 0, none⟩ = some (.int .i64 kind)) (h0' : w.cell? ⟨b', 0, none⟩ = some (.int .i64 kind))
    (h2 : w.cell? ⟨b, 2, none⟩ = some (.int .i64 mn)) (h2' : w.cell? ⟨b', 2, none⟩ = some (.int .i64 mn))
    (h3 : w.cell? ⟨b, 3, none⟩ = some (.int .i64 mx)) (h3' : w.cell? ⟨b', 3, none⟩ = some (.int .i64 mx')) (hne : mx ≠ mx') (hk : -1 ≤ mx ∧ mx ≤ 50) (hk' : -1 ≤ mx' ∧ mx' ≤ 50) :
    Calls Tryz.prog 196 #[.pointer (some ⟨b, 0, none⟩), .pointer (some ⟨b', 0, none⟩)] w fun e w' => e = .returned (.int .i64 (mx - mx')) ∧ ∃ q, w' = w.drewN q := by
  have d0 : (kind != kind) = false := by simp
  have d2 : (mn != mn) = false := by simp
  have d3 : (mx != mx') = true := by simp [hne]
  clear hne
  go_enter Tryz.func196, Tryz.ntmps196
  go_wp2_with fail
  go_quiet (fail)
  go_wp2_with fail
  go_quiet (fail)
  go_wp2_with fail
  go_quiet (fail)
  go_wp2_with fail
  go_quiet (fail)
  go_wp2_with fail
  go_ret
  exact ⟨rfl, _, by simp; rfl⟩

set_option maxRecDepth 100000 in
set_option maxHeartbeats 1000000 in
theorem ord_len (h0 : w.cell? ⟨b, 0, none⟩ = some (.int .i64 kind)) (h0' : w.cell? ⟨b', 0, none⟩ = some (.int .i64 kind))
    (h2 : w.cell? ⟨b, 2, none⟩ = some (.int .i64 mn)) (h2' : w.cell? ⟨b', 2, none⟩ = some (.int .i64 mn))
    (h3 : w.cell? ⟨b, 3, none⟩ = some (.int .i64 mx)) (h3' : w.cell? ⟨b', 3, none⟩ = some (.int .i64 mx))
    (h1 : w.cell? ⟨b, 1, none⟩ = some (.slice A n ca)) (h1' : w.cell? ⟨b', 1, none⟩ = some (.slice A' n' ca')) (hne : (n : Int) ≠ n') (hn : n ≤ 16777216) (hn' : n' ≤ 16777216) :
    Calls Tryz.prog 196 #[.pointer (some ⟨b, 0, none⟩), .pointer (some ⟨b', 0, none⟩)] w fun e w' => e = .returned (.int .i64 ((n : Int) - n')) ∧ ∃ q, w' = w.drewN q := by
  have d0 : (kind != kind) = false := by simp
  have d2 : (mn != mn) = false := by simp
  have d3 : (mx != mx) = false := by simp
  have d1 : ((n : Int) != (n' : Int)) = true := by simp; omega
  clear hne
  go_enter Tryz.func196, Tryz.ntmps196
  go_wp2_with fail
  go_quiet (fail)
  go_wp2_with fail
  go_quiet (fail)
  go_wp2_with fail
  go_quiet (fail)
  go_wp2_with fail
  go_quiet (fail)
  go_wp2_with fail
  go_quiet (fail)
  go_wp2_with fail
  go_ret
  exact ⟨rfl, _, by simp; rfl⟩

set_option maxRecDepth 100000 in
set_option maxHeartbeats 2000000 in
theorem ord_sets {s s' : List (Int × Int)} (h0 : w.cell? ⟨b, 0, none⟩ = some (.int .i64 kind)) (h0' : w.cell? ⟨b', 0, none⟩ = some (.int .i64 kind))
    (h2 : w.cell? ⟨b, 2, none⟩ = some (.int .i64 mn)) (h2' : w.cell? ⟨b', 2, none⟩ = some (.int .i64 mn))
    (h3 : w.cell? ⟨b, 3, none⟩ = some (.int .i64 mx)) (h3' : w.cell? ⟨b', 3, none⟩ = some (.int .i64 mx))
    (h1 : w.cell? ⟨b, 1, none⟩ = some (.slice A n ca)) (h1' : w.cell? ⟨b', 1, none⟩ = some (.slice A' n ca')) (hn : n ≤ 16777216)
    (HL : Hid (s.length = n ∧ s'.length = n)) (HC : Hid (RgAt w A s)) (HC' : Hid (RgAt w A' s')) (HS : Hid (RgSm s)) (HS' : Hid (RgSm s')) (HD : Hid (ordS s s' ≠ 0)) :
    Calls Tryz.prog 196 #[.pointer (some ⟨b, 0, none⟩), .pointer (some ⟨b', 0, none⟩)] w fun e w' => e = .returned (.int .i64 (ordS s s')) ∧ ∃ q, w' = w.drewN q := by
  have d0 : (kind != kind) = false := by simp
  have d2 : (mn != mn) = false := by simp
  have d3 : (mx != mx) = false := by simp
  have d1 : ((n : Int) != (n : Int)) = false := by simp
  go_enter Tryz.func196, Tryz.ntmps196
  go_wp2_with fail
  go_quiet (fail)
  go_wp2_with fail
  go_quiet (fail)
  go_wp2_with fail
  go_quiet (fail)
  go_wp2_with fail
  go_quiet (fail)
  go_wp2_with fail
  go_loopw [5] (fun c wr => ∃ k q : Nat, k ≤ n ∧ c = .int .i64 k ∧ Hid (ordS s s' = ordS (s.drop k) (s'.drop k)) ∧ wr = w.drewN q)
    (fun c _ => n - (intOf c).toNat)
  case atStart => exact ⟨0, _, Nat.zero_le _, rfl, Lib.hid rfl, by simp; rfl⟩
  case round =>
    obtain ⟨k, q, hk, rfl, HT, rfl⟩ := hrel
    rcases Nat.lt_or_ge k n with hlt | hge
    · obtain ⟨r, hr⟩ : ∃ r, s[k]? = some r := ⟨s[k]'(by rw [HL.out.1]; exact hlt), by simp⟩
      obtain ⟨r', hr'⟩ : ∃ r, s'[k]? = some r := ⟨s'[k]'(by rw [HL.out.2]; exact hlt), by simp⟩
      obtain ⟨g, off, rfl, hc0, hc1⟩ := HC.out k r hr
      obtain ⟨g', off', rfl, hc0', hc1'⟩ := HC'.out k r' hr'
      have hb1 : decide ((k : Int) < (n : Int)) = true := decide_eq_true (by omega)
      have hs := HS.out r (List.mem_of_getElem? hr)
      have hs' := HS'.out r' (List.mem_of_getElem? hr')
      have HR := Lib.hid (And.intro (drop_at hr) (drop_at hr'))
      have hki0 : (0 : Int) ≤ (k : Int) := by omega
      have hki1 : (k : Int) < (n : Int) := by omega
      clear hr hr'
      obtain ⟨x1, x2⟩ := r
      obtain ⟨y1, y2⟩ := r'
      simp only at hs hs' hc0 hc1 hc0' hc1'
      by_cases e1 : x1 = y1
      · subst e1
        have g1 : (x1 != x1) = false := by simp
        by_cases e2 : x2 = y2
        · subst e2
          have g2 : (x2 != x2) = false := by simp
          have HN : Hid (ordS s s' = ordS (s.drop (k + 1)) (s'.drop (k + 1))) := Lib.hid (by
            rw [HT.out, HR.out.1, HR.out.2, ordS]
            simp)
          clear HR
          go_wp2_with fail
          go_quiet (fail)
          go_wp2_with fail
          go_quiet (fail)
          go_wp2_with fail
          go_roundw
          case rel => exact ⟨k + 1, _, by omega, by simp, HN, by first | rfl | (simp; rfl)⟩
          case measure => simp only [intOf]; omega
        · have g2 : (x2 != y2) = true := by simp [e2]
          have R : Hid (ordS s s' = x2 - y2) := Lib.hid (by
            rw [HT.out, HR.out.1, HR.out.2, ordS]
            simp [e2])
          clear HR e2 HD
          go_wp2_with fail
          go_quiet (fail)
          go_wp2_with fail
          go_quiet (fail)
          go_wp2_with fail
          go_quiet (fail)
          go_wp2_with fail
          go_ret
          rw [R.out]
          exact ⟨rfl, _, by first | rfl | (simp; rfl)⟩
      · have g1 : (x1 != y1) = true := by simp [e1]
        have R : Hid (ordS s s' = x1 - y1) := Lib.hid (by
          rw [HT.out, HR.out.1, HR.out.2, ordS]
          simp [e1])
        clear HR e1 HD
        go_wp2_with fail
        go_quiet (fail)
        go_wp2_with fail
        go_quiet (fail)
        go_wp2_with fail
        go_ret
        rw [R.out]
        exact ⟨rfl, _, by first | rfl | (simp; rfl)⟩
    · exfalso
      have hkn : k = n := by omega
      have h := HT.out
      rw [List.drop_eq_nil_of_le (by rw [HL.out.1]; omega), List.drop_eq_nil_of_le (by rw [HL.out.2]; omega)] at h
      exact HD.out (h.trans (by simp [ordS]))
end
end Go.Proofs.YtoijabgcgdgacaaGreatDoor

namespace Go.Proofs.YtoijabgcgdgacaaGreatDoor
open Go.RowKit Go.Proofs.Gram Go.Lib

section
variable {kind mn mx : Int} {b b' : Nat} {w : World} {A A' C C' : Option Addr} {n m m' ca ca' cc cc' : Nat}

set_option maxRecDepth 100000 in
set_option maxHeartbeats 2000000 in
theorem ord_klen {s : List (Int × Int)} (h0 : w.cell? ⟨b, 0, none⟩ = some (.int .i64 kind)) (h0' : w.cell? ⟨b', 0, none⟩ = some (.int .i64 kind))
    (h2 : w.cell? ⟨b, 2, none⟩ = some (.int .i64 mn)) (h2' : w.cell? ⟨b', 2, none⟩ = some (.int .i64 mn))
    (h3 : w.cell? ⟨b, 3, none⟩ = some (.int .i64 mx)) (h3' : w.cell? ⟨b', 3, none⟩ = some (.int .i64 mx))
    (h1 : w.cell? ⟨b, 1, none⟩ = some (.slice A n ca)) (h1' : w.cell? ⟨b', 1, none⟩ = some (.slice A' n ca')) (hn : n ≤ 16777216)
    (h4 : w.cell? ⟨b, 4, none⟩ = some (.slice C m cc)) (h4' : w.cell? ⟨b', 4, none⟩ = some (.slice C' m' cc')) (hm : m ≤ 8796093022208) (hm' : m' ≤ 8796093022208) (hne : (m : Int) ≠ m')
    (HL : Hid (s.length = n)) (HC : Hid (RgAt w A s)) (HC' : Hid (RgAt w A' s)) :
    Calls Tryz.prog 196 #[.pointer (some ⟨b, 0, none⟩), .pointer (some ⟨b', 0, none⟩)] w fun e w' => e = .returned (.int .i64 ((m : Int) - m')) ∧ ∃ q, w' = w.drewN q := by
  have d0 : (kind != kind) = false := by simp
  have d2 : (mn != mn) = false := by simp
  have d3 : (mx != mx) = false := by simp
  have d1 : ((n : Int) != (n : Int)) = false := by simp
  have d4 : ((m : Int) != (m' : Int)) = true := by simp; omega
  clear hne
  go_enter Tryz.func196, Tryz.ntmps196
  go_wp2_with fail
  go_quiet (fail)
  go_wp2_with fail
  go_quiet (fail)
  go_wp2_with fail
  go_quiet (fail)
  go_wp2_with fail
  go_quiet (fail)
  go_wp2_with fail
  go_loopw [5] (fun c wr => ∃ k q : Nat, k ≤ n ∧ c = .int .i64 k ∧ wr = w.drewN q)
    (fun c _ => n - (intOf c).toNat)
  case atStart => exact ⟨0, _, Nat.zero_le _, rfl, by first | rfl | (simp; rfl)⟩
  case round =>
    obtain ⟨k, q, hk, rfl, rfl⟩ := hrel
    rcases Nat.lt_or_ge k n with hlt | hge
    · obtain ⟨r, hr⟩ : ∃ r, s[k]? = some r := ⟨s[k]'(by rw [HL.out]; exact hlt), by simp⟩
      obtain ⟨g, off, rfl, hc0, hc1⟩ := HC.out k r hr
      obtain ⟨g', off', rfl, hc0', hc1'⟩ := HC'.out k r hr
      have hb1 : decide ((k : Int) < (n : Int)) = true := decide_eq_true (by omega)
      have hki0 : (0 : Int) ≤ (k : Int) := by omega
      have hki1 : (k : Int) < (n : Int) := by omega
      clear hr
      obtain ⟨x1, x2⟩ := r
      simp only at hc0 hc1 hc0' hc1'
      have g1 : (x1 != x1) = false := by simp
      have g2 : (x2 != x2) = false := by simp
      go_wp2_with fail
      go_quiet (fail)
      go_wp2_with fail
      go_quiet (fail)
      go_wp2_with fail
      go_roundw
      case rel => exact ⟨k + 1, _, by omega, by simp, by first | rfl | (simp; rfl)⟩
      case measure => simp only [intOf]; omega
    · have hkn : k = n := by omega
      subst hkn
      have hb1 : decide ((k : Int) < (k : Int)) = false := decide_eq_false (by omega)
      go_wp2_with fail
      go_quiet (fail)
      go_wp2_with fail
      go_quiet (fail)
      go_wp2_with fail
      go_ret
      exact ⟨rfl, _, by first | rfl | (simp; rfl)⟩

set_option maxRecDepth 100000 in
set_option maxHeartbeats 2000000 in
theorem ord_kids {s : List (Int × Int)} {kids kids' : List Rx} (h0 : w.cell? ⟨b, 0, none⟩ = some (.int .i64 kind)) (h0' : w.cell? ⟨b', 0, none⟩ = some (.int .i64 kind))
    (h2 : w.cell? ⟨b, 2, none⟩ = some (.int .i64 mn)) (h2' : w.cell? ⟨b', 2, none⟩ = some (.int .i64 mn))
    (h3 : w.cell? ⟨b, 3, none⟩ = some (.int .i64 mx)) (h3' : w.cell? ⟨b', 3, none⟩ = some (.int .i64 mx))
    (h1 : w.cell? ⟨b, 1, none⟩ = some (.slice A n ca)) (h1' : w.cell? ⟨b', 1, none⟩ = some (.slice A' n ca')) (hn : n ≤ 16777216)
    (h4 : w.cell? ⟨b, 4, none⟩ = some (.slice C m cc)) (h4' : w.cell? ⟨b', 4, none⟩ = some (.slice C' m cc')) (hm : m ≤ 8796093022208)
    (HL : Hid (s.length = n)) (HC : Hid (RgAt w A s)) (HC' : Hid (RgAt w A' s)) (HM : Hid (kids.length = m ∧ kids'.length = m))
    (HK : Hid (∀ (k : Nat) (t t' : Rx), kids[k]? = some t → kids'[k]? = some t' → ∃ g off u g' off' u', C = some ⟨g, off, none⟩ ∧ w.cell? ⟨g, off + k, none⟩ = some u ∧ C' = some ⟨g', off', none⟩ ∧ w.cell? ⟨g', off' + k, none⟩ = some u' ∧
      ∀ q, Calls Tryz.prog 196 #[u, u'] (w.drewN q) fun e w' => e = .returned (.int .i64 (ordR t t')) ∧ ∃ q', w' = (w.drewN q).drewN q')) :
    Calls Tryz.prog 196 #[.pointer (some ⟨b, 0, none⟩), .pointer (some ⟨b', 0, none⟩)] w fun e w' => e = .returned (.int .i64 (ordL kids kids')) ∧ ∃ q, w' = w.drewN q := by
  have d0 : (kind != kind) = false := by simp
  have d2 : (mn != mn) = false := by simp
  have d3 : (mx != mx) = false := by simp
  have d1 : ((n : Int) != (n : Int)) = false := by simp
  have d4 : ((m : Int) != (m : Int)) = false := by simp
  go_enter Tryz.func196, Tryz.ntmps196
  go_wp2_with fail
  go_quiet (fail)
  go_wp2_with fail
  go_quiet (fail)
  go_wp2_with fail
  go_quiet (fail)
  go_wp2_with fail
  go_quiet (fail)
  go_wp2_with fail
  go_loopw [5] (fun c wr => ∃ k q : Nat, k ≤ n ∧ c = .int .i64 k ∧ wr = w.drewN q)
    (fun c _ => n - (intOf c).toNat)
  case atStart => exact ⟨0, _, Nat.zero_le _, rfl, by first | rfl | (simp; rfl)⟩
  case round =>
    obtain ⟨k, q, hk, rfl, rfl⟩ := hrel
    rcases Nat.lt_or_ge k n with hlt | hge
    · obtain ⟨r, hr⟩ : ∃ r, s[k]? = some r := ⟨s[k]'(by rw [HL.out]; exact hlt), by simp⟩
      obtain ⟨g, off, rfl, hc0, hc1⟩ := HC.out k r hr
      obtain ⟨g', off', rfl, hc0', hc1'⟩ := HC'.out k r hr
      have hb1 : decide ((k : Int) < (n : Int)) = true := decide_eq_true (by omega)
      have hki0 : (0 : Int) ≤ (k : Int) := by omega
      have hki1 : (k : Int) < (n : Int) := by omega
      clear hr
      obtain ⟨x1, x2⟩ := r
      simp only at hc0 hc1 hc0' hc1'
      have g1 : (x1 != x1) = false := by simp
      have g2 : (x2 != x2) = false := by simp
      go_wp2_with fail
      go_quiet (fail)
      go_wp2_with fail
      go_quiet (fail)
      go_wp2_with fail
      go_roundw
      case rel => exact ⟨k + 1, _, by omega, by simp, by first | rfl | (simp; rfl)⟩
      case measure => simp only [intOf]; omega
    · have hkn : k = n := by omega
      subst hkn
      have hb1 : decide ((k : Int) < (k : Int)) = false := decide_eq_false (by omega)
      go_wp2_with fail
      go_quiet (fail)
      go_wp2_with fail
      go_loopw [6] (fun c wr => ∃ k q : Nat, k ≤ m ∧ c = .int .i64 k ∧ Hid (ordL kids kids' = ordL (kids.drop k) (kids'.drop k)) ∧ wr = w.drewN q)
        (fun c _ => m - (intOf c).toNat)
      case atStart => exact ⟨0, _, Nat.zero_le _, rfl, Lib.hid rfl, by first | rfl | (simp; rfl)⟩
      case round =>
        clear hb1
        obtain ⟨k, q, hk, rfl, HT, rfl⟩ := hrel
        rcases Nat.lt_or_ge k m with hlt | hge
        · obtain ⟨t, ht⟩ : ∃ t, kids[k]? = some t := ⟨kids[k]'(by rw [HM.out.1]; exact hlt), by simp⟩
          obtain ⟨t', ht'⟩ : ∃ t, kids'[k]? = some t := ⟨kids'[k]'(by rw [HM.out.2]; exact hlt), by simp⟩
          obtain ⟨g, off, u, g', off', u', rfl, hu, rfl, hu', hcall⟩ := HK.out k t t' ht ht'
          have hb1 : decide ((k : Int) < (m : Int)) = true := decide_eq_true (by omega)
          have HR := Lib.hid (And.intro (drop_at ht) (drop_at ht'))
          have hki0 : (0 : Int) ≤ (k : Int) := by omega
          have hki1 : (k : Int) < (m : Int) := by omega
          obtain ⟨d, hd⟩ : ∃ d, ordR t t' = d := ⟨_, rfl⟩
          rw [hd] at hcall
          have HD := Lib.hid hd
          have HCL : Hid (∀ n, Calls Tryz.prog 196 #[u, u'] (w.drewN (q + n)) fun e w' => e = .returned (.int .i64 d) ∧ ∃ m, w' = w.drewN (q + m)) := Lib.hid fun n =>
            (hcall (q + n)).mono fun e w' ⟨he, m, hm⟩ => ⟨he, n + m, by rw [hm, World.drewN_drewN, Nat.add_assoc]⟩
          clear ht ht' hcall hd
          by_cases e0 : d = 0
          · have HN : Hid (ordL kids kids' = ordL (kids.drop (k + 1)) (kids'.drop (k + 1))) := Lib.hid (by
              rw [HT.out, HR.out.1, HR.out.2, ordL, HD.out]
              simp [e0])
            have g0 : (d != 0) = false := by simp [e0]
            clear HR e0
            go_wp2_with fail
            go_quiet ((go_at_call 196; exact HCL.out _))
            go_wp2_with fail
            go_roundw
            case rel => exact ⟨k + 1, _, by omega, by simp, HN, by first | rfl | (simp; rfl)⟩
            case measure => simp only [intOf]; omega
          · have R : Hid (ordL kids kids' = d) := Lib.hid (by
              rw [HT.out, HR.out.1, HR.out.2, ordL, HD.out]
              simp [e0])
            have g0 : (d != 0) = true := by simp [e0]
            clear HR e0
            go_wp2_with fail
            go_quiet ((go_at_call 196; exact HCL.out _))
            go_wp2_with fail
            go_ret
            rw [R.out]
            exact ⟨rfl, _, by first | rfl | (simp; rfl)⟩
        · have hkm : k = m := by omega
          subst hkm
          have hb1 : decide ((k : Int) < (k : Int)) = false := decide_eq_false (by omega)
          have R : Hid (ordL kids kids' = 0) := Lib.hid (by
            rw [HT.out, List.drop_eq_nil_of_le (by rw [HM.out.1]; omega), List.drop_eq_nil_of_le (by rw [HM.out.2]; omega)]
            simp [ordL])
          go_wp2_with fail
          go_ret
          rw [R.out]
          exact ⟨rfl, _, by first | rfl | (simp; rfl)⟩
end

/-- The order of two patterns. -/
def OrdC (t : Rx) : Prop := ∀ (t' : Rx) (v v' : Value) (k1 k2 : Nat → Prop) (w : World), IsRe w k1 v t → IsRe w k2 v' t' → Nm BB t → Nm BB t' →
  Calls Tryz.prog 196 #[v, v'] w fun e w' => e = .returned (.int .i64 (ordR t t')) ∧ ∃ q, w' = w.drewN q

theorem rgAt_of {w : World} {ok : Nat → Prop} {A : Option Addr} {n cap : Nat} {l : List (Int × Int)} (h : Rngs w ok (.slice A n cap) l) : RgAt w A l := by
  obtain ⟨A', cap', e, h⟩ := rngs_open h
  simp only [Value.slice.injEq] at e
  intro k r hr
  obtain ⟨g, off, h1, _, _, h2, h3⟩ := h k r hr
  exact ⟨g, off, e.1.trans h1, h2, h3⟩

theorem ord_any : ∀ (n : Nat) (t : Rx), SizeOf.sizeOf t ≤ n → OrdC t := by
  intro n
  induction n with
  | zero => intro t h; cases t <;> simp at h
  | succ n ih =>
    intro t hsz t' v v' k1 k2 w hre hre' hnm hnm'
    cases t with
    | nil => rw [Nm] at hnm; exact hnm.elim
    | mk kind set mn mx kids =>
      cases t' with
      | nil => rw [Nm] at hnm'; exact hnm'.elim
      | mk kind' set' mn' mx' kids' =>
        obtain ⟨b, sv, kv, ps, rfl, hb, hok, hrs, hkc, hpl, hkid⟩ := hre.inv
        obtain ⟨b', sv', kv', ps', rfl, hb', hok', hrs', hkc', hpl', hkid'⟩ := hre'.inv
        have hc0 : w.cell? ⟨b, 0, none⟩ = some (.int .i64 kind) := by simp [World.cell?, hb]
        have hc1 : w.cell? ⟨b, 1, none⟩ = some sv := by simp [World.cell?, hb]
        have hc2 : w.cell? ⟨b, 2, none⟩ = some (.int .i64 mn) := by simp [World.cell?, hb]
        have hc3 : w.cell? ⟨b, 3, none⟩ = some (.int .i64 mx) := by simp [World.cell?, hb]
        have hc4 : w.cell? ⟨b, 4, none⟩ = some kv := by simp [World.cell?, hb]
        have hd0 : w.cell? ⟨b', 0, none⟩ = some (.int .i64 kind') := by simp [World.cell?, hb']
        have hd1 : w.cell? ⟨b', 1, none⟩ = some sv' := by simp [World.cell?, hb']
        have hd2 : w.cell? ⟨b', 2, none⟩ = some (.int .i64 mn') := by simp [World.cell?, hb']
        have hd3 : w.cell? ⟨b', 3, none⟩ = some (.int .i64 mx') := by simp [World.cell?, hb']
        have hd4 : w.cell? ⟨b', 4, none⟩ = some kv' := by simp [World.cell?, hb']
        obtain ⟨A, ca, rfl, hkl, hcs⟩ := cells_open hkc
        obtain ⟨A', ca', rfl, hkl', hcs'⟩ := cells_open hkc'
        obtain ⟨S, cs, rfl, _⟩ := rngs_open hrs
        obtain ⟨S', cs', rfl, _⟩ := rngs_open hrs'
        have hN := hnm
        have hN' := hnm'
        rw [Nm] at hN hN'
        unfold BB at hN hN'
        rw [ordR]
        by_cases e0 : kind = kind'
        · subst e0
          rw [if_neg (by simp)]
          by_cases e1 : mn = mn'
          · subst e1
            rw [if_neg (by simp)]
            by_cases e2 : mx = mx'
            · subst e2
              rw [if_neg (by simp)]
              by_cases e3 : set.length = set'.length
              · rw [if_neg (by omega)]
                rw [← e3] at hd1
                by_cases e4 : ordS set set' = 0
                · rw [if_neg (by simp [e4])]
                  have := ordS_eq e3 e4
                  subst this
                  by_cases e5 : kids.length = kids'.length
                  · rw [if_neg (by omega)]
                    rw [← e5] at hd4
                    refine ord_kids (s := set) hc0 hd0 hc2 hd2 hc3 hd3 hc1 hd1 hN.2.2.2.1 hc4 hd4 hN.2.2.2.2.2.1 (Lib.hid rfl) (Lib.hid (rgAt_of hrs)) (Lib.hid (rgAt_of hrs')) (Lib.hid ⟨rfl, e5.symm⟩) (Lib.hid ?_)
                    intro k t t' ht ht'
                    obtain ⟨u, hu⟩ : ∃ u, ps[k]? = some u := ⟨ps[k]'(by have := (List.getElem?_eq_some_iff.1 ht).1; omega), by simp⟩
                    obtain ⟨u', hu'⟩ : ∃ u, ps'[k]? = some u := ⟨ps'[k]'(by have := (List.getElem?_eq_some_iff.1 ht').1; omega), by simp⟩
                    obtain ⟨g, off, rfl, _, _, hcu⟩ := hcs k u hu
                    obtain ⟨g', off', rfl, _, _, hcu'⟩ := hcs' k u' hu'
                    refine ⟨g, off, u, g', off', u', rfl, hcu, rfl, hcu', fun q => ?_⟩
                    simp only [Rx.mk.sizeOf_spec] at hsz
                    exact ih t (by have := mem_size ht; omega) t' u u' k1 k2 (w.drewN q) ((hkid k u t hu ht).kp ((Kp.refl noB w).drewN q) fun _ _ _ => noB_not _) ((hkid' k u' t' hu' ht').kp ((Kp.refl noB w).drewN q) fun _ _ _ => noB_not _)
                      (nm_kid hnm (List.mem_of_getElem? ht)) (nm_kid hnm' (List.mem_of_getElem? ht'))
                  · rw [if_pos (by omega)]
                    exact ord_klen (s := set) hc0 hd0 hc2 hd2 hc3 hd3 hc1 hd1 hN.2.2.2.1 hc4 hd4 hN.2.2.2.2.2.1 hN'.2.2.2.2.2.1 (by omega) (Lib.hid rfl) (Lib.hid (rgAt_of hrs)) (Lib.hid (rgAt_of hrs'))
                · rw [if_pos e4]
                  exact ord_sets hc0 hd0 hc2 hd2 hc3 hd3 hc1 hd1 hN.2.2.2.1 (Lib.hid ⟨rfl, e3.symm⟩) (Lib.hid (rgAt_of hrs)) (Lib.hid (rgAt_of hrs')) (Lib.hid hN.2.2.2.2.1) (Lib.hid hN'.2.2.2.2.1) (Lib.hid e4)
              · rw [if_pos (by omega)]
                exact ord_len hc0 hd0 hc2 hd2 hc3 hd3 hc1 hd1 (by omega) hN.2.2.2.1 hN'.2.2.2.1
            · rw [if_pos e2]
              exact ord_max hc0 hd0 hc2 hd2 hc3 hd3 e2 hN.2.2.1 hN'.2.2.1
          · rw [if_pos e1]
            exact ord_min hc0 hd0 hc2 hd2 e1 hN.2.1 hN'.2.1
        · rw [if_pos e0]
          exact ord_kind hc0 hd0 e0 hN.1 hN'.1
end Go.Proofs.YtoijabgcgdgacaaGreatDoor
