/-
  WALKS, xd: the reference's comparison: of sets; of patterns.
-/
import Derived.Test.YtoijabgcgdgacaaGreatDoorGH
namespace Go.Proofs.YtoijabgcgdgacaaGreatDoor
open Go.RowKit Go.Proofs.Gram Go.Lib

set_option maxRecDepth 100000 in
set_option maxHeartbeats 1000000 in
theorem sameSet_any (u v : Value) (l l' : List (Int × Int)) (k1 k2 : Nat → Prop) (w : World) (hr : Rngs w k1 u l) (hr' : Rngs w k2 v l') (hl : l.length ≤ 16777217) (hl' : l'.length ≤ 16777217) :
    Calls Tryz.prog 56 #[u, v] w fun e w' => e = .returned (.bool (decide (l = l'))) ∧ ∃ q, w' = w.drewN q := by
  obtain ⟨A, cap, rfl, hc⟩ := rngs_open hr
  obtain ⟨A', cap', rfl, hc'⟩ := rngs_open hr'
  by_cases hn : l.length = l'.length
  · obtain ⟨n, hn1⟩ : ∃ n, n = l.length := ⟨_, rfl⟩
    have hn2 : n = l'.length := hn1.trans hn
    have HN1 := Lib.hid hn1
    have HN2 := Lib.hid hn2
    have HC := Lib.hid hc
    have HC' := Lib.hid hc'
    rw [← hn1] at hl ⊢
    rw [← hn2]
    have hb : ((n : Int) == (n : Int)) = true := beq_iff_eq.2 rfl
    have hb' : ((n : Int) != (n : Int)) = false := by simp
    clear hc hc' hr hr' hl' hn hn1 hn2
    go_enter Tryz.func56, Tryz.ntmps56
    go_wp2_with fail
    go_loopw [5] (fun c wr => ∃ k : Nat, k ≤ n ∧ c = .int .i64 k ∧ Hid (l.take k = l'.take k) ∧ ∃ q, wr = w.drewN q)
      (fun c _ => n - (intOf c).toNat)
    case atStart => exact ⟨0, Nat.zero_le _, rfl, Lib.hid rfl, 0, rfl⟩
    case round =>
      obtain ⟨k, hk, rfl, HT, q, rfl⟩ := hrel
      rcases Nat.lt_or_ge k n with hlt | hge
      · obtain ⟨r, hrk⟩ : ∃ r, l[k]? = some r := ⟨l[k]'(by rw [← HN1.out]; exact hlt), by simp⟩
        obtain ⟨r', hrk'⟩ : ∃ r, l'[k]? = some r := ⟨l'[k]'(by rw [← HN2.out]; exact hlt), by simp⟩
        obtain ⟨g, off, rfl, hg, hgl, hc0, hc1⟩ := HC.out k r hrk
        obtain ⟨g', off', rfl, hg', hgl', hc0', hc1'⟩ := HC'.out k r' hrk'
        have hb1 : decide ((k : Int) < (n : Int)) = true := decide_eq_true (by omega)
        have hneq := fun W => neqR.1 r r' W
        have HK := Lib.hid (And.intro hrk hrk')
        clear hrk hrk'
        obtain ⟨x1, x2⟩ := r
        obtain ⟨y1, y2⟩ := r'
        simp only [enc2] at hneq hc0 hc1 hc0' hc1'
        by_cases he : (x1 == y1 && x2 == y2) = true
        · rw [he] at hneq
          have HE := Lib.hid he
          clear he
          go_wp2_with fail
          go_quiet (fail)
          go_wp2_with fail
          go_roundw
          case rel =>
            refine ⟨k + 1, by omega, by simp, Lib.hid ?_, q + nq, by simp⟩
            have h := HE.out
            simp only [Bool.and_eq_true, beq_iff_eq] at h
            obtain ⟨rfl, rfl⟩ := h
            rw [take_snoc _ _ _ HK.out.1, take_snoc _ _ _ HK.out.2, HT.out]
          case measure => simp only [intOf]; omega
        · have he' : (x1 == y1 && x2 == y2) = false := by simpa using he
          rw [he'] at hneq
          have HE : Hid (decide (l = l') = false) := Lib.hid (decide_eq_false fun h => he (by
            have h1 := HK.out.1
            rw [h, HK.out.2] at h1
            simp only [Option.some.injEq, Prod.mk.injEq] at h1
            simp [h1.1, h1.2]))
          clear he he'
          go_wp2_with fail
          go_quiet (fail)
          go_wp2_with fail
          go_ret
          rw [HE.out]
          exact ⟨rfl, q + nq, by simp⟩
      · have hkn : k = n := by omega
        subst hkn
        have hb1 : decide ((k : Int) < (k : Int)) = false := decide_eq_false (by omega)
        have HE : Hid (decide (l = l') = true) := Lib.hid (decide_eq_true (by
          have h := HT.out
          rw [HN1.out, List.take_length, ← HN1.out, HN2.out, List.take_length] at h
          exact h))
        go_wp2_with fail
        go_ret
        rw [HE.out]
        exact ⟨rfl, q, rfl⟩
  · have hb : ((l.length : Int) != (l'.length : Int)) = true := by simp; omega
    have HE : Hid (decide (l = l') = false) := Lib.hid (decide_eq_false fun h => hn (by rw [h]))
    clear hn hc hc' hr hr' hl hl'
    go_enter Tryz.func56, Tryz.ntmps56
    go_wp2_with fail
    go_ret
    rw [HE.out]
    exact ⟨rfl, 0, rfl⟩
end Go.Proofs.YtoijabgcgdgacaaGreatDoor
