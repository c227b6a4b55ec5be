/-
  WALKS, rx: the reference: a pattern's weight; which patterns are valid.
  WALKS, rxa: the reference: how often a part may stand.
  WALKS, rxb: the reference: a pattern's shape; PatternOk.
-/
import Derived.Test.YtoijabgcgdgacaaGreatDoorRB
import Derived.Test.YtoijabgcgdgacaaGreatDoorGL
import Derived.Test.YtoijabgcgdgacaaGreatDoorGH
namespace Go.Proofs.YtoijabgcgdgacaaGreatDoor
open Go.RowKit Go.Proofs.Gram

theorem most_any (a b : Int) (w : World) : Calls Tryz.prog 92 #[.int .i64 a, .int .i64 b] w fun e w' => e = .returned (.int .i64 (max a b)) ∧ w' = w := by
  by_cases h : b < a
  · have hb : decide (b < a) = true := decide_eq_true h
    have R : Hid (max a b = a) := Lib.hid (by omega)
    clear h
    go_enter Tryz.func92, Tryz.ntmps92
    go_wp2_with fail
    go_ret
    exact ⟨by rw [R.out]; rfl, rfl⟩
  · have hb : decide (b < a) = false := decide_eq_false h
    have R : Hid (max a b = b) := Lib.hid (by omega)
    clear h
    go_enter Tryz.func92, Tryz.ntmps92
    go_wp2_with fail
    go_ret
    exact ⟨by rw [R.out]; rfl, rfl⟩

set_option maxRecDepth 100000 in
theorem kidsOk_any (kind : Int) (n : Nat) (w : World) : Calls Tryz.prog 171 #[.int .i64 kind, .int .i64 n] w fun e w' => e = .returned (.bool (decide (cntOk kind n))) ∧ w' = w := by
  have hc : kind = 1 ∨ kind = 2 ∨ kind = 3 ∨ kind = 4 ∨ kind = 5 ∨ kind = 6 ∨ (kind ≠ 1 ∧ kind ≠ 2 ∧ kind ≠ 3 ∧ kind ≠ 4 ∧ kind ≠ 5 ∧ kind ≠ 6) := by omega
  rcases hc with rfl | rfl | rfl | rfl | rfl | rfl | ⟨h1, h2, h3, h4, h5, h6⟩
  all_goals
    try have b1 : (kind == (1 : Int)) = false := by simp [h1]
    try have b2 : (kind == (2 : Int)) = false := by simp [h2]
    try have b3 : (kind == (3 : Int)) = false := by simp [h3]
    try have b4 : (kind == (4 : Int)) = false := by simp [h4]
    try have b5 : (kind == (5 : Int)) = false := by simp [h5]
    try have b6 : (kind == (6 : Int)) = false := by simp [h6]
    go_enter Tryz.func171, Tryz.ntmps171
    go_wp2_with fail
    go_ret
    refine ⟨?_, rfl⟩
    refine congrArg (fun b => Ending.returned (Value.bool b)) ?_
    rw [Bool.eq_iff_iff, decide_eq_true_iff]
    simp only [cntOk, beq_iff_eq, bne_iff_ne, decide_eq_true_iff, Bool.false_eq_true, false_iff]
    first
      | omega
      | (simp; done)
      | (simp; omega)

/-! the reference's weight, plainly -/
mutual
def rwt : Rx → Int
  | .nil => 0
  | .mk kind _ mn mx kids => if kind = 1 then 1 else match rwtL kids 0 with | none => 61 | some n => (if kind = 6 then n * max (max mn mx) 1 else n) + 1
def rwtL : List Rx → Int → Option Int
  | [], n => some n
  | k :: l, n => if 60 < n + rwt k then none else rwtL l (n + rwt k)
end

theorem rwtL_snoc (t : Rx) : ∀ (l : List Rx) (n m : Int), rwtL l n = some m → rwtL (l ++ [t]) n = if 60 < m + rwt t then none else some (m + rwt t)
  | [], n, m, h => by
    simp only [rwtL] at h
    cases h
    simp only [List.nil_append, rwtL]
  | k :: l, n, m, h => by
    rw [rwtL] at h
    rw [List.cons_append, rwtL]
    split at h
    · cases h
    · rename_i h1
      rw [if_neg h1]
      exact rwtL_snoc t l _ _ h
theorem rwtL_none (l' : List Rx) : ∀ (l : List Rx) (n : Int), rwtL l n = none → rwtL (l ++ l') n = none
  | [], n, h => by simp [rwtL] at h
  | k :: l, n, h => by
    rw [rwtL] at h
    rw [List.cons_append, rwtL]
    split at h
    · rename_i h1; rw [if_pos h1]
    · rename_i h1; rw [if_neg h1]; exact rwtL_none l' l _ h

theorem rwt_facts : ∀ (n : Nat) (t : Rx), SizeOf.sizeOf t ≤ n → ∀ d, Shp d t → 0 ≤ rwt t ∧ rwt t ≤ 3001 ∧ min (rwt t) 61 = wt t := by
  intro n
  induction n with
  | zero => intro t h; cases t <;> simp at h
  | succ n ih =>
    intro t hsz d hsh
    cases t with
    | nil => simp [Shp] at hsh
    | mk kind set mn mx kids =>
      obtain ⟨_, _, _, _, htm, hshl⟩ := hsh
      simp only [Rx.mk.sizeOf_spec] at hsz
      have hL : ∀ (l : List Rx) (m : Int), SizeOf.sizeOf l ≤ n → ShpL (d + 1) l → 0 ≤ m → m ≤ 60 → (∃ r, rwtL l m = some r ∧ 0 ≤ r ∧ r ≤ 60 ∧ wtL l m = r) ∨ (rwtL l m = none ∧ wtL l m = 61) := by
        intro l
        induction l with
        | nil => intro m _ _ h0 h1; exact .inl ⟨m, rfl, h0, h1, rfl⟩
        | cons k l ihl =>
          intro m hs hsl h0 h1
          simp only [List.cons.sizeOf_spec] at hs
          obtain ⟨a1, a2, a3⟩ := ih k (by omega) (d + 1) hsl.1
          rw [rwtL, wtL]
          by_cases h : 60 < m + rwt k
          · rw [if_pos h]
            refine .inr ⟨rfl, ?_⟩
            have e : min (m + wt k) 61 = 61 := by omega
            rw [e]
            have hstay : ∀ (l : List Rx), SizeOf.sizeOf l ≤ n → ShpL (d + 1) l → wtL l 61 = 61 := by
              intro l
              induction l with
              | nil => intro _ _; rfl
              | cons k l ihl2 =>
                intro hs hsl
                simp only [List.cons.sizeOf_spec] at hs
                obtain ⟨b1, b2, b3⟩ := ih k (by omega) (d + 1) hsl.1
                rw [wtL, show min (61 + wt k) 61 = 61 by omega]
                exact ihl2 (by omega) hsl.2
            exact hstay l (by omega) hsl.2
          · rw [if_neg h]
            have e : min (m + wt k) 61 = m + rwt k := by omega
            rw [e]
            exact ihl (m + rwt k) (by omega) hsl.2 (by omega) (by omega)
      rw [rwt, wt]
      by_cases h1 : kind = 1
      · rw [if_pos h1, if_pos h1]; omega
      · rw [if_neg h1, if_neg h1]
        rcases hL kids 0 (by omega) hshl (by omega) (by omega) with ⟨r, e1, r0, r1, e2⟩ | ⟨e1, e2⟩
        · rw [e1, e2]
          simp only
          by_cases h6 : kind = 6
          · rw [if_pos h6]
            rw [if_pos h6] at htm
            unfold timesOk at htm
            have hm : 1 ≤ max (max mn mx) 1 ∧ max (max mn mx) 1 ≤ 50 := by omega
            have hm1 : 0 ≤ r * max (max mn mx) 1 := Int.mul_nonneg r0 (by omega)
            have hm2 : r * max (max mn mx) 1 ≤ 60 * 50 := Int.mul_le_mul r1 hm.2 (by omega) (by omega)
            exact ⟨by omega, by omega, trivial⟩
          · rw [if_neg h6]; exact ⟨by omega, by omega, trivial⟩
        · rw [e1, e2]
          simp only
          by_cases h6 : kind = 6
          · rw [if_pos h6]
            have : 61 * 1 ≤ 61 * max (max mn mx) 1 := Int.mul_le_mul_of_nonneg_left (by omega) (by omega)
            omega
          · rw [if_neg h6]; omega

def RWtC (t : Rx) : Prop := ∀ (d : Nat) (v : Value) (okk : Nat → Prop) (w : World), IsRe w okk v t → Shp d t →
  Calls Tryz.prog 42 #[v] w fun e w' => e = .returned (.int .i64 (rwt t)) ∧ ∃ q, w' = w.drewN q

set_option maxRecDepth 100000 in
set_option maxHeartbeats 4000000 in
theorem rweight_any : ∀ (n : Nat) (t : Rx), SizeOf.sizeOf t ≤ n → RWtC t := by
  intro n
  induction n with
  | zero => intro t h; cases t <;> simp at h
  | succ n ih =>
    intro t hsz d v okk w hre hsh
    cases t with
    | nil => exact absurd hsh (by simp [Shp])
    | mk kind set mn mx kids =>
      obtain ⟨b, sv, kv, ps, rfl, hb, hok, hrs, hkc, hpl, hkid⟩ := hre.inv
      obtain ⟨_, _, _, _, htm, hshl⟩ := hsh
      have hkk : w.cell? ⟨b, 0, none⟩ = some (.int .i64 kind) := by simp [World.cell?, hb]
      have hk2 : w.cell? ⟨b, 2, none⟩ = some (.int .i64 mn) := by simp [World.cell?, hb]
      have hk3 : w.cell? ⟨b, 3, none⟩ = some (.int .i64 mx) := by simp [World.cell?, hb]
      have hk4 : w.cell? ⟨b, 4, none⟩ = some kv := by simp [World.cell?, hb]
      obtain ⟨A, cap, rfl, hkl, hcs⟩ := cells_open hkc
      simp only [Rx.mk.sizeOf_spec] at hsz
      have hIH : ∀ (k : Nat) (u : Value) (t : Rx), ps[k]? = some u → kids[k]? = some t → (0 ≤ rwt t ∧ rwt t ≤ 3001) ∧ ∀ q, Calls Tryz.prog 42 #[u] (w.drewN q) fun e w' => e = .returned (.int .i64 (rwt t)) ∧ ∃ q', w' = (w.drewN q).drewN q' := by
        intro k u t hu ht
        have hst := shpL_iff.1 hshl k t ht
        have hf := rwt_facts _ t (Nat.le_refl _) _ hst
        exact ⟨⟨hf.1, hf.2.1⟩, fun q => ih t (by have := mem_size ht; omega) (d + 1) u okk (w.drewN q) ((hkid k u t hu ht).kp ((Kp.refl noB w).drewN q) fun _ _ _ => noB_not _) hst⟩
      have HIH := Lib.hid hIH
      have HTM := Lib.hid htm
      clear hIH hkid hshl hre hrs hkc htm hb ih hsz
      by_cases h1 : kind = 1
      · subst h1
        have hw1 : rwt (.mk 1 set mn mx kids) = 1 := by simp [rwt]
        rw [hw1]
        go_enter Tryz.func42, Tryz.ntmps42
        go_wp2_with fail
        go_ret
        exact ⟨rfl, 0, rfl⟩
      have hb1 : (kind == (1 : Int)) = false := by simp [h1]
      have HW : Hid (∀ r, rwtL kids 0 = r → rwt (.mk kind set mn mx kids) = match r with | none => 61 | some n => (if kind = 6 then n * max (max mn mx) 1 else n) + 1) := Lib.hid fun r hr => by rw [rwt, if_neg h1, hr]
      clear h1
      go_enter Tryz.func42, Tryz.ntmps42
      go_wp2_with fail
      go_loopw [3, 4] (fun x c wr => ∃ (k q : Nat) (m : Int), k ≤ kids.length ∧ c = .int .i64 k ∧ x = .int .i64 m ∧ 0 ≤ m ∧ m ≤ 60 ∧ Hid (rwtL (kids.take k) 0 = some m) ∧ wr = w.drewN q) (fun _ c _ => kids.length - (intOf c).toNat)
      case atStart => exact ⟨0, 0, 0, Nat.zero_le _, rfl, rfl, by omega, by omega, Lib.hid rfl, rfl⟩
      case round =>
        obtain ⟨k, q, m, hk, rfl, rfl, hm0, hm1, HM, rfl⟩ := hrel
        rcases Nat.lt_or_ge k kids.length with hlt | hge
        · have hb2 : decide ((k : Int) < (kids.length : Int)) = true := decide_eq_true (by omega)
          obtain ⟨t, ht⟩ : ∃ t, kids[k]? = some t := ⟨kids[k], by simp [hlt]⟩
          obtain ⟨u, hu⟩ : ∃ u, ps[k]? = some u := ⟨ps[k]'(by omega), by simp⟩
          obtain ⟨g, off, rfl, _, _, hc⟩ := hcs k u hu
          obtain ⟨hbt, hcall⟩ := HIH.out k u t hu ht
          have HC := Lib.hid (hcall q)
          have HSN := Lib.hid (rwtL_snoc t (kids.take k) 0 m HM.out)
          have HTK := Lib.hid (take_snoc kids k t ht)
          have HREST : Hid (rwtL (kids.take (k + 1)) 0 = none → rwtL kids 0 = none) := Lib.hid fun h => by
            have := rwtL_none (kids.drop (k + 1)) _ 0 h
            rwa [List.take_append_drop] at this
          generalize rwt t = x at *
          have hwr : IntKind.i64.wrap (m + x) = m + x := by rw [IntKind.wrap_i64]; omega
          clear hcs hcall hu ht
          by_cases h60 : 60 < m + x
          · have hb3 : decide (60 < m + x) = true := decide_eq_true h60
            have R : Hid (rwt (.mk kind set mn mx kids) = 61) := Lib.hid (by
              have h := HSN.out
              rw [if_pos h60, ← HTK.out] at h
              rw [HW.out none (HREST.out h)])
            clear h60
            go_wp2_with fail
            refine HC.out.mono ?_
            rintro e w' ⟨rfl, q', rfl⟩
            go_wp2_with fail
            go_ret
            exact ⟨by rw [R.out]; rfl, q + q', by simp⟩
          · have hb3 : decide (60 < m + x) = false := decide_eq_false h60
            have HN : Hid (rwtL (kids.take (k + 1)) 0 = some (m + x)) := Lib.hid (by
              have h := HSN.out
              rw [if_neg h60, ← HTK.out] at h
              exact h)
            have hx0 := hbt.1
            have hx1 : m + x ≤ 60 := by omega
            clear h60 hbt
            go_wp2_with fail
            refine HC.out.mono ?_
            rintro e w' ⟨rfl, q', rfl⟩
            go_wp2_with fail
            go_roundw
            case rel => exact ⟨k + 1, q + q', m + x, by omega, by simp, rfl, by omega, hx1, HN, by simp⟩
            case measure => simp [intOf]; omega
        · obtain rfl : k = kids.length := by omega
          have hb2 : decide ((kids.length : Int) < (kids.length : Int)) = false := decide_eq_false (by omega)
          have hR := HW.out (some m) (by have := HM.out; rwa [List.take_length] at this)
          simp only at hR
          clear hcs
          by_cases h6 : kind = 6
          · subst h6
            have htm := HTM.out
            rw [if_pos rfl] at htm hR
            unfold timesOk at htm
            have hm : 1 ≤ max (max mn mx) 1 ∧ max (max mn mx) 1 ≤ 50 := by omega
            have hp1 : 0 ≤ m * max (max mn mx) 1 := Int.mul_nonneg hm0 (by omega)
            have hp2 : m * max (max mn mx) 1 ≤ 60 * 50 := Int.mul_le_mul hm1 hm.2 (by omega) (by omega)
            have HR := Lib.hid hR
            obtain ⟨y1, hy1⟩ : ∃ y, max mn mx = y := ⟨_, rfl⟩
            obtain ⟨y, hy⟩ : ∃ y, max y1 1 = y := ⟨_, rfl⟩
            rw [hy1, hy] at hp1 hp2
            have HM1 : Hid (∀ n, Calls Tryz.prog 92 #[.int .i64 mn, .int .i64 mx] (w.drewN (q + n)) fun e w' => e = .returned (.int .i64 y1) ∧ ∃ m, w' = w.drewN (q + m)) := Lib.hid fun n => (most_any mn mx _).mono fun e w' ⟨he, hw⟩ => ⟨by rw [he, hy1], n, hw⟩
            have HM2 : Hid (∀ n, Calls Tryz.prog 92 #[.int .i64 y1, .int .i64 1] (w.drewN (q + n)) fun e w' => e = .returned (.int .i64 y) ∧ ∃ m, w' = w.drewN (q + m)) := Lib.hid fun n => (most_any y1 1 _).mono fun e w' ⟨he, hw⟩ => ⟨by rw [he, hy], n, hw⟩
            have HR2 : Hid (rwt (.mk 6 set mn mx kids) = m * y + 1) := Lib.hid (by rw [HR.out, hy1, hy])
            have hw1 : IntKind.i64.wrap (m * y) = m * y := by rw [IntKind.wrap_i64]; omega
            have hw2 : IntKind.i64.wrap (m * y + 1) = m * y + 1 := by rw [IntKind.wrap_i64]; omega
            clear hm htm hy hy1 hp1 hp2 hR
            go_wp2_with fail
            have hk2' : (w.drewN q).cell? ⟨b, 2, none⟩ = some (.int .i64 mn) := hk2
            have hk3' : (w.drewN q).cell? ⟨b, 3, none⟩ = some (.int .i64 mx) := hk3
            go_quiet ((first | (go_at_call 92; with_reducible exact HM1.out _) | (go_at_call 92; with_reducible exact HM2.out _)))
            go_wp2_with fail
            go_ret
            exact ⟨by rw [HR2.out]; rfl, _, rfl⟩
          · have hb6 : (kind == (6 : Int)) = false := by simp [h6]
            rw [if_neg h6] at hR
            have HR := Lib.hid hR
            have hw2 : IntKind.i64.wrap (m + 1) = m + 1 := by rw [IntKind.wrap_i64]; omega
            clear hR h6
            go_wp2_with fail
            go_ret
            exact ⟨by rw [HR.out]; rfl, q, rfl⟩
end Go.Proofs.YtoijabgcgdgacaaGreatDoor

namespace Go.Proofs.YtoijabgcgdgacaaGreatDoor
open Go.RowKit Go.Proofs.Gram

/-- What timesOk answers. -/
def TmP (kind mn mx : Int) : Prop := if kind = 6 then timesOk mn mx else mn = 0 ∧ mx = 0

set_option maxRecDepth 100000 in
theorem rtimesOk_any {b : Nat} {kind mn mx : Int} {w : World} (h0 : w.cell? ⟨b, 0, none⟩ = some (.int .i64 kind)) (h2 : w.cell? ⟨b, 2, none⟩ = some (.int .i64 mn)) (h3 : w.cell? ⟨b, 3, none⟩ = some (.int .i64 mx)) :
    Calls Tryz.prog 172 #[.pointer (some ⟨b, 0, none⟩)] w fun e w' => (∃ bl, e = .returned (.bool bl) ∧ (bl = true ↔ TmP kind mn mx)) ∧ ∃ q, w' = w.drewN q := by
  by_cases h6 : kind = 6
  · have HT : Hid (TmP kind mn mx ↔ timesOk mn mx) := Lib.hid (by unfold TmP; rw [if_pos h6])
    have hb6 : (kind != (6 : Int)) = false := by simp [h6]
    clear h6
    by_cases a : mn < 0
    · have b1 : decide (mn < (0 : Int)) = true := decide_eq_true a
      have HN : Hid (¬ TmP kind mn mx) := Lib.hid fun h => by have := HT.out.1 h; unfold timesOk at this; omega
      clear a
      go_enter Tryz.func172, Tryz.ntmps172
      go_wp2_with fail
      go_ret
      exact ⟨⟨false, rfl, ⟨fun h => (by cases h), fun h => absurd h HN.out⟩⟩, 0, rfl⟩
    have b1 : decide (mn < (0 : Int)) = false := decide_eq_false a
    by_cases a2 : mn > 50
    · have b2 : decide (mn > (50 : Int)) = true := decide_eq_true a2
      have b2' : decide ((50 : Int) < mn) = true := decide_eq_true a2
      have HN : Hid (¬ TmP kind mn mx) := Lib.hid fun h => by have := HT.out.1 h; unfold timesOk at this; omega
      clear a a2
      go_enter Tryz.func172, Tryz.ntmps172
      go_wp2_with fail
      go_ret
      exact ⟨⟨false, rfl, ⟨fun h => (by cases h), fun h => absurd h HN.out⟩⟩, 0, rfl⟩
    have b2 : decide (mn > (50 : Int)) = false := decide_eq_false a2
    have b2' : decide ((50 : Int) < mn) = false := decide_eq_false a2
    by_cases c1 : mx = -1
    · have HY : Hid (TmP kind mn mx) := Lib.hid (HT.out.2 (by unfold timesOk; omega))
      have d1 : (mx == (-1 : Int)) = true := by simp [c1]
      clear a a2 c1
      go_enter Tryz.func172, Tryz.ntmps172
      go_wp2_with fail
      go_quiet (fail)
      go_wp2_with fail
      go_ret
      exact ⟨⟨true, rfl, ⟨fun _ => HY.out, fun _ => rfl⟩⟩, _, rfl⟩
    have d1 : (mx == (-1 : Int)) = false := by simp [c1]
    by_cases c2 : mn ≤ mx
    · have d2 : decide (mx ≥ mn) = true := decide_eq_true c2
      have d2' : decide (mn ≤ mx) = true := decide_eq_true c2
      by_cases c3 : 1 ≤ mx
      · have d3 : decide (mx ≥ (1 : Int)) = true := decide_eq_true c3
        have d3' : decide ((1 : Int) ≤ mx) = true := decide_eq_true c3
        by_cases c4 : mx ≤ 50
        · have d4 : decide (mx ≤ (50 : Int)) = true := decide_eq_true c4
          have HY : Hid (TmP kind mn mx) := Lib.hid (HT.out.2 (by unfold timesOk; omega))
          clear a a2 c1 c2 c3 c4
          go_enter Tryz.func172, Tryz.ntmps172
          go_wp2_with fail
          go_quiet (fail)
          go_wp2_with fail
          go_ret
          exact ⟨⟨true, rfl, ⟨fun _ => HY.out, fun _ => rfl⟩⟩, _, rfl⟩
        · have d4 : decide (mx ≤ (50 : Int)) = false := decide_eq_false c4
          have HN : Hid (¬ TmP kind mn mx) := Lib.hid fun h => by have := HT.out.1 h; unfold timesOk at this; omega
          clear a a2 c1 c2 c3 c4
          go_enter Tryz.func172, Tryz.ntmps172
          go_wp2_with fail
          go_quiet (fail)
          go_wp2_with fail
          go_ret
          exact ⟨⟨false, rfl, ⟨fun h => (by cases h), fun h => absurd h HN.out⟩⟩, _, rfl⟩
      · have d3 : decide (mx ≥ (1 : Int)) = false := decide_eq_false c3
        have d3' : decide ((1 : Int) ≤ mx) = false := decide_eq_false c3
        have HN : Hid (¬ TmP kind mn mx) := Lib.hid fun h => by have := HT.out.1 h; unfold timesOk at this; omega
        clear a a2 c1 c2 c3
        go_enter Tryz.func172, Tryz.ntmps172
        go_wp2_with fail
        go_quiet (fail)
        go_wp2_with fail
        go_ret
        exact ⟨⟨false, rfl, ⟨fun h => (by cases h), fun h => absurd h HN.out⟩⟩, _, rfl⟩
    · have d2 : decide (mx ≥ mn) = false := decide_eq_false c2
      have d2' : decide (mn ≤ mx) = false := decide_eq_false c2
      have HN : Hid (¬ TmP kind mn mx) := Lib.hid fun h => by have := HT.out.1 h; unfold timesOk at this; omega
      clear a a2 c1 c2
      go_enter Tryz.func172, Tryz.ntmps172
      go_wp2_with fail
      go_quiet (fail)
      go_wp2_with fail
      go_ret
      exact ⟨⟨false, rfl, ⟨fun h => (by cases h), fun h => absurd h HN.out⟩⟩, _, rfl⟩
  · have HT : Hid (TmP kind mn mx ↔ (mn = 0 ∧ mx = 0)) := Lib.hid (by unfold TmP; rw [if_neg h6])
    have hb6 : (kind != (6 : Int)) = true := by simp [h6]
    clear h6
    by_cases c1 : mn = 0
    · have d1 : (mn == (0 : Int)) = true := by simp [c1]
      by_cases c2 : mx = 0
      · have d2 : (mx == (0 : Int)) = true := by simp [c2]
        have HY : Hid (TmP kind mn mx) := Lib.hid (HT.out.2 ⟨c1, c2⟩)
        clear c1 c2
        go_enter Tryz.func172, Tryz.ntmps172
        go_wp2_with fail
        go_ret
        exact ⟨⟨true, rfl, ⟨fun _ => HY.out, fun _ => rfl⟩⟩, 0, rfl⟩
      · have d2 : (mx == (0 : Int)) = false := by simp [c2]
        have HN : Hid (¬ TmP kind mn mx) := Lib.hid fun h => c2 (HT.out.1 h).2
        clear c1 c2
        go_enter Tryz.func172, Tryz.ntmps172
        go_wp2_with fail
        go_ret
        exact ⟨⟨false, rfl, ⟨fun h => (by cases h), fun h => absurd h HN.out⟩⟩, 0, rfl⟩
    · have d1 : (mn == (0 : Int)) = false := by simp [c1]
      have HN : Hid (¬ TmP kind mn mx) := Lib.hid fun h => c1 (HT.out.1 h).1
      clear c1
      go_enter Tryz.func172, Tryz.ntmps172
      go_wp2_with fail
      go_ret
      exact ⟨⟨false, rfl, ⟨fun h => (by cases h), fun h => absurd h HN.out⟩⟩, 0, rfl⟩
end Go.Proofs.YtoijabgcgdgacaaGreatDoor

namespace Go.Proofs.YtoijabgcgdgacaaGreatDoor
open Go.RowKit Go.Proofs.Gram

/-- What is asked of a node, but for how deep it lies. -/
def NodP (kind : Int) (set : List (Int × Int)) (mn mx : Int) (kids : List Rx) (d : Nat) : Prop :=
  cntOk kind kids.length ∧ (kind = 1 ∨ set = []) ∧ canonOf (inR set) = set ∧ TmP kind mn mx ∧ ShpL (d + 1) kids

def RShC (t : Rx) : Prop := ∀ (d : Nat) (v : Value) (okk : Nat → Prop) (w : World), d ≤ 31 → IsRe w okk v t → Small t →
  Calls Tryz.prog 118 #[v, .int .i64 d] w fun e w' => ∃ bl, e = .returned (.bool bl) ∧ (bl = true ↔ Shp d t) ∧ Kp noB w w'

set_option maxRecDepth 100000 in
theorem rshaped_nil (d : Nat) (w : World) : Calls Tryz.prog 118 #[.pointer none, .int .i64 d] w fun e w' => e = .returned (.bool false) ∧ Kp noB w w' := by
  go_enter Tryz.func118, Tryz.ntmps118
  go_wp2_with fail
  go_ret
  exact ⟨rfl, Kp.refl _ _⟩

section
variable {w : World} {b d : Nat} {kind mn mx : Int} {n : Nat}

set_option maxRecDepth 100000 in
theorem rshaped_deep (hd : 30 < d) : Calls Tryz.prog 118 #[.pointer (some ⟨b, 0, none⟩), .int .i64 d] w fun e w' => e = .returned (.bool false) ∧ Kp noB w w' := by
  have hb : decide ((d : Int) > 30) = true := decide_eq_true (by omega)
  have hb' : decide ((30 : Int) < d) = true := decide_eq_true (by omega)
  clear hd
  go_enter Tryz.func118, Tryz.ntmps118
  go_wp2_with fail
  go_ret
  exact ⟨rfl, Kp.refl _ _⟩

set_option maxRecDepth 100000 in
set_option maxHeartbeats 4000000 in
theorem rshaped_main {okk : Nat → Prop} {set : List (Int × Int)} (hd : d ≤ 30) (hb0 : w.cell? ⟨b, 0, none⟩ = some (.int .i64 kind)) {A : Option Addr} {cap : Nat} (hb4 : w.cell? ⟨b, 4, none⟩ = some (.slice A n cap))
    {A2 : Option Addr} {n2 cap2 : Nat} (hb1 : w.cell? ⟨b, 1, none⟩ = some (.slice A2 n2 cap2)) (hn2 : n2 = set.length) (hr : Rngs w okk (.slice A2 n2 cap2) set) (hs : set.length ≤ 16777216)
    (hb2 : w.cell? ⟨b, 2, none⟩ = some (.int .i64 mn)) (hb3 : w.cell? ⟨b, 3, none⟩ = some (.int .i64 mx)) {kids : List Rx} (hnk : n = kids.length) (hnl : n ≤ 9223372036854775807)
    (HKC : Hid (∀ k t, kids[k]? = some t → ∃ g off u, A = some ⟨g, off, none⟩ ∧ g < w.heap.size ∧ w.cell? ⟨g, off + k, none⟩ = some u ∧
      ∀ W, Kp noB w W → Calls Tryz.prog 118 #[u, .int .i64 ((d : Int) + 1)] W fun e w' => ∃ bl, e = .returned (.bool bl) ∧ (bl = true ↔ Shp (d + 1) t) ∧ Kp noB W w')) :
    Calls Tryz.prog 118 #[.pointer (some ⟨b, 0, none⟩), .int .i64 d] w fun e w' => ∃ bl, e = .returned (.bool bl) ∧ (bl = true ↔ NodP kind set mn mx kids d) ∧ Kp noB w w' := by
  have HDW := Lib.hid (by rw [IntKind.wrap_i64]; omega : IntKind.i64.wrap ((d : Int) + 1) = (d : Int) + 1)
  have HNK := Lib.hid hnk
  have HN2 := Lib.hid hn2
  have HNL := Lib.hid hnl
  have hb : decide ((d : Int) > 30) = false := decide_eq_false (by omega)
  have hb' : decide ((30 : Int) < d) = false := decide_eq_false (by omega)
  obtain ⟨bc, HBC⟩ : ∃ bc, Hid (decide (cntOk kind n) = bc) := ⟨_, rfl⟩
  obtain ⟨bs, HBS⟩ : ∃ bs, Hid (decide (canonOf (inR set) = set) = bs) := ⟨_, rfl⟩
  have HC : Hid (∀ W, Calls Tryz.prog 171 #[.int .i64 kind, .int .i64 n] W fun e w' => e = .returned (.bool bc) ∧ w' = W) := Lib.hid fun W => by rw [← HBC.out]; exact kidsOk_any kind n W
  have HCAN : Hid (∀ W, Kp noB w W → Calls Tryz.prog 173 #[.slice A2 n2 cap2] W fun e w' => ∃ u, e = .returned u ∧ Rngs w' (fun k => W.heap.size ≤ k) u (canonOf (inR set)) ∧ Kp noB W w') :=
    Lib.hid fun W hk => rcanon_any _ set okk W (Cells.kp hr hk fun _ _ _ => noB_not _) hs
  have HEQ : Hid (∀ (W : World) (u : Value) (k1 : Nat → Prop), Kp noB w W → Rngs W k1 u (canonOf (inR set)) → Calls Tryz.prog 56 #[u, .slice A2 n2 cap2] W fun e w' => e = .returned (.bool bs) ∧ ∃ q, w' = W.drewN q) :=
    Lib.hid fun W u k1 hk hu => by
      rw [← HBS.out]
      have := sameSet_any u (.slice A2 n2 cap2) (canonOf (inR set)) set k1 okk W hu (Cells.kp hr hk fun _ _ _ => noB_not _) (by have := (canonOf_canon set).2.2; omega) (by omega)
      exact this
  have HRR := Lib.hid hr
  clear hnk hnl hd hr hn2 hs
  go_enter Tryz.func118, Tryz.ntmps118
  go_wp2_with fail
  go_quiet ((go_at_call 171; refine Calls.quiet_of_same (HC.out _)))
  obtain ⟨W, HW⟩ : ∃ W, Hid (w.drewN nq = W) := ⟨_, rfl⟩
  have hkW : Kp noB w W := by rw [← HW.out]; exact (Kp.refl _ _).drewN _
  have c0 := hkW.cell hb0 (noB_not _)
  have c1 := hkW.cell hb1 (noB_not _)
  have c2 := hkW.cell hb2 (noB_not _)
  have c3 := hkW.cell hb3 (noB_not _)
  rw [HW.out]
  have HTM := Lib.hid (rtimesOk_any c0 c2 c3)
  clear c0 c2 c3
  go_wp2_with fail
  refine HTM.out.mono ?_
  rintro e w1 ⟨⟨bt, rfl, hbt⟩, q1, hw1⟩
  have HBT := Lib.hid hbt
  have hk1 : Kp noB w w1 := by rw [hw1]; exact hkW.drewN _
  clear hbt hw1 c1 hkW HW HTM
  have c1 := hk1.cell hb1 (noB_not _)
  have HCA := Lib.hid (HCAN.out w1 hk1)
  go_wp2_with fail
  refine HCA.out.mono ?_
  rintro e w2 ⟨u, rfl, hru, hk12⟩
  have hk2 := hk1.trans hk12
  have HE := Lib.hid (HEQ.out w2 u _ hk2 hru)
  clear c1 hk1 hk12 hru HCA
  have c1 := hk2.cell hb1 (noB_not _)
  go_wp2_with fail
  refine HE.out.mono ?_
  rintro e w3 ⟨rfl, q3, hw3⟩
  have hk3 : Kp noB w w3 := by rw [hw3]; exact hk2.drewN _
  clear hk2 hw3 c1 HE
  have c0 := hk3.cell hb0 (noB_not _)
  have c1 := hk3.cell hb1 (noB_not _)
  have c4 := hk3.cell hb4 (noB_not _)
  cases bc with
  | false =>
    have HN : Hid (¬ NodP kind set mn mx kids d) := Lib.hid fun h => by have := of_decide_eq_false HBC.out; rw [HNK.out] at this; exact this h.1
    go_wp2_with fail
    go_ret
    exact ⟨false, rfl, ⟨fun h => (by cases h), fun h => absurd h HN.out⟩, hk3⟩
  | true =>
  cases bt with
  | false =>
    have HN : Hid (¬ NodP kind set mn mx kids d) := Lib.hid fun h => by have := HBT.out.2 h.2.2.2.1; cases this
    go_wp2_with fail
    go_ret
    exact ⟨false, rfl, ⟨fun h => (by cases h), fun h => absurd h HN.out⟩, hk3⟩
  | true =>
  cases bs with
  | false =>
    have HN : Hid (¬ NodP kind set mn mx kids d) := Lib.hid fun h => of_decide_eq_false HBS.out h.2.2.1
    go_wp2_with fail
    go_ret
    exact ⟨false, rfl, ⟨fun h => (by cases h), fun h => absurd h HN.out⟩, hk3⟩
  | true =>
  by_cases hp : kind ≠ 1 ∧ 0 < n2
  · have HN : Hid (¬ NodP kind set mn mx kids d) := Lib.hid fun h => h.2.1.elim hp.1 fun h => by have := HN2.out; rw [h] at this; simp at this; omega
    have e1 : (kind != (1 : Int)) = true := by simp [hp.1]
    have e2 : decide ((n2 : Int) > 0) = true := decide_eq_true (by omega)
    have e3 : decide ((0 : Int) < (n2 : Int)) = true := decide_eq_true (by omega)
    have e4 : decide (0 < n2) = true := decide_eq_true hp.2
    clear hp
    go_wp2_with fail
    go_ret
    exact ⟨false, rfl, ⟨fun h => (by cases h), fun h => absurd h HN.out⟩, hk3⟩
  · have hq : (kind != (1 : Int)) = false ∨ ((kind != (1 : Int)) = true ∧ ¬ 0 < n2) := by
      by_cases h : kind = 1
      · exact .inl (by simp [h])
      · exact .inr ⟨by simp [h], fun k => hp ⟨h, k⟩⟩
    have HQ : Hid (kind = 1 ∨ set = []) := Lib.hid (by
      by_cases h : kind = 1
      · exact .inl h
      · exact .inr (List.eq_nil_of_length_eq_zero (by have := HN2.out; have : ¬ 0 < n2 := fun k => hp ⟨h, k⟩; omega)))
    have HND : Hid (ShpL (d + 1) kids → NodP kind set mn mx kids d) := Lib.hid fun h => ⟨by have := of_decide_eq_true HBC.out; rw [HNK.out] at this; exact this, HQ.out, of_decide_eq_true HBS.out, HBT.out.1 rfl, h⟩
    clear hp
    have loop : ∀ (v2 : Value) (P : Prop), P → P := fun _ _ h => h
    clear loop
    rcases hq with e1 | ⟨e1, e2⟩
    all_goals
      try have e3 : decide ((n2 : Int) > 0) = false := decide_eq_false (by omega)
      try have e4 : decide ((0 : Int) < (n2 : Int)) = false := decide_eq_false (by omega)
      try have e5 : decide (0 < n2) = false := decide_eq_false (by omega)
      try clear e2
      have hnl := HNL.out
      go_wp2_with fail
      go_loopw [9] (fun c wr => ∃ k : Nat, k ≤ n ∧ c = .int .i64 k ∧ Kp noB w wr ∧ Hid (∀ (i : Nat) (t : Rx), i < k → kids[i]? = some t → Shp (d + 1) t)) (fun c _ => n - (intOf c).toNat)
      case atStart => exact ⟨0, Nat.zero_le _, rfl, hk3, Lib.hid fun i t h => absurd h (Nat.not_lt_zero _)⟩
      case round =>
        obtain ⟨k, hk, rfl, hkp, HALL⟩ := hrel
        have c4 := hkp.cell hb4 (noB_not _)
        rcases Nat.lt_or_ge k n with hlt | hge
        · have hb2 : decide ((k : Int) < (n : Int)) = true := decide_eq_true (by omega)
          obtain ⟨t, ht⟩ : ∃ t, kids[k]? = some t := ⟨kids[k]'(by rw [← HNK.out]; exact hlt), by simp⟩
          obtain ⟨g, off, u, rfl, hgl, hcu, hcall⟩ := HKC.out k t ht
          have hcu' := hkp.cell hcu (noB_not _)
          have HC := Lib.hid (hcall wr hkp)
          have HT := Lib.hid ht
          have hdw := HDW.out
          clear hcall hcu ht
          go_wp2_with fail
          refine HC.out.mono ?_
          rintro e w5 ⟨bl, rfl, hbl, hk5⟩
          cases bl with
          | false =>
            have HN : Hid (¬ Shp (d + 1) t) := Lib.hid fun h => (by have := hbl.2 h; cases this)
            clear hbl
            go_wp2_with fail
            go_ret
            exact ⟨false, rfl, ⟨fun h => (by cases h), fun h => absurd (shpL_iff.1 h.2.2.2.2 k t HT.out) HN.out⟩, hkp.trans hk5⟩
          | true =>
            have HS := Lib.hid (hbl.1 rfl)
            have HALL2 : Hid (∀ (i : Nat) (t : Rx), i < k + 1 → kids[i]? = some t → Shp (d + 1) t) := Lib.hid (by
              intro i t' hi ht'
              rcases Nat.lt_or_ge i k with h | h
              · exact HALL.out i t' h ht'
              · obtain rfl : i = k := by omega
                rw [HT.out] at ht'
                cases ht'
                exact HS.out)
            clear hbl
            go_wp2_with fail
            go_roundw
            case rel => exact ⟨k + 1, by omega, by simp, hkp.trans hk5, HALL2⟩
            case measure => simp [intOf]; omega
        · obtain rfl : k = n := by omega
          have hb2 : decide ((k : Int) < (k : Int)) = false := decide_eq_false (by omega)
          have HL := Lib.hid (shpL_iff.2 fun i t ht => HALL.out i t (by have := (List.getElem?_eq_some_iff.1 ht).1; rw [HNK.out]; exact this) ht : ShpL (d + 1) kids)
          go_wp2_with fail
          go_ret
          exact ⟨true, rfl, ⟨fun _ => HND.out HL.out, fun _ => rfl⟩, hkp⟩
end

theorem rshaped_any : ∀ (n : Nat) (t : Rx), SizeOf.sizeOf t ≤ n → RShC t := by
  intro n
  induction n with
  | zero => intro t h; cases t <;> simp at h
  | succ n ih =>
    intro t hsz d v okk w hd hre hsm
    cases t with
    | nil =>
      cases hre
      exact (rshaped_nil d w).mono fun e w' ⟨he, hk⟩ => ⟨false, he, ⟨fun h => (by cases h), fun h => (by simp [Shp] at h)⟩, hk⟩
    | mk kind set mn mx kids =>
      obtain ⟨b, sv, kv, ps, rfl, hb, hok, hrs, hkc, hpl, hkid⟩ := hre.inv
      have hk0 : w.cell? ⟨b, 0, none⟩ = some (.int .i64 kind) := by simp [World.cell?, hb]
      have hk1 : w.cell? ⟨b, 1, none⟩ = some sv := by simp [World.cell?, hb]
      have hk2 : w.cell? ⟨b, 2, none⟩ = some (.int .i64 mn) := by simp [World.cell?, hb]
      have hk3 : w.cell? ⟨b, 3, none⟩ = some (.int .i64 mx) := by simp [World.cell?, hb]
      have hk4 : w.cell? ⟨b, 4, none⟩ = some kv := by simp [World.cell?, hb]
      obtain ⟨A, cap, rfl, hkl, hcs⟩ := cells_open hkc
      obtain ⟨A2, cap2, rfl, _⟩ := rngs_open hrs
      simp only [Rx.mk.sizeOf_spec] at hsz
      by_cases h30 : d ≤ 30
      · refine (rshaped_main (okk := okk) (kids := kids) h30 hk0 hk4 hk1 rfl hrs hsm.1 hk2 hk3 rfl hkl (Lib.hid ?_)).mono ?_
        · intro k t ht
          obtain ⟨u, hu⟩ : ∃ u, ps[k]? = some u := ⟨ps[k]'(by have := (List.getElem?_eq_some_iff.1 ht).1; omega), by simp⟩
          obtain ⟨g, off, rfl, _, hgl, hcu⟩ := hcs k u hu
          refine ⟨g, off, u, rfl, hgl, hcu, fun W hW => ?_⟩
          exact ih t (by have := mem_size ht; omega) (d + 1) u okk W (by omega) ((hkid k u t hu ht).kp hW fun _ _ _ => noB_not _) (smallL_at hsm.2 ht)
        · rintro e w' ⟨bl, he, hbl, hk⟩
          exact ⟨bl, he, hbl.trans ⟨fun h => ⟨h30, h⟩, fun h => h.2⟩, hk⟩
      · exact (rshaped_deep (by omega)).mono fun e w' ⟨he, hk⟩ => ⟨false, he, ⟨fun h => (by cases h), fun h => absurd h.1 h30⟩, hk⟩

set_option maxRecDepth 100000 in
theorem rok_any (t : Rx) (v : Value) (okk : Nat → Prop) (w : World) (hre : IsRe w okk v t) (hsm : Small t) :
    Calls Tryz.prog 59 #[v] w fun e w' => ∃ bl, e = .returned (.bool bl) ∧ (bl = true ↔ OkR t) ∧ Kp noB w w' := by
  have HS := Lib.hid (rshaped_any _ t (Nat.le_refl _) 0 v okk w (by omega) hre hsm)
  have HW := Lib.hid (rweight_any _ t (Nat.le_refl _))
  have HRE := Lib.hid hre
  clear hre
  go_enter Tryz.func59, Tryz.ntmps59
  go_wp2_with fail
  refine HS.out.mono ?_
  rintro e w1 ⟨bl, rfl, hbl, hk1⟩
  cases bl with
  | false =>
    have HN : Hid (¬ OkR t) := Lib.hid fun h => (by have := hbl.2 h.1; cases this)
    clear hbl
    go_wp2_with fail
    go_ret
    exact ⟨false, rfl, ⟨fun h => (by cases h), fun h => absurd h HN.out⟩, hk1⟩
  | true =>
    have HSH := Lib.hid (hbl.1 rfl)
    have HWT := Lib.hid (HW.out 0 v okk w1 (HRE.out.kp hk1 fun _ _ _ => noB_not _) HSH.out)
    have HF := Lib.hid (rwt_facts _ t (Nat.le_refl _) 0 HSH.out)
    clear hbl
    go_wp2_with fail
    refine HWT.out.mono ?_
    rintro e w2 ⟨rfl, q, rfl⟩
    by_cases h : rwt t ≤ 60
    · have hb : decide (rwt t ≤ (60 : Int)) = true := decide_eq_true h
      have HO : Hid (OkR t) := Lib.hid ⟨HSH.out, by have := HF.out.2.2; omega⟩
      clear h
      go_wp2_with fail
      go_ret
      exact ⟨true, rfl, ⟨fun _ => HO.out, fun _ => rfl⟩, hk1.drewN _⟩
    · have hb : decide (rwt t ≤ (60 : Int)) = false := decide_eq_false h
      have HO : Hid (¬ OkR t) := Lib.hid fun k => h (by have := HF.out.2.2; have := k.2; omega)
      clear h
      go_wp2_with fail
      go_ret
      exact ⟨false, rfl, ⟨fun h => (by cases h), fun h => absurd h HO.out⟩, hk1.drewN _⟩
end Go.Proofs.YtoijabgcgdgacaaGreatDoor
