/-
  WALKS, re: the reference's reader: does a sign stand among signs; a digit to the base 16.
  WALKS, rf: the reference's sets: has one a point; is a point wanted of two.
  WALKS, rg: the reference's sets: a number put into a list that ascends.
  WALKS, rh: the reference's sets: the edges of a set.
  WALKS, ri: the reference's sets: a stretch more behind; all points.
  WALKS, rj: the reference's sets: two made one; a set in canonical form.
-/
import Derived.Test.YtoijabgcgdgacaaGreatDoorRA
import Derived.Test.YtoijabgcgdgacaaGreatDoorGB
import Derived.Test.YtoijabgcgdgacaaGreatDoorGF
import Derived.Maps.AppendAt
namespace Go.Proofs.YtoijabgcgdgacaaGreatDoor
open Go.RowKit Go.Proofs.Gram

/-- Does a sign stand in a text of signs? -/
def inB (S : ByteArray) (c : Int) : Bool := S.data.toList.any fun x => (x.toNat : Int) == c

theorem inB_take (S : ByteArray) (k : Nat) (h : k < S.size) : S.data.toList.take (k + 1) = S.data.toList.take k ++ [S[k]] := by
  rw [List.take_succ_eq_append_getElem (by simpa using h)]; rfl

set_option maxRecDepth 100000 in
theorem rwithin_any (S : ByteArray) (hS : S.size ≤ 1000) (c : Int) (w : World) : Calls Tryz.prog 305 #[.string S, .int .i64 c] w fun e w' => e = .returned (.bool (inB S c)) ∧ w' = w := by
  go_enter Tryz.func305, Tryz.ntmps305
  go_wp2_with fail
  go_loop [5] (fun i => ∃ k : Nat, k ≤ S.size ∧ i = .int .i64 k ∧ (S.data.toList.take k).any (fun x => (x.toNat : Int) == c) = false) (fun i => S.size - (intOf i).toNat)
  case atStart => exact ⟨0, Nat.zero_le _, rfl, rfl⟩
  case round =>
    obtain ⟨k, hk, rfl, ha⟩ := hrel
    have HA := Lib.hid ha
    clear ha
    rcases Nat.lt_or_ge k S.size with hlt | hge
    · have hb0 : decide ((k : Int) < (S.size : Int)) = true := decide_eq_true (by omega)
      have hsn := Lib.hid (inB_take S k hlt)
      have hwj : wrap64 (S[k].toNat : Int) = (S[k].toNat : Int) := byte_int _ (S[k].toNat_lt)
      by_cases hc : (S[k].toNat : Int) = c
      · have hb : ((S[k].toNat : Int) == c) = true := beq_iff_eq.2 hc
        have HC : Hid (inB S c = true) := Lib.hid (by
          unfold inB
          rw [List.any_eq_true]
          exact ⟨S[k], Array.mem_toList_iff.2 (Array.getElem_mem hlt), hb⟩)
        clear hc
        go_wp2_with fail
        go_ret
        exact ⟨by rw [HC.out]; rfl, rfl⟩
      · have hb : ((S[k].toNat : Int) == c) = false := beq_eq_false_iff_ne.2 hc
        have HN : Hid ((S.data.toList.take (k + 1)).any (fun x => (x.toNat : Int) == c) = false) := Lib.hid (by
          rw [hsn.out, List.any_append, HA.out]
          simp [hb])
        clear hc
        go_wp2_with fail
        go_round
        case rel => exact ⟨k + 1, by omega, by go_num, HN.out⟩
        case measure => simp [intOf]; omega
    · obtain rfl : k = S.size := by omega
      have hb0 : decide ((S.size : Int) < (S.size : Int)) = false := decide_eq_false (by omega)
      have HC : Hid (inB S c = false) := Lib.hid (by
        unfold inB
        have := HA.out
        rwa [List.take_of_length_le (by simp)] at this)
      go_wp2_with fail
      go_ret
      exact ⟨by rw [HC.out]; rfl, rfl⟩

/-- A digit to the base 16, as a number; -1: none. -/
def hexI (b : UInt8) : Int := match hexv b with | some d => d | none => -1

set_option maxRecDepth 100000 in
theorem hex_any (b : UInt8) (w : World) : Calls Tryz.prog 326 #[.int .u8 b.toNat] w fun e w' => e = .returned (.int .i64 (hexI b)) ∧ w' = w := by
  obtain ⟨n, hn⟩ : ∃ n : Nat, b.toNat = n := ⟨_, rfl⟩
  have hlt : n < 256 := by rw [← hn]; exact b.toNat_lt
  have hh : hexI b = if 48 ≤ n ∧ n ≤ 57 then (n : Int) - 48 else if 97 ≤ n ∧ n ≤ 102 then (n : Int) - 87 else if 65 ≤ n ∧ n ≤ 70 then (n : Int) - 55 else -1 := by
    unfold hexI hexv
    rw [hn]
    by_cases h1 : 48 ≤ n ∧ n ≤ 57
    · simp only [if_pos h1]; omega
    · by_cases h2 : 97 ≤ n ∧ n ≤ 102
      · simp only [if_neg h1, if_pos h2]; omega
      · by_cases h3 : 65 ≤ n ∧ n ≤ 70
        · simp only [if_neg h1, if_neg h2, if_pos h3]; omega
        · simp only [if_neg h1, if_neg h2, if_neg h3]
  rw [hh, hn]
  clear hh hn
  by_cases h1 : 48 ≤ n ∧ n ≤ 57
  · rw [if_pos h1]
    have b1 : decide ((48 : Int) ≤ n) = true := decide_eq_true (by omega)
    have b2 : decide ((n : Int) ≤ 57) = true := decide_eq_true (by omega)
    go_enter Tryz.func326, Tryz.ntmps326
    go_wp2_with fail
    go_ret
    exact ⟨rfl, rfl⟩
  · rw [if_neg h1]
    have b1 : decide ((48 : Int) ≤ n) = false ∨ (decide ((48 : Int) ≤ n) = true ∧ decide ((n : Int) ≤ 57) = false) := by
      by_cases h : 48 ≤ n
      · exact .inr ⟨decide_eq_true (by omega), decide_eq_false (by omega)⟩
      · exact .inl (decide_eq_false (by omega))
    by_cases h2 : 97 ≤ n ∧ n ≤ 102
    · rw [if_pos h2]
      have c1 : decide ((97 : Int) ≤ n) = true := decide_eq_true (by omega)
      have c2 : decide ((n : Int) ≤ 102) = true := decide_eq_true (by omega)
      clear h1
      rcases b1 with b1 | ⟨b1, b2⟩
      all_goals
        go_enter Tryz.func326, Tryz.ntmps326
        go_wp2_with fail
        go_ret
        exact ⟨congrArg (fun x => Ending.returned (.int .i64 x)) (by omega), rfl⟩
    · rw [if_neg h2]
      have c1 : decide ((97 : Int) ≤ n) = false ∨ (decide ((97 : Int) ≤ n) = true ∧ decide ((n : Int) ≤ 102) = false) := by
        by_cases h : 97 ≤ n
        · exact .inr ⟨decide_eq_true (by omega), decide_eq_false (by omega)⟩
        · exact .inl (decide_eq_false (by omega))
      by_cases h3 : 65 ≤ n ∧ n ≤ 70
      · rw [if_pos h3]
        have d1 : decide ((65 : Int) ≤ n) = true := decide_eq_true (by omega)
        have d2 : decide ((n : Int) ≤ 70) = true := decide_eq_true (by omega)
        clear h1 h2
        rcases b1 with b1 | ⟨b1, b2⟩ <;> rcases c1 with c1 | ⟨c1, c2⟩
        all_goals
          go_enter Tryz.func326, Tryz.ntmps326
          go_wp2_with fail
          go_ret
          exact ⟨congrArg (fun x => Ending.returned (.int .i64 x)) (by omega), rfl⟩
      · rw [if_neg h3]
        have d1 : decide ((65 : Int) ≤ n) = false ∨ (decide ((65 : Int) ≤ n) = true ∧ decide ((n : Int) ≤ 70) = false) := by
          by_cases h : 65 ≤ n
          · exact .inr ⟨decide_eq_true (by omega), decide_eq_false (by omega)⟩
          · exact .inl (decide_eq_false (by omega))
        clear h1 h2 h3
        rcases b1 with b1 | ⟨b1, b2⟩ <;> rcases c1 with c1 | ⟨c1, c2⟩ <;> rcases d1 with d1 | ⟨d1, d2⟩
        all_goals
          go_enter Tryz.func326, Tryz.ntmps326
          go_wp2_with fail
          go_ret
          exact ⟨rfl, rfl⟩
end Go.Proofs.YtoijabgcgdgacaaGreatDoor

namespace Go.Proofs.YtoijabgcgdgacaaGreatDoor
open Go.RowKit Go.Proofs.Gram

/-- Has a set a point? -/
def hasB (l : List (Int × Int)) (p : Int) : Bool := decide (0 ≤ p) && decide (p ≤ 1114111) && l.any fun r => decide (r.1 ≤ p) && decide (p ≤ r.2)

theorem hasB_iff (l : List (Int × Int)) (p : Int) : hasB l p = true ↔ isP p ∧ inR l p := by
  unfold hasB isP inR
  simp only [Bool.and_eq_true, decide_eq_true_eq, List.any_eq_true]

/-- Is a point wanted? -/
def wantB (a b : List (Int × Int)) (how p : Int) : Bool := if how = 1 then hasB a p || hasB b p else if how = 2 then hasB a p && hasB b p else hasB a p && !hasB b p

set_option maxRecDepth 100000 in
theorem has_any (v : Value) (l : List (Int × Int)) (okk : Nat → Prop) (w : World) (hr : Rngs w okk v l) (hsz : l.length ≤ 16777217) (p : Int) :
    Calls Tryz.prog 105 #[v, .int .i64 p] w fun e w' => e = .returned (.bool (hasB l p)) ∧ w' = w := by
  obtain ⟨A, cap, rfl, hc⟩ := rngs_open hr
  have HC := Lib.hid hc
  clear hc hr
  by_cases h0 : p < 0
  · have hb : decide (p < 0) = true := decide_eq_true h0
    have R : Hid (hasB l p = false) := Lib.hid (by unfold hasB; rw [decide_eq_false (by omega)]; rfl)
    clear h0
    go_enter Tryz.func105, Tryz.ntmps105
    go_wp2_with fail
    go_ret
    exact ⟨by rw [R.out]; rfl, rfl⟩
  have hb0 : decide (p < 0) = false := decide_eq_false h0
  by_cases h1 : 1114111 < p
  · have hb : decide ((1114111 : Int) < p) = true := decide_eq_true h1
    have R : Hid (hasB l p = false) := Lib.hid (by unfold hasB; rw [decide_eq_false (p := p ≤ 1114111) (by omega), Bool.and_false]; rfl)
    clear h0 h1
    go_enter Tryz.func105, Tryz.ntmps105
    go_wp2_with fail
    go_ret
    exact ⟨by rw [R.out]; rfl, rfl⟩
  have hb1 : decide ((1114111 : Int) < p) = false := decide_eq_false h1
  have R : Hid (hasB l p = l.any fun r => decide (r.1 ≤ p) && decide (p ≤ r.2)) := Lib.hid (by unfold hasB; rw [decide_eq_true (p := 0 ≤ p) (by omega), decide_eq_true (p := p ≤ 1114111) (by omega)]; rfl)
  clear h0 h1
  go_enter Tryz.func105, Tryz.ntmps105
  go_wp2_with fail
  go_loop [5] (fun i => ∃ k : Nat, k ≤ l.length ∧ i = .int .i64 k ∧ Hid (((l.take k).any fun r => decide (r.1 ≤ p) && decide (p ≤ r.2)) = false)) (fun i => l.length - (intOf i).toNat)
  case atStart => exact ⟨0, Nat.zero_le _, rfl, Lib.hid rfl⟩
  case round =>
    obtain ⟨k, hk, rfl, HA⟩ := hrel
    rcases Nat.lt_or_ge k l.length with hlt | hge
    · obtain ⟨r, hrk⟩ : ∃ r, l[k]? = some r := ⟨l[k], by simp [hlt]⟩
      obtain ⟨g, off, rfl, hg, hgl, hc0, hc1⟩ := HC.out k r hrk
      have hb : decide ((k : Int) < (l.length : Int)) = true := decide_eq_true (by omega)
      have HSN := Lib.hid (take_snoc l k r hrk)
      have HM := Lib.hid (List.mem_of_getElem? hrk)
      obtain ⟨r1, r2⟩ := r
      simp only at hc0 hc1
      clear hrk hg hgl
      by_cases ha : r1 ≤ p
      · have ha1 : decide (r1 ≤ p) = true := decide_eq_true ha
        by_cases hd : p ≤ r2
        · have hd1 : decide (p ≤ r2) = true := decide_eq_true hd
          have R2 : Hid (hasB l p = true) := Lib.hid (by rw [R.out, List.any_eq_true]; exact ⟨_, HM.out, by simp [ha, hd]⟩)
          clear ha hd
          go_wp2_with fail
          go_ret
          exact ⟨by rw [R2.out]; rfl, rfl⟩
        · have hd1 : decide (p ≤ r2) = false := decide_eq_false hd
          have R2 : Hid (((l.take (k + 1)).any fun r => decide (r.1 ≤ p) && decide (p ≤ r.2)) = false) := Lib.hid (by rw [HSN.out, List.any_append, HA.out]; simp [hd])
          clear ha hd
          go_wp2_with fail
          go_round
          case rel => exact ⟨k + 1, by omega, by go_num, R2⟩
          case measure => simp [intOf]; omega
      · have ha1 : decide (r1 ≤ p) = false := decide_eq_false ha
        have R2 : Hid (((l.take (k + 1)).any fun r => decide (r.1 ≤ p) && decide (p ≤ r.2)) = false) := Lib.hid (by rw [HSN.out, List.any_append, HA.out]; simp [ha])
        clear ha
        go_wp2_with fail
        go_round
        case rel => exact ⟨k + 1, by omega, by go_num, R2⟩
        case measure => simp [intOf]; omega
    · obtain rfl : k = l.length := by omega
      have hb : decide ((l.length : Int) < (l.length : Int)) = false := decide_eq_false (by omega)
      have R2 : Hid (hasB l p = false) := Lib.hid (by rw [R.out]; have := HA.out; rwa [List.take_length] at this)
      go_wp2_with fail
      go_ret
      exact ⟨by rw [R2.out]; rfl, rfl⟩

set_option maxRecDepth 100000 in
theorem wanted_any (va vb : Value) (a b : List (Int × Int)) (ok1 ok2 : Nat → Prop) (w : World) (hra : Rngs w ok1 va a) (hrb : Rngs w ok2 vb b) (hsa : a.length ≤ 16777217) (hsb : b.length ≤ 16777217) (how p : Int) :
    Calls Tryz.prog 260 #[va, vb, .int .i64 how, .int .i64 p] w fun e w' => e = .returned (.bool (wantB a b how p)) ∧ w' = w := by
  have H1 := Lib.hid (has_any va a ok1 w hra hsa p)
  have H2 := Lib.hid (has_any vb b ok2 w hrb hsb p)
  have R : Hid (wantB a b how p = if how = 1 then hasB a p || hasB b p else if how = 2 then hasB a p && hasB b p else hasB a p && !hasB b p) := Lib.hid rfl
  clear hra hrb
  generalize hasB a p = x at *
  generalize hasB b p = y at *
  obtain ⟨z, hz⟩ : ∃ z, wantB a b how p = z := ⟨_, rfl⟩
  rw [hz] at R ⊢
  clear hz
  by_cases h1 : how = 1
  · subst h1
    have R2 := R.out
    rw [if_pos rfl] at R2
    have R3 := Lib.hid R2
    clear R2
    cases x <;> cases y
    all_goals
      go_enter Tryz.func260, Tryz.ntmps260
      go_wp2_with fail
      refine H1.out.mono ?_
      rintro e w1 ⟨rfl, rfl⟩
      go_wp2_with fail
      refine H2.out.mono ?_
      rintro e w1 ⟨rfl, rfl⟩
      go_wp2_with fail
      go_ret
      exact ⟨by rw [R3.out]; rfl, rfl⟩
  have hb1 : (how == (1 : Int)) = false := beq_eq_false_iff_ne.2 h1
  by_cases h2 : how = 2
  · subst h2
    have R2 := R.out
    rw [if_neg h1, if_pos rfl] at R2
    have R3 := Lib.hid R2
    clear R2 h1
    cases x <;> cases y
    all_goals
      go_enter Tryz.func260, Tryz.ntmps260
      go_wp2_with fail
      refine H1.out.mono ?_
      rintro e w1 ⟨rfl, rfl⟩
      go_wp2_with fail
      refine H2.out.mono ?_
      rintro e w1 ⟨rfl, rfl⟩
      go_wp2_with fail
      go_ret
      exact ⟨by rw [R3.out]; rfl, rfl⟩
  have hb2 : (how == (2 : Int)) = false := beq_eq_false_iff_ne.2 h2
  have R2 := R.out
  rw [if_neg h1, if_neg h2] at R2
  have R3 := Lib.hid R2
  clear R2 h1 h2
  cases x <;> cases y
  all_goals
    go_enter Tryz.func260, Tryz.ntmps260
    go_wp2_with fail
    refine H1.out.mono ?_
    rintro e w1 ⟨rfl, rfl⟩
    go_wp2_with fail
    refine H2.out.mono ?_
    rintro e w1 ⟨rfl, rfl⟩
    go_wp2_with fail
    go_ret
    exact ⟨by rw [R3.out]; rfl, rfl⟩
end Go.Proofs.YtoijabgcgdgacaaGreatDoor

namespace Go.Proofs.YtoijabgcgdgacaaGreatDoor
open Go.RowKit Go.Proofs.Gram

def icells (l : List Int) : List Value := l.map (.int .i64)
/-- A list of numbers in memory. -/
def Ints (w : World) (ok : Nat → Prop) (v : Value) (l : List Int) : Prop := Cells w ok v l.length (icells l)

theorem icells_length (l : List Int) : (icells l).length = l.length := by simp [icells]
theorem icells_at (l : List Int) (k : Nat) (x : Int) (h : l[k]? = some x) : (icells l)[k]? = some (.int .i64 x) := by simp [icells, h]

theorem own_cells {w : World} {base : Nat} {e : TypeId} {size : Nat} {v : Value} {n : Nat} {xs : List Value} (h : w.ownsRow base e size v n xs) : Cells w (fun k => base ≤ k) v n xs := by
  obtain ⟨h1, h2⟩ := h
  rcases h2 with ⟨rfl, h0⟩ | ⟨g, cap, cur, rfl, hg, hh, hn, hcap, hsz, htake⟩
  · refine .inl ⟨rfl, h0, ?_⟩
    refine List.eq_nil_of_length_eq_zero ?_
    rw [h1, h0, Nat.zero_mul]
  · refine .inr ⟨g, 0, cap, rfl, hn, hcap, hg, (Array.getElem?_eq_some_iff.1 hh).1, fun i u hu => ?_⟩
    rw [← htake] at hu
    have hu' : cur[i]? = some u := by
      rw [List.getElem?_take] at hu
      split at hu
      · simpa using hu
      · cases hu
    simp only [World.cell?, hh, Nat.zero_add]
    exact hu'

theorem info3 : (Tryz.prog.info? 3).map (fun i => (i.zero, i.size, i.bytes)) = some (some (.int .i64 0), 1, 8) := by kernel_rfl

theorem info3_parts : ∃ i, Tryz.prog.info? 3 = some i ∧ i.zero = some (.int .i64 0) ∧ i.size = 1 ∧ i.bytes = 8 := by
  obtain ⟨i, hi, h⟩ := Option.map_eq_some_iff.1 info3
  simp only [Prod.mk.injEq] at h
  exact ⟨i, hi, h.1, h.2.1, h.2.2⟩

theorem icells_one (l : List Int) : ∀ u ∈ icells l, u.oneCell' = true := by
  intro u hu
  simp only [icells, List.mem_map] at hu
  obtain ⟨x, _, rfl⟩ := hu
  rfl

set_option maxRecDepth 100000 in
set_option maxHeartbeats 1000000 in
theorem insert_any (v : Value) (l : List Int) (n : Int) (B : Nat) (w : World) (hr : Ints w (fun k => B ≤ k) v l) (hB : B ≤ w.heap.size) (hsz : l.length ≤ 67109100) (hE : Edg l) (h0 : 0 < n) (h1 : n < 1114112) :
    Calls Tryz.prog 236 #[v, .int .i64 n] w fun e w' => ∃ u, e = .returned u ∧ Ints w' (fun k => B ≤ k) u (insN l n) ∧ Kp noB w w' := by
  obtain ⟨i0, hi, hz0, hz1, hz2⟩ := info3_parts
  have hlen := hE.2.2.1
  have hlow := hE.low h0 h1
  have hin := insN_in l n
  have hout := insN_out l n
  have hll := lowN_lt l n
  have hla := lowN_at l n
  rcases hr with ⟨_, h, _⟩ | ⟨g, off, cap, rfl, hn, hcap, hg, hlt, hc⟩
  · omega
  have hcl : ∀ k x, l[k]? = some x → w.cell? ⟨g, off + k, none⟩ = some (.int .i64 x) := fun k x h => hc k _ (icells_at l k x h)
  have hself : Ints w (fun k => B ≤ k) (.slice (some ⟨g, off, none⟩) l.length cap) l := .inr ⟨g, off, cap, rfl, hn, hcap, hg, hlt, hc⟩
  obtain ⟨K, hK⟩ : ∃ K, lowN l n = K := ⟨_, rfl⟩
  rw [hK] at hlow hin hout hll hla
  have HL := Lib.hid (And.intro hin hout)
  have HLL := Lib.hid (And.intro hll hla)
  have HCL := Lib.hid hcl
  have HS := Lib.hid hself
  have HC := Lib.hid hc
  unfold maxLen at hcap
  clear hin hout hll hla hcl hself hc hK hE
  go_enter Tryz.func236, Tryz.ntmps236
  go_wp2_with fail
  go_loop [5] (fun i => ∃ k : Nat, k ≤ K ∧ i = .int .i64 k) (fun i => K - (intOf i).toNat)
  case atStart => exact ⟨0, Nat.zero_le _, rfl⟩
  case round =>
    obtain ⟨k, hk, rfl⟩ := hrel
    have hkl : k < l.length := by omega
    obtain ⟨x, hx⟩ : ∃ x, l[k]? = some x := ⟨l[k], by simp [hkl]⟩
    have hcell := HCL.out k x hx
    have HX := Lib.hid hx
    have hb0 : decide ((k : Int) < (l.length : Int)) = true := decide_eq_true (by omega)
    clear hx
    by_cases hkk : k < K
    · have hxn : x < n := HLL.out.1 k x hkk HX.out
      have hb1 : decide (x < n) = true := decide_eq_true hxn
      clear hxn
      go_wp2_with fail
      go_round
      case rel => exact ⟨k + 1, by omega, by go_num⟩
      case measure => simp [intOf]; omega
    · obtain rfl : k = K := by omega
      have hxn : ¬ x < n := by have := HLL.out.2 x HX.out; omega
      have hb1 : decide (x < n) = false := decide_eq_false hxn
      clear hkk hxn
      by_cases he : x = n
      · have hb2 : (x == n) = true := beq_iff_eq.2 he
        have R : Hid (insN l n = l) := Lib.hid (HL.out.1 (by rw [HX.out, he]))
        clear he
        go_wp2_with fail
        go_ret
        exact ⟨_, rfl, by rw [R.out]; exact HS.out, Kp.refl _ _⟩
      · have hb2 : (x == n) = false := beq_eq_false_iff_ne.2 he
        have R : Hid (insN l n = l.take k ++ [n] ++ l.drop k) := Lib.hid (HL.out.2 (by rw [HX.out]; simpa using he))
        have hkc : ¬ cap = k := by omega
        have hkc' : (k : Int) ≤ (cap : Int) := by omega
        clear he
        have hcs : ∀ j u, (icells (l.take k))[j]? = some u → w.cell? ((⟨g, off, none⟩ : Addr).add j) = some u := by
          intro j u hj
          have hj' : (icells l)[j]? = some u := by
            rw [show icells (l.take k) = (icells l).take k from by simp [icells, List.map_take], List.getElem?_take] at hj
            split at hj
            · exact hj
            · cases hj
          have h2 := HC.out j u hj'
          unfold Addr.add
          split
          · rename_i h3; subst h3; exact h2
          · exact h2
        have hcd : ∀ j u, (icells (l.drop k))[j]? = some u → w.cell? ⟨g, off + k + j, none⟩ = some u := fun j u hj => by
          rw [Nat.add_assoc]
          refine HC.out (k + j) u ?_
          simpa [icells, List.map_drop] using hj
        have HCS := Lib.hid hcs
        have HCD := Lib.hid hcd
        have HKL : Hid ((l.take k).length = k ∧ (l.drop k).length = l.length - k) := Lib.hid ⟨by simp; omega, by simp⟩
        have hk47 : k ≤ 67109100 := by omega
        clear hcs hcd
        have HL1 : Hid ((icells (l.take k)).length = k * 1) := Lib.hid (by rw [icells_length, HKL.out.1, Nat.mul_one])
        have HM1 : Hid (0 + k ≤ maxLen ∧ (0 + k) * 8 ≤ 140737488355328) := Lib.hid ⟨by unfold maxLen; omega, by omega⟩
        have HM3 : Hid ((0 + k + 1) + (l.length - k) ≤ maxLen ∧ ((0 + k + 1) + (l.length - k)) * 8 ≤ 140737488355328) := Lib.hid ⟨by unfold maxLen; omega, by omega⟩
        have HM2 : Hid (0 + k + 1 ≤ maxLen ∧ (0 + k + 1) * 8 ≤ 140737488355328) := Lib.hid ⟨by unfold maxLen; omega, by omega⟩
        have HL3 : Hid ((icells (l.drop k)).length = (l.length - k) * 1) := Lib.hid (by rw [icells_length, HKL.out.2, Nat.mul_one])
        have HA : ∀ j u w2, Kp noB w w2 → (icells (l.drop k))[j]? = some u → w2.cell? ((⟨g, off + k, none⟩ : Addr).add j) = some u := by
          intro j u w2 hk hj
          have h2 := hk.cell (HCD.out j u hj) (noB_not _)
          unfold Addr.add
          split
          · rename_i h3; subst h3; exact h2
          · exact h2
        have HA3 := Lib.hid HA
        clear HA
        go_wp2_with (first
          | (at_builtin; refine wpList_append_own _ rfl (.tmp 34) (.tmp 37) 60 rfl w.heap.size 3 i0 (.int .i64 0) 1 8 Tryz.underlying60 hi hz0 hz1 hz2 rfl (by decide) (.slice none 0 0) 0 [] rfl (World.ownsRow_nil _ _ _ _) ⟨g, off, none⟩ k cap (icells (l.take k)) rfl HL1.out HCS.out (icells_one _) HM1.out.1 HM1.out.2 (Nat.le_refl _) ?_; intro v1 w1 hown1 hgrow1 hnil1; have hk1 : Kp noB w w1 := (Kp.refl _ _).grown hgrow1 (fun k hk => by cases hk); have hs1 := hk1.size; clear hgrow1 hnil1)
          | (at_builtin; refine wpList_append_own _ rfl (.tmp 39) (.tmp 41) 60 rfl w.heap.size 3 i0 (.int .i64 0) 1 8 Tryz.underlying60 hi hz0 hz1 hz2 rfl (by decide) v1 (0 + k) ([] ++ icells (l.take k)) rfl (hown1.alloc _) ⟨w1.heap.size, 0, none⟩ 1 1 [.int .i64 n] rfl rfl (cell_one_new w1 _ 3) (fun x hx => by simp at hx; subst hx; rfl) HM2.out.1 HM2.out.2 (by rw [World.size_alloc]; omega) ?_; intro v2 w2 hown2 hgrow2 hnil2; have hk2 : Kp noB w w2 := (hk1.alloc _).grown hgrow2 (fun k hk => .inr (hown1.lt k hk).1); have hs2 := hk2.size; clear hgrow2 hnil2 hown1)
          | (at_builtin; refine wpList_append_own _ rfl (.tmp 43) (.tmp 46) 60 rfl w.heap.size 3 i0 (.int .i64 0) 1 8 Tryz.underlying60 hi hz0 hz1 hz2 rfl (by decide) v2 (0 + k + 1) ([] ++ icells (l.take k) ++ [.int .i64 n]) rfl hown2 ⟨g, off + k, none⟩ (l.length - k) (cap - k) (icells (l.drop k)) rfl HL3.out (fun j u hj => HA3.out j u w2 hk2 hj) (icells_one _) HM3.out.1 HM3.out.2 hs2 ?_; intro v3 w3 hown3 hgrow3 hnil3; have hk3 : Kp noB w w3 := hk2.grown hgrow3 (fun k hk => .inr (hown2.lt k hk).1); clear hgrow3 hnil3 hown2))
        go_ret
        refine ⟨_, rfl, ?_, hk3⟩
        have h4 := (own_cells hown3).ok (ok' := fun k => B ≤ k) (fun k _ hk => by omega)
        rw [R.out]
        unfold Ints
        have e1 : (l.take k ++ [n] ++ l.drop k).length = 0 + k + 1 + (l.length - k) := by simp; omega
        have e2 : icells (l.take k ++ [n] ++ l.drop k) = [] ++ icells (l.take k) ++ [.int .i64 n] ++ icells (l.drop k) := by simp [icells]
        rw [e1, e2]
        exact h4
end Go.Proofs.YtoijabgcgdgacaaGreatDoor

namespace Go.Proofs.YtoijabgcgdgacaaGreatDoor
open Go.RowKit Go.Proofs.Gram

set_option maxRecDepth 100000 in
theorem ends_any (w : World) : Calls Tryz.prog 192 #[] w fun e w' => ∃ u, e = .returned u ∧ Ints w' (fun k => w.heap.size ≤ k) u ends ∧ Kp noB w w' := by
  have R : Hid (Ints (w.alloc (.cells #[.int .i64 0, .int .i64 1114112] 3)) (fun k => w.heap.size ≤ k) (.slice (some ⟨w.heap.size, 0, none⟩) 2 2) ends ∧ Kp noB w (w.alloc (.cells #[.int .i64 0, .int .i64 1114112] 3))) := Lib.hid
    ⟨.inr ⟨w.heap.size, 0, 2, rfl, Nat.le_refl _, by simp [maxLen], Nat.le_refl _, by simp, fun i u hu => by
      match i, hu with
      | 0, hu => exact two_new w (.int .i64 0) (.int .i64 1114112) 3 0 u hu
      | 1, hu => exact two_new w (.int .i64 0) (.int .i64 1114112) 3 1 u hu⟩, (Kp.refl _ _).alloc _⟩
  go_enter Tryz.func192, Tryz.ntmps192
  go_wp2_with fail
  go_ret
  exact ⟨_, rfl, R.out.1, R.out.2⟩

set_option maxRecDepth 100000 in
set_option maxHeartbeats 1000000 in
theorem edges_any (v sv : Value) (l : List Int) (s : List (Int × Int)) (B : Nat) (okk : Nat → Prop) (w : World) (hr : Ints w (fun k => B ≤ k) v l) (hB : B ≤ w.heap.size) (hrs : Rngs w okk sv s) (hsz : l.length + 2 * s.length ≤ 67109000) (hE : Edg l) :
    Calls Tryz.prog 193 #[v, sv] w fun e w' => ∃ u, e = .returned u ∧ Ints w' (fun k => B ≤ k) u (edges l s) ∧ Kp noB w w' := by
  obtain ⟨A, cap, rfl, hc⟩ := rngs_open hrs
  have HC := Lib.hid hc
  have HR := Lib.hid hr
  have HE := Lib.hid (fun k => hE.edges (s.take k))
  have HLN := Lib.hid (fun k => edges_length (s.take k) l)
  clear hc hrs hr hE
  go_enter Tryz.func193, Tryz.ntmps193
  go_wp2_with fail
  go_loopw [0, 5] (fun u i wr => ∃ k : Nat, k ≤ s.length ∧ i = .int .i64 k ∧ Hid (Ints wr (fun k => B ≤ k) u (edges l (s.take k))) ∧ Hid (Kp noB w wr)) (fun _ i _ => s.length - (intOf i).toNat)
  case atStart => exact ⟨0, Nat.zero_le _, rfl, Lib.hid HR.out, Lib.hid (Kp.refl _ _)⟩
  case round =>
    obtain ⟨k, hk, rfl, HI, HK⟩ := hrel
    rcases Nat.lt_or_ge k s.length with hlt | hge
    · obtain ⟨r, hrk⟩ : ∃ r, s[k]? = some r := ⟨s[k], by simp [hlt]⟩
      obtain ⟨g, off, rfl, hg, hgl, hc0, hc1⟩ := HC.out k r hrk
      have hc0 := HK.out.cell hc0 (noB_not _)
      have hc1 := HK.out.cell hc1 (noB_not _)
      have hb : decide ((k : Int) < (s.length : Int)) = true := decide_eq_true (by omega)
      have hsn := edges_snoc l (s.take k) r
      rw [← take_snoc s k r hrk] at hsn
      have HSN := Lib.hid hsn
      have hBr : B ≤ wr.heap.size := Nat.le_trans hB HK.out.size
      have hEk := HE.out k
      have hlk : (edges l (s.take k)).length ≤ 67109000 := by
        have := HLN.out k
        have := List.length_take_le k s
        omega
      obtain ⟨L, hL⟩ : ∃ L, edges l (s.take k) = L := ⟨_, rfl⟩
      rw [hL] at HI HSN hEk hlk
      obtain ⟨r1, r2⟩ := r
      simp only at hc0 hc1
      have HEK := Lib.hid hEk
      clear hrk hg hgl hsn hEk hL
      -- the first edge
      have hfirst : ∀ (P : Prop), (0 < r1 ∧ r1 ≤ 1114111 → P) → (¬ (0 < r1 ∧ r1 ≤ 1114111) → (decide ((0 : Int) < r1) = false ∨ decide ((0 : Int) < r1) = true ∧ decide (r1 ≤ (1114111 : Int)) = false) → P) → P := by
        intro P h1 h2
        by_cases h : 0 < r1 ∧ r1 ≤ 1114111
        · exact h1 h
        · refine h2 h ?_
          by_cases h3 : 0 < r1
          · exact .inr ⟨decide_eq_true h3, decide_eq_false (fun h4 => h ⟨h3, h4⟩)⟩
          · exact .inl (decide_eq_false h3)
      have hsecond : ∀ (P : Prop), (0 ≤ r2 ∧ r2 < 1114111 → P) → (¬ (0 ≤ r2 ∧ r2 < 1114111) → (decide ((0 : Int) ≤ r2) = false ∨ decide ((0 : Int) ≤ r2) = true ∧ decide (r2 < (1114111 : Int)) = false) → P) → P := by
        intro P h1 h2
        by_cases h : 0 ≤ r2 ∧ r2 < 1114111
        · exact h1 h
        · refine h2 h ?_
          by_cases h3 : 0 ≤ r2
          · exact .inr ⟨decide_eq_true h3, decide_eq_false (fun h4 => h ⟨h3, h4⟩)⟩
          · exact .inl (decide_eq_false h3)
      refine hfirst _ (fun hf => ?_) (fun hf hfb => ?_)
      · have hb1 : decide ((0 : Int) < r1) = true := decide_eq_true hf.1
        have hb2 : decide (r1 ≤ (1114111 : Int)) = true := decide_eq_true hf.2
        have HIN := Lib.hid (insert_any u0 L r1 B wr HI.out hBr (by omega) HEK.out hf.1 (by omega))
        refine hsecond _ (fun hs => ?_) (fun hs hsb => ?_)
        · have hb3 : decide ((0 : Int) ≤ r2) = true := decide_eq_true hs.1
          have hb4 : decide (r2 < (1114111 : Int)) = true := decide_eq_true hs.2
          have R : Hid (edges l (s.take (k + 1)) = insN (insN L r1) (r2 + 1)) := Lib.hid (by rw [HSN.out]; unfold edge; simp only; rw [if_pos hf, if_pos hs])
          have HE2 := Lib.hid (HEK.out.ins hf.1 (show r1 < 1114112 by omega))
          have hl2 := insN_length L r1
          have HN2 := Lib.hid (show 0 < r2 + 1 ∧ r2 + 1 < 1114112 by omega)
          have hwr : IntKind.i64.wrap (r2 + 1) = r2 + 1 := by rw [IntKind.wrap_i64]; omega
          clear hf hs hfirst hsecond
          go_wp2_with fail
          refine HIN.out.mono ?_
          rintro e w1 ⟨u1, rfl, hI1, hk1⟩
          have hc0 := hk1.cell hc0 (noB_not _)
          have hc1 := hk1.cell hc1 (noB_not _)
          have HIN2 := Lib.hid (insert_any u1 (insN L r1) (r2 + 1) B w1 hI1 (Nat.le_trans hBr hk1.size) (by omega) HE2.out HN2.out.1 HN2.out.2)
          have HK1 := Lib.hid hk1
          clear hI1 hk1
          go_wp2_with fail
          refine HIN2.out.mono ?_
          rintro e w2 ⟨u2, rfl, hI2, hk2⟩
          have HI2 := Lib.hid hI2
          have HK2 := Lib.hid hk2
          clear hI2 hk2
          go_wp2_with fail
          go_roundw
          case rel => exact ⟨k + 1, by omega, by go_num, Lib.hid (by rw [R.out]; exact HI2.out), Lib.hid ((HK.out.trans HK1.out).trans HK2.out)⟩
          case measure => simp [intOf]; omega
        · have R : Hid (edges l (s.take (k + 1)) = insN L r1) := Lib.hid (by rw [HSN.out]; unfold edge; simp only; rw [if_pos hf, if_neg hs])
          clear hf hs hfirst hsecond
          rcases hsb with hb3 | ⟨hb3, hb4⟩
          all_goals
            go_wp2_with fail
            refine HIN.out.mono ?_
            rintro e w1 ⟨u1, rfl, hI1, hk1⟩
            have hc1 := hk1.cell hc1 (noB_not _)
            have HI1 := Lib.hid hI1
            have HK1 := Lib.hid hk1
            clear hI1 hk1
            go_wp2_with fail
            go_roundw
            case rel => exact ⟨k + 1, by omega, by go_num, Lib.hid (by rw [R.out]; exact HI1.out), Lib.hid (HK.out.trans HK1.out)⟩
            case measure => simp [intOf]; omega
      · refine hsecond _ (fun hs => ?_) (fun hs hsb => ?_)
        · have hb3 : decide ((0 : Int) ≤ r2) = true := decide_eq_true hs.1
          have hb4 : decide (r2 < (1114111 : Int)) = true := decide_eq_true hs.2
          have R : Hid (edges l (s.take (k + 1)) = insN L (r2 + 1)) := Lib.hid (by rw [HSN.out]; unfold edge; simp only; rw [if_neg hf, if_pos hs])
          have hwr : IntKind.i64.wrap (r2 + 1) = r2 + 1 := by rw [IntKind.wrap_i64]; omega
          have HIN := Lib.hid (insert_any u0 L (r2 + 1) B wr HI.out hBr (by omega) HEK.out (by omega) (by omega))
          clear hf hs hfirst hsecond
          rcases hfb with hb1 | ⟨hb1, hb2⟩
          all_goals
            go_wp2_with fail
            refine HIN.out.mono ?_
            rintro e w1 ⟨u1, rfl, hI1, hk1⟩
            have HI1 := Lib.hid hI1
            have HK1 := Lib.hid hk1
            clear hI1 hk1
            go_wp2_with fail
            go_roundw
            case rel => exact ⟨k + 1, by omega, by go_num, Lib.hid (by rw [R.out]; exact HI1.out), Lib.hid (HK.out.trans HK1.out)⟩
            case measure => simp [intOf]; omega
        · have R : Hid (edges l (s.take (k + 1)) = L) := Lib.hid (by rw [HSN.out]; unfold edge; simp only; rw [if_neg hf, if_neg hs])
          clear hf hs hfirst hsecond
          rcases hfb with hb1 | ⟨hb1, hb2⟩ <;> rcases hsb with hb3 | ⟨hb3, hb4⟩
          all_goals
            go_wp2_with fail
            go_roundw
            case rel => exact ⟨k + 1, by omega, by go_num, Lib.hid (by rw [R.out]; exact HI.out), HK⟩
            case measure => simp [intOf]; omega
    · obtain rfl : k = s.length := by omega
      have hb : decide ((s.length : Int) < (s.length : Int)) = false := decide_eq_false (by omega)
      have HI2 := HI.out
      rw [List.take_length] at HI2
      have HI3 := Lib.hid HI2
      clear HI2
      go_wp2_with fail
      go_ret
      exact ⟨_, rfl, HI3.out, HK.out⟩
end Go.Proofs.YtoijabgcgdgacaaGreatDoor

namespace Go.Proofs.YtoijabgcgdgacaaGreatDoor
open Go.RowKit Go.Proofs.Gram

theorem info191_parts : ∃ i, Tryz.prog.info? 191 = some i ∧ i.zero = some (.agg #[.int .i64 0, .int .i64 0]) ∧ i.size = 2 ∧ i.bytes = 16 := by
  obtain ⟨i, hi, h⟩ := Option.map_eq_some_iff.1 info191
  simp only [Prod.mk.injEq] at h
  exact ⟨i, hi, h.1, h.2.1, h.2.2⟩

theorem all_any (w : World) : Calls Tryz.prog 304 #[] w fun e w' => ∃ u, e = .returned u ∧ Rngs w' (fun k => w.heap.size ≤ k) u [(0, 1114111)] ∧ Kp noB w w' := by
  have R : Hid (Rngs (w.alloc (.cells #[.int .i64 0, .int .i64 1114111] 191)) (fun k => w.heap.size ≤ k) (.slice (some ⟨w.heap.size, 0, none⟩) 1 1) [(0, 1114111)] ∧ Kp noB w (w.alloc (.cells #[.int .i64 0, .int .i64 1114111] 191))) := Lib.hid
    ⟨.inr ⟨w.heap.size, 0, 1, rfl, Nat.le_refl _, by simp [maxLen], Nat.le_refl _, by simp, fun i u hu => by
      match i, hu with
      | 0, hu => exact two_new w (.int .i64 0) (.int .i64 1114111) 191 0 u hu
      | 1, hu => exact two_new w (.int .i64 0) (.int .i64 1114111) 191 1 u hu⟩, (Kp.refl _ _).alloc _⟩
  go_enter Tryz.func304, Tryz.ntmps304
  go_wp2_with fail
  go_ret
  exact ⟨_, rfl, R.out.1, R.out.2⟩

/-- How a set with a stretch more ends. -/
def GrwE (w : World) (B : Nat) (o : List (Int × Int)) (lo hi : Int) (e : Ending) (w' : World) : Prop :=
  ∃ u, e = .returned u ∧ Own w' B u (Gram.grow o lo hi) ∧ Kp (fun k => B ≤ k) w w'

set_option maxRecDepth 100000 in
set_option maxHeartbeats 1000000 in
theorem grow_any (v : Value) (o : List (Int × Int)) (lo hi : Int) (B : Nat) (w : World) (hown : Own w B v o) (hB : B ≤ w.heap.size) (hsz : o.length ≤ 67109100) (hb : ∀ q ∈ o, 0 ≤ q.2 ∧ q.2 ≤ 1114111) :
    Calls Tryz.prog 195 #[v, .int .i64 lo, .int .i64 hi] w (GrwE w B o lo hi) := by
  obtain ⟨i0, hi0, hz0, hz1, hz2⟩ := info191_parts
  have HB : Hid (∀ (w3 : World) (v' : Value), w3.ownsRow B 191 2 v' (o.length + 1) (rcells o ++ [.int .i64 lo, .int .i64 hi]) → (w.alloc (.cells #[.int .i64 lo, .int .i64 hi] 191)).grownBy w3 v.ownBlock →
      Own w3 B v' (o ++ [(lo, hi)]) ∧ Kp (fun k => B ≤ k) w w3) := Lib.hid fun w3 v' h1 h2 => ⟨by
    unfold Own
    rw [rcells_append, List.length_append]
    exact h1, ((Kp.refl _ _).alloc _).grown h2 fun k hk => .inl (hown.lt _ hk).1⟩
  rcases List.eq_nil_or_concat o with rfl | ⟨o', q, rfl⟩
  · obtain ⟨A, cap, rfl, _⟩ := rngs_open hown.rngs
    have hlen : IntKind.i64.wrap ((0 : Int) - 1) = -1 := by rw [IntKind.wrap_i64]; omega
    have HO := Lib.hid hown
    have HG : Hid (Gram.grow [] lo hi = [] ++ [(lo, hi)]) := Lib.hid rfl
    clear hown hb
    simp only [List.length_nil] at HO ⊢
    go_enter Tryz.func195, Tryz.ntmps195
    go_wp2_with (first
      | (at_builtin; refine wpList_append_own _ rfl (.tmp 29) (.tmp 33) 31 rfl B 191 i0 (.agg #[.int .i64 0, .int .i64 0]) 2 16 Tryz.underlying31 hi0 hz0 hz1 hz2 rfl (by decide) _ 0 (rcells []) rfl (HO.out.alloc _) ⟨w.heap.size, 0, none⟩ 1 1 [.int .i64 lo, .int .i64 hi] rfl rfl (two_new w (.int .i64 lo) (.int .i64 hi) 191) (fun x hx => by simp at hx; rcases hx with rfl | rfl <;> rfl) (by unfold maxLen; omega) (by omega) (by rw [World.size_alloc]; omega) ?_; intro v' w3 hown' hgrow3 hnil3; have R := Lib.hid (HB.out w3 v' hown' hgrow3); clear hown' hgrow3 hnil3))
    go_ret
    exact ⟨_, rfl, by rw [HG.out]; exact R.out.1, R.out.2⟩
  · rw [List.concat_eq_append] at *
    have hq := hb q (by simp)
    obtain ⟨g, cap, rfl, hg, hgl, hcap, hq0, hq1, hz, hset⟩ := own_last hown
    obtain ⟨q1, q2⟩ := q
    simp only at hq0 hq1 hset hq
    rw [List.length_append, List.length_singleton] at hsz
    have hlen1 : IntKind.i64.wrap ((o'.length : Int) + 1 - 1) = (o'.length : Int) := by rw [IntKind.wrap_i64]; omega
    have hi1 : (0 : Int) ≤ (o'.length : Int) := by omega
    have hi2 : (o'.length : Int) < ((o'.length + 1 : Nat) : Int) := by omega
    have hi3 : (o'.length : Int) < (o'.length : Int) + 1 := by omega
    have hb1 : decide ((0 : Int) ≤ (o'.length : Int)) = true := decide_eq_true (by omega)
    have hq2 : IntKind.i64.wrap (q2 + 1) = q2 + 1 := by rw [IntKind.wrap_i64]; omega
    by_cases he : q2 + 1 = lo
    · have hb2 : (q2 + 1 == lo) = true := beq_iff_eq.2 he
      have HG : Hid (Gram.grow (o' ++ [(q1, q2)]) lo hi = o' ++ [(q1, hi)]) := Lib.hid (grow_join _ _ _ _ he)
      have R : Hid (Own (w.setCell ⟨g, o'.length * 2 + 1, none⟩ (.int .i64 hi)) B (.slice (some ⟨g, 0, none⟩) (o'.length + 1) cap) (o' ++ [(q1, hi)]) ∧ Kp (fun k => B ≤ k) w (w.setCell ⟨g, o'.length * 2 + 1, none⟩ (.int .i64 hi))) := Lib.hid ⟨hset hi, (Kp.refl _ _).setCell (.inl hg) _⟩
      clear he hown hb hset
      go_enter Tryz.func195, Tryz.ntmps195
      go_wp2_with fail
      go_ret
      exact ⟨_, rfl, by rw [HG.out]; exact R.out.1, R.out.2⟩
    · have hb2 : (q2 + 1 == lo) = false := beq_eq_false_iff_ne.2 he
      have HG : Hid (Gram.grow (o' ++ [(q1, q2)]) lo hi = o' ++ [(q1, q2)] ++ [(lo, hi)]) := Lib.hid (grow_new _ _ _ _ he)
      have HO := Lib.hid hown
      clear he hown hb hset
      go_enter Tryz.func195, Tryz.ntmps195
      go_wp2_with (first
        | (at_builtin; refine wpList_append_own _ rfl (.tmp 29) (.tmp 33) 31 rfl B 191 i0 (.agg #[.int .i64 0, .int .i64 0]) 2 16 Tryz.underlying31 hi0 hz0 hz1 hz2 rfl (by decide) _ _ _ rfl (HO.out.alloc _) ⟨w.heap.size, 0, none⟩ 1 1 [.int .i64 lo, .int .i64 hi] rfl rfl (two_new w (.int .i64 lo) (.int .i64 hi) 191) (fun x hx => by simp at hx; rcases hx with rfl | rfl <;> rfl) (by rw [List.length_append, List.length_singleton]; unfold maxLen; omega) (by rw [List.length_append, List.length_singleton]; omega) (by rw [World.size_alloc]; omega) ?_; intro v' w3 hown' hgrow3 hnil3; have R := Lib.hid (HB.out w3 v' hown' hgrow3); clear hown' hgrow3 hnil3))
      go_ret
      exact ⟨_, rfl, by rw [HG.out]; exact R.out.1, R.out.2⟩
end Go.Proofs.YtoijabgcgdgacaaGreatDoor

namespace Go.Proofs.YtoijabgcgdgacaaGreatDoor
open Go.RowKit Go.Proofs.Gram

theorem wantB_congr {a b : List (Int × Int)} {how p q : Int} (hp : isP p) (hq : isP q) (ha : inR a p ↔ inR a q) (hb : inR b p ↔ inR b q) : wantB a b how p = true ↔ wantB a b how q = true := by
  have e1 : hasB a p = hasB a q := by
    rw [Bool.eq_iff_iff, hasB_iff, hasB_iff]
    exact ⟨fun h => ⟨hq, ha.1 h.2⟩, fun h => ⟨hp, ha.2 h.2⟩⟩
  have e2 : hasB b p = hasB b q := by
    rw [Bool.eq_iff_iff, hasB_iff, hasB_iff]
    exact ⟨fun h => ⟨hq, hb.1 h.2⟩, fun h => ⟨hp, hb.2 h.2⟩⟩
  unfold wantB
  rw [e1, e2]

theorem ints_open {w : World} {ok : Nat → Prop} {v : Value} {l : List Int} (h : Ints w ok v l) (h2 : 2 ≤ l.length) : ∃ g off cap, v = .slice (some ⟨g, off, none⟩) l.length cap ∧ l.length ≤ cap ∧ cap ≤ maxLen ∧
    ∀ k x, l[k]? = some x → w.cell? ⟨g, off + k, none⟩ = some (.int .i64 x) := by
  rcases h with ⟨_, h, _⟩ | ⟨g, off, cap, rfl, hn, hcap, hg, hlt, hc⟩
  · omega
  · exact ⟨g, off, cap, rfl, hn, hcap, fun k x hx => hc k _ (icells_at l k x hx)⟩

def BothE (w : World) (a b : List (Int × Int)) (how : Int) (e : Ending) (w' : World) : Prop :=
  ∃ u, e = .returned u ∧ Rngs w' (fun k => w.heap.size ≤ k) u (canonOf fun p => wantB a b how p = true) ∧ Kp noB w w'

set_option maxRecDepth 100000 in
set_option maxHeartbeats 2000000 in
theorem rsets_any (va vb : Value) (a b : List (Int × Int)) (ok1 ok2 : Nat → Prop) (w : World) (hra : Rngs w ok1 va a) (hrb : Rngs w ok2 vb b) (hsa : a.length ≤ 16777217) (hsb : b.length ≤ 16777217) (how : Int) :
    Calls Tryz.prog 211 #[va, vb, .int .i64 how] w (BothE w a b how) := by
  obtain ⟨E, hE⟩ : ∃ E, edges (edges ends a) b = E := ⟨_, rfl⟩
  have hmade := both_made a b (fun p => wantB a b how p = true) (fun p q hp hq ha hb => wantB_congr hp hq ha hb) E hE
  obtain ⟨S, hS⟩ : ∃ S : Int → Prop, (fun p => wantB a b how p = true) = S := ⟨_, rfl⟩
  have HS : Hid (∀ p, S p ↔ wantB a b how p = true) := Lib.hid fun p => by rw [← hS]
  have HB : Hid (∀ e w', (∃ u, e = .returned u ∧ Rngs w' (fun k => w.heap.size ≤ k) u (canonOf S) ∧ Kp noB w w') → BothE w a b how e w') := Lib.hid fun e w' h => by unfold BothE; rw [hS]; exact h
  rw [hS] at hmade
  obtain ⟨hEd, hEl, hg1, hg2, hg3, hg4⟩ := hmade
  have HEND := Lib.hid (ends_any w)
  have HRA := Lib.hid hra
  have HRB := Lib.hid hrb
  have HEQ := Lib.hid hE
  have HED := Lib.hid hEd
  have HG := Lib.hid hg1
  have HG2 := Lib.hid hg2
  have hE2 := hEd.2.2.1
  obtain ⟨A, capA, rfl, _⟩ := rngs_open hra
  obtain ⟨Bb, capB, rfl, _⟩ := rngs_open hrb
  clear hra hrb hE hS hEd hg1 hg2 hg3 hg4
  go_enter Tryz.func211, Tryz.ntmps211
  go_wp2_with fail
  refine HEND.out.mono ?_
  clear HEND
  rintro e w1 ⟨u0, rfl, hI0, hk1⟩
  have hs1 := hk1.size
  have HC1 := Lib.hid (edges_any u0 (.slice A a.length capA) ends a w.heap.size ok1 w1 hI0 hs1 (HRA.out.kp hk1 fun _ _ _ => noB_not _) (by have : ends.length = 2 := rfl; omega) edg_ends)
  clear hI0
  go_wp2_with fail
  refine HC1.out.mono ?_
  clear HC1
  rintro e w2 ⟨u1, rfl, hI1, hk2⟩
  have hk2' := hk1.trans hk2
  have hs2 := hk2'.size
  have HC2 := Lib.hid (edges_any u1 (.slice Bb b.length capB) (edges ends a) b w.heap.size ok2 w2 hI1 hs2 (HRB.out.kp hk2' fun _ _ _ => noB_not _) (by have := edges_length a ends; have : ends.length = 2 := rfl; omega) (edg_ends.edges a))
  clear hI1 hk1 hk2 hs1
  go_wp2_with fail
  refine HC2.out.mono ?_
  clear HC2
  rintro e w3 ⟨u2, rfl, hI2, hk3⟩
  rw [HEQ.out] at hI2
  obtain ⟨g, off, cap, rfl, hcap1, hcap2, hcl⟩ := ints_open hI2 hE2
  have HCL := Lib.hid hcl
  have HK3 := Lib.hid (hk2'.trans hk3)
  have hs3 := HK3.out.size
  clear hI2 hk3 hk2' hs2 hcl
  go_wp2_with fail
  go_loopw [8, 9] (fun u i wr => ∃ k : Nat, k + 1 ≤ E.length ∧ i = .int .i64 k ∧ Hid (Own wr w3.heap.size u (gath S E k)) ∧ Hid (Kp noB w3 wr)) (fun _ i _ => E.length - (intOf i).toNat)
  case atStart => exact ⟨0, by omega, rfl, Lib.hid (own_nil _ _), Lib.hid (Kp.refl _ _)⟩
  case round =>
    obtain ⟨k, hk, rfl, HO, HK⟩ := hrel
    have hw1 : IntKind.i64.wrap ((k : Int) + 1) = (k : Int) + 1 := by rw [IntKind.wrap_i64]; omega
    rcases Nat.lt_or_ge (k + 1) E.length with hlt | hge
    · have hb : decide ((k : Int) + 1 < (E.length : Int)) = true := decide_eq_true (by omega)
      obtain ⟨x, hx⟩ : ∃ x, E[k]? = some x := ⟨E[k]'(by omega), by simp⟩
      obtain ⟨y, hy⟩ : ∃ y, E[k + 1]? = some y := ⟨E[k + 1]'(by omega), by simp⟩
      have hcx := HK.out.cell (HCL.out k x hx) (noB_not _)
      have hcy := HK.out.cell (HCL.out (k + 1) y hy) (noB_not _)
      have hyb := HED.out.bnd (List.mem_of_getElem? hy)
      have hgx := HG.out k x hx
      have HW := Lib.hid (wanted_any (.slice A a.length capA) (.slice Bb b.length capB) a b ok1 ok2 wr ((HRA.out.kp HK3.out fun _ _ _ => noB_not _).kp HK.out fun _ _ _ => noB_not _) ((HRB.out.kp HK3.out fun _ _ _ => noB_not _).kp HK.out fun _ _ _ => noB_not _) (by omega) (by omega) how x)
      have hkk : (k : Int) < (E.length : Int) := by omega
      by_cases hsx : S x
      · have hwt : wantB a b how x = true := (HS.out x).1 hsx
        rw [hwt] at HW
        have HGA := Lib.hid (gath_yes hx hy hsx)
        have HGR := Lib.hid (fun W hO hB => grow_any u8 (gath S E k) x (y - 1) w3.heap.size W hO hB (by omega) (fun q hq => by have := canonFrom_mem hgx.1 q hq; omega))
        have hw2 : IntKind.i64.wrap (y - 1) = y - 1 := by rw [IntKind.wrap_i64]; omega
        have hk1' : (0 : Int) ≤ (k : Int) + 1 := by omega
        have hk2' : ((k : Int) + 1).toNat = k + 1 := by omega
        have hk3' : (k : Int) + 1 < (E.length : Int) := by omega
        clear hwt hsx hgx hx hy hyb
        go_wp2_with fail
        refine HW.out.mono ?_
        rintro e w4 ⟨rfl, rfl⟩
        go_wp2_with fail
        have HK0 : Hid (Kp noB w3 w4.drew) := Lib.hid HK.out.drew
        have HO0 : Hid (Own w4.drew w3.heap.size u8 (gath S E k)) := Lib.hid HO.out
        have HGR0 := Lib.hid (HGR.out _ HO0.out HK0.out.size)
        go_still_tail 11, (by kernel_rfl)
        change wpList _ _ _ _ _ w4.drew
        go_wp2_with fail
        refine HGR0.out.mono ?_
        rintro e w5 ⟨u, rfl, hO5, hk5⟩
        have HO5 := Lib.hid hO5
        have HK5 : Hid (Kp noB w3 w5) := Lib.hid (HK0.out.later hk5 fun i hi h => by omega)
        clear hO5 hk5
        go_wp2_with fail
        go_roundw
        case rel => exact ⟨k + 1, by omega, by go_num, Lib.hid (by rw [HGA.out]; exact HO5.out), HK5⟩
        case measure => simp [intOf]; omega
      · have hwt : wantB a b how x = false := by
          cases h : wantB a b how x
          · rfl
          · exact absurd ((HS.out x).2 h) hsx
        rw [hwt] at HW
        have HGA := Lib.hid (gath_no hx hy hsx)
        clear hwt hsx hgx hx hy hyb
        go_wp2_with fail
        refine HW.out.mono ?_
        rintro e w4 ⟨rfl, rfl⟩
        go_wp2_with fail
        go_roundw
        case rel => exact ⟨k + 1, by omega, by go_num, Lib.hid (by rw [HGA.out]; exact HO.out), HK⟩
        case measure => simp [intOf]; omega
    · have hb : decide ((k : Int) + 1 < (E.length : Int)) = false := decide_eq_false (by omega)
      have hkE : k = E.length - 1 := by omega
      have R : Hid (Rngs wr (fun k => w.heap.size ≤ k) u8 (canonOf S) ∧ Kp noB w wr) := Lib.hid (by
        have h1 := HO.out
        rw [hkE, HG2.out] at h1
        exact ⟨Cells.ok h1.rngs fun k _ h => by omega, HK3.out.trans HK.out⟩)
      clear hkE
      go_wp2_with fail
      go_ret
      exact HB.out _ _ ⟨_, rfl, R.out.1, R.out.2⟩

theorem rngs_nil (w : World) (ok : Nat → Prop) : Rngs w ok (.slice none 0 0) [] := .inl ⟨rfl, rfl, rfl⟩

/-- A set in canonical form. -/
theorem rcanon_any (v : Value) (l : List (Int × Int)) (okk : Nat → Prop) (w : World) (hr : Rngs w okk v l) (hsz : l.length ≤ 16777216) :
    Calls Tryz.prog 173 #[v] w fun e w' => ∃ u, e = .returned u ∧ Rngs w' (fun k => w.heap.size ≤ k) u (canonOf (inR l)) ∧ Kp noB w w' := by
  have e : canonOf (fun p => wantB l [] 1 p = true) = canonOf (inR l) := canonOf_congr fun p hp => by
    unfold wantB
    rw [if_pos rfl, Bool.or_eq_true, hasB_iff, hasB_iff]
    exact ⟨fun h => h.elim (fun h => h.2) fun h => (inR_nil p h.2).elim, fun h => .inl ⟨hp, h⟩⟩
  have HB := rsets_any v (.slice none 0 0) l [] okk okk w hr (rngs_nil w okk) (by omega) (by simp) 1
  unfold BothE at HB
  rw [e] at HB
  have HBB := Lib.hid HB
  clear HB hr e
  go_enter Tryz.func173, Tryz.ntmps173
  go_wp2_with fail
  refine HBB.out.mono ?_
  rintro e w1 ⟨u, rfl, hI, hk⟩
  have R := Lib.hid (And.intro hI hk)
  clear hI hk
  go_wp2_with fail
  go_ret
  exact ⟨_, rfl, R.out.1, R.out.2⟩

/-- The points that a set has not. -/
theorem rother_any (va v : Value) (l : List (Int × Int)) (ok1 okk : Nat → Prop) (w : World) (hra : Rngs w ok1 va [(0, 1114111)]) (hr : Rngs w okk v l) (hsz : l.length ≤ 16777216) :
    Calls Tryz.prog 211 #[va, v, .int .i64 3] w fun e w' => ∃ u, e = .returned u ∧ Rngs w' (fun k => w.heap.size ≤ k) u (canonOf fun p => ¬ inR l p) ∧ Kp noB w w' := by
  have e : canonOf (fun p => wantB [(0, 1114111)] l 3 p = true) = canonOf (fun p => ¬ inR l p) := canonOf_congr fun p hp => by
    unfold wantB
    rw [if_neg (by decide), if_neg (by decide), Bool.and_eq_true, hasB_iff, Bool.not_eq_true', Bool.eq_false_iff, ne_eq, hasB_iff]
    refine ⟨fun h h' => h.2 ⟨hp, h'⟩, fun h => ⟨⟨hp, ⟨(0, 1114111), by simp, hp.1, hp.2⟩⟩, fun h' => h h'.2⟩⟩
  have HB := rsets_any va v [(0, 1114111)] l ok1 okk w hra hr (by simp) (by omega) 3
  unfold BothE at HB
  rw [e] at HB
  exact HB
end Go.Proofs.YtoijabgcgdgacaaGreatDoor
