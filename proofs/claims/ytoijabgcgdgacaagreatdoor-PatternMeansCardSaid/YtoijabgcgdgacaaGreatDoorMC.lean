/-
  WALKS, mg: the reference: one part put into the list of a sum or a product.
  WALKS, mh: the reference: all parts of a pattern put into the list of a sum or a product; a sum or a product of patterns.
  WALKS, mi: the reference: a sum or a product of patterns.
-/
import Derived.Test.YtoijabgcgdgacaaGreatDoorMB
import Derived.Test.YtoijabgcgdgacaaGreatDoorMA
import Derived.Test.YtoijabgcgdgacaaGreatDoorRB
import Derived.Laws.AppendOwnNone
namespace Go.Proofs.YtoijabgcgdgacaaGreatDoor
open Go.RowKit Go.Proofs.Gram Go.Lib

theorem info22_parts : ∃ i, Tryz.prog.info? 22 = some i ∧ i.zero = some (.pointer none) ∧ i.size = 1 ∧ i.bytes = 8 := by
  obtain ⟨i, hi, h⟩ := Option.map_eq_some_iff.1 info22
  simp only [Prod.mk.injEq] at h
  exact ⟨i, hi, h.1, h.2.1, h.2.2⟩

/-- A list of patterns that lies in one's own row. -/
theorem pats_own {w w' : World} {ok : Nat → Prop} {base : Nat} {v : Value} {n : Nat} {ps : List Value} {l : List Rx} (h : w'.ownsRow base 22 1 v n ps) (hb : w.heap.size ≤ base) (hn : n = l.length) (hp : ps.length = l.length)
    (hr : ∀ (i : Nat) (p : Value) (t : Rx), ps[i]? = some p → l[i]? = some t → IsRe w' ok p t) : Pats w' (orF ok w) v l := by
  subst hn
  exact ⟨ps, (own_cells h).ok fun k _ hk => .inr (Nat.le_trans hb hk), hp, fun i p t h1 h2 => (hr i p t h1 h2).ok fun _ _ h => .inl h⟩

theorem ins_step {acc : List Rx} {p x : Rx} {k : Nat} (h : insR acc p = acc.take k ++ insR (acc.drop k) p) (hx : acc[k]? = some x) :
    (ordR x p = 0 → insR acc p = acc) ∧ (0 < ordR x p → insR acc p = acc.take k ++ [p] ++ acc.drop k) ∧ (ordR x p < 0 → insR acc p = acc.take (k + 1) ++ insR (acc.drop (k + 1)) p) := by
  rw [drop_at hx, insR] at h
  refine ⟨fun e => ?_, fun e => ?_, fun e => ?_⟩
  · rw [h, if_pos e, ← drop_at hx, List.take_append_drop]
  · rw [h, if_neg (by omega), if_pos e, drop_at hx]
    simp
  · rw [h, if_neg (by omega), if_neg (by omega), take_snoc _ _ _ hx]
    simp
theorem ins_end {acc : List Rx} {p : Rx} {k : Nat} (h : insR acc p = acc.take k ++ insR (acc.drop k) p) (hk : k = acc.length) : insR acc p = acc.take k ++ [p] ++ acc.drop k := by
  rw [h, List.drop_eq_nil_of_le (by omega), insR]
  simp

theorem get_ins {α : Type} {a b : List α} {x : α} {i k : Nat} (hk : k ≤ a.length) {y : α} (h : (a.take k ++ [x] ++ a.drop k)[i]? = some y) : (i < k ∧ a[i]? = some y) ∨ (i = k ∧ y = x) ∨ (k < i ∧ a[i - 1]? = some y) := by
  have hl : (a.take k).length = k := by simp; omega
  rcases Nat.lt_trichotomy i k with h1 | rfl | h1
  · left
    rw [List.append_assoc, List.getElem?_append_left (by omega), List.getElem?_take, if_pos h1] at h
    exact ⟨h1, h⟩
  · right; left
    rw [List.append_assoc, List.getElem?_append_right (by omega), hl, Nat.sub_self] at h
    simp at h
    exact ⟨rfl, h.symm⟩
  · right; right
    rw [List.append_assoc, List.getElem?_append_right (by omega), hl, List.getElem?_append_right (by simp; omega), List.getElem?_drop] at h
    refine ⟨h1, ?_⟩
    rw [← h]
    congr 1
    simp
    omega

def AddC (kind : Int) (p : Rx) : Prop := ∀ (acc : List Rx) (v1 v2 : Value) (ok : Nat → Prop) (w : World), Pats w ok v1 acc → IsRe w ok v2 p → (∀ x ∈ acc, Nm BB x) → Nm BB p → Srt acc →
  (∃ P : List Rx, P.length ≤ BB ∧ (∀ x ∈ acc, x ∈ P) ∧ ∀ x ∈ atm kind p, x ∈ P) →
  Calls Tryz.prog 159 #[.int .i64 kind, v1, v2] w fun e w' => ∃ u, e = .returned u ∧ Pats w' (orF ok w) u (addR kind p acc) ∧ Kp noB w w'

section
variable {kind k' mn mx : Int} {set : List (Int × Int)} {kids acc : List Rx} {b : Nat} {w : World} {ok : Nat → Prop}

set_option maxRecDepth 100000 in
set_option maxHeartbeats 4000000 in
theorem add_ins {v1 : Value} (hra : Pats w ok v1 acc) (hre : IsRe w ok (.pointer (some ⟨b, 0, none⟩)) (.mk k' set mn mx kids)) (hna : ∀ x ∈ acc, Nm BB x) (hnp : Nm BB (.mk k' set mn mx kids)) (hk : k' ≠ kind) (hl : acc.length ≤ 8796093022208) :
    Calls Tryz.prog 159 #[.int .i64 kind, v1, .pointer (some ⟨b, 0, none⟩)] w fun e w' => ∃ u, e = .returned u ∧ Pats w' (orF ok w) u (insR acc (.mk k' set mn mx kids)) ∧ Kp noB w w' := by
  obtain ⟨i0, hi, hz0, hz1, hz2⟩ := info22_parts
  have c0 : w.cell? ⟨b, 0, none⟩ = some (.int .i64 k') := by
    obtain ⟨b1, _, _, _, e, hb, _⟩ := hre.inv
    simp only [Value.pointer.injEq, Option.some.injEq, Addr.mk.injEq] at e
    obtain ⟨rfl, _⟩ := e
    simp [World.cell?, hb]
  have b0 : (k' == kind) = false := by simp [hk]
  obtain ⟨ps, hca, hpl, hpr⟩ := hra
  have HRE := Lib.hid hre
  have HORD : Hid (∀ (k : Nat) (u : Value) (x : Rx), ps[k]? = some u → acc[k]? = some x → ∀ q, Calls Tryz.prog 196 #[u, .pointer (some ⟨b, 0, none⟩)] (w.drewN q) fun e w' => e = .returned (.int .i64 (ordR x (.mk k' set mn mx kids))) ∧ ∃ m, w' = w.drewN m) := Lib.hid fun k u x hu hx q =>
    (ord_any _ x (Nat.le_refl _) _ u _ ok ok (w.drewN q) ((hpr k u x hu hx).kp ((Kp.refl noB w).drewN q) fun _ _ _ => noB_not _) (hre.kp ((Kp.refl noB w).drewN q) fun _ _ _ => noB_not _) (hna x (List.mem_of_getElem? hx)) hnp).mono
      fun e w' ⟨he, m, hm⟩ => ⟨he, q + m, by rw [hm, World.drewN_drewN]⟩
  have HONE : Hid (∀ u ∈ ps, u.oneCell' = true) := Lib.hid fun u hu => by
    obtain ⟨i, hi⟩ := List.getElem?_of_mem hu
    have hlt := (List.getElem?_eq_some_iff.1 hi).1
    exact IsRe_one (hpr i u acc[i] hi (by simp))
  obtain ⟨p, hp⟩ : ∃ p, p = Rx.mk k' set mn mx kids := ⟨_, rfl⟩
  have HFIN : Hid (∀ (k n : Nat) (v3 : Value) {w3 : World}, k ≤ acc.length → n = acc.length + 1 → w3.ownsRow w.heap.size 22 1 v3 n ([] ++ ps.take k ++ [.pointer (some ⟨b, 0, none⟩)] ++ ps.drop k) → Kp noB w w3 → Pats w3 (orF ok w) v3 (acc.take k ++ [p] ++ acc.drop k)) := Lib.hid fun k n v3 w3 hk hn hown hkp => by
    refine pats_own hown (Nat.le_refl _) (by rw [hn]; simp; omega) (by simp; omega) fun i u t hu ht => ?_
    rw [List.nil_append] at hu
    rcases get_ins (b := ps) (by omega) hu with ⟨h1, h2⟩ | ⟨h1, h2⟩ | ⟨h1, h2⟩
    · rcases get_ins (b := acc) hk ht with ⟨_, h4⟩ | ⟨h3, _⟩ | ⟨h3, _⟩
      · exact (hpr i u t h2 h4).kp hkp fun _ _ _ => noB_not _
      · omega
      · omega
    · rcases get_ins (b := acc) hk ht with ⟨h3, _⟩ | ⟨_, h4⟩ | ⟨h3, _⟩
      · omega
      · rw [h2, h4, hp]; exact hre.kp hkp fun _ _ _ => noB_not _
      · omega
    · rcases get_ins (b := acc) hk ht with ⟨h3, _⟩ | ⟨h3, _⟩ | ⟨_, h4⟩
      · omega
      · omega
      · exact (hpr (i - 1) u t h2 h4).kp hkp fun _ _ _ => noB_not _
  have HSELF : Hid (∀ q, Pats (w.drewN q) (orF ok w) v1 acc) := Lib.hid fun q => (Pats.kp ⟨ps, hca, hpl, hpr⟩ ((Kp.refl noB w).drewN q)).ok fun _ h => .inl h
  rw [← hp] at HORD ⊢
  clear hpr hna hnp hre hk hp HRE
  rcases hca with ⟨rfl, h0, rfl⟩ | ⟨g, off, cap, rfl, hn, hcap, hg, hlt, hc⟩
  · have h00 := List.eq_nil_of_length_eq_zero h0
    subst h00
    have HIN : Hid (insR [] p = [p]) := Lib.hid rfl
    have HF : Hid (∀ (n : Nat) (v3 : Value) {w3 : World}, n = 1 → w3.ownsRow w.heap.size 22 1 v3 n ([] ++ [.pointer (some ⟨b, 0, none⟩)]) → Kp noB w w3 → Pats w3 (orF ok w) v3 [p]) := Lib.hid fun n v3 w3 hn h1 h2 => HFIN.out 0 n v3 (Nat.le_refl _) hn h1 h2
    clear HFIN HORD HONE HSELF h0 hpl hl
    rw [HIN.out]
    go_enter Tryz.func159, Tryz.ntmps159
    go_wp2_with fail
    go_loopw [8] (fun c wr => c = .int .i64 0 ∧ wr = w) (fun c _ => 0)
    case atStart => exact ⟨rfl, rfl⟩
    case round =>
      obtain ⟨rfl, hw⟩ := hrel
      have hw := hw.symm
      subst hw
      go_wp2_with (first
        | (at_builtin; refine wpList_append_own_none rfl (.tmp 54) (.tmp 57) 32 rfl w.heap.size 22 i0 1 Tryz.underlying32 hi (.slice none 0 0) 0 [] rfl (World.ownsRow_nil _ _ _ _) rfl ?_)
        | (at_builtin; refine wpList_append_own _ rfl (.tmp 59) (.tmp 61) 32 rfl w.heap.size 22 i0 (.pointer none) 1 8 Tryz.underlying32 hi hz0 hz1 hz2 rfl (by decide) (.slice none 0 0) 0 [] rfl (World.ownsRow_nil _ _ _ _) ⟨w.heap.size, 0, none⟩ 1 1 [.pointer (some ⟨b, 0, none⟩)] rfl rfl (cell_one_new w _ 22) (fun x hx => by simp at hx; subst hx; rfl) (by decide) (by decide) (by rw [World.size_alloc]; omega) ?_; intro v2 w2 hown2 hgrow2 hnil2; have hk2 : Kp noB w w2 := ((Kp.refl noB w).alloc _).grown hgrow2 (fun k hk => by cases hk); have hs2 := hk2.size; clear hgrow2 hnil2)
        | (at_builtin; refine wpList_append_own_none rfl (.tmp 63) (.tmp 66) 32 rfl w.heap.size 22 i0 1 Tryz.underlying32 hi v2 (0 + 1) ([] ++ [.pointer (some ⟨b, 0, none⟩)]) rfl hown2 rfl ?_))
      go_ret
      exact ⟨_, rfl, HF.out _ _ rfl hown2 hk2, hk2⟩
  · have HC := Lib.hid hc
    have HPL := Lib.hid hpl
    unfold maxLen at hcap
    clear hc
    go_enter Tryz.func159, Tryz.ntmps159
    go_wp2_with fail
    go_loopw [8] (fun c wr => ∃ k q : Nat, k ≤ acc.length ∧ c = .int .i64 k ∧ Hid (insR acc p = acc.take k ++ insR (acc.drop k) p) ∧ wr = w.drewN q) (fun c _ => acc.length - (intOf c).toNat)
    case atStart => exact ⟨0, 0, Nat.zero_le _, rfl, Lib.hid rfl, rfl⟩
    case round =>
      obtain ⟨k, q, hk, rfl, HT, rfl⟩ := hrel
      rcases Nat.lt_or_ge k acc.length with hlt2 | hge
      · obtain ⟨x, hx⟩ : ∃ x, acc[k]? = some x := ⟨acc[k], by simp [hlt2]⟩
        obtain ⟨u, hu⟩ : ∃ u, ps[k]? = some u := ⟨ps[k]'(by omega), by simp⟩
        have hcell := HC.out k u hu
        have HCALL := Lib.hid (HORD.out k u x hu hx q)
        have HX := Lib.hid (ins_step HT.out hx)
        have hb1 : decide ((k : Int) < (acc.length : Int)) = true := decide_eq_true (by omega)
        have hkc : ¬ cap = k := by omega
        have hkc' : (k : Int) ≤ (cap : Int) := by omega
        obtain ⟨d, hd⟩ : ∃ d, ordR x p = d := ⟨_, rfl⟩
        rw [hd] at HCALL HX
        clear hx hu hd
        rcases Int.lt_trichotomy d 0 with h | h | h
        · have HN := Lib.hid (HX.out.2.2 h)
          have g0 : (d == 0) = false := by simp; omega
          have g1 : decide (d > 0) = false := decide_eq_false (by omega)
          have g1' : decide (0 < d) = false := decide_eq_false (by omega)
          clear HX h
          go_wp2_with fail
          refine HCALL.out.mono ?_
          rintro e w' ⟨rfl, m, rfl⟩
          go_wp2_with fail
          go_roundw
          case rel => exact ⟨k + 1, m, by omega, by simp, HN, rfl⟩
          case measure => simp only [intOf]; omega
        · have R := Lib.hid (HX.out.1 h)
          subst h
          clear HX
          go_wp2_with fail
          refine HCALL.out.mono ?_
          rintro e w' ⟨rfl, m, rfl⟩
          go_wp2_with fail
          go_ret
          rw [R.out]
          exact ⟨_, rfl, HSELF.out _, (Kp.refl noB w).drewN m⟩
        · have R := Lib.hid (HX.out.2.1 h)
          have R2 : Hid (0 + k + 1 + (acc.length - k) = acc.length + 1) := Lib.hid (by omega)
          have g0 : (d == 0) = false := by simp; omega
          have g1 : decide (d > 0) = true := decide_eq_true (by omega)
          have g1' : decide (0 < d) = true := decide_eq_true (by omega)
          clear HX h
          go_wp2_with fail
          refine HCALL.out.mono ?_
          rintro e w' ⟨rfl, q, rfl⟩
          have hk47 : k ≤ 8796093022208 := by omega
          have HL1 : Hid ((ps.take k).length = k * 1) := Lib.hid (by simp; omega)
          have HM1 : Hid (0 + k ≤ maxLen ∧ (0 + k) * 8 ≤ 140737488355328) := Lib.hid ⟨by unfold maxLen; omega, by omega⟩
          have HM3 : Hid ((0 + k + 1) + (acc.length - k) ≤ maxLen ∧ ((0 + k + 1) + (acc.length - k)) * 8 ≤ 140737488355328) := Lib.hid ⟨by unfold maxLen; omega, by omega⟩
          have HM2 : Hid (0 + k + 1 ≤ maxLen ∧ (0 + k + 1) * 8 ≤ 140737488355328) := Lib.hid ⟨by unfold maxLen; omega, by omega⟩
          have HL3 : Hid ((ps.drop k).length = (acc.length - k) * 1) := Lib.hid (by simp; omega)
          have HCS : Hid (∀ j u, (ps.take k)[j]? = some u → (w.drewN q).cell? ((⟨g, off, none⟩ : Addr).add j) = some u) := Lib.hid fun j u hj => by
            rw [List.getElem?_take] at hj
            split at hj
            · have h2 := HC.out j u hj
              unfold Addr.add
              split
              · rename_i h3; subst h3; exact h2
              · exact h2
            · cases hj
          have HA3 : Hid (∀ j u w2, Kp noB w w2 → (ps.drop k)[j]? = some u → w2.cell? ((⟨g, off + k, none⟩ : Addr).add j) = some u) := Lib.hid fun j u w2 hk hj => by
            have h1 : w.cell? ⟨g, off + k + j, none⟩ = some u := by
              rw [Nat.add_assoc]
              exact HC.out (k + j) u (by simpa using hj)
            have h2 := hk.cell h1 (noB_not _)
            unfold Addr.add
            split
            · rename_i h3; subst h3; exact h2
            · exact h2
          go_wp2_with (first
            | (at_builtin; refine wpList_append_own _ rfl (.tmp 54) (.tmp 57) 32 rfl w.heap.size 22 i0 (.pointer none) 1 8 Tryz.underlying32 hi hz0 hz1 hz2 rfl (by decide) (.slice none 0 0) 0 [] rfl (World.ownsRow_nil _ _ _ _) ⟨g, off, none⟩ k cap (ps.take k) rfl HL1.out (fun j u hj => HCS.out j u hj) (fun u hu => HONE.out u (List.mem_of_mem_take hu)) HM1.out.1 HM1.out.2 (Nat.le_refl _) ?_; intro v1 w1 hown1 hgrow1 hnil1; have hk1 : Kp noB w w1 := ((Kp.refl noB w).drewN q).grown hgrow1 (fun k hk => by cases hk); have hs1 := hk1.size; clear hgrow1 hnil1)
            | (at_builtin; refine wpList_append_own _ rfl (.tmp 59) (.tmp 61) 32 rfl w.heap.size 22 i0 (.pointer none) 1 8 Tryz.underlying32 hi hz0 hz1 hz2 rfl (by decide) v1 (0 + k) ([] ++ ps.take k) rfl (hown1.alloc _) ⟨w1.heap.size, 0, none⟩ 1 1 [.pointer (some ⟨b, 0, none⟩)] rfl rfl (cell_one_new w1 _ 22) (fun x hx => by simp at hx; subst hx; rfl) HM2.out.1 HM2.out.2 (by rw [World.size_alloc]; omega) ?_; intro v2 w2 hown2 hgrow2 hnil2; have hk2 : Kp noB w w2 := (hk1.alloc _).grown hgrow2 (fun k hk => .inr (hown1.lt k hk).1); have hs2 := hk2.size; clear hgrow2 hnil2 hown1)
            | (at_builtin; go_loud (refine wpList_append_own _ rfl (.tmp 63) (.tmp 66) 32 rfl w.heap.size 22 i0 (.pointer none) 1 8 Tryz.underlying32 hi hz0 hz1 hz2 rfl (by decide) v2 (0 + k + 1) ([] ++ ps.take k ++ [.pointer (some ⟨b, 0, none⟩)]) rfl hown2 ⟨g, off + k, none⟩ _ _ (ps.drop k) rfl (by first | exact HL3.out | (have h9 := HPL.out; simp; omega)) (fun j u hj => HA3.out j u w2 hk2 hj) (fun u hu => HONE.out u (List.mem_of_mem_drop hu)) (by first | exact HM3.out.1 | (unfold maxLen; omega)) (by first | exact HM3.out.2 | omega) hs2 ?_; intro v3 w3 hown3 hgrow3 hnil3; have hk3 : Kp noB w w3 := hk2.grown hgrow3 (fun k hk => .inr (hown2.lt k hk).1); clear hgrow3 hnil3 hown2)))
          go_ret
          refine ⟨_, rfl, ?_, hk3⟩
          rw [R.out]
          exact HFIN.out _ _ _ (by omega) (by have h9 := R2.out; omega) hown3 hk3
      · have R := Lib.hid (ins_end HT.out (by omega))
        have R2 : Hid (0 + k + 1 + (acc.length - k) = acc.length + 1) := Lib.hid (by omega)
        have hb1 : decide ((k : Int) < (acc.length : Int)) = false := decide_eq_false (by omega)
        have hb2 : ¬ (k : Int) < (acc.length : Int) := by omega
        by_cases hkc : cap = k
        · have hkc' : (k : Int) ≤ (cap : Int) := by omega
          have hkc := hkc.symm
          subst hkc
          have hk47 : k ≤ 8796093022208 := by omega
          have HL1 : Hid ((ps.take k).length = k * 1) := Lib.hid (by simp; omega)
          have HM1 : Hid (0 + k ≤ maxLen ∧ (0 + k) * 8 ≤ 140737488355328) := Lib.hid ⟨by unfold maxLen; omega, by omega⟩
          have HM3 : Hid ((0 + k + 1) + (acc.length - k) ≤ maxLen ∧ ((0 + k + 1) + (acc.length - k)) * 8 ≤ 140737488355328) := Lib.hid ⟨by unfold maxLen; omega, by omega⟩
          have HM2 : Hid (0 + k + 1 ≤ maxLen ∧ (0 + k + 1) * 8 ≤ 140737488355328) := Lib.hid ⟨by unfold maxLen; omega, by omega⟩
          have HL3 : Hid ((ps.drop k).length = (acc.length - k) * 1) := Lib.hid (by simp; omega)
          have HCS : Hid (∀ j u, (ps.take k)[j]? = some u → (w.drewN q).cell? ((⟨g, off, none⟩ : Addr).add j) = some u) := Lib.hid fun j u hj => by
            rw [List.getElem?_take] at hj
            split at hj
            · have h2 := HC.out j u hj
              unfold Addr.add
              split
              · rename_i h3; subst h3; exact h2
              · exact h2
            · cases hj
          have HA3 : Hid (∀ j u w2, Kp noB w w2 → (ps.drop k)[j]? = some u → w2.cell? ((⟨g, off, none⟩ : Addr).add j) = some u) := Lib.hid fun j u w2 hk hj => by
            rw [List.drop_eq_nil_of_le (by omega)] at hj
            simp at hj
          go_wp2_with (first
            | (at_builtin; refine wpList_append_own _ rfl (.tmp 54) (.tmp 57) 32 rfl w.heap.size 22 i0 (.pointer none) 1 8 Tryz.underlying32 hi hz0 hz1 hz2 rfl (by decide) (.slice none 0 0) 0 [] rfl (World.ownsRow_nil _ _ _ _) ⟨g, off, none⟩ k k (ps.take k) rfl HL1.out (fun j u hj => HCS.out j u hj) (fun u hu => HONE.out u (List.mem_of_mem_take hu)) HM1.out.1 HM1.out.2 (Nat.le_refl _) ?_; intro v1 w1 hown1 hgrow1 hnil1; have hk1 : Kp noB w w1 := ((Kp.refl noB w).drewN q).grown hgrow1 (fun k hk => by cases hk); have hs1 := hk1.size; clear hgrow1 hnil1)
            | (at_builtin; refine wpList_append_own _ rfl (.tmp 59) (.tmp 61) 32 rfl w.heap.size 22 i0 (.pointer none) 1 8 Tryz.underlying32 hi hz0 hz1 hz2 rfl (by decide) v1 (0 + k) ([] ++ ps.take k) rfl (hown1.alloc _) ⟨w1.heap.size, 0, none⟩ 1 1 [.pointer (some ⟨b, 0, none⟩)] rfl rfl (cell_one_new w1 _ 22) (fun x hx => by simp at hx; subst hx; rfl) HM2.out.1 HM2.out.2 (by rw [World.size_alloc]; omega) ?_; intro v2 w2 hown2 hgrow2 hnil2; have hk2 : Kp noB w w2 := (hk1.alloc _).grown hgrow2 (fun k hk => .inr (hown1.lt k hk).1); have hs2 := hk2.size; clear hgrow2 hnil2 hown1)
            | (at_builtin; go_loud (refine wpList_append_own _ rfl (.tmp 63) (.tmp 66) 32 rfl w.heap.size 22 i0 (.pointer none) 1 8 Tryz.underlying32 hi hz0 hz1 hz2 rfl (by decide) v2 (0 + k + 1) ([] ++ ps.take k ++ [.pointer (some ⟨b, 0, none⟩)]) rfl hown2 ⟨g, off, none⟩ _ _ (ps.drop k) rfl (by first | exact HL3.out | (have h9 := HPL.out; simp; omega)) (fun j u hj => HA3.out j u w2 hk2 hj) (fun u hu => HONE.out u (List.mem_of_mem_drop hu)) (by first | exact HM3.out.1 | (unfold maxLen; omega)) (by first | exact HM3.out.2 | omega) hs2 ?_; intro v3 w3 hown3 hgrow3 hnil3; have hk3 : Kp noB w w3 := hk2.grown hgrow3 (fun k hk => .inr (hown2.lt k hk).1); clear hgrow3 hnil3 hown2)))
          go_ret
          refine ⟨_, rfl, ?_, hk3⟩
          rw [R.out]
          exact HFIN.out _ _ _ (by omega) (by have h9 := R2.out; omega) hown3 hk3
        · have hkc' : (k : Int) ≤ (cap : Int) := by omega
          have hk47 : k ≤ 8796093022208 := by omega
          have HL1 : Hid ((ps.take k).length = k * 1) := Lib.hid (by simp; omega)
          have HM1 : Hid (0 + k ≤ maxLen ∧ (0 + k) * 8 ≤ 140737488355328) := Lib.hid ⟨by unfold maxLen; omega, by omega⟩
          have HM3 : Hid ((0 + k + 1) + (acc.length - k) ≤ maxLen ∧ ((0 + k + 1) + (acc.length - k)) * 8 ≤ 140737488355328) := Lib.hid ⟨by unfold maxLen; omega, by omega⟩
          have HM2 : Hid (0 + k + 1 ≤ maxLen ∧ (0 + k + 1) * 8 ≤ 140737488355328) := Lib.hid ⟨by unfold maxLen; omega, by omega⟩
          have HL3 : Hid ((ps.drop k).length = (acc.length - k) * 1) := Lib.hid (by simp; omega)
          have HCS : Hid (∀ j u, (ps.take k)[j]? = some u → (w.drewN q).cell? ((⟨g, off, none⟩ : Addr).add j) = some u) := Lib.hid fun j u hj => by
            rw [List.getElem?_take] at hj
            split at hj
            · have h2 := HC.out j u hj
              unfold Addr.add
              split
              · rename_i h3; subst h3; exact h2
              · exact h2
            · cases hj
          have HA3 : Hid (∀ j u w2, Kp noB w w2 → (ps.drop k)[j]? = some u → w2.cell? ((⟨g, off + k, none⟩ : Addr).add j) = some u) := Lib.hid fun j u w2 hk hj => by
            have h1 : w.cell? ⟨g, off + k + j, none⟩ = some u := by
              rw [Nat.add_assoc]
              exact HC.out (k + j) u (by simpa using hj)
            have h2 := hk.cell h1 (noB_not _)
            unfold Addr.add
            split
            · rename_i h3; subst h3; exact h2
            · exact h2
          go_wp2_with (first
            | (at_builtin; refine wpList_append_own _ rfl (.tmp 54) (.tmp 57) 32 rfl w.heap.size 22 i0 (.pointer none) 1 8 Tryz.underlying32 hi hz0 hz1 hz2 rfl (by decide) (.slice none 0 0) 0 [] rfl (World.ownsRow_nil _ _ _ _) ⟨g, off, none⟩ k cap (ps.take k) rfl HL1.out (fun j u hj => HCS.out j u hj) (fun u hu => HONE.out u (List.mem_of_mem_take hu)) HM1.out.1 HM1.out.2 (Nat.le_refl _) ?_; intro v1 w1 hown1 hgrow1 hnil1; have hk1 : Kp noB w w1 := ((Kp.refl noB w).drewN q).grown hgrow1 (fun k hk => by cases hk); have hs1 := hk1.size; clear hgrow1 hnil1)
            | (at_builtin; refine wpList_append_own _ rfl (.tmp 59) (.tmp 61) 32 rfl w.heap.size 22 i0 (.pointer none) 1 8 Tryz.underlying32 hi hz0 hz1 hz2 rfl (by decide) v1 (0 + k) ([] ++ ps.take k) rfl (hown1.alloc _) ⟨w1.heap.size, 0, none⟩ 1 1 [.pointer (some ⟨b, 0, none⟩)] rfl rfl (cell_one_new w1 _ 22) (fun x hx => by simp at hx; subst hx; rfl) HM2.out.1 HM2.out.2 (by rw [World.size_alloc]; omega) ?_; intro v2 w2 hown2 hgrow2 hnil2; have hk2 : Kp noB w w2 := (hk1.alloc _).grown hgrow2 (fun k hk => .inr (hown1.lt k hk).1); have hs2 := hk2.size; clear hgrow2 hnil2 hown1)
            | (at_builtin; go_loud (refine wpList_append_own _ rfl (.tmp 63) (.tmp 66) 32 rfl w.heap.size 22 i0 (.pointer none) 1 8 Tryz.underlying32 hi hz0 hz1 hz2 rfl (by decide) v2 (0 + k + 1) ([] ++ ps.take k ++ [.pointer (some ⟨b, 0, none⟩)]) rfl hown2 ⟨g, off + k, none⟩ _ _ (ps.drop k) rfl (by first | exact HL3.out | (have h9 := HPL.out; simp; omega)) (fun j u hj => HA3.out j u w2 hk2 hj) (fun u hu => HONE.out u (List.mem_of_mem_drop hu)) (by first | exact HM3.out.1 | (unfold maxLen; omega)) (by first | exact HM3.out.2 | omega) hs2 ?_; intro v3 w3 hown3 hgrow3 hnil3; have hk3 : Kp noB w w3 := hk2.grown hgrow3 (fun k hk => .inr (hown2.lt k hk).1); clear hgrow3 hnil3 hown2)))
          go_ret
          refine ⟨_, rfl, ?_, hk3⟩
          rw [R.out]
          exact HFIN.out _ _ _ (by omega) (by have h9 := R2.out; omega) hown3 hk3
end
end Go.Proofs.YtoijabgcgdgacaaGreatDoor

namespace Go.Proofs.YtoijabgcgdgacaaGreatDoor
open Go.RowKit Go.Proofs.Gram Go.Lib

theorem addK_snoc (k : Int) (x : Rx) : ∀ (l acc : List Rx), addK k (l ++ [x]) acc = addR k x (addK k l acc)
  | [], acc => by rw [List.nil_append, addK, addK, addK]
  | y :: l, acc => by rw [List.cons_append, addK, addK, addK_snoc k x l]
theorem mem_addK {k : Int} {y : Rx} : ∀ (l acc : List Rx), y ∈ addK k l acc ↔ y ∈ acc ∨ ∃ x ∈ l, y ∈ atm k x
  | [], acc => by simp [addK]
  | x :: l, acc => by
    rw [addK, mem_addK l, mem_add k _ x acc y (Nat.le_refl _)]
    simp [or_assoc]
theorem srt_addK (k : Int) : ∀ (l acc : List Rx), Srt acc → Srt (addK k l acc)
  | [], _, h => by rw [addK]; exact h
  | x :: l, acc, h => by rw [addK]; exact srt_addK k l _ (srt_add k _ x acc (Nat.le_refl _) h)

theorem addR_ins {k k' mn mx : Int} {s : List (Int × Int)} {kids l : List Rx} (h : k' ≠ k) : addR k (.mk k' s mn mx kids) l = insR l (.mk k' s mn mx kids) := by
  rw [addR, if_neg h]

theorem Pats.open {w : World} {ok : Nat → Prop} {v : Value} {l : List Rx} (h : Pats w ok v l) : ∃ A cap, v = .slice A l.length cap ∧ l.length ≤ 9223372036854775807 ∧
    ∀ k t, l[k]? = some t → ∃ g off u, A = some ⟨g, off, none⟩ ∧ w.cell? ⟨g, off + k, none⟩ = some u ∧ IsRe w ok u t := by
  obtain ⟨ps, h1, h2, h3⟩ := h
  obtain ⟨A, cap, e, hl, hc⟩ := cells_open h1
  refine ⟨A, cap, e, hl, fun k t ht => ?_⟩
  obtain ⟨u, hu⟩ : ∃ u, ps[k]? = some u := ⟨ps[k]'(by have := (List.getElem?_eq_some_iff.1 ht).1; omega), by simp⟩
  obtain ⟨g, off, hA, _, _, hcu⟩ := hc k u hu
  exact ⟨g, off, u, hA, hcu, h3 k u t hu ht⟩

theorem pats_or {w w1 w2 : World} {ok : Nat → Prop} {v : Value} {l : List Rx} (hk : w.heap.size ≤ w1.heap.size) (h : Pats w2 (orF (orF ok w) w1) v l) : Pats w2 (orF ok w) v l := h.ok fun _ h => orF_le hk h

set_option maxRecDepth 100000 in
set_option maxHeartbeats 2000000 in
theorem add_any {kind : Int} (hkk : kind = 3 ∨ kind = 4) : ∀ (n : Nat) (p : Rx), SizeOf.sizeOf p ≤ n → AddC kind p := by
  intro n
  induction n with
  | zero => intro p h; cases p <;> simp at h
  | succ n ih =>
    intro p hsz acc v1 v2 ok w hra hre hna hnp hsrt ⟨P, hP, haP, hpP⟩
    cases p with
    | nil => rw [Nm] at hnp; exact hnp.elim
    | mk k' set mn mx kids =>
      obtain ⟨b, sv, kv, ps, rfl, hb, hok, hrs, hkc, hpl, hkid⟩ := id hre.inv
      by_cases hk : k' = kind
      · subst hk
        have c0 : w.cell? ⟨b, 0, none⟩ = some (.int .i64 k') := by simp [World.cell?, hb]
        have c4 : w.cell? ⟨b, 4, none⟩ = some kv := by simp [World.cell?, hb]
        have b0 : (k' == k') = true := by simp
        obtain ⟨C, cap, rfl, hkl, hcs⟩ := cells_open hkc
        simp only [Rx.mk.sizeOf_spec] at hsz
        have hat : ∀ x ∈ kids, ∀ y ∈ atm k' x, y ∈ P := fun x hx y hy => hpP y (by rw [atm, if_pos rfl]; exact (mem_atmL k' y kids).2 ⟨x, hx, hy⟩)
        have HIH : Hid (∀ (k : Nat) (x : Rx), kids[k]? = some x → ∃ g off u, C = some ⟨g, off, none⟩ ∧ w.cell? ⟨g, off + k, none⟩ = some u ∧
            ∀ (v : Value) (wr : World), Kp noB w wr → Pats wr (orF ok w) v (addK k' (kids.take k) acc) →
              Calls Tryz.prog 159 #[.int .i64 k', v, u] wr fun e w' => ∃ u, e = .returned u ∧ Pats w' (orF ok w) u (addK k' (kids.take (k + 1)) acc) ∧ Kp noB wr w') := Lib.hid fun k x hx => by
          obtain ⟨u, hu⟩ : ∃ u, ps[k]? = some u := ⟨ps[k]'(by have := (List.getElem?_eq_some_iff.1 hx).1; omega), by simp⟩
          obtain ⟨g, off, hA, _, _, hcu⟩ := hcs k u hu
          have hm := List.mem_of_getElem? hx
          refine ⟨g, off, u, hA, hcu, fun v wr hkp hv => ?_⟩
          have hsub : ∀ y ∈ addK k' (kids.take k) acc, y ∈ acc ∨ ∃ x ∈ kids, y ∈ atm k' x := fun y hy =>
            ((mem_addK _ _).1 hy).elim .inl fun ⟨x, hx, h⟩ => .inr ⟨x, List.mem_of_mem_take hx, h⟩
          rw [take_snoc _ _ _ hx, addK_snoc]
          refine (ih x (by have := List.sizeOf_lt_of_mem hm; omega) (addK k' (kids.take k) acc) v u (orF ok w) wr hv (((hkid k u x hu hx).kp hkp fun _ _ _ => noB_not _).ok fun _ _ h => .inl h) ?_ (nm_kid hnp hm) (srt_addK _ _ _ hsrt) ⟨P, hP, ?_, hat x hm⟩).mono ?_
          · intro y hy
            rcases hsub y hy with h | ⟨x, hx, h⟩
            · exact hna y h
            · exact nm_atm k' _ x y (Nat.le_refl _) (nm_kid hnp hx) h
          · intro y hy
            rcases hsub y hy with h | ⟨x, hx, h⟩
            · exact haP y h
            · exact hat x hx y h
          · rintro e w' ⟨u, he, h1, h2⟩
            exact ⟨u, he, pats_or hkp.size h1, h2⟩
        have R : Hid (addR k' (.mk k' set mn mx kids) acc = addK k' kids acc) := Lib.hid (by rw [addR, if_pos rfl])
        have H0 : Hid (Pats w (orF ok w) v1 (addK k' (kids.take 0) acc)) := Lib.hid (by rw [List.take_zero, addK]; exact hra.ok fun _ h => .inl h)
        obtain ⟨N, hN⟩ : ∃ N, kids.length = N := ⟨_, rfl⟩
        rw [hN] at c4 hkl
        have HN := Lib.hid hN
        clear ih hkid hcs hkc hrs hb hre hra hna hnp hsrt hat haP hpP hP hpl hsz hN hok hkk
        go_enter Tryz.func159, Tryz.ntmps159
        go_wp2_with fail
        go_loopw [1, 7] (fun v c wr => ∃ k : Nat, k ≤ N ∧ c = .int .i64 k ∧ Hid (Pats wr (orF ok w) v (addK k' (kids.take k) acc)) ∧ Hid (Kp noB w wr)) (fun _ c _ => N - (intOf c).toNat)
        case atStart => exact ⟨0, Nat.zero_le _, rfl, H0, Lib.hid (Kp.refl _ _)⟩
        case round =>
          obtain ⟨k, hk, rfl, HP, HKP⟩ := hrel
          have c4' := HKP.out.cell c4 (noB_not _)
          rcases Nat.lt_or_ge k N with hlt | hge
          · obtain ⟨x, hx⟩ : ∃ x, kids[k]? = some x := ⟨kids[k]'(by rw [HN.out]; exact hlt), by simp⟩
            obtain ⟨g, off, u, rfl, hcu, hcall⟩ := HIH.out k x hx
            have hcu' := HKP.out.cell hcu (noB_not _)
            have HC := Lib.hid (hcall _ _ HKP.out HP.out)
            have hb1 : decide ((k : Int) < (N : Int)) = true := decide_eq_true (by omega)
            clear hcall hx
            go_wp2_with fail
            refine HC.out.mono ?_
            rintro e w' ⟨u', rfl, h1, h2⟩
            have HP2 := Lib.hid h1
            have HK2 := Lib.hid (HKP.out.trans h2)
            clear h1 h2
            go_wp2_with fail
            go_roundw
            case rel => exact ⟨k + 1, by omega, by simp, HP2, HK2⟩
            case measure => simp only [intOf]; omega
          · have hb1 : decide ((k : Int) < (N : Int)) = false := decide_eq_false (by omega)
            have HE : Hid (kids.take k = kids) := Lib.hid (List.take_of_length_le (by rw [HN.out]; exact hge))
            rw [HE.out] at HP
            go_wp2_with fail
            go_ret
            rw [R.out]
            exact ⟨_, rfl, HP.out, HKP.out⟩
      · rw [addR_ins hk]
        exact add_ins hra hre hna hnp hk (Nat.le_trans (nodup_len hsrt.nodup haP) hP)
end Go.Proofs.YtoijabgcgdgacaaGreatDoor

namespace Go.Proofs.YtoijabgcgdgacaaGreatDoor
open Go.RowKit Go.Proofs.Gram Go.Lib

theorem joinK_append (k : Int) : ∀ (l l' acc : List Rx), joinK k (l ++ l') acc = (joinK k l acc).bind (joinK k l')
  | [], l', acc => rfl
  | x :: l, l', acc => by
    rw [List.cons_append, joinK, joinK]
    split
    · split
      · rfl
      · exact joinK_append k l l' acc
    · exact joinK_append k l l' _
theorem join_step {k : Int} {l acc : List Rx} {i : Nat} {x : Rx} (h : joinK k (l.take i) [] = some acc) (hx : l[i]? = some x) :
    (isNo x = true → k = 4 → joinR k l = rxNo) ∧ (isNo x = true → k ≠ 4 → joinK k (l.take (i + 1)) [] = some acc) ∧ (isNo x = false → joinK k (l.take (i + 1)) [] = some (addR k x acc)) := by
  have e1 : joinK k (l.take (i + 1)) [] = joinK k [x] acc := by rw [take_snoc _ _ _ hx, joinK_append, h]; rfl
  refine ⟨fun h1 h2 => ?_, fun h1 h2 => ?_, fun h1 => ?_⟩
  · have e2 : joinK k l [] = none := by
      rw [← List.take_append_drop (i + 1) l, joinK_append, e1, joinK, if_pos h1, if_pos h2]
      rfl
    unfold joinR
    rw [e2]
  · rw [e1, joinK, if_pos h1, if_neg h2, joinK]
  · rw [e1, joinK, if_neg (by simp [h1]), joinK]

/-- What holds of the list on the way. -/
theorem join_pre {k : Int} {l acc : List Rx} {i : Nat} (hn : ∀ x ∈ l, Nm BB x) (hj : Jb BB k l) (h : joinK k (l.take i) [] = some acc) :
    (∀ y ∈ acc, Nm BB y) ∧ Srt acc ∧ ∀ x ∈ l, ∃ P : List Rx, P.length ≤ BB ∧ (∀ y ∈ acc, y ∈ P) ∧ ∀ y ∈ atm k x, y ∈ P := by
  obtain ⟨P, hP, hj⟩ := hj
  have hm : ∀ y ∈ acc, ∃ x ∈ l, y ∈ atm k x := fun y hy => by
    obtain ⟨x, hx, _, h3⟩ := ((mem_joinK k y _ [] acc h).1 hy).resolve_left (by simp)
    exact ⟨x, List.mem_of_mem_take hx, h3⟩
  refine ⟨fun y hy => ?_, srt_joinK k _ [] acc (by simp [Srt]) h, fun x hx => ⟨P, hP, fun y hy => ?_, hj x hx⟩⟩
  · obtain ⟨x, hx, h3⟩ := hm y hy
    exact nm_atm k _ x y (Nat.le_refl _) (hn x hx) h3
  · obtain ⟨x, hx, h3⟩ := hm y hy
    exact hj x hx y h3
theorem joinR_cases {k : Int} {l acc : List Rx} (h : joinK k l [] = some acc) : (acc = [] ∧ joinR k l = rxNo) ∨ (∃ x, acc = [x] ∧ joinR k l = x) ∨ (2 ≤ acc.length ∧ joinR k l = .mk k [] 0 0 acc) := by
  unfold joinR
  rw [h]
  match acc with
  | [] => exact .inl ⟨rfl, rfl⟩
  | [x] => exact .inr (.inl ⟨x, rfl, rfl⟩)
  | _ :: _ :: _ => exact .inr (.inr ⟨by simp, rfl⟩)

set_option maxRecDepth 100000 in
set_option maxHeartbeats 4000000 in
theorem join_any {kind : Int} (hkk : kind = 3 ∨ kind = 4) {l : List Rx} {v1 : Value} {ok : Nat → Prop} {w : World} (hra : Pats w ok v1 l) (hn : ∀ x ∈ l, Nm BB x) (hj : Jb BB kind l) :
    Calls Tryz.prog 103 #[.int .i64 kind, v1] w fun e w' => ∃ u, e = .returned u ∧ IsRe w' (orF ok w) u (joinR kind l) ∧ Kp noB w w' := by
  obtain ⟨C, cap, rfl, hkl, hcs⟩ := hra.open
  have HL : Hid (∀ k x, l[k]? = some x → ∃ g off u, C = some ⟨g, off, none⟩ ∧ w.cell? ⟨g, off + k, none⟩ = some u ∧
      (∀ wr, Kp noB w wr → Calls Tryz.prog 157 #[u] wr fun e w' => e = .returned (.bool (isNo x)) ∧ w' = wr) ∧
      ∀ (v : Value) (acc : List Rx) (wr : World), Kp noB w wr → Pats wr (orF ok w) v acc → joinK kind (l.take k) [] = some acc →
        Calls Tryz.prog 159 #[.int .i64 kind, v, u] wr fun e w' => ∃ u, e = .returned u ∧ Pats w' (orF ok w) u (addR kind x acc) ∧ Kp noB wr w') := Lib.hid fun k x hx => by
    obtain ⟨g, off, u, hC, hcu, hre⟩ := hcs k x hx
    have hm := List.mem_of_getElem? hx
    have hnx : x ≠ .nil := fun e => by have := hn x hm; rw [e, Nm] at this; exact this
    refine ⟨g, off, u, hC, hcu, fun wr hkp => isNo_any (hre.kp hkp fun _ _ _ => noB_not _) hnx, fun v acc wr hkp hv hjk => ?_⟩
    have hp := join_pre hn hj hjk
    refine (add_any hkk _ x (Nat.le_refl _) acc v u (orF ok w) wr hv ((hre.kp hkp fun _ _ _ => noB_not _).ok fun _ _ h => .inl h) hp.1 (hn x hm) hp.2.1 (hp.2.2 x hm)).mono ?_
    rintro e w' ⟨u, he, h1, h2⟩
    exact ⟨u, he, pats_or hkp.size h1, h2⟩
  have HNO : Hid (∀ w, Calls Tryz.prog 106 #[] w fun e w' => ∃ u, e = .returned u ∧ IsRe w' (fun k => w.heap.size ≤ k) u rxNo ∧ Kp noB w w') := Lib.hid nothing_any
  have H0 : Hid (Pats w (orF ok w) (.slice none 0 0) []) := Lib.hid (pats_nil _ _)
  have HJ0 : Hid (joinK kind (l.take 0) [] = some []) := Lib.hid rfl
  obtain ⟨N, hN⟩ : ∃ N, l.length = N := ⟨_, rfl⟩
  rw [hN] at hkl ⊢
  have HN := Lib.hid hN
  clear hcs hra hn hj hN hkk
  go_enter Tryz.func103, Tryz.ntmps103
  go_wp2_with fail
  go_loopw [5, 6] (fun v c wr => ∃ (k : Nat) (acc : List Rx), k ≤ N ∧ c = .int .i64 k ∧ Hid (Pats wr (orF ok w) v acc) ∧ Hid (joinK kind (l.take k) [] = some acc) ∧ Hid (Kp noB w wr)) (fun _ c _ => N - (intOf c).toNat)
  case atStart => exact ⟨0, [], Nat.zero_le _, rfl, H0, HJ0, Lib.hid (Kp.refl _ _)⟩
  case round =>
    obtain ⟨k, acc, hk, rfl, HP, HJ, HKP⟩ := hrel
    rcases Nat.lt_or_ge k N with hlt | hge
    · obtain ⟨x, hx⟩ : ∃ x, l[k]? = some x := ⟨l[k]'(by rw [HN.out]; exact hlt), by simp⟩
      obtain ⟨g, off, u, rfl, hcu, hc1, hc2⟩ := HL.out k x hx
      have hcu' := HKP.out.cell hcu (noB_not _)
      have HC1 := Lib.hid (hc1 _ HKP.out)
      have HC2 := Lib.hid (hc2 _ acc _ HKP.out HP.out HJ.out)
      have HST := Lib.hid (join_step HJ.out hx)
      have hb1 : decide ((k : Int) < (N : Int)) = true := decide_eq_true (by omega)
      clear hc1 hc2 hx
      cases hno : isNo x with
      | true =>
        rw [hno] at HC1 HST
        by_cases h4 : kind = 4
        · have R := Lib.hid (HST.out.1 rfl h4)
          have HC3 := Lib.hid (HNO.out wr)
          subst h4
          have g0 : ((4 : Int) == (4 : Int)) = true := rfl
          clear HST HC2 hno
          go_wp2_with fail
          refine HC1.out.mono ?_
          rintro e w' ⟨rfl, rfl⟩
          go_wp2_with fail
          refine HC3.out.mono ?_
          rintro e w' ⟨u', rfl, h1, h2⟩
          have H := Lib.hid (And.intro (h1.ok (ok' := orF ok w) fun _ _ h => .inr (Nat.le_trans HKP.out.size h)) (HKP.out.trans h2))
          clear h1 h2
          go_wp2_with fail
          go_ret
          rw [R.out]
          exact ⟨_, rfl, H.out.1, H.out.2⟩
        · have g0 : (kind == (4 : Int)) = false := by simp [h4]
          have HJ2 := Lib.hid (HST.out.2.1 rfl h4)
          clear HST HC2 hno h4
          go_wp2_with fail
          refine HC1.out.mono ?_
          rintro e w' ⟨rfl, rfl⟩
          go_wp2_with fail
          go_roundw
          case rel => exact ⟨k + 1, acc, by omega, by simp, HP, HJ2, HKP⟩
          case measure => simp only [intOf]; omega
      | false =>
        rw [hno] at HC1 HST
        have HJ2 := Lib.hid (HST.out.2.2 rfl)
        clear HST hno
        go_wp2_with fail
        refine HC1.out.mono ?_
        rintro e w' ⟨rfl, rfl⟩
        go_wp2_with fail
        refine HC2.out.mono ?_
        rintro e w' ⟨u', rfl, h1, h2⟩
        have HP2 := Lib.hid h1
        have HK2 := Lib.hid (HKP.out.trans h2)
        clear h1 h2
        go_wp2_with fail
        go_roundw
        case rel => exact ⟨k + 1, _, by omega, by simp, HP2, HJ2, HK2⟩
        case measure => simp only [intOf]; omega
    · have hb1 : decide ((k : Int) < (N : Int)) = false := decide_eq_false (by omega)
      have HC := Lib.hid (joinR_cases (k := kind) (l := l) (acc := acc) (by rw [← HJ.out, List.take_of_length_le (by rw [HN.out]; exact hge)]))
      have HC3 := Lib.hid (HNO.out wr)
      obtain ⟨A, cap2, rfl, hal, hac⟩ := HP.out.open
      have HA := Lib.hid hac
      clear hac HL HNO
      rcases HC.out with ⟨h1, h2⟩ | ⟨x, h1, h2⟩ | ⟨h1, h2⟩
      · have R := Lib.hid h2
        subst h1
        clear h2 HC
        simp only [List.length_nil] at *
        go_wp2_with fail
        refine HC3.out.mono ?_
        rintro e w' ⟨u', rfl, h1, h2⟩
        have H := Lib.hid (And.intro (h1.ok (ok' := orF ok w) fun _ _ h => .inr (Nat.le_trans HKP.out.size h)) (HKP.out.trans h2))
        clear h1 h2
        go_wp2_with fail
        go_ret
        rw [R.out]
        exact ⟨_, rfl, H.out.1, H.out.2⟩
      · have R := Lib.hid h2
        subst h1
        obtain ⟨g, off, u, rfl, hcu, hre⟩ := HA.out 0 x rfl
        have H := Lib.hid hre
        simp only [Nat.add_zero] at hcu
        clear h2 HC hre
        simp only [List.length_cons, List.length_nil] at *
        go_wp2_with fail
        go_ret
        rw [R.out]
        exact ⟨_, rfl, H.out, HKP.out⟩
      · have R := Lib.hid h2
        have g0 : ((acc.length : Int) == (0 : Int)) = false := beq_eq_false_iff_ne.2 (by omega)
        have g1 : ((acc.length : Int) == (1 : Int)) = false := beq_eq_false_iff_ne.2 (by omega)
        have hn0 : ¬ acc.length = 0 := by omega
        have hn1 : ¬ acc.length = 1 := by omega
        have h9 := isRe_pats kind 0 0 HP.out
        have H := Lib.hid (And.intro (h9.ok (ok' := orF ok w) fun _ _ h => orF_le HKP.out.size h) (HKP.out.alloc (.cells #[.int .i64 kind, .slice none 0 0, .int .i64 0, .int .i64 0, .slice A acc.length cap2] 34)))
        clear h1 h2 HC h9
        go_wp2_with fail
        go_ret
        rw [R.out]
        exact ⟨_, rfl, H.out.1, H.out.2⟩
end Go.Proofs.YtoijabgcgdgacaaGreatDoor
