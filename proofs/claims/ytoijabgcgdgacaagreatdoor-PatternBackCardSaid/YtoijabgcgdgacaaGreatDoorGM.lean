/-
  WALKS, xg: how strongly a pattern binds; a kid's text.
  WALKS, xh: the text of a pattern: several kids with a sign between.
-/
import Derived.Test.YtoijabgcgdgacaaGreatDoorGK
import Derived.Test.YtoijabgcgdgacaaGreatDoorShC
import Derived.Test.YtoijabgcgdgacaaGreatDoorGH
import Derived.Test.YtoijabgcgdgacaaGreatDoorGG
namespace Go.Proofs.YtoijabgcgdgacaaGreatDoor
open Go.RowKit Go.Proofs.Gram Go.Lib

theorem rank_any (t : Rx) (d : Nat) (v : Value) (okk : Nat → Prop) (w : World) (hre : IsRe w okk v t) (hsh : Shp d t) : Calls Tryz.prog 161 #[v] w fun e w' => e = .returned (.int .i64 (rankR t)) ∧ ∃ q, w' = w.drewN q := by
  cases t with
  | nil => simp [Shp] at hsh
  | mk kind set mn mx kids =>
    obtain ⟨b, sv, kv, ps, rfl, hb, _⟩ := hre.inv
    have hk0 : w.cell? ⟨b, 0, none⟩ = some (.int .i64 kind) := by simp [World.cell?, hb]
    have hc := hsh.2.1
    unfold cntOk at hc
    have hk : kind = 1 ∨ kind = 2 ∨ kind = 3 ∨ kind = 4 ∨ kind = 5 ∨ kind = 6 := by omega
    clear hc hb hre hsh
    rcases hk with rfl | rfl | rfl | rfl | rfl | rfl
    all_goals
      go_enter Tryz.func161, Tryz.ntmps161
      go_wp2_with fail
      go_ret
      exact ⟨rfl, 0, rfl⟩

/-- Not too great. -/
def Fits (t : Rx) : Prop := 21 * rg t + 13 * nd t ≤ 100000000000

def TxC (t : Rx) : Prop := ∀ (d : Nat) (v : Value) (okk : Nat → Prop) (w : World), IsRe w okk v t → Shp d t → Small t → Fits t → w.cell? ⟨13, 15, none⟩ = some (.int .u8 4) →
  Calls Tryz.prog 53 #[v] w fun e w' => e = .returned (.string (bt (tx t))) ∧ Kp noB w w'

set_option maxRecDepth 100000 in
theorem within_any (t : Rx) (HT : TxC t) (least : Nat) (d : Nat) (v : Value) (okk : Nat → Prop) (w : World) (hre : IsRe w okk v t) (hsh : Shp d t) (hsm : Small t) (hf : Fits t) (h13 : w.cell? ⟨13, 15, none⟩ = some (.int .u8 4)) :
    Calls Tryz.prog 109 #[v, .int .i64 least] w fun e w' => ∃ S, e = .returned (.string S) ∧ Hid (S = bt (wi least t)) ∧ Kp noB w w' := by
  obtain ⟨x, rfl⟩ := IsRe_ptr hre
  have HR := Lib.hid (rank_any t d _ okk w hre hsh)
  have HTX : Hid (∀ q, ∃ S, Hid (S = bt (tx t)) ∧ S.size ≤ 100000000000 ∧ Calls Tryz.prog 53 #[.pointer x] (w.drewN q) fun e w' => e = .returned (.string S) ∧ Kp noB (w.drewN q) w') := Lib.hid fun q =>
    ⟨bt (tx t), Lib.hid rfl, by rw [bt_size]; have := tx_len _ t d (Nat.le_refl _) hsh; unfold Fits at hf; omega, HT d _ okk (w.drewN q) (hre.kp ((Kp.refl noB w).drewN q) fun _ _ _ => noB_not _) hsh hsm hf h13⟩
  clear h13 hf hsm hsh hre HT
  by_cases hlt : rankR t < least
  · have hb : decide (rankR t < least) = true := decide_eq_true hlt
    have HL := Lib.hid hlt
    obtain ⟨r, hr⟩ : ∃ r, rankR t = r := ⟨_, rfl⟩
    rw [hr] at hb HR
    clear hlt hr
    go_enter Tryz.func109, Tryz.ntmps109
    go_wp2_with fail
    refine HR.out.mono ?_
    rintro e w1 ⟨rfl, q, rfl⟩
    obtain ⟨S, HS, hsz, hcall⟩ := HTX.out q
    have HCL := Lib.hid hcall
    clear hcall
    go_wp2_with fail
    refine HCL.out.mono ?_
    rintro e w2 ⟨rfl, hk⟩
    go_wp2_with fail
    go_ret
    refine ⟨_, rfl, Lib.hid ?_, ((Kp.refl _ _).drewN q).trans hk⟩
    rw [HS.out, wi, if_pos HL.out, show (⟨#[40]⟩ : ByteArray) = bt [40] from rfl, show (⟨#[41]⟩ : ByteArray) = bt [41] from rfl, bt_append, bt_append]
    simp
  · have hb : decide (rankR t < least) = false := decide_eq_false hlt
    have HL := Lib.hid hlt
    obtain ⟨r, hr⟩ : ∃ r, rankR t = r := ⟨_, rfl⟩
    rw [hr] at hb HR
    clear hlt hr
    go_enter Tryz.func109, Tryz.ntmps109
    go_wp2_with fail
    refine HR.out.mono ?_
    rintro e w1 ⟨rfl, q, rfl⟩
    obtain ⟨S, HS, hsz, hcall⟩ := HTX.out q
    have HCL := Lib.hid hcall
    clear hcall
    go_wp2_with fail
    refine HCL.out.mono ?_
    rintro e w2 ⟨rfl, hk⟩
    go_wp2_with fail
    go_ret
    refine ⟨_, rfl, Lib.hid ?_, ((Kp.refl _ _).drewN q).trans hk⟩
    rw [HS.out, wi, if_neg HL.out]

end Go.Proofs.YtoijabgcgdgacaaGreatDoor

namespace Go.Proofs.YtoijabgcgdgacaaGreatDoor
open Go.RowKit Go.Proofs.Gram Go.Lib

theorem info9 : (Tryz.prog.info? 9).map (fun i => (i.zero, i.size, i.bytes)) = some (some (.string ⟨#[]⟩), 1, 16) := by kernel_rfl

theorem ownsRow_kp {w w' : World} {B : Nat} {e : TypeId} {z n : Nat} {v : Value} {xs : List Value} {F : Nat → Prop} (h : w.ownsRow B e z v n xs) (hk : Kp F w w') (hF : ∀ k, B ≤ k → ¬ F k) : w'.ownsRow B e z v n xs := by
  obtain ⟨h1, h2⟩ := h
  refine ⟨h1, ?_⟩
  rcases h2 with ⟨rfl, h0⟩ | ⟨g, cap, cur, rfl, hg, hh, hn⟩
  · exact .inl ⟨rfl, h0⟩
  · exact .inr ⟨g, cap, cur, rfl, hg, hk.heap hh (hF g hg), hn⟩

theorem join_own {w : World} {B n : Nat} {u : Value} {ss : List ByteArray} (hown : w.ownsRow B 9 1 u n (ss.map .string)) (hl : ss.length = n) (hn : n ≤ 100000000000) (sep : List UInt8)
    (hlen : (Lib.join (ss.map (·.data.toList)) sep).length ≤ 100000000000) :
    Calls Tryz.prog 110 #[u, .string (bt sep)] w fun e w' => e = .returned (.string (bt (Lib.join (ss.map (·.data.toList)) sep))) ∧ Kp noB w w' := by
  obtain ⟨h1, h2⟩ := hown
  rcases h2 with ⟨rfl, h0⟩ | ⟨g, cap, cur, rfl, hg, hh, hnc, hcap, hsz, htake⟩
  · subst h0
    have : ss = [] := List.eq_nil_of_length_eq_zero hl
    subst this
    exact (Tryz.strings_Join_none none 0 (bt sep) w).mono fun e w' ⟨he, hw⟩ => ⟨he, hw ▸ Kp.refl _ _⟩
  · subst hl
    have hc : ∀ (j : Nat) x, ss[j]? = some x → w.cell? ⟨g, 0 + j, none⟩ = some (.string x) := by
      intro j x hj
      have hjl := (List.getElem?_eq_some_iff.1 hj).1
      have h3 : (cur.toList.take (ss.length * 1))[j]? = some (.string x) := by rw [htake]; simp [hj]
      rw [List.getElem?_take, if_pos (by omega)] at h3
      simp only [World.cell?, hh, Nat.zero_add]
      simpa using h3
    exact (Tryz.strings_Join g 0 cap ss (bt sep) w hc (Array.getElem?_eq_some_iff.1 hh).1 (by omega) hnc (by show (Lib.join _ sep).length ≤ _; omega)).mono fun e w' ⟨he, hb⟩ => ⟨he, Kp.of_below hb⟩

theorem strs_txL (n : Nat) (kids : List Rx) : (kids.map (fun t => bt (wi n t))).map (·.data.toList) = txL n kids := by
  rw [txL_eq, List.map_map]
  congr 1

section
variable {b : Nat} {w : World} {A : Option Addr} {m cap : Nat} {kids : List Rx}

set_option maxRecDepth 100000 in
set_option maxHeartbeats 4000000 in
theorem text_or (h0 : w.cell? ⟨b, 0, none⟩ = some (.int .i64 3)) (h4 : w.cell? ⟨b, 4, none⟩ = some (.slice A m cap)) (HM : Hid (kids.length = m)) (hm : m ≤ 100000000000)
    (HK : Hid (∀ k t, kids[k]? = some t → ∃ g off u, A = some ⟨g, off, none⟩ ∧ w.cell? ⟨g, off + k, none⟩ = some (.pointer u) ∧ ∀ W, Kp noB w W → Calls Tryz.prog 109 #[.pointer u, .int .i64 1] W fun e w' => ∃ S, e = .returned (.string S) ∧ Hid (S = bt (wi 1 t)) ∧ Kp noB W w'))
    (HL : Hid ((Lib.join (txL 1 kids) [124]).length ≤ 100000000000)) :
    Calls Tryz.prog 53 #[.pointer (some ⟨b, 0, none⟩)] w fun e w' => e = .returned (.string (bt (Lib.join (txL 1 kids) [124]))) ∧ Kp noB w w' := by
  obtain ⟨i0, hi, hz0, hz1, hz2⟩ := info_parts info9
  go_enter Tryz.func53, Tryz.ntmps53
  go_wp2_with fail
  go_loopw [3, 29] (fun u c wr => ∃ (k : Nat) (ss : List ByteArray), k ≤ m ∧ c = .int .i64 k ∧ ss.length = k ∧ Hid (ss = (kids.take k).map (fun t => bt (wi 1 t))) ∧ wr.ownsRow w.heap.size 9 1 u k (ss.map .string) ∧ Kp noB w wr)
    (fun _ c _ => m - (intOf c).toNat)
  case atStart => exact ⟨0, [], Nat.zero_le _, rfl, rfl, Lib.hid (by simp), World.ownsRow_nil _ _ _ _, Kp.refl _ _⟩
  case round =>
    obtain ⟨k, ss, hk, rfl, hsl, HS, hown, hkp⟩ := hrel
    rcases Nat.lt_or_ge k m with hlt | hge
    · obtain ⟨t, ht⟩ : ∃ t, kids[k]? = some t := ⟨kids[k]'(by rw [HM.out]; exact hlt), by simp⟩
      obtain ⟨g, off, u, rfl, hu, hcall⟩ := HK.out k t ht
      have hu' := hkp.cell hu (noB_not _)
      have HC := Lib.hid (hcall wr hkp)
      have HT := Lib.hid (take_snoc kids k t ht)
      have hb1 : decide ((k : Int) < (m : Int)) = true := decide_eq_true (by omega)
      have hki0 : (0 : Int) ≤ (k : Int) := by omega
      have hki1 : (k : Int) < (m : Int) := by omega
      clear hcall ht hu
      go_wp2_with fail
      refine HC.out.mono ?_
      rintro e w1 ⟨S, rfl, HSE, hk1⟩
      have hown1 := ownsRow_kp hown hk1 (fun _ _ => noB_not _)
      have hkp1 := hkp.trans hk1
      have hks := hkp1.size
      clear hown hk1 hkp
      go_wp2_with (first
        | (at_builtin; refine wpList_append_own _ rfl (.tmp 33) (.tmp 36) 49 rfl w.heap.size 9 i0 (.string ⟨#[]⟩) 1 16 Tryz.underlying49 hi hz0 hz1 hz2 rfl (by decide) _ _ _ rfl (ownsRow_kp hown1 ((Kp.refl noB _).alloc _) (fun _ _ => noB_not _)) ⟨w1.heap.size, 0, none⟩ 1 1 [.string S] rfl rfl (cell_one_new w1 (.string S) 9) (fun x hx => by simp at hx; subst hx; rfl) (by unfold maxLen; omega) (by omega) (by simp; omega) ?_; intro v' w9 hown' hgrow9 hnil9; have hk9 := (hkp1.alloc (.cells #[.string S] 9)).grown hgrow9 (fun k hk => .inr (hown1.lt k hk).1); have R := Lib.hid (And.intro hown' hk9); clear hown' hgrow9 hnil9 hk9))
      go_roundw
      case rel =>
        refine ⟨k + 1, ss ++ [S], by omega, by simp, by simp [hsl], Lib.hid ?_, by simpa using R.out.1, R.out.2⟩
        rw [HT.out, List.map_append, ← HS.out, HSE.out]
        rfl
      case measure => simp only [intOf]; omega
    · have hkm : k = m := by omega
      subst hkm
      have hb1 : decide ((k : Int) < (k : Int)) = false := decide_eq_false (by omega)
      have he : ss = kids.map (fun t => bt (wi 1 t)) := by
        have h := HS.out
        rw [List.take_of_length_le (by rw [HM.out]; exact Nat.le_refl _)] at h
        exact h
      have hj : ss.map (·.data.toList) = txL 1 kids := by rw [he, strs_txL]
      have HJ := Lib.hid (join_own hown hsl hm [124] (by rw [hj]; exact HL.out))
      rw [hj] at HJ
      unfold bt at HJ
      have HKP := Lib.hid hkp
      clear he hj hown hkp HK HS
      go_wp2_with fail
      refine HJ.out.mono ?_
      rintro e w1 ⟨rfl, hk1⟩
      go_wp2_with fail
      go_ret
      exact ⟨rfl, HKP.out.trans hk1⟩

set_option maxRecDepth 100000 in
set_option maxHeartbeats 4000000 in
theorem text_and (h0 : w.cell? ⟨b, 0, none⟩ = some (.int .i64 4)) (h4 : w.cell? ⟨b, 4, none⟩ = some (.slice A m cap)) (HM : Hid (kids.length = m)) (hm : m ≤ 100000000000)
    (HK : Hid (∀ k t, kids[k]? = some t → ∃ g off u, A = some ⟨g, off, none⟩ ∧ w.cell? ⟨g, off + k, none⟩ = some (.pointer u) ∧ ∀ W, Kp noB w W → Calls Tryz.prog 109 #[.pointer u, .int .i64 2] W fun e w' => ∃ S, e = .returned (.string S) ∧ Hid (S = bt (wi 2 t)) ∧ Kp noB W w'))
    (HL : Hid ((Lib.join (txL 2 kids) [38]).length ≤ 100000000000)) :
    Calls Tryz.prog 53 #[.pointer (some ⟨b, 0, none⟩)] w fun e w' => e = .returned (.string (bt (Lib.join (txL 2 kids) [38]))) ∧ Kp noB w w' := by
  obtain ⟨i0, hi, hz0, hz1, hz2⟩ := info_parts info9
  go_enter Tryz.func53, Tryz.ntmps53
  go_wp2_with fail
  go_loopw [3, 48] (fun u c wr => ∃ (k : Nat) (ss : List ByteArray), k ≤ m ∧ c = .int .i64 k ∧ ss.length = k ∧ Hid (ss = (kids.take k).map (fun t => bt (wi 2 t))) ∧ wr.ownsRow w.heap.size 9 1 u k (ss.map .string) ∧ Kp noB w wr)
    (fun _ c _ => m - (intOf c).toNat)
  case atStart => exact ⟨0, [], Nat.zero_le _, rfl, rfl, Lib.hid (by simp), World.ownsRow_nil _ _ _ _, Kp.refl _ _⟩
  case round =>
    obtain ⟨k, ss, hk, rfl, hsl, HS, hown, hkp⟩ := hrel
    rcases Nat.lt_or_ge k m with hlt | hge
    · obtain ⟨t, ht⟩ : ∃ t, kids[k]? = some t := ⟨kids[k]'(by rw [HM.out]; exact hlt), by simp⟩
      obtain ⟨g, off, u, rfl, hu, hcall⟩ := HK.out k t ht
      have hu' := hkp.cell hu (noB_not _)
      have HC := Lib.hid (hcall wr hkp)
      have HT := Lib.hid (take_snoc kids k t ht)
      have hb1 : decide ((k : Int) < (m : Int)) = true := decide_eq_true (by omega)
      have hki0 : (0 : Int) ≤ (k : Int) := by omega
      have hki1 : (k : Int) < (m : Int) := by omega
      clear hcall ht hu
      go_wp2_with fail
      refine HC.out.mono ?_
      rintro e w1 ⟨S, rfl, HSE, hk1⟩
      have hown1 := ownsRow_kp hown hk1 (fun _ _ => noB_not _)
      have hkp1 := hkp.trans hk1
      have hks := hkp1.size
      clear hown hk1 hkp
      go_wp2_with (first
        | (at_builtin; refine wpList_append_own _ rfl (.tmp 52) (.tmp 55) 49 rfl w.heap.size 9 i0 (.string ⟨#[]⟩) 1 16 Tryz.underlying49 hi hz0 hz1 hz2 rfl (by decide) _ _ _ rfl (ownsRow_kp hown1 ((Kp.refl noB _).alloc _) (fun _ _ => noB_not _)) ⟨w1.heap.size, 0, none⟩ 1 1 [.string S] rfl rfl (cell_one_new w1 (.string S) 9) (fun x hx => by simp at hx; subst hx; rfl) (by unfold maxLen; omega) (by omega) (by simp; omega) ?_; intro v' w9 hown' hgrow9 hnil9; have hk9 := (hkp1.alloc (.cells #[.string S] 9)).grown hgrow9 (fun k hk => .inr (hown1.lt k hk).1); have R := Lib.hid (And.intro hown' hk9); clear hown' hgrow9 hnil9 hk9))
      go_roundw
      case rel =>
        refine ⟨k + 1, ss ++ [S], by omega, by simp, by simp [hsl], Lib.hid ?_, by simpa using R.out.1, R.out.2⟩
        rw [HT.out, List.map_append, ← HS.out, HSE.out]
        rfl
      case measure => simp only [intOf]; omega
    · have hkm : k = m := by omega
      subst hkm
      have hb1 : decide ((k : Int) < (k : Int)) = false := decide_eq_false (by omega)
      have he : ss = kids.map (fun t => bt (wi 2 t)) := by
        have h := HS.out
        rw [List.take_of_length_le (by rw [HM.out]; exact Nat.le_refl _)] at h
        exact h
      have hj : ss.map (·.data.toList) = txL 2 kids := by rw [he, strs_txL]
      have HJ := Lib.hid (join_own hown hsl hm [38] (by rw [hj]; exact HL.out))
      rw [hj] at HJ
      unfold bt at HJ
      have HKP := Lib.hid hkp
      clear he hj hown hkp HK HS
      go_wp2_with fail
      refine HJ.out.mono ?_
      rintro e w1 ⟨rfl, hk1⟩
      go_wp2_with fail
      go_ret
      exact ⟨rfl, HKP.out.trans hk1⟩

set_option maxRecDepth 100000 in
set_option maxHeartbeats 4000000 in
theorem text_cat (h0 : w.cell? ⟨b, 0, none⟩ = some (.int .i64 2)) (h4 : w.cell? ⟨b, 4, none⟩ = some (.slice A m cap)) (HM : Hid (kids.length = m)) (hm : m ≤ 100000000000)
    (HK : Hid (∀ k t, kids[k]? = some t → ∃ g off u, A = some ⟨g, off, none⟩ ∧ w.cell? ⟨g, off + k, none⟩ = some (.pointer u) ∧ ∀ W, Kp noB w W → Calls Tryz.prog 109 #[.pointer u, .int .i64 3] W fun e w' => ∃ S, e = .returned (.string S) ∧ Hid (S = bt (wi 3 t)) ∧ Kp noB W w'))
    (HL : Hid ((Lib.join (txL 3 kids) []).length ≤ 100000000000)) :
    Calls Tryz.prog 53 #[.pointer (some ⟨b, 0, none⟩)] w fun e w' => e = .returned (.string (bt (Lib.join (txL 3 kids) []))) ∧ Kp noB w w' := by
  obtain ⟨i0, hi, hz0, hz1, hz2⟩ := info_parts info9
  go_enter Tryz.func53, Tryz.ntmps53
  go_wp2_with fail
  go_loopw [3, 67] (fun u c wr => ∃ (k : Nat) (ss : List ByteArray), k ≤ m ∧ c = .int .i64 k ∧ ss.length = k ∧ Hid (ss = (kids.take k).map (fun t => bt (wi 3 t))) ∧ wr.ownsRow w.heap.size 9 1 u k (ss.map .string) ∧ Kp noB w wr)
    (fun _ c _ => m - (intOf c).toNat)
  case atStart => exact ⟨0, [], Nat.zero_le _, rfl, rfl, Lib.hid (by simp), World.ownsRow_nil _ _ _ _, Kp.refl _ _⟩
  case round =>
    obtain ⟨k, ss, hk, rfl, hsl, HS, hown, hkp⟩ := hrel
    rcases Nat.lt_or_ge k m with hlt | hge
    · obtain ⟨t, ht⟩ : ∃ t, kids[k]? = some t := ⟨kids[k]'(by rw [HM.out]; exact hlt), by simp⟩
      obtain ⟨g, off, u, rfl, hu, hcall⟩ := HK.out k t ht
      have hu' := hkp.cell hu (noB_not _)
      have HC := Lib.hid (hcall wr hkp)
      have HT := Lib.hid (take_snoc kids k t ht)
      have hb1 : decide ((k : Int) < (m : Int)) = true := decide_eq_true (by omega)
      have hki0 : (0 : Int) ≤ (k : Int) := by omega
      have hki1 : (k : Int) < (m : Int) := by omega
      clear hcall ht hu
      go_wp2_with fail
      refine HC.out.mono ?_
      rintro e w1 ⟨S, rfl, HSE, hk1⟩
      have hown1 := ownsRow_kp hown hk1 (fun _ _ => noB_not _)
      have hkp1 := hkp.trans hk1
      have hks := hkp1.size
      clear hown hk1 hkp
      go_wp2_with (first
        | (at_builtin; refine wpList_append_own _ rfl (.tmp 71) (.tmp 74) 49 rfl w.heap.size 9 i0 (.string ⟨#[]⟩) 1 16 Tryz.underlying49 hi hz0 hz1 hz2 rfl (by decide) _ _ _ rfl (ownsRow_kp hown1 ((Kp.refl noB _).alloc _) (fun _ _ => noB_not _)) ⟨w1.heap.size, 0, none⟩ 1 1 [.string S] rfl rfl (cell_one_new w1 (.string S) 9) (fun x hx => by simp at hx; subst hx; rfl) (by unfold maxLen; omega) (by omega) (by simp; omega) ?_; intro v' w9 hown' hgrow9 hnil9; have hk9 := (hkp1.alloc (.cells #[.string S] 9)).grown hgrow9 (fun k hk => .inr (hown1.lt k hk).1); have R := Lib.hid (And.intro hown' hk9); clear hown' hgrow9 hnil9 hk9))
      go_roundw
      case rel =>
        refine ⟨k + 1, ss ++ [S], by omega, by simp, by simp [hsl], Lib.hid ?_, by simpa using R.out.1, R.out.2⟩
        rw [HT.out, List.map_append, ← HS.out, HSE.out]
        rfl
      case measure => simp only [intOf]; omega
    · have hkm : k = m := by omega
      subst hkm
      have hb1 : decide ((k : Int) < (k : Int)) = false := decide_eq_false (by omega)
      have he : ss = kids.map (fun t => bt (wi 3 t)) := by
        have h := HS.out
        rw [List.take_of_length_le (by rw [HM.out]; exact Nat.le_refl _)] at h
        exact h
      have hj : ss.map (·.data.toList) = txL 3 kids := by rw [he, strs_txL]
      have HJ := Lib.hid (join_own hown hsl hm [] (by rw [hj]; exact HL.out))
      rw [hj] at HJ
      unfold bt at HJ
      have HKP := Lib.hid hkp
      clear he hj hown hkp HK HS
      go_wp2_with fail
      refine HJ.out.mono ?_
      rintro e w1 ⟨rfl, hk1⟩
      go_wp2_with fail
      go_ret
      exact ⟨rfl, HKP.out.trans hk1⟩
end
end Go.Proofs.YtoijabgcgdgacaaGreatDoor
