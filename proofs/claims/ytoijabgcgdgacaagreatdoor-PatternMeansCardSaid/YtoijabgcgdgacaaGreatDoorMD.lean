/-
  WALKS, mj: the reference: its own form of a pattern.
  WALKS, mk: the reference: what is left of a row behind a point.
  WALKS, ml: the reference: what is left of a pattern behind a point.
-/
import Derived.Test.YtoijabgcgdgacaaGreatDoorMC
import Derived.Test.YtoijabgcgdgacaaGreatDoorGG
import Derived.Test.YtoijabgcgdgacaaGreatDoorRB
namespace Go.Proofs.YtoijabgcgdgacaaGreatDoor
open Go.RowKit Go.Proofs.Gram Go.Lib

/-- A row of one's own with patterns that may be shared. -/
def OwnP (w0 w : World) (ok : Nat → Prop) (v : Value) (l : List Rx) : Prop :=
  ∃ ps, w.ownsRow w0.heap.size 22 1 v l.length ps ∧ ps.length = l.length ∧ ∀ (i : Nat) (p : Value) (t : Rx), ps[i]? = some p → l[i]? = some t → IsRe w (fun k => orF ok w0 k ∧ v.ownBlock ≠ some k) p t
theorem ownP_nil (w0 w : World) (ok : Nat → Prop) : OwnP w0 w ok (.slice none 0 0) [] := ⟨[], World.ownsRow_nil _ _ _ _, rfl, fun i p t h => by simp at h⟩
theorem OwnP.far {w0 w : World} {ok : Nat → Prop} {v : Value} {l : List Rx} (h : OwnP w0 w ok v l) : ∀ k, v.ownBlock = some k → w0.heap.size ≤ k ∧ k < w.heap.size := by
  obtain ⟨ps, h1, _⟩ := h
  exact h1.lt
theorem OwnP.kp {w0 w w' : World} {ok : Nat → Prop} {v : Value} {l : List Rx} (h : OwnP w0 w ok v l) (hk : Kp noB w w') : OwnP w0 w' ok v l := by
  obtain ⟨ps, ⟨h1, h2⟩, hl, hr⟩ := h
  refine ⟨ps, ⟨h1, ?_⟩, hl, fun i p t hp ht => (hr i p t hp ht).kp hk fun k _ _ => noB_not _⟩
  rcases h2 with ⟨rfl, h0⟩ | ⟨g, cap, cur, rfl, hg, hh, hn⟩
  · exact .inl ⟨rfl, h0⟩
  · exact .inr ⟨g, cap, cur, rfl, hg, hk.heap hh (noB_not _), hn⟩
theorem OwnP.pats {w0 w : World} {ok : Nat → Prop} {v : Value} {l : List Rx} (h : OwnP w0 w ok v l) : Pats w (orF ok w0) v l := by
  obtain ⟨ps, h1, hl, hr⟩ := h
  exact ⟨ps, (own_cells h1).ok fun k _ hk => .inr hk, hl, fun i p t hp ht => (hr i p t hp ht).ok fun k _ h => h.1⟩

/-- One more behind the last. -/
theorem ownP_push {w0 W w3 : World} {ok : Nat → Prop} {v v' p : Value} {ts : List Rx} {t : Rx} {ps : List Value} (hown : W.ownsRow w0.heap.size 22 1 v ts.length ps) (hl : ps.length = ts.length)
    (hr : ∀ (i : Nat) (p : Value) (t : Rx), ps[i]? = some p → ts[i]? = some t → IsRe W (fun k => orF ok w0 k ∧ v.ownBlock ≠ some k) p t) (hp : IsRe W (fun k => orF ok w0 k ∧ v.ownBlock ≠ some k) p t)
    (hown' : w3.ownsRow w0.heap.size 22 1 v' (ts.length + 1) (ps ++ [p])) (hg : (W.alloc (.cells #[p] 22)).grownBy w3 v.ownBlock) (hv : v'.ownBlock = v.ownBlock ∨ v'.ownBlock = some (W.alloc (.cells #[p] 22)).heap.size) :
    OwnP w0 w3 ok v' (ts ++ [t]) ∧ Kp (fun k => v.ownBlock = some k) W w3 := by
  have hk : Kp (fun k => v.ownBlock = some k) W w3 := ((Kp.refl _ _).alloc _).grown hg fun k hk => .inl hk
  refine ⟨⟨ps ++ [p], by simpa using hown', by simp [hl], ?_⟩, hk⟩
  have hmov : ∀ {q : Value} {t' : Rx}, IsRe W (fun k => orF ok w0 k ∧ v.ownBlock ≠ some k) q t' → IsRe w3 (fun k => orF ok w0 k ∧ v'.ownBlock ≠ some k) q t' := by
    intro q t' h
    refine (IsRe_lt h).keep hk.size (fun k hlt ho => hk.block k hlt ho.1.2) fun k hlt ho => ⟨ho.1.1, ?_⟩
    rcases hv with e | e
    · rw [e]; exact ho.1.2
    · rw [e]
      intro hh
      have : W.heap.size + 1 = k := by simpa using hh
      omega
  intro i q t' hq ht
  rcases Nat.lt_or_ge i ts.length with hi | hi
  · rw [List.getElem?_append_left (by omega)] at hq ht
    exact hmov (hr i q t' hq ht)
  · rw [List.getElem?_append_right (by omega)] at hq ht
    have e : i - ts.length = 0 := by
      have := (List.getElem?_eq_some_iff.1 ht).1
      simp at this
      omega
    rw [hl, e] at hq
    rw [e] at ht
    simp at hq ht
    subst hq
    subst ht
    exact hmov hp

/-- What a call that came later has made lies not in one's own row. -/
theorem later_ok {w0 w w' : World} {ok : Nat → Prop} {v u : Value} {l : List Rx} {t : Rx} (h : OwnP w0 w ok v l) (hs : w0.heap.size ≤ w.heap.size) (hu : IsRe w' (orF (fun j => ok j ∧ j < w0.heap.size) w) u t) : IsRe w' (fun k => orF ok w0 k ∧ v.ownBlock ≠ some k) u t :=
  hu.ok fun k _ hk => by
    rcases hk with ⟨h1, h2⟩ | h1
    · exact ⟨.inl h1, fun e => by have := (h.far k e).1; omega⟩
    · exact ⟨.inr (Nat.le_trans hs h1), fun e => by have := (h.far k e).2; omega⟩

theorem fold_drop {l : List Rx} {j : Nat} {x : Rx} (h : l[j]? = some x) : (l.drop j).foldr (fun x out => catR out x) rxE = catR ((l.drop (j + 1)).foldr (fun x out => catR out x) rxE) x := by
  rw [drop_at h, List.foldr_cons]
theorem gd_fold : ∀ l : List Rx, (∀ x ∈ l, Gd x) → Gd (l.foldr (fun x out => catR out x) rxE)
  | [], _ => gd_e
  | x :: l, h => by
    rw [List.foldr_cons]
    exact gd_cat (gd_fold l fun y hy => h y (by simp [hy])) _ _ (Nat.le_refl _) (h x (by simp))

def PlC (p : Rx) : Prop := ∀ (d : Nat) (v : Value) (ok : Nat → Prop) (w : World), IsRe w ok v p → Shp d p → wt p ≤ 24 → Small p → Bp BB p →
  Calls Tryz.prog 50 #[v] w fun e w' => ∃ u, e = .returned u ∧ IsRe w' (orF ok w) u (plR p) ∧ Kp noB w w'

theorem wt_kids {k mn mx : Int} {s : List (Int × Int)} {kids : List Rx} {d : Nat} (hs : Shp d (.mk k s mn mx kids)) (hw : wt (.mk k s mn mx kids) ≤ 24) : kids.length ≤ 24 ∧ ∀ x ∈ kids, wt x ≤ 24 := by
  obtain ⟨_, hc, _, _, _, hsl⟩ := hs
  have hshp : ∀ x ∈ kids, Shp (d + 1) x := fun x hx => by
    obtain ⟨i, hi⟩ := List.getElem?_of_mem hx
    exact shpL_iff.1 hsl i x hi
  have hk : (k = 1 ∧ kids.length = 0) ∨ (k = 2 ∧ kids.length ≠ 1) ∨ ((k = 3 ∨ k = 4) ∧ 1 < kids.length) ∨ ((k = 5 ∨ k = 6) ∧ kids.length = 1) := hc
  by_cases e1 : k = 1
  · have : kids = [] := List.eq_nil_of_length_eq_zero (by omega)
    subst this
    exact ⟨by simp, by simp⟩
  · rw [wt, if_neg e1] at hw
    have hb := wtL_bounds kids 0 (by omega) (by omega)
    have hle : wtL kids 0 ≤ 23 := by
      split at hw
      · have := le_mul1 hb.1 (show 1 ≤ max (max mn mx) 1 by omega)
        omega
      · omega
    have hsum := wtL_sum kids 0 (by omega) (by omega)
    have hmem : ∀ l : List Rx, (∀ x ∈ l, Shp (d + 1) x) → l.length ≤ Wn l ∧ ∀ x ∈ l, (wt x).toNat ≤ Wn l := by
      intro l
      induction l with
      | nil => intro _; simp
      | cons y l ihl =>
        intro h
        have h1 := ihl fun z hz => h z (by simp [hz])
        have h2 := wt_pos (h y (by simp))
        rw [Wn, List.length_cons]
        refine ⟨by omega, fun x hx => ?_⟩
        rcases List.mem_cons.1 hx with rfl | hx
        · omega
        · have := h1.2 x hx
          omega
    have h3 := hmem kids hshp
    exact ⟨by omega, fun x hx => by have := h3.2 x hx; omega⟩

set_option maxRecDepth 100000 in
set_option maxHeartbeats 2000000 in
theorem plain_any : ∀ (n : Nat) (p : Rx), SizeOf.sizeOf p ≤ n → PlC p := by
  intro n
  induction n with
  | zero => intro p h; cases p <;> simp at h
  | succ n ih =>
    intro p hsz d v ok w hre hs hw hsm hbp
    cases p with
    | nil => exact absurd hs (by simp [Shp])
    | mk kind set mn mx kids =>
      obtain ⟨b, sv, kv, ps, rfl, hb, hok, hrs, hkc, hpl, hkid⟩ := id hre.inv
      have c0 : w.cell? ⟨b, 0, none⟩ = some (.int .i64 kind) := by simp [World.cell?, hb]
      have c2 : w.cell? ⟨b, 2, none⟩ = some (.int .i64 mn) := by simp [World.cell?, hb]
      have c3 : w.cell? ⟨b, 3, none⟩ = some (.int .i64 mx) := by simp [World.cell?, hb]
      have c4 : w.cell? ⟨b, 4, none⟩ = some kv := by simp [World.cell?, hb]
      obtain ⟨C, cap, rfl, hkl, hcs⟩ := cells_open hkc
      have hwk := wt_kids hs hw
      simp only [Rx.mk.sizeOf_spec] at hsz
      rw [Bp] at hbp
      have hshp : ∀ x ∈ kids, Shp (d + 1) x := fun x hx => by
        obtain ⟨i, hi⟩ := List.getElem?_of_mem hx
        exact shpL_iff.1 hs.2.2.2.2.2 i x hi
      have hgd : ∀ x ∈ kids.map plR, Gd x ∧ Nm BB x := fun y hy => by
        obtain ⟨x, hx, rfl⟩ := List.mem_map.1 hy
        obtain ⟨i, hi⟩ := List.getElem?_of_mem hx
        exact ⟨(pl_ok _ x (d + 1) (Nat.le_refl _) (hshp x hx)).1, nm_pl (by decide) _ x (d + 1) (Nat.le_refl _) (hshp x hx) (smallL_at hsm.2 hi) (hbp.1 x hx)⟩
      have HGD := Lib.hid hgd
      have HIH : Hid (∀ (k : Nat) (x : Rx), kids[k]? = some x → ∃ g off u, C = some ⟨g, off, none⟩ ∧ w.cell? ⟨g, off + k, none⟩ = some u ∧
          ∀ (wr : World), Kp noB w wr → Calls Tryz.prog 50 #[u] wr fun e w' => ∃ u, e = .returned u ∧ IsRe w' (orF (fun j => ok j ∧ j < w.heap.size) wr) u (plR x) ∧ Kp noB wr w') := Lib.hid fun k x hx => by
        obtain ⟨u, hu⟩ : ∃ u, ps[k]? = some u := ⟨ps[k]'(by have := (List.getElem?_eq_some_iff.1 hx).1; omega), by simp⟩
        obtain ⟨g, off, hA, _, _, hcu⟩ := hcs k u hu
        have hm := List.mem_of_getElem? hx
        exact ⟨g, off, u, hA, hcu, fun wr hkp => ih x (by have := List.sizeOf_lt_of_mem hm; omega) (d + 1) u _ wr ((IsRe_lt (hkid k u x hu hx)).kp hkp fun _ _ _ => noB_not _) (hshp x hm) (hwk.2 x hm) (smallL_at hsm.2 hx) (hbp.1 x hm)⟩
      obtain ⟨i0, hi, hz0, hz1, hz2⟩ := info22_parts
      obtain ⟨N, hN⟩ : ∃ N, kids.length = N := ⟨_, rfl⟩
      have hN24 : N ≤ 24 := by rw [← hN]; exact hwk.1
      have hkinds : (kind = 1) ∨ (kind = 2) ∨ ((kind = 3 ∨ kind = 4)) ∨ (kind = 5) ∨ (kind = 6 ∧ ∃ a, kids = [a]) := by
        have hk : (kind = 1 ∧ kids.length = 0) ∨ (kind = 2 ∧ kids.length ≠ 1) ∨ ((kind = 3 ∨ kind = 4) ∧ 1 < kids.length) ∨ ((kind = 5 ∨ kind = 6) ∧ kids.length = 1) := hs.2.1
        rcases hk with h | h | h | ⟨h | h, h'⟩
        · exact .inl h.1
        · exact .inr (.inl h.1)
        · exact .inr (.inr (.inl h.1))
        · exact .inr (.inr (.inr (.inl h)))
        · exact .inr (.inr (.inr (.inr ⟨h, List.length_eq_one_iff.1 h'⟩)))
      have HKD := Lib.hid hkinds
      have HJB := Lib.hid hbp.2
      have HRE := Lib.hid hre
      rw [hN] at c4
      have HN := Lib.hid hN
      have hblt : b < w.heap.size := World.block_lt_of_cell? w _ c0
      clear ih hkid hcs hkc hrs hb hre hpl hsz hN hok hs hw hsm hbp hwk hshp hgd hkinds hkl
      go_enter Tryz.func50, Tryz.ntmps50
      go_wp2_with fail
      go_loopw [3, 4] (fun v c wr => ∃ k : Nat, k ≤ N ∧ c = .int .i64 k ∧ Hid (OwnP w wr ok v ((kids.take k).map plR)) ∧ Hid (Kp noB w wr)) (fun _ c _ => N - (intOf c).toNat)
      case atStart => exact ⟨0, Nat.zero_le _, rfl, Lib.hid (ownP_nil _ _ _), Lib.hid (Kp.refl _ _)⟩
      case round =>
        obtain ⟨k, hk, rfl, HP, HKP⟩ := hrel
        have c4' := HKP.out.cell c4 (noB_not _)
        rcases Nat.lt_or_ge k N with hlt | hge
        · obtain ⟨x, hx⟩ : ∃ x, kids[k]? = some x := ⟨kids[k]'(by rw [HN.out]; exact hlt), by simp⟩
          obtain ⟨g, off, u, rfl, hcu, hcall⟩ := HIH.out k x hx
          have hcu' := HKP.out.cell hcu (noB_not _)
          have HC := Lib.hid (hcall _ HKP.out)
          have hb1 : decide ((k : Int) < (N : Int)) = true := decide_eq_true (by omega)
          have HT : Hid ((kids.take (k + 1)).map plR = (kids.take k).map plR ++ [plR x] ∧ ((kids.take k).map plR).length = k) := Lib.hid ⟨by rw [take_snoc _ _ _ hx, List.map_append]; rfl, by simp; rw [HN.out]; omega⟩
          clear hcall hx
          go_wp2_with fail
          refine HC.out.mono ?_
          rintro e w2 ⟨u', rfl, h1, h2⟩
          have hp2 := HP.out.kp h2
          have hl2 := later_ok HP.out HKP.out.size h1
          obtain ⟨z, rfl⟩ := IsRe_ptr h1
          have hfar := hp2.far
          obtain ⟨ps, hown, hpl, hkids⟩ := hp2
          have HKI := Lib.hid (And.intro hkids hl2)
          have HK2 := Lib.hid (HKP.out.trans h2)
          have HFAR := Lib.hid hfar
          have hsz2 : w.heap.size ≤ w2.heap.size := HK2.out.size
          rw [HT.out.2] at hown hpl
          have HPL := Lib.hid hpl
          clear h1 h2 hl2 hkids hfar hpl
          go_wp2_with (first
            | (at_builtin; refine wpList_append_own_at _ rfl (.tmp 25) (.tmp 27) 32 rfl w.heap.size 22 i0 (.pointer none) 1 8 Tryz.underlying32 hi hz0 hz1 hz2 rfl (by decide) _ _ _ rfl (hown.alloc _) ⟨w2.heap.size, 0, none⟩ 1 1 [.pointer z] rfl rfl (cell_one_new w2 (.pointer z) 22) (fun x hx => by simp at hx; subst hx; rfl) (by unfold maxLen; omega) (by omega) (by simp; omega) ?_; intro v' w9 hown' hgrow9 hnil9 hat9; have R := Lib.hid (ownP_push (ts := (kids.take k).map plR) (by rw [HT.out.2]; exact hown) (by rw [HT.out.2]; exact HPL.out) HKI.out.1 HKI.out.2 (by rw [HT.out.2]; exact hown') hgrow9 hat9); clear hown' hgrow9 hnil9 hat9))
          have HK9 : Hid (Kp noB w w9) := Lib.hid (HK2.out.later R.out.2 (fun i hi he => by have := (HFAR.out i he).1; omega))
          go_roundw
          case rel => exact ⟨k + 1, by omega, by simp, Lib.hid (by rw [HT.out.1]; exact R.out.1), HK9⟩
          case measure => simp only [intOf]; omega
        · have hkN : k = N := by omega
          subst hkN
          have hb1 : decide ((k : Int) < (k : Int)) = false := decide_eq_false (by omega)
          have HE : Hid ((kids.take k).map plR = kids.map plR) := Lib.hid (by rw [List.take_of_length_le (by rw [HN.out]; exact Nat.le_refl _)])
          rw [HE.out] at HP
          have HPP := Lib.hid HP.out.pats
          have c0' := HKP.out.cell c0 (noB_not _)
          have c2' := HKP.out.cell c2 (noB_not _)
          have c3' := HKP.out.cell c3 (noB_not _)
          have HLN : Hid ((kids.map plR).length = k) := Lib.hid (by simp [HN.out])
          obtain ⟨A, cap3, hv, hal, hac⟩ := HPP.out.open
          rw [HLN.out] at hv
          subst hv
          have HAC := Lib.hid hac
          clear HIH hal hac HE HP
          rcases HKD.out with rfl | rfl | h34 | rfl | ⟨rfl, a, hka⟩
          · have R : Hid (plR (.mk 1 set mn mx kids) = .mk 1 set mn mx kids) := Lib.hid (by rw [plR, if_neg (by decide), if_neg (by decide), if_neg (by decide), if_neg (by decide)])
            have H := Lib.hid ((HRE.out.kp HKP.out fun _ _ _ => noB_not _).ok (ok' := orF ok w) fun _ _ h => .inl h)
            clear HKD HJB HAC HGD
            go_wp2_with fail
            go_ret
            rw [R.out]
            exact ⟨_, rfl, H.out, HKP.out⟩
          · have R : Hid (plR (.mk 2 set mn mx kids) = (kids.map plR).foldr (fun x out => catR out x) rxE) := Lib.hid (by rw [plR, if_pos rfl, plL_map])
            have HEM := Lib.hid (empty_any wr)
            obtain ⟨L, hL⟩ : ∃ L, kids.map plR = L := ⟨_, rfl⟩
            rw [hL] at R HAC HGD HPP
            have HL : Hid (L.length = k) := Lib.hid (by rw [← hL]; exact HLN.out)
            clear HKD HJB hL
            have hb1 : (k : Int) - 1 = (k : Int) - 1 := rfl
            go_wp2_with fail
            refine HEM.out.mono ?_
            rintro e w2 ⟨o, rfl, h1, h2⟩
            have HO := Lib.hid (h1.ok (ok' := orF ok w) fun _ _ h => .inr (Nat.le_trans HKP.out.size h))
            have HK2 := Lib.hid (HKP.out.trans h2)
            have HP2 := Lib.hid (HPP.out.kp h2)
            have HK0 : Hid (Kp noB wr w2) := Lib.hid h2
            clear h1 h2
            go_wp2_with fail
            go_loopw [6, 7] (fun o c wq => ∃ j : Nat, j ≤ k ∧ ((j = 0 ∧ c = .int .i64 (-1)) ∨ ∃ m : Nat, j = m + 1 ∧ c = .int .i64 m) ∧ Hid (IsRe wq (orF ok w) o ((L.drop j).foldr (fun x out => catR out x) rxE)) ∧ Hid (Kp noB wr wq)) (fun _ c _ => (intOf c + 1).toNat)
            case atStart =>
              refine ⟨k, Nat.le_refl _, ?_, Lib.hid (by rw [List.drop_eq_nil_of_le (by rw [HL.out]; exact Nat.le_refl _)]; exact HO.out), HK0⟩
              cases k with
              | zero => exact .inl ⟨rfl, by simp⟩
              | succ m => exact .inr ⟨m, rfl, by simp⟩
            case round =>
              obtain ⟨j, hj, hc, HOR, HKQ⟩ := hrel
              rcases hc with ⟨rfl, rfl⟩ | ⟨m, rfl, rfl⟩
              · have HF := HOR
                rw [List.drop_zero] at HF
                go_wp2_with fail
                go_ret
                rw [R.out]
                exact ⟨_, rfl, HF.out, HKP.out.trans HKQ.out⟩
              · obtain ⟨x, hx⟩ : ∃ x, L[m]? = some x := ⟨L[m]'(by rw [HL.out]; omega), by simp⟩
                obtain ⟨g, off, u, rfl, hcu, hre⟩ := HAC.out m x hx
                have hcu' := HKQ.out.cell hcu (noB_not _)
                have hgx := HGD.out x (List.mem_of_getElem? hx)
                have hne : (L.drop (m + 1)).foldr (fun x out => catR out x) rxE ≠ .nil := gd_ne (gd_fold _ fun y hy => (HGD.out y (List.mem_of_mem_drop hy)).1)
                have HC := Lib.hid (cat_any _ x (Nat.le_refl _) hgx.1 _ u _ (orF ok w) _ (hre.kp HKQ.out fun _ _ _ => noB_not _) HOR.out hne)
                have HFD := Lib.hid (fold_drop hx)
                have hm0 : (0 : Int) ≤ (m : Int) := by omega
                have hm1 : (m : Int) < (k : Int) := by omega
                have hd1 : decide ((m : Int) ≥ (0 : Int)) = true := decide_eq_true (by omega)
                have hd2 : decide ((0 : Int) ≤ (m : Int)) = true := decide_eq_true (by omega)
                clear hx hre hgx hne
                go_wp2_with fail
                refine HC.out.mono ?_
                rintro e w3 ⟨u', rfl, h1, h2⟩
                have HO3 := Lib.hid (h1.ok (ok' := orF ok w) fun _ _ h => orF_le (Nat.le_trans HKP.out.size HKQ.out.size) h)
                have HK3 := Lib.hid (HKQ.out.trans h2)
                clear h1 h2
                go_wp2_with fail
                go_roundw
                case rel =>
                  refine ⟨m, by omega, ?_, Lib.hid (by rw [HFD.out]; exact HO3.out), HK3⟩
                  cases m with
                  | zero => exact .inl ⟨rfl, by simp⟩
                  | succ m => exact .inr ⟨m, rfl, by simp⟩
                case measure => simp only [intOf]; omega
          · have R : Hid (plR (.mk kind set mn mx kids) = joinR kind (kids.map plR)) := Lib.hid (by rw [plR, if_neg (by omega), if_pos h34, plL_map])
            have HJ := Lib.hid (join_any h34 HPP.out (fun x hx => (HGD.out x hx).2) (by rw [← plL_map]; exact HJB.out h34))
            clear HKD HJB HAC HGD
            rcases h34 with rfl | rfl
            all_goals
              go_wp2_with fail
              refine HJ.out.mono ?_
              rintro e w3 ⟨u', rfl, h1, h2⟩
              have H := Lib.hid (And.intro (h1.ok (ok' := orF ok w) fun _ _ h => orF_le HKP.out.size h) (HKP.out.trans h2))
              clear h1 h2
              go_wp2_with fail
              go_ret
              rw [R.out]
              exact ⟨_, rfl, H.out.1, H.out.2⟩
          · have R : Hid (plR (.mk 5 set mn mx kids) = .mk 5 [] 0 0 (kids.map plR)) := Lib.hid (by rw [plR, if_neg (by decide), if_neg (by decide), if_neg (by decide), if_pos rfl, plL_map])
            have H := Lib.hid (And.intro ((isRe_pats 5 0 0 HPP.out).ok (ok' := orF ok w) fun _ _ h => orF_le HKP.out.size h) (HKP.out.alloc (.cells #[.int .i64 5, .slice none 0 0, .int .i64 0, .int .i64 0, .slice A k cap3] 34)))
            clear HKD HJB HAC HGD
            go_wp2_with fail
            go_ret
            rw [R.out]
            exact ⟨_, rfl, H.out.1, H.out.2⟩
          · subst hka
            have hk1 : k = 1 := by simpa using HN.out.symm
            subst hk1
            obtain ⟨g, off, u, rfl, hcu, hre⟩ := HAC.out 0 (plR a) rfl
            have R : Hid (plR (.mk 6 set mn mx [a]) = repR (plR a) mn mx) := Lib.hid (by rw [plR, if_neg (by decide), if_neg (by decide), if_pos rfl]; rfl)
            have HC : Hid (∀ q, Calls Tryz.prog 104 #[u, .int .i64 mn, .int .i64 mx] (wr.drewN q) fun e w' => ∃ u, e = .returned u ∧ IsRe w' (orF ok w) u (repR (plR a) mn mx) ∧ Kp noB wr w') := Lib.hid fun q =>
              (rep_any mn mx (hre.kp ((Kp.refl noB wr).drewN q) fun _ _ _ => noB_not _) (gd_ne (HGD.out _ (by simp)).1)).mono fun e w' ⟨u, he, h1, h2⟩ => ⟨u, he, h1.ok fun _ _ h => orF_le HKP.out.size h, ((Kp.refl noB wr).drewN q).trans h2⟩
            simp only [Nat.add_zero] at hcu
            clear HKD HJB HAC HGD hre
            go_wp2_with fail
            go_still_tail 11, (by kernel_rfl)
            change wpList _ _ _ _ _ wr.drew
            go_wp2_with (go_at_call 104; refine (HC.out 1).mono ?_; rintro e w3 ⟨u', rfl, h1, h2⟩)
            go_ret
            rw [R.out]
            exact ⟨_, rfl, h1, HKP.out.trans h2⟩
end Go.Proofs.YtoijabgcgdgacaaGreatDoor

namespace Go.Proofs.YtoijabgcgdgacaaGreatDoor
open Go.RowKit Go.Proofs.Gram Go.Lib

def BhC (c : Int) (x : Rx) : Prop := ∀ (v : Value) (ok : Nat → Prop) (w : World), IsRe w ok v x → Gd x → Nm BB x → Bd BB c x →
  Calls Tryz.prog 51 #[v, .int .i64 c] w fun e w' => ∃ u, e = .returned u ∧ IsRe w' (orF ok w) u (DR c x) ∧ Kp noB w w'

theorem pats_two {w : World} {ok : Nat → Prop} {u v : Value} {a b : Rx} (ha : IsRe w ok u a) (hb : IsRe w ok v b) : Pats (w.alloc (.cells #[u, v] 22)) (orF ok w) (.slice (some ⟨w.heap.size, 0, none⟩) 2 2) [a, b] := by
  have hk : Kp noB w (w.alloc (.cells #[u, v] 22)) := (Kp.refl _ _).alloc _
  have hrow := heap_alloc_new w (.cells #[u, v] 22)
  refine ⟨[u, v], .inr ⟨w.heap.size, 0, 2, rfl, Nat.le_refl _, by simp [maxLen], .inr (Nat.le_refl _), (Array.getElem?_eq_some_iff.1 hrow).1, ?_⟩, rfl, ?_⟩
  · intro i x hx
    unfold World.cell?
    simp only [hrow, Nat.zero_add]
    rw [← hx, ← Array.getElem?_toList]
    rfl
  · intro i q t' hq ht
    cases i with
    | zero => simp at hq ht; subst hq; subst ht; exact (ha.kp hk fun _ _ _ => noB_not _).ok fun _ _ h => .inl h
    | succ i => cases i with
      | zero => simp at hq ht; subst hq; subst ht; exact (hb.kp hk fun _ _ _ => noB_not _).ok fun _ _ h => .inl h
      | succ i => simp at hq

set_option maxRecDepth 100000 in
set_option maxHeartbeats 2000000 in
theorem bhRow_nil {c : Int} {s : List (Int × Int)} {mn mx : Int} {v : Value} {ok : Nat → Prop} {w : World} (hre : IsRe w ok v (.mk 2 s mn mx [])) :
    Calls Tryz.prog 107 #[v, .int .i64 c] w fun e w' => ∃ u, e = .returned u ∧ IsRe w' (orF ok w) u rxNo ∧ Kp noB w w' := by
  obtain ⟨b, sv, kv, ps, rfl, hb, hok, hrs, hkc, hpl, hkid⟩ := hre.inv
  have c4 : w.cell? ⟨b, 4, none⟩ = some kv := by simp [World.cell?, hb]
  obtain ⟨C, cap, rfl, hkl, hcs⟩ := cells_open hkc
  have HNO := Lib.hid (nothing_any w)
  simp only [List.length_nil] at c4
  clear hcs hkid hkc hrs hb hre hpl hok
  go_enter Tryz.func107, Tryz.ntmps107
  go_wp2_with fail
  refine HNO.out.mono ?_
  rintro e w' ⟨u, rfl, h1, h2⟩
  have H := Lib.hid (And.intro (fresh_or (ok := ok) h1) h2)
  clear h1 h2
  go_wp2_with fail
  go_ret
  exact ⟨_, rfl, H.out.1, H.out.2⟩

set_option maxRecDepth 100000 in
set_option maxHeartbeats 2000000 in
theorem bhRow_two {c : Int} {s : List (Int × Int)} {mn mx : Int} {h t : Rx} {v : Value} {ok : Nat → Prop} {w : World} (hre : IsRe w ok v (.mk 2 s mn mx [h, t])) (hg : Gd (.mk 2 s mn mx [h, t])) (hn : Nm BB (.mk 2 s mn mx [h, t]))
    (hbd : Bd BB c (.mk 2 s mn mx [h, t])) (hh : BhC c h) (ht : BhC c t) :
    Calls Tryz.prog 107 #[v, .int .i64 c] w fun e w' => ∃ u, e = .returned u ∧ IsRe w' (orF ok w) u (DR c (.mk 2 s mn mx [h, t])) ∧ Kp noB w w' := by
  obtain ⟨b, sv, kv, ps, rfl, hb, hok, hrs, hkc, hpl, hkid⟩ := hre.inv
  have c4 : w.cell? ⟨b, 4, none⟩ = some kv := by simp [World.cell?, hb]
  obtain ⟨C, cap, rfl, hkl, hcs⟩ := cells_open hkc
  obtain ⟨u0, u1, rfl⟩ : ∃ u0 u1, ps = [u0, u1] := by
    match ps, hpl with
    | [x, y], _ => exact ⟨x, y, rfl⟩
  obtain ⟨g, off, hA, _, hgl, q0⟩ := hcs 0 u0 rfl
  obtain ⟨g', off', hA', _, _, q1⟩ := hcs 1 u1 rfl
  rw [hA] at hA'
  cases hA'
  subst hA
  have r0 := hkid 0 u0 h rfl rfl
  have r1 := hkid 1 u1 t rfl rfl
  rcases hg.2.2.1 rfl with h9 | ⟨_, _, h9, e1, e2, e3, e4⟩
  · simp at h9
  · simp only [List.cons.injEq, and_true] at h9
    obtain ⟨rfl, rfl⟩ := h9
    have gh := hg.2.1.1
    have gt := hg.2.1.2.1
    have nh := nm_kid hn (show h ∈ [h, t] by simp)
    have nt := nm_kid hn (show t ∈ [h, t] by simp)
    have hb2 := hbd.resolve_left (by decide)
    have bh := hb2.1.1
    have bt := hb2.1.2.1
    have hjb := hb2.2.1 rfl
    simp only [DL, rowL] at hjb
    have hgd := dr_ok c _ h (Nat.le_refl _) gh
    have hgt := dr_ok c _ t (Nat.le_refl _) gt
    have hcatE : catR rxE t = t := cat_e_right gt e2 e4 rfl
    have HEM := Lib.hid (empty_any w)
    have HC0 : Hid (∀ (wr : World) (o : Value), Kp noB w wr → IsRe wr (orF ok w) o rxE → Calls Tryz.prog 102 #[u1, o] wr fun e w' => ∃ u, e = .returned u ∧ IsRe w' (orF ok w) u t ∧ Kp noB wr w') := Lib.hid fun wr o hk ho =>
      (cat_any _ t (Nat.le_refl _) gt rxE u1 o (orF ok w) wr ((r1.kp hk fun _ _ _ => noB_not _).ok fun _ _ h => .inl h) ho (by simp [rxE])).mono fun e w' ⟨u, he, h1, h2⟩ => ⟨u, he, by rw [hcatE] at h1; exact h1.ok fun _ _ h => orF_le hk.size h, h2⟩
    have HC1 : Hid (∀ (wr : World), Kp noB w wr → Calls Tryz.prog 51 #[u0, .int .i64 c] wr fun e w' => ∃ u, e = .returned u ∧ IsRe w' (orF ok w) u (DR c h) ∧ Kp noB wr w') := Lib.hid fun wr hk =>
      (hh u0 (orF ok w) wr ((r0.kp hk fun _ _ _ => noB_not _).ok fun _ _ h => .inl h) gh nh bh).mono fun e w' ⟨u, he, h1, h2⟩ => ⟨u, he, h1.ok fun _ _ h => orF_le hk.size h, h2⟩
    have HC2 : Hid (∀ (wr : World) (k o : Value), Kp noB w wr → IsRe wr (orF ok w) k (DR c h) → IsRe wr (orF ok w) o t → Calls Tryz.prog 102 #[k, o] wr fun e w' => ∃ u, e = .returned u ∧ IsRe w' (orF ok w) u (catR t (DR c h)) ∧ Kp noB wr w') := Lib.hid fun wr k o hk h1 h2 =>
      (cat_any _ (DR c h) (Nat.le_refl _) hgd.1 t k o (orF ok w) wr h1 h2 (gd_ne gt)).mono fun e w' ⟨u, he, h1, h2⟩ => ⟨u, he, h1.ok fun _ _ h => orF_le hk.size h, h2⟩
    have HC3 : Hid (∀ (wr : World), Kp noB w wr → Calls Tryz.prog 52 #[u0] wr fun e w' => e = .returned (.bool (tE h)) ∧ w' = wr) := Lib.hid fun wr hk => tE_any _ h (Nat.le_refl _) gh u0 ok wr (r0.kp hk fun _ _ _ => noB_not _)
    have HC4 : Hid (∀ (wr : World) (o : Value), Kp noB w wr → IsRe wr (orF ok w) o t → Calls Tryz.prog 51 #[o, .int .i64 c] wr fun e w' => ∃ u, e = .returned u ∧ IsRe w' (orF ok w) u (DR c t) ∧ Kp noB wr w') := Lib.hid fun wr o hk h1 =>
      (ht o (orF ok w) wr h1 gt nt bt).mono fun e w' ⟨u, he, h1, h2⟩ => ⟨u, he, h1.ok fun _ _ h => orF_le hk.size h, h2⟩
    have hnj : ∀ x ∈ [catR t (DR c h), DR c t], Nm BB x := fun x hx => by
      simp only [List.mem_cons, List.not_mem_nil, or_false] at hx
      rcases hx with rfl | rfl
      · exact nm_cat (by decide) nt _ _ (Nat.le_refl _) hgd.1 (nm_dr (by decide) c _ h (Nat.le_refl _) gh nh bh)
      · exact nm_dr (by decide) c _ t (Nat.le_refl _) gt nt bt
    have HC5 : Hid (∀ (wr : World) (x y : Value), Kp noB w wr → IsRe wr (orF ok w) x (catR t (DR c h)) → IsRe wr (orF ok w) y (DR c t) →
        Calls Tryz.prog 103 #[.int .i64 3, .slice (some ⟨wr.heap.size, 0, none⟩) 2 2] (wr.alloc (.cells #[x, y] 22)) fun e w' => ∃ u, e = .returned u ∧ IsRe w' (orF ok w) u (joinR 3 [catR t (DR c h), DR c t]) ∧ Kp noB wr w') := Lib.hid fun wr x y hk h1 h2 =>
      (join_any (.inl rfl) (pats_two h1 h2) hnj hjb).mono fun e w' ⟨u, he, h1, h2⟩ => ⟨u, he, h1.ok fun _ _ h => orF_le hk.size (orF_le (by simp) h), ((Kp.refl _ _).alloc _).trans h2⟩
    have hDR : DR c (.mk 2 s mn mx [h, t]) = if tE h then joinR 3 [catR t (DR c h), DR c t] else catR t (DR c h) := by
      rw [DR, if_neg (by decide), if_neg (by decide), if_neg (by decide), if_pos rfl]
      simp only [DL, rowR, headR]
      rw [show tEh [h, t] = tE h from rfl]
    have HR := Lib.hid hDR
    simp only [List.length_cons, List.length_nil, Nat.add_zero, Nat.zero_add] at c4 q0 q1 hkl
    clear hcs hkid hkc hrs hb hre hpl hok hg hn hbd hh ht hDR hnj hgd hgt hjb hb2 bh bt gh gt nh nt r0 r1 e1 e2 e3 e4 hcatE
    go_enter Tryz.func107, Tryz.ntmps107
    go_wp2_with fail
    refine HEM.out.mono ?_
    rintro e w1 ⟨o, rfl, h1, h2⟩
    have HO := Lib.hid (fresh_or (ok := ok) h1)
    have HK := Lib.hid h2
    have c4a := h2.cell c4 (noB_not _)
    clear h1 h2 HEM
    go_wp2_with fail
    go_loopw [5, 6] (fun o c wr => Hid (Kp noB w wr) ∧ ((c = .int .i64 1 ∧ Hid (IsRe wr (orF ok w) o rxE)) ∨ (c = .int .i64 0 ∧ Hid (IsRe wr (orF ok w) o t)))) (fun _ c _ => (intOf c).toNat)
    case atStart => exact ⟨HK, .inl ⟨rfl, HO⟩⟩
    case round =>
      clear HO HK
      obtain ⟨HK, hc⟩ := hrel
      have c4b := HK.out.cell c4 (noB_not _)
      have q0b := HK.out.cell q0 (noB_not _)
      have q1b := HK.out.cell q1 (noB_not _)
      rcases hc with ⟨rfl, HO⟩ | ⟨rfl, HO⟩
      · have HC := Lib.hid (HC0.out _ _ HK.out HO.out)
        go_wp2_with fail
        refine HC.out.mono ?_
        rintro e w2 ⟨o2, rfl, h1, h2⟩
        have HO2 := Lib.hid h1
        have HK2 := Lib.hid (HK.out.trans h2)
        clear h1 h2
        go_wp2_with fail
        go_roundw
        case rel => exact ⟨HK2, .inr ⟨by simp, HO2⟩⟩
        case measure => simp [intOf]
      · have HD := Lib.hid (HC1.out _ HK.out)
        go_wp2_with fail
        refine HD.out.mono ?_
        rintro e w2 ⟨k2, rfl, h1, h2⟩
        have HX2 := Lib.hid h1
        have HO2 := Lib.hid (HO.out.kp h2 fun _ _ _ => noB_not _)
        have HK2 := Lib.hid (HK.out.trans h2)
        have c4c := HK2.out.cell c4 (noB_not _)
        have q0c := HK2.out.cell q0 (noB_not _)
        have HE := Lib.hid (HC2.out _ _ _ HK2.out HX2.out HO2.out)
        clear h1 h2 c4b q0b q1b
        go_wp2_with fail
        refine HE.out.mono ?_
        rintro e w3 ⟨x3, rfl, h1, h2⟩
        have HX3 := Lib.hid h1
        have HO3 := Lib.hid (HO2.out.kp h2 fun _ _ _ => noB_not _)
        have HK3 := Lib.hid (HK2.out.trans h2)
        have c4d := HK3.out.cell c4 (noB_not _)
        have q0d := HK3.out.cell q0 (noB_not _)
        have HT := Lib.hid (HC3.out _ HK3.out)
        clear h1 h2 c4c q0c HX2
        cases htE : tE h with
        | false =>
          rw [htE] at HT HR
          clear htE
          go_wp2_with fail
          refine HT.out.mono ?_
          rintro e w4 ⟨rfl, rfl⟩
          go_wp2_with fail
          go_ret
          rw [HR.out]
          exact ⟨_, rfl, HX3.out, HK3.out⟩
        | true =>
          rw [htE] at HT HR
          have HF := Lib.hid (HC4.out _ _ HK3.out HO3.out)
          clear htE
          go_wp2_with fail
          refine HT.out.mono ?_
          rintro e w4 ⟨rfl, rfl⟩
          go_wp2_with fail
          refine HF.out.mono ?_
          rintro e w5 ⟨y5, rfl, h1, h2⟩
          have HY5 := Lib.hid h1
          have HX5 := Lib.hid (HX3.out.kp h2 fun _ _ _ => noB_not _)
          have HK5 := Lib.hid (HK3.out.trans h2)
          obtain ⟨xp, rfl⟩ := IsRe_ptr HX5.out
          obtain ⟨yp, rfl⟩ := IsRe_ptr HY5.out
          have HG := Lib.hid (HC5.out _ _ _ HK5.out HX5.out HY5.out)
          clear h1 h2 c4d q0d
          go_wp2_with fail
          refine HG.out.mono ?_
          rintro e w6 ⟨u6, rfl, h1, h2⟩
          have H := Lib.hid (And.intro h1 (HK5.out.trans h2))
          clear h1 h2
          go_wp2_with fail
          go_ret
          rw [HR.out]
          exact ⟨_, rfl, H.out.1, H.out.2⟩
end Go.Proofs.YtoijabgcgdgacaaGreatDoor

namespace Go.Proofs.YtoijabgcgdgacaaGreatDoor
open Go.RowKit Go.Proofs.Gram Go.Lib

theorem has_inB {l : List (Int × Int)} {c : Int} (h : isP c) : hasB l c = inB' l c := by
  have h1 := hasB_iff l c
  have h2 := inB_iff l c
  cases e : hasB l c with
  | true => exact (h2.2 (h1.1 e).2).symm
  | false =>
    cases e' : inB' l c with
    | true => rw [h1.2 ⟨h, h2.1 e'⟩] at e; cases e
    | false => rfl

set_option maxRecDepth 100000 in
set_option maxHeartbeats 4000000 in
theorem behind_any {c : Int} (hc : isP c) : ∀ (n : Nat) (x : Rx), SizeOf.sizeOf x ≤ n → BhC c x := by
  intro n
  induction n with
  | zero => intro x h; cases x <;> simp at h
  | succ n ih =>
    intro x hsz v ok w hre hg hn hbd
    cases x with
    | nil => exact hg.elim
    | mk kind set mn mx kids =>
      obtain ⟨b, sv, kv, ps, rfl, hb, hok, hrs, hkc, hpl, hkid⟩ := id hre.inv
      have c0 : w.cell? ⟨b, 0, none⟩ = some (.int .i64 kind) := by simp [World.cell?, hb]
      have c1 : w.cell? ⟨b, 1, none⟩ = some sv := by simp [World.cell?, hb]
      have c2 : w.cell? ⟨b, 2, none⟩ = some (.int .i64 mn) := by simp [World.cell?, hb]
      have c3 : w.cell? ⟨b, 3, none⟩ = some (.int .i64 mx) := by simp [World.cell?, hb]
      have c4 : w.cell? ⟨b, 4, none⟩ = some kv := by simp [World.cell?, hb]
      have hblt : b < w.heap.size := World.block_lt_of_cell? w _ c0
      obtain ⟨C, cap, rfl, hkl, hcs⟩ := cells_open hkc
      have hnum := hn
      rw [Nm] at hnum
      obtain ⟨_, hmn, hmx, hsl, _, hkB, _⟩ := hnum
      unfold BB at hkB
      have hk := hg.1
      simp only [Rx.mk.sizeOf_spec] at hsz
      have hgl := gdL_iff.1 hg.2.1
      have HIH : kind ≠ 1 → Hid (∀ (k : Nat) (x : Rx), kids[k]? = some x → ∃ g off u, C = some ⟨g, off, none⟩ ∧ w.cell? ⟨g, off + k, none⟩ = some u ∧ IsRe w ok u x ∧
          ∀ (wr : World), Kp noB w wr → Calls Tryz.prog 51 #[u, .int .i64 c] wr fun e w' => ∃ u, e = .returned u ∧ IsRe w' (orF (fun j => ok j ∧ j < w.heap.size) wr) u (DR c x) ∧ Kp noB wr w') := fun h1 => Lib.hid fun k x hx => by
        obtain ⟨u, hu⟩ : ∃ u, ps[k]? = some u := ⟨ps[k]'(by have := (List.getElem?_eq_some_iff.1 hx).1; omega), by simp⟩
        obtain ⟨g, off, hA, _, _, hcu⟩ := hcs k u hu
        have hm := List.mem_of_getElem? hx
        exact ⟨g, off, u, hA, hcu, hkid k u x hu hx, fun wr hkp => ih x (by have := List.sizeOf_lt_of_mem hm; omega) u _ wr ((IsRe_lt (hkid k u x hu hx)).kp hkp fun _ _ _ => noB_not _) (hgl x hm) (nm_kid hn hm) (bdL_iff.1 (hbd.resolve_left h1).1 x hm)⟩
      have hone : ∀ k : Int, k = 5 ∨ k = 6 → kind = k → ∃ a, kids = [a] := fun k hk e => by
        rcases hk with rfl | rfl
        · exact List.length_eq_one_iff.1 (hg.2.2.2.2.1 e)
        · exact List.length_eq_one_iff.1 (hg.2.2.2.2.2 e).1
      rcases hk with rfl | rfl | h34' | h34' | rfl | rfl
      · -- a set
        have HH := Lib.hid (has_any sv set ok w hrs (by omega) c)
        rw [has_inB hc] at HH
        have HEM := Lib.hid (empty_any w)
        have HNO := Lib.hid (nothing_any w)
        have R : Hid (DR c (.mk 1 set mn mx kids) = if inB' set c then rxE else rxNo) := Lib.hid (by rw [DR, if_pos rfl])
        clear ih hkid hcs hkc hrs hb hre hpl hsz hok hg hn hbd HIH hgl hone hkl
        cases hin : inB' set c with
        | true =>
          rw [hin] at HH R
          clear hin HNO
          go_enter Tryz.func51, Tryz.ntmps51
          go_wp2_with fail
          refine HH.out.mono ?_
          rintro e w2 ⟨rfl, rfl⟩
          go_wp2_with fail
          refine HEM.out.mono ?_
          rintro e w' ⟨u, rfl, h1, h2⟩
          have H := Lib.hid (And.intro (fresh_or (ok := ok) h1) h2)
          clear h1 h2
          go_wp2_with fail
          go_ret
          rw [R.out]
          exact ⟨_, rfl, H.out.1, H.out.2⟩
        | false =>
          rw [hin] at HH R
          clear hin HEM
          go_enter Tryz.func51, Tryz.ntmps51
          go_wp2_with fail
          refine HH.out.mono ?_
          rintro e w2 ⟨rfl, rfl⟩
          go_wp2_with fail
          refine HNO.out.mono ?_
          rintro e w' ⟨u, rfl, h1, h2⟩
          have H := Lib.hid (And.intro (fresh_or (ok := ok) h1) h2)
          clear h1 h2
          go_wp2_with fail
          go_ret
          rw [R.out]
          exact ⟨_, rfl, H.out.1, H.out.2⟩
      · -- a row
        have HROW : Hid (Calls Tryz.prog 107 #[.pointer (some ⟨b, 0, none⟩), .int .i64 c] w fun e w' => ∃ u, e = .returned u ∧ IsRe w' (orF ok w) u (DR c (.mk 2 set mn mx kids)) ∧ Kp noB w w') := Lib.hid (by
          rcases hg.2.2.1 rfl with rfl | ⟨h, t, rfl, _⟩
          · have : DR c (.mk 2 set mn mx []) = rxNo := by
              rw [DR, if_neg (by decide), if_neg (by decide), if_neg (by decide), if_pos rfl]
              rfl
            rw [this]
            exact bhRow_nil hre
          · simp only [List.cons.sizeOf_spec, List.nil.sizeOf_spec] at hsz
            exact bhRow_two hre hg hn hbd (ih h (by omega)) (ih t (by omega)))
        clear ih hkid hcs hkc hrs hb hre hpl hsz hok hg hn hbd HIH hgl hone hkl
        go_enter Tryz.func51, Tryz.ntmps51
        go_wp2_with fail
        refine HROW.out.mono ?_
        rintro e w' ⟨u, rfl, h1, h2⟩
        have H := Lib.hid (And.intro h1 h2)
        clear h1 h2
        go_wp2_with fail
        go_ret
        exact ⟨_, rfl, H.out.1, H.out.2⟩
      · -- a sum
        subst h34'
        have HIH := HIH (by decide)
        have hgd : ∀ x ∈ kids.map (DR c), Nm BB x := fun y hy => by
          obtain ⟨x, hx, rfl⟩ := List.mem_map.1 hy
          exact nm_dr (by decide) c _ x (Nat.le_refl _) (hgl x hx) (nm_kid hn hx) (bdL_iff.1 (hbd.resolve_left (by decide)).1 x hx)
        have hjb := (hbd.resolve_left (by decide)).2.2 (.inl rfl)
        rw [DL_map] at hjb
        have HJB := Lib.hid (And.intro hgd hjb)
        have R : Hid (DR c (.mk 3 set mn mx kids) = joinR 3 (kids.map (DR c))) := Lib.hid (by rw [DR, if_neg (by decide), if_neg (by decide), if_neg (by decide), if_neg (by decide), DL_map])
        obtain ⟨i0, hi, hz0, hz1, hz2⟩ := info22_parts
        obtain ⟨N, hN⟩ : ∃ N, kids.length = N := ⟨_, rfl⟩
        rw [hN] at c4 hkB
        have HN := Lib.hid hN
        clear ih hkid hcs hkc hrs hb hre hpl hsz hN hok hg hn hbd hgl hgd hjb hone hkl
        go_enter Tryz.func51, Tryz.ntmps51
        go_wp2_with fail
        go_loopw [11, 12] (fun v c' wr => ∃ k : Nat, k ≤ N ∧ c' = .int .i64 k ∧ Hid (OwnP w wr ok v ((kids.take k).map (DR c))) ∧ Hid (Kp noB w wr)) (fun _ c _ => N - (intOf c).toNat)
        case atStart => exact ⟨0, Nat.zero_le _, rfl, Lib.hid (ownP_nil _ _ _), Lib.hid (Kp.refl _ _)⟩
        case round =>
          obtain ⟨k, hk, rfl, HP, HKP⟩ := hrel
          have c4' := HKP.out.cell c4 (noB_not _)
          rcases Nat.lt_or_ge k N with hlt | hge
          · obtain ⟨x, hx⟩ : ∃ x, kids[k]? = some x := ⟨kids[k]'(by rw [HN.out]; exact hlt), by simp⟩
            obtain ⟨g, off, u, rfl, hcu, _, hcall⟩ := HIH.out k x hx
            have hcu' := HKP.out.cell hcu (noB_not _)
            have HC := Lib.hid (hcall _ HKP.out)
            have hb1 : decide ((k : Int) < (N : Int)) = true := decide_eq_true (by omega)
            have HT : Hid ((kids.take (k + 1)).map (DR c) = (kids.take k).map (DR c) ++ [DR c x] ∧ ((kids.take k).map (DR c)).length = k) := Lib.hid ⟨by rw [take_snoc _ _ _ hx, List.map_append]; rfl, by simp; rw [HN.out]; omega⟩
            clear hcall hx
            go_wp2_with fail
            refine HC.out.mono ?_
            rintro e w2 ⟨u', rfl, h1, h2⟩
            have hp2 := HP.out.kp h2
            have hl2 := later_ok HP.out HKP.out.size h1
            obtain ⟨z, rfl⟩ := IsRe_ptr h1
            have hfar := hp2.far
            obtain ⟨ps, hown, hpl, hkids⟩ := hp2
            have HKI := Lib.hid (And.intro hkids hl2)
            have HK2 := Lib.hid (HKP.out.trans h2)
            have HFAR := Lib.hid hfar
            have hsz2 : w.heap.size ≤ w2.heap.size := HK2.out.size
            rw [HT.out.2] at hown hpl
            have HPL := Lib.hid hpl
            clear h1 h2 hl2 hkids hfar hpl
            go_wp2_with (first
              | (at_builtin; refine wpList_append_own_at _ rfl (.tmp 104) (.tmp 106) 32 rfl w.heap.size 22 i0 (.pointer none) 1 8 Tryz.underlying32 hi hz0 hz1 hz2 rfl (by decide) _ _ _ rfl (hown.alloc _) ⟨w2.heap.size, 0, none⟩ 1 1 [.pointer z] rfl rfl (cell_one_new w2 (.pointer z) 22) (fun x hx => by simp at hx; subst hx; rfl) (by unfold maxLen; omega) (by omega) (by simp; omega) ?_; intro v' w9 hown' hgrow9 hnil9 hat9; have R := Lib.hid (ownP_push (ts := (kids.take k).map (DR c)) (by rw [HT.out.2]; exact hown) (by rw [HT.out.2]; exact HPL.out) HKI.out.1 HKI.out.2 (by rw [HT.out.2]; exact hown') hgrow9 hat9); clear hown' hgrow9 hnil9 hat9))
            have HK9 : Hid (Kp noB w w9) := Lib.hid (HK2.out.later R.out.2 (fun i hi he => by have := (HFAR.out i he).1; omega))
            go_roundw
            case rel => exact ⟨k + 1, by omega, by simp, Lib.hid (by rw [HT.out.1]; exact R.out.1), HK9⟩
            case measure => simp only [intOf]; omega
          · have hb1 : decide ((k : Int) < (N : Int)) = false := decide_eq_false (by omega)
            have HE : Hid ((kids.take k).map (DR c) = kids.map (DR c)) := Lib.hid (by rw [List.take_of_length_le (by rw [HN.out]; exact hge)])
            rw [HE.out] at HP
            have c0' := HKP.out.cell c0 (noB_not _)
            have HJ := Lib.hid (join_any (.inl rfl) HP.out.pats HJB.out.1 HJB.out.2)
            clear HIH HE HP HJB
            go_wp2_with fail
            refine HJ.out.mono ?_
            rintro e w3 ⟨u', rfl, h1, h2⟩
            have H := Lib.hid (And.intro (h1.ok (ok' := orF ok w) fun _ _ h => orF_le HKP.out.size h) (HKP.out.trans h2))
            clear h1 h2
            go_wp2_with fail
            go_ret
            rw [R.out]
            exact ⟨_, rfl, H.out.1, H.out.2⟩
      · -- a product
        subst h34'
        have HIH := HIH (by decide)
        have hgd : ∀ x ∈ kids.map (DR c), Nm BB x := fun y hy => by
          obtain ⟨x, hx, rfl⟩ := List.mem_map.1 hy
          exact nm_dr (by decide) c _ x (Nat.le_refl _) (hgl x hx) (nm_kid hn hx) (bdL_iff.1 (hbd.resolve_left (by decide)).1 x hx)
        have hjb := (hbd.resolve_left (by decide)).2.2 (.inr rfl)
        rw [DL_map] at hjb
        have HJB := Lib.hid (And.intro hgd hjb)
        have R : Hid (DR c (.mk 4 set mn mx kids) = joinR 4 (kids.map (DR c))) := Lib.hid (by rw [DR, if_neg (by decide), if_neg (by decide), if_neg (by decide), if_neg (by decide), DL_map])
        obtain ⟨i0, hi, hz0, hz1, hz2⟩ := info22_parts
        obtain ⟨N, hN⟩ : ∃ N, kids.length = N := ⟨_, rfl⟩
        rw [hN] at c4 hkB
        have HN := Lib.hid hN
        clear ih hkid hcs hkc hrs hb hre hpl hsz hN hok hg hn hbd hgl hgd hjb hone hkl
        go_enter Tryz.func51, Tryz.ntmps51
        go_wp2_with fail
        go_loopw [11, 12] (fun v c' wr => ∃ k : Nat, k ≤ N ∧ c' = .int .i64 k ∧ Hid (OwnP w wr ok v ((kids.take k).map (DR c))) ∧ Hid (Kp noB w wr)) (fun _ c _ => N - (intOf c).toNat)
        case atStart => exact ⟨0, Nat.zero_le _, rfl, Lib.hid (ownP_nil _ _ _), Lib.hid (Kp.refl _ _)⟩
        case round =>
          obtain ⟨k, hk, rfl, HP, HKP⟩ := hrel
          have c4' := HKP.out.cell c4 (noB_not _)
          rcases Nat.lt_or_ge k N with hlt | hge
          · obtain ⟨x, hx⟩ : ∃ x, kids[k]? = some x := ⟨kids[k]'(by rw [HN.out]; exact hlt), by simp⟩
            obtain ⟨g, off, u, rfl, hcu, _, hcall⟩ := HIH.out k x hx
            have hcu' := HKP.out.cell hcu (noB_not _)
            have HC := Lib.hid (hcall _ HKP.out)
            have hb1 : decide ((k : Int) < (N : Int)) = true := decide_eq_true (by omega)
            have HT : Hid ((kids.take (k + 1)).map (DR c) = (kids.take k).map (DR c) ++ [DR c x] ∧ ((kids.take k).map (DR c)).length = k) := Lib.hid ⟨by rw [take_snoc _ _ _ hx, List.map_append]; rfl, by simp; rw [HN.out]; omega⟩
            clear hcall hx
            go_wp2_with fail
            refine HC.out.mono ?_
            rintro e w2 ⟨u', rfl, h1, h2⟩
            have hp2 := HP.out.kp h2
            have hl2 := later_ok HP.out HKP.out.size h1
            obtain ⟨z, rfl⟩ := IsRe_ptr h1
            have hfar := hp2.far
            obtain ⟨ps, hown, hpl, hkids⟩ := hp2
            have HKI := Lib.hid (And.intro hkids hl2)
            have HK2 := Lib.hid (HKP.out.trans h2)
            have HFAR := Lib.hid hfar
            have hsz2 : w.heap.size ≤ w2.heap.size := HK2.out.size
            rw [HT.out.2] at hown hpl
            have HPL := Lib.hid hpl
            clear h1 h2 hl2 hkids hfar hpl
            go_wp2_with (first
              | (at_builtin; refine wpList_append_own_at _ rfl (.tmp 104) (.tmp 106) 32 rfl w.heap.size 22 i0 (.pointer none) 1 8 Tryz.underlying32 hi hz0 hz1 hz2 rfl (by decide) _ _ _ rfl (hown.alloc _) ⟨w2.heap.size, 0, none⟩ 1 1 [.pointer z] rfl rfl (cell_one_new w2 (.pointer z) 22) (fun x hx => by simp at hx; subst hx; rfl) (by unfold maxLen; omega) (by omega) (by simp; omega) ?_; intro v' w9 hown' hgrow9 hnil9 hat9; have R := Lib.hid (ownP_push (ts := (kids.take k).map (DR c)) (by rw [HT.out.2]; exact hown) (by rw [HT.out.2]; exact HPL.out) HKI.out.1 HKI.out.2 (by rw [HT.out.2]; exact hown') hgrow9 hat9); clear hown' hgrow9 hnil9 hat9))
            have HK9 : Hid (Kp noB w w9) := Lib.hid (HK2.out.later R.out.2 (fun i hi he => by have := (HFAR.out i he).1; omega))
            go_roundw
            case rel => exact ⟨k + 1, by omega, by simp, Lib.hid (by rw [HT.out.1]; exact R.out.1), HK9⟩
            case measure => simp only [intOf]; omega
          · have hb1 : decide ((k : Int) < (N : Int)) = false := decide_eq_false (by omega)
            have HE : Hid ((kids.take k).map (DR c) = kids.map (DR c)) := Lib.hid (by rw [List.take_of_length_le (by rw [HN.out]; exact hge)])
            rw [HE.out] at HP
            have c0' := HKP.out.cell c0 (noB_not _)
            have HJ := Lib.hid (join_any (.inr rfl) HP.out.pats HJB.out.1 HJB.out.2)
            clear HIH HE HP HJB
            go_wp2_with fail
            refine HJ.out.mono ?_
            rintro e w3 ⟨u', rfl, h1, h2⟩
            have H := Lib.hid (And.intro (h1.ok (ok' := orF ok w) fun _ _ h => orF_le HKP.out.size h) (HKP.out.trans h2))
            clear h1 h2
            go_wp2_with fail
            go_ret
            rw [R.out]
            exact ⟨_, rfl, H.out.1, H.out.2⟩
      · -- not
        obtain ⟨a, rfl⟩ := hone 5 (.inl rfl) rfl
        obtain ⟨g, off, u, rfl, hcu, _, hcall⟩ := (HIH (by decide)).out 0 a rfl
        have HC := Lib.hid (hcall w (Kp.refl _ _))
        have R : Hid (DR c (.mk 5 set mn mx [a]) = .mk 5 [] 0 0 [DR c a]) := Lib.hid (by rw [DR, if_neg (by decide), if_pos rfl]; rfl)
        simp only [Nat.add_zero, List.length_cons, List.length_nil, Nat.zero_add] at hcu c4 hkl hkB
        clear ih hkid hcs hkc hrs hb hre hpl hsz hok hg hn hbd HIH hgl hone hcall
        go_enter Tryz.func51, Tryz.ntmps51
        go_wp2_with fail
        refine HC.out.mono ?_
        rintro e w2 ⟨u2, rfl, h1, h2⟩
        have h1' := h1.ok (ok' := orF ok w) fun _ _ h => h.elim (fun h => .inl h.1) .inr
        have h9 := isRe_node1 5 0 0 h1'
        have H := Lib.hid (And.intro (h9.1.ok (ok' := orF ok w) fun _ _ h => orF_le h2.size h) (h2.trans h9.2))
        obtain ⟨z, rfl⟩ := IsRe_ptr h1
        clear h1 h2 h1' h9
        go_wp2_with fail
        go_ret
        rw [R.out]
        exact ⟨_, rfl, H.out.1, H.out.2⟩
      · -- several times
        obtain ⟨a, rfl⟩ := hone 6 (.inr rfl) rfl
        obtain ⟨g, off, u, rfl, hcu, hre0, hcall⟩ := (HIH (by decide)).out 0 a rfl
        have ga := hgl a (by simp)
        have h7 := (hg.2.2.2.2.2 rfl).2
        have hda := dr_ok c _ a (Nat.le_refl _) ga
        have HC := Lib.hid (hcall w (Kp.refl _ _))
        have HREP : Hid (∀ wr, Kp noB w wr → Calls Tryz.prog 104 #[u, .int .i64 (decR mn), .int .i64 (decR mx)] wr fun e w' => ∃ u, e = .returned u ∧ IsRe w' (orF ok w) u (repR a (decR mn) (decR mx)) ∧ Kp noB wr w') := Lib.hid fun wr hk =>
          (rep_any (decR mn) (decR mx) (hre0.kp hk fun _ _ _ => noB_not _) (gd_ne ga)).mono fun e w' ⟨u, he, h1, h2⟩ => ⟨u, he, h1.ok fun _ _ h => h.elim .inl fun h => .inr (Nat.le_trans hk.size h), h2⟩
        have hgr : Gd (repR a (decR mn) (decR mx)) := gd_rep ga (by unfold decR; split <;> omega) (by unfold decR; split <;> split <;> omega)
        have HCAT : Hid (∀ wr k o, Kp noB w wr → IsRe wr (orF ok w) k (DR c a) → IsRe wr (orF ok w) o (repR a (decR mn) (decR mx)) → Calls Tryz.prog 102 #[k, o] wr fun e w' => ∃ u, e = .returned u ∧ IsRe w' (orF ok w) u (catR (repR a (decR mn) (decR mx)) (DR c a)) ∧ Kp noB wr w') := Lib.hid fun wr k o hk h1 h2 =>
          (cat_any _ (DR c a) (Nat.le_refl _) hda.1 _ k o (orF ok w) wr h1 h2 (gd_ne hgr)).mono fun e w' ⟨u, he, h1, h2⟩ => ⟨u, he, h1.ok fun _ _ h => orF_le hk.size h, h2⟩
        have R : Hid (DR c (.mk 6 set mn mx [a]) = catR (repR a (decR mn) (decR mx)) (DR c a)) := Lib.hid (by rw [DR, if_neg (by decide), if_neg (by decide), if_pos rfl]; rfl)
        have hlo : (decide (mn > 0) = true ∧ decide (0 < mn) = true ∧ decR mn = mn - 1) ∨ (decide (mn > 0) = false ∧ decide (0 < mn) = false ∧ decR mn = mn) := by
          unfold decR
          by_cases h : 0 < mn
          · exact .inl ⟨decide_eq_true h, decide_eq_true h, if_pos h⟩
          · exact .inr ⟨decide_eq_false h, decide_eq_false h, if_neg h⟩
        have hhi : (decide (mx > 0) = true ∧ decide (0 < mx) = true ∧ decR mx = mx - 1) ∨ (decide (mx > 0) = false ∧ decide (0 < mx) = false ∧ decR mx = mx) := by
          unfold decR
          by_cases h : 0 < mx
          · exact .inl ⟨decide_eq_true h, decide_eq_true h, if_pos h⟩
          · exact .inr ⟨decide_eq_false h, decide_eq_false h, if_neg h⟩
        simp only [Nat.add_zero, List.length_cons, List.length_nil, Nat.zero_add] at hcu c4 hkl hkB
        clear ih hkid hcs hkc hrs hb hre hpl hsz hok hg hn hbd HIH hgl hone hcall hda hgr ga hre0
        rcases hlo with ⟨l1, l2, l3⟩ | ⟨l1, l2, l3⟩ <;> rcases hhi with ⟨m1, m2, m3⟩ | ⟨m1, m2, m3⟩
        all_goals
          rw [l3, m3] at HREP HCAT R
          clear l3 m3 h7
          go_enter Tryz.func51, Tryz.ntmps51
          go_wp2_with fail
          refine HC.out.mono ?_
          rintro e w2 ⟨u2, rfl, h1, h2⟩
          have HU2 := Lib.hid (h1.ok (ok' := orF ok w) fun _ _ h => h.elim (fun h => .inl h.1) .inr)
          have HK2 := Lib.hid h2
          have c4a := h2.cell c4 (noB_not _)
          have hcua := h2.cell hcu (noB_not _)
          have HR2 := Lib.hid (HREP.out _ h2)
          clear h1 h2
          go_wp2_with fail
          refine HR2.out.mono ?_
          rintro e w3 ⟨u3, rfl, h1, h2⟩
          have HK3 := Lib.hid (HK2.out.trans h2)
          have HC3 := Lib.hid (HCAT.out _ _ _ HK3.out (HU2.out.kp h2 fun _ _ _ => noB_not _) h1)
          clear h1 h2
          go_wp2_with fail
          refine HC3.out.mono ?_
          rintro e w4 ⟨u4, rfl, h1, h2⟩
          have H := Lib.hid (And.intro h1 (HK3.out.trans h2))
          clear h1 h2
          go_wp2_with fail
          go_ret
          rw [R.out]
          exact ⟨_, rfl, H.out.1, H.out.2⟩
end Go.Proofs.YtoijabgcgdgacaaGreatDoor
