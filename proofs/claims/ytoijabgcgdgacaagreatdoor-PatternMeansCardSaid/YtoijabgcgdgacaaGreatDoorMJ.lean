/-
  WALKS, my: the program's points of a text.
  WALKS, mz: pattern.Matches; the law PatternMeans.
-/
import Derived.Test.YtoijabgcgdgacaaGreatDoorMI
import Derived.Test.YtoijabgcgdgacaaGreatDoorME
import Derived.Lib.OthersKept
import Derived.Laws.RangeAny
import Derived.Test.YtoijabgcgdgacaaGreatDoorRH
namespace Go.Proofs.YtoijabgcgdgacaaGreatDoor
open Go.RowKit Go.Proofs.Gram Go.Lib

theorem own_iter {w : World} {k : Nat} {e : TypeId} {size : Nat} {v : Value} {n : Nat} {xs : List Value} {s : ByteArray} {p : Nat} (h : w.ownsRow (k + 1) e size v n xs) : (w.iterAt k s p).ownsRow (k + 1) e size v n xs := by
  obtain ⟨h1, h2⟩ := h
  refine ⟨h1, ?_⟩
  rcases h2 with ⟨rfl, h0⟩ | ⟨g, cap, cur, rfl, hg, hh, hn⟩
  · exact .inl ⟨rfl, h0⟩
  · exact .inr ⟨g, cap, cur, rfl, hg, by rw [iterAt_other w k g s p (by omega)]; exact hh, hn⟩

set_option maxRecDepth 100000 in
set_option maxHeartbeats 2000000 in
theorem points_any (s : ByteArray) (hs : s.size ≤ 65536) (w : World) :
    Calls Tryz.prog 47 #[.string s] w fun e w' => ∃ u, e = .returned u ∧ Ints w' (fun k => w.heap.size ≤ k) u (ptsOf s) ∧ Kp noB w w' := by
  obtain ⟨i0, hi, hz0, hz1, hz2⟩ := info3_parts
  go_enter Tryz.func47, Tryz.ntmps47
  go_wp2_with fail
  go_loopw [3] (fun v wr => ∃ (a f : Nat) (l : List Int), a ≤ s.size ∧ wr.heap[w.heap.size]? = some (.stringIter s a) ∧ l.length ≤ a ∧ Hid (s.size ≤ a + f ∧ l ++ ptsF s f a = ptsOf s) ∧ Hid (wr.ownsRow (w.heap.size + 1) 3 1 v l.length (icells l)) ∧ Hid (Kp noB w wr)) (fun _ wr => s.size - wr.iterPos w.heap.size)
  case atStart => exact ⟨0, s.size, [], Nat.zero_le _, heap_alloc_new w _, Nat.zero_le _, Lib.hid ⟨by omega, rfl⟩, Lib.hid (World.ownsRow_nil _ _ _ _), Lib.hid ((Kp.refl _ _).alloc _)⟩
  case round =>
    obtain ⟨a, f, l, ha, hit, hl, HF, HO, HKP⟩ := hrel
    rcases Nat.lt_or_ge a s.size with hlt | hge
    · obtain ⟨g, hg, hpt, hsg⟩ := pts_step s f a hlt HF.out.1
      have hnx := nx_le s a hlt
      have hcle := Lib.rune_le s a
      have HN : Hid (s.size ≤ nx s a + g ∧ (l ++ [((Utf8.decode s a).1 : Int)]) ++ ptsF s g (nx s a) = ptsOf s) := Lib.hid ⟨hsg, by rw [← HF.out.2, hpt]; simp⟩
      have hnext := fun ty => run_next_any_at (P := Tryz.prog) wr w.heap.size s a ty hit hlt
      have hit2 := iterAt_heap wr w.heap.size s a (a + (Utf8.decode s a).2) hit
      have hsz2 : wr.heap.size ≤ (wr.iterAt w.heap.size s (a + (Utf8.decode s a).2)).heap.size := by rw [iterAt_size]; exact Nat.le_refl _
      have hown : (wr.iterAt w.heap.size s (a + (Utf8.decode s a).2)).ownsRow (w.heap.size + 1) 3 1 u3 l.length (icells l) := own_iter HO.out
      have hpos : wr.iterPos w.heap.size = a := by simp [World.iterPos, hit]
      have HK2 : Hid (Kp noB w (wr.iterAt w.heap.size s (a + (Utf8.decode s a).2))) := Lib.hid (HKP.out.later (F' := fun k => k = w.heap.size) ⟨rfl, rfl, rfl, by rw [iterAt_size]; exact Nat.le_refl _, fun k _ hne => iterAt_other wr _ _ _ _ hne⟩ fun i hi e => by omega)
      have hltw : w.heap.size < wr.heap.size := (Array.getElem?_eq_some_iff.1 hit).1
      obtain ⟨c1, hc1⟩ : ∃ c1, (Utf8.decode s a).1 = c1 := ⟨_, rfl⟩
      obtain ⟨c2, hc2⟩ : ∃ c2, (Utf8.decode s a).2 = c2 := ⟨_, rfl⟩
      unfold nx at HN hnx
      rw [hc1, hc2] at HN hnext
      rw [hc2] at hnx hit2 hown HK2 hsz2
      rw [hc1] at hcle
      generalize wr.iterAt w.heap.size s (a + c2) = w2 at *
      clear hg hpt hsg hc1 hc2
      go_wp2_with (first
        | (at_builtin; refine wpList_append_own _ rfl (.tmp 11) (.tmp 14) 60 rfl (w.heap.size + 1) 3 i0 (.int .i64 0) 1 8 Tryz.underlying60 hi hz0 hz1 hz2 rfl (by decide) _ _ _ rfl (hown.alloc _) ⟨w2.heap.size, 0, none⟩ 1 1 [.int .i64 c1] rfl rfl (cell_one_new w2 _ 3) (fun x hx => by simp at hx; subst hx; rfl) (by unfold maxLen; omega) (by omega) (by simp; omega) ?_; intro v' w9 hown' hgrow9 hnil9; have HK9 := Lib.hid ((HK2.out.alloc (.cells #[.int .i64 c1] 3)).grown hgrow9 (fun k hk => .inr (by have := (hown.lt k hk).1; omega))); have hit9 : w9.heap[w.heap.size]? = some (.stringIter s (a + c2)) := (by rw [hgrow9.block _ (by simp; omega) (fun e => by have := (hown.lt _ e.symm).1; omega)]; rw [Below.heap_alloc _ _ _ (by omega)]; exact hit2); clear hgrow9 hnil9))
      have HO9 : Hid (w9.ownsRow (w.heap.size + 1) 3 1 v' (l ++ [(c1 : Int)]).length (icells (l ++ [(c1 : Int)]))) := Lib.hid (by rw [icells_snoc, List.length_append]; exact hown')
      clear hown hown'
      go_roundw
      case rel => exact ⟨a + c2, g, l ++ [(c1 : Int)], by omega, hit9, by simp; omega, HN, HO9, HK9⟩
      case measure =>
        have h9 : w9.iterPos w.heap.size = a + c2 := by simp [World.iterPos, hit9]
        rw [h9, hpos]
        omega
    · have hnext := fun ty => run_next_end_at (P := Tryz.prog) wr w.heap.size s a ty hit (by omega)
      have R : Hid (l = ptsOf s) := Lib.hid (by rw [← HF.out.2, pts_end s f a hge, List.append_nil])
      go_wp2_with fail
      go_ret
      rw [← R.out]
      exact ⟨_, rfl, (own_cells HO.out).ok fun _ _ h => by omega, HKP.out⟩
end Go.Proofs.YtoijabgcgdgacaaGreatDoor

namespace Go.Proofs.YtoijabgcgdgacaaGreatDoor
open Go.RowKit Go.Proofs.Gram Go.Lib

theorem seg_all {L : List Int} {N : Nat} (h : L.length = N) : seg L 0 N = L := by
  unfold seg
  rw [List.drop_zero, Nat.sub_zero, List.take_of_length_le (by omega)]

set_option maxRecDepth 100000 in
set_option maxHeartbeats 2000000 in
theorem matches_any {t : Rx} (hok : OkR t) (hsm : Small t) (s : ByteArray) (hsz : s.size ≤ 40) {v : Value} {ok : Nat → Prop} {w : World} (hre : IsRe w ok v t) :
    Calls Tryz.prog 15 #[v, .string s] w (HasP w (Lg t (ptsOf s))) := by
  have HOK := Lib.hid (ok_any t v ok w hre hsm)
  have HPT : Hid (∀ wr, Calls Tryz.prog 47 #[.string s] wr fun e w' => ∃ u, e = .returned u ∧ Ints w' (fun k => wr.heap.size ≤ k) u (ptsOf s) ∧ Kp noB wr w') := Lib.hid fun wr => points_any s (by omega) wr
  have hlen : (ptsOf s).length ≤ 40 := by
    have := pts_len s s.size 0
    unfold ptsOf
    omega
  have hisp : ∀ x ∈ ptsOf s, isP x := fun x hx => pts_isP s s.size 0 x hx
  obtain ⟨L, hL⟩ : ∃ L, ptsOf s = L := ⟨_, rfl⟩
  rw [hL] at HPT hlen hisp ⊢
  cases t with
  | nil => exact absurd hok.1 (by simp [Shp])
  | mk kind set mn mx kids =>
    obtain ⟨b, _, _, _, rfl, hb, _⟩ := hre.inv
    have hblt : b < w.heap.size := (Array.getElem?_eq_some_iff.1 hb).1
    have HMAIN : Hid (∀ (w2 : World) (A : Option Addr) (cap : Nat), Kp noB w w2 → Ints w2 (fun k => w.heap.size ≤ k) (.slice A L.length cap) L →
        (((w2.alloc (.map #[] 0)).alloc (.cells #[.slice A L.length cap, .map (some w2.heap.size)] 106)).cell? ⟨w2.heap.size + 1, 0, none⟩ = some (.slice A L.length cap)) ∧
        Calls Tryz.prog 48 #[.pointer (some ⟨w2.heap.size + 1, 0, none⟩), .pointer (some ⟨b, 0, none⟩), .int .i64 0, .int .i64 L.length] ((w2.alloc (.map #[] 0)).alloc (.cells #[.slice A L.length cap, .map (some w2.heap.size)] 106))
          (HasP w (Lg (.mk kind set mn mx kids) L))) := Lib.hid fun w2 A cap hk hints => by
      have hk4 : Kp noB w2 ((w2.alloc (.map #[] 0)).alloc (.cells #[.slice A L.length cap, .map (some w2.heap.size)] 106)) := ((Kp.refl _ _).alloc _).alloc _
      have hnode := heap_alloc_new (w2.alloc (.map #[] 0)) (.cells #[.slice A L.length cap, .map (some w2.heap.size)] 106)
      have hs1 : (w2.alloc (.map #[] 0)).heap.size = w2.heap.size + 1 := by simp
      rw [hs1] at hnode
      have hmap : ((w2.alloc (.map #[] 0)).alloc (.cells #[.slice A L.length cap, .map (some w2.heap.size)] 106)).heap[w2.heap.size]? = some (.map #[] 0) :=
        (((Kp.refl noB _).alloc _).heap (heap_alloc_new w2 (.map #[] 0)) (noB_not _))
      generalize hw4 : (w2.alloc (.map #[] 0)).alloc (.cells #[.slice A L.length cap, .map (some w2.heap.size)] 106) = w4 at *
      have hMW : MW w4 w2.heap.size (w2.heap.size + 1) A L.length cap L := {
        node := hnode
        ne := by omega
        lt := (Array.getElem?_eq_some_iff.1 hmap).1
        len := rfl
        small := hlen
        pts := fun i x hx => by
          have hc := Cells.kp hints hk4 fun _ _ _ => noB_not _
          obtain ⟨A', cap', e, _, hcs⟩ := cells_open hc
          simp only [Value.slice.injEq] at e
          obtain ⟨g, off, hA, _, hg, hcu⟩ := hcs i _ (icells_at L i x hx)
          refine ⟨g, off, e.1.trans hA, hcu, ?_⟩
          obtain ⟨A'', cap'', e2, _, hcs2⟩ := cells_open hints
          simp only [Value.slice.injEq] at e2
          obtain ⟨g2, off2, hA2, _, hg2, _⟩ := hcs2 i _ (icells_at L i x hx)
          have : g = g2 := by
            have h9 := (e.1.trans hA).symm.trans (e2.1.trans hA2)
            simp only [Option.some.injEq, Addr.mk.injEq] at h9
            exact h9.1
          omega }
      have hNT : NT w4 w2.heap.size b (.mk kind set mn mx kids) := by
        have h1 := (IsRe_lt hre).kp (hk.trans hk4) fun _ _ _ => noB_not _
        exact h1.ok fun k _ h => by have := hk.size; have := h.2; omega
      have hMI : MI w4 w4 w2.heap.size [] := ⟨Kp.refl _ _, ⟨#[], 0, hmap, rfl⟩, fun p h => by simp at h⟩
      refine ⟨(two_cells hnode).1, (of_any hMW hisp _ _ 0 (Nat.le_refl _) hok.1 hsm b 0 L.length w4 [] hNT (Nat.zero_le _) (Nat.le_refl _) hMI (fun k v hv => by simp [lookK] at hv)).mono ?_⟩
      rintro e w' ⟨bl, M', h1, h2, h3, _, h5⟩
      rw [seg_all rfl] at h2
      exact ⟨bl, h1, h2, (hk.trans hk4).later h5 fun i hi e => by have := hk.size; unfold onB at e; omega⟩
    have hmm := @run_makeMap Tryz.prog
    obtain ⟨N, hN⟩ : ∃ N, L.length = N := ⟨_, rfl⟩
    have HN := Lib.hid hN
    rw [hN] at hlen HMAIN
    have HOKK := Lib.hid hok
    clear hre hb hisp hL hN hok hsm
    go_enter Tryz.func15, Tryz.ntmps15
    go_wp2_with fail
    refine HOK.out.mono ?_
    rintro e w1 ⟨bl, rfl, hbl, hk1⟩
    obtain rfl : bl = true := hbl.2 HOKK.out
    have HK1 := Lib.hid hk1
    have HP1 := Lib.hid (HPT.out w1)
    clear hbl hk1 HOK HPT
    go_wp2_with fail
    refine HP1.out.mono ?_
    rintro e w2 ⟨u, rfl, hints, hk2⟩
    have hk := HK1.out.trans hk2
    have hi2 : Ints w2 (fun k => w.heap.size ≤ k) u L := hints.ok fun k _ h => Nat.le_trans HK1.out.size h
    obtain ⟨A, cap, rfl, hal, _⟩ := cells_open hints
    rw [HN.out] at hi2
    rw [HN.out]
    obtain ⟨hc0, hcall⟩ := HMAIN.out w2 A cap hk hi2
    have HC := Lib.hid hcall
    clear hcall hints hk2 hk hi2 HMAIN HP1 hal
    go_wp2_with (go_at_call 48; refine HC.out.mono ?_; rintro e w3 ⟨bl, rfl, hbl, hk3⟩)
    go_ret
    exact ⟨bl, rfl, hbl, hk3⟩

/-! ### the law -/
section
variable {eb es : Addr} {s : ByteArray} {w : World}

set_option maxRecDepth 100000 in
theorem light_any (hE : Env 406 eb es w) : Calls Tryz.prog 13 #[.string s] w fun e w' => ∃ r, Rdd s r ∧ Kp noB w w' ∧
    match r with
    | .er _ _ => e = .returned (.tuple #[.pointer none, .bool false])
    | .ok t _ => ∃ v, e = .returned (.tuple #[v, .bool (decide (rwt t ≤ 24))]) ∧ IsRe w' (fun k => w.heap.size ≤ k) v t ∧ Small t ∧ OkR t := by
  have H20 := Lib.hid (rread_any (s := s) hE)
  have n1 := nil_ne
  have n2 := err_ne
  clear hE
  go_enter Tryz.func13, Tryz.ntmps13
  go_wp2_with fail
  refine H20.out.mono ?_
  rintro e w1 ⟨r, hr, hk1, hm⟩
  have HRR := Lib.hid hr
  have HK1 := Lib.hid hk1
  clear hr hk1 H20
  cases r with
  | er c p =>
    obtain rfl : e = .returned (.tuple #[.pointer none, .iface 406 (.pointer (some (erA eb es c))), .int .i64 p]) := hm
    generalize erA eb es c = ea at *
    go_wp2_with fail
    go_ret2
    exact ⟨.er c p, HRR.out, HK1.out, rfl⟩
  | ok t p =>
    obtain ⟨v, rfl, hre, hsm⟩ := hm
    have hok : OkR t := by
      rcases HRR.out with ⟨_, h⟩ | ⟨_, r0, _, h⟩
      · cases h
      · cases r0 with
        | er c q => cases h
        | ok t' q =>
          rcases h.2 with ⟨_, h⟩ | ⟨_, h1, h⟩ | ⟨_, _, h⟩
          · cases h
          · cases h; exact h1
          · cases h
    have HW := Lib.hid (rweight_any _ t (Nat.le_refl _) 0 v _ w1 hre hok.1)
    have HRE := Lib.hid (And.intro hre (And.intro hsm hok))
    obtain ⟨x, rfl⟩ := IsRe_ptr hre
    clear hre hsm hok
    generalize hn : rwt t = n at *
    have HN := Lib.hid hn
    clear hn
    go_wp2_with fail
    refine HW.out.mono ?_
    rintro e w2 ⟨rfl, q, rfl⟩
    go_wp2_with fail
    go_ret2
    refine ⟨.ok t p, HRR.out, HK1.out.drewN _, _, ?_, HRE.out.1.kp ((Kp.refl noB w1).drewN q) fun _ _ _ => noB_not _, HRE.out.2⟩
    rw [HN.out]
    rfl

set_option maxRecDepth 100000 in
set_option maxHeartbeats 2000000 in
theorem patMeans_any {t : ByteArray} (hE : Env 406 eb es w) (hmax : s.size ≤ 9223372036854775807) (hmax2 : t.size ≤ 9223372036854775807) :
    Calls Tryz.prog 3 #[.string s, .string t] w fun e w' => e = .returned (.bool true) ∧ Kp noB w w' := by
  by_cases hs : 2000 < s.size
  · have b1 : decide ((s.size : Int) > 2000) = true := decide_eq_true (by omega)
    have b2 : decide ((2000 : Int) < s.size) = true := decide_eq_true (by omega)
    have b3 : (2000 : Int) < s.size := by omega
    clear hE hs
    go_enter Tryz.func3, Tryz.ntmps3
    go_wp2_with fail
    go_ret
    exact ⟨rfl, Kp.refl _ _⟩
  have b1 : decide ((s.size : Int) > 2000) = false := decide_eq_false (by omega)
  have b2 : decide ((2000 : Int) < s.size) = false := decide_eq_false (by omega)
  have b3 : ¬ (2000 : Int) < s.size := by omega
  by_cases ht : 40 < t.size
  · have c1 : decide ((t.size : Int) > 40) = true := decide_eq_true (by omega)
    have c2 : decide ((40 : Int) < t.size) = true := decide_eq_true (by omega)
    have c3 : (40 : Int) < t.size := by omega
    clear hE hs ht
    go_enter Tryz.func3, Tryz.ntmps3
    go_wp2_with fail
    go_ret
    exact ⟨rfl, Kp.refl _ _⟩
  have c1 : decide ((t.size : Int) > 40) = false := decide_eq_false (by omega)
  have c2 : decide ((40 : Int) < t.size) = false := decide_eq_false (by omega)
  have c3 : ¬ (40 : Int) < t.size := by omega
  have HT : Hid (t.size ≤ 40) := Lib.hid (by omega)
  have HL := Lib.hid (light_any (s := s) hE)
  have HRD : Hid (∀ w1, Kp noB w w1 → Calls Tryz.prog 14 #[.string s] w1 fun e w' => ∃ r, Rdd s r ∧ RdE 406 eb es w1 r e w') := Lib.hid fun w1 hk => read_any (s := s) (hE.kp hk (fun k _ => noB_not _))
  have n1 := nil_eq
  clear hE hs ht
  go_enter Tryz.func3, Tryz.ntmps3
  go_wp2_with fail
  refine HL.out.mono ?_
  rintro e w1 ⟨r, hr, hk1, hm⟩
  have HRR := Lib.hid hr
  have HK1 := Lib.hid hk1
  have H14 := Lib.hid (HRD.out w1 hk1)
  clear hr hk1 HL HRD
  cases r with
  | er c p =>
    obtain rfl : e = .returned (.tuple #[.pointer none, .bool false]) := hm
    go_wp2_with fail
    go_ret
    exact ⟨rfl, HK1.out⟩
  | ok p q =>
    obtain ⟨v, rfl, hre, hsm, hok⟩ := hm
    by_cases hw : rwt p ≤ 24
    · have hwt : wt p ≤ 24 := by
        have := rwt_facts _ p (Nat.le_refl _) 0 hok.1
        omega
      have d0 : decide (rwt p ≤ 24) = true := decide_eq_true hw
      have HRE := Lib.hid (And.intro hre (And.intro hsm (And.intro hok hwt)))
      rw [d0]
      clear hre hsm hok hw hwt d0
      go_wp2_with fail
      refine H14.out.mono ?_
      rintro e w2 ⟨r2, hr2, hk2, hm2⟩
      have e2 := rdd_unique hr2 HRR.out
      subst e2
      obtain ⟨v2, rfl, hre2, hsm2⟩ := hm2
      have HK2 := Lib.hid (HK1.out.trans hk2)
      have H15 := Lib.hid (matches_any HRE.out.2.2.1 HRE.out.2.1 t HT.out hre2)
      have H16 : Hid (∀ w3, Kp noB w2 w3 → Calls Tryz.prog 16 #[v, .string t] w3 fun e w' => e = .returned (.bool (MR (plR p) (ptsOf t))) ∧ Kp noB w3 w') := Lib.hid fun w3 hk3 =>
        rmatch_any HRE.out.2.2.1.1 HRE.out.2.2.2 HRE.out.2.1 t HT.out ((HRE.out.1.kp hk2 fun _ _ _ => noB_not _).kp hk3 fun _ _ _ => noB_not _)
      have HMR := Lib.hid (ref_means HRE.out.2.2.1.1 (ptsOf t))
      clear hr2 hk2 hre2 hsm2 H14
      go_wp2_with fail
      refine H15.out.mono ?_
      rintro e w3 ⟨bl, rfl, hbl, hk3⟩
      have H16' := Lib.hid (H16.out w3 hk3)
      have hbb : MR (plR p) (ptsOf t) = bl := by
        cases bl with
        | true => exact HMR.out.2 (hbl.1 rfl)
        | false =>
          cases h : MR (plR p) (ptsOf t) with
          | false => rfl
          | true => have := hbl.2 (HMR.out.1 h); cases this
      have HK3 := Lib.hid (HK2.out.trans hk3)
      rw [hbb] at H16'
      clear hbb hbl hk3 H15 H16
      go_wp2_with fail
      refine H16'.out.mono ?_
      rintro e w4 ⟨rfl, hk4⟩
      go_wp2_with fail
      go_ret
      exact ⟨by simp, HK3.out.trans hk4⟩
    · have d0 : decide (rwt p ≤ 24) = false := decide_eq_false hw
      rw [d0]
      clear hre hsm hok hw d0
      go_wp2_with fail
      go_ret
      exact ⟨rfl, HK1.out⟩
end
end Go.Proofs.YtoijabgcgdgacaaGreatDoor
