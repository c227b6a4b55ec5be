/-
  WALKS, ma: the reference: nothing, the empty text, and the tests on them.
  WALKS, mb: the reference: two patterns behind one another.
  WALKS, mc: the reference: a pattern several times; does it take the empty text.
  WALKS, md: the reference: does a pattern take the empty text.
-/
import Derived.Test.YtoijabgcgdgacaaGreatDoorRG
import Derived.Test.YtoijabgcgdgacaaGreatDoorPA
namespace Go.Proofs.YtoijabgcgdgacaaGreatDoor
open Go.RowKit Go.Proofs.Gram

def anyB (_ : Nat) : Prop := True
/-- Where it may lie, or new. -/
def orF (ok : Nat → Prop) (w : World) (k : Nat) : Prop := ok k ∨ w.heap.size ≤ k
theorem orF_le {ok : Nat → Prop} {w w' : World} (h : w.heap.size ≤ w'.heap.size) {k : Nat} (hk : orF (orF ok w) w' k) : orF ok w k := hk.elim id fun h' => .inr (Nat.le_trans h h')

theorem fresh_or {w w' : World} {ok : Nat → Prop} {v : Value} {t : Rx} (h : IsRe w' (fun k => w.heap.size ≤ k) v t) : IsRe w' (orF ok w) v t := h.ok fun _ _ h => .inr h

/-- A list of patterns in memory. -/
def Pats (w : World) (ok : Nat → Prop) (v : Value) (l : List Rx) : Prop :=
  ∃ ps, Cells w ok v l.length ps ∧ ps.length = l.length ∧ ∀ (i : Nat) (p : Value) (t : Rx), ps[i]? = some p → l[i]? = some t → IsRe w ok p t
theorem Pats.kp {w w' : World} {ok : Nat → Prop} {v : Value} {l : List Rx} (h : Pats w ok v l) (hk : Kp noB w w') : Pats w' ok v l := by
  obtain ⟨ps, h1, h2, h3⟩ := h
  exact ⟨ps, h1.kp hk fun _ _ _ => noB_not _, h2, fun i p t hp ht => (h3 i p t hp ht).kp hk fun _ _ _ => noB_not _⟩
theorem Pats.ok {w : World} {ok ok' : Nat → Prop} {v : Value} {l : List Rx} (h : Pats w ok v l) (ho : ∀ k, ok k → ok' k) : Pats w ok' v l := by
  obtain ⟨ps, h1, h2, h3⟩ := h
  exact ⟨ps, h1.ok fun k _ h => ho k h, h2, fun i p t hp ht => (h3 i p t hp ht).ok fun k _ h => ho k h⟩
theorem pats_nil (w : World) (ok : Nat → Prop) : Pats w ok (.slice none 0 0) [] := ⟨[], .inl ⟨rfl, rfl, rfl⟩, rfl, fun i p t h => by simp at h⟩
theorem isRe_pats (k mn mx : Int) {w : World} {ok : Nat → Prop} {v : Value} {l : List Rx} (h : Pats w ok v l) :
    IsRe (w.alloc (.cells #[.int .i64 k, .slice none 0 0, .int .i64 mn, .int .i64 mx, v] 34)) (orF ok w) (.pointer (some ⟨w.heap.size, 0, none⟩)) (.mk k [] mn mx l) := by
  have hk : Kp noB w (w.alloc (.cells #[.int .i64 k, .slice none 0 0, .int .i64 mn, .int .i64 mx, v] 34)) := (Kp.refl _ _).alloc _
  obtain ⟨ps, h1, h2, h3⟩ := (h.kp hk).ok (ok' := orF ok w) fun _ h => .inl h
  exact .mk w.heap.size k mn mx [] l (.slice none 0 0) v ps (heap_alloc_new w _) (.inr (Nat.le_refl _)) (.inl ⟨rfl, rfl, rfl⟩) h1 h2 h3
theorem pats_one {w : World} {ok : Nat → Prop} {p : Value} {t : Rx} (h : IsRe w ok p t) : Pats (w.alloc (.cells #[p] 22)) (orF ok w) (.slice (some ⟨w.heap.size, 0, none⟩) 1 1) [t] := by
  have hk : Kp noB w (w.alloc (.cells #[p] 22)) := (Kp.refl _ _).alloc _
  have hrow := heap_alloc_new w (.cells #[p] 22)
  refine ⟨[p], .inr ⟨w.heap.size, 0, 1, rfl, Nat.le_refl _, by simp [maxLen], .inr (Nat.le_refl _), (Array.getElem?_eq_some_iff.1 hrow).1, ?_⟩, rfl, ?_⟩
  · intro i x hx
    unfold World.cell?
    simp only [hrow, Nat.zero_add]
    rw [← hx, ← Array.getElem?_toList]
    rfl
  · intro i q t' hq ht
    cases i with
    | zero => simp at hq ht; subst hq; subst ht; exact (h.kp hk fun _ _ _ => noB_not _).ok fun _ _ h => .inl h
    | succ i => simp at hq

set_option maxRecDepth 100000 in
theorem nothing_any (w : World) : Calls Tryz.prog 106 #[] w fun e w' => ∃ u, e = .returned u ∧ IsRe w' (fun k => w.heap.size ≤ k) u rxNo ∧ Kp noB w w' := by
  have HR := Lib.hid (isRe_kids 1 0 0 (kids_nil w w.heap.size) (Nat.le_refl _))
  have HK : Hid (Kp noB w (w.alloc (.cells #[.int .i64 1, .slice none 0 0, .int .i64 0, .int .i64 0, .slice none 0 0] 34))) := Lib.hid ((Kp.refl _ _).alloc _)
  go_enter Tryz.func106, Tryz.ntmps106
  go_wp2_with fail
  go_ret
  exact ⟨_, rfl, HR.out, HK.out⟩

set_option maxRecDepth 100000 in
theorem empty_any (w : World) : Calls Tryz.prog 101 #[] w fun e w' => ∃ u, e = .returned u ∧ IsRe w' (fun k => w.heap.size ≤ k) u rxE ∧ Kp noB w w' := by
  have HR := Lib.hid (isRe_kids 2 0 0 (kids_nil w w.heap.size) (Nat.le_refl _))
  have HK : Hid (Kp noB w (w.alloc (.cells #[.int .i64 2, .slice none 0 0, .int .i64 0, .int .i64 0, .slice none 0 0] 34))) := Lib.hid ((Kp.refl _ _).alloc _)
  go_enter Tryz.func101, Tryz.ntmps101
  go_wp2_with fail
  go_ret
  exact ⟨_, rfl, HR.out, HK.out⟩

set_option maxRecDepth 100000 in
theorem isNo_any {okk : Nat → Prop} {v : Value} {t : Rx} {w : World} (hre : IsRe w okk v t) (ht : t ≠ .nil) :
    Calls Tryz.prog 157 #[v] w fun e w' => e = .returned (.bool (isNo t)) ∧ w' = w := by
  cases t with
  | nil => exact absurd rfl ht
  | mk kind set mn mx kids =>
    obtain ⟨b, sv, kv, ps, rfl, hb, hok, hrs, hkc, hpl, hkid⟩ := hre.inv
    have hk0 : w.cell? ⟨b, 0, none⟩ = some (.int .i64 kind) := by simp [World.cell?, hb]
    have hk1 : w.cell? ⟨b, 1, none⟩ = some sv := by simp [World.cell?, hb]
    obtain ⟨A2, cap2, rfl, _⟩ := rngs_open hrs
    have R : Hid (isNo (.mk kind set mn mx kids) = (kind == 1 && decide (set.length = 0))) := Lib.hid (by cases set <;> simp [isNo])
    rw [R.out]
    by_cases h1 : kind = 1
    · have b1 : (kind == (1 : Int)) = true := by simp [h1]
      by_cases h2 : set.length = 0
      · have b2 : ((set.length : Int) == (0 : Int)) = true := beq_iff_eq.2 (by omega)
        have b3 : decide (set.length = 0) = true := decide_eq_true h2
        rw [b1, b3]
        clear R h1 h2 hkid hrs hkc hre hb
        go_enter Tryz.func157, Tryz.ntmps157
        go_wp2_with fail
        go_ret
        exact ⟨rfl, rfl⟩
      · have b2 : ((set.length : Int) == (0 : Int)) = false := beq_eq_false_iff_ne.2 (by omega)
        have b3 : decide (set.length = 0) = false := decide_eq_false h2
        rw [b1, b3]
        clear R h1 h2 hkid hrs hkc hre hb
        go_enter Tryz.func157, Tryz.ntmps157
        go_wp2_with fail
        go_ret
        exact ⟨rfl, rfl⟩
    · have b1 : (kind == (1 : Int)) = false := by simp [h1]
      rw [b1]
      clear R h1 hkid hrs hkc hre hb
      go_enter Tryz.func157, Tryz.ntmps157
      go_wp2_with fail
      go_ret
      exact ⟨rfl, rfl⟩

set_option maxRecDepth 100000 in
theorem isE_any {okk : Nat → Prop} {v : Value} {t : Rx} {w : World} (hre : IsRe w okk v t) (ht : t ≠ .nil) :
    Calls Tryz.prog 158 #[v] w fun e w' => e = .returned (.bool (isE t)) ∧ w' = w := by
  cases t with
  | nil => exact absurd rfl ht
  | mk kind set mn mx kids =>
    obtain ⟨b, sv, kv, ps, rfl, hb, hok, hrs, hkc, hpl, hkid⟩ := hre.inv
    have hk0 : w.cell? ⟨b, 0, none⟩ = some (.int .i64 kind) := by simp [World.cell?, hb]
    have hk4 : w.cell? ⟨b, 4, none⟩ = some kv := by simp [World.cell?, hb]
    obtain ⟨A, cap, rfl, hkl, hcs⟩ := cells_open hkc
    have R : Hid (isE (.mk kind set mn mx kids) = (kind == 2 && decide (kids.length = 0))) := Lib.hid (by cases kids <;> simp [isE])
    rw [R.out]
    by_cases h1 : kind = 2
    · have b1 : (kind == (2 : Int)) = true := by simp [h1]
      by_cases h2 : kids.length = 0
      · have b2 : ((kids.length : Int) == (0 : Int)) = true := beq_iff_eq.2 (by omega)
        have b3 : decide (kids.length = 0) = true := decide_eq_true h2
        rw [b1, b3]
        clear R h1 h2 hkid hrs hkc hre hb hcs hpl
        go_enter Tryz.func158, Tryz.ntmps158
        go_wp2_with fail
        go_ret
        exact ⟨rfl, rfl⟩
      · have b2 : ((kids.length : Int) == (0 : Int)) = false := beq_eq_false_iff_ne.2 (by omega)
        have b3 : decide (kids.length = 0) = false := decide_eq_false h2
        rw [b1, b3]
        clear R h1 h2 hkid hrs hkc hre hb hcs hpl
        go_enter Tryz.func158, Tryz.ntmps158
        go_wp2_with fail
        go_ret
        exact ⟨rfl, rfl⟩
    · have b1 : (kind == (2 : Int)) = false := by simp [h1]
      rw [b1]
      clear R h1 hkid hrs hkc hre hb hcs hpl
      go_enter Tryz.func158, Tryz.ntmps158
      go_wp2_with fail
      go_ret
      exact ⟨rfl, rfl⟩
end Go.Proofs.YtoijabgcgdgacaaGreatDoor

namespace Go.Proofs.YtoijabgcgdgacaaGreatDoor
open Go.RowKit Go.Proofs.Gram

/-- The world behind a node of two kids. -/
def twoW (k : Int) (u v : Value) (w : World) : World := (w.alloc (.cells #[u, v] 22)).alloc (.cells #[.int .i64 k, .slice none 0 0, .int .i64 0, .int .i64 0, .slice (some ⟨w.heap.size, 0, none⟩) 2 2] 34)
theorem isRe_node2 (k : Int) {w : World} {u v : Value} {a b : Rx} {ok : Nat → Prop} (ha : IsRe w ok u a) (hb : IsRe w ok v b) :
    IsRe (twoW k u v w) (orF ok w) (.pointer (some ⟨w.heap.size + 1, 0, none⟩)) (.mk k [] 0 0 [a, b]) ∧ Kp noB w (twoW k u v w) := by
  have hk : Kp noB w (twoW k u v w) := ((Kp.refl _ _).alloc _).alloc _
  have hk1 : Kp noB (w.alloc (.cells #[u, v] 22)) (twoW k u v w) := (Kp.refl _ _).alloc _
  have hs : (w.alloc (.cells #[u, v] 22)).heap.size = w.heap.size + 1 := by simp
  have hrow : (twoW k u v w).heap[w.heap.size]? = some (.cells #[u, v] 22 (0, 0)) := hk1.heap (heap_alloc_new w _) (noB_not _)
  have hnode : (twoW k u v w).heap[w.heap.size + 1]? = some (.cells #[.int .i64 k, .slice none 0 0, .int .i64 0, .int .i64 0, .slice (some ⟨w.heap.size, 0, none⟩) 2 2] 34 (0, 0)) := by
    rw [← hs]; exact heap_alloc_new _ _
  have ha' : IsRe (twoW k u v w) (orF ok w) u a := (ha.kp hk fun _ _ _ => noB_not _).ok fun _ _ h => .inl h
  have hb' : IsRe (twoW k u v w) (orF ok w) v b := (hb.kp hk fun _ _ _ => noB_not _).ok fun _ _ h => .inl h
  refine ⟨.mk (w.heap.size + 1) k 0 0 [] [a, b] (.slice none 0 0) _ [u, v] hnode (.inr (Nat.le_succ _)) (.inl ⟨rfl, rfl, rfl⟩) (.inr ⟨w.heap.size, 0, 2, rfl, Nat.le_refl _, by simp [maxLen], .inr (Nat.le_refl _), (Array.getElem?_eq_some_iff.1 hrow).1, ?_⟩) rfl ?_, hk⟩
  · intro i x hx
    unfold World.cell?
    simp only [hrow, Nat.zero_add]
    rw [← hx, ← Array.getElem?_toList]
    rfl
  · intro i p t hp ht
    cases i with
    | zero => simp at hp ht; subst hp; subst ht; exact ha'
    | succ i => cases i with
      | zero => simp at hp ht; subst hp; subst ht; exact hb'
      | succ i => simp at hp

theorem isRe_node2' (k : Int) {w0 w : World} {u v : Value} {a b : Rx} {ok : Nat → Prop} (hk : Kp noB w0 w) (ha : IsRe w0 ok u a) (hb : IsRe w (orF ok w0) v b) :
    IsRe (twoW k u v w) (orF ok w0) (.pointer (some ⟨w.heap.size + 1, 0, none⟩)) (.mk k [] 0 0 [a, b]) ∧ Kp noB w (twoW k u v w) := by
  have h := isRe_node2 k ((ha.kp hk fun _ _ _ => noB_not _).ok (ok' := orF ok w0) fun _ _ h => .inl h) hb
  exact ⟨h.1.ok fun _ _ h => orF_le hk.size h, h.2⟩

def CatC (a : Rx) : Prop := ∀ (b : Rx) (v1 v2 : Value) (ok : Nat → Prop) (w : World), IsRe w ok v1 a → IsRe w ok v2 b → b ≠ .nil →
  Calls Tryz.prog 102 #[v1, v2] w fun e w' => ∃ u, e = .returned u ∧ IsRe w' (orF ok w) u (catR b a) ∧ Kp noB w w'

set_option maxRecDepth 100000 in
set_option maxHeartbeats 2000000 in
theorem cat_any : ∀ (n : Nat) (a : Rx), SizeOf.sizeOf a ≤ n → Gd a → CatC a := by
  intro n
  induction n with
  | zero => intro a h; cases a <;> simp at h
  | succ n ih =>
    intro a hsz hga b v1 v2 ok w hra hrb hbn
    have han : a ≠ .nil := fun h => by rw [h] at hga; simp [Gd] at hga
    have HA := Lib.hid (isNo_any hra han)
    have HB := Lib.hid (isNo_any hrb hbn)
    have HEA := Lib.hid (isE_any hra han)
    have HEB := Lib.hid (isE_any hrb hbn)
    have HNO := Lib.hid (nothing_any w)
    have HRA := Lib.hid hra
    have HRB := Lib.hid hrb
    have HGA := Lib.hid hga
    have HBN := Lib.hid hbn
    clear hrb hbn
    cases ha : isNo a with
    | true =>
      rw [ha] at HA
      have R := Lib.hid (cat_no_left (b := b) ha)
      rw [R.out]
      clear hra hga han ha ih hsz R
      go_enter Tryz.func102, Tryz.ntmps102
      go_wp2_with fail
      refine HA.out.mono ?_
      rintro e w' ⟨rfl, rfl⟩
      go_wp2_with fail
      refine HB.out.mono ?_
      rintro e w' ⟨rfl, rfl⟩
      go_wp2_with fail
      refine HNO.out.mono ?_
      rintro e w' ⟨u, rfl, h1, h2⟩
      have H := Lib.hid (And.intro (fresh_or (ok := ok) h1) h2)
      clear h1 h2
      go_wp2_with fail
      go_ret
      exact ⟨_, rfl, H.out.1, H.out.2⟩
    | false =>
    cases hb : isNo b with
    | true =>
      rw [ha] at HA
      rw [hb] at HB
      have R := Lib.hid (cat_no_right hga hb)
      rw [R.out]
      clear hra hga han ha ih hsz R hb
      go_enter Tryz.func102, Tryz.ntmps102
      go_wp2_with fail
      refine HA.out.mono ?_
      rintro e w' ⟨rfl, rfl⟩
      go_wp2_with fail
      refine HB.out.mono ?_
      rintro e w' ⟨rfl, rfl⟩
      go_wp2_with fail
      refine HNO.out.mono ?_
      rintro e w' ⟨u, rfl, h1, h2⟩
      have H := Lib.hid (And.intro (fresh_or (ok := ok) h1) h2)
      clear h1 h2
      go_wp2_with fail
      go_ret
      exact ⟨_, rfl, H.out.1, H.out.2⟩
    | false =>
    rw [ha] at HA
    rw [hb] at HB
    cases ea : isE a with
    | true =>
      rw [ea] at HEA
      have R := Lib.hid (cat_e_left ea hb)
      rw [R.out]
      have H : Hid (IsRe w (orF ok w) v2 b) := Lib.hid (HRB.out.ok fun _ _ h => .inl h)
      clear hra hga han ha ih hsz R hb ea
      go_enter Tryz.func102, Tryz.ntmps102
      go_wp2_with fail
      refine HA.out.mono ?_
      rintro e w' ⟨rfl, rfl⟩
      go_wp2_with fail
      refine HB.out.mono ?_
      rintro e w' ⟨rfl, rfl⟩
      go_wp2_with fail
      refine HEA.out.mono ?_
      rintro e w' ⟨rfl, rfl⟩
      go_wp2_with fail
      go_ret
      exact ⟨_, rfl, H.out, Kp.refl _ _⟩
    | false =>
    rw [ea] at HEA
    cases eb : isE b with
    | true =>
      rw [eb] at HEB
      have R := Lib.hid (cat_e_right hga ha ea eb)
      rw [R.out]
      have H : Hid (IsRe w (orF ok w) v1 a) := Lib.hid (HRA.out.ok fun _ _ h => .inl h)
      clear hra hga han ha ih hsz R hb ea eb
      go_enter Tryz.func102, Tryz.ntmps102
      go_wp2_with fail
      refine HA.out.mono ?_
      rintro e w' ⟨rfl, rfl⟩
      go_wp2_with fail
      refine HB.out.mono ?_
      rintro e w' ⟨rfl, rfl⟩
      go_wp2_with fail
      refine HEA.out.mono ?_
      rintro e w' ⟨rfl, rfl⟩
      go_wp2_with fail
      refine HEB.out.mono ?_
      rintro e w' ⟨rfl, rfl⟩
      go_wp2_with fail
      go_ret
      exact ⟨_, rfl, H.out, Kp.refl _ _⟩
    | false =>
    rw [eb] at HEB
    cases a with
    | nil => exact absurd rfl han
    | mk kind set mn mx kids =>
      obtain ⟨p, sv, kv, ps, rfl, hp, hok, hrs, hkc, hpl, hkid⟩ := hra.inv
      have c0 : w.cell? ⟨p, 0, none⟩ = some (.int .i64 kind) := by simp [World.cell?, hp]
      have c4 : w.cell? ⟨p, 4, none⟩ = some kv := by simp [World.cell?, hp]
      by_cases hk : kind = 2
      · subst hk
        rcases hga.2.2.1 rfl with rfl | ⟨h, t, rfl, e1, e2, e3, e4⟩
        · simp [isE] at ea
        · obtain ⟨A, cap, rfl, hkl, hcs⟩ := cells_open hkc
          obtain ⟨u0, u1, rfl⟩ : ∃ u0 u1, ps = [u0, u1] := by
            match ps, hpl with
            | [x, y], _ => exact ⟨x, y, rfl⟩
          obtain ⟨g, off, hA, _, hgl, q0⟩ := hcs 0 u0 rfl
          obtain ⟨g', off', hA', _, _, q1⟩ := hcs 1 u1 rfl
          rw [hA] at hA'
          cases hA'
          subst hA
          simp only [Rx.mk.sizeOf_spec, List.cons.sizeOf_spec, List.nil.sizeOf_spec] at hsz
          have HR := Lib.hid (ih t (by omega) hga.2.1.2.1 b u1 v2 ok w (hkid 1 u1 t rfl rfl) HRB.out HBN.out)
          have H0 := Lib.hid (hkid 0 u0 h rfl rfl)
          have R := Lib.hid (cat_row (h := h) (t := t) (s := set) (mn := mn) (mx := mx) hb eb)
          rw [R.out]
          simp only [List.length_cons, List.length_nil] at *
          clear hra hga han ha ih hsz R hb ea eb hkid hrs hkc hpl hcs e1 e2 e3 e4 hp hok
          simp only [Nat.add_zero] at q0
          go_enter Tryz.func102, Tryz.ntmps102
          go_wp2_with fail
          refine HA.out.mono ?_
          rintro e w' ⟨rfl, rfl⟩
          go_wp2_with fail
          refine HB.out.mono ?_
          rintro e w' ⟨rfl, rfl⟩
          go_wp2_with fail
          refine HEA.out.mono ?_
          rintro e w' ⟨rfl, rfl⟩
          go_wp2_with fail
          refine HEB.out.mono ?_
          rintro e w' ⟨rfl, rfl⟩
          go_wp2_with fail
          refine HR.out.mono ?_
          rintro e w1 ⟨u, rfl, h1, h2⟩
          have c4' := h2.cell c4 (noB_not _)
          have q0' := h2.cell q0 (noB_not _)
          have H := Lib.hid (isRe_node2' 2 h2 H0.out h1)
          have HK := Lib.hid h2
          obtain ⟨x0, rfl⟩ := IsRe_ptr H0.out
          obtain ⟨xu, rfl⟩ := IsRe_ptr h1
          unfold twoW at H
          clear h1 h2
          go_wp2_with fail
          go_ret
          exact ⟨_, rfl, H.out.1, HK.out.trans H.out.2⟩
      · have b1 : (kind == (2 : Int)) = false := by simp [hk]
        have R := Lib.hid (cat_two hga ha hb eb (show (Rx.mk kind set mn mx kids).kd ≠ 2 from hk))
        rw [R.out]
        have H := Lib.hid (isRe_node2 2 HRA.out HRB.out)
        obtain ⟨xb, rfl⟩ := IsRe_ptr HRB.out
        unfold twoW at H
        clear hra hga han ha ih hsz R hb ea eb hkid hrs hkc hpl hk hp hok
        go_enter Tryz.func102, Tryz.ntmps102
        go_wp2_with fail
        refine HA.out.mono ?_
        rintro e w' ⟨rfl, rfl⟩
        go_wp2_with fail
        refine HB.out.mono ?_
        rintro e w' ⟨rfl, rfl⟩
        go_wp2_with fail
        refine HEA.out.mono ?_
        rintro e w' ⟨rfl, rfl⟩
        go_wp2_with fail
        refine HEB.out.mono ?_
        rintro e w' ⟨rfl, rfl⟩
        go_wp2_with fail
        go_ret
        exact ⟨_, rfl, H.out.1, H.out.2⟩
end Go.Proofs.YtoijabgcgdgacaaGreatDoor

namespace Go.Proofs.YtoijabgcgdgacaaGreatDoor
open Go.RowKit Go.Proofs.Gram

theorem isRe_node1 (k mn mx : Int) {w : World} {u : Value} {a : Rx} {ok : Nat → Prop} (ha : IsRe w ok u a) :
    IsRe ((w.alloc (.cells #[u] 22)).alloc (.cells #[.int .i64 k, .slice none 0 0, .int .i64 mn, .int .i64 mx, .slice (some ⟨w.heap.size, 0, none⟩) 1 1] 34)) (orF ok w) (.pointer (some ⟨w.heap.size + 1, 0, none⟩)) (.mk k [] mn mx [a]) ∧
      Kp noB w ((w.alloc (.cells #[u] 22)).alloc (.cells #[.int .i64 k, .slice none 0 0, .int .i64 mn, .int .i64 mx, .slice (some ⟨w.heap.size, 0, none⟩) 1 1] 34)) := by
  have h := isRe_pats k mn mx (pats_one ha)
  have hs : (w.alloc (.cells #[u] 22)).heap.size = w.heap.size + 1 := by simp
  rw [hs] at h
  exact ⟨h.ok fun _ _ h => orF_le (by rw [hs]; omega) h, ((Kp.refl _ _).alloc _).alloc _⟩

set_option maxRecDepth 100000 in
set_option maxHeartbeats 1000000 in
theorem rep_any {v : Value} {t : Rx} {okk : Nat → Prop} {w : World} (lo hi : Int) (hre : IsRe w okk v t) (ht : t ≠ .nil) :
    Calls Tryz.prog 104 #[v, .int .i64 lo, .int .i64 hi] w fun e w' => ∃ u, e = .returned u ∧ IsRe w' (orF okk w) u (repR t lo hi) ∧ Kp noB w w' := by
  have HN := Lib.hid (isNo_any hre ht)
  have HE := Lib.hid (isE_any hre ht)
  have HNO := Lib.hid (nothing_any w)
  have HEM := Lib.hid (empty_any w)
  have HRE := Lib.hid hre
  obtain ⟨x, rfl⟩ := IsRe_ptr hre
  have H1 := Lib.hid (isRe_node1 6 lo hi hre)
  clear hre ht
  by_cases h0 : hi = 0
  · have R : Hid (repR t lo hi = rxE) := Lib.hid (by unfold repR; rw [if_pos h0])
    have b0 : (hi == (0 : Int)) = true := by simp [h0]
    rw [R.out]
    clear h0 R H1
    go_enter Tryz.func104, Tryz.ntmps104
    go_wp2_with fail
    refine HEM.out.mono ?_
    rintro e w' ⟨u, rfl, h1, h2⟩
    have H := Lib.hid (And.intro (fresh_or (ok := okk) h1) h2)
    clear h1 h2
    go_wp2_with fail
    go_ret
    exact ⟨_, rfl, H.out.1, H.out.2⟩
  have b0 : (hi == (0 : Int)) = false := by simp [h0]
  cases hn : isNo t with
  | true =>
    rw [hn] at HN
    by_cases hl : 0 < lo
    · have R : Hid (repR t lo hi = rxNo) := Lib.hid (by unfold repR; rw [if_neg h0, if_pos (by simp [hn, hl])])
      have b1 : decide ((0 : Int) < lo) = true := decide_eq_true hl
      have b2 : decide (lo > (0 : Int)) = true := decide_eq_true hl
      rw [R.out]
      clear h0 R H1 hn hl
      go_enter Tryz.func104, Tryz.ntmps104
      go_wp2_with fail
      refine HN.out.mono ?_
      rintro e w' ⟨rfl, rfl⟩
      go_wp2_with fail
      refine HNO.out.mono ?_
      rintro e w' ⟨u, rfl, h1, h2⟩
      have H := Lib.hid (And.intro (fresh_or (ok := okk) h1) h2)
      clear h1 h2
      go_wp2_with fail
      go_ret
      exact ⟨_, rfl, H.out.1, H.out.2⟩
    · have R : Hid (repR t lo hi = rxE) := Lib.hid (by unfold repR; rw [if_neg h0, if_neg (by simp [hl]), if_pos (by simp [hn])])
      have b1 : decide ((0 : Int) < lo) = false := decide_eq_false hl
      have b2 : decide (lo > (0 : Int)) = false := decide_eq_false hl
      rw [R.out]
      clear h0 R H1 hn hl
      go_enter Tryz.func104, Tryz.ntmps104
      go_wp2_with fail
      refine HN.out.mono ?_
      rintro e w' ⟨rfl, rfl⟩
      go_wp2_with fail
      refine HE.out.mono ?_
      rintro e w' ⟨rfl, rfl⟩
      go_wp2_with fail
      refine HEM.out.mono ?_
      rintro e w' ⟨u, rfl, h1, h2⟩
      have H := Lib.hid (And.intro (fresh_or (ok := okk) h1) h2)
      clear h1 h2
      go_wp2_with fail
      go_ret
      exact ⟨_, rfl, H.out.1, H.out.2⟩
  | false =>
    rw [hn] at HN
    cases he : isE t with
    | true =>
      rw [he] at HE
      have R : Hid (repR t lo hi = rxE) := Lib.hid (by unfold repR; rw [if_neg h0, if_neg (by simp [hn]), if_pos (by simp [he])])
      rw [R.out]
      clear h0 R H1 hn he
      go_enter Tryz.func104, Tryz.ntmps104
      go_wp2_with fail
      refine HN.out.mono ?_
      rintro e w' ⟨rfl, rfl⟩
      go_wp2_with fail
      refine HE.out.mono ?_
      rintro e w' ⟨rfl, rfl⟩
      go_wp2_with fail
      refine HEM.out.mono ?_
      rintro e w' ⟨u, rfl, h1, h2⟩
      have H := Lib.hid (And.intro (fresh_or (ok := okk) h1) h2)
      clear h1 h2
      go_wp2_with fail
      go_ret
      exact ⟨_, rfl, H.out.1, H.out.2⟩
    | false =>
      rw [he] at HE
      have R : Hid (repR t lo hi = .mk 6 [] lo hi [t]) := Lib.hid (by unfold repR; rw [if_neg h0, if_neg (by simp [hn]), if_neg (by simp [hn, he])])
      rw [R.out]
      clear h0 R hn he
      go_enter Tryz.func104, Tryz.ntmps104
      go_wp2_with fail
      refine HN.out.mono ?_
      rintro e w' ⟨rfl, rfl⟩
      go_wp2_with fail
      refine HE.out.mono ?_
      rintro e w' ⟨rfl, rfl⟩
      go_wp2_with fail
      go_ret
      exact ⟨_, rfl, H1.out.1, H1.out.2⟩
end Go.Proofs.YtoijabgcgdgacaaGreatDoor

namespace Go.Proofs.YtoijabgcgdgacaaGreatDoor
open Go.RowKit Go.Proofs.Gram

theorem tEo_any : ∀ l : List Rx, tEo l = l.any tE
  | [] => rfl
  | x :: l => by rw [tEo, tEo_any l]; rfl
theorem tEa_all : ∀ l : List Rx, tEa l = l.all tE
  | [] => rfl
  | x :: l => by rw [tEa, tEa_all l]; rfl

def TEC (t : Rx) : Prop := ∀ (v : Value) (okk : Nat → Prop) (w : World), IsRe w okk v t → Calls Tryz.prog 52 #[v] w fun e w' => e = .returned (.bool (tE t)) ∧ w' = w

set_option maxRecDepth 100000 in
set_option maxHeartbeats 2000000 in
theorem tE_any : ∀ (n : Nat) (t : Rx), SizeOf.sizeOf t ≤ n → Gd t → TEC t := by
  intro n
  induction n with
  | zero => intro t h; cases t <;> simp at h
  | succ n ih =>
    intro t hsz hg v okk w hre
    cases t with
    | nil => exact absurd hg (by simp [Gd])
    | mk kind set mn mx kids =>
      obtain ⟨b, sv, kv, ps, rfl, hb, hok, hrs, hkc, hpl, hkid⟩ := hre.inv
      obtain ⟨hk, hgl, h2, h34, h5, h6⟩ := hg
      have hgl' := gdL_iff.1 hgl
      have hk0 : w.cell? ⟨b, 0, none⟩ = some (.int .i64 kind) := by simp [World.cell?, hb]
      have hk2 : w.cell? ⟨b, 2, none⟩ = some (.int .i64 mn) := by simp [World.cell?, hb]
      have hk4 : w.cell? ⟨b, 4, none⟩ = some kv := by simp [World.cell?, hb]
      obtain ⟨A, cap, rfl, hkl, hcs⟩ := cells_open hkc
      simp only [Rx.mk.sizeOf_spec] at hsz
      have HIH : Hid (∀ (k : Nat) (t : Rx), kids[k]? = some t → ∃ g off u, A = some ⟨g, off, none⟩ ∧ g < w.heap.size ∧ w.cell? ⟨g, off + k, none⟩ = some u ∧ Calls Tryz.prog 52 #[u] w fun e w' => e = .returned (.bool (tE t)) ∧ w' = w) := Lib.hid fun k t ht => by
        obtain ⟨u, hu⟩ : ∃ u, ps[k]? = some u := ⟨ps[k]'(by have := (List.getElem?_eq_some_iff.1 ht).1; omega), by simp⟩
        obtain ⟨g, off, hA, _, hgl, hcu⟩ := hcs k u hu
        have hm := List.mem_of_getElem? ht
        exact ⟨g, off, u, hA, hgl, hcu, ih t (by have := List.sizeOf_lt_of_mem hm; omega) (hgl' t hm) u okk w (hkid k u t hu ht)⟩
      clear hkid hgl hgl' hre hrs hkc hb ih hsz hcs hpl hok
      rcases hk with rfl | rfl | rfl | rfl | rfl | rfl
      · have R : Hid (tE (.mk 1 set mn mx kids) = false) := Lib.hid (by simp [tE])
        rw [R.out]
        clear R h2 h34 h5 h6
        go_enter Tryz.func52, Tryz.ntmps52
        go_wp2_with fail
        go_ret
        exact ⟨rfl, rfl⟩
      · have R : Hid (tE (.mk 2 set mn mx kids) = kids.all tE) := Lib.hid (by rw [← tEa_all]; simp [tE])
        rw [R.out]
        generalize hN : kids.length = N at *
        have HN := Lib.hid hN
        clear R h2 h34 h5 h6 hN
        go_enter Tryz.func52, Tryz.ntmps52
        go_wp2_with fail
        go_loopw [4] (fun c wr => ∃ k : Nat, k ≤ N ∧ c = .int .i64 k ∧ wr = w ∧ Hid (∀ (i : Nat) (t : Rx), i < k → kids[i]? = some t → tE t = true)) (fun c _ => N - (intOf c).toNat)
        case atStart => exact ⟨0, Nat.zero_le _, rfl, rfl, Lib.hid fun i t h => absurd h (Nat.not_lt_zero _)⟩
        case round =>
          obtain ⟨k, hk, rfl, rfl, HALL⟩ := hrel
          rcases Nat.lt_or_ge k N with hlt | hge
          · have hb2 : decide ((k : Int) < (N : Int)) = true := decide_eq_true (by omega)
            obtain ⟨t, ht⟩ : ∃ t, kids[k]? = some t := ⟨kids[k]'(by rw [HN.out]; exact hlt), by simp⟩
            obtain ⟨g, off, u, rfl, hgl, hcu, hcall⟩ := HIH.out k t ht
            have HC := Lib.hid hcall
            have HT := Lib.hid ht
            clear hcall ht
            cases hte : tE t with
            | false =>
              rw [hte] at HC
              have R : Hid (kids.all tE = false) := Lib.hid (List.all_eq_false.2 ⟨t, List.mem_of_getElem? HT.out, by simp [hte]⟩)
              clear hte
              go_wp2_with fail
              refine HC.out.mono ?_
              rintro e w' ⟨rfl, rfl⟩
              go_wp2_with fail
              go_ret
              first
              | exact ⟨by rw [R.out]; rfl, rfl⟩
              | simp [R.out]
            | true =>
              rw [hte] at HC
              have HALL2 : Hid (∀ (i : Nat) (t : Rx), i < k + 1 → kids[i]? = some t → tE t = true) := Lib.hid (by
                intro i t' hi ht'
                rcases Nat.lt_or_ge i k with h | h
                · exact HALL.out i t' h ht'
                · obtain rfl : i = k := by omega
                  rw [HT.out] at ht'
                  cases ht'
                  exact hte)
              clear hte
              go_wp2_with fail
              refine HC.out.mono ?_
              rintro e w' ⟨rfl, rfl⟩
              go_wp2_with fail
              go_roundw
              case rel => exact ⟨k + 1, by omega, by simp, by simp, HALL2⟩
              case measure => simp [intOf]; omega
          · obtain rfl : k = N := by omega
            have hb2 : decide ((k : Int) < (k : Int)) = false := decide_eq_false (by omega)
            have R : Hid (kids.all tE = true) := Lib.hid (List.all_eq_true.2 fun t ht => by
              obtain ⟨i, hi⟩ := List.getElem?_of_mem ht
              exact HALL.out i t (by rw [← HN.out]; exact (List.getElem?_eq_some_iff.1 hi).1) hi)
            go_wp2_with fail
            go_ret
            first
              | exact ⟨by rw [R.out]; rfl, rfl⟩
              | simp [R.out]
      · have R : Hid (tE (.mk 3 set mn mx kids) = kids.any tE) := Lib.hid (by rw [← tEo_any]; simp [tE])
        rw [R.out]
        generalize hN : kids.length = N at *
        have HN := Lib.hid hN
        clear R h2 h34 h5 h6 hN
        go_enter Tryz.func52, Tryz.ntmps52
        go_wp2_with fail
        go_loopw [4] (fun c wr => ∃ k : Nat, k ≤ N ∧ c = .int .i64 k ∧ wr = w ∧ Hid (∀ (i : Nat) (t : Rx), i < k → kids[i]? = some t → tE t = false)) (fun c _ => N - (intOf c).toNat)
        case atStart => exact ⟨0, Nat.zero_le _, rfl, rfl, Lib.hid fun i t h => absurd h (Nat.not_lt_zero _)⟩
        case round =>
          obtain ⟨k, hk, rfl, rfl, HALL⟩ := hrel
          rcases Nat.lt_or_ge k N with hlt | hge
          · have hb2 : decide ((k : Int) < (N : Int)) = true := decide_eq_true (by omega)
            obtain ⟨t, ht⟩ : ∃ t, kids[k]? = some t := ⟨kids[k]'(by rw [HN.out]; exact hlt), by simp⟩
            obtain ⟨g, off, u, rfl, hgl, hcu, hcall⟩ := HIH.out k t ht
            have HC := Lib.hid hcall
            have HT := Lib.hid ht
            clear hcall ht
            cases hte : tE t with
            | false =>
              rw [hte] at HC
              have HALL2 : Hid (∀ (i : Nat) (t : Rx), i < k + 1 → kids[i]? = some t → tE t = false) := Lib.hid (by
                intro i t' hi ht'
                rcases Nat.lt_or_ge i k with h | h
                · exact HALL.out i t' h ht'
                · obtain rfl : i = k := by omega
                  rw [HT.out] at ht'
                  cases ht'
                  exact hte)
              clear hte
              go_wp2_with fail
              refine HC.out.mono ?_
              rintro e w' ⟨rfl, rfl⟩
              go_wp2_with fail
              go_roundw
              case rel => exact ⟨k + 1, by omega, by simp, by simp, HALL2⟩
              case measure => simp [intOf]; omega
            | true =>
              rw [hte] at HC
              have R : Hid (kids.any tE = true) := Lib.hid (List.any_eq_true.2 ⟨t, List.mem_of_getElem? HT.out, by simp [hte]⟩)
              clear hte
              go_wp2_with fail
              refine HC.out.mono ?_
              rintro e w' ⟨rfl, rfl⟩
              go_wp2_with fail
              go_ret
              first
              | exact ⟨by rw [R.out]; rfl, rfl⟩
              | simp [R.out]
          · obtain rfl : k = N := by omega
            have hb2 : decide ((k : Int) < (k : Int)) = false := decide_eq_false (by omega)
            have R : Hid (kids.any tE = false) := Lib.hid (List.any_eq_false.2 fun t ht => by
              obtain ⟨i, hi⟩ := List.getElem?_of_mem ht
              simp only [Bool.not_eq_true]
              exact HALL.out i t (by rw [← HN.out]; exact (List.getElem?_eq_some_iff.1 hi).1) hi)
            go_wp2_with fail
            go_ret
            first
              | exact ⟨by rw [R.out]; rfl, rfl⟩
              | simp [R.out]
      · have R : Hid (tE (.mk 4 set mn mx kids) = kids.all tE) := Lib.hid (by rw [← tEa_all]; simp [tE])
        rw [R.out]
        generalize hN : kids.length = N at *
        have HN := Lib.hid hN
        clear R h2 h34 h5 h6 hN
        go_enter Tryz.func52, Tryz.ntmps52
        go_wp2_with fail
        go_loopw [4] (fun c wr => ∃ k : Nat, k ≤ N ∧ c = .int .i64 k ∧ wr = w ∧ Hid (∀ (i : Nat) (t : Rx), i < k → kids[i]? = some t → tE t = true)) (fun c _ => N - (intOf c).toNat)
        case atStart => exact ⟨0, Nat.zero_le _, rfl, rfl, Lib.hid fun i t h => absurd h (Nat.not_lt_zero _)⟩
        case round =>
          obtain ⟨k, hk, rfl, rfl, HALL⟩ := hrel
          rcases Nat.lt_or_ge k N with hlt | hge
          · have hb2 : decide ((k : Int) < (N : Int)) = true := decide_eq_true (by omega)
            obtain ⟨t, ht⟩ : ∃ t, kids[k]? = some t := ⟨kids[k]'(by rw [HN.out]; exact hlt), by simp⟩
            obtain ⟨g, off, u, rfl, hgl, hcu, hcall⟩ := HIH.out k t ht
            have HC := Lib.hid hcall
            have HT := Lib.hid ht
            clear hcall ht
            cases hte : tE t with
            | false =>
              rw [hte] at HC
              have R : Hid (kids.all tE = false) := Lib.hid (List.all_eq_false.2 ⟨t, List.mem_of_getElem? HT.out, by simp [hte]⟩)
              clear hte
              go_wp2_with fail
              refine HC.out.mono ?_
              rintro e w' ⟨rfl, rfl⟩
              go_wp2_with fail
              go_ret
              first
              | exact ⟨by rw [R.out]; rfl, rfl⟩
              | simp [R.out]
            | true =>
              rw [hte] at HC
              have HALL2 : Hid (∀ (i : Nat) (t : Rx), i < k + 1 → kids[i]? = some t → tE t = true) := Lib.hid (by
                intro i t' hi ht'
                rcases Nat.lt_or_ge i k with h | h
                · exact HALL.out i t' h ht'
                · obtain rfl : i = k := by omega
                  rw [HT.out] at ht'
                  cases ht'
                  exact hte)
              clear hte
              go_wp2_with fail
              refine HC.out.mono ?_
              rintro e w' ⟨rfl, rfl⟩
              go_wp2_with fail
              go_roundw
              case rel => exact ⟨k + 1, by omega, by simp, by simp, HALL2⟩
              case measure => simp [intOf]; omega
          · obtain rfl : k = N := by omega
            have hb2 : decide ((k : Int) < (k : Int)) = false := decide_eq_false (by omega)
            have R : Hid (kids.all tE = true) := Lib.hid (List.all_eq_true.2 fun t ht => by
              obtain ⟨i, hi⟩ := List.getElem?_of_mem ht
              exact HALL.out i t (by rw [← HN.out]; exact (List.getElem?_eq_some_iff.1 hi).1) hi)
            go_wp2_with fail
            go_ret
            first
              | exact ⟨by rw [R.out]; rfl, rfl⟩
              | simp [R.out]
      · obtain ⟨a, rfl⟩ := List.length_eq_one_iff.1 (h5 rfl)
        obtain ⟨g, off, u, rfl, hgl, hcu, hcall⟩ := HIH.out 0 a rfl
        have R : Hid (tE (.mk 5 set mn mx [a]) = !(tE a)) := Lib.hid (by simp [tE, tEh])
        rw [R.out]
        have HC := Lib.hid hcall
        simp only [Nat.add_zero] at hcu
        generalize tE a = ta at *
        clear R h2 h34 h5 h6 hcall HIH
        go_enter Tryz.func52, Tryz.ntmps52
        go_wp2_with fail
        refine HC.out.mono ?_
        rintro e w' ⟨rfl, rfl⟩
        go_wp2_with fail
        go_ret
        first
          | exact ⟨rfl, rfl⟩
          | simp
      · obtain ⟨a, rfl⟩ := List.length_eq_one_iff.1 (h6 rfl).1
        obtain ⟨g, off, u, rfl, hgl, hcu, hcall⟩ := HIH.out 0 a rfl
        have R : Hid (tE (.mk 6 set mn mx [a]) = (mn == 0 || tE a)) := Lib.hid (by simp [tE, tEh])
        rw [R.out]
        have HC := Lib.hid hcall
        simp only [Nat.add_zero] at hcu
        generalize tE a = ta at *
        clear R h2 h34 h5 h6 hcall HIH
        cases hm : (mn == (0 : Int)) with
        | true =>
          go_enter Tryz.func52, Tryz.ntmps52
          go_wp2_with fail
          go_ret
          exact ⟨rfl, rfl⟩
        | false =>
          go_enter Tryz.func52, Tryz.ntmps52
          go_wp2_with fail
          refine HC.out.mono ?_
          rintro e w' ⟨rfl, rfl⟩
          go_wp2_with fail
          go_ret
          first
            | exact ⟨rfl, rfl⟩
            | simp
end Go.Proofs.YtoijabgcgdgacaaGreatDoor
