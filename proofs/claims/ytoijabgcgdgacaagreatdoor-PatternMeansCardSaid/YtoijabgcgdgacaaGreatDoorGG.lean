/-
  WALKS, o: rows of patterns.
  WALKS, p: the program's reader of patterns: a unit and what stands behind it.
  WALKS, q: the program's reader of patterns: a row.
  WALKS, r: the program's reader of patterns: lists. (Written by a program, gen_wr.py.)
-/
import Derived.Test.YtoijabgcgdgacaaGreatDoorGF
import Derived.Test.YtoijabgcgdgacaaGreatDoorGE
import Derived.Test.YtoijabgcgdgacaaGreatDoorGB
import Derived.Maps.AppendAt
namespace Go.Proofs.YtoijabgcgdgacaaGreatDoor
open Go.RowKit Go.Proofs.Gram Go.Lib

theorem info22 : (Tryz.prog.info? 22).map (fun i => (i.zero, i.size, i.bytes)) = some (some (.pointer none), 1, 8) := by kernel_rfl

/-- A row of the call's own holds these patterns. -/
def KidsR (w : World) (B : Nat) (v : Value) (ts : List Rx) : Prop :=
  ∃ ps, w.ownsRow B 22 1 v ts.length ps ∧ ps.length = ts.length ∧ ∀ (i : Nat) (p : Value) (t : Rx), ps[i]? = some p → ts[i]? = some t → IsRe w (fun k => B ≤ k ∧ v.ownBlock ≠ some k) p t

theorem IsRe_lt {w : World} {ok : Nat → Prop} {v : Value} {t : Rx} (h : IsRe w ok v t) : IsRe w (fun k => ok k ∧ k < w.heap.size) v t :=
  h.keep (Nat.le_refl _) (fun _ _ _ => rfl) fun _ hk ho => ⟨ho, hk⟩

theorem IsRe_one {w : World} {ok : Nat → Prop} {v : Value} {t : Rx} (h : IsRe w ok v t) : v.oneCell' = true := by
  cases h <;> rfl

theorem kids_nil (w : World) (B : Nat) : KidsR w B (.slice none 0 0) [] := ⟨[], World.ownsRow_nil _ _ _ _, rfl, fun i p t h => by simp at h⟩

theorem kids_one {w : World} {B : Nat} {p : Value} {t : Rx} (h : IsRe w (fun k => B ≤ k) p t) (hB : B ≤ w.heap.size) : KidsR (w.alloc (.cells #[p] 22)) B (.slice (some ⟨w.heap.size, 0, none⟩) 1 1) [t] := by
  refine ⟨[p], ⟨rfl, .inr ⟨w.heap.size, 1, #[p], rfl, hB, heap_alloc_new w _, by simp, by simp [maxLen], rfl, rfl⟩⟩, rfl, fun i q t' hq ht => ?_⟩
  have h' := (IsRe_lt h).keep (w' := w.alloc (.cells #[p] 22)) (ok' := fun k => B ≤ k ∧ (Value.slice (some ⟨w.heap.size, 0, none⟩) 1 1).ownBlock ≠ some k) (by simp) (fun k hk _ => Below.heap_alloc _ _ _ hk)
    (fun k hk ho => ⟨ho.1, by simp [Value.ownBlock]; omega⟩)
  cases i with
  | zero => simp at hq ht; subst hq; subst ht; exact h'
  | succ i => simp at hq

theorem KidsR.kp {w w' : World} {B : Nat} {v : Value} {ts : List Rx} {F : Nat → Prop} (h : KidsR w B v ts) (hk : Kp F w w') (hF : ∀ k, B ≤ k → ¬ F k) : KidsR w' B v ts := by
  obtain ⟨ps, ⟨h1, h2⟩, hl, hr⟩ := h
  refine ⟨ps, ⟨h1, ?_⟩, hl, fun i p t hp ht => (hr i p t hp ht).kp hk fun k _ ho => hF k ho.1⟩
  rcases h2 with ⟨rfl, h0⟩ | ⟨g, cap, cur, rfl, hg, hh, hn⟩
  · exact .inl ⟨rfl, h0⟩
  · exact .inr ⟨g, cap, cur, rfl, hg, hk.heap hh (hF g hg), hn⟩

theorem KidsR.far {w : World} {B : Nat} {v : Value} {ts : List Rx} (h : KidsR w B v ts) : ∀ k, v.ownBlock = some k → B ≤ k ∧ k < w.heap.size := by
  obtain ⟨ps, h1, _⟩ := h
  exact h1.lt

/-- One more behind the last. -/
theorem kids_push {W w3 : World} {B : Nat} {v v' p : Value} {ts : List Rx} {t : Rx} {ps : List Value} (hown : W.ownsRow B 22 1 v ts.length ps) (hl : ps.length = ts.length)
    (hr : ∀ (i : Nat) (p : Value) (t : Rx), ps[i]? = some p → ts[i]? = some t → IsRe W (fun k => B ≤ k ∧ v.ownBlock ≠ some k) p t) (hp : IsRe W (fun k => B ≤ k ∧ v.ownBlock ≠ some k) p t)
    (hown' : w3.ownsRow B 22 1 v' (ts.length + 1) (ps ++ [p])) (hg : (W.alloc (.cells #[p] 22)).grownBy w3 v.ownBlock) (hv : v'.ownBlock = v.ownBlock ∨ v'.ownBlock = some (W.alloc (.cells #[p] 22)).heap.size) :
    KidsR w3 B v' (ts ++ [t]) ∧ Kp (fun k => v.ownBlock = some k) W w3 := by
  have hk : Kp (fun k => v.ownBlock = some k) W w3 := ((Kp.refl _ _).alloc _).grown hg fun k hk => .inl hk
  refine ⟨⟨ps ++ [p], by simpa using hown', by simp [hl], ?_⟩, hk⟩
  have hmov : ∀ {q : Value} {t' : Rx}, IsRe W (fun k => B ≤ k ∧ v.ownBlock ≠ some k) q t' → IsRe w3 (fun k => B ≤ k ∧ v'.ownBlock ≠ some k) q t' := by
    intro q t' h
    refine (IsRe_lt h).keep hk.size (fun k hlt ho => hk.block k hlt ho.1.2) fun k hlt ho => ⟨ho.1.1, ?_⟩
    rcases hv with e | e
    · rw [e]; exact ho.1.2
    · rw [e]
      intro hh
      have : W.heap.size + 1 = k := by simpa using hh
      omega
  intro i q t' hq ht
  rcases Nat.lt_or_ge i ts.length with hi | hi
  · rw [List.getElem?_append_left (by omega)] at hq ht
    exact hmov (hr i q t' hq ht)
  · rw [List.getElem?_append_right (by omega)] at hq ht
    have e : i - ts.length = 0 := by
      have := (List.getElem?_eq_some_iff.1 ht).1
      simp at this
      omega
    rw [hl, e] at hq
    rw [e] at ht
    simp at hq ht
    subst hq
    subst ht
    exact hmov hp

theorem kids_cells {w : World} {B : Nat} {v : Value} {ts : List Rx} (h : KidsR w B v ts) : ∃ ps, Cells w (fun k => B ≤ k) v ts.length ps ∧ ps.length = ts.length ∧ ∀ (i : Nat) (p : Value) (t : Rx), ps[i]? = some p → ts[i]? = some t → IsRe w (fun k => B ≤ k) p t := by
  obtain ⟨ps, ⟨h1, h2⟩, hl, hr⟩ := h
  refine ⟨ps, ?_, hl, fun i p t hp ht => (hr i p t hp ht).ok fun k _ ho => ho.1⟩
  rcases h2 with ⟨rfl, h0⟩ | ⟨g, cap, cur, rfl, hg, hh, hn, hcap, hsz, htake⟩
  · exact .inl ⟨rfl, h0, List.eq_nil_of_length_eq_zero (by omega)⟩
  · refine .inr ⟨g, 0, cap, rfl, hn, hcap, hg, (Array.getElem?_eq_some_iff.1 hh).1, fun i u hu => ?_⟩
    rw [← htake, List.getElem?_take] at hu
    simp only [World.cell?, hh, Nat.zero_add]
    split at hu
    · simpa using hu
    · cases hu

/-- A pattern of kids. -/
theorem isRe_kids {w : World} {B : Nat} {v : Value} {ts : List Rx} (kind mn mx : Int) (h : KidsR w B v ts) (hB : B ≤ w.heap.size) :
    IsRe (w.alloc (.cells #[.int .i64 kind, .slice none 0 0, .int .i64 mn, .int .i64 mx, v] 34)) (fun k => B ≤ k) (.pointer (some ⟨w.heap.size, 0, none⟩)) (.mk kind [] mn mx ts) := by
  obtain ⟨ps, hc, hl, hr⟩ := kids_cells h
  have hk : Kp noB w (w.alloc (.cells #[.int .i64 kind, .slice none 0 0, .int .i64 mn, .int .i64 mx, v] 34)) := (Kp.refl _ _).alloc _
  exact .mk w.heap.size kind mn mx [] ts (.slice none 0 0) v ps (heap_alloc_new w _) hB (.inl ⟨rfl, rfl, rfl⟩) (hc.kp hk fun _ _ _ => noB_not _) hl (fun i p t hp ht => (hr i p t hp ht).kp hk fun _ _ _ => noB_not _)

/-- A row of one: its one pattern. -/
theorem kids_head {w : World} {B : Nat} {v : Value} {t : Rx} (h : KidsR w B v [t]) : ∃ g cap p, v = .slice (some ⟨g, 0, none⟩) 1 cap ∧ w.cell? ⟨g, 0, none⟩ = some p ∧ IsRe w (fun k => B ≤ k) p t := by
  obtain ⟨ps, hc, hl, hr⟩ := kids_cells h
  match ps, hl with
  | [p], _ =>
    rcases hc with ⟨_, h0, _⟩ | ⟨g, off, cap, rfl, _, _, _, _, hcell⟩
    · simp at h0
    · obtain ⟨ps, ⟨h1, h2⟩, _⟩ := h
      rcases h2 with ⟨h2, _⟩ | ⟨g', cap', cur, h2, _⟩
      · cases h2
      · cases h2
        exact ⟨g, cap, p, rfl, by simpa using hcell 0 p rfl, hr 0 p t rfl rfl⟩

theorem counted_adv {s : ByteArray} {a p : Nat} {x : Int × Int} (h : counted s a = .ok x p) (ha : a ≤ s.size) : a < p ∧ p ≤ s.size := by
  have hcl : ∀ lo hi b, closed s lo hi b = .ok x p → p = b + 1 ∧ b < s.size := by
    intro lo hi b h
    unfold closed at h
    split at h
    · rename_i h1
      cases h
      exact ⟨rfl, pk_lt s b (by omega)⟩
    · cases h
  unfold counted at h
  split at h
  · cases h
  · rename_i n b hc
    obtain ⟨_, hap, hps, _⟩ := count_ok hc ha
    split at h
    · cases h
    split at h
    · rename_i h44
      have := pk_lt s b (by omega)
      split at h
      · cases h
      split at h
      · have := hcl _ _ _ h
        omega
      · split at h
        · cases h
        · rename_i m d hd
          obtain ⟨_, hap', hps', _⟩ := count_ok hd (by omega)
          split at h
          · cases h
          · have := hcl _ _ _ h
            omega
    · split at h
      · cases h
      · have := hcl _ _ _ h
        omega

end Go.Proofs.YtoijabgcgdgacaaGreatDoor

namespace Go.Proofs.YtoijabgcgdgacaaGreatDoor
open Go.RowKit Go.Proofs.Gram Go.Lib

/-- The same, and something was read. -/
def TS (T : TypeId) (eb es : Addr) (s : ByteArray) (b a o : Nat) (w : World) (r : R Rx) (e : Ending) (w' : World) : Prop :=
  TP T eb es s b a o w r e w' ∧ ∀ t p, r = .ok t p → a < p

def UnitC (T : TypeId) (eb es : Addr) (s : ByteArray) (n : Nat) : Prop := ∀ (b a o : Nat) (w : World), RD s b a o w → Env T eb es w → a ≤ s.size → s.size ≤ a + n → o ≤ 100 →
  Calls Tryz.prog 202 #[.pointer (some ⟨b, 0, none⟩)] w fun e w' => ∃ r, Ev s .unit a o r ∧ TS T eb es s b a o w r e w'
def PartC (T : TypeId) (eb es : Addr) (s : ByteArray) (n : Nat) : Prop := ∀ (b a o : Nat) (w : World), RD s b a o w → Env T eb es w → a ≤ s.size → s.size ≤ a + n → o ≤ 100 →
  Calls Tryz.prog 150 #[.pointer (some ⟨b, 0, none⟩)] w fun e w' => ∃ r, Ev s .part a o r ∧ TS T eb es s b a o w r e w'

theorem IsRe_ptr {w : World} {ok : Nat → Prop} {v : Value} {t : Rx} (h : IsRe w ok v t) : ∃ x, v = .pointer x := by
  cases h
  · exact ⟨_, rfl⟩
  · exact ⟨_, rfl⟩

theorem isRe_rep {W W2 : World} {B b : Nat} {v : Value} {t : Rx} {mn mx : Int} {o : Obj} (h : IsRe W (fun k => B ≤ k) v t) (hB : B ≤ W.heap.size) (hb : b < B)
    (hk : Kp (onB2 b (W.heap.size + 1)) ((W.alloc (.cells #[v] 22)).alloc o) W2) (hq : QD (W.heap.size + 1) 6 (.slice none 0 0) mn mx (.slice (some ⟨W.heap.size, 0, none⟩) 1 1) W2) :
    IsRe W2 (fun k => B ≤ k) (.pointer (some ⟨W.heap.size + 1, 0, none⟩)) (.mk 6 [] mn mx [t]) := by
  have hrow : W2.heap[W.heap.size]? = some (.cells #[v] 22 (0, 0)) := by
    have h1 : (W.alloc (.cells #[v] 22)).heap[W.heap.size]? = some (.cells #[v] 22 (0, 0)) := heap_alloc_new W _
    have h2 : ((W.alloc (.cells #[v] 22)).alloc o).heap[W.heap.size]? = some (.cells #[v] 22 (0, 0)) := (Below.heap_alloc _ _ _ (by simp)).trans h1
    exact hk.heap h2 (onB2_not (by omega) (by omega))
  have hkid : IsRe W2 (fun k => B ≤ k) v t := by
    have hk2 : Kp noB W ((W.alloc (.cells #[v] 22)).alloc o) := ((Kp.refl _ _).alloc _).alloc _
    refine (IsRe_lt h).keep (Nat.le_trans hk2.size hk.size) (fun k hlt ho => ?_) fun k _ ho => ho.1
    rw [hk.block k (Nat.lt_of_lt_of_le hlt hk2.size) (onB2_not (by have := ho.1; omega) (by omega))]
    exact hk2.block k hlt (noB_not _)
  refine .mk (W.heap.size + 1) 6 mn mx [] [t] (.slice none 0 0) _ [v] hq.blk (by omega) (.inl ⟨rfl, rfl, rfl⟩) (.inr ⟨W.heap.size, 0, 1, rfl, by simp, by simp [maxLen], hB, (Array.getElem?_eq_some_iff.1 hrow).1, fun i u hu => ?_⟩) rfl (fun i p t' hp ht => ?_)
  · cases i with
    | zero => simp at hu; subst hu; simp [World.cell?, hrow]
    | succ i => simp at hu
  · cases i with
    | zero => simp at hp ht; subst hp; subst ht; exact hkid
    | succ i => simp at hp

section
variable {T : TypeId} {eb es : Addr} {s : ByteArray}

set_option maxRecDepth 100000 in
set_option maxHeartbeats 4000000 in
theorem part_any (hsz : s.size ≤ 65536) {n : Nat} (hU : UnitC T eb es s n) : PartC T eb es s n := by
  intro b a o w hr hE ha hn ho
  have HU := Lib.hid (hU b a o w hr hE ha hn ho)
  clear hU
  have hfar := hr.far
  have hblt := hr.lt
  go_enter Tryz.func150, Tryz.ntmps150
  go_wp2_with fail
  refine HU.out.mono ?_
  rintro e w1 ⟨r, hev, hT, hadv⟩
  cases r with
  | er c p =>
    obtain ⟨⟨g, rfl, hg⟩, hk1⟩ := hT
    have HEV := Lib.hid hev
    clear hev hadv
    go_wp2_with fail
    exact ⟨rfl, _, HEV.out.part_er, ⟨⟨g, rfl, hg⟩, hk1⟩, fun t p h => by cases h⟩
  | ok t1 p1 =>
    obtain ⟨v1, rfl, hk1, hr1, hre1, hap1, hps1⟩ := hT
    have hlt1 := hadv t1 p1 rfl
    have HEV := Lib.hid (fun r h => hev.part_ok h : ∀ r, Ev s (.partL t1) p1 o r → Ev s .part a o r)
    clear hev hadv
    go_wp2_with fail
    go_loopw [3] (fun v wr => ∃ t p, Kp (onB b) w wr ∧ RD s b p o wr ∧ IsRe wr (fun k => w.heap.size ≤ k) v t ∧ a < p ∧ p ≤ s.size ∧ Hid (∀ r, Ev s (.partL t) p o r → Ev s .part a o r))
      (fun _ wr => s.size - (intOf ((wr.cell? ⟨b, 1, none⟩).getD undef)).toNat)
    case atStart => exact ⟨t1, p1, hk1, hr1, hre1, hlt1, hps1, HEV⟩
    case round =>
      clear hre1 hr1 hk1 HEV hlt1 hap1 hps1
      obtain ⟨t, p, hk, hrp, hre, hap, hps, HI⟩ := hrel
      obtain ⟨x, hx⟩ := IsRe_ptr hre
      subst hx
      have hks := hk.size
      have hkN : Kp (onB b) w ((wr.alloc (.cells #[.pointer x] 22)).alloc (.cells #[.int .i64 6, .slice none 0 0, .int .i64 0, .int .i64 0, .slice (some ⟨wr.heap.size, 0, none⟩) 1 1] 34)) := (hk.alloc _).alloc _
      have hrN : RD s b p o ((wr.alloc (.cells #[.pointer x] 22)).alloc (.cells #[.int .i64 6, .slice none 0 0, .int .i64 0, .int .i64 0, .slice (some ⟨wr.heap.size, 0, none⟩) 1 1] 34)) := hrp.kp (((Kp.refl noB wr).alloc _).alloc _) (noB_not _)
      have hqN : QD (wr.heap.size + 1) 6 (.slice none 0 0) 0 0 (.slice (some ⟨wr.heap.size, 0, none⟩) 1 1) ((wr.alloc (.cells #[.pointer x] 22)).alloc (.cells #[.int .i64 6, .slice none 0 0, .int .i64 0, .int .i64 0, .slice (some ⟨wr.heap.size, 0, none⟩) 1 1] 34)) :=
        ⟨by have := heap_alloc_new (wr.alloc (.cells #[.pointer x] 22)) (.cells #[.int .i64 6, .slice none 0 0, .int .i64 0, .int .i64 0, .slice (some ⟨wr.heap.size, 0, none⟩) 1 1] 34); simpa using this⟩
      have HREP := Lib.hid (fun (W2 : World) (mn mx : Int) hk2 hq2 => isRe_rep (W2 := W2) (mn := mn) (mx := mx) (o := .cells #[.int .i64 6, .slice none 0 0, .int .i64 0, .int .i64 0, .slice (some ⟨wr.heap.size, 0, none⟩) 1 1] 34) hre hks hblt hk2 hq2)
      obtain ⟨W, HW⟩ : ∃ W, Hid ((wr.alloc (.cells #[.pointer x] 22)).alloc (.cells #[.int .i64 6, .slice none 0 0, .int .i64 0, .int .i64 0, .slice (some ⟨wr.heap.size, 0, none⟩) 1 1] 34) = W) := ⟨_, rfl⟩
      rw [HW.out] at hkN hrN hqN HREP
      have HRE := Lib.hid hre
      have hc1r := Lib.hid hrp.c1
      clear hre hk hrp
      have hEN := hE.kp hkN (fun k hk => onB_not (by omega))
      have hqb : wr.heap.size + 1 ≠ b := by omega
      go_upto_region 4 with (fail)
      rw [HW.out]
      have hk0 : Kp noB W W := Kp.refl _ _
      by_cases h2 : pk s p = -2
      · have HQ := Lib.hid (pass_bad 42 hrN hEN hsz h2)
        have HR := Lib.hid (HI.out _ (Ev.partL_bad h2))
        clear h2
        go_wp2_with fail
        refine HQ.out.mono ?_
        rintro e w2 ⟨⟨g, rfl, hg⟩, hk2⟩
        go_wp2_with fail
        exact ⟨rfl, _, HR.out, ⟨by rw [erA_one]; exact ⟨g, rfl, hg⟩, hkN.trans hk2.any⟩, fun t p h => by cases h⟩
      have H2 := Lib.hid h2
      have hrK := hrN
      have hEK := hEN
      by_cases h42 : pk s p = 42
      · have HQ := Lib.hid (pass_yes 42 hrK hEK hsz (by omega) (by omega) h42)
        have HI2 : Hid (∀ r, Ev s (.partL (.mk 6 [] 0 (-1) [t])) (p + 1) o r → Ev s .part a o r) := Lib.hid fun r h => HI.out _ (Ev.partL_star h42 h)
        have hpl := pk_lt s p (by omega)
        clear h42
        clear h2
        go_wp2_with fail
        refine HQ.out.mono ?_
        rintro e w2 ⟨rfl, hk2, hr2⟩
        have hkW2 := hk0.any.trans hk2
        have hq2 := hqN.kp hkW2 (onB_not hqb)
        have hz2 := hq2.z
        have hqc2 := hq2.c2
        have hqc3 := hq2.c3
        have HRE2 := Lib.hid (HREP.out _ 0 (-1) ((hkW2.two (q := wr.heap.size + 1)).setCell (F := onB2 b (wr.heap.size + 1)) (p := ⟨wr.heap.size + 1, 3, none⟩) (.inl (onB2_r _ _)) (.int .i64 (-1))) ((hq2).max (-1)))
        have HR2 := Lib.hid ((hr2).other (p := ⟨wr.heap.size + 1, 3, none⟩) hqb (.int .i64 (-1)))
        have HK2 := Lib.hid (((hkN.trans hkW2)).setCell (F := onB b) (p := ⟨wr.heap.size + 1, 3, none⟩) (.inr (by show w.heap.size ≤ wr.heap.size + 1; omega)) (.int .i64 (-1)))
        clear hk2 hkW2 hq2 hr2
        go_wp2_with fail
        go_roundw
        case rel => exact ⟨_, p + 1, HK2.out, HR2.out, HRE2.out, by omega, by omega, HI2⟩
        case measure => rw [HR2.out.c1, hc1r.out]; simp only [intOf, Option.getD_some]; omega
      have HQ42 := Lib.hid (pass_no 42 hrK hEK hsz h2 h42)
      have H42 := Lib.hid h42
      clear h42 h2
      go_wp2_with fail
      refine HQ42.out.mono ?_
      rintro e wK42 ⟨rfl, hkn⟩
      have hk0 := hk0.trans hkn
      have hrK := hrK.kp hkn (noB_not _)
      have hEK := hEK.kp hkn (fun k _ => noB_not _)
      have h2 := H2.out
      clear hkn
      by_cases h43 : pk s p = 43
      · have HQ := Lib.hid (pass_yes 43 hrK hEK hsz (by omega) (by omega) h43)
        have HI2 : Hid (∀ r, Ev s (.partL (.mk 6 [] 1 (-1) [t])) (p + 1) o r → Ev s .part a o r) := Lib.hid fun r h => HI.out _ (Ev.partL_plus h43 h)
        have hpl := pk_lt s p (by omega)
        clear h43
        clear h2
        go_wp2_with fail
        refine HQ.out.mono ?_
        rintro e w2 ⟨rfl, hk2, hr2⟩
        have hkW2 := hk0.any.trans hk2
        have hq2 := hqN.kp hkW2 (onB_not hqb)
        have hz2 := hq2.z
        have hqc2 := hq2.c2
        have hqc3 := hq2.c3
        have HRE2 := Lib.hid (HREP.out _ 1 (-1) (((hkW2.two (q := wr.heap.size + 1)).setCell (F := onB2 b (wr.heap.size + 1)) (p := ⟨wr.heap.size + 1, 2, none⟩) (.inl (onB2_r _ _)) (.int .i64 (1))).setCell (F := onB2 b (wr.heap.size + 1)) (p := ⟨wr.heap.size + 1, 3, none⟩) (.inl (onB2_r _ _)) (.int .i64 (-1))) (((hq2).min (1)).max (-1)))
        have HR2 := Lib.hid (((hr2).other (p := ⟨wr.heap.size + 1, 2, none⟩) hqb (.int .i64 (1))).other (p := ⟨wr.heap.size + 1, 3, none⟩) hqb (.int .i64 (-1)))
        have HK2 := Lib.hid ((((hkN.trans hkW2)).setCell (F := onB b) (p := ⟨wr.heap.size + 1, 2, none⟩) (.inr (by show w.heap.size ≤ wr.heap.size + 1; omega)) (.int .i64 (1))).setCell (F := onB b) (p := ⟨wr.heap.size + 1, 3, none⟩) (.inr (by show w.heap.size ≤ wr.heap.size + 1; omega)) (.int .i64 (-1)))
        clear hk2 hkW2 hq2 hr2
        go_wp2_with fail
        go_roundw
        case rel => exact ⟨_, p + 1, HK2.out, HR2.out, HRE2.out, by omega, by omega, HI2⟩
        case measure => rw [HR2.out.c1, hc1r.out]; simp only [intOf, Option.getD_some]; omega
      have HQ43 := Lib.hid (pass_no 43 hrK hEK hsz h2 h43)
      have H43 := Lib.hid h43
      clear h43 h2
      go_wp2_with fail
      refine HQ43.out.mono ?_
      rintro e wK43 ⟨rfl, hkn⟩
      have hk0 := hk0.trans hkn
      have hrK := hrK.kp hkn (noB_not _)
      have hEK := hEK.kp hkn (fun k _ => noB_not _)
      have h2 := H2.out
      clear hkn
      by_cases h63 : pk s p = 63
      · have HQ := Lib.hid (pass_yes 63 hrK hEK hsz (by omega) (by omega) h63)
        have HI2 : Hid (∀ r, Ev s (.partL (.mk 6 [] 0 (1) [t])) (p + 1) o r → Ev s .part a o r) := Lib.hid fun r h => HI.out _ (Ev.partL_ask h63 h)
        have hpl := pk_lt s p (by omega)
        clear h63
        clear h2
        go_wp2_with fail
        refine HQ.out.mono ?_
        rintro e w2 ⟨rfl, hk2, hr2⟩
        have hkW2 := hk0.any.trans hk2
        have hq2 := hqN.kp hkW2 (onB_not hqb)
        have hz2 := hq2.z
        have hqc2 := hq2.c2
        have hqc3 := hq2.c3
        have HRE2 := Lib.hid (HREP.out _ 0 (1) ((hkW2.two (q := wr.heap.size + 1)).setCell (F := onB2 b (wr.heap.size + 1)) (p := ⟨wr.heap.size + 1, 3, none⟩) (.inl (onB2_r _ _)) (.int .i64 (1))) ((hq2).max (1)))
        have HR2 := Lib.hid ((hr2).other (p := ⟨wr.heap.size + 1, 3, none⟩) hqb (.int .i64 (1)))
        have HK2 := Lib.hid (((hkN.trans hkW2)).setCell (F := onB b) (p := ⟨wr.heap.size + 1, 3, none⟩) (.inr (by show w.heap.size ≤ wr.heap.size + 1; omega)) (.int .i64 (1)))
        clear hk2 hkW2 hq2 hr2
        go_wp2_with fail
        go_roundw
        case rel => exact ⟨_, p + 1, HK2.out, HR2.out, HRE2.out, by omega, by omega, HI2⟩
        case measure => rw [HR2.out.c1, hc1r.out]; simp only [intOf, Option.getD_some]; omega
      have HQ63 := Lib.hid (pass_no 63 hrK hEK hsz h2 h63)
      have H63 := Lib.hid h63
      clear h63 h2
      go_wp2_with fail
      refine HQ63.out.mono ?_
      rintro e wK63 ⟨rfl, hkn⟩
      have hk0 := hk0.trans hkn
      have hrK := hrK.kp hkn (noB_not _)
      have hEK := hEK.kp hkn (fun k _ => noB_not _)
      have h2 := H2.out
      clear hkn
      by_cases h123 : pk s p = 123
      · have HQ := Lib.hid (pass_yes 123 hrK hEK hsz (by omega) (by omega) h123)
        have hpl := pk_lt s p (by omega)
        have H123 := Lib.hid h123
        clear h123 h2
        go_wp2_with fail
        refine HQ.out.mono ?_
        rintro e w2 ⟨rfl, hk2, hr2⟩
        have hkW2 := hk0.any.trans hk2
        have hq2 := hqN.kp hkW2 (onB_not hqb)
        have hE2 := hEK.kp hk2 (fun k hk => onB_not (by omega))
        have HC := Lib.hid (counted_any hr2 hE2 hsz (by omega) hq2 hqb (by omega))
        go_wp2_with fail
        refine HC.out.mono ?_
        clear HC
        intro e w3 hC
        cases hcn : counted s (p + 1) with
        | er c d =>
          rw [hcn] at hC
          obtain ⟨⟨g, rfl, hg⟩, hk3⟩ := hC
          have HR := Lib.hid (HI.out _ (Ev.partL_er H123.out hcn))
          have hk4 : Kp (onB b) w w3 := (hkN.trans hkW2).later hk3 fun i hi h => by rcases h with h | h; exact h; omega
          clear hcn
          go_wp2_with fail
          exact ⟨rfl, _, HR.out, ⟨⟨g, rfl, hg⟩, hk4⟩, fun t p h => by cases h⟩
        | ok y d =>
          rw [hcn] at hC
          obtain ⟨rfl, hk3, hr3, hq3⟩ := hC
          obtain ⟨mn, mx⟩ := y
          have hadv := counted_adv hcn (by omega)
          have HI2 : Hid (∀ r, Ev s (.partL (.mk 6 [] mn mx [t])) d o r → Ev s .part a o r) := Lib.hid fun r h => HI.out _ (Ev.partL_ok H123.out hcn h)
          have hk4 : Kp (onB b) w w3 := (hkN.trans hkW2).later hk3 fun i hi h => by rcases h with h | h; exact h; omega
          have HRE2 := Lib.hid (HREP.out _ mn mx (hkW2.two.trans hk3) hq3)
          clear hcn hk3 hkW2 hk2
          go_wp2_with fail
          go_roundw
          case rel => exact ⟨_, d, hk4, hr3, HRE2.out, by omega, by omega, HI2⟩
          case measure => rw [hr3.c1, hc1r.out]; simp only [intOf, Option.getD_some]; omega
      have HQ123 := Lib.hid (pass_no 123 hrK hEK hsz h2 h123)
      have H123 := Lib.hid h123
      clear h123 h2
      go_wp2_with fail
      refine HQ123.out.mono ?_
      rintro e wK123 ⟨rfl, hkn⟩
      have hk0 := hk0.trans hkn
      have hrK := hrK.kp hkn (noB_not _)
      have hEK := hEK.kp hkn (fun k _ => noB_not _)
      have h2 := H2.out
      clear hkn
      have HR := Lib.hid (HI.out _ (Ev.partL_stop h2 H42.out H43.out H63.out H123.out))
      have hk5 := hkN.trans hk0.any
      have hrw : Kp noB wr W := by rw [← HW.out]; exact ((Kp.refl noB wr).alloc _).alloc _
      have hre5 := Lib.hid (HRE.out.kp (hrw.trans hk0) (fun _ _ _ => noB_not _))
      clear h2 hrw
      go_wp2_with fail
      go_ret
      exact ⟨_, HR.out, ⟨_, rfl, hk5, hrK, hre5.out, by omega, hps⟩, fun t' p' h => by cases h; exact hap⟩
end
end Go.Proofs.YtoijabgcgdgacaaGreatDoor

namespace Go.Proofs.YtoijabgcgdgacaaGreatDoor
open Go.RowKit Go.Proofs.Gram Go.Lib

def RowC (T : TypeId) (eb es : Addr) (s : ByteArray) (n : Nat) : Prop := ∀ (b a o : Nat) (w : World), RD s b a o w → Env T eb es w → a ≤ s.size → s.size ≤ a + n → o ≤ 100 →
  Calls Tryz.prog 94 #[.pointer (some ⟨b, 0, none⟩)] w fun e w' => ∃ r, Ev s (.row []) a o r ∧ TP T eb es s b a o w r e w'

theorem sev_many (kind : Int) (ts : List Rx) (h : ts.length ≠ 1) : sev kind ts = .mk kind [] 0 0 ts := by
  match ts, h with
  | [], _ => rfl
  | [t], h => exact absurd rfl h
  | a :: b :: l, _ => rfl

theorem kids_open {w : World} {B : Nat} {v : Value} {ts : List Rx} (h : KidsR w B v ts) : ∃ A cap, v = .slice A ts.length cap := by
  obtain ⟨ps, ⟨h1, h2⟩, _⟩ := h
  rcases h2 with ⟨rfl, h0⟩ | ⟨g, cap, cur, rfl, _⟩
  · exact ⟨none, 0, by rw [h0]⟩
  · exact ⟨_, cap, rfl⟩

section
variable {T : TypeId} {eb es : Addr} {s : ByteArray}

set_option maxRecDepth 100000 in
set_option maxHeartbeats 4000000 in
theorem row_any (hsz : s.size ≤ 65536) {n : Nat} (hU : PartC T eb es s n) : RowC T eb es s n := by
  intro b a o w hr hE ha hn ho
  have hfar := hr.far
  have hblt := hr.lt
  obtain ⟨i0, hi, hz0, hz1, hz2⟩ := info_parts info22
  go_enter Tryz.func94, Tryz.ntmps94
  go_wp2_with fail
  go_loopw [3] (fun v wr => ∃ ts p, KidsR wr w.heap.size v ts ∧ Kp (onB b) w wr ∧ RD s b p o wr ∧ a ≤ p ∧ p ≤ s.size ∧ ts.length ≤ p ∧ Hid (∀ r, Ev s (.row ts) p o r → Ev s (.row []) a o r))
    (fun _ wr => s.size - (intOf ((wr.cell? ⟨b, 1, none⟩).getD undef)).toNat)
  case atStart => exact ⟨[], a, kids_nil _ _, Kp.refl _ _, hr, Nat.le_refl _, ha, by simp, Lib.hid fun r h => h⟩
  case round =>
    obtain ⟨ts, p, hK, hk, hrp, hap, hps, htp, HI⟩ := hrel
    have hks := hk.size
    have hEp := hE.kp hk (fun k hk => onB_not (by omega))
    have HU := Lib.hid (hU b p o)
    by_cases h2 : pk s p = -2
    · have HQ := Lib.hid (peek_bad hrp hEp hsz h2)
      have HR := Lib.hid (HI.out _ (Ev.row_bad h2))
      clear h2
      go_wp2_with fail
      refine HQ.out.mono ?_
      rintro e w2 ⟨⟨g, rfl, hg⟩, hk2⟩
      go_wp2_with fail
      exact ⟨rfl, _, HR.out, by rw [erA_one]; exact ⟨g, rfl, hg⟩, hk.trans hk2.any⟩
    have HQ := Lib.hid (peek_ok hrp hEp hsz _ rfl h2)
    have H2 := Lib.hid h2
    clear h2
    obtain ⟨x, hx⟩ : ∃ x, pk s p = x := ⟨_, rfl⟩
    have HX := Lib.hid hx
    rw [hx] at HQ
    clear hx
    by_cases hst : x = -1 ∨ x = 124 ∨ x = 38 ∨ x = 41
    · have HR := Lib.hid (HI.out _ (Ev.row_stop (by rw [HX.out]; exact hst)))
      have hb : (x == (-1 : Int)) = true ∨ ((x == (-1 : Int)) = false ∧ (x == (124 : Int)) = true) ∨ ((x == (-1 : Int)) = false ∧ (x == (124 : Int)) = false ∧ (x == (38 : Int)) = true) ∨ ((x == (-1 : Int)) = false ∧ (x == (124 : Int)) = false ∧ (x == (38 : Int)) = false ∧ (x == (41 : Int)) = true) := by
        rcases hst with rfl | rfl | rfl | rfl <;> decide
      clear hst
      go_wp2_with fail
      refine HQ.out.mono ?_
      rintro e w2 ⟨rfl, hk2⟩
      have hK2 := hK.kp hk2 (fun _ _ => noB_not _)
      have hkw := hk.trans hk2.any
      have hr2 := hrp.kp hk2 (noB_not _)
      clear hK hk2 hrp hEp hk
      have hks2 := hkw.size
      by_cases hl : ts.length = 1
      · obtain ⟨t, rfl⟩ := List.length_eq_one_iff.1 hl
        obtain ⟨g, cap, y, rfl, hc, hre⟩ := kids_head hK2
        have HRE := Lib.hid hre
        clear hre hK2 hl
        rcases hb with hb1 | ⟨hb1, hb2⟩ | ⟨hb1, hb2, hb3⟩ | ⟨hb1, hb2, hb3, hb4⟩
        all_goals
          go_wp2_with fail
          go_ret
          exact ⟨_, HR.out, _, rfl, hkw, hr2, HRE.out, hap, hps⟩
      · obtain ⟨A, cap, rfl⟩ := kids_open hK2
        have hbl : ((ts.length : Int) == 1) = false := by simp; omega
        have HRE := Lib.hid (isRe_kids 2 0 0 hK2 hks2)
        have HK3 := Lib.hid (hkw.alloc (.cells #[.int .i64 2, .slice none 0 0, .int .i64 0, .int .i64 0, .slice A ts.length cap] 34))
        have HR3 := Lib.hid (hr2.kp ((Kp.refl noB w2).alloc (.cells #[.int .i64 2, .slice none 0 0, .int .i64 0, .int .i64 0, .slice A ts.length cap] 34)) (noB_not _))
        rw [sev_many 2 ts hl] at HR
        clear hK2 hl hkw hr2
        rcases hb with hb1 | ⟨hb1, hb2⟩ | ⟨hb1, hb2, hb3⟩ | ⟨hb1, hb2, hb3, hb4⟩
        all_goals
          go_wp2_with fail
          go_ret
          exact ⟨_, HR.out, _, rfl, HK3.out, HR3.out, HRE.out, hap, hps⟩
    · have hb1 : (x == (-1 : Int)) = false := by simp; omega
      have hb2 : (x == (124 : Int)) = false := by simp; omega
      have hb3 : (x == (38 : Int)) = false := by simp; omega
      have hb4 : (x == (41 : Int)) = false := by simp; omega
      have HST := Lib.hid hst
      rw [← HX.out] at HST
      clear hst
      go_wp2_with fail
      refine HQ.out.mono ?_
      rintro e w2 ⟨rfl, hk2⟩
      have hK2 := hK.kp hk2 (fun _ _ => noB_not _)
      have hkw := hk.trans hk2.any
      have hr2 := hrp.kp hk2 (noB_not _)
      have hE2 := hEp.kp hk2 (fun _ _ => noB_not _)
      have hcr := Lib.hid hrp.c1
      clear hK hk2 hrp hEp hk
      have HP := Lib.hid (HU.out w2 hr2 hE2 hps (by omega) ho)
      go_wp2_with fail
      refine HP.out.mono ?_
      clear HP
      rintro e w3 ⟨r, hev, hT, hadv⟩
      cases r with
      | er c q =>
        obtain ⟨⟨g, rfl, hg⟩, hk3⟩ := hT
        have HR := Lib.hid (HI.out _ (Ev.row_er H2.out HST.out hev))
        clear hev hadv
        go_wp2_with fail
        exact ⟨rfl, _, HR.out, ⟨g, rfl, hg⟩, hkw.trans hk3⟩
      | ok t q =>
        obtain ⟨y, rfl, hk3, hr3, hre, hpq, hqs⟩ := hT
        have hlt := hadv t q rfl
        have HI2 : Hid (∀ r, Ev s (.row (ts ++ [t])) q o r → Ev s (.row []) a o r) := Lib.hid fun r h => HI.out _ (Ev.row_ok H2.out HST.out hev h)
        obtain ⟨z, rfl⟩ := IsRe_ptr hre
        have hfarK := hK2.far
        have hK3 := hK2.kp hk3 (fun k hk => onB_not (by omega))
        have hks2 := hkw.size
        have hks3 := hk3.size
        have hkw3 := hkw.trans hk3
        have hre3 : IsRe w3 (fun k => w.heap.size ≤ k ∧ u3.ownBlock ≠ some k) (.pointer z) t := hre.ok fun k _ hk => ⟨by omega, fun he => by have := (hfarK k he).2; omega⟩
        obtain ⟨ps, hown, hpl, hkids⟩ := hK3
        have HKI := Lib.hid (And.intro hkids hre3)
        have HFAR := Lib.hid hfarK
        clear hev hadv hK2 hre hre3 hkids hfarK
        go_wp2_with (first
          | (at_builtin; refine wpList_append_own_at _ rfl (.tmp 20) (.tmp 23) 32 rfl w.heap.size 22 i0 (.pointer none) 1 8 Tryz.underlying32 hi hz0 hz1 hz2 rfl (by decide) _ _ _ rfl (hown.alloc _) ⟨w3.heap.size, 0, none⟩ 1 1 [.pointer z] rfl rfl (cell_one_new w3 (.pointer z) 22) (fun x hx => by simp at hx; subst hx; rfl) (by unfold maxLen; omega) (by omega) (by simp; omega) ?_; intro v' w9 hown' hgrow9 hnil9 hat9; have R := Lib.hid (kids_push hown hpl HKI.out.1 HKI.out.2 hown' hgrow9 hat9); clear hown' hgrow9 hnil9 hat9))
        have hr9 := hr3.kp R.out.2 (fun he => by have := (HFAR.out b he).1; omega)
        have hk9 : Kp (onB b) w w9 := hkw3.later R.out.2 (fun i hi he => by have := (HFAR.out i he).1; omega)
        go_roundw
        case rel => exact ⟨ts ++ [t], q, R.out.1, hk9, hr9, by omega, hqs, by simp; omega, HI2⟩
        case measure => rw [hr9.c1, hcr.out]; simp only [intOf, Option.getD_some]; omega
end
end Go.Proofs.YtoijabgcgdgacaaGreatDoor

namespace Go.Proofs.YtoijabgcgdgacaaGreatDoor
open Go.RowKit Go.Proofs.Gram Go.Lib

def BothC (T : TypeId) (eb es : Addr) (s : ByteArray) (n : Nat) : Prop := ∀ (b a o : Nat) (w : World), RD s b a o w → Env T eb es w → a ≤ s.size → s.size ≤ a + n → o ≤ 100 →
  Calls Tryz.prog 45 #[.pointer (some ⟨b, 0, none⟩)] w fun e w' => ∃ r, Ev s .both a o r ∧ TP T eb es s b a o w r e w'

section
variable {T : TypeId} {eb es : Addr} {s : ByteArray}

set_option maxRecDepth 100000 in
set_option maxHeartbeats 4000000 in
theorem list_both (hsz : s.size ≤ 65536) {n : Nat} (hU : RowC T eb es s n) (b a o : Nat) (w : World) (hr : RD s b a o w) (hE : Env T eb es w) (ha : a ≤ s.size) (hn : s.size ≤ a + n) (ho : o ≤ 100) :
    Calls Tryz.prog 44 #[.pointer (some ⟨b, 0, none⟩), .int .i64 4, .int .i32 38, .func (.func 94) #[.pointer (some ⟨b, 0, none⟩)] #[]] w fun e w' => ∃ r, Ev s .both a o r ∧ TP T eb es s b a o w r e w' := by
  have hfar := hr.far
  have hblt := hr.lt
  obtain ⟨i0, hi, hz0, hz1, hz2⟩ := info_parts info22
  have HP := Lib.hid (hU b a o w hr hE ha hn ho)
  have HUU := Lib.hid hU
  clear hU
  go_enter Tryz.func44, Tryz.ntmps44
  go_wp2_with fail
  refine HP.out.mono ?_
  clear HP
  rintro e w1 ⟨r, hev, hT⟩
  cases r with
  | er c p =>
    obtain ⟨⟨g, rfl, hg⟩, hk1⟩ := hT
    have HR := Lib.hid (Ev.both_er hev)
    clear hev
    go_wp2_with fail
    exact ⟨rfl, _, HR.out, ⟨g, rfl, hg⟩, hk1⟩
  | ok t1 p1 =>
    obtain ⟨v1, rfl, hk1, hr1, hre1, hap1, hps1⟩ := hT
    obtain ⟨z1, rfl⟩ := IsRe_ptr hre1
    have HEV := Lib.hid (fun r h => Ev.both_ok hev h : ∀ r, Ev s (.bothL [t1]) p1 o r → Ev s .both a o r)
    have HK1 := Lib.hid (kids_one hre1 hk1.size)
    clear hev hre1
    go_wp2_with fail
    go_loopw [9] (fun v wr => ∃ ts p, KidsR wr w.heap.size v ts ∧ Kp (onB b) w wr ∧ RD s b p o wr ∧ a ≤ p ∧ p ≤ s.size ∧ ts.length ≤ p + 1 ∧ Hid (∀ r, Ev s (.bothL ts) p o r → Ev s .both a o r))
      (fun _ wr => s.size - (intOf ((wr.cell? ⟨b, 1, none⟩).getD undef)).toNat)
    case atStart => exact ⟨[t1], p1, HK1.out, hk1.alloc _, hr1.kp ((Kp.refl noB w1).alloc _) (noB_not _), hap1, hps1, by simp, HEV⟩
    case round =>
      clear hr1 hk1 HEV hap1 hps1 HK1
      obtain ⟨ts, p, hK, hk, hrp, hap, hps, htp, HI⟩ := hrel
      have hks := hk.size
      have hEp := hE.kp hk (fun k hk => onB_not (by omega))
      by_cases h2 : pk s p = -2
      · have HQ := Lib.hid (pass_bad 38 hrp hEp hsz h2)
        have HR := Lib.hid (HI.out _ (Ev.bothL_bad h2))
        clear h2
        go_wp2_with fail
        refine HQ.out.mono ?_
        rintro e w2 ⟨⟨g, rfl, hg⟩, hk2⟩
        go_wp2_with fail
        exact ⟨rfl, _, HR.out, by rw [erA_one]; exact ⟨g, rfl, hg⟩, hk.trans hk2.any⟩
      by_cases hs : pk s p = 38
      · have HQ := Lib.hid (pass_yes 38 hrp hEp hsz (by omega) (by omega) hs)
        have HS := Lib.hid hs
        have hpl := pk_lt s p (by omega)
        clear h2 hs
        go_wp2_with fail
        refine HQ.out.mono ?_
        rintro e w2 ⟨rfl, hk2, hr2⟩
        have hK2 := hK.kp hk2 (fun k hk => onB_not (by omega))
        have hkw := hk.trans hk2
        have hE2 := hEp.kp hk2 (fun k hk => onB_not (by omega))
        have hcr := Lib.hid hrp.c1
        clear hK hk2 hrp hEp hk
        have HP := Lib.hid (HUU.out b (p + 1) o w2 hr2 hE2 (by omega) (by omega) ho)
        go_wp2_with fail
        refine HP.out.mono ?_
        clear HP
        rintro e w3 ⟨r, hev, hT⟩
        cases r with
        | er c q =>
          obtain ⟨⟨g, rfl, hg⟩, hk3⟩ := hT
          have HR := Lib.hid (HI.out _ (Ev.bothL_er HS.out hev))
          clear hev
          go_wp2_with fail
          exact ⟨rfl, _, HR.out, ⟨g, rfl, hg⟩, hkw.trans hk3⟩
        | ok t q =>
          obtain ⟨y, rfl, hk3, hr3, hre, hpq, hqs⟩ := hT
          have HI2 : Hid (∀ r, Ev s (.bothL (ts ++ [t])) q o r → Ev s .both a o r) := Lib.hid fun r h => HI.out _ (Ev.bothL_ok HS.out hev h)
          obtain ⟨z, rfl⟩ := IsRe_ptr hre
          have hfarK := hK2.far
          have hK3 := hK2.kp hk3 (fun k hk => onB_not (by omega))
          have hks2 := hkw.size
          have hks3 := hk3.size
          have hkw3 := hkw.trans hk3
          have hre3 : IsRe w3 (fun k => w.heap.size ≤ k ∧ u9.ownBlock ≠ some k) (.pointer z) t := hre.ok fun k _ hk => ⟨by omega, fun he => by have := (hfarK k he).2; omega⟩
          obtain ⟨ps, hown, hpl', hkids⟩ := hK3
          have HKI := Lib.hid (And.intro hkids hre3)
          have HFAR := Lib.hid hfarK
          clear hev hK2 hre hre3 hkids hfarK
          go_wp2_with (first
            | (at_builtin; refine wpList_append_own_at _ rfl (.tmp 16) (.tmp 19) 32 rfl w.heap.size 22 i0 (.pointer none) 1 8 Tryz.underlying32 hi hz0 hz1 hz2 rfl (by decide) _ _ _ rfl (hown.alloc _) ⟨w3.heap.size, 0, none⟩ 1 1 [.pointer z] rfl rfl (cell_one_new w3 (.pointer z) 22) (fun x hx => by simp at hx; subst hx; rfl) (by unfold maxLen; omega) (by omega) (by simp; omega) ?_; intro v' w9 hown' hgrow9 hnil9 hat9; have R := Lib.hid (kids_push hown hpl' HKI.out.1 HKI.out.2 hown' hgrow9 hat9); clear hown' hgrow9 hnil9 hat9))
          have hr9 := hr3.kp R.out.2 (fun he => by have := (HFAR.out b he).1; omega)
          have hk9 : Kp (onB b) w w9 := hkw3.later R.out.2 (fun i hi he => by have := (HFAR.out i he).1; omega)
          go_roundw
          case rel => exact ⟨ts ++ [t], q, R.out.1, hk9, hr9, by omega, hqs, by simp; omega, HI2⟩
          case measure => rw [hr9.c1, hcr.out]; simp only [intOf, Option.getD_some]; omega
      · have HQ := Lib.hid (pass_no 38 hrp hEp hsz h2 hs)
        have HR := Lib.hid (HI.out _ (Ev.bothL_stop h2 hs))
        clear h2 hs
        go_wp2_with fail
        refine HQ.out.mono ?_
        rintro e w2 ⟨rfl, hk2⟩
        have hK2 := hK.kp hk2 (fun _ _ => noB_not _)
        have hkw := hk.trans hk2.any
        have hr2 := hrp.kp hk2 (noB_not _)
        clear hK hk2 hrp hEp hk
        have hks2 := hkw.size
        by_cases hl : ts.length = 1
        · obtain ⟨t, rfl⟩ := List.length_eq_one_iff.1 hl
          obtain ⟨g, cap, y, rfl, hc, hre⟩ := kids_head hK2
          have HRE := Lib.hid hre
          clear hre hK2 hl
          go_wp2_with fail
          go_ret
          exact ⟨_, HR.out, _, rfl, hkw, hr2, HRE.out, hap, hps⟩
        · obtain ⟨A, cap, rfl⟩ := kids_open hK2
          have hbl : ((ts.length : Int) == 1) = false := by simp; omega
          have HRE := Lib.hid (isRe_kids 4 0 0 hK2 hks2)
          have HK3 := Lib.hid (hkw.alloc (.cells #[.int .i64 4, .slice none 0 0, .int .i64 0, .int .i64 0, .slice A ts.length cap] 34))
          have HR3 := Lib.hid (hr2.kp ((Kp.refl noB w2).alloc (.cells #[.int .i64 4, .slice none 0 0, .int .i64 0, .int .i64 0, .slice A ts.length cap] 34)) (noB_not _))
          rw [sev_many 4 ts hl] at HR
          clear hK2 hl hkw hr2
          go_wp2_with fail
          go_ret
          exact ⟨_, HR.out, _, rfl, HK3.out, HR3.out, HRE.out, hap, hps⟩

set_option maxRecDepth 100000 in
theorem both_any (hsz : s.size ≤ 65536) {n : Nat} (hU : RowC T eb es s n) : BothC T eb es s n := by
  intro b a o w hr hE ha hn ho
  have HP := Lib.hid (list_both hsz hU b a o w hr hE ha hn ho)
  clear hU
  go_enter Tryz.func45, Tryz.ntmps45
  go_wp2_with fail
  refine HP.out.mono ?_
  clear HP
  rintro e w1 ⟨r, hev, hT⟩
  cases r with
  | er c p =>
    obtain ⟨⟨g, rfl, hg⟩, hk1⟩ := hT
    have HR := Lib.hid hev
    clear hev
    go_wp2_with fail
    exact ⟨rfl, _, HR.out, ⟨g, rfl, hg⟩, hk1⟩
  | ok t1 p1 =>
    obtain ⟨v1, rfl, hk1, hr1, hre1, hap1, hps1⟩ := hT
    have HR := Lib.hid hev
    clear hev
    go_wp2_with fail
    go_ret
    exact ⟨_, HR.out, _, rfl, hk1, hr1, hre1, hap1, hps1⟩

set_option maxRecDepth 100000 in
set_option maxHeartbeats 4000000 in
theorem list_any (hsz : s.size ≤ 65536) {n : Nat} (hU : BothC T eb es s n) (b a o : Nat) (w : World) (hr : RD s b a o w) (hE : Env T eb es w) (ha : a ≤ s.size) (hn : s.size ≤ a + n) (ho : o ≤ 100) :
    Calls Tryz.prog 44 #[.pointer (some ⟨b, 0, none⟩), .int .i64 3, .int .i32 124, .func (.func 45) #[.pointer (some ⟨b, 0, none⟩)] #[]] w fun e w' => ∃ r, Ev s .any a o r ∧ TP T eb es s b a o w r e w' := by
  have hfar := hr.far
  have hblt := hr.lt
  obtain ⟨i0, hi, hz0, hz1, hz2⟩ := info_parts info22
  have HP := Lib.hid (hU b a o w hr hE ha hn ho)
  have HUU := Lib.hid hU
  clear hU
  go_enter Tryz.func44, Tryz.ntmps44
  go_wp2_with fail
  refine HP.out.mono ?_
  clear HP
  rintro e w1 ⟨r, hev, hT⟩
  cases r with
  | er c p =>
    obtain ⟨⟨g, rfl, hg⟩, hk1⟩ := hT
    have HR := Lib.hid (Ev.any_er hev)
    clear hev
    go_wp2_with fail
    exact ⟨rfl, _, HR.out, ⟨g, rfl, hg⟩, hk1⟩
  | ok t1 p1 =>
    obtain ⟨v1, rfl, hk1, hr1, hre1, hap1, hps1⟩ := hT
    obtain ⟨z1, rfl⟩ := IsRe_ptr hre1
    have HEV := Lib.hid (fun r h => Ev.any_ok hev h : ∀ r, Ev s (.anyL [t1]) p1 o r → Ev s .any a o r)
    have HK1 := Lib.hid (kids_one hre1 hk1.size)
    clear hev hre1
    go_wp2_with fail
    go_loopw [9] (fun v wr => ∃ ts p, KidsR wr w.heap.size v ts ∧ Kp (onB b) w wr ∧ RD s b p o wr ∧ a ≤ p ∧ p ≤ s.size ∧ ts.length ≤ p + 1 ∧ Hid (∀ r, Ev s (.anyL ts) p o r → Ev s .any a o r))
      (fun _ wr => s.size - (intOf ((wr.cell? ⟨b, 1, none⟩).getD undef)).toNat)
    case atStart => exact ⟨[t1], p1, HK1.out, hk1.alloc _, hr1.kp ((Kp.refl noB w1).alloc _) (noB_not _), hap1, hps1, by simp, HEV⟩
    case round =>
      clear hr1 hk1 HEV hap1 hps1 HK1
      obtain ⟨ts, p, hK, hk, hrp, hap, hps, htp, HI⟩ := hrel
      have hks := hk.size
      have hEp := hE.kp hk (fun k hk => onB_not (by omega))
      by_cases h2 : pk s p = -2
      · have HQ := Lib.hid (pass_bad 124 hrp hEp hsz h2)
        have HR := Lib.hid (HI.out _ (Ev.anyL_bad h2))
        clear h2
        go_wp2_with fail
        refine HQ.out.mono ?_
        rintro e w2 ⟨⟨g, rfl, hg⟩, hk2⟩
        go_wp2_with fail
        exact ⟨rfl, _, HR.out, by rw [erA_one]; exact ⟨g, rfl, hg⟩, hk.trans hk2.any⟩
      by_cases hs : pk s p = 124
      · have HQ := Lib.hid (pass_yes 124 hrp hEp hsz (by omega) (by omega) hs)
        have HS := Lib.hid hs
        have hpl := pk_lt s p (by omega)
        clear h2 hs
        go_wp2_with fail
        refine HQ.out.mono ?_
        rintro e w2 ⟨rfl, hk2, hr2⟩
        have hK2 := hK.kp hk2 (fun k hk => onB_not (by omega))
        have hkw := hk.trans hk2
        have hE2 := hEp.kp hk2 (fun k hk => onB_not (by omega))
        have hcr := Lib.hid hrp.c1
        clear hK hk2 hrp hEp hk
        have HP := Lib.hid (HUU.out b (p + 1) o w2 hr2 hE2 (by omega) (by omega) ho)
        go_wp2_with fail
        refine HP.out.mono ?_
        clear HP
        rintro e w3 ⟨r, hev, hT⟩
        cases r with
        | er c q =>
          obtain ⟨⟨g, rfl, hg⟩, hk3⟩ := hT
          have HR := Lib.hid (HI.out _ (Ev.anyL_er HS.out hev))
          clear hev
          go_wp2_with fail
          exact ⟨rfl, _, HR.out, ⟨g, rfl, hg⟩, hkw.trans hk3⟩
        | ok t q =>
          obtain ⟨y, rfl, hk3, hr3, hre, hpq, hqs⟩ := hT
          have HI2 : Hid (∀ r, Ev s (.anyL (ts ++ [t])) q o r → Ev s .any a o r) := Lib.hid fun r h => HI.out _ (Ev.anyL_ok HS.out hev h)
          obtain ⟨z, rfl⟩ := IsRe_ptr hre
          have hfarK := hK2.far
          have hK3 := hK2.kp hk3 (fun k hk => onB_not (by omega))
          have hks2 := hkw.size
          have hks3 := hk3.size
          have hkw3 := hkw.trans hk3
          have hre3 : IsRe w3 (fun k => w.heap.size ≤ k ∧ u9.ownBlock ≠ some k) (.pointer z) t := hre.ok fun k _ hk => ⟨by omega, fun he => by have := (hfarK k he).2; omega⟩
          obtain ⟨ps, hown, hpl', hkids⟩ := hK3
          have HKI := Lib.hid (And.intro hkids hre3)
          have HFAR := Lib.hid hfarK
          clear hev hK2 hre hre3 hkids hfarK
          go_wp2_with (first
            | (at_builtin; refine wpList_append_own_at _ rfl (.tmp 16) (.tmp 19) 32 rfl w.heap.size 22 i0 (.pointer none) 1 8 Tryz.underlying32 hi hz0 hz1 hz2 rfl (by decide) _ _ _ rfl (hown.alloc _) ⟨w3.heap.size, 0, none⟩ 1 1 [.pointer z] rfl rfl (cell_one_new w3 (.pointer z) 22) (fun x hx => by simp at hx; subst hx; rfl) (by unfold maxLen; omega) (by omega) (by simp; omega) ?_; intro v' w9 hown' hgrow9 hnil9 hat9; have R := Lib.hid (kids_push hown hpl' HKI.out.1 HKI.out.2 hown' hgrow9 hat9); clear hown' hgrow9 hnil9 hat9))
          have hr9 := hr3.kp R.out.2 (fun he => by have := (HFAR.out b he).1; omega)
          have hk9 : Kp (onB b) w w9 := hkw3.later R.out.2 (fun i hi he => by have := (HFAR.out i he).1; omega)
          go_roundw
          case rel => exact ⟨ts ++ [t], q, R.out.1, hk9, hr9, by omega, hqs, by simp; omega, HI2⟩
          case measure => rw [hr9.c1, hcr.out]; simp only [intOf, Option.getD_some]; omega
      · have HQ := Lib.hid (pass_no 124 hrp hEp hsz h2 hs)
        have HR := Lib.hid (HI.out _ (Ev.anyL_stop h2 hs))
        clear h2 hs
        go_wp2_with fail
        refine HQ.out.mono ?_
        rintro e w2 ⟨rfl, hk2⟩
        have hK2 := hK.kp hk2 (fun _ _ => noB_not _)
        have hkw := hk.trans hk2.any
        have hr2 := hrp.kp hk2 (noB_not _)
        clear hK hk2 hrp hEp hk
        have hks2 := hkw.size
        by_cases hl : ts.length = 1
        · obtain ⟨t, rfl⟩ := List.length_eq_one_iff.1 hl
          obtain ⟨g, cap, y, rfl, hc, hre⟩ := kids_head hK2
          have HRE := Lib.hid hre
          clear hre hK2 hl
          go_wp2_with fail
          go_ret
          exact ⟨_, HR.out, _, rfl, hkw, hr2, HRE.out, hap, hps⟩
        · obtain ⟨A, cap, rfl⟩ := kids_open hK2
          have hbl : ((ts.length : Int) == 1) = false := by simp; omega
          have HRE := Lib.hid (isRe_kids 3 0 0 hK2 hks2)
          have HK3 := Lib.hid (hkw.alloc (.cells #[.int .i64 3, .slice none 0 0, .int .i64 0, .int .i64 0, .slice A ts.length cap] 34))
          have HR3 := Lib.hid (hr2.kp ((Kp.refl noB w2).alloc (.cells #[.int .i64 3, .slice none 0 0, .int .i64 0, .int .i64 0, .slice A ts.length cap] 34)) (noB_not _))
          rw [sev_many 3 ts hl] at HR
          clear hK2 hl hkw hr2
          go_wp2_with fail
          go_ret
          exact ⟨_, HR.out, _, rfl, HK3.out, HR3.out, HRE.out, hap, hps⟩
end
end Go.Proofs.YtoijabgcgdgacaaGreatDoor
