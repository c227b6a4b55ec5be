/-
  PLAIN LAW, part 27: of what a pattern's parts behind a point come.
  PLAIN LAW, part 28: the list of all that can come of a pattern, behind the suffixes of a text.
  PLAIN LAW, part 29: one point later the list holds what comes of its members that are no rows.
  PLAIN LAW, part 30: one point later the list holds what comes of its rows.
  PLAIN LAW, part 31: the parts of sums and products that come of a pattern lie in its list.
  PLAIN LAW, part 32: what comes of a pattern, step by step: its sums' parts are pieces, its products' parts are what comes of kids of products.
-/
import Derived.Test.YtoijabgcgdgacaaGreatDoorPA
namespace Go.Proofs.Gram

theorem atm_kd (k : Int) : ∀ (n : Nat) (p u : Rx), SizeOf.sizeOf p ≤ n → u ∈ atm k p → u.kd ≠ k ∧ u ≠ .nil := by
  intro n
  induction n with
  | zero => intro p u h; cases p <;> simp at h
  | succ n ih =>
    intro p u hsz hu
    cases p with
    | nil => simp [atm] at hu
    | mk k' s mn mx kids =>
      simp only [Rx.mk.sizeOf_spec] at hsz
      rw [atm] at hu
      split at hu
      · obtain ⟨x, hx, hy⟩ := (mem_atmL k u kids).1 hu
        exact ih x u (by have := List.sizeOf_lt_of_mem hx; omega) hy
      · rename_i h
        rw [List.mem_singleton.1 hu]
        exact ⟨h, by simp⟩
theorem atm_self {k : Int} {u : Rx} (h : u.kd ≠ k) (h0 : u ≠ .nil) : atm k u = [u] := by
  cases u with
  | nil => exact absurd rfl h0
  | mk k' s mn mx kids => rw [atm, if_neg (show ¬ k' = k from h)]

theorem atm_join {k : Int} (hk : k = 3 ∨ k = 4) {l : List Rx} {u : Rx} (hu : u ∈ atm k (joinR k l)) : u = rxNo ∨ ∃ x ∈ l, u ∈ atm k x := by
  have hno : u ∈ atm k rxNo → u = rxNo := by
    intro h
    rw [atm_self (by rcases hk with rfl | rfl <;> simp [rxNo, Rx.kd]) (by simp [rxNo])] at h
    exact List.mem_singleton.1 h
  have hout : ∀ out, joinK k l [] = some out → ∀ x ∈ out, u ∈ atm k x → ∃ x ∈ l, u ∈ atm k x := by
    intro out ho x hx hu
    obtain ⟨y, hy, _, h3⟩ := ((mem_joinK k x l [] out ho).1 hx).resolve_left (by simp)
    have hd := atm_kd k _ y x (Nat.le_refl _) h3
    rw [atm_self hd.1 hd.2] at hu
    rw [List.mem_singleton.1 hu]
    exact ⟨y, hy, h3⟩
  unfold joinR at hu
  split at hu
  · exact .inl (hno hu)
  · exact .inl (hno hu)
  · rename_i x ho
    exact .inr (hout _ ho x (by simp) hu)
  · rename_i out _ _ ho
    rw [atm, if_pos rfl] at hu
    obtain ⟨x, hx, hu⟩ := (mem_atmL k u out).1 hu
    exact .inr (hout _ ho x hx hu)

/-- The parts of which a pattern behind a point is made (or more). -/
inductive Cmp (c : Int) : Rx → Rx → Prop
  | one {x : Rx} : x.kd ≠ 2 → Cmp c x (DR c x)
  | none {s : List (Int × Int)} {mn mx : Int} : Cmp c (.mk 2 s mn mx []) rxNo
  | head {s : List (Int × Int)} {mn mx : Int} {a b : Rx} : Cmp c (.mk 2 s mn mx [a, b]) (catR b (DR c a))
  | tail {s : List (Int × Int)} {mn mx : Int} {a b z : Rx} : Cmp c b z → Cmp c (.mk 2 s mn mx [a, b]) z

theorem cmp_cat {c : Int} {t : Rx} (ht : Gd t) (h1 : isNo t = false) (h2 : isE t = false) : ∀ (n : Nat) (x z : Rx), SizeOf.sizeOf x ≤ n → Gd x → isNo x = false → isE x = false →
    Cmp c (catR t x) z → (∃ y, Cmp c x y ∧ z = catR t y) ∨ Cmp c t z := by
  intro n
  induction n with
  | zero => intro x z h; cases x <;> simp at h
  | succ n ih =>
    intro x z hsz hg hn he hc
    by_cases hk : x.kd = 2
    · cases x with
      | nil => exact absurd hg (by simp [Gd])
      | mk k s mn mx kids =>
        simp only [Rx.kd] at hk
        subst hk
        rcases hg.2.2.1 rfl with rfl | ⟨a, b, rfl, e1, e2, e3, e4⟩
        · simp [isE] at he
        · simp only [Rx.mk.sizeOf_spec, List.cons.sizeOf_spec, List.nil.sizeOf_spec] at hsz
          rw [cat_row h1 h2] at hc
          cases hc with
          | one h => simp [Rx.kd] at h
          | head =>
            refine .inl ⟨_, .head, ?_⟩
            rw [cat_assoc t b hg.2.1.2.1 _ _ (Nat.le_refl _) (dr_ok c _ a (Nat.le_refl _) hg.2.1.1).1]
          | tail h =>
            rcases ih b z (by omega) hg.2.1.2.1 e2 e4 h with ⟨y, hy, e⟩ | h
            · exact .inl ⟨y, .tail hy, e⟩
            · exact .inr h
    · rw [cat_two hg hn h1 h2 hk] at hc
      cases hc with
      | one h => simp [Rx.kd] at h
      | head => exact .inl ⟨_, .one hk, rfl⟩
      | tail h => exact .inr h

theorem atm_dr {c : Int} : ∀ (n : Nat) (x u : Rx), SizeOf.sizeOf x ≤ n → Gd x → u ∈ atm 3 (DR c x) → u = rxNo ∨ ∃ z, Cmp c x z ∧ u ∈ atm 3 z := by
  intro n
  induction n with
  | zero => intro x u h; cases x <;> simp at h
  | succ n ih =>
    intro x u hsz hg hu
    by_cases hk : x.kd = 2
    · cases x with
      | nil => exact absurd hg (by simp [Gd])
      | mk k s mn mx kids =>
        simp only [Rx.kd] at hk
        subst hk
        rw [DR, if_neg (by decide), if_neg (by decide), if_neg (by decide), if_pos rfl] at hu
        rcases hg.2.2.1 rfl with rfl | ⟨a, b, rfl, e1, e2, e3, e4⟩
        · exact .inr ⟨rxNo, .none, hu⟩
        · simp only [Rx.mk.sizeOf_spec, List.cons.sizeOf_spec, List.nil.sizeOf_spec] at hsz
          rw [show tEh [a, b] = tE a from rfl] at hu
          simp only [DL, headR, rowR] at hu
          split at hu
          · rcases atm_join (.inl rfl) hu with h | ⟨y, hy, h⟩
            · exact .inl h
            · simp only [List.mem_cons, List.not_mem_nil, or_false] at hy
              rcases hy with rfl | rfl
              · exact .inr ⟨_, .head, h⟩
              · rcases ih b u (by omega) hg.2.1.2.1 h with h | ⟨z, hz, h⟩
                · exact .inl h
                · exact .inr ⟨z, .tail hz, h⟩
          · exact .inr ⟨_, .head, hu⟩
    · exact .inr ⟨_, .one hk, hu⟩
end Go.Proofs.Gram

namespace Go.Proofs.Gram

noncomputable def Dw (y : Rx) (v : List Int) : Rx := v.foldl (fun q c => DR c q) y
theorem dw_snoc (y : Rx) (v : List Int) (c : Int) : Dw y (v ++ [c]) = DR c (Dw y v) := by simp [Dw]
theorem gd_dw : ∀ (v : List Int) (y : Rx), Gd y → Gd (Dw y v)
  | [], _, h => h
  | c :: v, y, h => gd_dw v (DR c y) (dr_ok c _ y (Nat.le_refl _) h).1

/-- The suffixes, one point later. -/
def stp (c : Int) (S : List (List Int)) : List (List Int) := [] :: S.map (· ++ [c])

/-- The counts that can be left. -/
def cnts : Nat → Int → Int → List (Int × Int)
  | 0, lo, hi => [(lo, hi)]
  | n + 1, lo, hi => (lo, hi) :: cnts n (decR lo) (decR hi)
theorem cnts_self : ∀ (n : Nat) (lo hi : Int), (lo, hi) ∈ cnts n lo hi
  | 0, _, _ => by simp [cnts]
  | n + 1, _, _ => by simp [cnts]
theorem cnts_next : ∀ (n : Nat) (lo hi l h : Int), lo ≤ n → hi ≤ n → (l, h) ∈ cnts n lo hi → (decR l, decR h) ∈ cnts n lo hi
  | 0, lo, hi, l, h, h1, h2, hm => by
    simp only [cnts, List.mem_singleton, Prod.mk.injEq] at hm ⊢
    obtain ⟨rfl, rfl⟩ := hm
    unfold decR
    constructor <;> split <;> omega
  | n + 1, lo, hi, l, h, h1, h2, hm => by
    rw [cnts, List.mem_cons] at hm ⊢
    rcases hm with hm | hm
    · simp only [Prod.mk.injEq] at hm
      obtain ⟨rfl, rfl⟩ := hm
      exact .inr (cnts_self _ _ _)
    · exact .inr (cnts_next n _ _ l h (by unfold decR; split <;> omega) (by unfold decR; split <;> omega) hm)
theorem cnts_ok : ∀ (n : Nat) (lo hi l h : Int), 0 ≤ lo → (hi = -1 ∨ (0 ≤ hi ∧ lo ≤ hi)) → (l, h) ∈ cnts n lo hi → 0 ≤ l ∧ (h = -1 ∨ (0 ≤ h ∧ l ≤ h))
  | 0, lo, hi, l, h, h1, h2, hm => by
    simp only [cnts, List.mem_singleton, Prod.mk.injEq] at hm
    obtain ⟨rfl, rfl⟩ := hm
    exact ⟨h1, h2⟩
  | n + 1, lo, hi, l, h, h1, h2, hm => by
    rw [cnts, List.mem_cons] at hm
    rcases hm with hm | hm
    · simp only [Prod.mk.injEq] at hm
      obtain ⟨rfl, rfl⟩ := hm
      exact ⟨h1, h2⟩
    · exact cnts_ok n _ _ l h (by unfold decR; split <;> omega) (by unfold decR; split <;> split <;> omega) hm

/-- The pieces, by those of the kids. -/
def Qf (k mn mx : Int) (kids : List Rx) (ps : List (List Rx)) : List Rx :=
  if k = 2 then (match kids, ps with
    | [_, t], [p, q] => p.map (catR t) ++ q
    | _, _ => [])
  else if k = 6 then (match kids, ps with
    | [a], [p] => p ++ (cnts (max mn mx).toNat mn mx).flatMap fun c => p.map (catR (repR a c.1 c.2))
    | _, _ => [])
  else if k = 3 ∨ k = 4 then ps.flatten else []

mutual
noncomputable def Pc (S : List (List Int)) : Rx → List Rx
  | .nil => []
  | .mk k s mn mx kids => rxE :: rxNo :: (S.map (Dw (.mk k s mn mx kids)) ++ Qf k mn mx kids (PcL S kids))
noncomputable def PcL (S : List (List Int)) : List Rx → List (List Rx)
  | [] => []
  | x :: l => Pc S x :: PcL S l
end
theorem PcL_map (S : List (List Int)) : ∀ l, PcL S l = l.map (Pc S)
  | [] => rfl
  | x :: l => by rw [PcL, PcL_map S l]; rfl

theorem pc_gd (S : List (List Int)) : ∀ (n : Nat) (y x : Rx), SizeOf.sizeOf y ≤ n → Gd y → x ∈ Pc S y → Gd x := by
  intro n
  induction n with
  | zero => intro y x h; cases y <;> simp at h
  | succ n ih =>
    intro y x hsz hg hx
    cases y with
    | nil => simp [Pc] at hx
    | mk k s mn mx kids =>
      simp only [Rx.mk.sizeOf_spec] at hsz
      rw [Pc, List.mem_cons, List.mem_cons, List.mem_append] at hx
      rcases hx with rfl | rfl | hx | hx
      · exact gd_e
      · exact gd_no
      · obtain ⟨v, _, rfl⟩ := List.mem_map.1 hx
        exact gd_dw v _ hg
      · obtain ⟨hk, hgl, h2, h34, h5, h6⟩ := hg
        have hgl' := gdL_iff.1 hgl
        unfold Qf at hx
        split at hx
        · rename_i e
          subst e
          rcases h2 rfl with rfl | ⟨a, t, rfl, _⟩
          · simp at hx
          · simp only [List.cons.sizeOf_spec, List.nil.sizeOf_spec] at hsz
            simp only [PcL, List.mem_append, List.mem_map] at hx
            rcases hx with ⟨z, hz, rfl⟩ | hx
            · exact gd_cat (hgl' t (by simp)) _ _ (Nat.le_refl _) (ih a z (by omega) (hgl' a (by simp)) hz)
            · exact ih t x (by omega) (hgl' t (by simp)) hx
        · split at hx
          · rename_i e
            subst e
            obtain ⟨a, rfl⟩ := List.length_eq_one_iff.1 (h6 rfl).1
            have h7 := (h6 rfl).2
            simp only [List.cons.sizeOf_spec, List.nil.sizeOf_spec] at hsz
            simp only [PcL, List.mem_append, List.mem_flatMap, List.mem_map] at hx
            rcases hx with hx | ⟨⟨l, h⟩, hc, z, hz, rfl⟩
            · exact ih a x (by omega) (hgl' a (by simp)) hx
            · have := cnts_ok _ _ _ l h h7.1 (by omega) hc
              exact gd_cat (gd_rep (hgl' a (by simp)) this.1 this.2) _ _ (Nat.le_refl _) (ih a z (by omega) (hgl' a (by simp)) hz)
          · split at hx
            · rw [PcL_map] at hx
              simp only [List.mem_flatten, List.mem_map] at hx
              obtain ⟨_, ⟨z, hz, rfl⟩, hx⟩ := hx
              exact ih z x (by have := List.sizeOf_lt_of_mem hz; omega) (hgl' z hz) hx
            · simp at hx
end Go.Proofs.Gram

namespace Go.Proofs.Gram

theorem pc_q {S : List (List Int)} {k mn mx : Int} {s : List (Int × Int)} {kids : List Rx} {z : Rx} (h : z ∈ Qf k mn mx kids (PcL S kids)) : z ∈ Pc S (.mk k s mn mx kids) := by
  rw [Pc, List.mem_cons, List.mem_cons, List.mem_append]
  exact .inr (.inr (.inr h))
theorem pc_no {S : List (List Int)} {k mn mx : Int} {s : List (Int × Int)} {kids : List Rx} : rxNo ∈ Pc S (.mk k s mn mx kids) := by
  rw [Pc]; simp
theorem pc_w {S : List (List Int)} {y : Rx} (hy : Gd y) {v : List Int} (hv : v ∈ S) : Dw y v ∈ Pc S y := by
  cases y with
  | nil => exact absurd hy (by simp [Gd])
  | mk k s mn mx kids =>
    rw [Pc, List.mem_cons, List.mem_cons, List.mem_append]
    exact .inr (.inr (.inl (List.mem_map.2 ⟨v, hv, rfl⟩)))
theorem stp_mem {S : List (List Int)} {v : List Int} (c : Int) (h : v ∈ S) : v ++ [c] ∈ stp c S := by
  unfold stp
  exact List.mem_cons_of_mem _ (List.mem_map.2 ⟨v, h, rfl⟩)

theorem dr_no (c : Int) : DR c rxNo = rxNo := by
  unfold rxNo
  rw [DR, if_pos rfl, if_neg]
  · rfl
  · rw [inB_iff]; simp [inR]

theorem cat_kd2 {z t : Rx} (hz : Gd z) (h1 : isNo z = false) (h2 : isE z = false) (h3 : isNo t = false) (h4 : isE t = false) : (catR t z).kd = 2 := by
  by_cases hk : z.kd = 2
  · cases z with
    | nil => exact absurd hz (by simp [Gd])
    | mk k s mn mx kids =>
      simp only [Rx.kd] at hk
      subst hk
      rcases hz.2.2.1 rfl with rfl | ⟨a, b, rfl, _⟩
      · simp [isE] at h2
      · rw [cat_row h3 h4]; rfl
  · rw [cat_two hz h1 h3 h4 hk]; rfl

theorem s1 (c : Int) (S : List (List Int)) (hS : [] ∈ S) : ∀ (n : Nat) (y x : Rx), SizeOf.sizeOf y ≤ n → Gd y → x ∈ Pc S y → x.kd ≠ 2 → DR c x ∈ Pc (stp c S) y := by
  intro n
  induction n with
  | zero => intro y x h; cases y <;> simp at h
  | succ n ih =>
    intro y x hsz hg hx hkd
    cases y with
    | nil => simp [Pc] at hx
    | mk k s mn mx kids =>
      simp only [Rx.mk.sizeOf_spec] at hsz
      have hg' := hg
      rw [Pc, List.mem_cons, List.mem_cons, List.mem_append] at hx
      rcases hx with rfl | rfl | hx | hx
      · simp [rxE, Rx.kd] at hkd
      · rw [dr_no]; exact pc_no
      · obtain ⟨v, hv, rfl⟩ := List.mem_map.1 hx
        rw [← dw_snoc]
        exact pc_w hg (stp_mem c hv)
      · obtain ⟨hk, hgl, h2, h34, h5, h6⟩ := hg
        have hgl' := gdL_iff.1 hgl
        unfold Qf at hx
        split at hx
        · rename_i e
          subst e
          rcases h2 rfl with rfl | ⟨a, t, rfl, e1, e2, e3, e4⟩
          · simp at hx
          · simp only [List.cons.sizeOf_spec, List.nil.sizeOf_spec] at hsz
            have ga := hgl' a (by simp)
            have gt := hgl' t (by simp)
            simp only [PcL, List.mem_append, List.mem_map] at hx
            have hq : ∀ z, z ∈ Pc (stp c S) t → z ∈ Pc (stp c S) (.mk 2 s mn mx [a, t]) := fun z hz => pc_q (by
              unfold Qf
              rw [if_pos rfl]
              simp only [PcL, List.mem_append]
              exact .inr hz)
            rcases hx with ⟨z, hz, rfl⟩ | hx
            · have gz := pc_gd S _ a z (Nat.le_refl _) ga hz
              cases hn : isNo z with
              | true => rw [cat_no_left hn, dr_no]; exact pc_no
              | false =>
                cases he : isE z with
                | true =>
                  rw [cat_e_left he e2] at hkd ⊢
                  exact hq _ (ih t t (by omega) gt (pc_w (v := []) gt hS) hkd)
                | false => exact absurd (cat_kd2 gz hn he e2 e4) hkd
            · exact hq _ (ih t x (by omega) gt hx hkd)
        · rename_i ek2
          split at hx
          · rename_i e
            subst e
            obtain ⟨a, rfl⟩ := List.length_eq_one_iff.1 (h6 rfl).1
            have h7 := (h6 rfl).2
            have ga := hgl' a (by simp)
            simp only [List.cons.sizeOf_spec, List.nil.sizeOf_spec] at hsz
            simp only [PcL, List.mem_append, List.mem_flatMap, List.mem_map] at hx
            have hq1 : ∀ z, z ∈ Pc (stp c S) a → z ∈ Pc (stp c S) (.mk 6 s mn mx [a]) := fun z hz => pc_q (by
              unfold Qf
              rw [if_neg (by decide), if_pos rfl]
              simp only [PcL, List.mem_append]
              exact .inl hz)
            have hq2 : ∀ l h z, (l, h) ∈ cnts (max mn mx).toNat mn mx → z ∈ Pc (stp c S) a → catR (repR a l h) z ∈ Pc (stp c S) (.mk 6 s mn mx [a]) := fun l h z hc hz => pc_q (by
              unfold Qf
              rw [if_neg (by decide), if_pos rfl]
              simp only [PcL, List.mem_append, List.mem_flatMap, List.mem_map]
              exact .inr ⟨(l, h), hc, z, hz, rfl⟩)
            rcases hx with hx | ⟨⟨l, h⟩, hc, z, hz, rfl⟩
            · exact hq1 _ (ih a x (by omega) ga hx hkd)
            · have gz := pc_gd S _ a z (Nat.le_refl _) ga hz
              have hlh := cnts_ok _ _ _ l h h7.1 (by omega) hc
              simp only at hkd ⊢
              cases hn : isNo z with
              | true => rw [cat_no_left hn, dr_no]; exact pc_no
              | false =>
              cases hr : isNo (repR a l h) with
              | true => rw [cat_no_right gz hr, dr_no]; exact pc_no
              | false =>
              cases he : isE z with
              | true =>
                rw [cat_e_left he hr] at hkd ⊢
                have hrep : repR a l h = .mk 6 [] l h [a] := by
                  unfold repR at hkd hr ⊢
                  split
                  · rename_i q; rw [if_pos q] at hkd; simp [rxE, Rx.kd] at hkd
                  · rename_i q
                    rw [if_neg q] at hkd hr
                    split
                    · rename_i q2; rw [if_pos q2] at hr; simp [rxNo, isNo] at hr
                    · rename_i q2
                      rw [if_neg q2] at hkd
                      split
                      · rename_i q3; rw [if_pos q3] at hkd; simp [rxE, Rx.kd] at hkd
                      · rfl
                rw [hrep, DR, if_neg (by decide), if_neg (by decide), if_pos rfl]
                simp only [DL, headR]
                refine hq2 _ _ _ (cnts_next _ _ _ _ _ (by omega) (by omega) hc) ?_
                exact pc_w (v := [c]) ga (stp_mem (v := []) c hS)
              | false =>
              cases hre : isE (repR a l h) with
              | true =>
                rw [cat_e_right gz hn he hre] at hkd ⊢
                exact hq1 _ (ih a z (by omega) ga hz hkd)
              | false => exact absurd (cat_kd2 gz hn he hr hre) hkd
          · split at hx
            · rename_i ek6 ek
              rw [PcL_map] at hx
              simp only [List.mem_flatten, List.mem_map] at hx
              obtain ⟨_, ⟨z, hz, rfl⟩, hx⟩ := hx
              refine pc_q ?_
              unfold Qf
              rw [if_neg ek2, if_neg ek6, if_pos ek, PcL_map]
              simp only [List.mem_flatten, List.mem_map]
              exact ⟨_, ⟨z, hz, rfl⟩, ih z x (by have := List.sizeOf_lt_of_mem hz; omega) (hgl' z hz) hx hkd⟩
            · simp at hx
end Go.Proofs.Gram

namespace Go.Proofs.Gram

/-- The pieces of a pattern. -/
def Qe (S : List (List Int)) : Rx → Rx → Prop
  | .nil, _ => False
  | .mk k _ mn mx kids, z => z = rxE ∨ z = rxNo ∨ z ∈ Qf k mn mx kids (PcL S kids)
theorem qe_pc {S : List (List Int)} : ∀ {y z : Rx}, Qe S y z → z ∈ Pc S y
  | .nil, _, h => h.elim
  | .mk k s mn mx kids, z, h => by
    rw [Pc]
    rcases h with rfl | rfl | h
    · simp
    · simp
    · simp [h]

theorem rep_kd {a : Rx} {l h : Int} (hr : isNo (repR a l h) = false) (he : isE (repR a l h) = false) : repR a l h = .mk 6 [] l h [a] := by
  unfold repR at hr he ⊢
  split
  · rename_i q; rw [if_pos q] at he; simp [rxE, isE] at he
  · rename_i q
    rw [if_neg q] at he hr
    split
    · rename_i q2; rw [if_pos q2] at hr; simp [rxNo, isNo] at hr
    · rename_i q2
      rw [if_neg q2] at he
      split
      · rename_i q3; rw [if_pos q3] at he; simp [rxE, isE] at he
      · rfl
theorem rep_e {a : Rx} {l h : Int} (he : isE (repR a l h) = true) : repR a l h = rxE := by
  unfold repR at he ⊢
  split
  · rfl
  · rename_i q
    rw [if_neg q] at he
    split
    · rename_i q2; rw [if_pos q2] at he; simp [rxNo, isE] at he
    · rename_i q2
      rw [if_neg q2] at he
      split
      · rfl
      · rename_i q3; rw [if_neg q3] at he; simp [isE] at he
theorem cmp_e {c : Int} {z : Rx} (h : Cmp c rxE z) : z = rxNo := by
  unfold rxE at h
  cases h with
  | one h => simp [Rx.kd] at h
  | none => rfl

theorem s2 (c : Int) (S : List (List Int)) (hS : [] ∈ S) (HW : ∀ y, Gd y → ∀ v ∈ S, (Dw y v).kd = 2 → Qe S y (Dw y v) ∨ Dw y v = y) :
    ∀ (n : Nat) (y x z : Rx), SizeOf.sizeOf y ≤ n → Gd y → x ∈ Pc S y → x.kd = 2 → Cmp c x z → Qe (stp c S) y z := by
  intro n
  induction n with
  | zero => intro y x z h; cases y <;> simp at h
  | succ n ih =>
    intro y x z hsz hg hx hkd hc
    have hcmp : ∀ (t : Rx), SizeOf.sizeOf t ≤ n → Gd t → ∀ x z, x ∈ Pc S t → Cmp c x z → z ∈ Pc (stp c S) t := by
      intro t ht gt x z hx hc
      by_cases hk : x.kd = 2
      · exact qe_pc (ih t x z ht gt hx hk hc)
      · cases hc with
        | one => exact s1 c S hS _ t x (Nat.le_refl _) gt hx hk
        | none => simp [Rx.kd] at hk
        | head => simp [Rx.kd] at hk
        | tail => simp [Rx.kd] at hk
    cases y with
    | nil => simp [Pc] at hx
    | mk k s mn mx kids =>
      simp only [Rx.mk.sizeOf_spec] at hsz
      obtain ⟨hk, hgl, h2, h34, h5, h6⟩ := id hg
      have hgl' := gdL_iff.1 hgl
      have hq2 : ∀ a t w, kids = [a, t] → k = 2 → w ∈ Pc (stp c S) a → Qe (stp c S) (.mk k s mn mx kids) (catR t w) := fun a t w e e' hw => by
        subst e; subst e'
        refine .inr (.inr ?_)
        unfold Qf
        rw [if_pos rfl]
        simp only [PcL, List.mem_append, List.mem_map]
        exact .inl ⟨w, hw, rfl⟩
      have hq3 : ∀ a t w, kids = [a, t] → k = 2 → w ∈ Pc (stp c S) t → Qe (stp c S) (.mk k s mn mx kids) w := fun a t w e e' hw => by
        subst e; subst e'
        refine .inr (.inr ?_)
        unfold Qf
        rw [if_pos rfl]
        simp only [PcL, List.mem_append, List.mem_map]
        exact .inr hw
      have hx' : x = rxE ∨ x = .mk k s mn mx kids ∨ x ∈ Qf k mn mx kids (PcL S kids) := by
        rw [Pc, List.mem_cons, List.mem_cons, List.mem_append] at hx
        rcases hx with h | rfl | h | h
        · exact .inl h
        · simp [rxNo, Rx.kd] at hkd
        · obtain ⟨v, hv, rfl⟩ := List.mem_map.1 h
          rcases HW _ hg v hv hkd with (h | h | h) | h
          · exact .inl h
          · rw [h] at hkd; simp [rxNo, Rx.kd] at hkd
          · exact .inr (.inr h)
          · exact .inr (.inl h)
        · exact .inr (.inr h)
      clear hx
      rcases hx' with rfl | rfl | hx
      · rw [cmp_e hc]; exact .inr (.inl rfl)
      · simp only [Rx.kd] at hkd
        subst hkd
        rcases h2 rfl with rfl | ⟨a, t, rfl, e1, e2, e3, e4⟩
        · cases hc with
          | one h => simp [Rx.kd] at h
          | none => exact .inr (.inl rfl)
        · simp only [List.cons.sizeOf_spec, List.nil.sizeOf_spec] at hsz
          cases hc with
          | one h => simp [Rx.kd] at h
          | head => exact hq2 a t _ rfl rfl (pc_w (v := [c]) (hgl' a (by simp)) (stp_mem (v := []) c hS))
          | tail h => exact hq3 a t _ rfl rfl (hcmp t (by omega) (hgl' t (by simp)) t z (pc_w (v := []) (hgl' t (by simp)) hS) h)
      · unfold Qf at hx
        split at hx
        · rename_i e
          subst e
          rcases h2 rfl with rfl | ⟨a, t, rfl, e1, e2, e3, e4⟩
          · simp at hx
          · simp only [List.cons.sizeOf_spec, List.nil.sizeOf_spec] at hsz
            have ga := hgl' a (by simp)
            have gt := hgl' t (by simp)
            simp only [PcL, List.mem_append, List.mem_map] at hx
            rcases hx with ⟨w, hw, rfl⟩ | hx
            · have gw := pc_gd S _ a w (Nat.le_refl _) ga hw
              cases hn : isNo w with
              | true => rw [cat_no_left hn] at hkd; simp [rxNo, Rx.kd] at hkd
              | false =>
              cases he : isE w with
              | true =>
                rw [cat_e_left he e2] at hc
                exact hq3 a t _ rfl rfl (hcmp t (by omega) gt t z (pc_w (v := []) gt hS) hc)
              | false =>
                rcases cmp_cat gt e2 e4 _ w z (Nat.le_refl _) gw hn he hc with ⟨y0, hy0, rfl⟩ | h
                · exact hq2 a t _ rfl rfl (hcmp a (by omega) ga w y0 hw hy0)
                · exact hq3 a t _ rfl rfl (hcmp t (by omega) gt t z (pc_w (v := []) gt hS) h)
            · exact hq3 a t _ rfl rfl (hcmp t (by omega) gt x z hx hc)
        · rename_i ek2
          split at hx
          · rename_i e
            subst e
            obtain ⟨a, rfl⟩ := List.length_eq_one_iff.1 (h6 rfl).1
            have h7 := (h6 rfl).2
            have ga := hgl' a (by simp)
            simp only [List.cons.sizeOf_spec, List.nil.sizeOf_spec] at hsz
            simp only [PcL, List.mem_append, List.mem_flatMap, List.mem_map] at hx
            have hp1 : ∀ w, w ∈ Pc (stp c S) a → Qe (stp c S) (.mk 6 s mn mx [a]) w := fun w hw => .inr (.inr (by
              unfold Qf
              rw [if_neg (by decide), if_pos rfl]
              simp only [PcL, List.mem_append]
              exact .inl hw))
            have hp2 : ∀ l h w, (l, h) ∈ cnts (max mn mx).toNat mn mx → w ∈ Pc (stp c S) a → Qe (stp c S) (.mk 6 s mn mx [a]) (catR (repR a l h) w) := fun l h w hc hw => .inr (.inr (by
              unfold Qf
              rw [if_neg (by decide), if_pos rfl]
              simp only [PcL, List.mem_append, List.mem_flatMap, List.mem_map]
              exact .inr ⟨(l, h), hc, w, hw, rfl⟩))
            rcases hx with hx | ⟨⟨l, h⟩, hm, w, hw, rfl⟩
            · exact hp1 _ (hcmp a (by omega) ga x z hx hc)
            · have gw := pc_gd S _ a w (Nat.le_refl _) ga hw
              have hlh := cnts_ok _ _ _ l h h7.1 (by omega) hm
              simp only at hkd hc
              cases hn : isNo w with
              | true => rw [cat_no_left hn] at hkd; simp [rxNo, Rx.kd] at hkd
              | false =>
              cases hr : isNo (repR a l h) with
              | true => rw [cat_no_right gw hr] at hkd; simp [rxNo, Rx.kd] at hkd
              | false =>
              cases hre : isE (repR a l h) with
              | true =>
                cases he : isE w with
                | true =>
                  rw [cat_e_left he hr, rep_e hre] at hc
                  rw [cmp_e hc]; exact .inr (.inl rfl)
                | false =>
                  rw [cat_e_right gw hn he hre] at hc
                  exact hp1 _ (hcmp a (by omega) ga w z hw hc)
              | false =>
                have hrep := rep_kd hr hre
                have hone : ∀ z, Cmp c (repR a l h) z → Qe (stp c S) (.mk 6 s mn mx [a]) z := by
                  intro z hz
                  rw [hrep] at hz
                  cases hz with
                  | one _ =>
                    rw [DR, if_neg (by decide), if_neg (by decide), if_pos rfl]
                    simp only [DL, headR]
                    exact hp2 _ _ _ (cnts_next _ _ _ _ _ (by omega) (by omega) hm) (pc_w (v := [c]) ga (stp_mem (v := []) c hS))
                cases he : isE w with
                | true =>
                  rw [cat_e_left he hr] at hc
                  exact hone z hc
                | false =>
                  rcases cmp_cat (gd_rep ga hlh.1 hlh.2) hr hre _ w z (Nat.le_refl _) gw hn he hc with ⟨y0, hy0, rfl⟩ | h
                  · exact hp2 l h _ hm (hcmp a (by omega) ga w y0 hw hy0)
                  · exact hone z h
          · split at hx
            · rename_i ek6 ek
              rw [PcL_map] at hx
              simp only [List.mem_flatten, List.mem_map] at hx
              obtain ⟨_, ⟨w, hw, rfl⟩, hx⟩ := hx
              refine .inr (.inr ?_)
              unfold Qf
              rw [if_neg ek2, if_neg ek6, if_pos ek, PcL_map]
              simp only [List.mem_flatten, List.mem_map]
              exact ⟨_, ⟨w, hw, rfl⟩, hcmp w (by have := List.sizeOf_lt_of_mem hw; omega) (hgl' w hw) x z hx hc⟩
            · simp at hx
end Go.Proofs.Gram

namespace Go.Proofs.Gram

/-- The kids that can come to the top. -/
inductive Kid : Rx → Rx → Prop
  | row {s : List (Int × Int)} {mn mx : Int} {h t : Rx} : Kid (.mk 2 s mn mx [h, t]) t
  | any {k mn mx : Int} {s : List (Int × Int)} {kids : List Rx} {x : Rx} : (k = 3 ∨ k = 4 ∨ k = 6) → x ∈ kids → Kid (.mk k s mn mx kids) x
theorem kid_lt {y x : Rx} (h : Kid y x) : SizeOf.sizeOf x < SizeOf.sizeOf y := by
  cases h with
  | row => simp only [Rx.mk.sizeOf_spec, List.cons.sizeOf_spec]; omega
  | any h hx =>
    have := List.sizeOf_lt_of_mem hx
    simp only [Rx.mk.sizeOf_spec]
    omega
theorem kid_gd {y x : Rx} (hg : Gd y) (h : Kid y x) : Gd x := by
  cases h with
  | row => exact hg.2.1.2.1
  | any h hx => exact gdL_iff.1 hg.2.1 x hx
theorem kid_qe {S : List (List Int)} {y x z : Rx} (hg : Gd y) (h : Kid y x) (hz : z ∈ Pc S x) : Qe S y z := by
  cases h with
  | row =>
    refine .inr (.inr ?_)
    unfold Qf
    rw [if_pos rfl]
    simp only [PcL, List.mem_append]
    exact .inr hz
  | any h hx =>
    refine .inr (.inr ?_)
    unfold Qf
    rcases h with rfl | rfl | rfl
    · rw [if_neg (by decide), if_neg (by decide), if_pos (.inl rfl), PcL_map]
      simp only [List.mem_flatten, List.mem_map]
      exact ⟨_, ⟨_, hx, rfl⟩, hz⟩
    · rw [if_neg (by decide), if_neg (by decide), if_pos (.inr rfl), PcL_map]
      simp only [List.mem_flatten, List.mem_map]
      exact ⟨_, ⟨_, hx, rfl⟩, hz⟩
    · obtain ⟨a, rfl⟩ := List.length_eq_one_iff.1 (hg.2.2.2.2.2 rfl).1
      rw [List.mem_singleton.1 hx] at hz
      rw [if_neg (by decide), if_pos rfl]
      simp only [PcL, List.mem_append]
      exact .inl hz

def tl2 : List (List Rx) → List Rx
  | [_, q] => q
  | _ => []
mutual
/-- The kids of products that can come to the top. -/
def AK : Rx → List Rx
  | .nil => []
  | .mk k _ _ _ kids => if k = 4 then kids ++ (AKL kids).flatten else if k = 2 then tl2 (AKL kids) else if k = 3 ∨ k = 6 then (AKL kids).flatten else []
def AKL : List Rx → List (List Rx)
  | [] => []
  | x :: l => AK x :: AKL l
end
theorem AKL_map : ∀ l, AKL l = l.map AK
  | [] => rfl
  | x :: l => by rw [AKL, AKL_map l]; rfl
theorem ak_kid {y x u : Rx} (h : Kid y x) (hu : u ∈ AK x) : u ∈ AK y := by
  cases h with
  | row => rw [AK, if_neg (by decide), if_pos rfl]; exact hu
  | any h hx =>
    have hf : ∀ kids : List Rx, x ∈ kids → u ∈ (AKL kids).flatten := fun kids hx => by
      rw [AKL_map]
      exact List.mem_flatten.2 ⟨_, List.mem_map.2 ⟨_, hx, rfl⟩, hu⟩
    rw [AK]
    rcases h with rfl | rfl | rfl
    · rw [if_neg (by decide), if_neg (by decide), if_pos (.inl rfl)]; exact hf _ hx
    · rw [if_pos rfl]; exact List.mem_append.2 (.inr (hf _ hx))
    · rw [if_neg (by decide), if_neg (by decide), if_pos (.inr rfl)]; exact hf _ hx
theorem ak_cases {y u : Rx} (hg : Gd y) (hu : u ∈ AK y) : (y.kd = 4 ∧ Kid y u) ∨ ∃ x, Kid y x ∧ u ∈ AK x := by
  cases y with
  | nil => simp [AK] at hu
  | mk k s mn mx kids =>
    have hf : (k = 3 ∨ k = 4 ∨ k = 6) → u ∈ (AKL kids).flatten → ∃ x, Kid (.mk k s mn mx kids) x ∧ u ∈ AK x := fun hk h => by
      rw [AKL_map] at h
      obtain ⟨_, h1, h2⟩ := List.mem_flatten.1 h
      obtain ⟨x, hx, rfl⟩ := List.mem_map.1 h1
      exact ⟨x, .any hk hx, h2⟩
    rw [AK] at hu
    split at hu
    · rename_i e
      rcases List.mem_append.1 hu with h | h
      · exact .inl ⟨e, .any (by omega) h⟩
      · exact .inr (hf (by omega) h)
    · split at hu
      · rename_i e
        subst e
        rcases hg.2.2.1 rfl with rfl | ⟨a, t, rfl, _⟩
        · simp [AKL, tl2] at hu
        · exact .inr ⟨t, .row, hu⟩
      · split at hu
        · exact .inr (hf (by omega) hu)
        · simp at hu
theorem ak_ok : ∀ (n : Nat) (y u : Rx), SizeOf.sizeOf y ≤ n → Gd y → u ∈ AK y → Gd u ∧ SizeOf.sizeOf u < SizeOf.sizeOf y ∧ (∀ w ∈ AK u, w ∈ AK y) ∧ ∀ S z, z ∈ Pc S u → Qe S y z := by
  intro n
  induction n with
  | zero => intro y u h; cases y <;> simp at h
  | succ n ih =>
    intro y u hsz hg hu
    rcases ak_cases hg hu with ⟨_, h⟩ | ⟨x, h, hx⟩
    · exact ⟨kid_gd hg h, kid_lt h, fun w hw => ak_kid h hw, fun S z hz => kid_qe hg h hz⟩
    · have hl := kid_lt h
      obtain ⟨h1, h2, h3, h4⟩ := ih x u (by omega) (kid_gd hg h) hx
      exact ⟨h1, by omega, fun w hw => ak_kid h (h3 w hw), fun S z hz => kid_qe hg h (qe_pc (h4 S z hz))⟩

theorem qe_cases {S : List (List Int)} (hS : [] ∈ S) {y z : Rx} (hg : Gd y) (h : Qe S y z) : z = rxE ∨ z = rxNo ∨ (∃ x, Kid y x ∧ z ∈ Pc S x) ∨
    (∃ s mn mx a l u, y = .mk 6 s mn mx [a] ∧ z = .mk 6 [] l u [a] ∧ (l, u) ∈ cnts (max mn mx).toNat mn mx) ∨
    (z.kd = 2 ∧ ∃ z0 t, z = catR t z0 ∧ Gd z0 ∧ isNo z0 = false ∧ isE z0 = false ∧ isNo t = false ∧ isE t = false ∧
      ((∃ s mn mx x, y = .mk 2 s mn mx [x, t] ∧ z0 ∈ Pc S x) ∨ ∃ s mn mx a l u, y = .mk 6 s mn mx [a] ∧ t = .mk 6 [] l u [a] ∧ z0 ∈ Pc S a)) := by
  cases y with
  | nil => exact h.elim
  | mk k s mn mx kids =>
    rcases h with h | h | hx
    · exact .inl h
    · exact .inr (.inl h)
    · obtain ⟨hk, hgl, h2, h34, h5, h6⟩ := id hg
      have hgl' := gdL_iff.1 hgl
      unfold Qf at hx
      split at hx
      · rename_i e
        subst e
        rcases h2 rfl with rfl | ⟨a, t, rfl, e1, e2, e3, e4⟩
        · simp at hx
        · have ga := hgl' a (by simp)
          have gt := hgl' t (by simp)
          simp only [PcL, List.mem_append, List.mem_map] at hx
          rcases hx with ⟨w, hw, rfl⟩ | hx
          · have gw := pc_gd S _ a w (Nat.le_refl _) ga hw
            cases hn : isNo w with
            | true => exact .inr (.inl (cat_no_left hn))
            | false =>
            cases he : isE w with
            | true => exact .inr (.inr (.inl ⟨t, .row, by rw [cat_e_left he e2]; exact pc_w (v := []) gt hS⟩))
            | false => exact .inr (.inr (.inr (.inr ⟨cat_kd2 gw hn he e2 e4, w, t, rfl, gw, hn, he, e2, e4, .inl ⟨s, mn, mx, a, rfl, hw⟩⟩)))
          · exact .inr (.inr (.inl ⟨t, .row, hx⟩))
      · rename_i ek2
        split at hx
        · rename_i e
          subst e
          obtain ⟨a, rfl⟩ := List.length_eq_one_iff.1 (h6 rfl).1
          have h7 := (h6 rfl).2
          have ga := hgl' a (by simp)
          simp only [PcL, List.mem_append, List.mem_flatMap, List.mem_map] at hx
          rcases hx with hx | ⟨⟨l, u⟩, hm, w, hw, rfl⟩
          · exact .inr (.inr (.inl ⟨a, .any (by simp) (by simp), hx⟩))
          · have gw := pc_gd S _ a w (Nat.le_refl _) ga hw
            simp only at hm ⊢
            cases hn : isNo w with
            | true => exact .inr (.inl (cat_no_left hn))
            | false =>
            cases hr : isNo (repR a l u) with
            | true => exact .inr (.inl (cat_no_right gw hr))
            | false =>
            cases he : isE w with
            | true =>
              rw [cat_e_left he hr]
              cases hre : isE (repR a l u) with
              | true => exact .inl (rep_e hre)
              | false => exact .inr (.inr (.inr (.inl ⟨s, mn, mx, a, l, u, rfl, rep_kd hr hre, hm⟩)))
            | false =>
              cases hre : isE (repR a l u) with
              | true =>
                rw [cat_e_right gw hn he hre]
                exact .inr (.inr (.inl ⟨a, .any (by simp) (by simp), hw⟩))
              | false => exact .inr (.inr (.inr (.inr ⟨cat_kd2 gw hn he hr hre, w, _, rfl, gw, hn, he, hr, hre, .inr ⟨s, mn, mx, a, l, u, rfl, rep_kd hr hre, hw⟩⟩)))
        · split at hx
          · rename_i ek6 ek
            rw [PcL_map] at hx
            simp only [List.mem_flatten, List.mem_map] at hx
            obtain ⟨_, ⟨x, hx', rfl⟩, hx⟩ := hx
            exact .inr (.inr (.inl ⟨x, .any (by omega) hx', hx⟩))
          · simp at hx

end Go.Proofs.Gram

namespace Go.Proofs.Gram

theorem s1q (c : Int) (S : List (List Int)) (hS : [] ∈ S) (y x : Rx) (hg : Gd y) (hx : Qe S y x) (hkd : x.kd ≠ 2) : Qe (stp c S) y (DR c x) := by
  rcases qe_cases hS hg hx with rfl | rfl | ⟨z, hz, h⟩ | ⟨s, mn, mx, a, l, u, rfl, rfl, hm⟩ | ⟨h, _⟩
  · simp [rxE, Rx.kd] at hkd
  · rw [dr_no]
    cases y with
    | nil => exact hx.elim
    | mk => exact .inr (.inl rfl)
  · exact kid_qe hg hz (s1 c S hS _ z x (Nat.le_refl _) (kid_gd hg hz) h hkd)
  · have h7 := (hg.2.2.2.2.2 rfl).2
    rw [DR, if_neg (by decide), if_neg (by decide), if_pos rfl]
    simp only [DL, headR]
    refine .inr (.inr ?_)
    unfold Qf
    rw [if_neg (by decide), if_pos rfl]
    simp only [PcL, List.mem_append, List.mem_flatMap, List.mem_map]
    exact .inr ⟨(decR l, decR u), cnts_next _ _ _ _ _ (by omega) (by omega) hm, _, pc_w (v := [c]) hg.2.1.1 (stp_mem (v := []) c hS), rfl⟩
  · exact absurd h hkd

theorem kd_of_dr5 {c : Int} {y : Rx} (h : y.kd = 5) : (DR c y).kd = 5 := by
  cases y with
  | nil => simp [Rx.kd] at h
  | mk k s mn mx kids =>
    simp only [Rx.kd] at h
    subst h
    rw [DR, if_neg (by decide), if_pos rfl]
    rfl
theorem kd_of_dw5 : ∀ (v : List Int) {y : Rx}, y.kd = 5 → (Dw y v).kd = 5
  | [], _, h => h
  | _ :: v, _, h => kd_of_dw5 v (kd_of_dr5 h)

theorem atm_no {k : Int} (hk : k = 3 ∨ k = 4) : atm k rxNo = [rxNo] := atm_self (by rcases hk with rfl | rfl <;> simp [rxNo, Rx.kd]) (by simp [rxNo])
theorem gd_ne {x : Rx} (h : Gd x) : x ≠ .nil := fun e => by rw [e] at h; exact h.elim

theorem atm_dk {c k : Int} (hk : k = 3 ∨ k = 4) : ∀ (n : Nat) (x u : Rx), SizeOf.sizeOf x ≤ n → Gd x → u ∈ atm k (DR c x) → u = rxNo ∨ ∃ u0 ∈ atm k x, u ∈ atm k (DR c u0) := by
  intro n
  induction n with
  | zero => intro x u h; cases x <;> simp at h
  | succ n ih =>
    intro x u hsz hg hu
    cases x with
    | nil => exact hg.elim
    | mk k' s mn mx kids =>
      simp only [Rx.mk.sizeOf_spec] at hsz
      by_cases h : k' = k
      · subst h
        rw [atm, if_pos rfl]
        have e : DR c (.mk k' s mn mx kids) = joinR k' (DL c kids) := by
          rcases hk with rfl | rfl <;> rw [DR, if_neg (by decide), if_neg (by decide), if_neg (by decide), if_neg (by decide)]
        rw [e] at hu
        rcases atm_join hk hu with h | ⟨y, hy, h⟩
        · exact .inl h
        · rw [DL_map] at hy
          obtain ⟨x, hx, rfl⟩ := List.mem_map.1 hy
          rcases ih x u (by have := List.sizeOf_lt_of_mem hx; omega) (gdL_iff.1 hg.2.1 x hx) h with h | ⟨u0, h1, h2⟩
          · exact .inl h
          · exact .inr ⟨u0, (mem_atmL k' u0 kids).2 ⟨x, hx, h1⟩, h2⟩
      · refine .inr ⟨_, ?_, hu⟩
        rw [atm, if_neg h]
        simp

/-! what holds of all that comes of a pattern behind the suffixes S -/
def Wc (S : List (List Int)) (y : Rx) (v : List Int) : Prop := ∀ u ∈ atm 3 (Dw y v), Qe S y u ∨ u = y ∨ (u = Dw y v ∧ (y.kd = 4 ∧ u.kd = 4 ∨ y.kd = 5 ∧ u.kd = 5))
def Pt (S : List (List Int)) (y u : Rx) : Prop := u = rxNo ∨ ∃ k ∈ AK y, ∃ v ∈ S, u = Dw k v
def Ic (S : List (List Int)) (y : Rx) : Prop := ∀ x ∈ Pc S y, x.kd = 4 → ∀ u ∈ atm 4 x, Pt S y u
def Iy (S : List (List Int)) (y : Rx) : Prop := y.kd = 4 → ∀ v ∈ S, ∀ u ∈ atm 4 (Dw y v), Pt S y u
def Inv (S : List (List Int)) : Prop := ∀ y, Gd y → (∀ v ∈ S, Wc S y v) ∧ Ic S y ∧ Iy S y

def Aq (S : List (List Int)) (y : Rx) : Prop := ∀ z, Qe S y z → ∀ u ∈ atm 3 z, Qe S y u
def Ac (S : List (List Int)) (y : Rx) : Prop := ∀ z ∈ Pc S y, ∀ u ∈ atm 3 z, u ∈ Pc S y

theorem pt_kid {S : List (List Int)} {y x u : Rx} (h : Kid y x) (hu : Pt S x u) : Pt S y u := by
  rcases hu with h0 | ⟨k, hk, v, hv, e⟩
  · exact .inl h0
  · exact .inr ⟨k, ak_kid h hk, v, hv, e⟩
theorem pt_ak {S : List (List Int)} {y x u : Rx} (hg : Gd y) (h : x ∈ AK y) (hu : Pt S x u) : Pt S y u := by
  rcases hu with h0 | ⟨k, hk, v, hv, e⟩
  · exact .inl h0
  · exact .inr ⟨k, (ak_ok _ y x (Nat.le_refl _) hg h).2.2.1 k hk, v, hv, e⟩

theorem aq_of {S : List (List Int)} (hS : [] ∈ S) {y : Rx} (hg : Gd y) (hA : ∀ x, Kid y x → Ac S x) : Aq S y := by
  intro z hz u hu
  have hno : Qe S y rxNo := by
    cases y with
    | nil => exact hg.elim
    | mk => exact .inr (.inl rfl)
  have one : z.kd ≠ 3 → z ≠ .nil → Qe S y u := fun h h0 => by
    rw [atm_self h h0] at hu
    rw [List.mem_singleton.1 hu]
    exact hz
  rcases qe_cases hS hg hz with rfl | rfl | ⟨x, hx, h⟩ | ⟨s, mn, mx, a, l, t, rfl, rfl, _⟩ | ⟨h, z0, t, rfl, _⟩
  · exact one (by simp [rxE, Rx.kd]) (by simp [rxE])
  · exact one (by simp [rxNo, Rx.kd]) (by simp [rxNo])
  · exact kid_qe hg hx (hA x hx z h u hu)
  · exact one (by simp [Rx.kd]) (by simp)
  · exact one (by omega) (fun e => by rw [e] at h; simp [Rx.kd] at h)

theorem pc_cases {S : List (List Int)} {y z : Rx} (h : z ∈ Pc S y) : Qe S y z ∨ ∃ v ∈ S, z = Dw y v := by
  cases y with
  | nil => simp [Pc] at h
  | mk k s mn mx kids =>
    rw [Pc, List.mem_cons, List.mem_cons, List.mem_append] at h
    rcases h with h | h | h | h
    · exact .inl (.inl h)
    · exact .inl (.inr (.inl h))
    · obtain ⟨v, hv, e⟩ := List.mem_map.1 h
      exact .inr ⟨v, hv, e.symm⟩
    · exact .inl (.inr (.inr h))

theorem ac_of {S : List (List Int)} (hS : [] ∈ S) {y : Rx} (hg : Gd y) (hQ : Aq S y) (hW : ∀ v ∈ S, Wc S y v) : Ac S y := by
  intro z hz u hu
  rcases pc_cases hz with h | ⟨v, hv, rfl⟩
  · exact qe_pc (hQ z h u hu)
  · rcases hW v hv u hu with h | rfl | ⟨rfl, _⟩
    · exact qe_pc h
    · exact pc_w (v := []) hg hS
    · exact pc_w hg hv

theorem ac_all {S : List (List Int)} (hS : [] ∈ S) : ∀ (n : Nat), (∀ y, SizeOf.sizeOf y < n → Gd y → ∀ v ∈ S, Wc S y v) → ∀ y, SizeOf.sizeOf y < n → Gd y → Ac S y := by
  intro n hW
  have H : ∀ (m : Nat) (y : Rx), SizeOf.sizeOf y ≤ m → SizeOf.sizeOf y < n → Gd y → Ac S y := by
    intro m
    induction m with
    | zero => intro y h; cases y <;> simp at h
    | succ m ih =>
      intro y hm hn hg
      exact ac_of hS hg (aq_of hS hg fun x hx => by have := kid_lt hx; exact ih x (by omega) (by omega) (kid_gd hg hx)) (hW y hn hg)
  exact fun y hn hg => H _ y (Nat.le_refl _) hn hg

theorem hw_of {S : List (List Int)} (h : Inv S) (y : Rx) (hg : Gd y) (v : List Int) (hv : v ∈ S) (hk : (Dw y v).kd = 2) : Qe S y (Dw y v) ∨ Dw y v = y := by
  have hm : Dw y v ∈ atm 3 (Dw y v) := by
    rw [atm_self (by omega) (gd_ne (gd_dw v y hg))]
    simp
  rcases (h y hg).1 v hv _ hm with h | h | ⟨_, h⟩
  · exact .inl h
  · exact .inr h
  · omega

/-- The step. -/
theorem inv_core {S : List (List Int)} (hS : [] ∈ S) (hst : ∀ v ∈ S, v = [] ∨ ∃ c S0 v0, S = stp c S0 ∧ Inv S0 ∧ [] ∈ S0 ∧ v0 ∈ S0 ∧ v = v0 ++ [c]) : Inv S := by
  have H : ∀ (n : Nat) (y : Rx), SizeOf.sizeOf y ≤ n → Gd y → (∀ v ∈ S, Wc S y v) ∧ Ic S y ∧ Iy S y := by
    intro n
    induction n with
    | zero => intro y h; cases y <;> simp at h
    | succ n ih =>
      intro y hsz hg
      have hA : ∀ x, SizeOf.sizeOf x < SizeOf.sizeOf y → Gd x → Ac S x := ac_all hS _ fun x hx gx => (ih x (by omega) gx).1
      have hQ : Aq S y := aq_of hS hg fun x hx => hA x (kid_lt hx) (kid_gd hg hx)
      have hno : Qe S y rxNo := by
        cases y with
        | nil => exact hg.elim
        | mk => exact .inr (.inl rfl)
      have hIy : Iy S y := by
        intro hk v hv u hu
        rcases hst v hv with rfl | ⟨c, S0, v0, rfl, hI, h0, hv0, rfl⟩
        · cases y with
          | nil => exact hg.elim
          | mk k s mn mx kids =>
            simp only [Rx.kd] at hk
            subst hk
            rw [show Dw (.mk 4 s mn mx kids) [] = .mk 4 s mn mx kids from rfl, atm, if_pos rfl] at hu
            obtain ⟨x, hx, hu⟩ := (mem_atmL 4 u kids).1 hu
            have hx' : Kid (.mk 4 s mn mx kids) x := .any (by simp) hx
            have gx := kid_gd hg hx'
            have hlt := kid_lt hx'
            by_cases h4 : x.kd = 4
            · exact pt_kid hx' ((ih x (by omega) gx).2.2 h4 [] hS u hu)
            · rw [atm_self h4 (gd_ne gx)] at hu
              rw [List.mem_singleton.1 hu]
              refine .inr ⟨x, ?_, [], hS, rfl⟩
              rw [AK, if_pos rfl]
              exact List.mem_append.2 (.inl hx)
        · rw [dw_snoc] at hu
          rcases atm_dk (.inr rfl) _ _ u (Nat.le_refl _) (gd_dw v0 y hg) hu with h | ⟨u0, h1, h2⟩
          · exact .inl h
          · rcases (hI y hg).2.2 hk v0 hv0 u0 h1 with rfl | ⟨k, hk', v', hv', rfl⟩
            · rw [dr_no, atm_no (.inr rfl)] at h2
              exact .inl (List.mem_singleton.1 h2)
            · have ho := ak_ok _ y k (Nat.le_refl _) hg hk'
              rw [← dw_snoc] at h2
              by_cases h4 : (Dw k (v' ++ [c])).kd = 4
              · exact pt_ak hg hk' ((ih k (by omega) ho.1).2.1 _ (pc_w ho.1 (stp_mem c hv')) h4 u h2)
              · rw [atm_self h4 (gd_ne (gd_dw _ _ ho.1))] at h2
                rw [List.mem_singleton.1 h2]
                exact .inr ⟨k, hk', _, stp_mem c hv', rfl⟩
      have hW : ∀ v ∈ S, Wc S y v := by
        intro v hv u hu
        by_cases h5 : y.kd = 5
        · have h := kd_of_dw5 v h5
          rw [atm_self (by omega) (gd_ne (gd_dw v y hg))] at hu
          rw [List.mem_singleton.1 hu]
          exact .inr (.inr ⟨rfl, .inr ⟨h5, h⟩⟩)
        by_cases h4 : y.kd = 4
        · by_cases hk : (Dw y v).kd = 4
          · rw [atm_self (by omega) (gd_ne (gd_dw v y hg))] at hu
            rw [List.mem_singleton.1 hu]
            exact .inr (.inr ⟨rfl, .inl ⟨h4, hk⟩⟩)
          · left
            have hm : Dw y v ∈ atm 4 (Dw y v) := by
              rw [atm_self hk (gd_ne (gd_dw v y hg))]
              simp
            rcases hIy h4 v hv _ hm with e | ⟨k, hk', v', hv', e⟩
            · rw [e, atm_no (.inl rfl)] at hu
              rw [List.mem_singleton.1 hu]
              exact hno
            · have ho := ak_ok _ y k (Nat.le_refl _) hg hk'
              rw [e] at hu
              exact ho.2.2.2 S u (hA k ho.2.1 ho.1 _ (pc_w ho.1 hv') u hu)
        rcases hst v hv with rfl | ⟨c, S0, v0, rfl, hI, h0, hv0, rfl⟩
        · have hu : u ∈ atm 3 y := hu
          by_cases h3 : y.kd = 3
          · cases y with
            | nil => exact hg.elim
            | mk k s mn mx kids =>
              simp only [Rx.kd] at h3
              subst h3
              rw [atm, if_pos rfl] at hu
              obtain ⟨x, hx, hu⟩ := (mem_atmL 3 u kids).1 hu
              have hx' : Kid (.mk 3 s mn mx kids) x := .any (by simp) hx
              have gx := kid_gd hg hx'
              exact .inl (kid_qe hg hx' (hA x (kid_lt hx') gx x (pc_w (v := []) gx hS) u hu))
          · rw [atm_self h3 (gd_ne hg)] at hu
            exact .inr (.inl (List.mem_singleton.1 hu))
        · left
          rw [dw_snoc] at hu
          rcases atm_dk (.inl rfl) _ _ u (Nat.le_refl _) (gd_dw v0 y hg) hu with h | ⟨u0, h1, h2⟩
          · rw [h]; exact hno
          · have gu := gd_atm 3 _ _ u0 (Nat.le_refl _) (gd_dw v0 y hg) h1
            have hs2 : u0 ∈ Pc S0 y → u0.kd = 2 → Qe (stp c S0) y u := fun hm hk => by
              rcases atm_dr _ u0 u (Nat.le_refl _) gu h2 with h | ⟨z, hz, h⟩
              · rw [h]; exact hno
              · exact hQ z (s2 c S0 h0 (hw_of hI) _ y u0 z (Nat.le_refl _) hg hm hk hz) u h
            rcases (hI y hg).1 v0 hv0 u0 h1 with h | rfl | ⟨_, h⟩
            · by_cases hk : u0.kd = 2
              · exact hs2 (qe_pc h) hk
              · exact hQ _ (s1q c S0 h0 y u0 hg h hk) u h2
            · by_cases hk : u0.kd = 2
              · exact hs2 (pc_w (v := []) hg h0) hk
              · have h3 := (atm_kd 3 _ _ u0 (Nat.le_refl _) h1).1
                refine hQ _ ?_ u h2
                cases u0 with
                | nil => exact hg.elim
                | mk k s mn mx kids =>
                  simp only [Rx.kd] at h3 h4 h5 hk
                  have hk' := hg.1
                  have hk6 : k = 1 ∨ k = 6 := by omega
                  rcases hk6 with rfl | rfl
                  · rw [DR, if_pos rfl]
                    split
                    · exact .inl rfl
                    · exact .inr (.inl rfl)
                  · obtain ⟨a, rfl⟩ := List.length_eq_one_iff.1 (hg.2.2.2.2.2 rfl).1
                    have h7 := (hg.2.2.2.2.2 rfl).2
                    have ga := hg.2.1.1
                    rw [DR, if_neg (by decide), if_neg (by decide), if_pos rfl]
                    simp only [DL, headR]
                    refine .inr (.inr ?_)
                    unfold Qf
                    rw [if_neg (by decide), if_pos rfl]
                    simp only [PcL, List.mem_append, List.mem_flatMap, List.mem_map]
                    exact .inr ⟨(decR mn, decR mx), cnts_next _ _ _ _ _ (by omega) (by omega) (cnts_self _ _ _), _, pc_w (v := [c]) ga (stp_mem (v := []) c h0), rfl⟩
            · omega
      refine ⟨hW, ?_, hIy⟩
      intro x hx hk u hu
      have hq : Qe S y x → Pt S y u := fun h => by
        rcases qe_cases hS hg h with rfl | rfl | ⟨z, hz, h⟩ | ⟨s, mn, mx, a, l, t, rfl, rfl, _⟩ | ⟨h, _⟩
        · simp [rxE, Rx.kd] at hk
        · simp [rxNo, Rx.kd] at hk
        · have := kid_lt hz
          exact pt_kid hz ((ih z (by omega) (kid_gd hg hz)).2.1 x h hk u hu)
        · simp [Rx.kd] at hk
        · omega
      rcases pc_cases hx with h | ⟨v, hv, rfl⟩
      · exact hq h
      · by_cases h4 : y.kd = 4
        · exact hIy h4 v hv u hu
        · have hm : Dw y v ∈ atm 3 (Dw y v) := by
            rw [atm_self (by omega) (gd_ne (gd_dw v y hg))]
            simp
          rcases hW v hv _ hm with h | h | ⟨_, h⟩
          · exact hq h
          · rw [h] at hk; exact absurd hk h4
          · omega
  exact fun y hg => H _ y (Nat.le_refl _) hg

theorem snoc_ind {P : List Int → Prop} (h0 : P []) (h1 : ∀ w c, P w → P (w ++ [c])) (w : List Int) : P w := by
  have H : ∀ l : List Int, P l.reverse := by
    intro l
    induction l with
    | nil => exact h0
    | cons a l ih => rw [List.reverse_cons]; exact h1 _ _ ih
  have := H w.reverse
  rwa [List.reverse_reverse] at this

/-- The suffixes of a text. -/
def Sf : List Int → List (List Int)
  | w => w.foldl (fun S c => stp c S) [[]]
theorem sf_snoc (w : List Int) (c : Int) : Sf (w ++ [c]) = stp c (Sf w) := by simp [Sf]
theorem sf_nil (w : List Int) : [] ∈ Sf w := by
  induction w using snoc_ind with
  | h0 => simp [Sf]
  | h1 w c _ => rw [sf_snoc]; simp [stp]
theorem sf_self (w : List Int) : w ∈ Sf w := by
  induction w using snoc_ind with
  | h0 => simp [Sf]
  | h1 w c ih => rw [sf_snoc]; exact stp_mem c ih
theorem sf_len (w : List Int) : (Sf w).length = w.length + 1 := by
  induction w using snoc_ind with
  | h0 => simp [Sf]
  | h1 w c ih => rw [sf_snoc]; simp [stp, ih]
theorem inv_sf (w : List Int) : Inv (Sf w) := by
  induction w using snoc_ind with
  | h0 => exact inv_core (sf_nil _) fun v hv => .inl (by simpa [Sf] using hv)
  | h1 w c ih =>
    refine inv_core (sf_nil _) fun v hv => ?_
    rw [sf_snoc] at hv ⊢
    unfold stp at hv
    rcases List.mem_cons.1 hv with h | h
    · exact .inl h
    · obtain ⟨v0, h1, h2⟩ := List.mem_map.1 h
      exact .inr ⟨c, Sf w, v0, rfl, ih, sf_nil w, h1, h2.symm⟩
end Go.Proofs.Gram
