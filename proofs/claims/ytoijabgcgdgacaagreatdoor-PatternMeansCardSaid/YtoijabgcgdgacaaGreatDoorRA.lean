/-
  PLAIN LAW, part 12: sets made one by their edges, as the reference does it.
  PLAIN LAW, rp: a point as the reference reads it.
  WALKS, ra: the reference's points: one byte more; a point.
  WALKS, rb: the reference's points: a point of a text.
  WALKS, ba: the reference's points: a lead byte's class.
  WALKS, bb: the reference's points: a lead byte's class.
  WALKS, bc: the reference's points: a lead byte's class.
  WALKS, bd: the reference's points: a lead byte's class.
  WALKS, be: the reference's points: a lead byte's class.
  WALKS, bf: the reference's points: a lead byte's class.
  WALKS, bg: the reference's points: a lead byte's class.
  WALKS, rbh: the reference's points: a point of a text, joined.
  WALKS, rc: the reference's reader: what is wrong; the point at the place; a step; a sign.
  WALKS, rd: the reference's reader: the point at the place; a step; a sign; a sign that must stand.
  WALKS, rda: the reference's reader: the point at a place where no point is.
  WALKS, rdb: the reference's reader: a step over the point at the place.
-/
import Derived.Test.YtoijabgcgdgacaaGreatDoorGB
import Derived.Lib.DecodeN
import Derived.Test.YtoijabgcgdgacaaGreatDoorGD
import Derived.Test.YtoijabgcgdgacaaGreatDoorGE
namespace Go.Proofs.Gram

/-- A number put into an ascending list, once. -/
def insN : List Int → Int → List Int
  | [], n => [n]
  | x :: l, n => if x < n then x :: insN l n else if x = n then x :: l else n :: x :: l

/-- How many stand ahead of it. -/
def lowN : List Int → Int → Nat
  | [], _ => 0
  | x :: l, n => if x < n then lowN l n + 1 else 0

theorem lowN_le : ∀ (l : List Int) (n : Int), lowN l n ≤ l.length
  | [], n => by simp [lowN]
  | x :: l, n => by
    have := lowN_le l n
    rw [lowN]
    split <;> simp <;> omega
theorem lowN_lt : ∀ (l : List Int) (n : Int) (k : Nat) (x : Int), k < lowN l n → l[k]? = some x → x < n
  | [], n, k, x, h, _ => by simp [lowN] at h
  | y :: l, n, k, x, h, hx => by
    rw [lowN] at h
    split at h
    · cases k with
      | zero => simp at hx; omega
      | succ k => exact lowN_lt l n k x (by omega) (by simpa using hx)
    · omega
theorem lowN_at : ∀ (l : List Int) (n : Int) (x : Int), l[lowN l n]? = some x → ¬ x < n
  | [], n, x, h => by simp [lowN] at h
  | y :: l, n, x, h => by
    rw [lowN] at h
    split at h
    · exact lowN_at l n x (by simpa using h)
    · simp at h; omega
/-- The same, as a step from a place where all ahead are less. -/
theorem lowN_eq (l : List Int) (n : Int) (k : Nat) (h : ∀ i x, i < k → l[i]? = some x → x < n) (hk : k ≤ l.length) (hs : ∀ x, l[k]? = some x → ¬ x < n) : lowN l n = k := by
  rcases Nat.lt_trichotomy (lowN l n) k with h1 | h1 | h1
  · have h2 : l[lowN l n]? = some (l[lowN l n]'(by omega)) := by simp
    exact absurd (h _ _ h1 h2) (lowN_at l n _ h2)
  · exact h1
  · have := lowN_le l n
    have h2 : l[k]? = some (l[k]'(by omega)) := by simp
    exact absurd (lowN_lt l n k _ h1 h2) (hs _ h2)
theorem insN_in : ∀ (l : List Int) (n : Int), l[lowN l n]? = some n → insN l n = l
  | [], n, h => by simp [lowN] at h
  | x :: l, n, h => by
    rw [lowN] at h
    rw [insN]
    split at h
    · rw [if_pos (by assumption), insN_in l n (by simpa using h)]
    · simp at h
      rw [if_neg (by assumption), if_pos h]
theorem insN_out : ∀ (l : List Int) (n : Int), l[lowN l n]? ≠ some n → insN l n = l.take (lowN l n) ++ [n] ++ l.drop (lowN l n)
  | [], n, _ => rfl
  | x :: l, n, h => by
    rw [lowN] at h ⊢
    rw [insN]
    by_cases hx : x < n
    · rw [if_pos hx] at h ⊢
      rw [if_pos hx, insN_out l n (by simpa using h)]
      simp
    · rw [if_neg hx] at h ⊢
      rw [if_neg hx, if_neg (by simpa using h)]
      simp
theorem insN_length (l : List Int) (n : Int) : (insN l n).length ≤ l.length + 1 := by
  by_cases h : l[lowN l n]? = some n
  · rw [insN_in l n h]; omega
  · rw [insN_out l n h]
    have := lowN_le l n
    simp
    omega
theorem insN_mem : ∀ (l : List Int) (n x : Int), x ∈ insN l n ↔ x ∈ l ∨ x = n
  | [], n, x => by simp [insN]
  | y :: l, n, x => by
    rw [insN]
    split
    · rw [List.mem_cons, insN_mem l n x, List.mem_cons]
      exact ⟨fun h => h.elim (fun h => .inl (.inl h)) fun h => h.elim (fun h => .inl (.inr h)) .inr, fun h => h.elim (fun h => h.elim .inl fun h => .inr (.inl h)) fun h => .inr (.inr h)⟩
    · split
      · rename_i h
        constructor
        · exact .inl
        · rintro (h' | h')
          · exact h'
          · rw [h', ← h]; simp
      · simp only [List.mem_cons]
        exact ⟨fun h => h.elim .inr fun h => .inl h, fun h => h.elim (fun h => .inr h) .inl⟩
theorem insN_asc : ∀ (l : List Int) (n : Int), l.Pairwise (· < ·) → (insN l n).Pairwise (· < ·)
  | [], n, _ => by simp [insN]
  | y :: l, n, h => by
    obtain ⟨h1, h2⟩ := List.pairwise_cons.1 h
    rw [insN]
    split
    · refine List.pairwise_cons.2 ⟨fun x hx => ?_, insN_asc l n h2⟩
      rcases (insN_mem l n x).1 hx with h | h
      · exact h1 x h
      · omega
    · split
      · exact h
      · refine List.pairwise_cons.2 ⟨fun x hx => ?_, h⟩
        rcases List.mem_cons.1 hx with rfl | h
        · omega
        · have := h1 x h; omega

/-- Edges: ascending, from 0 to the one behind the last. -/
def Edg (l : List Int) : Prop := l.Pairwise (· < ·) ∧ l[0]? = some 0 ∧ 2 ≤ l.length ∧ l[l.length - 1]? = some 1114112

theorem Edg.bnd {l : List Int} (h : Edg l) {x : Int} (hx : x ∈ l) : 0 ≤ x ∧ x ≤ 1114112 := by
  obtain ⟨h1, h2, h3, h4⟩ := h
  obtain ⟨i, hi, rfl⟩ := List.getElem_of_mem hx
  have a0 : l[0]'(by omega) = 0 := by simpa [List.getElem?_eq_getElem (show 0 < l.length by omega)] using h2
  have a1 : l[l.length - 1]'(by omega) = 1114112 := by simpa [List.getElem?_eq_getElem (show l.length - 1 < l.length by omega)] using h4
  have hp := List.pairwise_iff_getElem.1 h1
  constructor
  · rcases Nat.eq_zero_or_pos i with rfl | h
    · omega
    · have := hp 0 i (by omega) hi h; omega
  · rcases Nat.lt_or_ge i (l.length - 1) with h | h
    · have := hp i (l.length - 1) hi (by omega) h; omega
    · have : i = l.length - 1 := by omega
      subst this
      omega

/-- Where a number from 1 to the last point goes. -/
theorem Edg.low {l : List Int} (h : Edg l) {n : Int} (h0 : 0 < n) (hn : n < 1114112) : 0 < lowN l n ∧ lowN l n < l.length := by
  obtain ⟨h1, h2, h3, h4⟩ := h
  constructor
  · rcases Nat.eq_zero_or_pos (lowN l n) with h | h
    · exact absurd h0 (lowN_at l n 0 (by rw [h]; exact h2))
    · exact h
  · rcases Nat.lt_or_ge (lowN l n) l.length with h | h
    · exact h
    · have := lowN_lt l n (l.length - 1) _ (by omega) h4
      omega
theorem Edg.ins {l : List Int} (h : Edg l) {n : Int} (h0 : 0 < n) (hn : n < 1114112) : Edg (insN l n) := by
  obtain ⟨k1, k2⟩ := h.low h0 hn
  by_cases hi : l[lowN l n]? = some n
  · rw [insN_in l n hi]; exact h
  · refine ⟨insN_asc l n h.1, ?_, ?_, ?_⟩
    · rw [insN_out l n hi, List.append_assoc, List.getElem?_append_left (by simp; omega)]
      rw [List.getElem?_take_of_lt k1]
      exact h.2.1
    · rw [insN_out l n hi]
      simp
      omega
    · rw [insN_out l n hi]
      simp only [List.length_append, List.length_take, List.length_drop, List.length_singleton]
      rw [List.getElem?_append_right (by simp; omega)]
      simp only [List.length_append, List.length_take, List.length_singleton]
      rw [List.getElem?_drop, ← h.2.2.2]
      congr 1
      omega

/-- One set's edges put in. -/
def edge (l : List Int) (r : Int × Int) : List Int :=
  let l1 := if 0 < r.1 ∧ r.1 ≤ 1114111 then insN l r.1 else l
  if 0 ≤ r.2 ∧ r.2 < 1114111 then insN l1 (r.2 + 1) else l1
def edges (l : List Int) (s : List (Int × Int)) : List Int := s.foldl edge l
theorem edges_snoc (l : List Int) (s : List (Int × Int)) (r : Int × Int) : edges l (s ++ [r]) = edge (edges l s) r := by simp [edges]

theorem Edg.edge {l : List Int} (h : Edg l) (r : Int × Int) : Edg (edge l r) := by
  have h1 : Edg (if 0 < r.1 ∧ r.1 ≤ 1114111 then insN l r.1 else l) := by
    split
    · exact h.ins (by omega) (by omega)
    · exact h
  simp only [Gram.edge]
  split
  · exact h1.ins (by omega) (by omega)
  · exact h1
theorem edge_length (l : List Int) (r : Int × Int) : (edge l r).length ≤ l.length + 2 := by
  have h1 : (if 0 < r.1 ∧ r.1 ≤ 1114111 then insN l r.1 else l).length ≤ l.length + 1 := by
    split
    · exact insN_length _ _
    · omega
  simp only [Gram.edge]
  split
  · have := insN_length (if 0 < r.1 ∧ r.1 ≤ 1114111 then insN l r.1 else l) (r.2 + 1); omega
  · omega
theorem edge_mem (l : List Int) (r : Int × Int) (x : Int) : x ∈ edge l r ↔ x ∈ l ∨ (x = r.1 ∧ 0 < x ∧ x ≤ 1114111) ∨ (x = r.2 + 1 ∧ 0 < x ∧ x ≤ 1114111) := by
  have h1 : x ∈ (if 0 < r.1 ∧ r.1 ≤ 1114111 then insN l r.1 else l) ↔ x ∈ l ∨ (x = r.1 ∧ 0 < x ∧ x ≤ 1114111) := by
    split
    · rw [insN_mem]
      refine or_congr_right ?_
      omega
    · refine ⟨.inl, fun h => h.elim id ?_⟩
      omega
  simp only [Gram.edge]
  split
  · rw [insN_mem, h1, or_assoc]
    refine or_congr_right (or_congr_right ?_)
    omega
  · rw [h1]
    refine ⟨fun h => h.elim .inl fun h => .inr (.inl h), fun h => h.elim .inl fun h => h.elim .inr ?_⟩
    omega
theorem Edg.edges {l : List Int} : ∀ (s : List (Int × Int)), Edg l → Edg (edges l s) := by
  intro s
  induction s generalizing l with
  | nil => exact id
  | cons r s ih => intro h; exact ih (h.edge r)
theorem edges_length : ∀ (s : List (Int × Int)) (l : List Int), (edges l s).length ≤ l.length + 2 * s.length := by
  intro s
  induction s with
  | nil => intro l; simp [edges]
  | cons r s ih =>
    intro l
    have h1 := ih (edge l r)
    have h2 := edge_length l r
    simp only [edges, List.foldl_cons, List.length_cons] at *
    omega
theorem edges_mem : ∀ (s : List (Int × Int)) (l : List Int) (x : Int), x ∈ edges l s ↔ x ∈ l ∨ ∃ r ∈ s, (x = r.1 ∧ 0 < x ∧ x ≤ 1114111) ∨ (x = r.2 + 1 ∧ 0 < x ∧ x ≤ 1114111) := by
  intro s
  induction s with
  | nil => intro l x; simp [edges]
  | cons r s ih =>
    intro l x
    have := ih (edge l r) x
    simp only [edges, List.foldl_cons] at this ⊢
    rw [this, edge_mem, or_assoc]
    refine or_congr_right ?_
    simp

def ends : List Int := [0, 1114112]
theorem edg_ends : Edg ends := ⟨by simp [ends], rfl, by simp [ends], rfl⟩

/-- In a stretch between two edges a set has all or none. -/
theorem stretch {l : List Int} {s : List (Int × Int)} (hs : ∀ x, (∃ r ∈ s, (x = r.1 ∧ 0 < x ∧ x ≤ 1114111) ∨ (x = r.2 + 1 ∧ 0 < x ∧ x ≤ 1114111)) → x ∈ l) {e f p : Int} (he : 0 ≤ e) (hno : ∀ x ∈ l, ¬ (e < x ∧ x < f)) (h1 : e ≤ p) (h2 : p < f) (hM : p ≤ 1114111) :
    inR s p ↔ inR s e := by
  constructor
  · rintro ⟨r, hr, h3, h4⟩
    refine ⟨r, hr, ?_, by omega⟩
    rcases Int.lt_or_le e r.1 with h | h
    · exact absurd ⟨h, by omega⟩ (hno r.1 (hs _ ⟨r, hr, .inl ⟨rfl, by omega, by omega⟩⟩))
    · exact h
  · rintro ⟨r, hr, h3, h4⟩
    refine ⟨r, hr, by omega, ?_⟩
    rcases Int.lt_or_le r.2 p with h | h
    · exact absurd ⟨by omega, by omega⟩ (hno (r.2 + 1) (hs _ ⟨r, hr, .inr ⟨rfl, by omega, by omega⟩⟩))
    · exact h

/-- The stretches that are wanted, joined where they touch. -/
def grow (o : List (Int × Int)) (lo hi : Int) : List (Int × Int) :=
  match o.reverse with
  | [] => [(lo, hi)]
  | q :: o' => if q.2 + 1 = lo then (((q.1, hi) :: o').reverse) else o ++ [(lo, hi)]

theorem grow_nil (lo hi : Int) : grow [] lo hi = [(lo, hi)] := rfl
theorem grow_join (o : List (Int × Int)) (q : Int × Int) (lo hi : Int) (h : q.2 + 1 = lo) : grow (o ++ [q]) lo hi = o ++ [(q.1, hi)] := by simp [grow, h]
theorem grow_new (o : List (Int × Int)) (q : Int × Int) (lo hi : Int) (h : ¬ q.2 + 1 = lo) : grow (o ++ [q]) lo hi = o ++ [q] ++ [(lo, hi)] := by simp [grow, h]

theorem grow_put (o : List (Int × Int)) (lo hi : Int) (h : ∀ q ∈ o, q.2 < lo) (hl : lo ≤ hi) : grow o lo hi = put (lo, hi) o := by
  rcases List.eq_nil_or_concat o with rfl | ⟨o', q, rfl⟩
  · rfl
  · rw [List.concat_eq_append] at h ⊢
    have hq := h q (by simp)
    by_cases he : q.2 + 1 = lo
    · rw [grow_join _ _ _ _ he, put_join _ _ (by simp only; omega)]
      simp only
      rw [show max q.2 hi = hi from by omega]
    · rw [grow_new _ _ _ _ he, put_new _ _ (by simp only; omega)]

open Classical in
/-- What is gathered of the first k stretches. -/
noncomputable def gath (S : Int → Prop) (e : List Int) : Nat → List (Int × Int)
  | 0 => []
  | k + 1 => match e[k]?, e[k + 1]? with
    | some x, some y => if S x then grow (gath S e k) x (y - 1) else gath S e k
    | _, _ => gath S e k

open Classical in
theorem gath_yes {S : Int → Prop} {e : List Int} {k : Nat} {x y : Int} (h : e[k]? = some x) (h' : e[k + 1]? = some y) (hs : S x) : gath S e (k + 1) = grow (gath S e k) x (y - 1) := by simp [gath, h, h', hs]
open Classical in
theorem gath_no {S : Int → Prop} {e : List Int} {k : Nat} {x y : Int} (h : e[k]? = some x) (h' : e[k + 1]? = some y) (hs : ¬ S x) : gath S e (k + 1) = gath S e k := by simp [gath, h, h', hs]

theorem put_hi {r : Int × Int} {m : Int} (hm : r.2 ≤ m) : ∀ {o : List (Int × Int)}, (∀ q ∈ o, q.2 ≤ m) → ∀ q ∈ put r o, q.2 ≤ m
  | [], _, q, h => by simp [put] at h; subst h; exact hm
  | [a], h, q, hq => by
    have ha := h a (by simp)
    rw [put] at hq
    split at hq
    · simp at hq; subst hq; simp only; omega
    · simp at hq; rcases hq with rfl | rfl
      · exact ha
      · exact hm
  | a :: a' :: o, h, q, hq => by
    rw [put] at hq
    rcases List.mem_cons.1 hq with rfl | hq
    · exact h _ (by simp)
    · exact put_hi hm (fun x hx => h x (List.mem_cons_of_mem _ hx)) q hq

theorem gath_made {S : Int → Prop} {e : List Int} (he : Edg e) (hS : ∀ k x y p, e[k]? = some x → e[k + 1]? = some y → x ≤ p → p < y → (S p ↔ S x)) :
    ∀ k z, e[k]? = some z → isCanon (gath S e k) ∧ (∀ q ∈ gath S e k, q.2 < z) ∧ (∀ p, inR (gath S e k) p ↔ (0 ≤ p ∧ p < z) ∧ S p) ∧ (gath S e k).length ≤ k := by
  intro k
  induction k with
  | zero =>
    intro z hz
    refine ⟨trivial, by simp [gath], fun p => ?_, by simp [gath]⟩
    have : z = 0 := by have := he.2.1; rw [hz] at this; simpa using this
    simp [gath, inR]
    omega
  | succ k ih =>
    intro z hz
    have hk : k + 1 < e.length := (List.getElem?_eq_some_iff.1 hz).1
    have hx : e[k]? = some (e[k]'(by omega)) := by simp
    generalize e[k]'(by omega) = x at hx
    obtain ⟨i1, i2, i3, i4⟩ := ih x hx
    have hxz : x < z := by
      obtain ⟨_, hx'⟩ := List.getElem?_eq_some_iff.1 hx
      obtain ⟨_, hz'⟩ := List.getElem?_eq_some_iff.1 hz
      have := List.pairwise_iff_getElem.1 he.1 k (k + 1) (by omega) hk (by omega)
      omega
    have hzM := (he.bnd (List.mem_of_getElem? hz)).2
    have hx0 := (he.bnd (List.mem_of_getElem? hx)).1
    have hst := hS k x z
    by_cases hs : S x
    · rw [gath_yes hx hz hs, grow_put _ _ _ i2 (by omega)]
      have hle : ∀ q ∈ gath S e k, q.1 ≤ x := fun q hq => by
        have := i2 q hq
        have := (canonFrom_mem i1 q hq).1
        omega
      refine ⟨put_canon (by simp only; omega) (by simp only; omega) i1 (by simp only; omega) hle, fun q hq => ?_, fun p => ?_, ?_⟩
      · have := put_hi (r := (x, z - 1)) (m := z - 1) (by simp) (fun q hq => by have := i2 q hq; omega) q hq
        omega
      · rw [put_inR p (fun q hq => ⟨(canonFrom_mem i1 q hq).1, hle q hq⟩) (by simp only; omega), i3]
        simp only
        constructor
        · rintro (⟨h, h'⟩ | ⟨h, h'⟩)
          · exact ⟨by omega, h'⟩
          · exact ⟨by omega, (hst p hx hz h (by omega)).2 hs⟩
        · rintro ⟨h, h'⟩
          rcases Int.lt_or_le p x with h2 | h2
          · exact .inl ⟨by omega, h'⟩
          · exact .inr ⟨h2, by omega⟩
      · have := put_length (x, z - 1) (gath S e k)
        omega
    · rw [gath_no hx hz hs]
      refine ⟨i1, fun q hq => by have := i2 q hq; omega, fun p => ?_, by omega⟩
      rw [i3]
      constructor
      · rintro ⟨h, h'⟩
        exact ⟨by omega, h'⟩
      · rintro ⟨h, h'⟩
        rcases Int.lt_or_le p x with h2 | h2
        · exact ⟨by omega, h'⟩
        · exact absurd ((hst p hx hz h2 (by omega)).1 h') hs

/-- WHAT THE REFERENCE's 'Both' MAKES: the canonical list of what is wanted; and what it has on the way. -/
theorem both_made (a b : List (Int × Int)) (S : Int → Prop) (hS : ∀ p q, isP p → isP q → (inR a p ↔ inR a q) → (inR b p ↔ inR b q) → (S p ↔ S q)) (e : List Int) (hee : edges (edges ends a) b = e) :
    Edg e ∧ e.length ≤ 2 * a.length + 2 * b.length + 2 ∧ (∀ k z, e[k]? = some z → isCanon (gath S e k) ∧ (gath S e k).length ≤ k) ∧ gath S e (e.length - 1) = canonOf S ∧ isCanon (canonOf S) ∧ (canonOf S).length ≤ 2 * a.length + 2 * b.length + 2 := by
  have he : Edg (edges (edges ends a) b) := (edg_ends.edges a).edges b
  have hm := edges_mem b (edges ends a)
  have hm2 := edges_mem a ends
  have hl := edges_length b (edges ends a)
  have hl2 := edges_length a ends
  rw [hee] at he hm hl
  have hcons : ∀ k x y, e[k]? = some x → e[k + 1]? = some y → ∀ z ∈ e, ¬ (x < z ∧ z < y) := by
    intro k x y hx hy z hz
    obtain ⟨i, hi, rfl⟩ := List.getElem_of_mem hz
    obtain ⟨hk, rfl⟩ := List.getElem?_eq_some_iff.1 hx
    obtain ⟨hk', rfl⟩ := List.getElem?_eq_some_iff.1 hy
    have hp := List.pairwise_iff_getElem.1 he.1
    rintro ⟨h1, h2⟩
    rcases Nat.lt_trichotomy i k with h | h | h
    · have := hp i k (by omega) (by omega) h; omega
    · subst h; omega
    · rcases Nat.lt_trichotomy i (k + 1) with h' | h' | h'
      · omega
      · subst h'; omega
      · have := hp (k + 1) i (by omega) (by omega) h'; omega
  have hst : ∀ k x y p, e[k]? = some x → e[k + 1]? = some y → x ≤ p → p < y → (S p ↔ S x) := by
    intro k x y p hx hy h1 h2
    have hb := he.bnd (List.mem_of_getElem? hy)
    have hbx := he.bnd (List.mem_of_getElem? hx)
    refine hS p x ⟨by omega, by omega⟩ ⟨by omega, by omega⟩ ?_ ?_
    · exact stretch (fun z hz => (hm z).2 (.inl ((hm2 z).2 (.inr hz)))) hbx.1 (hcons k x y hx hy) h1 h2 (by omega)
    · exact stretch (fun z hz => (hm z).2 (.inr hz)) hbx.1 (hcons k x y hx hy) h1 h2 (by omega)
  have hall := gath_made he hst
  obtain ⟨g1, g2, g3, g4⟩ := hall (e.length - 1) 1114112 he.2.2.2
  have heq : canonOf S = gath S e (e.length - 1) := canonOf_eq g1 fun p => by
    rw [g3]
    unfold isP
    constructor
    · rintro ⟨h, h'⟩
      exact ⟨by omega, h'⟩
    · rintro ⟨h, h'⟩
      exact ⟨by omega, h'⟩
  have h2 : ends.length = 2 := rfl
  refine ⟨he, by omega, fun k z hz => ⟨(hall k z hz).1, (hall k z hz).2.2.2⟩, heq.symm, by rw [heq]; exact g1, by rw [heq]; omega⟩

/-- Sets that part no points have one canonical list. -/
theorem canonOf_congr {S S' : Int → Prop} (h : ∀ p, isP p → (S p ↔ S' p)) : canonOf S = canonOf S' := by
  unfold canonOf
  congr 1
  funext l
  refine propext (and_congr_right fun _ => forall_congr' fun p => ?_)
  constructor
  · intro h1
    exact h1.trans ⟨fun ⟨h2, h3⟩ => ⟨h2, (h p h2).1 h3⟩, fun ⟨h2, h3⟩ => ⟨h2, (h p h2).2 h3⟩⟩
  · intro h1
    exact h1.trans ⟨fun ⟨h2, h3⟩ => ⟨h2, (h p h2).2 h3⟩, fun ⟨h2, h3⟩ => ⟨h2, (h p h2).1 h3⟩⟩

end Go.Proofs.Gram

namespace Go.Proofs.Gram

/-- The byte at a place. -/
def by! (s : ByteArray) (a : Nat) : Nat := (s.get! a).toNat

/-- A byte that goes on a point, from lo to hi. -/
def fol (s : ByteArray) (a lo hi : Nat) : Prop := a < s.size ∧ lo ≤ by! s a ∧ by! s a ≤ hi
instance (s : ByteArray) (a lo hi : Nat) : Decidable (fol s a lo hi) := by unfold fol; infer_instance

/-- The first k - 1 bytes behind the first one go it on. -/
def fols (s : ByteArray) (a lo hi : Nat) : Nat → Prop
  | 0 => True
  | 1 => True
  | 2 => fol s (a + 1) lo hi
  | k + 3 => fols s a lo hi (k + 2) ∧ fol s (a + (k + 2)) 128 191
/-- Their number. -/
def acc (s : ByteArray) (a p : Nat) : Nat → Nat
  | 0 => p
  | 1 => p
  | k + 2 => acc s a p (k + 1) * 64 + by! s (a + (k + 1)) - 128

theorem by_lt (s : ByteArray) (a : Nat) : by! s a < 256 := (s.get! a).toNat_lt

/-- A lead byte's class: how many bytes, from where to where the second, the first one's base. -/
def lead (b : Nat) : Option (Nat × Nat × Nat × Nat) :=
  if b < 194 then none
  else if b < 224 then some (2, 128, 191, 192)
  else if b = 224 then some (3, 160, 191, 224)
  else if b = 237 then some (3, 128, 159, 224)
  else if b < 240 then some (3, 128, 191, 224)
  else if b = 240 then some (4, 144, 191, 240)
  else if b < 244 then some (4, 128, 191, 240)
  else if b = 244 then some (4, 128, 143, 240)
  else none

theorem decode_low (s : ByteArray) (a : Nat) (h : by! s a < 128) : Utf8.decode s a = (by! s a, 1) := by
  rw [Lib.decode_at]
  unfold Lib.decodeN
  rw [if_pos (show (s.get! a).toNat < 128 from h)]
  rfl
set_option maxHeartbeats 1000000 in
theorem decode_none (s : ByteArray) (a : Nat) (h0 : ¬ by! s a < 128) (h : lead (by! s a) = none) : Utf8.decode s a = (65533, 1) := by
  rw [Lib.decode_at]
  have hb := by_lt s a
  have h1 := by_lt s (a + 1)
  have h2 := by_lt s (a + 2)
  have h3 := by_lt s (a + 3)
  unfold by! at *
  generalize (s.get! a).toNat = b0 at *
  generalize (s.get! (a + 1)).toNat = b1 at *
  generalize (s.get! (a + 2)).toNat = b2 at *
  generalize (s.get! (a + 3)).toNat = b3 at *
  have hc : b0 < 194 ∨ 244 < b0 := by
    unfold lead at h
    repeat' split at h
    all_goals first
      | (cases h; done)
      | omega
  unfold Lib.decodeN
  repeat' split
  all_goals first
    | rfl
    | (exfalso; omega)

set_option maxHeartbeats 4000000 in
/-- A point of several bytes. -/
theorem decode_lead (s : ByteArray) (a n lo hi p : Nat) (ha : a < s.size) (h : lead (by! s a) = some (n, lo, hi, p)) :
    (fols s a lo hi n ∧ Utf8.decode s a = (acc s a (by! s a - p) n, n) ∧ 2 ≤ n ∧ n ≤ 4 ∧ p ≤ by! s a ∧ 128 ≤ lo) ∨ (¬ fols s a lo hi n ∧ Utf8.decode s a = (65533, 1) ∧ 2 ≤ n ∧ n ≤ 4 ∧ p ≤ by! s a ∧ 128 ≤ lo) := by
  rw [Lib.decode_at]
  have hb := by_lt s a
  have h1 := by_lt s (a + 1)
  have h2 := by_lt s (a + 2)
  have h3 := by_lt s (a + 3)
  have e : ∀ i, (a + i < s.size) = (i < s.size - a) := fun i => propext ⟨fun h => by omega, fun h => by omega⟩
  have en : 1 ≤ s.size - a := by omega
  have f2 : fols s a lo hi 2 = (1 < s.size - a ∧ lo ≤ by! s (a + 1) ∧ by! s (a + 1) ≤ hi) := by simp only [fols, fol, e]
  have f3 : fols s a lo hi 3 = ((1 < s.size - a ∧ lo ≤ by! s (a + 1) ∧ by! s (a + 1) ≤ hi) ∧ (2 < s.size - a ∧ 128 ≤ by! s (a + 2) ∧ by! s (a + 2) ≤ 191)) := by simp only [fols, fol, e, Nat.zero_add]
  have f4 : fols s a lo hi 4 = (((1 < s.size - a ∧ lo ≤ by! s (a + 1) ∧ by! s (a + 1) ≤ hi) ∧ (2 < s.size - a ∧ 128 ≤ by! s (a + 2) ∧ by! s (a + 2) ≤ 191)) ∧ (3 < s.size - a ∧ 128 ≤ by! s (a + 3) ∧ by! s (a + 3) ≤ 191)) := by simp only [fols, fol, e, Nat.zero_add, Nat.reduceAdd]
  have g2 : ∀ q, acc s a q 2 = q * 64 + by! s (a + 1) - 128 := fun q => rfl
  have g3 : ∀ q, acc s a q 3 = (q * 64 + by! s (a + 1) - 128) * 64 + by! s (a + 2) - 128 := fun q => rfl
  have g4 : ∀ q, acc s a q 4 = ((q * 64 + by! s (a + 1) - 128) * 64 + by! s (a + 2) - 128) * 64 + by! s (a + 3) - 128 := fun q => rfl
  unfold by! at *
  generalize (s.get! a).toNat = b0 at *
  generalize (s.get! (a + 1)).toNat = b1 at *
  generalize (s.get! (a + 2)).toNat = b2 at *
  generalize (s.get! (a + 3)).toNat = b3 at *
  generalize s.size - a = N at *
  unfold lead at h
  split at h
  · cases h
  split at h
  · cases h
    rw [f2, g2]
    unfold Lib.decodeN
    repeat' split
    all_goals first
      | (exfalso; omega)
      | (left; refine ⟨by omega, ?_, by omega⟩; apply Prod.ext <;> simp only <;> omega)
      | (right; exact ⟨by omega, rfl, by omega⟩)
  split at h
  · cases h
    rw [f3, g3]
    unfold Lib.decodeN
    repeat' split
    all_goals first
      | (exfalso; omega)
      | (left; refine ⟨by omega, ?_, by omega⟩; apply Prod.ext <;> simp only <;> omega)
      | (right; exact ⟨by omega, rfl, by omega⟩)
  split at h
  · cases h
    rw [f3, g3]
    unfold Lib.decodeN
    repeat' split
    all_goals first
      | (exfalso; omega)
      | (left; refine ⟨by omega, ?_, by omega⟩; apply Prod.ext <;> simp only <;> omega)
      | (right; exact ⟨by omega, rfl, by omega⟩)
  split at h
  · cases h
    rw [f3, g3]
    unfold Lib.decodeN
    repeat' split
    all_goals first
      | (exfalso; omega)
      | (left; refine ⟨by omega, ?_, by omega⟩; apply Prod.ext <;> simp only <;> omega)
      | (right; exact ⟨by omega, rfl, by omega⟩)
  split at h
  · cases h
    rw [f4, g4]
    unfold Lib.decodeN
    repeat' split
    all_goals first
      | (exfalso; omega)
      | (left; refine ⟨by omega, ?_, by omega⟩; apply Prod.ext <;> simp only <;> omega)
      | (right; exact ⟨by omega, rfl, by omega⟩)
  split at h
  · cases h
    rw [f4, g4]
    unfold Lib.decodeN
    repeat' split
    all_goals first
      | (exfalso; omega)
      | (left; refine ⟨by omega, ?_, by omega⟩; apply Prod.ext <;> simp only <;> omega)
      | (right; exact ⟨by omega, rfl, by omega⟩)
  split at h
  · cases h
    rw [f4, g4]
    unfold Lib.decodeN
    repeat' split
    all_goals first
      | (exfalso; omega)
      | (left; refine ⟨by omega, ?_, by omega⟩; apply Prod.ext <;> simp only <;> omega)
      | (right; exact ⟨by omega, rfl, by omega⟩)
  · cases h

end Go.Proofs.Gram

namespace Go.Proofs.YtoijabgcgdgacaaGreatDoor
open Go.RowKit Go.Proofs.Gram Go.Lib

theorem by_get (s : ByteArray) (a : Nat) (h : a < s.size) : (s[a]'h).toNat = by! s a := by
  unfold by!
  congr 1
  simp [ByteArray.get!, h]
  rfl

theorem byte_int (B : Nat) (h : B < 256) : wrap64 (B : Int) = (B : Int) := by unfold wrap64; omega

set_option maxRecDepth 100000 in
theorem follow_any (s : ByteArray) (a lo hi : Nat) (hs : s.size ≤ 9223372036854775000) (w : World) :
    Calls Tryz.prog 146 #[.string s, .int .i64 a, .int .i64 lo, .int .i64 hi] w fun e w' => e = .returned (.bool (decide (fol s a lo hi))) ∧ ∃ q, w' = w.drewN q := by
  by_cases ha : a < s.size
  · have hg : ∀ hh', (s[a]'hh').toNat = by! s a := fun hh' => by_get s a hh'
    have hb1 : decide (a < s.size) = true := decide_eq_true ha
    have hi0 : (0 : Int) ≤ (a : Int) := by omega
    have hi1 : (a : Int) < (s.size : Int) := by omega
    obtain ⟨B, hB⟩ : ∃ B, by! s a = B := ⟨_, rfl⟩
    have HF : Hid (fol s a lo hi ↔ lo ≤ B ∧ B ≤ hi) := Lib.hid ⟨fun h => hB ▸ h.2, fun h => ⟨ha, hB.symm ▸ h⟩⟩
    have hw : wrap64 (B : Int) = (B : Int) := byte_int B (hB ▸ by_lt s a)
    rw [hB] at hg
    clear ha hB
    by_cases h1 : lo ≤ B
    · by_cases h2 : B ≤ hi
      · have c1 : decide (lo ≤ B) = true := decide_eq_true h1
        have c2 : decide (B ≤ hi) = true := decide_eq_true h2
        have HE : Hid (decide (fol s a lo hi) = true) := Lib.hid (decide_eq_true (HF.out.2 ⟨h1, h2⟩))
        go_enter Tryz.func146, Tryz.ntmps146
        go_wp2_with fail
        go_ret
        rw [HE.out]
        exact ⟨rfl, 0, rfl⟩
      · have c1 : decide (lo ≤ B) = true := decide_eq_true h1
        have c2 : decide (B ≤ hi) = false := decide_eq_false h2
        have HE : Hid (decide (fol s a lo hi) = false) := Lib.hid (decide_eq_false fun h => h2 (HF.out.1 h).2)
        go_enter Tryz.func146, Tryz.ntmps146
        go_wp2_with fail
        go_ret
        rw [HE.out]
        exact ⟨rfl, 0, rfl⟩
    · have c1 : decide (lo ≤ B) = false := decide_eq_false h1
      have HE : Hid (decide (fol s a lo hi) = false) := Lib.hid (decide_eq_false fun h => h1 (HF.out.1 h).1)
      go_enter Tryz.func146, Tryz.ntmps146
      go_wp2_with fail
      go_ret
      rw [HE.out]
      exact ⟨rfl, 0, rfl⟩
  · have hb1 : decide (a < s.size) = false := decide_eq_false ha
    have HE : Hid (decide (fol s a lo hi) = false) := Lib.hid (decide_eq_false fun h => ha h.1)
    clear ha
    go_enter Tryz.func146, Tryz.ntmps146
    go_wp2_with fail
    go_ret
    rw [HE.out]
    exact ⟨rfl, 0, rfl⟩

theorem fols_step {s : ByteArray} {a lo hi k : Nat} (hk : 2 ≤ k) : fols s a lo hi (k + 1) ↔ fols s a lo hi k ∧ fol s (a + k) 128 191 := by
  match k, hk with
  | k + 2, _ => exact Iff.rfl
theorem fols_mono {s : ByteArray} {a lo hi : Nat} : ∀ {k n : Nat}, 2 ≤ k → k ≤ n → fols s a lo hi n → fols s a lo hi k := by
  intro k n hk hkn
  induction hkn with
  | refl => exact fun h => h
  | step hm ih => exact fun h => ih ((fols_step (Nat.le_trans hk hm)).1 h).1
theorem acc_step {s : ByteArray} {a p k : Nat} (hk : 1 ≤ k) : acc s a p (k + 1) = acc s a p k * 64 + by! s (a + k) - 128 := by
  match k, hk with
  | k + 1, _ => rfl
end Go.Proofs.YtoijabgcgdgacaaGreatDoor

namespace Go.Proofs.YtoijabgcgdgacaaGreatDoor
open Go.RowKit Go.Proofs.Gram Go.Lib

/-- What the reference says of a place. -/
def PtE (s : ByteArray) (a : Nat) (w : World) (e : Ending) (w' : World) : Prop :=
  e = .returned (.tuple #[.int .i64 (Utf8.decode s a).1, .int .i64 (Utf8.decode s a).2, .bool (decide (Utf8.decode s a ≠ (65533, 1)))]) ∧ ∃ q, w' = w.drewN q

section
variable {s : ByteArray} {a : Nat} {w : World}

set_option maxRecDepth 100000 in
theorem point_low (ha : a < s.size) (hs : s.size ≤ 9223372036854775000) (h : by! s a < 128) : Calls Tryz.prog 88 #[.string s, .int .i64 a] w (PtE s a w) := by
  have hg : ∀ hh', (s[a]'hh').toNat = by! s a := fun hh' => by_get s a hh'
  have hi0 : (0 : Int) ≤ (a : Int) := by omega
  have hi1 : (a : Int) < (s.size : Int) := by omega
  have HD := Lib.hid (decode_low s a h)
  have HP : Hid (∀ e w', (e = .returned (.tuple #[.int .i64 (by! s a), .int .i64 1, .bool true]) ∧ ∃ q, w' = w.drewN q) → PtE s a w e w') := Lib.hid fun e w' ⟨he, hw⟩ => ⟨by
    rw [he, HD.out, decide_eq_true (by intro h2; simp only [Prod.mk.injEq] at h2; omega)]; rfl, hw⟩
  obtain ⟨B, hB⟩ : ∃ B, by! s a = B := ⟨_, rfl⟩
  have hw : wrap64 (B : Int) = (B : Int) := byte_int B (hB ▸ by_lt s a)
  rw [hB] at hg h HP
  have hb : decide (B < 128) = true := decide_eq_true h
  clear hB ha HD
  go_enter Tryz.func88, Tryz.ntmps88
  go_wp2_with fail
  go_ret3
  exact HP.out _ _ ⟨rfl, 0, rfl⟩

set_option maxRecDepth 100000 in
theorem point_none (ha : a < s.size) (hs : s.size ≤ 9223372036854775000) (h0 : ¬ by! s a < 128) (h : lead (by! s a) = none) : Calls Tryz.prog 88 #[.string s, .int .i64 a] w (PtE s a w) := by
  have hg : ∀ hh', (s[a]'hh').toNat = by! s a := fun hh' => by_get s a hh'
  have hi0 : (0 : Int) ≤ (a : Int) := by omega
  have hi1 : (a : Int) < (s.size : Int) := by omega
  have HP : Hid (∀ e w', (e = .returned (.tuple #[.int .i64 65533, .int .i64 1, .bool false]) ∧ ∃ q, w' = w.drewN q) → PtE s a w e w') := Lib.hid fun e w' ⟨he, hw⟩ => ⟨by
    rw [he, decode_none s a h0 h]; rfl, hw⟩
  have hc : by! s a < 194 ∨ 244 < by! s a := by
    have := by_lt s a
    unfold lead at h
    repeat' split at h
    all_goals first
      | (cases h; done)
      | omega
  have hlt := by_lt s a
  obtain ⟨B, hB⟩ : ∃ B, by! s a = B := ⟨_, rfl⟩
  have hw : wrap64 (B : Int) = (B : Int) := byte_int B (hB ▸ by_lt s a)
  rw [hB] at hg h0 hc hlt
  have hb : decide (B < 128) = false := decide_eq_false h0
  clear hB ha h
  rcases hc with hc | hc
  all_goals
    go_enter Tryz.func88, Tryz.ntmps88
    go_wp2_with fail
    go_loopw [12, 13] (fun ok i wr => ok = .bool false ∧ i = .int .i64 2 ∧ wr = w) (fun _ _ _ => 0)
    case atStart => exact ⟨rfl, rfl, rfl⟩
    case round =>
      obtain ⟨rfl, rfl, rfl⟩ := hrel
      go_wp2_with fail
      go_ret3
      exact HP.out _ _ ⟨rfl, 0, rfl⟩

theorem fols_at {lo hi : Nat} (hlo : 128 ≤ lo) : ∀ {n k : Nat}, fols s a lo hi n → 1 ≤ k → k < n → a + k < s.size ∧ 128 ≤ by! s (a + k)
  | 0, k, _, _, h => by omega
  | 1, k, _, _, h => by omega
  | 2, k, hf, h1, h2 => by
    obtain rfl : k = 1 := by omega
    have hf' : fol s (a + 1) lo hi := hf
    exact ⟨hf'.1, Nat.le_trans hlo hf'.2.1⟩
  | n + 3, k, hf, h1, h2 => by
    by_cases h : k = n + 2
    · subst h; exact ⟨hf.2.1, hf.2.2.1⟩
    · exact fols_at hlo hf.1 h1 (by omega)
theorem acc_le (p : Nat) (hp : p ≤ 31) : ∀ k, k ≤ 4 → acc s a p k ≤ 16777216 ∧ (k ≤ 3 → acc s a p k ≤ 200000) ∧ (k ≤ 2 → acc s a p k ≤ 3000) ∧ (k ≤ 1 → acc s a p k ≤ 31)
  | 0, _ => by
    rw [show acc s a p 0 = p from rfl]
    exact ⟨by omega, fun _ => by omega, fun _ => by omega, fun _ => by omega⟩
  | 1, _ => by
    rw [show acc s a p 1 = p from rfl]
    exact ⟨by omega, fun _ => by omega, fun _ => by omega, fun _ => by omega⟩
  | k + 2, hk => by
    have ih := acc_le p hp (k + 1) (by omega)
    have hb := by_lt s (a + (k + 1))
    rw [acc_step (by omega)]
    omega

section
variable {n lo hi p : Nat}
theorem pt_ok (hpl : (fols s a lo hi n ∧ Utf8.decode s a = (acc s a (by! s a - p) n, n) ∧ 2 ≤ n ∧ n ≤ 4 ∧ p ≤ by! s a ∧ 128 ≤ lo) ∨ (¬ fols s a lo hi n ∧ Utf8.decode s a = (65533, 1) ∧ 2 ≤ n ∧ n ≤ 4 ∧ p ≤ by! s a ∧ 128 ≤ lo)) (hf : fols s a lo hi n) (e : Ending) (w' : World) (h : e = .returned (.tuple #[.int .i64 (acc s a (by! s a - p) n), .int .i64 n, .bool true]) ∧ ∃ q, w' = w.drewN q) : PtE s a w e w' := by
  obtain ⟨he, hw⟩ := h
  rcases hpl with ⟨_, hd, h2, _⟩ | ⟨hn, _⟩
  · exact ⟨by rw [he, hd, decide_eq_true (by intro h3; simp only [Prod.mk.injEq] at h3; omega)], hw⟩
  · exact absurd hf hn
theorem pt_no (hpl : (fols s a lo hi n ∧ Utf8.decode s a = (acc s a (by! s a - p) n, n) ∧ 2 ≤ n ∧ n ≤ 4 ∧ p ≤ by! s a ∧ 128 ≤ lo) ∨ (¬ fols s a lo hi n ∧ Utf8.decode s a = (65533, 1) ∧ 2 ≤ n ∧ n ≤ 4 ∧ p ≤ by! s a ∧ 128 ≤ lo)) (hf : ¬ fols s a lo hi n) (e : Ending) (w' : World) (h : e = .returned (.tuple #[.int .i64 65533, .int .i64 1, .bool false]) ∧ ∃ q, w' = w.drewN q) : PtE s a w e w' := by
  obtain ⟨he, hw⟩ := h
  rcases hpl with ⟨hn, _⟩ | ⟨_, hd, _⟩
  · exact absurd hn hf
  · exact ⟨by rw [he, hd]; rfl, hw⟩
end
end
end Go.Proofs.YtoijabgcgdgacaaGreatDoor

namespace Go.Proofs.YtoijabgcgdgacaaGreatDoor
open Go.RowKit Go.Proofs.Gram Go.Lib

section
variable {s : ByteArray} {a : Nat} {w : World}

set_option maxRecDepth 100000 in
set_option maxHeartbeats 8000000 in
theorem point_ba (ha : a < s.size) (hs : s.size ≤ 9223372036854770000) (h : lead (by! s a) = some (2, 128, 191, 192)) (hr : 194 ≤ by! s a) (hr2 : by! s a < 224) : Calls Tryz.prog 88 #[.string s, .int .i64 a] w (PtE s a w) := by
  have hg : ∀ hh', (s[a]'hh').toNat = by! s a := fun hh' => by_get s a hh'
  have hi0 : (0 : Int) ≤ (a : Int) := by omega
  have hi1 : (a : Int) < (s.size : Int) := by omega
  have hs' : (s.size : Int) ≤ 9223372036854770000 := by omega
  have HPok := Lib.hid (pt_ok (w := w) (decode_lead s a 2 128 191 192 ha h))
  have HPno := Lib.hid (pt_no (w := w) (decode_lead s a 2 128 191 192 ha h))
  have HF1 : Hid (∀ W, Calls Tryz.prog 146 #[.string s, .int .i64 ((a : Int) + 1), .int .i64 128, .int .i64 191] W fun e w' => e = .returned (.bool (decide (fol s (a + 1) 128 191))) ∧ ∃ q, w' = W.drewN q) := Lib.hid fun W => by
    have := follow_any s (a + 1) 128 191 (by omega) W
    simpa using this
  have HF2 : Hid (∀ (k : Nat) W, Calls Tryz.prog 146 #[.string s, .int .i64 ((a : Int) + (k : Int)), .int .i64 128, .int .i64 191] W fun e w' => e = .returned (.bool (decide (fol s (a + k) 128 191))) ∧ ∃ q, w' = W.drewN q) := Lib.hid fun k W => by
    have := follow_any s (a + k) 128 191 (by omega) W
    simpa using this
  have hlt := by_lt s a
  obtain ⟨B, hB⟩ : ∃ B, by! s a = B := ⟨_, rfl⟩
  have hw : wrap64 (B : Int) = (B : Int) := byte_int B (hB ▸ by_lt s a)
  rw [hB] at hg hr hr2 hlt HPok
  have HS : Hid (s.size ≤ 9223372036854770000) := Lib.hid hs
  clear h hB
  have HAL : Hid (∀ k, k ≤ 4 → acc s a (B - 192) k ≤ 16777216 ∧ (k ≤ 3 → acc s a (B - 192) k ≤ 200000) ∧ (k ≤ 2 → acc s a (B - 192) k ≤ 3000) ∧ (k ≤ 1 → acc s a (B - 192) k ≤ 31)) := Lib.hid (acc_le (B - 192) (by omega))
  have HA0 : Hid ((B : Int) - 192 = ((acc s a (B - 192) 1 : Nat) : Int)) := Lib.hid (by rw [show acc s a (B - 192) 1 = B - 192 from rfl]; omega)
  go_enter Tryz.func88, Tryz.ntmps88
  go_wp2_with (go_at_call 146; refine (HF1.out _).mono ?_; rintro e w1 ⟨rfl, q1, rfl⟩)
  go_loopw [12, 13] (fun ok i wr => ∃ (k : Nat) (bl : Bool), 2 ≤ k ∧ k ≤ 2 ∧ i = .int .i64 k ∧ ok = .bool bl ∧ Hid (bl = true ↔ fols s a 128 191 k) ∧ ∃ q, wr = w.drewN q)
    (fun _ i _ => 4 - (RowKit.intOf i).toNat)
  case atStart => exact ⟨2, _, Nat.le_refl _, by omega, rfl, rfl, Lib.hid (by simp only [decide_eq_true_iff]; exact Iff.rfl), q1, rfl⟩
  case round =>
    obtain ⟨k, bl, hk2, hkn, rfl, rfl, HI, q, rfl⟩ := hrel
    cases bl with
    | false =>
      have HN : Hid (¬ fols s a 128 191 2) := Lib.hid fun h => by simpa using HI.out.2 (fols_mono hk2 hkn h)
      go_wp2_with fail
      go_ret3
      exact HPno.out HN.out _ _ ⟨rfl, _, rfl⟩
    | true =>
      by_cases hkl : (k : Int) < 2
      · omega
      · obtain rfl : k = 2 := by omega
        have HFo := Lib.hid (HI.out.1 rfl)
        go_wp2_with fail
        go_loopw [11, 14] (fun u i wr => ∃ j : Nat, 1 ≤ j ∧ j ≤ 2 ∧ i = .int .i64 j ∧ u = .int .i64 (acc s a (B - 192) j : Nat) ∧ ∃ q, wr = w.drewN q)
          (fun _ i _ => 4 - (RowKit.intOf i).toNat)
        case atStart => exact ⟨1, Nat.le_refl _, by omega, rfl, by first | rw [HA0.out] | (congr 1; have := HA0.out; omega), q, rfl⟩
        case round =>
          obtain ⟨j, hj1, hjn, rfl, rfl, q', rfl⟩ := hrel
          by_cases hjl : (j : Int) < 2
          · have hjl' : j < 2 := by omega
            have HG := Lib.hid (fols_at (by omega) HFo.out hj1 hjl')
            have hin : (a : Int) + (j : Int) < s.size := by have := HG.out.1; omega
            have hn0 : (0 : Int) ≤ (a : Int) + (j : Int) := by omega
            have hgj : ∀ hh', (s[((a : Int) + (j : Int)).toNat]'hh').toNat = by! s (a + j) := fun hh' => by
              have e : ((a : Int) + (j : Int)).toNat = a + j := by omega
              simp only [e]
              exact by_get s (a + j) _
            have HA1 := HAL.out j (by omega)
            have hac : (acc s a (B - 192) j : Int) ≤ 200000 := by omega
            have HS1 : Hid (((acc s a (B - 192) (j + 1) : Nat) : Int) = (acc s a (B - 192) j : Int) * 64 + (by! s (a + j) : Int) - 128) := Lib.hid (by rw [acc_step hj1]; have := HG.out.2; omega)
            have hbl := by_lt s (a + j)
            have hwj : wrap64 (by! s (a + j) : Int) = (by! s (a + j) : Int) := byte_int _ hbl
            clear HA1
            generalize by! s (a + j) = D at hgj HS1 hbl hwj
            generalize hA : acc s a (B - 192) j = A at hac HS1
            go_wp2_with fail
            go_roundw
            case rel => exact ⟨j + 1, by omega, by omega, by simp, by rw [HS1.out], _, rfl⟩
            case measure => simp only [RowKit.intOf]; omega
          · obtain rfl : j = 2 := by omega
            go_wp2_with fail
            go_ret3
            exact HPok.out HFo.out _ _ ⟨rfl, _, rfl⟩
end
end Go.Proofs.YtoijabgcgdgacaaGreatDoor

namespace Go.Proofs.YtoijabgcgdgacaaGreatDoor
open Go.RowKit Go.Proofs.Gram Go.Lib

section
variable {s : ByteArray} {a : Nat} {w : World}

set_option maxRecDepth 100000 in
set_option maxHeartbeats 8000000 in
theorem point_bb (ha : a < s.size) (hs : s.size ≤ 9223372036854770000) (h : lead (by! s a) = some (3, 160, 191, 224)) (hr : 224 ≤ by! s a) (hr2 : by! s a < 225) : Calls Tryz.prog 88 #[.string s, .int .i64 a] w (PtE s a w) := by
  have hg : ∀ hh', (s[a]'hh').toNat = by! s a := fun hh' => by_get s a hh'
  have hi0 : (0 : Int) ≤ (a : Int) := by omega
  have hi1 : (a : Int) < (s.size : Int) := by omega
  have hs' : (s.size : Int) ≤ 9223372036854770000 := by omega
  have HPok := Lib.hid (pt_ok (w := w) (decode_lead s a 3 160 191 224 ha h))
  have HPno := Lib.hid (pt_no (w := w) (decode_lead s a 3 160 191 224 ha h))
  have HF1 : Hid (∀ W, Calls Tryz.prog 146 #[.string s, .int .i64 ((a : Int) + 1), .int .i64 160, .int .i64 191] W fun e w' => e = .returned (.bool (decide (fol s (a + 1) 160 191))) ∧ ∃ q, w' = W.drewN q) := Lib.hid fun W => by
    have := follow_any s (a + 1) 160 191 (by omega) W
    simpa using this
  have HF2 : Hid (∀ (k : Nat) W, Calls Tryz.prog 146 #[.string s, .int .i64 ((a : Int) + (k : Int)), .int .i64 128, .int .i64 191] W fun e w' => e = .returned (.bool (decide (fol s (a + k) 128 191))) ∧ ∃ q, w' = W.drewN q) := Lib.hid fun k W => by
    have := follow_any s (a + k) 128 191 (by omega) W
    simpa using this
  have hlt := by_lt s a
  obtain ⟨B, hB⟩ : ∃ B, by! s a = B := ⟨_, rfl⟩
  have hw : wrap64 (B : Int) = (B : Int) := byte_int B (hB ▸ by_lt s a)
  rw [hB] at hg hr hr2 hlt HPok
  have HS : Hid (s.size ≤ 9223372036854770000) := Lib.hid hs
  clear h hB
  have HAL : Hid (∀ k, k ≤ 4 → acc s a (B - 224) k ≤ 16777216 ∧ (k ≤ 3 → acc s a (B - 224) k ≤ 200000) ∧ (k ≤ 2 → acc s a (B - 224) k ≤ 3000) ∧ (k ≤ 1 → acc s a (B - 224) k ≤ 31)) := Lib.hid (acc_le (B - 224) (by omega))
  have HA0 : Hid ((B : Int) - 224 = ((acc s a (B - 224) 1 : Nat) : Int)) := Lib.hid (by rw [show acc s a (B - 224) 1 = B - 224 from rfl]; omega)
  go_enter Tryz.func88, Tryz.ntmps88
  go_wp2_with (go_at_call 146; refine (HF1.out _).mono ?_; rintro e w1 ⟨rfl, q1, rfl⟩)
  go_loopw [12, 13] (fun ok i wr => ∃ (k : Nat) (bl : Bool), 2 ≤ k ∧ k ≤ 3 ∧ i = .int .i64 k ∧ ok = .bool bl ∧ Hid (bl = true ↔ fols s a 160 191 k) ∧ ∃ q, wr = w.drewN q)
    (fun _ i _ => 4 - (RowKit.intOf i).toNat)
  case atStart => exact ⟨2, _, Nat.le_refl _, by omega, rfl, rfl, Lib.hid (by simp only [decide_eq_true_iff]; exact Iff.rfl), q1, rfl⟩
  case round =>
    obtain ⟨k, bl, hk2, hkn, rfl, rfl, HI, q, rfl⟩ := hrel
    cases bl with
    | false =>
      have HN : Hid (¬ fols s a 160 191 3) := Lib.hid fun h => by simpa using HI.out.2 (fols_mono hk2 hkn h)
      by_cases hkl : (k : Int) < 3
      · go_wp2_with fail
        go_ret3
        exact HPno.out HN.out _ _ ⟨rfl, _, rfl⟩
      · go_wp2_with fail
        go_ret3
        exact HPno.out HN.out _ _ ⟨rfl, _, rfl⟩
    | true =>
      by_cases hkl : (k : Int) < 3
      · have hkl' : k < 3 := by omega
        have HC := Lib.hid (HF2.out k (w.drewN q))
        go_wp2_with (go_at_call 146; refine HC.out.mono ?_; rintro e w2 ⟨rfl, q2, rfl⟩)
        go_roundw
        case rel =>
          refine ⟨k + 1, _, by omega, by omega, by simp, rfl, Lib.hid ?_, _, by first | rfl | (simp only [World.drewN_drewN]; rfl)⟩
          rw [fols_step hk2, ← HI.out]
          simp only [decide_eq_true_iff, true_and]
        case measure => simp only [RowKit.intOf]; omega
      · obtain rfl : k = 3 := by omega
        have HFo := Lib.hid (HI.out.1 rfl)
        go_wp2_with fail
        go_loopw [11, 14] (fun u i wr => ∃ j : Nat, 1 ≤ j ∧ j ≤ 3 ∧ i = .int .i64 j ∧ u = .int .i64 (acc s a (B - 224) j : Nat) ∧ ∃ q, wr = w.drewN q)
          (fun _ i _ => 4 - (RowKit.intOf i).toNat)
        case atStart => exact ⟨1, Nat.le_refl _, by omega, rfl, by first | rw [HA0.out] | (congr 1; have := HA0.out; omega), q, rfl⟩
        case round =>
          obtain ⟨j, hj1, hjn, rfl, rfl, q', rfl⟩ := hrel
          by_cases hjl : (j : Int) < 3
          · have hjl' : j < 3 := by omega
            have HG := Lib.hid (fols_at (by omega) HFo.out hj1 hjl')
            have hin : (a : Int) + (j : Int) < s.size := by have := HG.out.1; omega
            have hn0 : (0 : Int) ≤ (a : Int) + (j : Int) := by omega
            have hgj : ∀ hh', (s[((a : Int) + (j : Int)).toNat]'hh').toNat = by! s (a + j) := fun hh' => by
              have e : ((a : Int) + (j : Int)).toNat = a + j := by omega
              simp only [e]
              exact by_get s (a + j) _
            have HA1 := HAL.out j (by omega)
            have hac : (acc s a (B - 224) j : Int) ≤ 200000 := by omega
            have HS1 : Hid (((acc s a (B - 224) (j + 1) : Nat) : Int) = (acc s a (B - 224) j : Int) * 64 + (by! s (a + j) : Int) - 128) := Lib.hid (by rw [acc_step hj1]; have := HG.out.2; omega)
            have hbl := by_lt s (a + j)
            have hwj : wrap64 (by! s (a + j) : Int) = (by! s (a + j) : Int) := byte_int _ hbl
            clear HA1
            generalize by! s (a + j) = D at hgj HS1 hbl hwj
            generalize hA : acc s a (B - 224) j = A at hac HS1
            go_wp2_with fail
            go_roundw
            case rel => exact ⟨j + 1, by omega, by omega, by simp, by rw [HS1.out], _, rfl⟩
            case measure => simp only [RowKit.intOf]; omega
          · obtain rfl : j = 3 := by omega
            go_wp2_with fail
            go_ret3
            exact HPok.out HFo.out _ _ ⟨rfl, _, rfl⟩
end
end Go.Proofs.YtoijabgcgdgacaaGreatDoor

namespace Go.Proofs.YtoijabgcgdgacaaGreatDoor
open Go.RowKit Go.Proofs.Gram Go.Lib

section
variable {s : ByteArray} {a : Nat} {w : World}

set_option maxRecDepth 100000 in
set_option maxHeartbeats 8000000 in
theorem point_bc (ha : a < s.size) (hs : s.size ≤ 9223372036854770000) (h : lead (by! s a) = some (3, 128, 159, 224)) (hr : 237 ≤ by! s a) (hr2 : by! s a < 238) : Calls Tryz.prog 88 #[.string s, .int .i64 a] w (PtE s a w) := by
  have hg : ∀ hh', (s[a]'hh').toNat = by! s a := fun hh' => by_get s a hh'
  have hi0 : (0 : Int) ≤ (a : Int) := by omega
  have hi1 : (a : Int) < (s.size : Int) := by omega
  have hs' : (s.size : Int) ≤ 9223372036854770000 := by omega
  have HPok := Lib.hid (pt_ok (w := w) (decode_lead s a 3 128 159 224 ha h))
  have HPno := Lib.hid (pt_no (w := w) (decode_lead s a 3 128 159 224 ha h))
  have HF1 : Hid (∀ W, Calls Tryz.prog 146 #[.string s, .int .i64 ((a : Int) + 1), .int .i64 128, .int .i64 159] W fun e w' => e = .returned (.bool (decide (fol s (a + 1) 128 159))) ∧ ∃ q, w' = W.drewN q) := Lib.hid fun W => by
    have := follow_any s (a + 1) 128 159 (by omega) W
    simpa using this
  have HF2 : Hid (∀ (k : Nat) W, Calls Tryz.prog 146 #[.string s, .int .i64 ((a : Int) + (k : Int)), .int .i64 128, .int .i64 191] W fun e w' => e = .returned (.bool (decide (fol s (a + k) 128 191))) ∧ ∃ q, w' = W.drewN q) := Lib.hid fun k W => by
    have := follow_any s (a + k) 128 191 (by omega) W
    simpa using this
  have hlt := by_lt s a
  obtain ⟨B, hB⟩ : ∃ B, by! s a = B := ⟨_, rfl⟩
  have hw : wrap64 (B : Int) = (B : Int) := byte_int B (hB ▸ by_lt s a)
  rw [hB] at hg hr hr2 hlt HPok
  have HS : Hid (s.size ≤ 9223372036854770000) := Lib.hid hs
  clear h hB
  have HAL : Hid (∀ k, k ≤ 4 → acc s a (B - 224) k ≤ 16777216 ∧ (k ≤ 3 → acc s a (B - 224) k ≤ 200000) ∧ (k ≤ 2 → acc s a (B - 224) k ≤ 3000) ∧ (k ≤ 1 → acc s a (B - 224) k ≤ 31)) := Lib.hid (acc_le (B - 224) (by omega))
  have HA0 : Hid ((B : Int) - 224 = ((acc s a (B - 224) 1 : Nat) : Int)) := Lib.hid (by rw [show acc s a (B - 224) 1 = B - 224 from rfl]; omega)
  go_enter Tryz.func88, Tryz.ntmps88
  go_wp2_with (go_at_call 146; refine (HF1.out _).mono ?_; rintro e w1 ⟨rfl, q1, rfl⟩)
  go_loopw [12, 13] (fun ok i wr => ∃ (k : Nat) (bl : Bool), 2 ≤ k ∧ k ≤ 3 ∧ i = .int .i64 k ∧ ok = .bool bl ∧ Hid (bl = true ↔ fols s a 128 159 k) ∧ ∃ q, wr = w.drewN q)
    (fun _ i _ => 4 - (RowKit.intOf i).toNat)
  case atStart => exact ⟨2, _, Nat.le_refl _, by omega, rfl, rfl, Lib.hid (by simp only [decide_eq_true_iff]; exact Iff.rfl), q1, rfl⟩
  case round =>
    obtain ⟨k, bl, hk2, hkn, rfl, rfl, HI, q, rfl⟩ := hrel
    cases bl with
    | false =>
      have HN : Hid (¬ fols s a 128 159 3) := Lib.hid fun h => by simpa using HI.out.2 (fols_mono hk2 hkn h)
      by_cases hkl : (k : Int) < 3
      · go_wp2_with fail
        go_ret3
        exact HPno.out HN.out _ _ ⟨rfl, _, rfl⟩
      · go_wp2_with fail
        go_ret3
        exact HPno.out HN.out _ _ ⟨rfl, _, rfl⟩
    | true =>
      by_cases hkl : (k : Int) < 3
      · have hkl' : k < 3 := by omega
        have HC := Lib.hid (HF2.out k (w.drewN q))
        go_wp2_with (go_at_call 146; refine HC.out.mono ?_; rintro e w2 ⟨rfl, q2, rfl⟩)
        go_roundw
        case rel =>
          refine ⟨k + 1, _, by omega, by omega, by simp, rfl, Lib.hid ?_, _, by first | rfl | (simp only [World.drewN_drewN]; rfl)⟩
          rw [fols_step hk2, ← HI.out]
          simp only [decide_eq_true_iff, true_and]
        case measure => simp only [RowKit.intOf]; omega
      · obtain rfl : k = 3 := by omega
        have HFo := Lib.hid (HI.out.1 rfl)
        go_wp2_with fail
        go_loopw [11, 14] (fun u i wr => ∃ j : Nat, 1 ≤ j ∧ j ≤ 3 ∧ i = .int .i64 j ∧ u = .int .i64 (acc s a (B - 224) j : Nat) ∧ ∃ q, wr = w.drewN q)
          (fun _ i _ => 4 - (RowKit.intOf i).toNat)
        case atStart => exact ⟨1, Nat.le_refl _, by omega, rfl, by first | rw [HA0.out] | (congr 1; have := HA0.out; omega), q, rfl⟩
        case round =>
          obtain ⟨j, hj1, hjn, rfl, rfl, q', rfl⟩ := hrel
          by_cases hjl : (j : Int) < 3
          · have hjl' : j < 3 := by omega
            have HG := Lib.hid (fols_at (by omega) HFo.out hj1 hjl')
            have hin : (a : Int) + (j : Int) < s.size := by have := HG.out.1; omega
            have hn0 : (0 : Int) ≤ (a : Int) + (j : Int) := by omega
            have hgj : ∀ hh', (s[((a : Int) + (j : Int)).toNat]'hh').toNat = by! s (a + j) := fun hh' => by
              have e : ((a : Int) + (j : Int)).toNat = a + j := by omega
              simp only [e]
              exact by_get s (a + j) _
            have HA1 := HAL.out j (by omega)
            have hac : (acc s a (B - 224) j : Int) ≤ 200000 := by omega
            have HS1 : Hid (((acc s a (B - 224) (j + 1) : Nat) : Int) = (acc s a (B - 224) j : Int) * 64 + (by! s (a + j) : Int) - 128) := Lib.hid (by rw [acc_step hj1]; have := HG.out.2; omega)
            have hbl := by_lt s (a + j)
            have hwj : wrap64 (by! s (a + j) : Int) = (by! s (a + j) : Int) := byte_int _ hbl
            clear HA1
            generalize by! s (a + j) = D at hgj HS1 hbl hwj
            generalize hA : acc s a (B - 224) j = A at hac HS1
            go_wp2_with fail
            go_roundw
            case rel => exact ⟨j + 1, by omega, by omega, by simp, by rw [HS1.out], _, rfl⟩
            case measure => simp only [RowKit.intOf]; omega
          · obtain rfl : j = 3 := by omega
            go_wp2_with fail
            go_ret3
            exact HPok.out HFo.out _ _ ⟨rfl, _, rfl⟩
end
end Go.Proofs.YtoijabgcgdgacaaGreatDoor

namespace Go.Proofs.YtoijabgcgdgacaaGreatDoor
open Go.RowKit Go.Proofs.Gram Go.Lib

section
variable {s : ByteArray} {a : Nat} {w : World}

set_option maxRecDepth 100000 in
set_option maxHeartbeats 8000000 in
theorem point_bd (ha : a < s.size) (hs : s.size ≤ 9223372036854770000) (h : lead (by! s a) = some (3, 128, 191, 224)) (hr : 224 < by! s a) (hr2 : by! s a < 240) (hr3 : by! s a ≠ 237) : Calls Tryz.prog 88 #[.string s, .int .i64 a] w (PtE s a w) := by
  have hg : ∀ hh', (s[a]'hh').toNat = by! s a := fun hh' => by_get s a hh'
  have hi0 : (0 : Int) ≤ (a : Int) := by omega
  have hi1 : (a : Int) < (s.size : Int) := by omega
  have hs' : (s.size : Int) ≤ 9223372036854770000 := by omega
  have HPok := Lib.hid (pt_ok (w := w) (decode_lead s a 3 128 191 224 ha h))
  have HPno := Lib.hid (pt_no (w := w) (decode_lead s a 3 128 191 224 ha h))
  have HF1 : Hid (∀ W, Calls Tryz.prog 146 #[.string s, .int .i64 ((a : Int) + 1), .int .i64 128, .int .i64 191] W fun e w' => e = .returned (.bool (decide (fol s (a + 1) 128 191))) ∧ ∃ q, w' = W.drewN q) := Lib.hid fun W => by
    have := follow_any s (a + 1) 128 191 (by omega) W
    simpa using this
  have HF2 : Hid (∀ (k : Nat) W, Calls Tryz.prog 146 #[.string s, .int .i64 ((a : Int) + (k : Int)), .int .i64 128, .int .i64 191] W fun e w' => e = .returned (.bool (decide (fol s (a + k) 128 191))) ∧ ∃ q, w' = W.drewN q) := Lib.hid fun k W => by
    have := follow_any s (a + k) 128 191 (by omega) W
    simpa using this
  have hlt := by_lt s a
  obtain ⟨B, hB⟩ : ∃ B, by! s a = B := ⟨_, rfl⟩
  have hw : wrap64 (B : Int) = (B : Int) := byte_int B (hB ▸ by_lt s a)
  rw [hB] at hg hr hr2 hr3 hlt HPok
  have HS : Hid (s.size ≤ 9223372036854770000) := Lib.hid hs
  clear h hB
  have HAL : Hid (∀ k, k ≤ 4 → acc s a (B - 224) k ≤ 16777216 ∧ (k ≤ 3 → acc s a (B - 224) k ≤ 200000) ∧ (k ≤ 2 → acc s a (B - 224) k ≤ 3000) ∧ (k ≤ 1 → acc s a (B - 224) k ≤ 31)) := Lib.hid (acc_le (B - 224) (by omega))
  have HA0 : Hid ((B : Int) - 224 = ((acc s a (B - 224) 1 : Nat) : Int)) := Lib.hid (by rw [show acc s a (B - 224) 1 = B - 224 from rfl]; omega)
  go_enter Tryz.func88, Tryz.ntmps88
  go_wp2_with (go_at_call 146; refine (HF1.out _).mono ?_; rintro e w1 ⟨rfl, q1, rfl⟩)
  go_loopw [12, 13] (fun ok i wr => ∃ (k : Nat) (bl : Bool), 2 ≤ k ∧ k ≤ 3 ∧ i = .int .i64 k ∧ ok = .bool bl ∧ Hid (bl = true ↔ fols s a 128 191 k) ∧ ∃ q, wr = w.drewN q)
    (fun _ i _ => 4 - (RowKit.intOf i).toNat)
  case atStart => exact ⟨2, _, Nat.le_refl _, by omega, rfl, rfl, Lib.hid (by simp only [decide_eq_true_iff]; exact Iff.rfl), q1, rfl⟩
  case round =>
    obtain ⟨k, bl, hk2, hkn, rfl, rfl, HI, q, rfl⟩ := hrel
    cases bl with
    | false =>
      have HN : Hid (¬ fols s a 128 191 3) := Lib.hid fun h => by simpa using HI.out.2 (fols_mono hk2 hkn h)
      by_cases hkl : (k : Int) < 3
      · go_wp2_with fail
        go_ret3
        exact HPno.out HN.out _ _ ⟨rfl, _, rfl⟩
      · go_wp2_with fail
        go_ret3
        exact HPno.out HN.out _ _ ⟨rfl, _, rfl⟩
    | true =>
      by_cases hkl : (k : Int) < 3
      · have hkl' : k < 3 := by omega
        have HC := Lib.hid (HF2.out k (w.drewN q))
        go_wp2_with (go_at_call 146; refine HC.out.mono ?_; rintro e w2 ⟨rfl, q2, rfl⟩)
        go_roundw
        case rel =>
          refine ⟨k + 1, _, by omega, by omega, by simp, rfl, Lib.hid ?_, _, by first | rfl | (simp only [World.drewN_drewN]; rfl)⟩
          rw [fols_step hk2, ← HI.out]
          simp only [decide_eq_true_iff, true_and]
        case measure => simp only [RowKit.intOf]; omega
      · obtain rfl : k = 3 := by omega
        have HFo := Lib.hid (HI.out.1 rfl)
        go_wp2_with fail
        go_loopw [11, 14] (fun u i wr => ∃ j : Nat, 1 ≤ j ∧ j ≤ 3 ∧ i = .int .i64 j ∧ u = .int .i64 (acc s a (B - 224) j : Nat) ∧ ∃ q, wr = w.drewN q)
          (fun _ i _ => 4 - (RowKit.intOf i).toNat)
        case atStart => exact ⟨1, Nat.le_refl _, by omega, rfl, by first | rw [HA0.out] | (congr 1; have := HA0.out; omega), q, rfl⟩
        case round =>
          obtain ⟨j, hj1, hjn, rfl, rfl, q', rfl⟩ := hrel
          by_cases hjl : (j : Int) < 3
          · have hjl' : j < 3 := by omega
            have HG := Lib.hid (fols_at (by omega) HFo.out hj1 hjl')
            have hin : (a : Int) + (j : Int) < s.size := by have := HG.out.1; omega
            have hn0 : (0 : Int) ≤ (a : Int) + (j : Int) := by omega
            have hgj : ∀ hh', (s[((a : Int) + (j : Int)).toNat]'hh').toNat = by! s (a + j) := fun hh' => by
              have e : ((a : Int) + (j : Int)).toNat = a + j := by omega
              simp only [e]
              exact by_get s (a + j) _
            have HA1 := HAL.out j (by omega)
            have hac : (acc s a (B - 224) j : Int) ≤ 200000 := by omega
            have HS1 : Hid (((acc s a (B - 224) (j + 1) : Nat) : Int) = (acc s a (B - 224) j : Int) * 64 + (by! s (a + j) : Int) - 128) := Lib.hid (by rw [acc_step hj1]; have := HG.out.2; omega)
            have hbl := by_lt s (a + j)
            have hwj : wrap64 (by! s (a + j) : Int) = (by! s (a + j) : Int) := byte_int _ hbl
            clear HA1
            generalize by! s (a + j) = D at hgj HS1 hbl hwj
            generalize hA : acc s a (B - 224) j = A at hac HS1
            go_wp2_with fail
            go_roundw
            case rel => exact ⟨j + 1, by omega, by omega, by simp, by rw [HS1.out], _, rfl⟩
            case measure => simp only [RowKit.intOf]; omega
          · obtain rfl : j = 3 := by omega
            go_wp2_with fail
            go_ret3
            exact HPok.out HFo.out _ _ ⟨rfl, _, rfl⟩
end
end Go.Proofs.YtoijabgcgdgacaaGreatDoor

namespace Go.Proofs.YtoijabgcgdgacaaGreatDoor
open Go.RowKit Go.Proofs.Gram Go.Lib

section
variable {s : ByteArray} {a : Nat} {w : World}

set_option maxRecDepth 100000 in
set_option maxHeartbeats 8000000 in
theorem point_be (ha : a < s.size) (hs : s.size ≤ 9223372036854770000) (h : lead (by! s a) = some (4, 144, 191, 240)) (hr : 240 ≤ by! s a) (hr2 : by! s a < 241) : Calls Tryz.prog 88 #[.string s, .int .i64 a] w (PtE s a w) := by
  have hg : ∀ hh', (s[a]'hh').toNat = by! s a := fun hh' => by_get s a hh'
  have hi0 : (0 : Int) ≤ (a : Int) := by omega
  have hi1 : (a : Int) < (s.size : Int) := by omega
  have hs' : (s.size : Int) ≤ 9223372036854770000 := by omega
  have HPok := Lib.hid (pt_ok (w := w) (decode_lead s a 4 144 191 240 ha h))
  have HPno := Lib.hid (pt_no (w := w) (decode_lead s a 4 144 191 240 ha h))
  have HF1 : Hid (∀ W, Calls Tryz.prog 146 #[.string s, .int .i64 ((a : Int) + 1), .int .i64 144, .int .i64 191] W fun e w' => e = .returned (.bool (decide (fol s (a + 1) 144 191))) ∧ ∃ q, w' = W.drewN q) := Lib.hid fun W => by
    have := follow_any s (a + 1) 144 191 (by omega) W
    simpa using this
  have HF2 : Hid (∀ (k : Nat) W, Calls Tryz.prog 146 #[.string s, .int .i64 ((a : Int) + (k : Int)), .int .i64 128, .int .i64 191] W fun e w' => e = .returned (.bool (decide (fol s (a + k) 128 191))) ∧ ∃ q, w' = W.drewN q) := Lib.hid fun k W => by
    have := follow_any s (a + k) 128 191 (by omega) W
    simpa using this
  have hlt := by_lt s a
  obtain ⟨B, hB⟩ : ∃ B, by! s a = B := ⟨_, rfl⟩
  have hw : wrap64 (B : Int) = (B : Int) := byte_int B (hB ▸ by_lt s a)
  rw [hB] at hg hr hr2 hlt HPok
  have HS : Hid (s.size ≤ 9223372036854770000) := Lib.hid hs
  clear h hB
  have HAL : Hid (∀ k, k ≤ 4 → acc s a (B - 240) k ≤ 16777216 ∧ (k ≤ 3 → acc s a (B - 240) k ≤ 200000) ∧ (k ≤ 2 → acc s a (B - 240) k ≤ 3000) ∧ (k ≤ 1 → acc s a (B - 240) k ≤ 31)) := Lib.hid (acc_le (B - 240) (by omega))
  have HA0 : Hid ((B : Int) - 240 = ((acc s a (B - 240) 1 : Nat) : Int)) := Lib.hid (by rw [show acc s a (B - 240) 1 = B - 240 from rfl]; omega)
  go_enter Tryz.func88, Tryz.ntmps88
  go_wp2_with (go_at_call 146; refine (HF1.out _).mono ?_; rintro e w1 ⟨rfl, q1, rfl⟩)
  go_loopw [12, 13] (fun ok i wr => ∃ (k : Nat) (bl : Bool), 2 ≤ k ∧ k ≤ 4 ∧ i = .int .i64 k ∧ ok = .bool bl ∧ Hid (bl = true ↔ fols s a 144 191 k) ∧ ∃ q, wr = w.drewN q)
    (fun _ i _ => 4 - (RowKit.intOf i).toNat)
  case atStart => exact ⟨2, _, Nat.le_refl _, by omega, rfl, rfl, Lib.hid (by simp only [decide_eq_true_iff]; exact Iff.rfl), q1, rfl⟩
  case round =>
    obtain ⟨k, bl, hk2, hkn, rfl, rfl, HI, q, rfl⟩ := hrel
    cases bl with
    | false =>
      have HN : Hid (¬ fols s a 144 191 4) := Lib.hid fun h => by simpa using HI.out.2 (fols_mono hk2 hkn h)
      by_cases hkl : (k : Int) < 4
      · go_wp2_with fail
        go_ret3
        exact HPno.out HN.out _ _ ⟨rfl, _, rfl⟩
      · go_wp2_with fail
        go_ret3
        exact HPno.out HN.out _ _ ⟨rfl, _, rfl⟩
    | true =>
      by_cases hkl : (k : Int) < 4
      · have hkl' : k < 4 := by omega
        have HC := Lib.hid (HF2.out k (w.drewN q))
        go_wp2_with (go_at_call 146; refine HC.out.mono ?_; rintro e w2 ⟨rfl, q2, rfl⟩)
        go_roundw
        case rel =>
          refine ⟨k + 1, _, by omega, by omega, by simp, rfl, Lib.hid ?_, _, by first | rfl | (simp only [World.drewN_drewN]; rfl)⟩
          rw [fols_step hk2, ← HI.out]
          simp only [decide_eq_true_iff, true_and]
        case measure => simp only [RowKit.intOf]; omega
      · obtain rfl : k = 4 := by omega
        have HFo := Lib.hid (HI.out.1 rfl)
        go_wp2_with fail
        go_loopw [11, 14] (fun u i wr => ∃ j : Nat, 1 ≤ j ∧ j ≤ 4 ∧ i = .int .i64 j ∧ u = .int .i64 (acc s a (B - 240) j : Nat) ∧ ∃ q, wr = w.drewN q)
          (fun _ i _ => 4 - (RowKit.intOf i).toNat)
        case atStart => exact ⟨1, Nat.le_refl _, by omega, rfl, by first | rw [HA0.out] | (congr 1; have := HA0.out; omega), q, rfl⟩
        case round =>
          obtain ⟨j, hj1, hjn, rfl, rfl, q', rfl⟩ := hrel
          by_cases hjl : (j : Int) < 4
          · have hjl' : j < 4 := by omega
            have HG := Lib.hid (fols_at (by omega) HFo.out hj1 hjl')
            have hin : (a : Int) + (j : Int) < s.size := by have := HG.out.1; omega
            have hn0 : (0 : Int) ≤ (a : Int) + (j : Int) := by omega
            have hgj : ∀ hh', (s[((a : Int) + (j : Int)).toNat]'hh').toNat = by! s (a + j) := fun hh' => by
              have e : ((a : Int) + (j : Int)).toNat = a + j := by omega
              simp only [e]
              exact by_get s (a + j) _
            have HA1 := HAL.out j (by omega)
            have hac : (acc s a (B - 240) j : Int) ≤ 200000 := by omega
            have HS1 : Hid (((acc s a (B - 240) (j + 1) : Nat) : Int) = (acc s a (B - 240) j : Int) * 64 + (by! s (a + j) : Int) - 128) := Lib.hid (by rw [acc_step hj1]; have := HG.out.2; omega)
            have hbl := by_lt s (a + j)
            have hwj : wrap64 (by! s (a + j) : Int) = (by! s (a + j) : Int) := byte_int _ hbl
            clear HA1
            generalize by! s (a + j) = D at hgj HS1 hbl hwj
            generalize hA : acc s a (B - 240) j = A at hac HS1
            go_wp2_with fail
            go_roundw
            case rel => exact ⟨j + 1, by omega, by omega, by simp, by rw [HS1.out], _, rfl⟩
            case measure => simp only [RowKit.intOf]; omega
          · obtain rfl : j = 4 := by omega
            go_wp2_with fail
            go_ret3
            exact HPok.out HFo.out _ _ ⟨rfl, _, rfl⟩
end
end Go.Proofs.YtoijabgcgdgacaaGreatDoor

namespace Go.Proofs.YtoijabgcgdgacaaGreatDoor
open Go.RowKit Go.Proofs.Gram Go.Lib

section
variable {s : ByteArray} {a : Nat} {w : World}

set_option maxRecDepth 100000 in
set_option maxHeartbeats 8000000 in
theorem point_bf (ha : a < s.size) (hs : s.size ≤ 9223372036854770000) (h : lead (by! s a) = some (4, 128, 191, 240)) (hr : 240 < by! s a) (hr2 : by! s a < 244) : Calls Tryz.prog 88 #[.string s, .int .i64 a] w (PtE s a w) := by
  have hg : ∀ hh', (s[a]'hh').toNat = by! s a := fun hh' => by_get s a hh'
  have hi0 : (0 : Int) ≤ (a : Int) := by omega
  have hi1 : (a : Int) < (s.size : Int) := by omega
  have hs' : (s.size : Int) ≤ 9223372036854770000 := by omega
  have HPok := Lib.hid (pt_ok (w := w) (decode_lead s a 4 128 191 240 ha h))
  have HPno := Lib.hid (pt_no (w := w) (decode_lead s a 4 128 191 240 ha h))
  have HF1 : Hid (∀ W, Calls Tryz.prog 146 #[.string s, .int .i64 ((a : Int) + 1), .int .i64 128, .int .i64 191] W fun e w' => e = .returned (.bool (decide (fol s (a + 1) 128 191))) ∧ ∃ q, w' = W.drewN q) := Lib.hid fun W => by
    have := follow_any s (a + 1) 128 191 (by omega) W
    simpa using this
  have HF2 : Hid (∀ (k : Nat) W, Calls Tryz.prog 146 #[.string s, .int .i64 ((a : Int) + (k : Int)), .int .i64 128, .int .i64 191] W fun e w' => e = .returned (.bool (decide (fol s (a + k) 128 191))) ∧ ∃ q, w' = W.drewN q) := Lib.hid fun k W => by
    have := follow_any s (a + k) 128 191 (by omega) W
    simpa using this
  have hlt := by_lt s a
  obtain ⟨B, hB⟩ : ∃ B, by! s a = B := ⟨_, rfl⟩
  have hw : wrap64 (B : Int) = (B : Int) := byte_int B (hB ▸ by_lt s a)
  rw [hB] at hg hr hr2 hlt HPok
  have HS : Hid (s.size ≤ 9223372036854770000) := Lib.hid hs
  clear h hB
  have HAL : Hid (∀ k, k ≤ 4 → acc s a (B - 240) k ≤ 16777216 ∧ (k ≤ 3 → acc s a (B - 240) k ≤ 200000) ∧ (k ≤ 2 → acc s a (B - 240) k ≤ 3000) ∧ (k ≤ 1 → acc s a (B - 240) k ≤ 31)) := Lib.hid (acc_le (B - 240) (by omega))
  have HA0 : Hid ((B : Int) - 240 = ((acc s a (B - 240) 1 : Nat) : Int)) := Lib.hid (by rw [show acc s a (B - 240) 1 = B - 240 from rfl]; omega)
  go_enter Tryz.func88, Tryz.ntmps88
  go_wp2_with (go_at_call 146; refine (HF1.out _).mono ?_; rintro e w1 ⟨rfl, q1, rfl⟩)
  go_loopw [12, 13] (fun ok i wr => ∃ (k : Nat) (bl : Bool), 2 ≤ k ∧ k ≤ 4 ∧ i = .int .i64 k ∧ ok = .bool bl ∧ Hid (bl = true ↔ fols s a 128 191 k) ∧ ∃ q, wr = w.drewN q)
    (fun _ i _ => 4 - (RowKit.intOf i).toNat)
  case atStart => exact ⟨2, _, Nat.le_refl _, by omega, rfl, rfl, Lib.hid (by simp only [decide_eq_true_iff]; exact Iff.rfl), q1, rfl⟩
  case round =>
    obtain ⟨k, bl, hk2, hkn, rfl, rfl, HI, q, rfl⟩ := hrel
    cases bl with
    | false =>
      have HN : Hid (¬ fols s a 128 191 4) := Lib.hid fun h => by simpa using HI.out.2 (fols_mono hk2 hkn h)
      by_cases hkl : (k : Int) < 4
      · go_wp2_with fail
        go_ret3
        exact HPno.out HN.out _ _ ⟨rfl, _, rfl⟩
      · go_wp2_with fail
        go_ret3
        exact HPno.out HN.out _ _ ⟨rfl, _, rfl⟩
    | true =>
      by_cases hkl : (k : Int) < 4
      · have hkl' : k < 4 := by omega
        have HC := Lib.hid (HF2.out k (w.drewN q))
        go_wp2_with (go_at_call 146; refine HC.out.mono ?_; rintro e w2 ⟨rfl, q2, rfl⟩)
        go_roundw
        case rel =>
          refine ⟨k + 1, _, by omega, by omega, by simp, rfl, Lib.hid ?_, _, by first | rfl | (simp only [World.drewN_drewN]; rfl)⟩
          rw [fols_step hk2, ← HI.out]
          simp only [decide_eq_true_iff, true_and]
        case measure => simp only [RowKit.intOf]; omega
      · obtain rfl : k = 4 := by omega
        have HFo := Lib.hid (HI.out.1 rfl)
        go_wp2_with fail
        go_loopw [11, 14] (fun u i wr => ∃ j : Nat, 1 ≤ j ∧ j ≤ 4 ∧ i = .int .i64 j ∧ u = .int .i64 (acc s a (B - 240) j : Nat) ∧ ∃ q, wr = w.drewN q)
          (fun _ i _ => 4 - (RowKit.intOf i).toNat)
        case atStart => exact ⟨1, Nat.le_refl _, by omega, rfl, by first | rw [HA0.out] | (congr 1; have := HA0.out; omega), q, rfl⟩
        case round =>
          obtain ⟨j, hj1, hjn, rfl, rfl, q', rfl⟩ := hrel
          by_cases hjl : (j : Int) < 4
          · have hjl' : j < 4 := by omega
            have HG := Lib.hid (fols_at (by omega) HFo.out hj1 hjl')
            have hin : (a : Int) + (j : Int) < s.size := by have := HG.out.1; omega
            have hn0 : (0 : Int) ≤ (a : Int) + (j : Int) := by omega
            have hgj : ∀ hh', (s[((a : Int) + (j : Int)).toNat]'hh').toNat = by! s (a + j) := fun hh' => by
              have e : ((a : Int) + (j : Int)).toNat = a + j := by omega
              simp only [e]
              exact by_get s (a + j) _
            have HA1 := HAL.out j (by omega)
            have hac : (acc s a (B - 240) j : Int) ≤ 200000 := by omega
            have HS1 : Hid (((acc s a (B - 240) (j + 1) : Nat) : Int) = (acc s a (B - 240) j : Int) * 64 + (by! s (a + j) : Int) - 128) := Lib.hid (by rw [acc_step hj1]; have := HG.out.2; omega)
            have hbl := by_lt s (a + j)
            have hwj : wrap64 (by! s (a + j) : Int) = (by! s (a + j) : Int) := byte_int _ hbl
            clear HA1
            generalize by! s (a + j) = D at hgj HS1 hbl hwj
            generalize hA : acc s a (B - 240) j = A at hac HS1
            go_wp2_with fail
            go_roundw
            case rel => exact ⟨j + 1, by omega, by omega, by simp, by rw [HS1.out], _, rfl⟩
            case measure => simp only [RowKit.intOf]; omega
          · obtain rfl : j = 4 := by omega
            go_wp2_with fail
            go_ret3
            exact HPok.out HFo.out _ _ ⟨rfl, _, rfl⟩
end
end Go.Proofs.YtoijabgcgdgacaaGreatDoor

namespace Go.Proofs.YtoijabgcgdgacaaGreatDoor
open Go.RowKit Go.Proofs.Gram Go.Lib

section
variable {s : ByteArray} {a : Nat} {w : World}

set_option maxRecDepth 100000 in
set_option maxHeartbeats 8000000 in
theorem point_bg (ha : a < s.size) (hs : s.size ≤ 9223372036854770000) (h : lead (by! s a) = some (4, 128, 143, 240)) (hr : 244 ≤ by! s a) (hr2 : by! s a < 245) : Calls Tryz.prog 88 #[.string s, .int .i64 a] w (PtE s a w) := by
  have hg : ∀ hh', (s[a]'hh').toNat = by! s a := fun hh' => by_get s a hh'
  have hi0 : (0 : Int) ≤ (a : Int) := by omega
  have hi1 : (a : Int) < (s.size : Int) := by omega
  have hs' : (s.size : Int) ≤ 9223372036854770000 := by omega
  have HPok := Lib.hid (pt_ok (w := w) (decode_lead s a 4 128 143 240 ha h))
  have HPno := Lib.hid (pt_no (w := w) (decode_lead s a 4 128 143 240 ha h))
  have HF1 : Hid (∀ W, Calls Tryz.prog 146 #[.string s, .int .i64 ((a : Int) + 1), .int .i64 128, .int .i64 143] W fun e w' => e = .returned (.bool (decide (fol s (a + 1) 128 143))) ∧ ∃ q, w' = W.drewN q) := Lib.hid fun W => by
    have := follow_any s (a + 1) 128 143 (by omega) W
    simpa using this
  have HF2 : Hid (∀ (k : Nat) W, Calls Tryz.prog 146 #[.string s, .int .i64 ((a : Int) + (k : Int)), .int .i64 128, .int .i64 191] W fun e w' => e = .returned (.bool (decide (fol s (a + k) 128 191))) ∧ ∃ q, w' = W.drewN q) := Lib.hid fun k W => by
    have := follow_any s (a + k) 128 191 (by omega) W
    simpa using this
  have hlt := by_lt s a
  obtain ⟨B, hB⟩ : ∃ B, by! s a = B := ⟨_, rfl⟩
  have hw : wrap64 (B : Int) = (B : Int) := byte_int B (hB ▸ by_lt s a)
  rw [hB] at hg hr hr2 hlt HPok
  have HS : Hid (s.size ≤ 9223372036854770000) := Lib.hid hs
  clear h hB
  have HAL : Hid (∀ k, k ≤ 4 → acc s a (B - 240) k ≤ 16777216 ∧ (k ≤ 3 → acc s a (B - 240) k ≤ 200000) ∧ (k ≤ 2 → acc s a (B - 240) k ≤ 3000) ∧ (k ≤ 1 → acc s a (B - 240) k ≤ 31)) := Lib.hid (acc_le (B - 240) (by omega))
  have HA0 : Hid ((B : Int) - 240 = ((acc s a (B - 240) 1 : Nat) : Int)) := Lib.hid (by rw [show acc s a (B - 240) 1 = B - 240 from rfl]; omega)
  go_enter Tryz.func88, Tryz.ntmps88
  go_wp2_with (go_at_call 146; refine (HF1.out _).mono ?_; rintro e w1 ⟨rfl, q1, rfl⟩)
  go_loopw [12, 13] (fun ok i wr => ∃ (k : Nat) (bl : Bool), 2 ≤ k ∧ k ≤ 4 ∧ i = .int .i64 k ∧ ok = .bool bl ∧ Hid (bl = true ↔ fols s a 128 143 k) ∧ ∃ q, wr = w.drewN q)
    (fun _ i _ => 4 - (RowKit.intOf i).toNat)
  case atStart => exact ⟨2, _, Nat.le_refl _, by omega, rfl, rfl, Lib.hid (by simp only [decide_eq_true_iff]; exact Iff.rfl), q1, rfl⟩
  case round =>
    obtain ⟨k, bl, hk2, hkn, rfl, rfl, HI, q, rfl⟩ := hrel
    cases bl with
    | false =>
      have HN : Hid (¬ fols s a 128 143 4) := Lib.hid fun h => by simpa using HI.out.2 (fols_mono hk2 hkn h)
      by_cases hkl : (k : Int) < 4
      · go_wp2_with fail
        go_ret3
        exact HPno.out HN.out _ _ ⟨rfl, _, rfl⟩
      · go_wp2_with fail
        go_ret3
        exact HPno.out HN.out _ _ ⟨rfl, _, rfl⟩
    | true =>
      by_cases hkl : (k : Int) < 4
      · have hkl' : k < 4 := by omega
        have HC := Lib.hid (HF2.out k (w.drewN q))
        go_wp2_with (go_at_call 146; refine HC.out.mono ?_; rintro e w2 ⟨rfl, q2, rfl⟩)
        go_roundw
        case rel =>
          refine ⟨k + 1, _, by omega, by omega, by simp, rfl, Lib.hid ?_, _, by first | rfl | (simp only [World.drewN_drewN]; rfl)⟩
          rw [fols_step hk2, ← HI.out]
          simp only [decide_eq_true_iff, true_and]
        case measure => simp only [RowKit.intOf]; omega
      · obtain rfl : k = 4 := by omega
        have HFo := Lib.hid (HI.out.1 rfl)
        go_wp2_with fail
        go_loopw [11, 14] (fun u i wr => ∃ j : Nat, 1 ≤ j ∧ j ≤ 4 ∧ i = .int .i64 j ∧ u = .int .i64 (acc s a (B - 240) j : Nat) ∧ ∃ q, wr = w.drewN q)
          (fun _ i _ => 4 - (RowKit.intOf i).toNat)
        case atStart => exact ⟨1, Nat.le_refl _, by omega, rfl, by first | rw [HA0.out] | (congr 1; have := HA0.out; omega), q, rfl⟩
        case round =>
          obtain ⟨j, hj1, hjn, rfl, rfl, q', rfl⟩ := hrel
          by_cases hjl : (j : Int) < 4
          · have hjl' : j < 4 := by omega
            have HG := Lib.hid (fols_at (by omega) HFo.out hj1 hjl')
            have hin : (a : Int) + (j : Int) < s.size := by have := HG.out.1; omega
            have hn0 : (0 : Int) ≤ (a : Int) + (j : Int) := by omega
            have hgj : ∀ hh', (s[((a : Int) + (j : Int)).toNat]'hh').toNat = by! s (a + j) := fun hh' => by
              have e : ((a : Int) + (j : Int)).toNat = a + j := by omega
              simp only [e]
              exact by_get s (a + j) _
            have HA1 := HAL.out j (by omega)
            have hac : (acc s a (B - 240) j : Int) ≤ 200000 := by omega
            have HS1 : Hid (((acc s a (B - 240) (j + 1) : Nat) : Int) = (acc s a (B - 240) j : Int) * 64 + (by! s (a + j) : Int) - 128) := Lib.hid (by rw [acc_step hj1]; have := HG.out.2; omega)
            have hbl := by_lt s (a + j)
            have hwj : wrap64 (by! s (a + j) : Int) = (by! s (a + j) : Int) := byte_int _ hbl
            clear HA1
            generalize by! s (a + j) = D at hgj HS1 hbl hwj
            generalize hA : acc s a (B - 240) j = A at hac HS1
            go_wp2_with fail
            go_roundw
            case rel => exact ⟨j + 1, by omega, by omega, by simp, by rw [HS1.out], _, rfl⟩
            case measure => simp only [RowKit.intOf]; omega
          · obtain rfl : j = 4 := by omega
            go_wp2_with fail
            go_ret3
            exact HPok.out HFo.out _ _ ⟨rfl, _, rfl⟩
end
end Go.Proofs.YtoijabgcgdgacaaGreatDoor

namespace Go.Proofs.YtoijabgcgdgacaaGreatDoor
open Go.RowKit Go.Proofs.Gram Go.Lib

section
variable {s : ByteArray} {a : Nat} {w : World}

theorem rpoint_lead {n lo hi p : Nat} (ha : a < s.size) (hs : s.size ≤ 9223372036854770000) (h : lead (by! s a) = some (n, lo, hi, p)) : Calls Tryz.prog 88 #[.string s, .int .i64 a] w (PtE s a w) := by
  have h0 := h
  unfold lead at h
  split at h
  · cases h
  split at h
  · cases h; exact point_ba ha hs h0 (by omega) (by omega)
  split at h
  · cases h; exact point_bb ha hs h0 (by omega) (by omega)
  split at h
  · cases h; exact point_bc ha hs h0 (by omega) (by omega)
  split at h
  · cases h; exact point_bd ha hs h0 (by omega) (by omega) (by omega)
  split at h
  · cases h; exact point_be ha hs h0 (by omega) (by omega)
  split at h
  · cases h; exact point_bf ha hs h0 (by omega) (by omega)
  split at h
  · cases h; exact point_bg ha hs h0 (by omega) (by omega)
  · cases h

/-- A POINT OF A TEXT, AS THE REFERENCE READS IT: utf8's. -/
theorem rpoint_any (ha : a < s.size) (hs : s.size ≤ 9223372036854770000) : Calls Tryz.prog 88 #[.string s, .int .i64 a] w (PtE s a w) := by
  by_cases h : by! s a < 128
  · exact point_low ha (by omega) h
  · cases hl : lead (by! s a) with
    | none => exact point_none ha (by omega) h hl
    | some x =>
      obtain ⟨n, lo, hi, p⟩ := x
      exact rpoint_lead ha hs hl
end
end Go.Proofs.YtoijabgcgdgacaaGreatDoor

namespace Go.Proofs.YtoijabgcgdgacaaGreatDoor
open Go.RowKit Go.Proofs.Gram Go.Lib

def badV (eb es : Addr) : Option (Nat × Nat) → Value
  | none => .nilIface
  | some (c, _) => .iface 406 (.pointer (some (erA eb es c)))
def badW : Option (Nat × Nat) → Int
  | none => 0
  | some (_, p) => p

/-- The reference reader's block. -/
structure QR (eb es : Addr) (s : ByteArray) (b a o : Nat) (st : Option (Nat × Nat)) (w : World) : Prop where
  blk : w.heap[b]? = some (.cells #[.string s, .int .i64 a, .int .i64 o, badV eb es st, .int .i64 (badW st)] 115 (0, 0))
  far : 16 ≤ b

section
variable {eb es : Addr} {s : ByteArray} {b a o : Nat} {st : Option (Nat × Nat)} {w : World}

theorem QR.lt (h : QR eb es s b a o st w) : b < w.heap.size := (Array.getElem?_eq_some_iff.1 h.blk).1
theorem QR.c0 (h : QR eb es s b a o st w) : w.cell? ⟨b, 0, none⟩ = some (.string s) := by simp [World.cell?, h.blk]
theorem QR.c1 (h : QR eb es s b a o st w) : w.cell? ⟨b, 1, none⟩ = some (.int .i64 a) := by simp [World.cell?, h.blk]
theorem QR.c2 (h : QR eb es s b a o st w) : w.cell? ⟨b, 2, none⟩ = some (.int .i64 o) := by simp [World.cell?, h.blk]
theorem QR.c3 (h : QR eb es s b a o st w) : w.cell? ⟨b, 3, none⟩ = some (badV eb es st) := by simp [World.cell?, h.blk]
theorem QR.c4 (h : QR eb es s b a o st w) : w.cell? ⟨b, 4, none⟩ = some (.int .i64 (badW st)) := by simp [World.cell?, h.blk]
theorem QR.z (h : QR eb es s b a o st w) (k : Nat) : w.frozen? ⟨b, k, none⟩ = false := by simp [World.frozen?, h.blk]
theorem QR.kp {F : Nat → Prop} {w' : World} (h : QR eb es s b a o st w) (hk : Kp F w w') (hF : ¬ F b) : QR eb es s b a o st w' := ⟨hk.heap h.blk hF, h.far⟩
theorem QR.at (h : QR eb es s b a o st w) (a' : Nat) : QR eb es s b a' o st (w.setCell ⟨b, 1, none⟩ (.int .i64 a')) := by
  refine ⟨?_, h.far⟩
  simp [World.setCell, Array.getElem?_modify, h.blk]
theorem QR.op (h : QR eb es s b a o st w) (o' : Nat) : QR eb es s b a o' st (w.setCell ⟨b, 2, none⟩ (.int .i64 o')) := by
  refine ⟨?_, h.far⟩
  simp [World.setCell, Array.getElem?_modify, h.blk]
theorem QR.bad (h : QR eb es s b a o none w) (c p : Nat) : QR eb es s b a o (some (c, p)) ((w.setCell ⟨b, 3, none⟩ (.iface 406 (.pointer (some (erA eb es c))))).setCell ⟨b, 4, none⟩ (.int .i64 p)) := by
  refine ⟨?_, h.far⟩
  simp [World.setCell, Array.getElem?_modify, h.blk, badV, badW]

theorem nil_eq (W : World) : (binOp BinOp.eql 26 .nilIface .nilIface).run Tryz.prog W = .ok (.bool true) W := by kernel_rfl
theorem nil_ne (W : World) : (binOp BinOp.neq 26 .nilIface .nilIface).run Tryz.prog W = .ok (.bool false) W := by kernel_rfl
theorem err_eq (ea : Addr) (W : World) : (binOp BinOp.eql 26 (.iface 406 (.pointer (some ea))) .nilIface).run Tryz.prog W = .ok (.bool false) W := by kernel_rfl
theorem err_ne (ea : Addr) (W : World) : (binOp BinOp.neq 26 (.iface 406 (.pointer (some ea))) .nilIface).run Tryz.prog W = .ok (.bool true) W := by kernel_rfl

set_option maxRecDepth 100000 in
theorem rfail_new (h : QR eb es s b a o none w) (c p : Nat) :
    Calls Tryz.prog 58 #[.pointer (some ⟨b, 0, none⟩), .iface 406 (.pointer (some (erA eb es c))), .int .i64 p] w fun e w' => e = .returned (.tuple #[]) ∧ QR eb es s b a o (some (c, p)) w' ∧ Kp (onB b) w w' := by
  have h3 := h.c3
  have h4 := h.c4
  have hz3 := h.z 3
  have hz4 := h.z 4
  have hn := nil_eq
  unfold badV at h3
  unfold badW at h4
  have HB := Lib.hid (h.bad c p)
  have HK : Hid (Kp (onB b) w ((w.setCell ⟨b, 3, none⟩ (.iface 406 (.pointer (some (erA eb es c))))).setCell ⟨b, 4, none⟩ (.int .i64 p))) := Lib.hid (((Kp.refl (onB b) w).setCell (p := ⟨b, 3, none⟩) (.inl (onB_self _)) _).setCell (p := ⟨b, 4, none⟩) (.inl (onB_self _)) _)
  clear h
  go_enter Tryz.func58, Tryz.ntmps58
  go_wp2_with fail
  go_end0
  exact ⟨rfl, HB.out, HK.out⟩

set_option maxRecDepth 100000 in
theorem rfail_old {st' : Nat × Nat} (h : QR eb es s b a o (some st') w) (ev : Value) (p : Int) :
    Calls Tryz.prog 58 #[.pointer (some ⟨b, 0, none⟩), ev, .int .i64 p] w fun e w' => e = .returned (.tuple #[]) ∧ w' = w := by
  obtain ⟨c', p'⟩ := st'
  have h3 := h.c3
  have hn := err_eq
  unfold badV at h3
  clear h
  go_enter Tryz.func58, Tryz.ntmps58
  go_wp2_with fail
  go_end0
  exact ⟨rfl, rfl⟩
end
end Go.Proofs.YtoijabgcgdgacaaGreatDoor

namespace Go.Proofs.YtoijabgcgdgacaaGreatDoor
open Go.RowKit Go.Proofs.Gram Go.Lib

section
variable {eb es : Addr} {s : ByteArray} {b a o : Nat} {st : Option (Nat × Nat)} {w : World}

set_option maxRecDepth 100000 in
/-- Where something was wrong, the end. -/
theorem now_bad {x : Nat × Nat} (h : QR eb es s b a o (some x) w) : Calls Tryz.prog 169 #[.pointer (some ⟨b, 0, none⟩)] w fun e w' => e = .returned (.int .i64 (-1)) ∧ ∃ q, w' = w.drewN q := by
  obtain ⟨c, p⟩ := x
  have h3 := h.c3
  have h1 := h.c1
  have h0 := h.c0
  have hn := err_ne
  unfold badV at h3
  clear h
  go_enter Tryz.func169, Tryz.ntmps169
  go_wp2_with fail
  go_quiet (fail)
  go_wp2_with fail
  go_ret
  exact ⟨rfl, _, rfl⟩

set_option maxRecDepth 100000 in
theorem now_end (h : QR eb es s b a o none w) (ha : s.size ≤ a) : Calls Tryz.prog 169 #[.pointer (some ⟨b, 0, none⟩)] w fun e w' => e = .returned (.int .i64 (-1)) ∧ ∃ q, w' = w.drewN q := by
  have h3 := h.c3
  have h1 := h.c1
  have h0 := h.c0
  have hn := nil_ne
  unfold badV at h3
  have hb : decide (s.size ≤ a) = true := decide_eq_true ha
  clear h
  go_enter Tryz.func169, Tryz.ntmps169
  go_wp2_with fail
  go_quiet (fail)
  go_wp2_with fail
  go_ret
  exact ⟨rfl, _, rfl⟩

/-- What 'now' says: the point; -1 where something is wrong. -/
def NowE (eb es : Addr) (s : ByteArray) (b a o : Nat) (w : World) (e : Ending) (w' : World) : Prop :=
  ∃ (v : Int) (st : Option (Nat × Nat)), e = .returned (.int .i64 v) ∧ QR eb es s b a o st w' ∧ Kp (onB b) w w' ∧ Hid ((pk s a = -2 ∧ v = -1 ∧ st = some (1, a)) ∨ (pk s a ≠ -2 ∧ v = pk s a ∧ st = none))

set_option maxRecDepth 100000 in
theorem now_in (h : QR eb es s b a o none w) (ha : a < s.size) (hs : s.size ≤ 9223372036854770000) (h2 : pk s a ≠ -2) : Calls Tryz.prog 169 #[.pointer (some ⟨b, 0, none⟩)] w fun e w' => e = .returned (.int .i64 (pk s a)) ∧ ∃ q, w' = w.drewN q := by
  have h3 := h.c3
  have h1 := h.c1
  have h0 := h.c0
  have hn := nil_ne
  unfold badV at h3
  have hb : decide (s.size ≤ a) = false := decide_eq_false (by omega)
  obtain ⟨hp, hd⟩ := pk_in ha h2
  have HP : Hid (∀ q0 q, Calls Tryz.prog 88 #[.string s, .int .i64 a] (w.drewN (q0 + q)) fun e w' => e = .returned (.tuple #[.int .i64 (pk s a), .int .i64 (Utf8.decode s a).2, .bool true]) ∧ ∃ q', w' = w.drewN (q0 + q')) := Lib.hid fun q0 q => (rpoint_any ha hs).mono fun e w' ⟨he, q', hw⟩ => ⟨by rw [he, hp, decide_eq_true hd], q + q', by rw [hw, World.drewN_drewN, Nat.add_assoc]⟩
  generalize pk s a = v at *
  generalize (Utf8.decode s a).2 = n at *
  clear h hp hd
  go_enter Tryz.func169, Tryz.ntmps169
  go_wp2_with fail
  go_quiet (fail)
  go_wp2_with fail
  go_quiet ((go_at_call 88; exact HP.out _ _))
  go_wp2_with fail
  go_ret
  exact ⟨rfl, _, rfl⟩
end
end Go.Proofs.YtoijabgcgdgacaaGreatDoor

namespace Go.Proofs.YtoijabgcgdgacaaGreatDoor
open Go.RowKit Go.Proofs.Gram Go.Lib

section
variable {eb es : Addr} {s : ByteArray} {b a o : Nat} {w : World}

set_option maxRecDepth 100000 in
theorem now_hurt (h : QR eb es s b a o none w) (hE : Env 406 eb es w) (hs : s.size ≤ 9223372036854770000) (h2 : pk s a = -2) : Calls Tryz.prog 169 #[.pointer (some ⟨b, 0, none⟩)] w fun e w' => e = .returned (.int .i64 (-1)) ∧ QR eb es s b a o (some (1, a)) w' ∧ Kp (onB b) w w' := by
  have h3 := h.c3
  have h1 := h.c1
  have h0 := h.c0
  have hn := nil_ne
  unfold badV at h3
  obtain ⟨ha, hd⟩ := pk_bad h2
  have hb : decide (s.size ≤ a) = false := decide_eq_false (by omega)
  have HP : Hid (∀ q0 q, Calls Tryz.prog 88 #[.string s, .int .i64 a] (w.drewN (q0 + q)) fun e w' => e = .returned (.tuple #[.int .i64 65533, .int .i64 1, .bool false]) ∧ ∃ q', w' = w.drewN (q0 + q')) := Lib.hid fun q0 q => (rpoint_any ha hs).mono fun e w' ⟨he, q', hw⟩ => ⟨by rw [he, hd]; rfl, q + q', by rw [hw, World.drewN_drewN, Nat.add_assoc]⟩
  have HF : Hid (∀ W, Kp (onB b) w W → QR eb es s b a o none W → Calls Tryz.prog 58 #[.pointer (some ⟨b, 0, none⟩), .iface 406 (.pointer (some es)), .int .i64 a] W fun e w' => e = .returned (.tuple #[]) ∧ QR eb es s b a o (some (1, a)) w' ∧ Kp (onB b) w w') := Lib.hid fun W hk hq => (rfail_new hq 1 a).mono fun e w' ⟨he, hq, hk'⟩ => ⟨he, hq, hk.trans hk'⟩
  have HQ := Lib.hid h
  have hsy := hE.syn
  clear h hd
  go_enter Tryz.func169, Tryz.ntmps169
  go_wp2_with fail
  go_quiet (fail)
  generalize nq = n1
  go_wp2_with fail
  go_quiet ((go_at_call 88; exact HP.out _ _))
  go_wp2_with fail
  have HK0 : Hid (Kp (onB b) w (w.drewN (n1 + nq)).drew) := Lib.hid ((Kp.refl _ _).drewN _).drew
  have HQ0 := Lib.hid (HQ.out.kp (F := noB) (((Kp.refl _ _).drewN (n1 + nq)).drew) (noB_not _))
  have g1 : (w.drewN (n1 + nq)).cell? ⟨b, 1, none⟩ = some (.int .i64 a) := h1
  have g2 : (w.drewN (n1 + nq)).cell? ⟨1, 0, none⟩ = some (.iface 406 (.pointer (some es))) := hsy
  generalize w.drewN (n1 + nq) = W at *
  go_still_tail 6, (by kernel_rfl)
  change wpList _ _ _ _ _ W.drew
  go_wp2_with (go_at_call 58; refine (HF.out _ HK0.out HQ0.out).mono ?_; rintro e w1 ⟨rfl, hq1, hk1⟩)
  go_ret
  exact ⟨rfl, hq1, hk1⟩
end
end Go.Proofs.YtoijabgcgdgacaaGreatDoor

namespace Go.Proofs.YtoijabgcgdgacaaGreatDoor
open Go.RowKit Go.Proofs.Gram Go.Lib

section
variable {eb es : Addr} {s : ByteArray} {b a o : Nat} {st : Option (Nat × Nat)} {w : World}

set_option maxRecDepth 100000 in
theorem skip_any (h : QR eb es s b a o st w) (ha : a < s.size) (hs : s.size ≤ 9223372036854770000) : Calls Tryz.prog 170 #[.pointer (some ⟨b, 0, none⟩)] w fun e w' => e = .returned (.tuple #[]) ∧ QR eb es s b (nx s a) o st w' ∧ Kp (onB b) w w' := by
  have h1 := h.c1
  have h0 := h.c0
  have hz := h.z 1
  have HP : Hid (∀ q, Calls Tryz.prog 88 #[.string s, .int .i64 a] (w.drewN q) fun e w' => e = .returned (.tuple #[.int .i64 (Utf8.decode s a).1, .int .i64 (Utf8.decode s a).2, .bool (decide (Utf8.decode s a ≠ (65533, 1)))]) ∧ ∃ q', w' = w.drewN q') := Lib.hid fun q => (rpoint_any ha hs).mono fun e w' ⟨he, q', hw⟩ => ⟨he, q + q', by rw [hw, World.drewN_drewN]⟩
  have HQ := Lib.hid h
  have hnx := (nx_le s a ha).2
  unfold nx at hnx
  have hnx' : (a : Int) + ((Utf8.decode s a).2 : Int) ≤ 9223372036854770000 := by omega
  clear h
  go_enter Tryz.func170, Tryz.ntmps170
  go_wp2_with fail
  go_quiet ((go_at_call 88; exact HP.out _))
  go_wp2_with fail
  go_end0
  exact ⟨rfl, (HQ.out.kp (F := noB) ((Kp.refl _ _).drewN _) (noB_not _)).at (nx s a), ((Kp.refl _ _).drewN _).setCell (p := ⟨b, 1, none⟩) (.inl (onB_self _)) _⟩
end
end Go.Proofs.YtoijabgcgdgacaaGreatDoor
