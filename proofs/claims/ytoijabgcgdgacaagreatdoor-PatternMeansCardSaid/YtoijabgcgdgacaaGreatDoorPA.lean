/-
  PLAIN LAW, part 20: what a pattern stands for; the reference's patterns behind a point, plainly.
  PLAIN LAW, part 21: what the reference's rows, sums and products of patterns stand for.
  PLAIN LAW, part 22: what is left of a pattern behind a point stands for what it should.
  PLAIN LAW, part 23: a pattern behind a point; the reference's form of a pattern; the reference's matching, plainly.
  PLAIN LAW, part 24: the program's matching by places: rows and times, plainly.
  PLAIN LAW, part 25: the reference's order of patterns is one; its sums and products hold each part once.
  PLAIN LAW, part 26: rows of rows.
-/
import Derived.Test.YtoijabgcgdgacaaGreatDoorGB
namespace Go.Proofs.Gram

/-- n times. -/
def Pw (L : List Int → Prop) : Nat → List Int → Prop
  | 0, w => w = []
  | n + 1, w => ∃ u v, w = u ++ v ∧ L u ∧ Pw L n v

mutual
/-- WHAT A PATTERN STANDS FOR. -/
def Lg : Rx → List Int → Prop
  | .nil => fun _ => False
  | .mk k set mn mx kids => fun w =>
    if k = 1 then ∃ c, w = [c] ∧ inR set c
    else if k = 2 then LgC kids w
    else if k = 3 then LgO kids w
    else if k = 4 then LgA kids w
    else if k = 5 then ¬ LgH kids w
    else ∃ n : Nat, mn ≤ n ∧ (mx < 0 ∨ (n : Int) ≤ mx) ∧ Pw (LgH kids) n w
def LgC : List Rx → List Int → Prop
  | [] => fun w => w = []
  | x :: l => fun w => ∃ u v, w = u ++ v ∧ Lg x u ∧ LgC l v
def LgO : List Rx → List Int → Prop
  | [] => fun _ => False
  | x :: l => fun w => Lg x w ∨ LgO l w
def LgA : List Rx → List Int → Prop
  | [] => fun _ => True
  | x :: l => fun w => Lg x w ∧ LgA l w
def LgH : List Rx → List Int → Prop
  | [] => fun _ => False
  | x :: _ => Lg x
end

def rxNo : Rx := .mk 1 [] 0 0 []
def rxE : Rx := .mk 2 [] 0 0 []
def isNo : Rx → Bool
  | .nil => false
  | .mk k set _ _ _ => k == 1 && set.isEmpty
def isE : Rx → Bool
  | .nil => false
  | .mk k _ _ _ kids => k == 2 && kids.isEmpty
def Rx.kd : Rx → Int
  | .nil => 0
  | .mk k _ _ _ _ => k
def Rx.ks : Rx → List Rx
  | .nil => []
  | .mk _ _ _ _ l => l

mutual
/-- Two behind one another. -/
def catR (b : Rx) : Rx → Rx
  | .nil => .nil
  | .mk k set mn mx kids =>
    if isNo (.mk k set mn mx kids) || isNo b then rxNo
    else if isE (.mk k set mn mx kids) then b
    else if isE b then .mk k set mn mx kids
    else if k = 2 then .mk 2 [] 0 0 (catK b kids)
    else .mk 2 [] 0 0 [.mk k set mn mx kids, b]
/-- The kids of a row of two, more behind them. -/
def catK (b : Rx) : List Rx → List Rx
  | [] => []
  | [x] => [catR b x]
  | x :: l => x :: catK b l
end

mutual
def ordR : Rx → Rx → Int
  | .nil, .nil => 0
  | .nil, .mk .. => -1
  | .mk .., .nil => 1
  | .mk k s mn mx ks, .mk k' s' mn' mx' ks' =>
    if k ≠ k' then k - k' else if mn ≠ mn' then mn - mn' else if mx ≠ mx' then mx - mx'
    else if (s.length : Int) ≠ (s'.length : Int) then (s.length : Int) - s'.length
    else if ordS s s' ≠ 0 then ordS s s'
    else if (ks.length : Int) ≠ (ks'.length : Int) then (ks.length : Int) - ks'.length
    else ordL ks ks'
def ordL : List Rx → List Rx → Int
  | x :: l, y :: l' => if ordR x y ≠ 0 then ordR x y else ordL l l'
  | _, _ => 0
def ordS : List (Int × Int) → List (Int × Int) → Int
  | x :: l, y :: l' => if x.1 ≠ y.1 then x.1 - y.1 else if x.2 ≠ y.2 then x.2 - y.2 else ordS l l'
  | _, _ => 0
end

def insR : List Rx → Rx → List Rx
  | [], p => [p]
  | x :: l, p => if ordR x p = 0 then x :: l else if 0 < ordR x p then p :: x :: l else x :: insR l p

mutual
def addR (k : Int) : Rx → List Rx → List Rx
  | .nil, l => l
  | .mk k' s mn mx kids, l => if k' = k then addK k kids l else insR l (.mk k' s mn mx kids)
def addK (k : Int) : List Rx → List Rx → List Rx
  | [], l => l
  | x :: r, l => addK k r (addR k x l)
end

def joinK (k : Int) : List Rx → List Rx → Option (List Rx)
  | [], acc => some acc
  | x :: l, acc => if isNo x then (if k = 4 then none else joinK k l acc) else joinK k l (addR k x acc)
def joinR (k : Int) (l : List Rx) : Rx :=
  match joinK k l [] with
  | none => rxNo
  | some [] => rxNo
  | some [x] => x
  | some ks => .mk k [] 0 0 ks

def repR (p : Rx) (lo hi : Int) : Rx :=
  if hi = 0 then rxE else if isNo p && decide (0 < lo) then rxNo else if isNo p || isE p then rxE else .mk 6 [] lo hi [p]

def headR : List Rx → Rx
  | [] => .nil
  | x :: _ => x

mutual
def plR : Rx → Rx
  | .nil => .nil
  | .mk k set mn mx kids =>
    if k = 2 then (plL kids).foldr (fun x out => catR out x) rxE
    else if k = 3 ∨ k = 4 then joinR k (plL kids)
    else if k = 6 then repR (headR (plL kids)) mn mx
    else if k = 5 then .mk 5 [] 0 0 (plL kids)
    else .mk k set mn mx kids
def plL : List Rx → List Rx
  | [] => []
  | x :: l => plR x :: plL l
end

mutual
/-- Does it stand for the empty text? -/
def tE : Rx → Bool
  | .nil => false
  | .mk k _ mn _ kids => if k = 1 then false else if k = 5 then !(tEh kids) else if k = 6 then (mn == 0 || tEh kids) else if k = 3 then tEo kids else tEa kids
def tEh : List Rx → Bool
  | [] => false
  | x :: _ => tE x
def tEo : List Rx → Bool
  | [] => false
  | x :: l => tE x || tEo l
def tEa : List Rx → Bool
  | [] => true
  | x :: l => tE x && tEa l
end

def decR (n : Int) : Int := if 0 < n then n - 1 else n
noncomputable def inB' (set : List (Int × Int)) (c : Int) : Bool := by classical exact decide (inR set c)

/-- A row of two behind a point. -/
def rowR (te : Bool) : List Rx → List Rx → Rx
  | _ :: l, d :: e => if te then joinR 3 [catR (headR l) d, headR e] else catR (headR l) d
  | _, _ => rxNo

mutual
/-- What is left behind a point. -/
noncomputable def DR (c : Int) : Rx → Rx
  | .nil => .nil
  | .mk k set mn mx kids =>
    if k = 1 then (if inB' set c then rxE else rxNo)
    else if k = 5 then .mk 5 [] 0 0 [headR (DL c kids)]
    else if k = 6 then catR (repR (headR kids) (decR mn) (decR mx)) (headR (DL c kids))
    else if k = 2 then rowR (tEh kids) kids (DL c kids)
    else joinR k (DL c kids)
noncomputable def DL (c : Int) : List Rx → List Rx
  | [] => []
  | x :: l => DR c x :: DL c l
end

mutual
/-- Patterns as the reference writes them within. -/
def Gd : Rx → Prop
  | .nil => False
  | .mk k _ mn mx kids =>
    (k = 1 ∨ k = 2 ∨ k = 3 ∨ k = 4 ∨ k = 5 ∨ k = 6) ∧ GdL kids ∧
    (k = 2 → kids = [] ∨ ∃ h t, kids = [h, t] ∧ isNo h = false ∧ isNo t = false ∧ h.kd ≠ 2 ∧ isE t = false) ∧
    (k = 3 ∨ k = 4 → kids ≠ []) ∧
    (k = 5 → kids.length = 1) ∧
    (k = 6 → kids.length = 1 ∧ 0 ≤ mn ∧ (mx = -1 ∨ (1 ≤ mx ∧ mn ≤ mx)))
def GdL : List Rx → Prop
  | [] => True
  | x :: l => Gd x ∧ GdL l
end
end Go.Proofs.Gram

namespace Go.Proofs.Gram

theorem lg_no (w : List Int) : ¬ Lg rxNo w := by simp [rxNo, Lg, inR]
theorem lg_isNo : ∀ {x : Rx}, isNo x = true → ∀ w, ¬ Lg x w
  | .nil, h, _ => by simp [isNo] at h
  | .mk k set mn mx kids, h, w => by
    simp only [isNo, Bool.and_eq_true, beq_iff_eq, List.isEmpty_iff] at h
    obtain ⟨rfl, rfl⟩ := h
    simp [Lg, inR]
theorem lg_e (w : List Int) : Lg rxE w ↔ w = [] := by simp [rxE, Lg, LgC]
theorem lg_isE : ∀ {x : Rx}, isE x = true → ∀ w, Lg x w ↔ w = []
  | .nil, h, _ => by simp [isE] at h
  | .mk k set mn mx kids, h, w => by
    simp only [isE, Bool.and_eq_true, beq_iff_eq, List.isEmpty_iff] at h
    obtain ⟨rfl, rfl⟩ := h
    simp [Lg, LgC]

def Sq (L M : List Int → Prop) (w : List Int) : Prop := ∃ u v, w = u ++ v ∧ L u ∧ M v
theorem sq_congr {L L' M M' : List Int → Prop} (h : ∀ w, L w ↔ L' w) (k : ∀ w, M w ↔ M' w) (w : List Int) : Sq L M w ↔ Sq L' M' w :=
  ⟨fun ⟨u, v, e, a, b⟩ => ⟨u, v, e, (h u).1 a, (k v).1 b⟩, fun ⟨u, v, e, a, b⟩ => ⟨u, v, e, (h u).2 a, (k v).2 b⟩⟩
theorem sq_assoc (L M N : List Int → Prop) (w : List Int) : Sq L (Sq M N) w ↔ Sq (Sq L M) N w := by
  constructor
  · rintro ⟨u, _, rfl, a, v, x, rfl, b, c⟩
    exact ⟨u ++ v, x, by simp, ⟨u, v, rfl, a, b⟩, c⟩
  · rintro ⟨_, x, rfl, ⟨u, v, rfl, a, b⟩, c⟩
    exact ⟨u, v ++ x, by simp, a, v, x, rfl, b, c⟩
theorem sq_e_left (M : List Int → Prop) (w : List Int) : Sq (fun w => w = []) M w ↔ M w := by
  constructor
  · rintro ⟨u, v, rfl, rfl, b⟩
    exact b
  · intro h
    exact ⟨[], w, rfl, rfl, h⟩
theorem sq_e_right (L : List Int → Prop) (w : List Int) : Sq L (fun w => w = []) w ↔ L w := by
  constructor
  · rintro ⟨u, v, rfl, a, rfl⟩
    simpa using a
  · intro h
    exact ⟨w, [], by simp, h, rfl⟩

theorem lg_two (s : List (Int × Int)) (mn mx : Int) (a b : Rx) (w : List Int) : Lg (.mk 2 s mn mx [a, b]) w ↔ Sq (Lg a) (Lg b) w := by
  have e : Lg (.mk 2 s mn mx [a, b]) w ↔ LgC [a, b] w := by simp [Lg]
  rw [e, LgC, LgC, LgC]
  exact sq_congr (fun _ => Iff.rfl) (fun w => sq_e_right (Lg b) w) w

theorem gd_of_mem : ∀ {l : List Rx} {x : Rx}, GdL l → x ∈ l → Gd x
  | [], _, _, h => by cases h
  | y :: l, x, hl, h => by
    rcases List.mem_cons.1 h with rfl | h
    · exact hl.1
    · exact gd_of_mem hl.2 h
theorem gdL_iff : ∀ {l : List Rx}, GdL l ↔ ∀ x ∈ l, Gd x
  | [] => by simp [GdL]
  | y :: l => by
    rw [GdL, gdL_iff (l := l)]
    simp

theorem isE_kd {x : Rx} (h : x.kd ≠ 2) : isE x = false := by
  cases x with
  | nil => rfl
  | mk k s mn mx kids =>
    simp only [Rx.kd] at h
    simp [isE, h]

/-- Two behind one another. -/
theorem lg_cat : ∀ (n : Nat) (a b : Rx), SizeOf.sizeOf a ≤ n → Gd a → ∀ w, Lg (catR b a) w ↔ Sq (Lg a) (Lg b) w := by
  intro n
  induction n with
  | zero => intro a b h; cases a <;> simp at h
  | succ n ih =>
    intro a b hsz hg w
    cases a with
    | nil => exact absurd hg (by simp [Gd])
    | mk k set mn mx kids =>
      rw [catR]
      by_cases h1 : isNo (.mk k set mn mx kids) = true
      · rw [h1]
        simp only [Bool.true_or, if_true]
        exact ⟨fun h => (lg_no w h).elim, fun ⟨u, v, _, a, _⟩ => (lg_isNo h1 u a).elim⟩
      · by_cases h2 : isNo b = true
        · rw [h2]
          simp only [Bool.or_true, if_true]
          exact ⟨fun h => (lg_no w h).elim, fun ⟨u, v, _, _, a⟩ => (lg_isNo h2 v a).elim⟩
        · rw [if_neg (by simp [h1, h2])]
          by_cases h3 : isE (.mk k set mn mx kids) = true
          · rw [if_pos h3]
            exact (sq_e_left (Lg b) w).symm.trans (sq_congr (fun w => (lg_isE h3 w).symm) (fun _ => Iff.rfl) w)
          · rw [if_neg h3]
            by_cases h4 : isE b = true
            · rw [if_pos h4]
              exact (sq_e_right _ w).symm.trans (sq_congr (fun _ => Iff.rfl) (fun w => (lg_isE h4 w).symm) w)
            · rw [if_neg h4]
              by_cases h5 : k = 2
              · subst h5
                rw [if_pos rfl]
                obtain ⟨_, hgl, h2k, _⟩ := hg
                rcases h2k rfl with rfl | ⟨h, t, rfl, e1, e2, e3, e4⟩
                · simp [isE] at h3
                · simp only [Rx.mk.sizeOf_spec, List.cons.sizeOf_spec, List.nil.sizeOf_spec] at hsz
                  rw [catK, catK, lg_two]
                  · rw [sq_congr (fun _ => Iff.rfl) (ih t b (by omega) hgl.2.1) w, sq_assoc]
                    exact (sq_congr (fun w => lg_two _ _ _ h t w) (fun _ => Iff.rfl) w).symm
                  · simp
              · rw [if_neg h5, lg_two]

/-! the order of patterns -/
theorem ordS_eq : ∀ {l l' : List (Int × Int)}, l.length = l'.length → ordS l l' = 0 → l = l'
  | [], [], _, _ => rfl
  | [], _ :: _, h, _ => by simp at h
  | _ :: _, [], h, _ => by simp at h
  | (a, b) :: l, (c, d) :: l', h, k => by
    rw [ordS] at k
    split at k
    · omega
    · rename_i h1
      split at k
      · omega
      · rename_i h2
        have := ordS_eq (by simpa using h) k
        subst this
        simp only [Decidable.not_not] at h1 h2
        rw [h1, h2]

theorem ordR_eq : ∀ (n : Nat) (x y : Rx), SizeOf.sizeOf x ≤ n → ordR x y = 0 → x = y := by
  intro n
  induction n with
  | zero => intro x y h; cases x <;> simp at h
  | succ n ih =>
    intro x y hsz h
    cases x with
    | nil =>
      cases y with
      | nil => rfl
      | mk => simp [ordR] at h
    | mk k s mn mx ks =>
      cases y with
      | nil => simp [ordR] at h
      | mk k' s' mn' mx' ks' =>
        simp only [Rx.mk.sizeOf_spec] at hsz
        have hL : ∀ (l l' : List Rx), SizeOf.sizeOf l ≤ n → l.length = l'.length → ordL l l' = 0 → l = l' := by
          intro l
          induction l with
          | nil => intro l' _ h _; cases l' with
            | nil => rfl
            | cons => simp at h
          | cons a l ihl =>
            intro l' hs h k
            cases l' with
            | nil => simp at h
            | cons a' l' =>
              simp only [List.cons.sizeOf_spec] at hs
              rw [ordL] at k
              split at k
              · rename_i h1; exact absurd k h1
              · rename_i h1
                simp only [Decidable.not_not] at h1
                rw [ih a a' (by omega) h1, ihl l' (by omega) (by simpa using h) k]
        rw [ordR] at h
        split at h
        · omega
        rename_i e1
        split at h
        · omega
        rename_i e2
        split at h
        · omega
        rename_i e3
        split at h
        · omega
        rename_i e4
        split at h
        · rename_i e5; exact absurd h e5
        rename_i e5
        split at h
        · omega
        rename_i e6
        simp only [Decidable.not_not] at e1 e2 e3 e4 e5 e6
        rw [e1, e2, e3, ordS_eq (by omega) e5, hL ks ks' (by omega) (by omega) h]

theorem mem_ins : ∀ (l : List Rx) (p y : Rx), y ∈ insR l p ↔ y ∈ l ∨ y = p
  | [], p, y => by simp [insR]
  | x :: l, p, y => by
    rw [insR]
    split
    · rename_i h
      have := ordR_eq _ x p (Nat.le_refl _) h
      subst this
      simp only [List.mem_cons]
      exact ⟨fun h => .inl h, fun h => h.elim id .inl⟩
    · split
      · simp only [List.mem_cons]
        exact ⟨fun h => h.elim .inr .inl, fun h => h.elim .inr .inl⟩
      · rw [List.mem_cons, mem_ins l p y, List.mem_cons]
        exact ⟨fun h => h.elim (fun h => .inl (.inl h)) (fun h => h.elim (fun h => .inl (.inr h)) .inr), fun h => h.elim (fun h => h.elim .inl (fun h => .inr (.inl h))) (fun h => .inr (.inr h))⟩

theorem lgO_iff : ∀ (l : List Rx) (w : List Int), LgO l w ↔ ∃ x ∈ l, Lg x w
  | [], w => by simp [LgO]
  | x :: l, w => by have h := lgO_iff l w; simp only [LgO, h, List.mem_cons, exists_eq_or_imp]
theorem lgA_iff : ∀ (l : List Rx) (w : List Int), LgA l w ↔ ∀ x ∈ l, Lg x w
  | [], w => by simp [LgA]
  | x :: l, w => by have h := lgA_iff l w; simp only [LgA, h, List.mem_cons, forall_eq_or_imp]

theorem lg_or (s : List (Int × Int)) (mn mx : Int) (l : List Rx) (w : List Int) : Lg (.mk 3 s mn mx l) w ↔ ∃ x ∈ l, Lg x w :=
  (by simp [Lg] : Lg (.mk 3 s mn mx l) w ↔ LgO l w).trans (lgO_iff l w)
theorem lg_and (s : List (Int × Int)) (mn mx : Int) (l : List Rx) (w : List Int) : Lg (.mk 4 s mn mx l) w ↔ ∀ x ∈ l, Lg x w :=
  (by simp [Lg] : Lg (.mk 4 s mn mx l) w ↔ LgA l w).trans (lgA_iff l w)

mutual
/-- The parts of a sum or a product. -/
def atm (k : Int) : Rx → List Rx
  | .nil => []
  | .mk k' s mn mx kids => if k' = k then atmL k kids else [.mk k' s mn mx kids]
def atmL (k : Int) : List Rx → List Rx
  | [] => []
  | x :: l => atm k x ++ atmL k l
end
theorem mem_atmL (k : Int) (y : Rx) : ∀ (l : List Rx), y ∈ atmL k l ↔ ∃ x ∈ l, y ∈ atm k x
  | [] => by simp [atmL]
  | x :: l => by rw [atmL, List.mem_append, mem_atmL k y l]; simp

theorem mem_add (k : Int) : ∀ (n : Nat) (p : Rx) (l : List Rx) (y : Rx), SizeOf.sizeOf p ≤ n → (y ∈ addR k p l ↔ y ∈ l ∨ y ∈ atm k p) := by
  intro n
  induction n with
  | zero => intro p l y h; cases p <;> simp at h
  | succ n ih =>
    intro p l y hsz
    cases p with
    | nil => simp [addR, atm]
    | mk k' s mn mx kids =>
      simp only [Rx.mk.sizeOf_spec] at hsz
      rw [addR, atm]
      by_cases h : k' = k
      · rw [if_pos h, if_pos h]
        have hL : ∀ (r l : List Rx), SizeOf.sizeOf r ≤ n → (y ∈ addK k r l ↔ y ∈ l ∨ y ∈ atmL k r) := by
          intro r
          induction r with
          | nil => intro l _; simp [addK, atmL]
          | cons x r ihr =>
            intro l hs
            simp only [List.cons.sizeOf_spec] at hs
            rw [addK, ihr _ (by omega), ih x l y (by omega), atmL, List.mem_append]
            exact or_assoc
        exact hL kids l (by omega)
      · rw [if_neg h, if_neg h, mem_ins]
        simp

theorem atm_or (w : List Int) : ∀ (n : Nat) (p : Rx), SizeOf.sizeOf p ≤ n → (Lg p w ↔ ∃ y ∈ atm 3 p, Lg y w) := by
  intro n
  induction n with
  | zero => intro p h; cases p <;> simp at h
  | succ n ih =>
    intro p hsz
    cases p with
    | nil => simp [atm, Lg]
    | mk k' s mn mx kids =>
      simp only [Rx.mk.sizeOf_spec] at hsz
      rw [atm]
      by_cases h : k' = 3
      · subst h
        rw [if_pos rfl, lg_or]
        constructor
        · rintro ⟨x, hx, h⟩
          obtain ⟨y, hy, h2⟩ := (ih x (by have := List.sizeOf_lt_of_mem hx; omega)).1 h
          exact ⟨y, (mem_atmL 3 y kids).2 ⟨x, hx, hy⟩, h2⟩
        · rintro ⟨y, hy, h⟩
          obtain ⟨x, hx, hy⟩ := (mem_atmL 3 y kids).1 hy
          exact ⟨x, hx, (ih x (by have := List.sizeOf_lt_of_mem hx; omega)).2 ⟨y, hy, h⟩⟩
      · rw [if_neg h]
        simp

theorem atm_and (w : List Int) : ∀ (n : Nat) (p : Rx), SizeOf.sizeOf p ≤ n → Gd p → (Lg p w ↔ ∀ y ∈ atm 4 p, Lg y w) := by
  intro n
  induction n with
  | zero => intro p h; cases p <;> simp at h
  | succ n ih =>
    intro p hsz hg
    cases p with
    | nil => exact absurd hg (by simp [Gd])
    | mk k' s mn mx kids =>
      simp only [Rx.mk.sizeOf_spec] at hsz
      rw [atm]
      by_cases h : k' = 4
      · subst h
        have hgl := gdL_iff.1 hg.2.1
        rw [if_pos rfl, lg_and]
        constructor
        · intro h y hy
          obtain ⟨x, hx, hy⟩ := (mem_atmL 4 y kids).1 hy
          exact (ih x (by have := List.sizeOf_lt_of_mem hx; omega) (hgl x hx)).1 (h x hx) y hy
        · intro h x hx
          exact (ih x (by have := List.sizeOf_lt_of_mem hx; omega) (hgl x hx)).2 fun y hy => h y ((mem_atmL 4 y kids).2 ⟨x, hx, hy⟩)
      · rw [if_neg h]
        simp

/-- What lies in a sum's or a product's list. -/
theorem mem_joinK (k : Int) (y : Rx) : ∀ (l acc out : List Rx), joinK k l acc = some out → (y ∈ out ↔ y ∈ acc ∨ ∃ x ∈ l, isNo x = false ∧ y ∈ atm k x)
  | [], acc, out, h => by
    simp only [joinK, Option.some.injEq] at h
    subst h
    simp
  | x :: l, acc, out, h => by
    rw [joinK] at h
    split at h
    · rename_i h1
      split at h
      · cases h
      · rw [mem_joinK k y l acc out h]
        simp [h1]
    · rename_i h1
      rw [mem_joinK k y l _ out h, mem_add k _ x acc y (Nat.le_refl _)]
      have h1' : isNo x = false := by simpa using h1
      simp only [List.mem_cons]
      constructor
      · rintro ((h | h) | ⟨z, hz, h2, h3⟩)
        · exact .inl h
        · exact .inr ⟨x, .inl rfl, h1', h⟩
        · exact .inr ⟨z, .inr hz, h2, h3⟩
      · rintro (h | ⟨z, rfl | hz, h2, h3⟩)
        · exact .inl (.inl h)
        · exact .inl (.inr h3)
        · exact .inr ⟨z, hz, h2, h3⟩
theorem joinK_none (k : Int) : ∀ (l acc : List Rx), joinK k l acc = none → k = 4 ∧ ∃ x ∈ l, isNo x = true
  | [], acc, h => by simp [joinK] at h
  | x :: l, acc, h => by
    rw [joinK] at h
    split at h
    · rename_i h1
      split at h
      · rename_i h2
        exact ⟨h2, x, by simp, h1⟩
      · obtain ⟨a, y, b, c⟩ := joinK_none k l acc h
        exact ⟨a, y, by simp [b], c⟩
    · obtain ⟨a, y, b, c⟩ := joinK_none k l _ h
      exact ⟨a, y, by simp [b], c⟩
theorem joinK_four : ∀ (l acc out : List Rx), joinK 4 l acc = some out → ∀ x ∈ l, isNo x = false
  | [], _, _, _, _, hx => by cases hx
  | x :: l, acc, out, h, y, hy => by
    rw [joinK] at h
    split at h
    · simp at h
    · rename_i h1
      rcases List.mem_cons.1 hy with rfl | hy
      · simpa using h1
      · exact joinK_four l _ out h y hy

/-- A sum. -/
theorem lg_joinO (l : List Rx) (w : List Int) : Lg (joinR 3 l) w ↔ ∃ x ∈ l, Lg x w := by
  have H : ∀ out, joinK 3 l [] = some out → ((∃ y ∈ out, Lg y w) ↔ ∃ x ∈ l, Lg x w) := by
    intro out h
    have hm := fun y => mem_joinK 3 y l [] out h
    constructor
    · rintro ⟨y, hy, hl⟩
      obtain ⟨x, hx, _, h3⟩ := ((hm y).1 hy).resolve_left (by simp)
      exact ⟨x, hx, (atm_or w _ x (Nat.le_refl _)).2 ⟨y, h3, hl⟩⟩
    · rintro ⟨x, hx, hl⟩
      have hn : isNo x = false := by
        cases h : isNo x with
        | false => rfl
        | true => exact (lg_isNo h w hl).elim
      obtain ⟨y, hy, h2⟩ := (atm_or w _ x (Nat.le_refl _)).1 hl
      exact ⟨y, (hm y).2 (.inr ⟨x, hx, hn, hy⟩), h2⟩
  unfold joinR
  split
  · rename_i h
    exact absurd (joinK_none 3 l [] h).1 (by decide)
  · rename_i h
    rw [← H _ h]
    simp [lg_no]
  · rename_i x h
    rw [← H _ h]
    simp
  · rename_i h
    rw [← H _ h, lg_or]

theorem atm_ne (k : Int) (hk : k = 3 ∨ k = 4) : ∀ (n : Nat) (p : Rx), SizeOf.sizeOf p ≤ n → Gd p → ∃ y, y ∈ atm k p := by
  intro n
  induction n with
  | zero => intro p h; cases p <;> simp at h
  | succ n ih =>
    intro p hsz hg
    cases p with
    | nil => exact absurd hg (by simp [Gd])
    | mk k' s mn mx kids =>
      simp only [Rx.mk.sizeOf_spec] at hsz
      rw [atm]
      by_cases h : k' = k
      · rw [if_pos h]
        have hgl := gdL_iff.1 hg.2.1
        have hne := hg.2.2.2.1 (by rw [h]; exact hk)
        obtain ⟨x, hx⟩ := List.exists_mem_of_ne_nil _ hne
        obtain ⟨y, hy⟩ := ih x (by have := List.sizeOf_lt_of_mem hx; omega) (hgl x hx)
        exact ⟨y, (mem_atmL k y kids).2 ⟨x, hx, hy⟩⟩
      · rw [if_neg h]
        exact ⟨_, List.mem_singleton.2 rfl⟩

/-- A product. -/
theorem lg_joinA (l : List Rx) (w : List Int) (hg : GdL l) (h0 : l ≠ []) : Lg (joinR 4 l) w ↔ ∀ x ∈ l, Lg x w := by
  have hgl := gdL_iff.1 hg
  have H : ∀ out, joinK 4 l [] = some out → ((∀ y ∈ out, Lg y w) ↔ ∀ x ∈ l, Lg x w) := by
    intro out h
    have hm := fun y => mem_joinK 4 y l [] out h
    have hn := joinK_four l [] out h
    constructor
    · intro hl x hx
      exact (atm_and w _ x (Nat.le_refl _) (hgl x hx)).2 fun y hy => hl y ((hm y).2 (.inr ⟨x, hx, hn x hx, hy⟩))
    · intro hl y hy
      obtain ⟨x, hx, _, h3⟩ := ((hm y).1 hy).resolve_left (by simp)
      exact (atm_and w _ x (Nat.le_refl _) (hgl x hx)).1 (hl x hx) y h3
  unfold joinR
  split
  · rename_i h
    obtain ⟨_, x, hx, hn⟩ := joinK_none 4 l [] h
    exact ⟨fun h => (lg_no w h).elim, fun h => (lg_isNo hn w (h x hx)).elim⟩
  · rename_i h
    obtain ⟨x, hx⟩ := List.exists_mem_of_ne_nil _ h0
    obtain ⟨y, hy⟩ := atm_ne 4 (.inr rfl) _ x (Nat.le_refl _) (hgl x hx)
    have := (mem_joinK 4 y l [] [] h).2 (.inr ⟨x, hx, joinK_four l [] [] h x hx, hy⟩)
    simp at this
  · rename_i x h
    rw [← H _ h]
    simp
  · rename_i h
    rw [← H _ h, lg_and]
end Go.Proofs.Gram

namespace Go.Proofs.Gram

/-! several times -/
def Rg (lo hi : Int) (L : List Int → Prop) (w : List Int) : Prop := ∃ n : Nat, lo ≤ n ∧ (hi < 0 ∨ (n : Int) ≤ hi) ∧ Pw L n w
theorem lg_six (s : List (Int × Int)) (lo hi : Int) (p : Rx) (w : List Int) : Lg (.mk 6 s lo hi [p]) w ↔ Rg lo hi (Lg p) w := by
  unfold Rg
  simp [Lg, LgH]

theorem pw_no {L : List Int → Prop} (h : ∀ w, ¬ L w) : ∀ (n : Nat) (w : List Int), Pw L n w ↔ n = 0 ∧ w = []
  | 0, w => by simp [Pw]
  | n + 1, w => by
    simp only [Pw, Nat.add_eq_zero_iff, Nat.succ_ne_self, and_false, false_and, iff_false]
    rintro ⟨u, v, _, a, _⟩
    exact h u a
theorem pw_e {L : List Int → Prop} (h : ∀ w, L w ↔ w = []) : ∀ (n : Nat) (w : List Int), Pw L n w ↔ w = []
  | 0, w => by simp [Pw]
  | n + 1, w => by
    simp only [Pw]
    constructor
    · rintro ⟨u, v, rfl, a, b⟩
      rw [(h u).1 a, (pw_e h n v).1 b]
      rfl
    · rintro rfl
      exact ⟨[], [], rfl, (h []).2 rfl, (pw_e h n []).2 rfl⟩
theorem pw_congr {L L' : List Int → Prop} (h : ∀ w, L w ↔ L' w) : ∀ (n : Nat) (w : List Int), Pw L n w ↔ Pw L' n w
  | 0, w => Iff.rfl
  | n + 1, w => by
    simp only [Pw]
    exact ⟨fun ⟨u, v, e, a, b⟩ => ⟨u, v, e, (h u).1 a, (pw_congr h n v).1 b⟩, fun ⟨u, v, e, a, b⟩ => ⟨u, v, e, (h u).2 a, (pw_congr h n v).2 b⟩⟩
theorem pw_more {L : List Int → Prop} (h : L []) : ∀ (k n : Nat) (w : List Int), Pw L n w → Pw L (n + k) w
  | 0, n, w, hp => hp
  | k + 1, n, w, hp => ⟨[], w, rfl, h, pw_more h k n w hp⟩
theorem pw_nil {L : List Int → Prop} : ∀ (n : Nat), Pw L n [] ↔ n = 0 ∨ L []
  | 0 => by simp [Pw]
  | n + 1 => by
    simp only [Pw]
    constructor
    · rintro ⟨u, v, e, a, _⟩
      have : u = [] := by cases u with | nil => rfl | cons => simp at e
      subst this
      exact .inr a
    · rintro (h | h)
      · omega
      · exact ⟨[], [], rfl, h, (pw_nil n).2 (.inr h)⟩
theorem pw_cons {L : List Int → Prop} {c : Int} {w : List Int} : ∀ (n : Nat), Pw L n (c :: w) → ∃ m, m < n ∧ Sq (fun u => L (c :: u)) (Pw L m) w ∧ (m + 1 = n ∨ L [])
  | 0, h => by simp [Pw] at h
  | n + 1, h => by
    simp only [Pw] at h
    obtain ⟨u, v, e, a, b⟩ := h
    cases u with
    | nil =>
      simp only [List.nil_append] at e
      subst e
      obtain ⟨m, hm, hs, _⟩ := pw_cons n b
      exact ⟨m, by omega, hs, .inr a⟩
    | cons d u =>
      simp only [List.cons_append, List.cons.injEq] at e
      obtain ⟨rfl, rfl⟩ := e
      exact ⟨n, by omega, ⟨u, v, rfl, a, b⟩, .inl rfl⟩

theorem rg_cons {L : List Int → Prop} {lo hi : Int} (h0 : 0 ≤ lo) (h1 : hi = -1 ∨ (1 ≤ hi ∧ lo ≤ hi)) (c : Int) (w : List Int) :
    Rg lo hi L (c :: w) ↔ Sq (fun u => L (c :: u)) (Rg (decR lo) (decR hi) L) w := by
  unfold decR
  constructor
  · rintro ⟨n, hn, hh, hp⟩
    obtain ⟨m, hm, ⟨u, v, rfl, a, b⟩, ho⟩ := pw_cons n hp
    refine ⟨u, v, rfl, a, n - 1, ?_, ?_, ?_⟩
    · split <;> omega
    · split <;> omega
    · rcases ho with rfl | ho
      · exact b
      · have := pw_more ho (n - 1 - m) m v b
        rwa [show m + (n - 1 - m) = n - 1 by omega] at this
  · rintro ⟨u, v, rfl, a, n, hn, hh, hp⟩
    refine ⟨n + 1, ?_, ?_, c :: u, v, rfl, a, hp⟩
    · split at hn <;> omega
    · split at hh <;> omega

theorem lg_rep (p : Rx) (lo hi : Int) (h0 : 0 ≤ lo) (h1 : hi = -1 ∨ (0 ≤ hi ∧ lo ≤ hi)) (w : List Int) : Lg (repR p lo hi) w ↔ Rg lo hi (Lg p) w := by
  unfold repR
  split
  · rename_i h
    subst h
    rw [lg_e]
    constructor
    · rintro rfl
      exact ⟨0, by omega, .inr (by simp), rfl⟩
    · rintro ⟨n, _, h, hp⟩
      obtain rfl : n = 0 := by omega
      exact hp
  · split
    · rename_i h
      simp only [Bool.and_eq_true, decide_eq_true_eq] at h
      refine ⟨fun h => (lg_no w h).elim, ?_⟩
      rintro ⟨n, hn, _, hp⟩
      have := ((pw_no (lg_isNo h.1) n w).1 hp).1
      omega
    · rename_i h
      split
      · rename_i h2
        rw [lg_e]
        simp only [Bool.or_eq_true] at h2
        simp only [Bool.and_eq_true, decide_eq_true_eq, not_and] at h
        rcases h2 with h2 | h2
        · have := h h2
          constructor
          · rintro rfl
            exact ⟨0, by omega, by omega, rfl⟩
          · rintro ⟨n, _, _, hp⟩
            exact ((pw_no (lg_isNo h2) n w).1 hp).2
        · constructor
          · rintro rfl
            exact ⟨lo.toNat, by omega, by omega, (pw_e (lg_isE h2) _ _).2 rfl⟩
          · rintro ⟨n, _, _, hp⟩
            exact (pw_e (lg_isE h2) n w).1 hp
      · exact lg_six _ _ _ _ _

/-! within stays within -/
theorem gd_no : Gd rxNo := by simp [rxNo, Gd, GdL]
theorem gd_e : Gd rxE := by simp [rxE, Gd, GdL]
theorem gd_rep {p : Rx} (hp : Gd p) {lo hi : Int} (h0 : 0 ≤ lo) (h1 : hi = -1 ∨ (0 ≤ hi ∧ lo ≤ hi)) : Gd (repR p lo hi) := by
  unfold repR
  split
  · exact gd_e
  · split
    · exact gd_no
    · split
      · exact gd_e
      · refine ⟨by simp, ⟨hp, trivial⟩, by simp, by simp, by simp, fun _ => ⟨rfl, h0, by omega⟩⟩

theorem cat_not {b : Rx} (hb : isNo b = false) : ∀ (a : Rx), Gd a → isNo a = false → isNo (catR b a) = false ∧ (isE a = false → isE (catR b a) = false)
  | .nil, h, _ => absurd h (by simp [Gd])
  | .mk k set mn mx kids, h, ha => by
    rw [catR]
    rw [if_neg (by simp [ha, hb])]
    by_cases h3 : isE (.mk k set mn mx kids) = true
    · rw [if_pos h3]
      exact ⟨hb, fun h => by rw [h] at h3; cases h3⟩
    · rw [if_neg h3]
      by_cases h4 : isE b = true
      · rw [if_pos h4]
        exact ⟨ha, fun h => h⟩
      · rw [if_neg h4]
        by_cases h5 : k = 2
        · subst h5
          rw [if_pos rfl]
          rcases h.2.2.1 rfl with rfl | ⟨x, t, rfl, _⟩
          · simp [isE] at h3
          · rw [catK, catK]
            · simp [isNo, isE]
            · simp
        · rw [if_neg h5]
          simp [isNo, isE]

theorem gd_cat {b : Rx} (hb : Gd b) : ∀ (n : Nat) (a : Rx), SizeOf.sizeOf a ≤ n → Gd a → Gd (catR b a) := by
  intro n
  induction n with
  | zero => intro a h; cases a <;> simp at h
  | succ n ih =>
    intro a hsz ha
    cases a with
    | nil => exact absurd ha (by simp [Gd])
    | mk k set mn mx kids =>
      rw [catR]
      split
      · exact gd_no
      · rename_i h1
        simp only [Bool.or_eq_true, not_or, Bool.not_eq_true] at h1
        split
        · exact hb
        · rename_i h3
          split
          · exact ha
          · rename_i h4
            split
            · rename_i h5
              subst h5
              rcases ha.2.2.1 rfl with rfl | ⟨x, t, rfl, e1, e2, e3, e4⟩
              · simp [isE] at h3
              · simp only [Rx.mk.sizeOf_spec, List.cons.sizeOf_spec, List.nil.sizeOf_spec] at hsz
                have gx := ha.2.1.1
                have gt := ha.2.1.2.1
                have hc := cat_not h1.2 t gt e2
                rw [catK, catK]
                · exact ⟨by simp, ⟨gx, ih t (by omega) gt, trivial⟩, fun _ => .inr ⟨x, catR b t, rfl, e1, hc.1, e3, hc.2 e4⟩, by simp, by simp, by simp⟩
                · simp
            · rename_i h5
              exact ⟨by simp, ⟨ha, hb, trivial⟩, fun _ => .inr ⟨_, b, rfl, h1.1, h1.2, h5, by simpa using h4⟩, by simp, by simp, by simp⟩

theorem gd_atm (k : Int) : ∀ (n : Nat) (p y : Rx), SizeOf.sizeOf p ≤ n → Gd p → y ∈ atm k p → Gd y := by
  intro n
  induction n with
  | zero => intro p y h; cases p <;> simp at h
  | succ n ih =>
    intro p y hsz hg hy
    cases p with
    | nil => exact absurd hg (by simp [Gd])
    | mk k' s mn mx kids =>
      simp only [Rx.mk.sizeOf_spec] at hsz
      rw [atm] at hy
      split at hy
      · obtain ⟨x, hx, hy⟩ := (mem_atmL k y kids).1 hy
        exact ih x y (by have := List.sizeOf_lt_of_mem hx; omega) (gdL_iff.1 hg.2.1 x hx) hy
      · rw [List.mem_singleton.1 hy]
        exact hg

theorem gd_join {k : Int} (hk : k = 3 ∨ k = 4) {l : List Rx} (h : GdL l) : Gd (joinR k l) := by
  have hm : ∀ out, joinK k l [] = some out → ∀ y ∈ out, Gd y := fun out ho y hy => by
    obtain ⟨x, hx, _, h3⟩ := ((mem_joinK k y l [] out ho).1 hy).resolve_left (by simp)
    exact gd_atm k _ x y (Nat.le_refl _) (gdL_iff.1 h x hx) h3
  unfold joinR
  split
  · exact gd_no
  · exact gd_no
  · rename_i x ho
    exact hm _ ho x (by simp)
  · rename_i out h0 h1 ho
    exact ⟨by omega, gdL_iff.2 (hm _ ho), fun h => by omega, fun _ h => h0 h, fun h => by omega, fun h => by omega⟩

/-! the empty text -/
theorem tE_iff : ∀ (n : Nat) (p : Rx), SizeOf.sizeOf p ≤ n → Gd p → (tE p = true ↔ Lg p []) := by
  intro n
  induction n with
  | zero => intro p h; cases p <;> simp at h
  | succ n ih =>
    intro p hsz hg
    cases p with
    | nil => exact absurd hg (by simp [Gd])
    | mk k s mn mx kids =>
      simp only [Rx.mk.sizeOf_spec] at hsz
      obtain ⟨hk, hgl, h2, h34, h5, h6⟩ := hg
      have hgl' := gdL_iff.1 hgl
      have hx : ∀ x ∈ kids, (tE x = true ↔ Lg x []) := fun x hx => ih x (by have := List.sizeOf_lt_of_mem hx; omega) (hgl' x hx)
      have hO : ∀ l : List Rx, (∀ x ∈ l, x ∈ kids) → (tEo l = true ↔ ∃ x ∈ l, Lg x []) := by
        intro l
        induction l with
        | nil => intro _; simp [tEo]
        | cons a l ihl =>
          intro hl
          rw [tEo, Bool.or_eq_true, hx a (hl a (by simp)), ihl fun x h => hl x (by simp [h])]
          simp
      have hA : ∀ l : List Rx, (∀ x ∈ l, x ∈ kids) → (tEa l = true ↔ ∀ x ∈ l, Lg x []) := by
        intro l
        induction l with
        | nil => intro _; simp [tEa]
        | cons a l ihl =>
          intro hl
          rw [tEa, Bool.and_eq_true, hx a (hl a (by simp)), ihl fun x h => hl x (by simp [h])]
          simp
      rw [tE]
      rcases hk with rfl | rfl | rfl | rfl | rfl | rfl
      · simp [Lg]
      · rw [if_neg (by decide), if_neg (by decide), if_neg (by decide), if_neg (by decide), hA kids (fun _ h => h)]
        rcases h2 rfl with rfl | ⟨a, t, rfl, _⟩
        · simp [Lg, LgC]
        · rw [lg_two]
          constructor
          · intro h
            exact ⟨[], [], rfl, h a (by simp), h t (by simp)⟩
          · rintro ⟨u, v, e, h, h'⟩
            have e1 := List.append_eq_nil_iff.1 e.symm
            rw [e1.1] at h
            rw [e1.2] at h'
            intro x hx
            simp only [List.mem_cons, List.not_mem_nil, or_false] at hx
            rcases hx with rfl | rfl
            · exact h
            · exact h'
      · rw [if_neg (by decide), if_neg (by decide), if_neg (by decide), if_pos rfl, hO kids (fun _ h => h), lg_or]
      · rw [if_neg (by decide), if_neg (by decide), if_neg (by decide), if_neg (by decide), hA kids (fun _ h => h), lg_and]
      · obtain ⟨a, rfl⟩ := List.length_eq_one_iff.1 (h5 rfl)
        rw [if_neg (by decide), if_pos rfl, tEh]
        have := hx a (by simp)
        simp only [Lg, LgH]
        simp [← this]
      · obtain ⟨a, rfl⟩ := List.length_eq_one_iff.1 (h6 rfl).1
        rw [if_neg (by decide), if_neg (by decide), if_pos rfl, tEh, lg_six, Bool.or_eq_true, hx a (by simp), beq_iff_eq]
        have h7 := (h6 rfl).2
        constructor
        · rintro (rfl | h)
          · exact ⟨0, by simp, by omega, rfl⟩
          · exact ⟨mn.toNat, by omega, by omega, (pw_nil _).2 (.inr h)⟩
        · rintro ⟨n, a1, a2, hp⟩
          rcases (pw_nil n).1 hp with rfl | h
          · exact .inl (by omega)
          · exact .inr h
end Go.Proofs.Gram

namespace Go.Proofs.Gram

theorem inB_iff (set : List (Int × Int)) (c : Int) : inB' set c = true ↔ inR set c := by
  unfold inB'
  simp

theorem DL_map (c : Int) : ∀ l, DL c l = l.map (DR c)
  | [] => rfl
  | x :: l => by rw [DL, DL_map c l]; rfl

theorem dr_ok (c : Int) : ∀ (n : Nat) (p : Rx), SizeOf.sizeOf p ≤ n → Gd p → Gd (DR c p) ∧ ∀ w, Lg (DR c p) w ↔ Lg p (c :: w) := by
  intro n
  induction n with
  | zero => intro p h; cases p <;> simp at h
  | succ n ih =>
    intro p hsz hg
    cases p with
    | nil => exact absurd hg (by simp [Gd])
    | mk k s mn mx kids =>
      simp only [Rx.mk.sizeOf_spec] at hsz
      obtain ⟨hk, hgl, h2, h34, h5, h6⟩ := hg
      have hgl' := gdL_iff.1 hgl
      have hx : ∀ x ∈ kids, Gd (DR c x) ∧ ∀ w, Lg (DR c x) w ↔ Lg x (c :: w) := fun x hx => ih x (by have := List.sizeOf_lt_of_mem hx; omega) (hgl' x hx)
      have hgd : GdL (DL c kids) := gdL_iff.2 fun y hy => by
        rw [DL_map] at hy
        obtain ⟨x, hx', rfl⟩ := List.mem_map.1 hy
        exact (hx x hx').1
      rcases hk with rfl | rfl | rfl | rfl | rfl | rfl
      · rw [DR, if_pos rfl]
        by_cases h : inR s c
        · rw [if_pos ((inB_iff s c).2 h)]
          refine ⟨gd_e, fun w => ?_⟩
          rw [lg_e]
          simp only [Lg, if_true, List.cons.injEq]
          exact ⟨fun e => ⟨c, ⟨rfl, e⟩, h⟩, fun ⟨_, ⟨_, e⟩, _⟩ => e⟩
        · rw [if_neg (fun k => h ((inB_iff s c).1 k))]
          refine ⟨gd_no, fun w => ?_⟩
          simp only [Lg, if_true, List.cons.injEq]
          exact ⟨fun e => (lg_no w e).elim, fun ⟨d, ⟨e, _⟩, h'⟩ => absurd (e ▸ h') h⟩
      · rw [DR, if_neg (by decide), if_neg (by decide), if_neg (by decide), if_pos rfl]
        rcases h2 rfl with rfl | ⟨a, t, rfl, e1, e2, e3, e4⟩
        · refine ⟨gd_no, fun w => ?_⟩
          refine ⟨fun e => (lg_no w e).elim, fun e => ?_⟩
          simp [Lg, LgC] at e
        · have ha := hx a (by simp)
          have ht := hx t (by simp)
          have hcat : ∀ w, Lg (catR t (DR c a)) w ↔ Sq (fun u => Lg a (c :: u)) (Lg t) w := fun w =>
            (lg_cat _ (DR c a) t (Nat.le_refl _) ha.1 w).trans (sq_congr ha.2 (fun _ => Iff.rfl) w)
          have hgc : Gd (catR t (DR c a)) := gd_cat (hgl' t (by simp)) _ _ (Nat.le_refl _) ha.1
          have hsq : ∀ w, Sq (Lg a) (Lg t) (c :: w) ↔ Sq (fun u => Lg a (c :: u)) (Lg t) w ∨ (Lg a [] ∧ Lg t (c :: w)) := by
            intro w
            constructor
            · rintro ⟨u, v, e, h, h'⟩
              cases u with
              | nil =>
                simp only [List.nil_append] at e
                subst e
                exact .inr ⟨h, h'⟩
              | cons d u =>
                simp only [List.cons_append, List.cons.injEq] at e
                obtain ⟨rfl, rfl⟩ := e
                exact .inl ⟨u, v, rfl, h, h'⟩
            · rintro (⟨u, v, rfl, h, h'⟩ | ⟨h, h'⟩)
              · exact ⟨c :: u, v, rfl, h, h'⟩
              · exact ⟨[], c :: w, rfl, h, h'⟩
          have htE := tE_iff _ a (Nat.le_refl _) (hgl' a (by simp))
          rw [show tEh [a, t] = tE a from rfl]
          simp only [DL, headR, rowR]
          by_cases h : tE a = true
          · rw [if_pos h]
            refine ⟨gd_join (.inl rfl) ⟨hgc, ht.1, trivial⟩, fun w => ?_⟩
            rw [lg_joinO, lg_two, hsq]
            simp only [List.mem_cons, List.not_mem_nil, or_false, exists_eq_or_imp, exists_eq_left]
            rw [hcat, ht.2]
            exact or_congr Iff.rfl ⟨fun k => ⟨htE.1 h, k⟩, fun k => k.2⟩
          · rw [if_neg h]
            refine ⟨hgc, fun w => ?_⟩
            rw [hcat, lg_two, hsq]
            exact ⟨.inl, fun k => k.elim id fun k => absurd (htE.2 k.1) h⟩
      · rw [DR, if_neg (by decide), if_neg (by decide), if_neg (by decide), if_neg (by decide)]
        refine ⟨gd_join (.inl rfl) hgd, fun w => ?_⟩
        rw [lg_joinO, lg_or, DL_map]
        constructor
        · rintro ⟨y, hy, h⟩
          obtain ⟨x, hx', rfl⟩ := List.mem_map.1 hy
          exact ⟨x, hx', ((hx x hx').2 w).1 h⟩
        · rintro ⟨x, hx', h⟩
          exact ⟨_, List.mem_map.2 ⟨x, hx', rfl⟩, ((hx x hx').2 w).2 h⟩
      · rw [DR, if_neg (by decide), if_neg (by decide), if_neg (by decide), if_neg (by decide)]
        refine ⟨gd_join (.inr rfl) hgd, fun w => ?_⟩
        rw [lg_joinA _ _ hgd (by rw [DL_map]; simpa using h34 (.inr rfl)), lg_and, DL_map]
        constructor
        · intro h x hx'
          exact ((hx x hx').2 w).1 (h _ (List.mem_map.2 ⟨x, hx', rfl⟩))
        · intro h y hy
          obtain ⟨x, hx', rfl⟩ := List.mem_map.1 hy
          exact ((hx x hx').2 w).2 (h x hx')
      · obtain ⟨a, rfl⟩ := List.length_eq_one_iff.1 (h5 rfl)
        have ha := hx a (by simp)
        rw [DR, if_neg (by decide), if_pos rfl]
        simp only [DL, headR]
        refine ⟨⟨by simp, ⟨ha.1, trivial⟩, by simp, by simp, by simp, by simp⟩, fun w => ?_⟩
        have := ha.2 w
        simp [Lg, LgH, this]
      · obtain ⟨a, rfl⟩ := List.length_eq_one_iff.1 (h6 rfl).1
        have h7 := (h6 rfl).2
        have ha := hx a (by simp)
        have ga := hgl' a (by simp)
        rw [DR, if_neg (by decide), if_neg (by decide), if_pos rfl]
        simp only [DL, headR]
        have hlo : 0 ≤ decR mn := by unfold decR; split <;> omega
        have hhi : decR mx = -1 ∨ (0 ≤ decR mx ∧ decR mn ≤ decR mx) := by unfold decR; split <;> split <;> omega
        refine ⟨gd_cat (gd_rep ga hlo hhi) _ _ (Nat.le_refl _) ha.1, fun w => ?_⟩
        rw [lg_cat _ _ _ (Nat.le_refl _) ha.1, lg_six, rg_cons h7.1 h7.2]
        exact sq_congr ha.2 (fun w => lg_rep a _ _ hlo hhi w) w

/-- The reference's matching: point by point. -/
noncomputable def MR (q : Rx) (w : List Int) : Bool := tE (w.foldl (fun q c => DR c q) q)
theorem mr_iff : ∀ (w : List Int) (q : Rx), Gd q → (MR q w = true ↔ Lg q w)
  | [], q, h => tE_iff _ q (Nat.le_refl _) h
  | c :: w, q, h => by
    have hd := dr_ok c _ q (Nat.le_refl _) h
    exact (mr_iff w (DR c q) hd.1).trans (hd.2 w)

/-! the reference's form of a pattern -/
theorem plL_map : ∀ l, plL l = l.map plR
  | [] => rfl
  | x :: l => by rw [plL, plL_map l]; rfl

theorem pl_row : ∀ (l : List Rx), (∀ x ∈ l, Gd (plR x) ∧ ∀ w, Lg (plR x) w ↔ Lg x w) →
    Gd ((l.map plR).foldr (fun x out => catR out x) rxE) ∧ ∀ w, Lg ((l.map plR).foldr (fun x out => catR out x) rxE) w ↔ LgC l w
  | [], _ => ⟨gd_e, fun w => by simp [lg_e, LgC]⟩
  | x :: l, h => by
    have hx := h x (by simp)
    have hl := pl_row l fun y hy => h y (by simp [hy])
    simp only [List.map_cons, List.foldr_cons]
    refine ⟨gd_cat hl.1 _ _ (Nat.le_refl _) hx.1, fun w => ?_⟩
    rw [lg_cat _ _ _ (Nat.le_refl _) hx.1]
    exact (sq_congr hx.2 hl.2 w)

theorem pl_ok : ∀ (n : Nat) (p : Rx) (d : Nat), SizeOf.sizeOf p ≤ n → Shp d p → Gd (plR p) ∧ ∀ w, Lg (plR p) w ↔ Lg p w := by
  intro n
  induction n with
  | zero => intro p d h; cases p <;> simp at h
  | succ n ih =>
    intro p d hsz hs
    cases p with
    | nil => exact absurd hs (by simp [Shp])
    | mk k s mn mx kids =>
      simp only [Rx.mk.sizeOf_spec] at hsz
      obtain ⟨_, hc, hset, _, htm, hsl⟩ := hs
      have hx : ∀ x ∈ kids, Gd (plR x) ∧ ∀ w, Lg (plR x) w ↔ Lg x w := fun x hx => by
        obtain ⟨i, hi⟩ := List.getElem?_of_mem hx
        exact ih x (d + 1) (by have := List.sizeOf_lt_of_mem hx; omega) (shpL_iff.1 hsl i x hi)
      have hgd : GdL (plL kids) := gdL_iff.2 fun y hy => by
        rw [plL_map] at hy
        obtain ⟨x, hx', rfl⟩ := List.mem_map.1 hy
        exact (hx x hx').1
      have hk : (k = 1 ∧ kids.length = 0) ∨ (k = 2 ∧ kids.length ≠ 1) ∨ ((k = 3 ∨ k = 4) ∧ 1 < kids.length) ∨ ((k = 5 ∨ k = 6) ∧ kids.length = 1) := hc
      rcases hk with ⟨rfl, h0⟩ | ⟨rfl, h0⟩ | ⟨rfl | rfl, h0⟩ | ⟨rfl | rfl, h0⟩
      · obtain rfl := List.eq_nil_of_length_eq_zero h0
        rw [plR, if_neg (by decide), if_neg (by decide), if_neg (by decide), if_neg (by decide)]
        exact ⟨by simp [Gd, GdL], fun w => Iff.rfl⟩
      · rw [plR, if_pos rfl, plL_map]
        have h := pl_row kids hx
        refine ⟨h.1, fun w => (h.2 w).trans ?_⟩
        simp [Lg]
      · rw [plR, if_neg (by decide), if_pos (.inl rfl)]
        refine ⟨gd_join (.inl rfl) hgd, fun w => ?_⟩
        rw [lg_joinO, lg_or, plL_map]
        constructor
        · rintro ⟨y, hy, h⟩
          obtain ⟨x, hx', rfl⟩ := List.mem_map.1 hy
          exact ⟨x, hx', ((hx x hx').2 w).1 h⟩
        · rintro ⟨x, hx', h⟩
          exact ⟨_, List.mem_map.2 ⟨x, hx', rfl⟩, ((hx x hx').2 w).2 h⟩
      · rw [plR, if_neg (by decide), if_pos (.inr rfl)]
        refine ⟨gd_join (.inr rfl) hgd, fun w => ?_⟩
        rw [lg_joinA _ _ hgd (by rw [plL_map]; intro h; rw [List.map_eq_nil_iff.1 h] at h0; simp at h0), lg_and, plL_map]
        constructor
        · intro h x hx'
          exact ((hx x hx').2 w).1 (h _ (List.mem_map.2 ⟨x, hx', rfl⟩))
        · intro h y hy
          obtain ⟨x, hx', rfl⟩ := List.mem_map.1 hy
          exact ((hx x hx').2 w).2 (h x hx')
      · obtain ⟨a, rfl⟩ := List.length_eq_one_iff.1 h0
        have ha := hx a (by simp)
        rw [plR, if_neg (by decide), if_neg (by decide), if_neg (by decide), if_pos rfl, plL, plL]
        refine ⟨⟨by simp, ⟨ha.1, trivial⟩, by simp, by simp, by simp, by simp⟩, fun w => ?_⟩
        have := ha.2 w
        simp [Lg, LgH, this]
      · obtain ⟨a, rfl⟩ := List.length_eq_one_iff.1 h0
        have ha := hx a (by simp)
        rw [if_pos rfl] at htm
        unfold timesOk at htm
        have h1 : mx = -1 ∨ (0 ≤ mx ∧ mn ≤ mx) := by omega
        rw [plR, if_neg (by decide), if_neg (by decide), if_pos rfl, plL, plL]
        simp only [headR]
        refine ⟨gd_rep ha.1 (by omega) h1, fun w => ?_⟩
        rw [lg_rep _ _ _ (by omega) h1, lg_six]
        unfold Rg
        exact exists_congr fun m => and_congr_right fun _ => and_congr_right fun _ => pw_congr ha.2 m w

/-- THE REFERENCE MATCHES what the pattern stands for. -/
theorem ref_means {p : Rx} (h : Shp 0 p) (w : List Int) : MR (plR p) w = true ↔ Lg p w := by
  have hp := pl_ok _ p 0 (Nat.le_refl _) h
  exact (mr_iff w _ hp.1).trans (hp.2 w)
end Go.Proofs.Gram

namespace Go.Proofs.Gram

/-- The points from one place to another. -/
def seg (l : List Int) (a b : Nat) : List Int := (l.drop a).take (b - a)
theorem seg_len {l : List Int} {a b : Nat} (h : a ≤ b) (h2 : b ≤ l.length) : (seg l a b).length = b - a := by
  unfold seg
  simp only [List.length_take, List.length_drop]
  omega
theorem seg_self (l : List Int) (a : Nat) : seg l a a = [] := by simp [seg]
theorem seg_join (l : List Int) {a i b : Nat} (h1 : a ≤ i) (h2 : i ≤ b) : seg l a i ++ seg l i b = seg l a b := by
  unfold seg
  rw [show b - a = (i - a) + (b - i) by omega, List.take_add, List.drop_drop]
  congr 3
  omega
theorem seg_split (l : List Int) {a b : Nat} (h : a ≤ b) (h2 : b ≤ l.length) {u v : List Int} (e : seg l a b = u ++ v) : ∃ i, a ≤ i ∧ i ≤ b ∧ u = seg l a i ∧ v = seg l i b := by
  have hl := seg_len h h2
  rw [e, List.length_append] at hl
  refine ⟨a + u.length, by omega, by omega, ?_, ?_⟩
  · have : u = (seg l a b).take u.length := by rw [e]; simp
    generalize u.length = m at *
    rw [this]
    unfold seg
    rw [List.take_take]
    congr 1
    omega
  · have : v = (seg l a b).drop u.length := by rw [e]; simp
    rw [this]
    unfold seg
    rw [List.drop_take, List.drop_drop]
    congr 1
    omega
theorem seg_one (l : List Int) {a : Nat} (h : a < l.length) : seg l a (a + 1) = [l[a]] := by
  unfold seg
  rw [show a + 1 - a = 1 by omega, List.drop_eq_getElem_cons h]
  rfl

theorem sq_seg (l : List Int) {a b : Nat} (h : a ≤ b) (h2 : b ≤ l.length) (L M : List Int → Prop) : Sq L M (seg l a b) ↔ ∃ i, a ≤ i ∧ i ≤ b ∧ L (seg l a i) ∧ M (seg l i b) := by
  constructor
  · rintro ⟨u, v, e, p, q⟩
    obtain ⟨i, h1, h2, rfl, rfl⟩ := seg_split l h h2 e
    exact ⟨i, h1, h2, p, q⟩
  · rintro ⟨i, h1, h2, p, q⟩
    exact ⟨_, _, (seg_join l h1 h2).symm, p, q⟩

/-- A set. -/
theorem of_set (l : List Int) {a b : Nat} (h : a ≤ b) (h2 : b ≤ l.length) (set : List (Int × Int)) (mn mx : Int) (kids : List Rx) :
    Lg (.mk 1 set mn mx kids) (seg l a b) ↔ b = a + 1 ∧ ∃ h : a < l.length, inR set l[a] := by
  simp only [Lg, if_true]
  constructor
  · rintro ⟨c, e, hc⟩
    have := seg_len h h2
    rw [e] at this
    simp only [List.length_singleton] at this
    obtain rfl : b = a + 1 := by omega
    rw [seg_one l (by omega)] at e
    simp only [List.cons.injEq, and_true] at e
    exact ⟨rfl, by omega, by rw [e]; exact hc⟩
  · rintro ⟨rfl, h, hc⟩
    exact ⟨l[a], seg_one l h, hc⟩

/-- A row from one of its kids on. -/
theorem of_row (l : List Int) {a b : Nat} (h : a ≤ b) (h2 : b ≤ l.length) (kids : List Rx) (n : Nat) (hn : n ≤ kids.length) :
    LgC (kids.drop n) (seg l a b) ↔ if n = kids.length then a = b else ∃ x, kids[n]? = some x ∧ ∃ i, a ≤ i ∧ i ≤ b ∧ Lg x (seg l a i) ∧ LgC (kids.drop (n + 1)) (seg l i b) := by
  split
  · rename_i e
    subst e
    rw [List.drop_length, LgC]
    constructor
    · intro e
      have := seg_len h h2
      rw [e] at this
      simp only [List.length_nil] at this
      omega
    · rintro rfl
      exact seg_self l a
  · rename_i e
    have hlt : n < kids.length := by omega
    rw [List.drop_eq_getElem_cons hlt, LgC]
    have := sq_seg l h h2 (Lg kids[n]) (LgC (kids.drop (n + 1)))
    refine Iff.trans ?_ (this.trans ?_)
    · exact Iff.rfl
    · exact ⟨fun h => ⟨kids[n], by simp [hlt], h⟩, fun ⟨x, hx, h⟩ => by
        rw [List.getElem?_eq_getElem hlt] at hx
        cases hx
        exact h⟩

/-- What is asked behind n times. -/
def Tn (mn mx : Int) (L : List Int → Prop) (n : Nat) (w : List Int) : Prop := ∃ k : Nat, mn ≤ n + k ∧ (mx < 0 ∨ (n : Int) + k ≤ mx) ∧ Pw L k w
theorem tn_zero (mn mx : Int) (L : List Int → Prop) (w : List Int) : Tn mn mx L 0 w ↔ Rg mn mx L w := by
  unfold Tn Rg
  simp

/-- The times that follow. -/
def nxt (mn mx : Int) (n : Nat) : Nat := if mx < 0 then min (n + 1) mn.toNat else n + 1

theorem tn_step (l : List Int) {a b : Nat} (h : a ≤ b) (h2 : b ≤ l.length) {mn mx : Int} (h0 : 0 ≤ mn) (h1 : mx = -1 ∨ (1 ≤ mx ∧ mn ≤ mx)) (L : List Int → Prop) (n : Nat) (hn : mx < 0 ∨ (n : Int) ≤ mx) :
    Tn mn mx L n (seg l a b) ↔
      (mn ≤ n ∧ a = b) ∨ (¬ (0 ≤ mx ∧ (n : Int) = mx) ∧ (((n : Int) < mn ∧ L (seg l a a) ∧ Tn mn mx L (n + 1) (seg l a b)) ∨ ∃ i, a + 1 ≤ i ∧ i ≤ b ∧ L (seg l a i) ∧ Tn mn mx L (nxt mn mx n) (seg l i b))) := by
  constructor
  · rintro ⟨k, k1, k2, hp⟩
    induction k with
    | zero =>
      left
      refine ⟨by omega, ?_⟩
      have := seg_len h h2
      rw [show seg l a b = [] from hp] at this
      simp only [List.length_nil] at this
      omega
    | succ k ih =>
      have hp' : Sq L (Pw L k) (seg l a b) := hp
      obtain ⟨i, i1, i2, p, q⟩ := (sq_seg l h h2 _ _).1 hp'
      have hne : ¬ (0 ≤ mx ∧ (n : Int) = mx) := by omega
      by_cases hi : i = a
      · subst hi
        by_cases hm : (n : Int) < mn
        · exact .inr ⟨hne, .inl ⟨hm, p, k, by omega, by omega, q⟩⟩
        · exact ih (by omega) (by omega) q
      · refine .inr ⟨hne, .inr ⟨i, by omega, i2, p, ?_⟩⟩
        unfold nxt
        split
        · rename_i hx
          refine ⟨k, by omega, .inl hx, q⟩
        · exact ⟨k, by omega, by omega, q⟩
  · rintro (⟨h3, rfl⟩ | ⟨hne, ⟨hm, p, k, k1, k2, q⟩ | ⟨i, i1, i2, p, k, k1, k2, q⟩⟩)
    · exact ⟨0, by omega, by omega, by rw [seg_self]; rfl⟩
    · exact ⟨k + 1, by omega, by omega, seg l a a, seg l a b, by rw [seg_self]; rfl, p, q⟩
    · refine ⟨k + 1, ?_, ?_, seg l a i, seg l i b, (seg_join l (by omega) i2).symm, p, q⟩
      · unfold nxt at k1
        split at k1 <;> omega
      · unfold nxt at k2
        split at k2 <;> omega
end Go.Proofs.Gram

namespace Go.Proofs.Gram

theorem neg1 {a a' r r' : Int} (h : r = -r') : (if a ≠ a' then a - a' else r) = -(if a' ≠ a then a' - a else r') := by
  split <;> split <;> omega
theorem neg2 {p p' r r' : Int} (hp : p = -p') (h : r = -r') : (if p ≠ 0 then p else r) = -(if p' ≠ 0 then p' else r') := by
  split <;> split <;> omega
theorem ordS_neg : ∀ (l l' : List (Int × Int)), ordS l l' = -ordS l' l
  | [], [] => rfl
  | [], _ :: _ => by simp [ordS]
  | _ :: _, [] => by simp [ordS]
  | (a, b) :: l, (c, d) :: l' => by
    rw [ordS, ordS]
    exact neg1 (neg1 (ordS_neg l l'))
theorem ordR_neg : ∀ (n : Nat) (x y : Rx), SizeOf.sizeOf x ≤ n → ordR x y = -ordR y x := by
  intro n
  induction n with
  | zero => intro x y h; cases x <;> simp at h
  | succ n ih =>
    intro x y hsz
    cases x with
    | nil => cases y <;> simp [ordR]
    | mk k s mn mx ks =>
      cases y with
      | nil => simp [ordR]
      | mk k' s' mn' mx' ks' =>
        simp only [Rx.mk.sizeOf_spec] at hsz
        have hL : ∀ (l l' : List Rx), SizeOf.sizeOf l ≤ n → ordL l l' = -ordL l' l := by
          intro l
          induction l with
          | nil => intro l' _; cases l' <;> simp [ordL]
          | cons a l ihl =>
            intro l' hs
            cases l' with
            | nil => simp [ordL]
            | cons a' l' =>
              simp only [List.cons.sizeOf_spec] at hs
              rw [ordL, ordL]
              exact neg2 (ih a a' (by omega)) (ihl l' (by omega))
        rw [ordR, ordR]
        exact neg1 (neg1 (neg1 (neg1 (neg2 (ordS_neg s s') (neg1 (hL ks ks' (by omega)))))))

theorem tr1 {a b c r r' r'' : Int} (h : (if a ≠ b then a - b else r) < 0) (h' : (if b ≠ c then b - c else r') < 0) (k : a = b → b = c → r < 0 → r' < 0 → r'' < 0) : (if a ≠ c then a - c else r'') < 0 := by
  split at h <;> split at h' <;> split <;> first | omega | exact k (by omega) (by omega) h h'
theorem tr2 {p p' p'' r r' r'' : Int} (h : (if p ≠ 0 then p else r) < 0) (h' : (if p' ≠ 0 then p' else r') < 0) (t : p < 0 → p' < 0 → p'' < 0) (e : p = 0 → p'' = p') (e' : p' = 0 → p'' = p)
    (k : p = 0 → p' = 0 → r < 0 → r' < 0 → r'' < 0) : (if p'' ≠ 0 then p'' else r'') < 0 := by
  by_cases h1 : p = 0 <;> by_cases h2 : p' = 0
  · rw [if_neg (by simp [h1])] at h
    rw [if_neg (by simp [h2])] at h'
    rw [if_neg (by rw [e h1]; simp [h2])]
    exact k h1 h2 h h'
  · rw [if_pos h2] at h'
    rw [e h1, if_pos h2]
    exact h'
  · rw [if_pos h1] at h
    rw [e' h2, if_pos h1]
    exact h
  · rw [if_pos h1] at h
    rw [if_pos h2] at h'
    have := t h h'
    rw [if_pos (by omega)]
    exact this
theorem ordS_tr : ∀ (l m r : List (Int × Int)), l.length = m.length → m.length = r.length → ordS l m < 0 → ordS m r < 0 → ordS l r < 0
  | [], _, _, _, _, h, _ => by simp [ordS] at h
  | _ :: _, [], _, _, _, h, _ => by simp [ordS] at h
  | _ :: _, _ :: _, [], _, _, _, h => by simp [ordS] at h
  | (a, b) :: l, (c, d) :: m, (e, f) :: r, k, k', h, h' => by
    rw [ordS] at h h' ⊢
    exact tr1 h h' fun _ _ h h' => tr1 h h' fun _ _ h h' => ordS_tr l m r (by simpa using k) (by simpa using k') h h'
theorem ordR_tr : ∀ (n : Nat) (x y z : Rx), SizeOf.sizeOf x ≤ n → ordR x y < 0 → ordR y z < 0 → ordR x z < 0 := by
  intro n
  induction n with
  | zero => intro x y z h; cases x <;> simp at h
  | succ n ih =>
    intro x y z hsz h h'
    cases x with
    | nil =>
      cases z with
      | nil => cases y with
        | nil => simp [ordR] at h
        | mk => simp [ordR] at h'
      | mk => simp [ordR]
    | mk k s mn mx ks =>
      cases y with
      | nil => simp [ordR] at h
      | mk k' s' mn' mx' ks' =>
        cases z with
        | nil => simp [ordR] at h'
        | mk k'' s'' mn'' mx'' ks'' =>
          simp only [Rx.mk.sizeOf_spec] at hsz
          have hL : ∀ (l m r : List Rx), SizeOf.sizeOf l ≤ n → ordL l m < 0 → ordL m r < 0 → ordL l r < 0 := by
            intro l
            induction l with
            | nil => intro m r _ h _; simp [ordL] at h
            | cons a l ihl =>
              intro m r hs h h'
              cases m with
              | nil => simp [ordL] at h
              | cons b m =>
                cases r with
                | nil => simp [ordL] at h'
                | cons c r =>
                  simp only [List.cons.sizeOf_spec] at hs
                  rw [ordL] at h h' ⊢
                  exact tr2 h h' (ih a b c (by omega)) (fun e => by rw [ordR_eq _ a b (Nat.le_refl _) e]) (fun e => by rw [ordR_eq _ b c (Nat.le_refl _) e]) fun _ _ h h' => ihl m r (by omega) h h'
          rw [ordR] at h h' ⊢
          refine tr1 h h' fun _ _ h h' => tr1 h h' fun _ _ h h' => tr1 h h' fun _ _ h h' => ?_
          refine tr1 h h' fun e1 e2 h h' => tr2 h h' (ordS_tr s s' s'' (by omega) (by omega)) (fun e => by rw [ordS_eq (by omega) e]) (fun e => by rw [ordS_eq (by omega) e]) fun _ _ h h' => ?_
          exact tr1 h h' fun _ _ h h' => hL ks ks' ks'' (by omega) h h'

theorem ordR_self (x : Rx) : ordR x x = 0 := by have := ordR_neg _ x x (Nat.le_refl _); omega

def Srt (l : List Rx) : Prop := l.Pairwise fun x y => ordR x y < 0
theorem Srt.nodup {l : List Rx} (h : Srt l) : l.Nodup := h.imp fun h e => by rw [e, ordR_self] at h; omega
theorem srt_ins {p : Rx} : ∀ {l : List Rx}, Srt l → Srt (insR l p)
  | [], _ => by simp [insR, Srt]
  | x :: l, h => by
    have h' := List.pairwise_cons.1 h
    rw [insR]
    split
    · exact h
    · split
      · rename_i h2
        have hpx : ordR p x < 0 := by have := ordR_neg _ p x (Nat.le_refl _); omega
        refine List.pairwise_cons.2 ⟨fun y hy => ?_, h⟩
        rcases List.mem_cons.1 hy with rfl | hy
        · exact hpx
        · exact ordR_tr _ p x y (Nat.le_refl _) hpx (h'.1 y hy)
      · refine List.pairwise_cons.2 ⟨fun y hy => ?_, srt_ins h'.2⟩
        rcases (mem_ins l p y).1 hy with hy | rfl
        · exact h'.1 y hy
        · omega
theorem srt_add (k : Int) : ∀ (n : Nat) (p : Rx) (l : List Rx), SizeOf.sizeOf p ≤ n → Srt l → Srt (addR k p l) := by
  intro n
  induction n with
  | zero => intro p l h; cases p <;> simp at h
  | succ n ih =>
    intro p l hsz h
    cases p with
    | nil => exact h
    | mk k' s mn mx kids =>
      simp only [Rx.mk.sizeOf_spec] at hsz
      rw [addR]
      split
      · have hL : ∀ (r l : List Rx), SizeOf.sizeOf r ≤ n → Srt l → Srt (addK k r l) := by
          intro r
          induction r with
          | nil => intro l _ h; exact h
          | cons x r ihr =>
            intro l hs h
            simp only [List.cons.sizeOf_spec] at hs
            rw [addK]
            exact ihr _ (by omega) (ih x l (by omega) h)
        exact hL kids l (by omega) h
      · exact srt_ins h
theorem srt_joinK (k : Int) : ∀ (l acc out : List Rx), Srt acc → joinK k l acc = some out → Srt out
  | [], acc, out, h, e => by
    simp only [joinK, Option.some.injEq] at e
    subst e
    exact h
  | x :: l, acc, out, h, e => by
    rw [joinK] at e
    split at e
    · split at e
      · cases e
      · exact srt_joinK k l acc out h e
    · exact srt_joinK k l _ out (srt_add k _ x acc (Nat.le_refl _) h) e

theorem nodup_len {α : Type} : ∀ {l P : List α}, l.Nodup → (∀ x ∈ l, x ∈ P) → l.length ≤ P.length
  | [], _, _, _ => by simp
  | x :: l, P, hn, h => by
    obtain ⟨s, t, rfl⟩ := List.append_of_mem (h x (by simp))
    have hn' := List.nodup_cons.1 hn
    have := nodup_len (P := s ++ t) hn'.2 fun y hy => by
      have h1 := h y (by simp [hy])
      simp only [List.mem_append, List.mem_cons] at h1 ⊢
      rcases h1 with h1 | rfl | h1
      · exact .inl h1
      · exact absurd hy hn'.1
      · exact .inr h1
    simp only [List.length_append, List.length_cons] at this ⊢
    omega

/-- Each part once: no more of them than places from which they come. -/
theorem joinK_len {k : Int} {l out P : List Rx} (e : joinK k l [] = some out) (h : ∀ x ∈ l, ∀ y ∈ atm k x, y ∈ P) : out.length ≤ P.length := by
  have hn : out.Nodup := (srt_joinK k l [] out (by simp [Srt]) e).nodup
  refine nodup_len hn ?_
  intro y hy
  obtain ⟨x, hx, _, h3⟩ := ((mem_joinK k y l [] out e).1 hy).resolve_left (by simp)
  exact h x hx y h3
end Go.Proofs.Gram

namespace Go.Proofs.Gram

theorem cat_no_left {a b : Rx} (h : isNo a = true) : catR b a = rxNo := by
  cases a with
  | nil => simp [isNo] at h
  | mk k s mn mx kids => rw [catR, if_pos (by simp [h])]
theorem cat_no_right {a b : Rx} (hg : Gd a) (h : isNo b = true) : catR b a = rxNo := by
  cases a with
  | nil => exact absurd hg (by simp [Gd])
  | mk k s mn mx kids => rw [catR, if_pos (by simp [h])]
theorem cat_e_left {a b : Rx} (h : isE a = true) (hb : isNo b = false) : catR b a = b := by
  cases a with
  | nil => simp [isE] at h
  | mk k s mn mx kids =>
    have h1 : isNo (.mk k s mn mx kids) = false := by
      simp only [isE, Bool.and_eq_true, beq_iff_eq] at h
      simp [isNo, h.1]
    rw [catR, if_neg (by simp [h1, hb]), if_pos h]
theorem cat_e_right {a b : Rx} (hg : Gd a) (ha : isNo a = false) (h : isE a = false) (hb : isE b = true) : catR b a = a := by
  cases a with
  | nil => exact absurd hg (by simp [Gd])
  | mk k s mn mx kids =>
    have h1 : isNo b = false := by
      cases b with
      | nil => rfl
      | mk k' s' mn' mx' kids' =>
        simp only [isE, Bool.and_eq_true, beq_iff_eq] at hb
        simp [isNo, hb.1]
    rw [catR, if_neg (by simp [ha, h1]), if_neg (by simp [h]), if_pos hb]
theorem cat_two {a b : Rx} (hg : Gd a) (ha : isNo a = false) (hb : isNo b = false) (hb' : isE b = false) (h : a.kd ≠ 2) : catR b a = .mk 2 [] 0 0 [a, b] := by
  cases a with
  | nil => exact absurd hg (by simp [Gd])
  | mk k s mn mx kids =>
    have h1 := isE_kd h
    simp only [Rx.kd] at h
    rw [catR, if_neg (by simp [ha, hb]), if_neg (by simp [h1]), if_neg (by simp [hb']), if_neg h]
theorem cat_row {h t b : Rx} {s : List (Int × Int)} {mn mx : Int} (hb : isNo b = false) (hb' : isE b = false) : catR b (.mk 2 s mn mx [h, t]) = .mk 2 [] 0 0 [h, catR b t] := by
  have h1 : isNo (.mk 2 s mn mx [h, t]) = false := by simp [isNo]
  rw [catR, if_neg (by rw [h1, hb]; simp), if_neg (by simp [isE]), if_neg (by simp [hb']), if_pos rfl, catK, catK]
  simp

theorem cat_assoc (c : Rx) (b : Rx) (hgb : Gd b) : ∀ (n : Nat) (a : Rx), SizeOf.sizeOf a ≤ n → Gd a → catR c (catR b a) = catR (catR c b) a := by
  intro n
  induction n with
  | zero => intro a h; cases a <;> simp at h
  | succ n ih =>
    intro a hsz hga
    have gno : isNo rxNo = true := rfl
    cases ha : isNo a with
    | true => rw [cat_no_left ha, cat_no_left ha, cat_no_left gno]
    | false =>
    cases hb : isNo b with
    | true => rw [cat_no_right hga hb, cat_no_left gno, cat_no_left hb, cat_no_right hga gno]
    | false =>
    have hab := cat_not hb a hga ha
    have gab := gd_cat hgb _ a (Nat.le_refl _) hga
    cases hc : isNo c with
    | true => rw [cat_no_right gab hc, cat_no_right hgb hc, cat_no_right hga gno]
    | false =>
    have hbc := cat_not hc b hgb hb
    cases ea : isE a with
    | true => rw [cat_e_left ea hb, cat_e_left ea hbc.1]
    | false =>
    cases eb : isE b with
    | true => rw [cat_e_right hga ha ea eb, cat_e_left eb hc]
    | false =>
    cases ec : isE c with
    | true => rw [cat_e_right gab hab.1 (hab.2 ea) ec, cat_e_right hgb hb eb ec]
    | false =>
    by_cases hk : a.kd = 2
    · cases a with
      | nil => exact absurd hga (by simp [Gd])
      | mk k s mn mx kids =>
        simp only [Rx.kd] at hk
        subst hk
        rcases hga.2.2.1 rfl with rfl | ⟨h, t, rfl, e1, e2, e3, e4⟩
        · simp [isE] at ea
        · simp only [Rx.mk.sizeOf_spec, List.cons.sizeOf_spec, List.nil.sizeOf_spec] at hsz
          rw [cat_row hb eb, cat_row hc ec, cat_row hbc.1 (hbc.2 eb), ih t (by omega) hga.2.1.2.1]
    · rw [cat_two hga ha hb eb hk, cat_two hga ha hbc.1 (hbc.2 eb) hk, cat_row hc ec]
end Go.Proofs.Gram
