/-
  PLAIN LAW, part 33: the lists that are made on the way behind a point are short.
  PLAIN LAW, part 34: how much can come of a pattern that weighs little; the reference's form of it is made with short lists.
  PLAIN LAW, part 35: the numbers in the reference's patterns are small; so are the differences that its order tells.
  PLAIN LAW, part 36: the points of a text.
-/
import Derived.Test.YtoijabgcgdgacaaGreatDoorPB
import Derived.Test.YtoijabgcgdgacaaGreatDoorGB
namespace Go.Proofs.Gram

/-- The parts that come together at a join are few. -/
def Jb (B : Nat) (k : Int) (l : List Rx) : Prop := ∃ P : List Rx, P.length ≤ B ∧ ∀ x ∈ l, ∀ y ∈ atm k x, y ∈ P
def rowL : List Rx → List Rx → List Rx
  | [_, t], [d, e] => [catR t d, e]
  | _, _ => []
mutual
/-- The lists that are made on the way behind a point are short. -/
def Bd (B : Nat) (c : Int) : Rx → Prop
  | .nil => True
  | .mk k _ _ _ kids => k = 1 ∨ (BdL B c kids ∧ (k = 2 → Jb B 3 (rowL kids (DL c kids))) ∧ (k = 3 ∨ k = 4 → Jb B k (DL c kids)))
def BdL (B : Nat) (c : Int) : List Rx → Prop
  | [] => True
  | x :: l => Bd B c x ∧ BdL B c l
end
theorem bdL_iff {B : Nat} {c : Int} : ∀ {l : List Rx}, BdL B c l ↔ ∀ x ∈ l, Bd B c x
  | [] => by simp [BdL]
  | y :: l => by
    rw [BdL, bdL_iff (l := l)]
    simp

/-- What stands in a row of rows. -/
inductive Sp : Rx → Rx → Prop
  | self {x : Rx} : x.kd ≠ 2 → Sp x x
  | head {s : List (Int × Int)} {mn mx : Int} {a b : Rx} : Sp (.mk 2 s mn mx [a, b]) a
  | tail {s : List (Int × Int)} {mn mx : Int} {a b z : Rx} : Sp b z → Sp (.mk 2 s mn mx [a, b]) z

theorem sp_self {x z : Rx} (h : x.kd ≠ 2) (hs : Sp x z) : z = x := by
  cases hs with
  | self => rfl
  | head => simp [Rx.kd] at h
  | tail => simp [Rx.kd] at h
theorem sp_cat {t : Rx} (h1 : isNo t = false) (h2 : isE t = false) : ∀ (n : Nat) (x z : Rx), SizeOf.sizeOf x ≤ n → Gd x → isNo x = false → isE x = false →
    Sp (catR t x) z → Sp x z ∨ Sp t z := by
  intro n
  induction n with
  | zero => intro x z h; cases x <;> simp at h
  | succ n ih =>
    intro x z hsz hg hn he hc
    by_cases hk : x.kd = 2
    · cases x with
      | nil => exact absurd hg (by simp [Gd])
      | mk k s mn mx kids =>
        simp only [Rx.kd] at hk
        subst hk
        rcases hg.2.2.1 rfl with rfl | ⟨a, b, rfl, e1, e2, e3, e4⟩
        · simp [isE] at he
        · simp only [Rx.mk.sizeOf_spec, List.cons.sizeOf_spec, List.nil.sizeOf_spec] at hsz
          rw [cat_row h1 h2] at hc
          cases hc with
          | self h => simp [Rx.kd] at h
          | head => exact .inl .head
          | tail h =>
            rcases ih b z (by omega) hg.2.1.2.1 e2 e4 h with h | h
            · exact .inl (.tail h)
            · exact .inr h
    · rw [cat_two hg hn h1 h2 hk] at hc
      cases hc with
      | self h => simp [Rx.kd] at h
      | head => exact .inl (.self hk)
      | tail h => exact .inr h

theorem row_bd {B : Nat} {c : Int} {P : List Rx} (hP : P.length ≤ B) (h0 : rxNo ∈ P) : ∀ (n : Nat) (x : Rx), SizeOf.sizeOf x ≤ n → Gd x → x.kd = 2 →
    (∀ z, Cmp c x z → ∀ u ∈ atm 3 z, u ∈ P) → (∀ a, Sp x a → Bd B c a) → Bd B c x := by
  intro n
  induction n with
  | zero => intro x h; cases x <;> simp at h
  | succ n ih =>
    intro x hsz hg hk hc hs
    cases x with
    | nil => exact hg.elim
    | mk k s mn mx kids =>
      simp only [Rx.kd] at hk
      subst hk
      rcases hg.2.2.1 rfl with rfl | ⟨a, b, rfl, e1, e2, e3, e4⟩
      · exact .inr ⟨trivial, fun _ => ⟨[], by simp, by simp [rowL]⟩, fun h => by omega⟩
      · simp only [Rx.mk.sizeOf_spec, List.cons.sizeOf_spec, List.nil.sizeOf_spec] at hsz
        have gb := hg.2.1.2.1
        refine .inr ⟨⟨hs a .head, ?_, trivial⟩, fun _ => ⟨P, hP, ?_⟩, fun h => by omega⟩
        · by_cases hb : b.kd = 2
          · exact ih b (by omega) gb hb (fun z hz => hc z (.tail hz)) fun z hz => hs z (.tail hz)
          · exact hs b (.tail (.self hb))
        · intro x hx u hu
          simp only [DL, rowL, List.mem_cons, List.not_mem_nil, or_false] at hx
          rcases hx with rfl | rfl
          · exact hc _ .head u hu
          · rcases atm_dr _ b u (Nat.le_refl _) gb hu with rfl | ⟨z, hz, h⟩
            · exact h0
            · exact hc z (.tail hz) u h

theorem join_bd {B : Nat} {c k : Int} (hk : k = 3 ∨ k = 4) {P : List Rx} (hP : P.length ≤ B) (h0 : rxNo ∈ P) : ∀ (n : Nat) (x : Rx), SizeOf.sizeOf x ≤ n → Gd x →
    (∀ u ∈ atm k x, Bd B c u ∧ ∀ z ∈ atm k (DR c u), z ∈ P) → Bd B c x := by
  intro n
  induction n with
  | zero => intro x h; cases x <;> simp at h
  | succ n ih =>
    intro x hsz hg hc
    cases x with
    | nil => exact hg.elim
    | mk k' s mn mx kids =>
      by_cases h : k' = k
      · subst h
        rw [atm, if_pos rfl] at hc
        simp only [Rx.mk.sizeOf_spec] at hsz
        have hgl := gdL_iff.1 hg.2.1
        refine .inr ⟨bdL_iff.2 fun x hx => ?_, fun h => by omega, fun _ => ⟨P, hP, ?_⟩⟩
        · exact ih x (by have := List.sizeOf_lt_of_mem hx; omega) (hgl x hx) fun u hu => hc u ((mem_atmL k' u kids).2 ⟨x, hx, hu⟩)
        · intro y hy u hu
          rw [DL_map] at hy
          obtain ⟨x, hx, rfl⟩ := List.mem_map.1 hy
          rcases atm_dk hk _ x u (Nat.le_refl _) (hgl x hx) hu with rfl | ⟨u0, h1, h2⟩
          · exact h0
          · exact (hc u0 ((mem_atmL k' u0 kids).2 ⟨x, hx, h1⟩)).2 u h2
      · rw [atm, if_neg h] at hc
        exact (hc _ (by simp)).1

mutual
/-- How much can come of a pattern. -/
def Ms (s : Nat) : Rx → Nat
  | .nil => 0
  | .mk k _ mn mx kids => if k = 1 then s else if k = 6 then s + MsL s kids * ((max mn mx).toNat + 2) else s + MsL s kids
def MsL (s : Nat) : List Rx → Nat
  | [] => 0
  | x :: l => Ms s x + MsL s l
end
theorem msL_mem {s : Nat} : ∀ {l : List Rx} {x : Rx}, x ∈ l → Ms s x ≤ MsL s l
  | [], _, h => by simp at h
  | y :: l, x, h => by
    rw [MsL]
    rcases List.mem_cons.1 h with rfl | h
    · omega
    · have := msL_mem (s := s) h
      omega
theorem ms_mem {s : Nat} {k mn mx : Int} {t : List (Int × Int)} {kids : List Rx} {x : Rx} (hk : k ≠ 1) (h : x ∈ kids) : Ms s x ≤ Ms s (.mk k t mn mx kids) := by
  have := msL_mem (s := s) h
  rw [Ms, if_neg hk]
  split
  · have := Nat.le_mul_of_pos_right (MsL s kids) (show 0 < (max mn mx).toNat + 2 by omega)
    omega
  · omega
theorem ms_kid {s : Nat} {y x : Rx} (h : Kid y x) : Ms s x ≤ Ms s y := by
  cases h with
  | row => exact ms_mem (by decide) (by simp)
  | any h hx => exact ms_mem (by omega) hx
theorem ms_ak {s : Nat} : ∀ (n : Nat) (y u : Rx), SizeOf.sizeOf y ≤ n → Gd y → u ∈ AK y → Ms s u ≤ Ms s y := by
  intro n
  induction n with
  | zero => intro y u h; cases y <;> simp at h
  | succ n ih =>
    intro y u hsz hg hu
    rcases ak_cases hg hu with ⟨_, h⟩ | ⟨x, h, hx⟩
    · exact ms_kid h
    · have hl := kid_lt h
      exact Nat.le_trans (ih x u (by omega) (kid_gd hg h) hx) (ms_kid h)

theorem ak_len (s : Nat) : ∀ (n : Nat) (y : Rx), SizeOf.sizeOf y ≤ n → y ≠ .nil → Gd y → (AK y).length * s + s ≤ Ms s y := by
  intro n
  induction n with
  | zero => intro y h; cases y <;> simp at h
  | succ n ih =>
    intro y hsz h0 hg
    cases y with
    | nil => exact absurd rfl h0
    | mk k t mn mx kids =>
      simp only [Rx.mk.sizeOf_spec] at hsz
      have hgl := gdL_iff.1 hg.2.1
      have hL : ∀ l : List Rx, (∀ x ∈ l, x ∈ kids) → l.length * s + (AKL l).flatten.length * s ≤ MsL s l := by
        intro l
        induction l with
        | nil => intro _; simp [AKL, MsL]
        | cons x l ihl =>
          intro h
          have h1 := ihl fun z hz => h z (by simp [hz])
          have hx := h x (by simp)
          have h2 := ih x (by have := List.sizeOf_lt_of_mem hx; omega) (gd_ne (hgl x hx)) (hgl x hx)
          rw [AKL, MsL, List.flatten_cons, List.length_append, List.length_cons, Nat.add_mul, Nat.add_mul]
          omega
      have h1 := hL kids fun _ h => h
      have hm := Nat.le_mul_of_pos_right (MsL s kids) (show 0 < (max mn mx).toNat + 2 by omega)
      rw [AK, Ms]
      by_cases e1 : k = 1
      · subst e1
        simp
      · rw [if_neg e1]
        by_cases e4 : k = 4
        · subst e4
          rw [if_pos rfl, if_neg (by decide), List.length_append, Nat.add_mul]
          omega
        · rw [if_neg e4]
          by_cases e2 : k = 2
          · subst e2
            rw [if_pos rfl, if_neg (by decide)]
            have : (tl2 (AKL kids)).length ≤ (AKL kids).flatten.length := by
              generalize AKL kids = L
              unfold tl2
              split
              · simp only [List.flatten_cons, List.flatten_nil, List.length_append]
                omega
              · simp
            have := Nat.mul_le_mul_right s this
            omega
          · rw [if_neg e2]
            by_cases e6 : k = 6
            · subst e6
              rw [if_pos (.inr rfl), if_pos rfl]
              omega
            · rw [if_neg e6]
              split
              · omega
              · simp
theorem cnts_len : ∀ (n : Nat) (lo hi : Int), (cnts n lo hi).length = n + 1
  | 0, _, _ => rfl
  | n + 1, lo, hi => by rw [cnts, List.length_cons, cnts_len n]
theorem flatMap_len {α β : Type} (f : α → List β) (m : Nat) : ∀ l : List α, (∀ x ∈ l, (f x).length = m) → (l.flatMap f).length = l.length * m
  | [], _ => by simp
  | x :: l, h => by
    rw [List.flatMap_cons, List.length_append, h x (by simp), flatMap_len f m l fun y hy => h y (by simp [hy]), List.length_cons, Nat.add_mul]
    omega
theorem pc_len (S : List (List Int)) : ∀ (n : Nat) (y : Rx), SizeOf.sizeOf y ≤ n → (Pc S y).length ≤ Ms (S.length + 2) y := by
  intro n
  induction n with
  | zero => intro y h; cases y <;> simp at h
  | succ n ih =>
    intro y hsz
    cases y with
    | nil => simp [Pc]
    | mk k t mn mx kids =>
      simp only [Rx.mk.sizeOf_spec] at hsz
      have hx : ∀ x ∈ kids, (Pc S x).length ≤ Ms (S.length + 2) x := fun x hx => ih x (by have := List.sizeOf_lt_of_mem hx; omega)
      rw [Pc, List.length_cons, List.length_cons, List.length_append, List.length_map, Ms]
      by_cases e1 : k = 1
      · subst e1
        rw [if_pos rfl]
        unfold Qf
        rw [if_neg (by decide), if_neg (by decide), if_neg (by decide)]
        simp
      · rw [if_neg e1]
        by_cases e6 : k = 6
        · subst e6
          rw [if_pos rfl]
          unfold Qf
          rw [if_neg (by decide), if_pos rfl]
          match kids, hx with
          | [], _ => simp [PcL]
          | [a], hx =>
            have := hx a (by simp)
            simp only [PcL, MsL, List.length_append]
            rw [flatMap_len _ (Pc S a).length _ (fun _ _ => by simp), cnts_len, Nat.mul_comm ((max mn mx).toNat + 1)]
            simp only [Nat.add_zero]
            have e : Ms (S.length + 2) a * ((max mn mx).toNat + 2) = Ms (S.length + 2) a + Ms (S.length + 2) a * ((max mn mx).toNat + 1) := by rw [Nat.mul_add, Nat.mul_add]; omega
            have := Nat.mul_le_mul_right ((max mn mx).toNat + 1) this
            omega
          | _ :: _ :: _, _ => simp [PcL]
        · rw [if_neg e6]
          have hQ : (Qf k mn mx kids (PcL S kids)).length ≤ MsL (S.length + 2) kids := by
            unfold Qf
            split
            · match kids, hx with
              | [], _ => simp [PcL]
              | [_], _ => simp [PcL]
              | [a, b], hx =>
                have h1 := hx a (by simp)
                have h2 := hx b (by simp)
                simp only [PcL, MsL, List.length_append, List.length_map]
                omega
              | _ :: _ :: _ :: _, _ => simp [PcL]
            · split
              · have hL : ∀ l : List Rx, (∀ x ∈ l, x ∈ kids) → (PcL S l).flatten.length ≤ MsL (S.length + 2) l := by
                  intro l
                  induction l with
                  | nil => intro _; simp [PcL]
                  | cons x l ihl =>
                    intro h
                    have h1 := ihl fun z hz => h z (by simp [hz])
                    have h2 := hx x (h x (by simp))
                    rw [PcL, MsL, List.flatten_cons, List.length_append]
                    omega
                exact hL kids fun _ h => h
              · simp
          omega

theorem dw_not {s : List (Int × Int)} {mn mx : Int} {a : Rx} : ∀ (v : List Int), ∃ s' mn' mx', Dw (.mk 5 s mn mx [a]) v = .mk 5 s' mn' mx' [Dw a v] := by
  intro v
  induction v using snoc_ind with
  | h0 => exact ⟨s, mn, mx, rfl⟩
  | h1 v c ih =>
    obtain ⟨s', mn', mx', e⟩ := ih
    rw [dw_snoc, dw_snoc, e, DR, if_neg (by decide), if_pos rfl]
    exact ⟨_, _, _, rfl⟩

/-- ALL THAT COMES OF A PATTERN makes but short lists on the way behind a point. -/
theorem bd_all (w : List Int) (c : Int) (B : Nat) : ∀ (n : Nat) (y : Rx), SizeOf.sizeOf y ≤ n → Gd y → Ms (w.length + 4) y ≤ B → ∀ x ∈ Pc (Sf w) y, (∀ a, Sp x a → Bd B c a) ∧ Bd B c x := by
  intro n
  have hS := sf_nil w
  have hI := inv_sf w
  have hI' : Inv (stp c (Sf w)) := by rw [← sf_snoc]; exact inv_sf _
  have hS' : [] ∈ stp c (Sf w) := by rw [← sf_snoc]; exact sf_nil _
  have hl' : (stp c (Sf w)).length = w.length + 2 := by rw [← sf_snoc, sf_len]; simp
  have hA : ∀ y, Gd y → Ac (stp c (Sf w)) y := fun y hg => ac_all hS' (SizeOf.sizeOf y + 1) (fun y _ hg => (hI' y hg).1) y (by omega) hg
  induction n with
  | zero => intro y h; cases y <;> simp at h
  | succ n ih =>
    intro y hsz hg hB
    have hP : (Pc (stp c (Sf w)) y).length ≤ B := by
      have := pc_len (stp c (Sf w)) _ y (Nat.le_refl _)
      rw [hl', show w.length + 2 + 2 = w.length + 4 by omega] at this
      omega
    have h0 : rxNo ∈ Pc (stp c (Sf w)) y := by
      cases y with
      | nil => exact hg.elim
      | mk => exact pc_no
    have hs2 : ∀ x ∈ Pc (Sf w) y, x.kd = 2 → ∀ z, Cmp c x z → ∀ u ∈ atm 3 z, u ∈ Pc (stp c (Sf w)) y := fun x hx hk z hz u hu =>
      hA y hg z (qe_pc (s2 c (Sf w) hS (hw_of hI) _ y x z (Nat.le_refl _) hg hx hk hz)) u hu
    have hdr : ∀ x ∈ Pc (Sf w) y, ∀ u ∈ atm 3 (DR c x), u ∈ Pc (stp c (Sf w)) y := fun x hx u hu => by
      by_cases hk : x.kd = 2
      · rcases atm_dr _ x u (Nat.le_refl _) (pc_gd _ _ y x (Nat.le_refl _) hg hx) hu with rfl | ⟨z, hz, h⟩
        · exact h0
        · exact hs2 x hx hk z hz u h
      · exact hA y hg _ (s1 c (Sf w) hS _ y x (Nat.le_refl _) hg hx hk) u hu
    have hkid : ∀ x z, Kid y x → z ∈ Pc (Sf w) x → (∀ a, Sp z a → Bd B c a) ∧ Bd B c z := fun x z h hz =>
      ih x (by have := kid_lt h; omega) (kid_gd hg h) (Nat.le_trans (ms_kid h) hB) z hz
    have hmem : ∀ k s mn mx kids x z, y = .mk k s mn mx kids → k ≠ 1 → x ∈ kids → z ∈ Pc (Sf w) x → (∀ a, Sp z a → Bd B c a) ∧ Bd B c z := fun k s mn mx kids x z e hk hx hz => by
      subst e
      simp only [Rx.mk.sizeOf_spec] at hsz
      exact ih x (by have := List.sizeOf_lt_of_mem hx; omega) (gdL_iff.1 hg.2.1 x hx) (Nat.le_trans (ms_mem hk hx) hB) z hz
    have hrep : ∀ s mn mx a l u, y = .mk 6 s mn mx [a] → Bd B c (.mk 6 [] l u [a]) := fun s mn mx a l u e => by
      have h := (hmem 6 s mn mx [a] a a e (by decide) (by simp) (pc_w (v := []) (by subst e; exact hg.2.1.1) hS)).2
      exact .inr ⟨⟨h, trivial⟩, fun h => by omega, fun h => by omega⟩
    have hQ : ∀ x, Qe (Sf w) y x → (∀ a, Sp x a → Bd B c a) ∧ Bd B c x := fun x hx => by
      rcases qe_cases hS hg hx with rfl | rfl | ⟨z, hz, h⟩ | ⟨s, mn, mx, a, l, u, e, rfl, _⟩ | ⟨hk, z0, t, rfl, gz, e1, e2, e3, e4, h⟩
      · refine ⟨fun a h => ?_, .inr ⟨trivial, fun _ => ⟨[], by simp, by simp [rowL]⟩, fun h => by omega⟩⟩
        unfold rxE at h
        cases h with
        | self h => simp [Rx.kd] at h
      · refine ⟨fun a h => ?_, .inl rfl⟩
        rw [sp_self (by simp [rxNo, Rx.kd]) h]
        exact .inl rfl
      · exact hkid z x hz h
      · refine ⟨fun b h => ?_, hrep s mn mx a l u e⟩
        rw [sp_self (by simp [Rx.kd]) h]
        exact hrep s mn mx a l u e
      · have hsp : ∀ a, Sp (catR t z0) a → Bd B c a := fun a ha => by
          rcases h with ⟨s, mn, mx, x, e, hz0⟩ | ⟨s, mn, mx, x, l, u, e, e', hz0⟩
          · rcases sp_cat e3 e4 _ z0 a (Nat.le_refl _) gz e1 e2 ha with h | h
            · exact (hmem 2 s mn mx _ x z0 e (by decide) (by simp) hz0).1 a h
            · refine (hmem 2 s mn mx _ t t e (by decide) (by simp) (pc_w (v := []) ?_ hS)).1 a h
              subst e
              exact hg.2.1.2.1
          · rcases sp_cat e3 e4 _ z0 a (Nat.le_refl _) gz e1 e2 ha with h | h
            · exact (hmem 6 s mn mx _ x z0 e (by decide) (by simp) hz0).1 a h
            · subst e'
              rw [sp_self (by simp [Rx.kd]) h]
              exact hrep s mn mx x l u e
        exact ⟨hsp, row_bd hP h0 _ _ (Nat.le_refl _) (pc_gd _ _ y _ (Nat.le_refl _) hg (qe_pc hx)) hk (hs2 _ (qe_pc hx) hk) hsp⟩
    have hy0 : y ∈ Pc (Sf w) y := pc_w (v := []) hg hS
    have hprod : ∀ v ∈ Sf w, y.kd = 4 → Bd B c (Dw y v) := fun v hv hk => by
      have hlen : (rxNo :: (AK y).flatMap fun k => (stp c (Sf w)).map (Dw k)).length ≤ B := by
        have h1 := ak_len (w.length + 4) _ y (Nat.le_refl _) (gd_ne hg) hg
        rw [List.length_cons, flatMap_len _ (w.length + 2) _ (fun _ _ => by rw [List.length_map, hl'])]
        have := Nat.mul_le_mul_left (AK y).length (show w.length + 2 ≤ w.length + 4 by omega)
        omega
      have hpt : ∀ u, Pt (stp c (Sf w)) y u → u ∈ rxNo :: (AK y).flatMap fun k => (stp c (Sf w)).map (Dw k) := fun u hu => by
        rcases hu with rfl | ⟨k, hk, v, hv, rfl⟩
        · simp
        · exact List.mem_cons_of_mem _ (List.mem_flatMap.2 ⟨k, hk, List.mem_map.2 ⟨v, hv, rfl⟩⟩)
      refine join_bd (.inr rfl) hlen (by simp) _ _ (Nat.le_refl _) (gd_dw v y hg) fun u hu => ?_
      rcases (hI y hg).2.2 hk v hv u hu with rfl | ⟨k, hk', v', hv', rfl⟩
      · refine ⟨.inl rfl, fun z hz => ?_⟩
        rw [dr_no, atm_no (.inr rfl)] at hz
        exact hpt _ (.inl (List.mem_singleton.1 hz))
      · have ho := ak_ok _ y k (Nat.le_refl _) hg hk'
        refine ⟨(ih k (by omega) ho.1 (Nat.le_trans (ms_ak _ y k (Nat.le_refl _) hg hk') hB) _ (pc_w ho.1 hv')).2, fun z hz => hpt z ?_⟩
        rw [← dw_snoc] at hz
        by_cases h4 : (Dw k (v' ++ [c])).kd = 4
        · exact pt_ak hg hk' ((hI' k ho.1).2.1 _ (pc_w ho.1 (stp_mem c hv')) h4 z hz)
        · rw [atm_self h4 (gd_ne (gd_dw _ _ ho.1))] at hz
          rw [List.mem_singleton.1 hz]
          exact .inr ⟨k, hk', _, stp_mem c hv', rfl⟩
    have hnot : ∀ v ∈ Sf w, y.kd = 5 → Bd B c (Dw y v) := fun v hv hk => by
      cases y with
      | nil => exact hg.elim
      | mk k s mn mx kids =>
        simp only [Rx.kd] at hk
        subst hk
        obtain ⟨a, rfl⟩ := List.length_eq_one_iff.1 (hg.2.2.2.2.1 rfl)
        obtain ⟨s', mn', mx', e⟩ := dw_not (s := s) (mn := mn) (mx := mx) (a := a) v
        rw [e]
        exact .inr ⟨⟨(hmem 5 s mn mx [a] a _ rfl (by decide) (by simp) (pc_w hg.2.1.1 hv)).2, trivial⟩, fun h => by omega, fun h => by omega⟩
    have hyy : y.kd ≠ 3 → (∀ a, Sp y a → Bd B c a) ∧ Bd B c y := fun h3 => by
      have hone : y.kd ≠ 2 → Bd B c y → (∀ a, Sp y a → Bd B c a) ∧ Bd B c y := fun h hb => ⟨fun a ha => by rw [sp_self h ha]; exact hb, hb⟩
      by_cases h4 : y.kd = 4
      · exact hone (by omega) (hprod [] hS h4)
      by_cases h5 : y.kd = 5
      · exact hone (by omega) (hnot [] hS h5)
      by_cases h2 : y.kd = 2
      · have hsp : ∀ a, Sp y a → Bd B c a := fun a ha => by
          cases y with
          | nil => exact hg.elim
          | mk k s mn mx kids =>
            simp only [Rx.kd] at h2
            subst h2
            rcases hg.2.2.1 rfl with rfl | ⟨x, t, rfl, _⟩
            · cases ha with
              | self h => simp [Rx.kd] at h
            · cases ha with
              | self h => simp [Rx.kd] at h
              | head => exact (hmem 2 s mn mx _ a a rfl (by decide) (by simp) (pc_w (v := []) hg.2.1.1 hS)).2
              | tail h => exact (hmem 2 s mn mx _ t t rfl (by decide) (by simp) (pc_w (v := []) hg.2.1.2.1 hS)).1 a h
        exact ⟨hsp, row_bd hP h0 _ _ (Nat.le_refl _) hg h2 (hs2 y hy0 h2) hsp⟩
      · refine hone h2 ?_
        cases y with
        | nil => exact hg.elim
        | mk k s mn mx kids =>
          simp only [Rx.kd] at h2 h3 h4 h5
          have hk := hg.1
          by_cases h1 : k = 1
          · exact .inl h1
          · have h6 : k = 6 := by omega
            subst h6
            obtain ⟨a, rfl⟩ := List.length_eq_one_iff.1 (hg.2.2.2.2.2 rfl).1
            exact .inr ⟨⟨(hmem 6 s mn mx [a] a a rfl (by decide) (by simp) (pc_w (v := []) hg.2.1.1 hS)).2, trivial⟩, fun h => by omega, fun h => by omega⟩
    intro x hx
    rcases pc_cases hx with h | ⟨v, hv, rfl⟩
    · exact hQ x h
    · by_cases h3 : (Dw y v).kd = 3
      · have hb : Bd B c (Dw y v) := by
          refine join_bd (.inl rfl) hP h0 _ _ (Nat.le_refl _) (gd_dw v y hg) fun u hu => ?_
          have hk := (atm_kd 3 _ _ u (Nat.le_refl _) hu).1
          rcases (hI y hg).1 v hv u hu with h | h | ⟨h, _⟩
          · exact ⟨(hQ u h).2, hdr u (qe_pc h)⟩
          · rw [h] at hk ⊢
            exact ⟨(hyy hk).2, hdr y hy0⟩
          · rw [h] at hk; exact absurd h3 hk
        exact ⟨fun a ha => by rw [sp_self (by omega) ha]; exact hb, hb⟩
      · have hm : Dw y v ∈ atm 3 (Dw y v) := by
          rw [atm_self h3 (gd_ne (gd_dw v y hg))]
          simp
        rcases (hI y hg).1 v hv _ hm with h | h | ⟨_, ⟨h, h'⟩ | ⟨h, h'⟩⟩
        · exact hQ _ h
        · rw [h] at h3 ⊢
          exact hyy h3
        · exact ⟨fun a ha => by rw [sp_self (by omega) ha]; exact hprod v hv h, hprod v hv h⟩
        · exact ⟨fun a ha => by rw [sp_self (by omega) ha]; exact hnot v hv h, hnot v hv h⟩
end Go.Proofs.Gram

namespace Go.Proofs.Gram

/-! how much can come of a row, a sum, a product, a repetition -/
theorem ms_e (s : Nat) : Ms s rxE = s := by simp [rxE, Ms, MsL]
theorem ms_no (s : Nat) : Ms s rxNo = s := by simp [rxNo, Ms]
theorem ms_cat (s : Nat) {b : Rx} : ∀ (n : Nat) (a : Rx), SizeOf.sizeOf a ≤ n → Gd a → Ms s (catR b a) ≤ Ms s a + Ms s b + s := by
  intro n
  induction n with
  | zero => intro a h; cases a <;> simp at h
  | succ n ih =>
    intro a hsz hg
    cases hn : isNo a with
    | true => rw [cat_no_left hn, ms_no]; omega
    | false =>
    cases hb : isNo b with
    | true => rw [cat_no_right hg hb, ms_no]; omega
    | false =>
    cases he : isE a with
    | true => rw [cat_e_left he hb]; omega
    | false =>
    cases hbe : isE b with
    | true => rw [cat_e_right hg hn he hbe]; omega
    | false =>
    by_cases hk : a.kd = 2
    · cases a with
      | nil => exact hg.elim
      | mk k t mn mx kids =>
        simp only [Rx.kd] at hk
        subst hk
        rcases hg.2.2.1 rfl with rfl | ⟨x, y, rfl, e1, e2, e3, e4⟩
        · simp [isE] at he
        · simp only [Rx.mk.sizeOf_spec, List.cons.sizeOf_spec, List.nil.sizeOf_spec] at hsz
          have := ih y (by omega) hg.2.1.2.1
          rw [cat_row hb hbe, Ms, Ms, if_neg (by decide), if_neg (by decide), if_neg (by decide), if_neg (by decide)]
          simp only [MsL]
          omega
    · rw [cat_two hg hn hb hbe hk, Ms, if_neg (by decide), if_neg (by decide)]
      simp only [MsL]
      omega
theorem ms_ins (s : Nat) : ∀ (l : List Rx) (p : Rx), MsL s (insR l p) ≤ MsL s l + Ms s p
  | [], p => by simp [insR, MsL]
  | x :: l, p => by
    rw [insR]
    split
    · omega
    · split
      · simp only [MsL]; omega
      · have := ms_ins s l p
        simp only [MsL]; omega
theorem ms_add (s : Nat) {k : Int} (hk : k = 3 ∨ k = 4) : ∀ (n : Nat) (p : Rx) (l : List Rx), SizeOf.sizeOf p ≤ n → MsL s (addR k p l) ≤ MsL s l + Ms s p := by
  intro n
  induction n with
  | zero => intro p l h; cases p <;> simp at h
  | succ n ih =>
    intro p l hsz
    cases p with
    | nil => rw [addR]; omega
    | mk k' t mn mx kids =>
      simp only [Rx.mk.sizeOf_spec] at hsz
      rw [addR]
      by_cases h : k' = k
      · subst h
        rw [if_pos rfl]
        have hL : ∀ (r l : List Rx), SizeOf.sizeOf r ≤ n → MsL s (addK k' r l) ≤ MsL s l + MsL s r := by
          intro r
          induction r with
          | nil => intro l _; rw [addK]; omega
          | cons x r ihr =>
            intro l hs
            simp only [List.cons.sizeOf_spec] at hs
            have h1 := ih x l (by omega)
            have h2 := ihr (addR k' x l) (by omega)
            rw [addK, MsL]
            omega
        have := hL kids l (by omega)
        rw [Ms, if_neg (by omega), if_neg (by omega)]
        omega
      · rw [if_neg h]
        exact ms_ins s l _
theorem ms_joinK (s : Nat) {k : Int} (hk : k = 3 ∨ k = 4) : ∀ (l acc out : List Rx), joinK k l acc = some out → MsL s out ≤ MsL s acc + MsL s l
  | [], acc, out, h => by
    simp only [joinK, Option.some.injEq] at h
    subst h
    omega
  | x :: l, acc, out, h => by
    rw [joinK] at h
    rw [MsL]
    split at h
    · split at h
      · cases h
      · have := ms_joinK s hk l acc out h
        omega
    · have h1 := ms_joinK s hk l _ out h
      have h2 := ms_add s hk _ x acc (Nat.le_refl _)
      omega
theorem ms_join (s : Nat) {k : Int} (hk : k = 3 ∨ k = 4) (l : List Rx) : Ms s (joinR k l) ≤ s + MsL s l := by
  unfold joinR
  split
  · rw [ms_no]; omega
  · rw [ms_no]; omega
  · rename_i x h
    have := ms_joinK s hk l [] [x] h
    simp only [MsL] at this
    omega
  · rename_i out _ _ h
    have := ms_joinK s hk l [] out h
    simp only [MsL] at this
    rw [Ms, if_neg (by omega), if_neg (by omega)]
    omega
theorem ms_rep (s : Nat) (a : Rx) (lo hi : Int) : Ms s (repR a lo hi) ≤ s + Ms s a * ((max lo hi).toNat + 2) := by
  unfold repR
  split
  · rw [ms_e]; omega
  · split
    · rw [ms_no]; omega
    · split
      · rw [ms_e]; omega
      · rw [Ms, if_neg (by decide), if_pos rfl]
        simp only [MsL, Nat.add_zero]
        omega

/-! the weight -/
theorem le_mul1 {a b : Int} (ha : 0 ≤ a) (hb : 1 ≤ b) : a ≤ a * b := by
  have := Int.mul_le_mul_of_nonneg_left hb ha
  rwa [Int.mul_one] at this
theorem wt_pos {d : Nat} {p : Rx} (h : Shp d p) : 1 ≤ wt p := by
  cases p with
  | nil => simp [Shp] at h
  | mk k t mn mx kids =>
    have := (wtL_bounds kids 0 (by omega) (by omega)).1
    rw [wt]
    split
    · omega
    · split
      · have := mul_max_nonneg (b := max mn mx) this
        omega
      · omega
def Wn : List Rx → Nat
  | [] => 0
  | x :: l => (wt x).toNat + Wn l
theorem wtL_sum : ∀ (l : List Rx) (n : Int), 0 ≤ n → wtL l n ≤ 60 → wtL l n = n + Wn l ∧ ∀ x ∈ l, wt x ≤ 60
  | [], n, _, h => by simp [wtL, Wn]
  | x :: l, n, h0, h => by
    have hx := wt_bounds x
    rw [wtL] at h ⊢
    have h61 : min (n + wt x) 61 ≤ 60 := by
      have := wtL_bounds l (min (n + wt x) 61) (by omega) (by omega)
      have mono : ∀ (l : List Rx) (m : Int), m ≤ 61 → m ≤ wtL l m := by
        intro l
        induction l with
        | nil => intro m _; exact Int.le_refl _
        | cons a l ih =>
          intro m hm
          have := wt_bounds a
          rw [wtL]
          have := ih (min (m + wt a) 61) (by omega)
          omega
      have := mono l (min (n + wt x) 61) (by omega)
      omega
    have ih := wtL_sum l (min (n + wt x) 61) (by omega) h
    refine ⟨?_, fun y hy => ?_⟩
    · rw [ih.1, Wn]
      omega
    · rcases List.mem_cons.1 hy with rfl | hy
      · omega
      · exact ih.2 y hy

theorem pow3_pos (n : Nat) : 1 ≤ 3 ^ n := Nat.one_le_pow _ _ (by omega)
theorem pow3_ge {n : Nat} (h : 1 ≤ n) : 3 ≤ 3 ^ n := by
  have := Nat.pow_le_pow_right (n := 3) (by omega) h
  omega
theorem ar1 {X Y : Nat} (hX : 1 ≤ X) (hY : 1 ≤ Y) : X + Y ≤ X * Y + 1 := by
  obtain ⟨x, rfl⟩ : ∃ x, X = x + 1 := ⟨X - 1, by omega⟩
  obtain ⟨y, rfl⟩ : ∃ y, Y = y + 1 := ⟨Y - 1, by omega⟩
  rw [Nat.add_mul, Nat.mul_add]
  omega
theorem ar2 {X Y : Nat} (hX : 3 ≤ X) (hY : 3 ≤ Y) : X + Y + 1 ≤ X * Y := by
  obtain ⟨x, rfl⟩ : ∃ x, X = x + 3 := ⟨X - 3, by omega⟩
  obtain ⟨y, rfl⟩ : ∃ y, Y = y + 3 := ⟨Y - 3, by omega⟩
  rw [Nat.add_mul, Nat.mul_add]
  omega
theorem ar3 {X : Nat} (hX : 3 ≤ X) : ∀ m : Nat, 3 + (X - 1) * (m + 3) ≤ 3 * X ^ (m + 1)
  | 0 => by
    have e : (X - 1) * 3 = 3 * X - 3 := by omega
    rw [Nat.zero_add, Nat.zero_add, Nat.pow_one, e]
    omega
  | m + 1 => by
    have ih := ar3 hX m
    have e : (X - 1) * (m + 1 + 3) = (X - 1) * (m + 3) + (X - 1) := by rw [show m + 1 + 3 = (m + 3) + 1 by omega, Nat.mul_add, Nat.mul_one]
    have h1 : 1 ≤ X ^ (m + 1) := Nat.one_le_pow _ _ (by omega)
    have h2 : X ^ (m + 1 + 1) = X ^ (m + 1) * X := Nat.pow_succ ..
    have h3 : X ^ (m + 1) * X = X ^ (m + 1) * (X - 1) + X ^ (m + 1) := by
      obtain ⟨x, rfl⟩ : ∃ x, X = x + 1 := ⟨X - 1, by omega⟩
      simp [Nat.mul_add]
    have h4 : X - 1 ≤ X ^ (m + 1) * (X - 1) := Nat.le_mul_of_pos_left _ (by omega)
    rw [e, h2, h3]
    omega

/-- The joins on the way to the reference's form of a pattern are short. -/
def Bp (B : Nat) : Rx → Prop
  | .nil => True
  | .mk k _ _ _ kids => (∀ x ∈ kids, Bp B x) ∧ (k = 3 ∨ k = 4 → Jb B k (plL kids))

theorem ms_pl (s : Nat) : ∀ (n : Nat) (p : Rx) (d : Nat), SizeOf.sizeOf p ≤ n → Shp d p → wt p ≤ 60 → 2 * Ms s (plR p) + s ≤ s * 3 ^ (wt p).toNat := by
  intro n
  induction n with
  | zero => intro p d h; cases p <;> simp at h
  | succ n ih =>
    intro p d hsz hs hw
    cases p with
    | nil => exact absurd hs (by simp [Shp])
    | mk k t mn mx kids =>
      simp only [Rx.mk.sizeOf_spec] at hsz
      obtain ⟨_, hc, hset, _, htm, hsl⟩ := hs
      have hshp : ∀ x ∈ kids, Shp (d + 1) x := fun x hx => by
        obtain ⟨i, hi⟩ := List.getElem?_of_mem hx
        exact shpL_iff.1 hsl i x hi
      have hx : ∀ x ∈ kids, wt x ≤ 60 → 2 * Ms s (plR x) + s ≤ s * 3 ^ (wt x).toNat := fun x hx hw => ih x (d + 1) (by have := List.sizeOf_lt_of_mem hx; omega) (hshp x hx) hw
      have hgd : ∀ x ∈ kids, Gd (plR x) := fun x hx => (pl_ok _ x _ (Nat.le_refl _) (hshp x hx)).1
      have hL : ∀ l : List Rx, (∀ x ∈ l, x ∈ kids ∧ wt x ≤ 60) → 2 * MsL s (plL l) + s ≤ s * 3 ^ Wn l := by
        intro l
        induction l with
        | nil => intro _; simp [plL, MsL, Wn]
        | cons x l ihl =>
          intro h
          have h1 := ihl fun z hz => h z (by simp [hz])
          have h2 := hx x (h x (by simp)).1 (h x (by simp)).2
          have h3 := Nat.mul_le_mul_left s (ar1 (pow3_pos (wt x).toNat) (pow3_pos (Wn l)))
          rw [Nat.mul_add, Nat.mul_add] at h3
          rw [plL, MsL, Wn, Nat.pow_add]
          omega
      have hR : ∀ l : List Rx, (∀ x ∈ l, x ∈ kids ∧ wt x ≤ 60) → 2 * Ms s ((l.map plR).foldr (fun x out => catR out x) rxE) + s ≤ s * 3 ^ (Wn l + 1) := by
        intro l
        induction l with
        | nil => intro _; simp [Wn, ms_e]; omega
        | cons x l ihl =>
          intro h
          have h1 := ihl fun z hz => h z (by simp [hz])
          have h2 := hx x (h x (by simp)).1 (h x (by simp)).2
          have hp := wt_pos (hshp x (h x (by simp)).1)
          have h3 := Nat.mul_le_mul_left s (ar2 (pow3_ge (show 1 ≤ (wt x).toNat by omega)) (pow3_ge (show 1 ≤ Wn l + 1 by omega)))
          have h4 := ms_cat s (b := (l.map plR).foldr (fun x out => catR out x) rxE) _ (plR x) (Nat.le_refl _) (hgd x (h x (by simp)).1)
          rw [Nat.mul_add, Nat.mul_add] at h3
          rw [List.map_cons, List.foldr_cons, Wn, Nat.add_assoc, Nat.pow_add]
          omega
      rw [wt] at hw
      have hk : (k = 1 ∧ kids.length = 0) ∨ (k = 2 ∧ kids.length ≠ 1) ∨ ((k = 3 ∨ k = 4) ∧ 1 < kids.length) ∨ ((k = 5 ∨ k = 6) ∧ kids.length = 1) := hc
      rw [wt]
      by_cases e1 : k = 1
      · subst e1
        rw [if_pos rfl, plR, if_neg (by decide), if_neg (by decide), if_neg (by decide), if_neg (by decide), Ms, if_pos rfl]
        simp
        omega
      · rw [if_neg e1] at hw ⊢
        by_cases e6 : k = 6
        · subst e6
          rw [if_pos rfl] at hw ⊢
          obtain ⟨a, rfl⟩ := List.length_eq_one_iff.1 (show kids.length = 1 by omega)
          rw [if_pos rfl] at htm
          unfold timesOk at htm
          have ha := wt_pos (hshp a (by simp))
          have hb := (wt_bounds a).2
          have e : wtL [a] 0 = wt a := by simp only [wtL]; omega
          rw [e] at hw ⊢
          have hw60 : wt a ≤ 60 := by
            have := le_mul1 (show 0 ≤ wt a by omega) (show 1 ≤ max (max mn mx) 1 by omega)
            omega
          have h2 := hx a (by simp) hw60
          obtain ⟨m, hm⟩ : ∃ m : Nat, max (max mn mx) 1 = m + 1 := ⟨(max (max mn mx) 1).toNat - 1, by omega⟩
          have hw' : min (wt a * max (max mn mx) 1 + 1) 61 = wt a * (m + 1) + 1 := by rw [hm] at hw ⊢; omega
          obtain ⟨v, hv⟩ : ∃ v : Nat, wt a = v := ⟨(wt a).toNat, by omega⟩
          have hexp : (wt a * ((m : Int) + 1) + 1).toNat = v * (m + 1) + 1 := by
            rw [hv]
            have : ((v : Int) * ((m : Int) + 1) + 1) = ((v * (m + 1) + 1 : Nat) : Int) := by simp
            rw [this, Int.toNat_natCast]
          rw [hw', hexp]
          rw [plR, if_neg (by decide), if_neg (by decide), if_pos rfl]
          simp only [plL, headR]
          have h3 := ms_rep s (plR a) mn mx
          have hmm : (max mn mx).toNat + 2 ≤ m + 3 := by omega
          have h4 := Nat.mul_le_mul_left (Ms s (plR a)) hmm
          rw [hv, Int.toNat_natCast] at h2
          have hX := pow3_ge (show 1 ≤ v by omega)
          have h5 := Nat.mul_le_mul_left s (ar3 hX m)
          rw [Nat.mul_add] at h5
          have h6 : 2 * (Ms s (plR a) * (m + 3)) ≤ s * ((3 ^ v - 1) * (m + 3)) := by
            rw [← Nat.mul_assoc, ← Nat.mul_assoc]
            refine Nat.mul_le_mul_right _ ?_
            rw [Nat.mul_sub]
            omega
          have h7 : 3 ^ (v * (m + 1) + 1) = 3 * (3 ^ v) ^ (m + 1) := by
            rw [Nat.pow_succ, Nat.pow_mul, Nat.mul_comm]
          rw [h7]
          omega
        · rw [if_neg e6] at hw ⊢
          have hb := wtL_bounds kids 0 (by omega) (by omega)
          have hsum := wtL_sum kids 0 (by omega) (by omega)
          have hexp : (min (wtL kids 0 + 1) 61).toNat = Wn kids + 1 := by
            rw [hsum.1]
            omega
          rw [hexp]
          have h1 := hL kids fun x hx => ⟨hx, hsum.2 x hx⟩
          have h2 := pow3_pos (Wn kids)
          have h3 : s * 3 ^ (Wn kids + 1) = s * 3 ^ Wn kids * 3 := by rw [Nat.pow_succ, ← Nat.mul_assoc]
          have h4 : s ≤ s * 3 ^ Wn kids := Nat.le_mul_of_pos_right _ (by omega)
          by_cases e2 : k = 2
          · subst e2
            rw [plR, if_pos rfl, plL_map]
            exact hR kids fun x hx => ⟨hx, hsum.2 x hx⟩
          · by_cases e34 : k = 3 ∨ k = 4
            · rw [plR, if_neg e2, if_pos e34]
              have := ms_join s e34 (plL kids)
              rw [h3]
              omega
            · have e5 : k = 5 := by omega
              subst e5
              rw [plR, if_neg (by decide), if_neg (by decide), if_neg (by decide), if_pos rfl, Ms, if_neg (by decide), if_neg (by decide), h3]
              omega

theorem atm_len {k : Int} (hk : k = 3 ∨ k = 4) : ∀ (n : Nat) (p : Rx), SizeOf.sizeOf p ≤ n → (atm k p).length ≤ Ms 1 p := by
  intro n
  induction n with
  | zero => intro p h; cases p <;> simp at h
  | succ n ih =>
    intro p hsz
    cases p with
    | nil => simp [atm]
    | mk k' t mn mx kids =>
      simp only [Rx.mk.sizeOf_spec] at hsz
      rw [atm]
      split
      · rename_i e
        have hL : ∀ l : List Rx, (∀ x ∈ l, x ∈ kids) → (atmL k l).length ≤ MsL 1 l := by
          intro l
          induction l with
          | nil => intro _; simp [atmL]
          | cons x l ihl =>
            intro h
            have h1 := ihl fun z hz => h z (by simp [hz])
            have h2 := ih x (by have := List.sizeOf_lt_of_mem (h x (by simp)); omega)
            rw [atmL, MsL, List.length_append]
            omega
        have := hL kids fun _ h => h
        rw [Ms, if_neg (by omega), if_neg (by omega)]
        omega
      · rw [Ms]
        split
        · simp
        · split <;> simp <;> omega
theorem atmL_len {k : Int} (hk : k = 3 ∨ k = 4) : ∀ l : List Rx, (atmL k l).length ≤ MsL 1 l
  | [] => by simp [atmL]
  | x :: l => by
    have h1 := atm_len hk _ x (Nat.le_refl _)
    have h2 := atmL_len hk l
    rw [atmL, MsL, List.length_append]
    omega
theorem jb_of {k : Int} {B : Nat} (hk : k = 3 ∨ k = 4) {l : List Rx} (h : MsL 1 l ≤ B) : Jb B k l :=
  ⟨atmL k l, Nat.le_trans (atmL_len hk l) h, fun x hx y hy => (mem_atmL k y l).2 ⟨x, hx, hy⟩⟩

/-- The bound of all lists. -/
def BB : Nat := 8796093022208

theorem bp_ok : ∀ (n : Nat) (p : Rx) (d : Nat), SizeOf.sizeOf p ≤ n → Shp d p → wt p ≤ 24 → Bp BB p := by
  intro n
  induction n with
  | zero => intro p d h; cases p <;> simp at h
  | succ n ih =>
    intro p d hsz hs hw
    cases p with
    | nil => exact absurd hs (by simp [Shp])
    | mk k t mn mx kids =>
      have hs' := hs
      have hsz' := hsz
      simp only [Rx.mk.sizeOf_spec] at hsz
      obtain ⟨_, hc, hset, _, htm, hsl⟩ := hs
      have hshp : ∀ x ∈ kids, Shp (d + 1) x := fun x hx => by
        obtain ⟨i, hi⟩ := List.getElem?_of_mem hx
        exact shpL_iff.1 hsl i x hi
      have hk : (k = 1 ∧ kids.length = 0) ∨ (k = 2 ∧ kids.length ≠ 1) ∨ ((k = 3 ∨ k = 4) ∧ 1 < kids.length) ∨ ((k = 5 ∨ k = 6) ∧ kids.length = 1) := hc
      have hwk : ∀ x ∈ kids, wt x ≤ 24 := fun x hx => by
        rw [wt] at hw
        have hb := wtL_bounds kids 0 (by omega) (by omega)
        have e1 : k ≠ 1 := fun e => by
          have : kids.length = 0 := by omega
          rw [List.eq_nil_of_length_eq_zero this] at hx
          simp at hx
        rw [if_neg e1] at hw
        have hle : wtL kids 0 ≤ 23 := by
          split at hw
          · have := le_mul1 hb.1 (show 1 ≤ max (max mn mx) 1 by omega)
            omega
          · omega
        have hsum := wtL_sum kids 0 (by omega) (by omega)
        have hmem : ∀ l : List Rx, x ∈ l → (wt x).toNat ≤ Wn l := by
          intro l
          induction l with
          | nil => intro h; simp at h
          | cons y l ihl =>
            intro h
            rw [Wn]
            rcases List.mem_cons.1 h with rfl | h
            · omega
            · have := ihl h
              omega
        have := hmem kids hx
        omega
      rw [Bp]
      refine ⟨fun x hx => ih x (d + 1) (by have := List.sizeOf_lt_of_mem hx; omega) (hshp x hx) (hwk x hx), fun h34 => jb_of h34 ?_⟩
      have hL : ∀ l : List Rx, (∀ x ∈ l, x ∈ kids) → 2 * MsL 1 (plL l) + 1 ≤ 3 ^ Wn l := by
        intro l
        induction l with
        | nil => intro _; simp [plL, MsL, Wn]
        | cons x l ihl =>
          intro h
          have h1 := ihl fun z hz => h z (by simp [hz])
          have hxk := h x (by simp)
          have h2 := ms_pl 1 _ x (d + 1) (Nat.le_refl _) (hshp x hxk) (by have := hwk x hxk; omega)
          have h3 := ar1 (pow3_pos (wt x).toNat) (pow3_pos (Wn l))
          rw [plL, MsL, Wn, Nat.pow_add]
          omega
      have h1 := hL kids fun _ h => h
      have hWn : Wn kids ≤ 24 := by
        rw [wt, if_neg (by omega), if_neg (by omega)] at hw
        have hb := wtL_bounds kids 0 (by omega) (by omega)
        have hsum := wtL_sum kids 0 (by omega) (by omega)
        omega
      have h2 := Nat.pow_le_pow_right (n := 3) (by omega) hWn
      have h3 : (3 : Nat) ^ 24 = 282429536481 := by decide
      unfold BB
      omega

/-- ALL LISTS ON THE WAY behind the points of a short text are short. -/
theorem bd_ok {p : Rx} (hs : Shp 0 p) (hw : wt p ≤ 24) (w : List Int) (hl : w.length ≤ 40) (c : Int) : Bd BB c (Dw (plR p) w) := by
  have hg := (pl_ok _ p 0 (Nat.le_refl _) hs).1
  refine (bd_all w c BB _ (plR p) (Nat.le_refl _) hg ?_ _ (pc_w hg (sf_self w))).2
  have h1 := ms_pl (w.length + 4) _ p 0 (Nat.le_refl _) hs (by omega)
  have h2 := Nat.pow_le_pow_right (n := 3) (by omega) (show (wt p).toNat ≤ 24 by omega)
  have h3 : (3 : Nat) ^ 24 = 282429536481 := by decide
  have h4 := Nat.mul_le_mul (show w.length + 4 ≤ 44 by omega) h2
  rw [h3] at h4
  unfold BB
  omega
end Go.Proofs.Gram

namespace Go.Proofs.Gram

/-- Small numbers, sets and lists. -/
def Nm (B : Nat) : Rx → Prop
  | .nil => False
  | .mk k s mn mx kids => (1 ≤ k ∧ k ≤ 6) ∧ (-1 ≤ mn ∧ mn ≤ 50) ∧ (-1 ≤ mx ∧ mx ≤ 50) ∧ s.length ≤ 16777216 ∧ (∀ r ∈ s, 0 ≤ r.1 ∧ r.1 ≤ 0x10FFFF ∧ 0 ≤ r.2 ∧ r.2 ≤ 0x10FFFF) ∧ kids.length ≤ B ∧ ∀ x ∈ kids, Nm B x

theorem nm_no (B : Nat) : Nm B rxNo := by rw [rxNo, Nm]; simp
theorem nm_e (B : Nat) : Nm B rxE := by rw [rxE, Nm]; simp
theorem nm_two {B : Nat} (hB : 2 ≤ B) {k : Int} (hk : 1 ≤ k ∧ k ≤ 6) {a b : Rx} (ha : Nm B a) (hb : Nm B b) : Nm B (.mk k [] 0 0 [a, b]) := by
  rw [Nm]
  refine ⟨hk, by omega, by omega, by simp, by simp, by simpa using hB, fun x hx => ?_⟩
  simp only [List.mem_cons, List.not_mem_nil, or_false] at hx
  rcases hx with rfl | rfl
  · exact ha
  · exact hb
theorem nm_kid {B : Nat} {k mn mx : Int} {s : List (Int × Int)} {kids : List Rx} {x : Rx} (h : Nm B (.mk k s mn mx kids)) (hx : x ∈ kids) : Nm B x := by
  rw [Nm] at h
  exact h.2.2.2.2.2.2 x hx

theorem nm_cat {B : Nat} (hB : 2 ≤ B) {b : Rx} (hb : Nm B b) : ∀ (n : Nat) (a : Rx), SizeOf.sizeOf a ≤ n → Gd a → Nm B a → Nm B (catR b a) := by
  intro n
  induction n with
  | zero => intro a h; cases a <;> simp at h
  | succ n ih =>
    intro a hsz hg ha
    cases hn : isNo a with
    | true => rw [cat_no_left hn]; exact nm_no B
    | false =>
    cases hb0 : isNo b with
    | true => rw [cat_no_right hg hb0]; exact nm_no B
    | false =>
    cases he : isE a with
    | true => rw [cat_e_left he hb0]; exact hb
    | false =>
    cases hbe : isE b with
    | true => rw [cat_e_right hg hn he hbe]; exact ha
    | false =>
    by_cases hk : a.kd = 2
    · cases a with
      | nil => exact hg.elim
      | mk k t mn mx kids =>
        simp only [Rx.kd] at hk
        subst hk
        rcases hg.2.2.1 rfl with rfl | ⟨x, y, rfl, e1, e2, e3, e4⟩
        · simp [isE] at he
        · simp only [Rx.mk.sizeOf_spec, List.cons.sizeOf_spec, List.nil.sizeOf_spec] at hsz
          rw [cat_row hb0 hbe]
          exact nm_two hB (by omega) (nm_kid ha (by simp)) (ih y (by omega) hg.2.1.2.1 (nm_kid ha (by simp)))
    · rw [cat_two hg hn hb0 hbe hk]
      exact nm_two hB (by omega) ha hb

theorem nm_atm {B : Nat} (k : Int) : ∀ (n : Nat) (p y : Rx), SizeOf.sizeOf p ≤ n → Nm B p → y ∈ atm k p → Nm B y := by
  intro n
  induction n with
  | zero => intro p y h; cases p <;> simp at h
  | succ n ih =>
    intro p y hsz hg hy
    cases p with
    | nil => simp [atm] at hy
    | mk k' s mn mx kids =>
      simp only [Rx.mk.sizeOf_spec] at hsz
      rw [atm] at hy
      split at hy
      · obtain ⟨x, hx, hy⟩ := (mem_atmL k y kids).1 hy
        exact ih x y (by have := List.sizeOf_lt_of_mem hx; omega) (nm_kid hg hx) hy
      · rw [List.mem_singleton.1 hy]
        exact hg

theorem nm_join {B : Nat} {k : Int} (hk : k = 3 ∨ k = 4) {l : List Rx} (h : ∀ x ∈ l, Nm B x) (hj : Jb B k l) : Nm B (joinR k l) := by
  obtain ⟨P, hP, hj⟩ := hj
  have hm : ∀ out, joinK k l [] = some out → out.length ≤ B ∧ ∀ y ∈ out, Nm B y := fun out ho => by
    refine ⟨Nat.le_trans (joinK_len ho hj) hP, fun y hy => ?_⟩
    obtain ⟨x, hx, _, h3⟩ := ((mem_joinK k y l [] out ho).1 hy).resolve_left (by simp)
    exact nm_atm k _ x y (Nat.le_refl _) (h x hx) h3
  unfold joinR
  split
  · exact nm_no B
  · exact nm_no B
  · rename_i x ho
    exact (hm _ ho).2 x (by simp)
  · rename_i out h0 h1 ho
    rw [Nm]
    exact ⟨by omega, by omega, by omega, by simp, by simp, (hm _ ho).1, (hm _ ho).2⟩

theorem nm_rep {B : Nat} (hB : 2 ≤ B) {a : Rx} (ha : Nm B a) {lo hi : Int} (hl : -1 ≤ lo ∧ lo ≤ 50) (hh : -1 ≤ hi ∧ hi ≤ 50) : Nm B (repR a lo hi) := by
  unfold repR
  split
  · exact nm_e B
  · split
    · exact nm_no B
    · split
      · exact nm_e B
      · rw [Nm]
        refine ⟨by omega, hl, hh, by simp, by simp, by simp; omega, fun x hx => ?_⟩
        rw [List.mem_singleton.1 hx]
        exact ha

theorem decR_small {n : Int} (h : -1 ≤ n ∧ n ≤ 50) : -1 ≤ decR n ∧ decR n ≤ 50 := by
  unfold decR
  split <;> omega

theorem nm_dr {B : Nat} (hB : 2 ≤ B) (c : Int) : ∀ (n : Nat) (x : Rx), SizeOf.sizeOf x ≤ n → Gd x → Nm B x → Bd B c x → Nm B (DR c x) := by
  intro n
  induction n with
  | zero => intro x h; cases x <;> simp at h
  | succ n ih =>
    intro x hsz hg hn hb
    cases x with
    | nil => exact hg.elim
    | mk k s mn mx kids =>
      simp only [Rx.mk.sizeOf_spec] at hsz
      obtain ⟨hk, hgl, h2, h34, h5, h6⟩ := id hg
      have hgl' := gdL_iff.1 hgl
      have hnum := hn
      rw [Nm] at hnum
      by_cases e1 : k = 1
      · rw [DR, if_pos e1]
        split
        · exact nm_e B
        · exact nm_no B
      · have hb' := hb.resolve_left e1
        have hbl := bdL_iff.1 hb'.1
        have hx : ∀ x ∈ kids, Gd (DR c x) ∧ Nm B (DR c x) := fun x hx =>
          ⟨(dr_ok c _ x (Nat.le_refl _) (hgl' x hx)).1, ih x (by have := List.sizeOf_lt_of_mem hx; omega) (hgl' x hx) (nm_kid hn hx) (hbl x hx)⟩
        rcases hk with rfl | rfl | rfl | rfl | rfl | rfl
        · exact absurd rfl e1
        · rw [DR, if_neg (by decide), if_neg (by decide), if_neg (by decide), if_pos rfl]
          rcases h2 rfl with rfl | ⟨a, t, rfl, _⟩
          · exact nm_no B
          · have ha := hx a (by simp)
            have ht := hx t (by simp)
            have hcat : Nm B (catR t (DR c a)) := nm_cat hB (nm_kid hn (by simp)) _ _ (Nat.le_refl _) ha.1 ha.2
            have hj := hb'.2.1 rfl
            simp only [DL, rowL] at hj
            simp only [DL, headR, rowR]
            split
            · refine nm_join (.inl rfl) (fun x hx => ?_) hj
              simp only [List.mem_cons, List.not_mem_nil, or_false] at hx
              rcases hx with rfl | rfl
              · exact hcat
              · exact ht.2
            · exact hcat
        · rw [DR, if_neg (by decide), if_neg (by decide), if_neg (by decide), if_neg (by decide)]
          refine nm_join (.inl rfl) (fun y hy => ?_) (hb'.2.2 (.inl rfl))
          rw [DL_map] at hy
          obtain ⟨x, hx', rfl⟩ := List.mem_map.1 hy
          exact (hx x hx').2
        · rw [DR, if_neg (by decide), if_neg (by decide), if_neg (by decide), if_neg (by decide)]
          refine nm_join (.inr rfl) (fun y hy => ?_) (hb'.2.2 (.inr rfl))
          rw [DL_map] at hy
          obtain ⟨x, hx', rfl⟩ := List.mem_map.1 hy
          exact (hx x hx').2
        · obtain ⟨a, rfl⟩ := List.length_eq_one_iff.1 (h5 rfl)
          rw [DR, if_neg (by decide), if_pos rfl]
          simp only [DL, headR]
          rw [Nm]
          refine ⟨by omega, by omega, by omega, by simp, by simp, by simp; omega, fun x hx' => ?_⟩
          rw [List.mem_singleton.1 hx']
          exact (hx a (by simp)).2
        · obtain ⟨a, rfl⟩ := List.length_eq_one_iff.1 (h6 rfl).1
          rw [DR, if_neg (by decide), if_neg (by decide), if_pos rfl]
          simp only [DL, headR]
          have ha := hx a (by simp)
          exact nm_cat hB (nm_rep hB (nm_kid hn (by simp)) (decR_small hnum.2.1) (decR_small hnum.2.2.1)) _ _ (Nat.le_refl _) ha.1 ha.2

theorem nm_pl {B : Nat} (hB : 2 ≤ B) : ∀ (n : Nat) (p : Rx) (d : Nat), SizeOf.sizeOf p ≤ n → Shp d p → Small p → Bp B p → Nm B (plR p) := by
  intro n
  induction n with
  | zero => intro p d h; cases p <;> simp at h
  | succ n ih =>
    intro p d hsz hs hsm hb
    cases p with
    | nil => exact absurd hs (by simp [Shp])
    | mk k s mn mx kids =>
      simp only [Rx.mk.sizeOf_spec] at hsz
      obtain ⟨_, hc, hset, hcan, htm, hsl⟩ := hs
      rw [Bp] at hb
      have hx : ∀ x ∈ kids, Gd (plR x) ∧ Nm B (plR x) := fun x hx => by
        obtain ⟨i, hi⟩ := List.getElem?_of_mem hx
        have h1 := shpL_iff.1 hsl i x hi
        exact ⟨(pl_ok _ x (d + 1) (Nat.le_refl _) h1).1, ih x (d + 1) (by have := List.sizeOf_lt_of_mem hx; omega) h1 (smallL_at hsm.2 hi) (hb.1 x hx)⟩
      have hxl : ∀ y ∈ plL kids, Nm B y := fun y hy => by
        rw [plL_map] at hy
        obtain ⟨x, hx', rfl⟩ := List.mem_map.1 hy
        exact (hx x hx').2
      have hk : (k = 1 ∧ kids.length = 0) ∨ (k = 2 ∧ kids.length ≠ 1) ∨ ((k = 3 ∨ k = 4) ∧ 1 < kids.length) ∨ ((k = 5 ∨ k = 6) ∧ kids.length = 1) := hc
      rcases hk with ⟨rfl, h0⟩ | ⟨rfl, h0⟩ | ⟨h34, h0⟩ | ⟨rfl | rfl, h0⟩
      · obtain rfl := List.eq_nil_of_length_eq_zero h0
        rw [plR, if_neg (by decide), if_neg (by decide), if_neg (by decide), if_neg (by decide), Nm]
        have hcf := (canonOf_canon s).1
        rw [hcan] at hcf
        rw [if_neg (by decide)] at htm
        refine ⟨by omega, by omega, by omega, hsm.1, fun r hr => ?_, by simp, by simp⟩
        have := canonFrom_mem hcf r hr
        omega
      · rw [plR, if_pos rfl, plL_map]
        have hL : ∀ l : List Rx, (∀ x ∈ l, x ∈ kids) → Nm B ((l.map plR).foldr (fun x out => catR out x) rxE) := by
          intro l
          induction l with
          | nil => intro _; exact nm_e B
          | cons x l ihl =>
            intro h
            rw [List.map_cons, List.foldr_cons]
            have h1 := hx x (h x (by simp))
            exact nm_cat hB (ihl fun z hz => h z (by simp [hz])) _ _ (Nat.le_refl _) h1.1 h1.2
        exact hL kids fun _ h => h
      · rw [plR, if_neg (by omega), if_pos h34]
        exact nm_join h34 hxl (hb.2 h34)
      · obtain ⟨a, rfl⟩ := List.length_eq_one_iff.1 h0
        rw [plR, if_neg (by decide), if_neg (by decide), if_neg (by decide), if_pos rfl, Nm]
        exact ⟨by omega, by omega, by omega, by simp, by simp, by simp [plL]; omega, hxl⟩
      · obtain ⟨a, rfl⟩ := List.length_eq_one_iff.1 h0
        rw [if_pos rfl] at htm
        unfold timesOk at htm
        rw [plR, if_neg (by decide), if_neg (by decide), if_pos rfl, plL, plL]
        simp only [headR]
        exact nm_rep hB (hx a (by simp)).2 (by omega) (by omega)

/-- The differences that the order tells are small. -/
theorem ordS_small : ∀ (l l' : List (Int × Int)), (∀ r ∈ l, 0 ≤ r.1 ∧ r.1 ≤ 0x10FFFF ∧ 0 ≤ r.2 ∧ r.2 ≤ 0x10FFFF) → (∀ r ∈ l', 0 ≤ r.1 ∧ r.1 ≤ 0x10FFFF ∧ 0 ≤ r.2 ∧ r.2 ≤ 0x10FFFF) →
    -0x10FFFF ≤ ordS l l' ∧ ordS l l' ≤ 0x10FFFF
  | [], _, _, _ => by simp [ordS]
  | _ :: _, [], _, _ => by simp [ordS]
  | x :: l, y :: l', h, h' => by
    have h1 := h x (by simp)
    have h2 := h' y (by simp)
    have ih := ordS_small l l' (fun r hr => h r (by simp [hr])) (fun r hr => h' r (by simp [hr]))
    rw [ordS]
    split
    · omega
    · split <;> omega
theorem ordR_small {B : Nat} (hB : 16777216 ≤ B) : ∀ (n : Nat) (x y : Rx), SizeOf.sizeOf x ≤ n → Nm B x → Nm B y → -(B : Int) ≤ ordR x y ∧ ordR x y ≤ B := by
  intro n
  induction n with
  | zero => intro x y h; cases x <;> simp at h
  | succ n ih =>
    intro x y hsz hx hy
    cases x with
    | nil => rw [Nm] at hx; exact hx.elim
    | mk k s mn mx ks =>
      cases y with
      | nil => rw [Nm] at hy; exact hy.elim
      | mk k' s' mn' mx' ks' =>
        simp only [Rx.mk.sizeOf_spec] at hsz
        rw [Nm] at hx hy
        have hL : ∀ (l l' : List Rx), (∀ x ∈ l, x ∈ ks) → (∀ x ∈ l', x ∈ ks') → -(B : Int) ≤ ordL l l' ∧ ordL l l' ≤ B := by
          intro l
          induction l with
          | nil => intro l' _ _; cases l' <;> simp [ordL] <;> omega
          | cons a l ihl =>
            intro l' h h'
            cases l' with
            | nil => simp [ordL]
            | cons a' l' =>
              have h1 := h a (by simp)
              have h2 := ih a a' (by have := List.sizeOf_lt_of_mem h1; omega) (hx.2.2.2.2.2.2 a h1) (hy.2.2.2.2.2.2 a' (h' a' (by simp)))
              have h3 := ihl l' (fun z hz => h z (by simp [hz])) (fun z hz => h' z (by simp [hz]))
              rw [ordL]
              split
              · exact h2
              · exact h3
        have h1 := ordS_small s s' hx.2.2.2.2.1 hy.2.2.2.2.1
        have h2 := hL ks ks' (fun _ h => h) (fun _ h => h)
        rw [ordR]
        split
        · omega
        split
        · omega
        split
        · omega
        split
        · omega
        split
        · omega
        split
        · omega
        exact h2
end Go.Proofs.Gram

namespace Go.Proofs.Gram

/-- The points from a place on. -/
def ptsF (s : ByteArray) : Nat → Nat → List Int
  | 0, _ => []
  | f + 1, a => if a < s.size then ((Utf8.decode s a).1 : Int) :: ptsF s f (nx s a) else []
/-- The points of a text. -/
def ptsOf (s : ByteArray) : List Int := ptsF s s.size 0

theorem pts_end (s : ByteArray) (f a : Nat) (h : s.size ≤ a) : ptsF s f a = [] := by
  cases f with
  | zero => rfl
  | succ f => rw [ptsF, if_neg (by omega)]
theorem pts_step (s : ByteArray) (f a : Nat) (h : a < s.size) (hf : s.size ≤ a + f) : ∃ g, f = g + 1 ∧ ptsF s f a = ((Utf8.decode s a).1 : Int) :: ptsF s g (nx s a) ∧ s.size ≤ nx s a + g := by
  cases f with
  | zero => omega
  | succ f =>
    have := nx_le s a h
    exact ⟨f, rfl, by rw [ptsF, if_pos h], by omega⟩
theorem pts_isP (s : ByteArray) : ∀ (f a : Nat) (x : Int), x ∈ ptsF s f a → isP x
  | 0, _, _, h => by simp [ptsF] at h
  | f + 1, a, x, h => by
    rw [ptsF] at h
    split at h
    · rcases List.mem_cons.1 h with rfl | h
      · have := Lib.rune_le s a
        unfold isP
        omega
      · exact pts_isP s f _ x h
    · simp at h
theorem pts_len (s : ByteArray) : ∀ (f a : Nat), (ptsF s f a).length ≤ s.size - a
  | 0, _ => by simp [ptsF]
  | f + 1, a => by
    rw [ptsF]
    split
    · rename_i h
      have h1 := nx_le s a h
      have h2 := pts_len s f (nx s a)
      rw [List.length_cons]
      omega
    · simp
end Go.Proofs.Gram
