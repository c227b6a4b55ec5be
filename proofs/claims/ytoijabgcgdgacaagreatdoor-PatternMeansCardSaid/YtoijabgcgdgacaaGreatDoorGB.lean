/-
  PLAIN LAW, part 2: digits to the base 16, as the program reads them.
  PLAIN LAW, part 3: decimal digits, as the parser reads them and as strconv.Atoi does.
  PLAIN LAW, part 4: the canonical list of a set of points: one only; how it is made; the other points.
  PLAIN LAW, part 5: reading goes on: what is read lies in the text.
  PLAIN LAW, part 6: reading, step by step (no fuel in sight).
  PLAIN LAW, part 7: which patterns are valid; their weight; what is read has short sets.
-/
import Derived.Test.YtoijabgcgdgacaaGreatDoorGA
import Derived.Lib.IndexLaws
import Derived.Lib.AtoiAllCases
import Derived.Laws.RangeAny
import Derived.Lib.TrimU
namespace Go.Proofs.Gram

theorem hexs_cases (s : ByteArray) (frm : Nat) : ∀ (f i k n : Nat), hexs s frm f i k n = .er 1 frm ∨
    ∃ m v, m < f ∧ hexs s frm f i k n = .ok v (i + m + 1) ∧ (∀ j, j < m → ∃ h : i + j < s.size, s[i + j] ≠ 125) ∧ (∃ h : i + m < s.size, s[i + m] = 125) ∧ 1 ≤ k + m := by
  intro f
  induction f with
  | zero => intro i k n; exact .inl rfl
  | succ f ih =>
    intro i k n
    rw [hexs]
    by_cases h : i < s.size
    · rw [dif_pos h]
      cases hx : hexv s[i] with
      | none =>
        by_cases hc : s[i] = 125 ∧ 1 ≤ k ∧ n ≤ 0x10FFFF
        · simp only [if_pos hc]
          exact .inr ⟨0, n, by omega, rfl, fun j hj => by omega, ⟨h, hc.1⟩, by omega⟩
        · simp only [if_neg hc]
          exact .inl trivial
      | some d =>
        rcases ih (i + 1) (k + 1) (n * 16 + d) with h1 | ⟨m, v, h1, h2, h3, ⟨h4, h5⟩, h6⟩
        · exact .inl h1
        · refine .inr ⟨m + 1, v, by omega, ?_, ?_, ⟨by omega, ?_⟩, by omega⟩
          · rw [show i + (m + 1) + 1 = i + 1 + m + 1 from by omega]; exact h2
          · intro j hj
            rcases j with _ | j
            · refine ⟨h, fun e => ?_⟩
              simp only [Nat.add_zero] at e
              rw [e] at hx
              simp [hexv] at hx
            · obtain ⟨h7, h8⟩ := h3 j (by omega)
              exact ⟨by omega, by simpa [show i + (j + 1) = i + 1 + j from by omega] using h8⟩
          · simpa [show i + (m + 1) = i + 1 + m from by omega] using h5
    · rw [dif_neg h]
      exact .inl rfl

theorem numb_cases (s : ByteArray) (frm i : Nat) : numb s frm i = .er 1 frm ∨
    ∃ m v, 1 ≤ m ∧ m < 7 ∧ numb s frm i = .ok v (i + m + 2) ∧ (∃ h : i < s.size, s[i] = 123) ∧ (∀ j, j < m → ∃ h : i + 1 + j < s.size, s[i + 1 + j] ≠ 125) ∧ (∃ h : i + 1 + m < s.size, s[i + 1 + m] = 125) := by
  unfold numb
  by_cases h : i < s.size
  · rw [dif_pos h]
    by_cases h' : s[i] = 123
    · rw [if_pos h']
      rcases hexs_cases s frm 7 (i + 1) 0 0 with h1 | ⟨m, v, h1, h2, h3, h4, h5⟩
      · exact .inl h1
      · exact .inr ⟨m, v, by omega, h1, by rw [h2]; congr 1; omega, ⟨h, h'⟩, h3, h4⟩
    · rw [if_neg h']
      exact .inl rfl
  · rw [dif_neg h]
    exact .inl rfl

def hexDigits : List UInt8 := [48, 49, 50, 51, 52, 53, 54, 55, 56, 57, 97, 98, 99, 100, 101, 102, 65, 66, 67, 68, 69, 70]

theorem hexDigits_all : ∀ c : Fin 256, (Lib.indexByte hexDigits (UInt8.ofNat c.val) < 0 ∧ hexv (UInt8.ofNat c.val) = none) ∨
    ((0 ≤ Lib.indexByte hexDigits (UInt8.ofNat c.val) ∧ Lib.indexByte hexDigits (UInt8.ofNat c.val) ≤ 15) ∧ hexv (UInt8.ofNat c.val) = some (Lib.indexByte hexDigits (UInt8.ofNat c.val)).toNat) ∨
    ((15 < Lib.indexByte hexDigits (UInt8.ofNat c.val) ∧ Lib.indexByte hexDigits (UInt8.ofNat c.val) ≤ 21) ∧ hexv (UInt8.ofNat c.val) = some (Lib.indexByte hexDigits (UInt8.ofNat c.val) - 6).toNat) := by decide +kernel

theorem hexDigits_any (c : UInt8) : (Lib.indexByte hexDigits c < 0 ∧ hexv c = none) ∨
    ((0 ≤ Lib.indexByte hexDigits c ∧ Lib.indexByte hexDigits c ≤ 15) ∧ hexv c = some (Lib.indexByte hexDigits c).toNat) ∨
    ((15 < Lib.indexByte hexDigits c ∧ Lib.indexByte hexDigits c ≤ 21) ∧ hexv c = some (Lib.indexByte hexDigits c - 6).toNat) := by
  have h := hexDigits_all ⟨c.toNat, c.toNat_lt⟩
  simpa using h

end Go.Proofs.Gram

namespace Go.Proofs.Gram

/-- What m digits from a place on tell, n so far. -/
def dv (s : ByteArray) (a : Nat) : Nat → Nat → Nat
  | 0, n => n
  | m + 1, n => dv s a m n * 10 + (pk s (a + m) - 48).toNat

/-- The first m points from a place on are digits. -/
def allDig (s : ByteArray) (a m : Nat) : Prop := ∀ i, i < m → 48 ≤ pk s (a + i) ∧ pk s (a + i) ≤ 57

theorem dv_shift (s : ByteArray) (a : Nat) : ∀ (m n : Nat), dv s a (m + 1) n = dv s (a + 1) m (n * 10 + (pk s a - 48).toNat)
  | 0, n => by simp [dv]
  | m + 1, n => by
    rw [dv, dv_shift s a m n, dv, show a + (m + 1) = a + 1 + m from by omega]

theorem digs_run (s : ByteArray) : ∀ (m k a n : Nat), allDig s a m → digs s (m + k) a n = digs s k (a + m) (dv s a m n)
  | 0, k, a, n, _ => by simp [dv]
  | m + 1, k, a, n, h => by
    have h0 := h 0 (by omega)
    simp only [Nat.add_zero] at h0
    rw [show m + 1 + k = (m + k) + 1 from by omega, digs, if_pos h0, digs_run s m k (a + 1) _ (fun i hi => by have := h (i + 1) (by omega); rwa [show a + (i + 1) = a + 1 + i from by omega] at this),
      dv_shift, show a + (m + 1) = a + 1 + m from by omega]

theorem digs_stop (s : ByteArray) (m a : Nat) (h : allDig s a m) (hm : a + m ≤ s.size) (hs : ¬ (48 ≤ pk s (a + m) ∧ pk s (a + m) ≤ 57)) : digs s (s.size + 1) a 0 = (a + m, dv s a m 0) := by
  rw [show s.size + 1 = m + (s.size - m + 1) from by omega, digs_run s m _ a 0 h, digs, if_neg hs]

/-- A point below 128 is a byte. -/
theorem pk_ascii (s : ByteArray) (a : Nat) (h0 : 0 ≤ pk s a) (h1 : pk s a < 128) : ∃ h : a < s.size, ((s[a]).toNat : Int) = pk s a ∧ Utf8.decode s a = ((s[a]).toNat, 1) := by
  have ha : a < s.size := by
    rcases Nat.lt_or_ge a s.size with h | h
    · exact h
    · rw [pk, if_pos h] at h0; omega
  refine ⟨ha, ?_⟩
  by_cases hb : (s[a]).toNat < 128
  · have hd := decode_ascii s a ha hb
    refine ⟨?_, hd⟩
    rw [pk, if_neg (by omega), hd, if_neg (by intro h; have := congrArg Prod.fst h; simp at this; omega)]
  · exfalso
    have := (decode_high s a ha (by omega)).1
    rw [pk, if_neg (by omega)] at h0 h1
    split at h1
    · rename_i h
      rw [if_pos h] at h0
      omega
    · omega

/-- The number that digits tell. -/
def dval (acc : Nat) (l : List UInt8) : Nat := l.foldl (fun n c => n * 10 + (c.toNat - 48)) acc

theorem dval_nil (acc : Nat) : dval acc [] = acc := rfl
theorem dval_cons (acc : Nat) (c : UInt8) (l : List UInt8) : dval acc (c :: l) = dval (acc * 10 + (c.toNat - 48)) l := List.foldl_cons ..
theorem dval_append (l : List UInt8) (c : UInt8) (acc : Nat) : dval acc (l ++ [c]) = dval acc l * 10 + (c.toNat - 48) := by
  unfold dval
  rw [List.foldl_append]
  rfl

theorem dval_ge (l : List UInt8) : ∀ (acc : Nat), acc ≤ dval acc l := by
  induction l with
  | nil => intro acc; rw [dval_nil]; exact Nat.le_refl _
  | cons c l ih =>
    intro acc
    rw [dval_cons]
    have h := ih (acc * 10 + (c.toNat - 48))
    revert h
    generalize dval (acc * 10 + (c.toNat - 48)) l = z
    intro h
    omega

theorem parse_digits : ∀ (l : List UInt8) (acc : Nat), (∀ c ∈ l, 48 ≤ c.toNat ∧ c.toNat ≤ 57) →
    Lib.parseUint10 acc l = .ok (dval acc l) ∨ (Lib.parseUint10 acc l = .range ∧ 1000 < dval acc l)
  | [], acc, _ => .inl (by rw [dval_nil, Lib.parseUint10])
  | c :: l, acc, h => by
    have hc := h c (by simp)
    have hg := dval_ge l (acc * 10 + (c.toNat - 48))
    have hrec := parse_digits l (acc * 10 + (c.toNat - 48)) fun x hx => h x (by simp [hx])
    simp only [Lib.parseUint10, if_pos hc, dval_cons]
    generalize dval (acc * 10 + (c.toNat - 48)) l = z at hg hrec ⊢
    by_cases h1 : 1844674407370955162 ≤ acc
    · rw [if_pos h1]
      exact .inr ⟨rfl, by omega⟩
    · rw [if_neg h1]
      by_cases h2 : 18446744073709551616 ≤ acc * 10 + (c.toNat - 48)
      · rw [if_pos h2]
        exact .inr ⟨rfl, by omega⟩
      · rw [if_neg h2]
        exact hrec

/-- strconv.Atoi of digits. -/
theorem atoi_digits (l : List UInt8) (hne : l ≠ []) (h : ∀ c ∈ l, 48 ≤ c.toNat ∧ c.toNat ≤ 57) :
    Lib.atoiAll l = .ok (dval 0 l) ∨ (Lib.atoiAll l = .range ∧ 50 < dval 0 l) := by
  cases l with
  | nil => exact absurd rfl hne
  | cons c r =>
    have hc := h c (by simp)
    rw [Lib.atoiAll_plain c r (by omega) (by omega)]
    unfold Lib.parseMag
    rw [if_neg (by simp)]
    rcases parse_digits (c :: r) 0 h with h1 | ⟨h1, h2⟩
    · rw [h1]
      simp only [Lib.signless]
      by_cases h3 : 9223372036854775808 ≤ dval 0 (c :: r)
      · rw [if_pos h3]
        exact .inr ⟨rfl, by omega⟩
      · rw [if_neg h3]
        exact .inl rfl
    · rw [h1]
      exact .inr ⟨rfl, by omega⟩

/-- The bytes of digits. -/
theorem dv_bytes (s : ByteArray) (a : Nat) : ∀ (m : Nat), allDig s a m → a + m ≤ s.size → dval 0 (s.extract a (a + m)).data.toList = dv s a m 0 ∧ ∀ c ∈ (s.extract a (a + m)).data.toList, 48 ≤ c.toNat ∧ c.toNat ≤ 57
  | 0, _, _ => by simp [dv, dval_nil]
  | m + 1, h, hm => by
    obtain ⟨h1, h2⟩ := dv_bytes s a m (fun i hi => h i (by omega)) (by omega)
    have hd := h m (by omega)
    obtain ⟨hl, hb, _⟩ := pk_ascii s (a + m) (by omega) (by omega)
    have e : (s.extract a (a + (m + 1))).data.toList = (s.extract a (a + m)).data.toList ++ [s[a + m]] := by
      have hl' : a + m < s.data.toList.length := by rw [Array.length_toList]; exact hl
      rw [ByteArray.data_extract, ByteArray.data_extract, Array.toList_extract, Array.toList_extract, List.extract_eq_take_drop, List.extract_eq_take_drop,
        show a + (m + 1) - a = m + 1 from by omega, show a + m - a = m from by omega, List.take_add_one, List.getElem?_drop, List.getElem?_eq_getElem hl']
      rfl
    rw [e, dval_append, h1, dv]
    refine ⟨by omega, fun c hc => ?_⟩
    rcases List.mem_append.1 hc with hc | hc
    · exact h2 c hc
    · simp only [List.mem_singleton] at hc
      subst hc
      omega

end Go.Proofs.Gram

namespace Go.Proofs.Gram

theorem canonFrom_mono {b b' : Int} (h : b' ≤ b) : ∀ {l : List (Int × Int)}, canonFrom b l → canonFrom b' l
  | [], _ => trivial
  | _ :: _, h' => ⟨by have := h'.1; omega, h'.2⟩

theorem canonFrom_ge : ∀ {l : List (Int × Int)} {b p : Int}, canonFrom b l → inR l p → b ≤ p ∧ p ≤ 0x10FFFF
  | [], b, p, _, h => by obtain ⟨r, hr, _⟩ := h; cases hr
  | r :: l, b, p, h, hp => by
    obtain ⟨h1, h2, h3, h4⟩ := h
    obtain ⟨q, hq, hq1, hq2⟩ := hp
    rcases List.mem_cons.1 hq with rfl | hq
    · omega
    · have := canonFrom_ge h4 ⟨q, hq, hq1, hq2⟩
      omega

theorem inR_cons (r : Int × Int) (l : List (Int × Int)) (p : Int) : inR (r :: l) p ↔ (r.1 ≤ p ∧ p ≤ r.2) ∨ inR l p := by
  simp [inR]
theorem inR_append (l l' : List (Int × Int)) (p : Int) : inR (l ++ l') p ↔ inR l p ∨ inR l' p := by
  simp only [inR, List.mem_append]
  constructor
  · rintro ⟨r, h | h, h'⟩
    · exact .inl ⟨r, h, h'⟩
    · exact .inr ⟨r, h, h'⟩
  · rintro (⟨r, h, h'⟩ | ⟨r, h, h'⟩)
    · exact ⟨r, .inl h, h'⟩
    · exact ⟨r, .inr h, h'⟩
theorem inR_nil (p : Int) : ¬ inR [] p := by simp [inR]

theorem canon_unique : ∀ {l l' : List (Int × Int)} {b b' : Int}, canonFrom b l → canonFrom b' l' → (∀ p, inR l p ↔ inR l' p) → l = l'
  | [], [], _, _, _, _, _ => rfl
  | [], r :: l, b, b', _, h', he => by
    exfalso
    exact inR_nil r.1 ((he r.1).2 ((inR_cons _ _ _).2 (.inl ⟨by omega, h'.2.1⟩)))
  | r :: l, [], b, b', h, _, he => by
    exfalso
    exact inR_nil r.1 ((he r.1).1 ((inR_cons _ _ _).2 (.inl ⟨by omega, h.2.1⟩)))
  | r :: l, r' :: l', b, b', h, h', he => by
    obtain ⟨_, h2, h3, h4⟩ := h
    obtain ⟨_, h2', h3', h4'⟩ := h'
    have hlo : ∀ p, inR (r :: l) p → r.1 ≤ p := fun p hp => by
      rcases (inR_cons _ _ _).1 hp with h | h
      · omega
      · have := canonFrom_ge h4 h; omega
    have hlo' : ∀ p, inR (r' :: l') p → r'.1 ≤ p := fun p hp => by
      rcases (inR_cons _ _ _).1 hp with h | h
      · omega
      · have := canonFrom_ge h4' h; omega
    have a1 := hlo' r.1 ((he _).1 ((inR_cons _ _ _).2 (.inl ⟨by omega, h2⟩)))
    have a2 := hlo r'.1 ((he _).2 ((inR_cons _ _ _).2 (.inl ⟨by omega, h2'⟩)))
    have e1 : r.1 = r'.1 := by omega
    have b1 : ¬ r.2 < r'.2 := fun hlt => by
      have := (he (r.2 + 1)).2 ((inR_cons _ _ _).2 (.inl ⟨by omega, by omega⟩))
      rcases (inR_cons _ _ _).1 this with h | h
      · omega
      · have := canonFrom_ge h4 h; omega
    have b2 : ¬ r'.2 < r.2 := fun hlt => by
      have := (he (r'.2 + 1)).1 ((inR_cons _ _ _).2 (.inl ⟨by omega, by omega⟩))
      rcases (inR_cons _ _ _).1 this with h | h
      · omega
      · have := canonFrom_ge h4' h; omega
    have e2 : r = r' := Prod.ext e1 (by omega)
    subst e2
    rw [canon_unique h4 h4' fun p => ?_]
    constructor
    · intro hp
      have hp' := (he p).1 ((inR_cons _ _ _).2 (.inr hp))
      rcases (inR_cons _ _ _).1 hp' with h | h
      · have := canonFrom_ge h4 hp; omega
      · exact h
    · intro hp
      have hp' := (he p).2 ((inR_cons _ _ _).2 (.inr hp))
      rcases (inR_cons _ _ _).1 hp' with h | h
      · have := canonFrom_ge h4' hp; omega
      · exact h

/-- A canonical list of a set IS the set's. -/
theorem canonOf_eq {S : Int → Prop} {l : List (Int × Int)} (h : isCanon l) (he : ∀ p, inR l p ↔ isP p ∧ S p) : canonOf S = l := by
  have hs := Classical.epsilon_spec (p := fun l => isCanon l ∧ ∀ p, inR l p ↔ isP p ∧ S p) ⟨l, h, he⟩
  exact canon_unique hs.1 h fun p => (hs.2 p).trans (he p).symm

/-- A range held to the points. -/
def clampR (r : Int × Int) : Int × Int := (max r.1 0, min r.2 1114111)
def clamps (l : List (Int × Int)) : List (Int × Int) := (l.map clampR).filter fun r => decide (r.1 ≤ r.2)

theorem clamps_mem {l : List (Int × Int)} {r : Int × Int} (h : r ∈ clamps l) : 0 ≤ r.1 ∧ r.1 ≤ r.2 ∧ r.2 ≤ 1114111 := by
  simp only [clamps, List.mem_filter, List.mem_map, decide_eq_true_eq] at h
  obtain ⟨⟨q, _, rfl⟩, h⟩ := h
  simp only [clampR] at *
  omega

theorem inR_clamps (l : List (Int × Int)) (p : Int) : inR (clamps l) p ↔ isP p ∧ inR l p := by
  constructor
  · rintro ⟨r, hr, h1, h2⟩
    have hb := clamps_mem hr
    simp only [clamps, List.mem_filter, List.mem_map, decide_eq_true_eq] at hr
    obtain ⟨⟨q, hq, rfl⟩, h⟩ := hr
    simp only [clampR] at *
    exact ⟨⟨by omega, by omega⟩, q, hq, by omega, by omega⟩
  · rintro ⟨⟨h1, h2⟩, q, hq, h3, h4⟩
    refine ⟨clampR q, ?_, ?_⟩
    · simp only [clamps, List.mem_filter, List.mem_map, decide_eq_true_eq]
      exact ⟨⟨q, hq, rfl⟩, by simp only [clampR]; omega⟩
    · simp only [clampR]
      omega

/-- A range joined to the end of a list. -/
def put (r : Int × Int) : List (Int × Int) → List (Int × Int)
  | [] => [r]
  | [q] => if r.1 ≤ q.2 + 1 then [(q.1, max q.2 r.2)] else [q, r]
  | q :: q' :: o => q :: put r (q' :: o)

theorem put_join (r q : Int × Int) (h : r.1 ≤ q.2 + 1) : ∀ o : List (Int × Int), put r (o ++ [q]) = o ++ [(q.1, max q.2 r.2)]
  | [] => by simp [put, h]
  | [a] => by simp [put, h]
  | a :: a' :: o => by
    have := put_join r q h (a' :: o)
    simp only [List.cons_append] at this ⊢
    rw [put, this]
theorem put_new (r q : Int × Int) (h : ¬ r.1 ≤ q.2 + 1) : ∀ o : List (Int × Int), put r (o ++ [q]) = o ++ [q] ++ [r]
  | [] => by simp [put, h]
  | [a] => by simp [put, h]
  | a :: a' :: o => by
    have := put_new r q h (a' :: o)
    simp only [List.cons_append] at this ⊢
    rw [put, this]

theorem put_canon {r : Int × Int} (h1 : r.1 ≤ r.2) (h2 : r.2 ≤ 0x10FFFF) : ∀ {o : List (Int × Int)} {b : Int}, canonFrom b o → b ≤ r.1 → (∀ q ∈ o, q.1 ≤ r.1) → canonFrom b (put r o)
  | [], b, _, hb, _ => ⟨hb, h1, h2, trivial⟩
  | [q], b, h, hb, hq => by
    obtain ⟨a1, a2, a3, _⟩ := h
    rw [put]
    split
    · exact ⟨a1, by simp only; omega, by simp only; omega, trivial⟩
    · exact ⟨a1, a2, a3, by omega, h1, h2, trivial⟩
  | q :: q' :: o, b, h, hb, hq => by
    obtain ⟨a1, a2, a3, a4⟩ := h
    have : q'.1 ≤ r.1 := hq q' (by simp)
    exact ⟨a1, a2, a3, put_canon h1 h2 a4 (by have := a4.1; omega) fun x hx => hq x (List.mem_cons_of_mem _ hx)⟩
theorem put_inR {r : Int × Int} (p : Int) : ∀ {o : List (Int × Int)}, (∀ q ∈ o, q.1 ≤ q.2 ∧ q.1 ≤ r.1) → r.1 ≤ r.2 → (inR (put r o) p ↔ inR o p ∨ (r.1 ≤ p ∧ p ≤ r.2))
  | [], _, _ => by simp [put, inR]
  | [q], h, hr => by
    have hq := h q (by simp)
    rw [put]
    split
    · simp [inR]
      omega
    · simp [inR]
  | q :: q' :: o, h, hr => by
    rw [put, inR_cons, put_inR p (fun x hx => h x (List.mem_cons_of_mem _ hx)) hr, inR_cons q]
    exact ⟨fun h => h.elim (fun h => .inl (.inl h)) fun h => h.elim (fun h => .inl (.inr h)) .inr, fun h => h.elim (fun h => h.elim .inl fun h => .inr (.inl h)) fun h => .inr (.inr h)⟩
theorem put_le {r : Int × Int} {m : Int} (hm : r.1 ≤ m) : ∀ {o : List (Int × Int)}, (∀ q ∈ o, q.1 ≤ m) → ∀ q ∈ put r o, q.1 ≤ m
  | [], _, q, h => by simp [put] at h; subst h; exact hm
  | [a], h, q, hq => by
    have ha := h a (by simp)
    rw [put] at hq
    split at hq
    · simp at hq; subst hq; exact ha
    · simp at hq; rcases hq with rfl | rfl
      · exact ha
      · exact hm
  | a :: a' :: o, h, q, hq => by
    rw [put] at hq
    rcases List.mem_cons.1 hq with rfl | hq
    · exact h _ (by simp)
    · exact put_le hm (fun x hx => h x (List.mem_cons_of_mem _ hx)) q hq
theorem put_length (r : Int × Int) : ∀ (o : List (Int × Int)), (put r o).length ≤ o.length + 1
  | [] => by simp [put]
  | [q] => by rw [put]; split <;> simp
  | q :: q' :: o => by
    have := put_length r (q' :: o)
    simp only [put, List.length_cons] at *
    omega

theorem canonFrom_mem : ∀ {l : List (Int × Int)} {b : Int}, canonFrom b l → ∀ q ∈ l, q.1 ≤ q.2 ∧ b ≤ q.1 ∧ q.2 ≤ 0x10FFFF
  | [], _, _, q, hq => by cases hq
  | r :: l, b, h, q, hq => by
    rcases List.mem_cons.1 hq with rfl | hq
    · exact ⟨h.2.1, h.1, h.2.2.1⟩
    · have := canonFrom_mem h.2.2.2 q hq
      have := h.2.1
      have := h.1
      omega

/-- What is gathered. -/
def puts (l : List (Int × Int)) : List (Int × Int) := l.foldl (fun o r => put r o) []
theorem puts_snoc (l : List (Int × Int)) (r : Int × Int) : puts (l ++ [r]) = put r (puts l) := by simp [puts]
theorem puts_length (l : List (Int × Int)) : (puts l).length ≤ l.length := by
  suffices h : ∀ (l o : List (Int × Int)), (l.foldl (fun o r => put r o) o).length ≤ o.length + l.length by simpa [puts] using h l []
  intro l
  induction l with
  | nil => intro o; simp
  | cons r l ih =>
    intro o
    have h1 := ih (put r o)
    have h2 := put_length r o
    simp only [List.foldl_cons, List.length_cons]
    omega

theorem puts_canon (l : List (Int × Int)) (hb : ∀ r ∈ l, 0 ≤ r.1 ∧ r.1 ≤ r.2 ∧ r.2 ≤ 1114111) (hs : l.Pairwise fun x y => x.1 ≤ y.1) : isCanon (puts l) ∧ ∀ p, inR (puts l) p ↔ inR l p := by
  suffices h : ∀ (l o : List (Int × Int)), (∀ r ∈ l, 0 ≤ r.1 ∧ r.1 ≤ r.2 ∧ r.2 ≤ 1114111) → (l.Pairwise fun x y => x.1 ≤ y.1) → isCanon o → (∀ q ∈ o, ∀ r ∈ l, q.1 ≤ r.1) →
      isCanon (l.foldl (fun o r => put r o) o) ∧ ∀ p, inR (l.foldl (fun o r => put r o) o) p ↔ inR o p ∨ inR l p by
    obtain ⟨h1, h2⟩ := h l [] hb hs trivial (by simp)
    exact ⟨h1, fun p => (h2 p).trans ⟨fun h => h.elim (fun h => (inR_nil p h).elim) id, .inr⟩⟩
  intro l
  induction l with
  | nil => intro o _ _ ho _; exact ⟨ho, fun p => ⟨.inl, fun h => h.elim id fun h => (inR_nil p h).elim⟩⟩
  | cons r l ih =>
    intro o hb hs ho hq
    have hr := hb r (by simp)
    have hqr : ∀ q ∈ o, q.1 ≤ r.1 := fun q hm => hq q hm r (by simp)
    have hp := List.pairwise_cons.1 hs
    obtain ⟨h1, h2⟩ := ih (put r o) (fun x hx => hb x (List.mem_cons_of_mem _ hx)) hp.2 (put_canon hr.2.1 hr.2.2 ho hr.1 hqr)
      (fun q hm x hx => put_le (hp.1 x hx) (fun y hy => hq y hy x (List.mem_cons_of_mem _ hx)) q hm)
    refine ⟨h1, fun p => (h2 p).trans ?_⟩
    rw [put_inR p (fun q hm => ⟨(canonFrom_mem ho q hm).1, hqr q hm⟩) hr.2.1, inR_cons]
    exact ⟨fun h => h.elim (fun h => h.elim .inl fun h => .inr (.inl h)) fun h => .inr (.inr h), fun h => h.elim (fun h => .inl (.inl h)) fun h => h.elim (fun h => .inl (.inr h)) .inr⟩

theorem inR_perm {l l' : List (Int × Int)} (h : l.Perm l') (p : Int) : inR l p ↔ inR l' p :=
  ⟨fun ⟨r, hr, h'⟩ => ⟨r, h.mem_iff.1 hr, h'⟩, fun ⟨r, hr, h'⟩ => ⟨r, h.mem_iff.2 hr, h'⟩⟩

/-- WHAT Canon MAKES. -/
theorem canon_made (l s : List (Int × Int)) (hp : s.Perm (clamps l)) (hs : s.Pairwise fun x y => x.1 ≤ y.1) : puts s = canonOf (inR l) := by
  obtain ⟨h1, h2⟩ := puts_canon s (fun r hr => clamps_mem (hp.mem_iff.1 hr)) hs
  exact (canonOf_eq h1 fun p => (h2 p).trans ((inR_perm hp p).trans (inR_clamps l p))).symm

theorem canonOf_canon (l : List (Int × Int)) : isCanon (canonOf (inR l)) ∧ (∀ p, inR (canonOf (inR l)) p ↔ isP p ∧ inR l p) ∧ (canonOf (inR l)).length ≤ l.length := by
  let s := (clamps l).mergeSort (fun x y => decide (x.1 ≤ y.1))
  have hp : s.Perm (clamps l) := List.mergeSort_perm _ _
  have hs : s.Pairwise fun x y => x.1 ≤ y.1 := by
    have := List.pairwise_mergeSort (le := fun x y : Int × Int => decide (x.1 ≤ y.1)) (by intro a b c; simp; omega) (by intro a b; simp; omega) (clamps l)
    exact this.imp (by intro a b h; simpa using h)
  have he := canon_made l s hp hs
  obtain ⟨h1, h2⟩ := puts_canon s (fun r hr => clamps_mem (hp.mem_iff.1 hr)) hs
  rw [← he]
  refine ⟨h1, fun p => (h2 p).trans ((inR_perm hp p).trans (inR_clamps l p)), ?_⟩
  have h3 := puts_length s
  have h4 := hp.length_eq
  have h5 : (clamps l).length ≤ l.length := by
    simp only [clamps]
    exact Nat.le_trans (List.length_filter_le _ _) (by simp)
  omega

/-- The points that a canonical list has not, from `f` on. -/
def others : Int → List (Int × Int) → List (Int × Int)
  | f, [] => if f ≤ 1114111 then [(f, 1114111)] else []
  | f, r :: l => if r.1 > f then (f, r.1 - 1) :: others (r.2 + 1) l else others (r.2 + 1) l

theorem others_canon : ∀ {l : List (Int × Int)} {f : Int}, canonFrom f l → 0 ≤ f → canonFrom f (others f l) ∧ ∀ p, inR (others f l) p ↔ (f ≤ p ∧ p ≤ 1114111) ∧ ¬ inR l p
  | [], f, _, _ => by
    rw [others]
    split
    · exact ⟨⟨by omega, by assumption, by simp, trivial⟩, fun p => by simp [inR]⟩
    · exact ⟨trivial, fun p => by simp [inR]; omega⟩
  | r :: l, f, h, h0 => by
    obtain ⟨h1, h2, h3, h4⟩ := h
    obtain ⟨i1, i2⟩ := others_canon (f := r.2 + 1) (canonFrom_mono (by omega) h4) (by omega)
    have hge : ∀ p, inR l p → r.2 + 2 ≤ p := fun p hp => (canonFrom_ge h4 hp).1
    rw [others]
    split
    · refine ⟨⟨by simp, by simp only; omega, by simp only; omega, ?_⟩, fun p => ?_⟩
      · simp only
        exact canonFrom_mono (by omega) i1
      · rw [inR_cons, i2, inR_cons]
        constructor
        · rintro (h | ⟨h, h'⟩)
          · simp only at h
            refine ⟨by omega, ?_⟩
            rintro (h' | h')
            · omega
            · have := hge p h'; omega
          · refine ⟨by omega, ?_⟩
            rintro (h'' | h'')
            · omega
            · exact h' h''
        · rintro ⟨h, h'⟩
          have g1 := fun g => h' (.inl g)
          have g2 := fun g => h' (.inr g)
          by_cases hp : p ≤ r.1 - 1
          · exact .inl ⟨by simp only; omega, hp⟩
          · exact .inr ⟨⟨by omega, by omega⟩, g2⟩
    · refine ⟨canonFrom_mono (by omega) i1, fun p => ?_⟩
      rw [i2, inR_cons]
      constructor
      · rintro ⟨h, h'⟩
        refine ⟨by omega, ?_⟩
        rintro (h'' | h'')
        · omega
        · exact h' h''
      · rintro ⟨h, h'⟩
        have g1 := fun g => h' (.inl g)
        have g2 := fun g => h' (.inr g)
        exact ⟨⟨by omega, by omega⟩, g2⟩

/-- WHAT Other MAKES. -/
theorem other_made (l : List (Int × Int)) : others 0 (canonOf (inR l)) = canonOf (fun p => ¬ inR l p) := by
  obtain ⟨h1, h2, _⟩ := canonOf_canon l
  obtain ⟨i1, i2⟩ := others_canon h1 (Int.le_refl 0)
  refine (canonOf_eq i1 fun p => ?_).symm
  rw [i2, h2]
  exact ⟨fun ⟨h, h'⟩ => ⟨h, fun k => h' ⟨h, k⟩⟩, fun ⟨h, h'⟩ => ⟨h, fun k => h' k.2⟩⟩

theorem others_length : ∀ (l : List (Int × Int)) (f : Int), (others f l).length ≤ l.length + 1
  | [], f => by rw [others]; split <;> simp
  | r :: l, f => by
    have := others_length l (r.2 + 1)
    rw [others]
    split <;> simp only [List.length_cons] <;> omega

end Go.Proofs.Gram

namespace Go.Proofs.Gram

theorem decodeN_le (n b0 b1 b2 b3 : Nat) (h : 1 ≤ n) : (Lib.decodeN n b0 b1 b2 b3).2 ≤ n := by
  unfold Lib.decodeN
  repeat' split
  all_goals (simp only; omega)
theorem nx_le (s : ByteArray) (a : Nat) (h : a < s.size) : a < nx s a ∧ nx s a ≤ s.size := by
  have h1 := Lib.width_pos s a
  have h2 := decodeN_le (s.size - a) (s.get! a).toNat (s.get! (a + 1)).toNat (s.get! (a + 2)).toNat (s.get! (a + 3)).toNat (by omega)
  rw [← Lib.decode_at] at h2
  unfold nx
  omega
theorem pk_bnd (s : ByteArray) (a : Nat) : pk s a ≤ 0x10FFFF ∧ -2 ≤ pk s a := by
  have := Lib.rune_le s a
  unfold pk
  split
  · omega
  · split
    · omega
    · omega
theorem pk_lt (s : ByteArray) (a : Nat) (h : pk s a ≠ -1) : a < s.size := by
  rcases Nat.lt_or_ge a s.size with h1 | h1
  · exact h1
  · exact absurd (by unfold pk; rw [if_pos h1]) h

theorem hexs_le (s : ByteArray) (frm : Nat) : ∀ (f i k n v p : Nat), hexs s frm f i k n = .ok v p → v ≤ 0x10FFFF := by
  intro f
  induction f with
  | zero => intro i k n v p h; cases h
  | succ f ih =>
    intro i k n v p h
    rw [hexs] at h
    split at h
    · split at h
      · exact ih _ _ _ _ _ h
      · split at h
        · rename_i h3
          cases h
          exact h3.2.2
        · cases h
    · cases h

theorem point_adv {s : ByteArray} {bl : List Int} {a p : Nat} {c : Int} (h : point s bl a = .ok c p) : a < p ∧ p ≤ s.size ∧ 0 ≤ c ∧ c ≤ 0x10FFFF := by
  unfold point at h
  simp only at h
  split at h
  · cases h
  rename_i h1
  have h0 : 0 ≤ pk s a := by
    have := fun hh => h1 (.inl hh)
    omega
  have ha := pk_lt s a (by omega)
  have hn := nx_le s a ha
  have hb := pk_bnd s a
  split at h
  · cases h
    exact ⟨hn.1, hn.2, h0, hb.1⟩
  have e2 : ∀ e, pk s (a + 1) = e → e ≠ -1 → a + 2 ≤ s.size := fun e he hne => by have := pk_lt s (a + 1) (by rw [he]; exact hne); omega
  split at h
  · cases h
  split at h
  · rename_i h5; cases h; exact ⟨by omega, e2 _ h5 (by omega), by omega, by omega⟩
  split at h
  · rename_i h5; cases h; exact ⟨by omega, e2 _ h5 (by omega), by omega, by omega⟩
  split at h
  · rename_i h5; cases h; exact ⟨by omega, e2 _ h5 (by omega), by omega, by omega⟩
  split at h
  · rcases numb_cases s a (a + 2) with h5 | ⟨m, v, h5, h6, h7, _, _, h8, _⟩
    · rw [h5] at h; cases h
    · have hv : v ≤ 0x10FFFF := by
        unfold numb at h7
        split at h7
        · split at h7
          · exact hexs_le _ _ _ _ _ _ _ _ h7
          · cases h7
        · cases h7
      rw [h7] at h
      cases h
      exact ⟨by omega, by omega, by omega, by omega⟩
  split at h
  · cases h
  · rename_i h9
    have hb' := pk_bnd s (a + 1)
    have h10 : 0 ≤ pk s (a + 1) := by
      have := fun hh => h9 (.inl hh)
      omega
    cases h
    exact ⟨by omega, e2 _ rfl (by omega), h10, hb'.1⟩

theorem point_er {s : ByteArray} {bl : List Int} {a p c : Nat} (h : point s bl a = .er c p) : c = 1 := by
  have hnum : ∀ c' b', numb s a (a + 2) = .er c' b' → c' = 1 := by
    intro c' b' hn
    rcases numb_cases s a (a + 2) with h5 | ⟨m, v, h5, h6, h7, _, _, h8, _⟩
    · rw [h5] at hn; cases hn; rfl
    · rw [h7] at hn; cases hn
  unfold point at h
  simp only at h
  repeat' split at h
  all_goals first
    | (cases h; done)
    | (cases h; rfl)
    | (rename_i hn; cases h; exact hnum _ _ hn)

/-- Items, one step. -/
theorem Items.bad {s : ByteArray} {a : Nat} {l : List (Int × Int)} (h : pk s a = -2) : Items s a l (.er 1 a) := ⟨1, by rw [items, if_pos h]⟩
theorem Items.stop {s : ByteArray} {a : Nat} {l : List (Int × Int)} (h : pk s a = 93) : Items s a l (.ok l (a + 1)) := ⟨1, by rw [items, if_neg (by omega), if_pos h]⟩
theorem Items.er {s : ByteArray} {a c b : Nat} {l : List (Int × Int)} (h1 : pk s a ≠ -2) (h2 : pk s a ≠ 93) (h : point s ins a = .er c b) : Items s a l (.er c b) := ⟨1, by rw [items, if_neg h1, if_neg h2, h]⟩
theorem Items.bad2 {s : ByteArray} {a b : Nat} {lo : Int} {l : List (Int × Int)} (h1 : pk s a ≠ -2) (h2 : pk s a ≠ 93) (h : point s ins a = .ok lo b) (h3 : pk s b = -2) : Items s a l (.er 1 b) := ⟨1, by rw [items, if_neg h1, if_neg h2, h]; simp only; rw [if_pos h3]⟩
theorem Items.one {s : ByteArray} {a b : Nat} {lo : Int} {l : List (Int × Int)} {r : R (List (Int × Int))} (h1 : pk s a ≠ -2) (h2 : pk s a ≠ 93) (h : point s ins a = .ok lo b) (h3 : pk s b ≠ -2) (h4 : pk s b ≠ 45) (hi : Items s b (l ++ [(lo, lo)]) r) : Items s a l r := by
  obtain ⟨n, hn⟩ := hi
  exact ⟨n + 1, by rw [items, if_neg h1, if_neg h2, h]; simp only; rw [if_neg h3, if_neg h4]; exact hn⟩
theorem Items.er2 {s : ByteArray} {a b c d : Nat} {lo : Int} {l : List (Int × Int)} (h1 : pk s a ≠ -2) (h2 : pk s a ≠ 93) (h : point s ins a = .ok lo b) (h4 : pk s b = 45) (h5 : point s ins (b + 1) = .er c d) : Items s a l (.er c d) :=
  ⟨1, by rw [items, if_neg h1, if_neg h2, h]; simp only; rw [if_neg (by omega), if_pos h4, h5]⟩
theorem Items.less {s : ByteArray} {a b d : Nat} {lo hi : Int} {l : List (Int × Int)} (h1 : pk s a ≠ -2) (h2 : pk s a ≠ 93) (h : point s ins a = .ok lo b) (h4 : pk s b = 45) (h5 : point s ins (b + 1) = .ok hi d) (h6 : hi < lo) : Items s a l (.er 1 a) :=
  ⟨1, by rw [items, if_neg h1, if_neg h2, h]; simp only; rw [if_neg (by omega), if_pos h4, h5]; simp only; rw [if_pos h6]⟩
theorem Items.two {s : ByteArray} {a b d : Nat} {lo hi : Int} {l : List (Int × Int)} {r : R (List (Int × Int))} (h1 : pk s a ≠ -2) (h2 : pk s a ≠ 93) (h : point s ins a = .ok lo b) (h4 : pk s b = 45) (h5 : point s ins (b + 1) = .ok hi d) (h6 : ¬ hi < lo) (hi' : Items s d (l ++ [(lo, hi)]) r) : Items s a l r := by
  obtain ⟨n, hn⟩ := hi'
  exact ⟨n + 1, by rw [items, if_neg h1, if_neg h2, h]; simp only; rw [if_neg (by omega), if_pos h4, h5]; simp only; rw [if_neg h6]; exact hn⟩

/-- A class, read. -/
def Cls (s : ByteArray) (a : Nat) (r : R Rx) : Prop := ∃ n, cls s n a = some r
theorem Cls.bad {s : ByteArray} {a : Nat} (h : pk s a = -2) : Cls s a (.er 1 a) := ⟨0, by rw [cls, if_pos h]⟩
theorem Cls.not_er {s : ByteArray} {a c p : Nat} (h : pk s a = 94) (hi : Items s (a + 1) [] (.er c p)) : Cls s a (.er c p) := by
  obtain ⟨n, hn⟩ := hi
  exact ⟨n, by rw [cls, if_neg (by omega), if_pos h, hn]; rfl⟩
theorem Cls.not_ok {s : ByteArray} {a p : Nat} {l : List (Int × Int)} (h : pk s a = 94) (hi : Items s (a + 1) [] (.ok l p)) : Cls s a (.ok (.mk 1 (canonOf fun p => ¬ inR l p) 0 0 []) p) := by
  obtain ⟨n, hn⟩ := hi
  exact ⟨n, by rw [cls, if_neg (by omega), if_pos h, hn]; rfl⟩
theorem Cls.in_er {s : ByteArray} {a c p : Nat} (h0 : pk s a ≠ -2) (h : pk s a ≠ 94) (hi : Items s a [] (.er c p)) : Cls s a (.er c p) := by
  obtain ⟨n, hn⟩ := hi
  exact ⟨n, by rw [cls, if_neg h0, if_neg h, hn]; rfl⟩
theorem Cls.in_ok {s : ByteArray} {a p : Nat} {l : List (Int × Int)} (h0 : pk s a ≠ -2) (h : pk s a ≠ 94) (hi : Items s a [] (.ok l p)) : Cls s a (.ok (.mk 1 (canonOf fun p => inR l p) 0 0 []) p) := by
  obtain ⟨n, hn⟩ := hi
  exact ⟨n, by rw [cls, if_neg h0, if_neg h, hn]; rfl⟩

theorem canonOf_twice (l : List (Int × Int)) : canonOf (fun p => ¬ inR (canonOf (inR l)) p) = canonOf (fun p => ¬ inR l p) := by
  obtain ⟨h1, h2, _⟩ := canonOf_canon l
  have e : canonOf (inR (canonOf (inR l))) = canonOf (inR l) := canonOf_eq h1 fun p => ⟨fun h => ⟨((h2 p).1 h).1, h⟩, fun h => h.2⟩
  rw [← other_made (canonOf (inR l)), ← other_made l, e]

end Go.Proofs.Gram

namespace Go.Proofs.Gram
variable {s : ByteArray} {a o p b c : Nat}

theorem ev_mono {n m : Nat} {t : NT} {r : R Rx} (h : ev s n t a o = some r) (hm : n ≤ m) : ev s m t a o = some r := Le.mono (f := fun n => ev s n t a o) (fun n => ev_le s n t a o) hm r h
theorem cls_mono {n m : Nat} {r : R Rx} (h : cls s n a = some r) (hm : n ≤ m) : cls s m a = some r := Le.mono (f := fun n => cls s n a) (fun n => cls_le s n a) hm r h

theorem two_fuel {t t' : NT} {a' o' : Nat} {r r' : R Rx} (h : Ev s t a o r) (h' : Ev s t' a' o' r') : ∃ n, ev s n t a o = some r ∧ ev s n t' a' o' = some r' := by
  obtain ⟨n, hn⟩ := h
  obtain ⟨m, hm⟩ := h'
  exact ⟨max n m, ev_mono hn (Nat.le_max_left _ _), ev_mono hm (Nat.le_max_right _ _)⟩

/-! any -/
theorem Ev.any_er (h : Ev s .both a o (.er c p)) : Ev s .any a o (.er c p) := by
  obtain ⟨n, hn⟩ := h
  exact ⟨n + 1, by rw [ev, hn]; rfl⟩
theorem Ev.any_ok {t : Rx} {r : R Rx} (h : Ev s .both a o (.ok t p)) (h' : Ev s (.anyL [t]) p o r) : Ev s .any a o r := by
  obtain ⟨n, h1, h2⟩ := two_fuel h h'
  exact ⟨n + 1, by rw [ev, h1]; exact h2⟩
theorem Ev.anyL_bad {l : List Rx} (h : pk s a = -2) : Ev s (.anyL l) a o (.er 1 a) := ⟨1, by rw [ev, if_pos h]⟩
theorem Ev.anyL_stop {l : List Rx} (h : pk s a ≠ -2) (h' : pk s a ≠ 124) : Ev s (.anyL l) a o (.ok (sev 3 l) a) := ⟨1, by rw [ev, if_neg h, if_neg h']⟩
theorem Ev.anyL_er {l : List Rx} (h' : pk s a = 124) (hk : Ev s .both (a + 1) o (.er c p)) : Ev s (.anyL l) a o (.er c p) := by
  obtain ⟨n, hn⟩ := hk
  exact ⟨n + 1, by rw [ev, if_neg (by omega), if_pos h', hn]; rfl⟩
theorem Ev.anyL_ok {l : List Rx} {t : Rx} {r : R Rx} (h' : pk s a = 124) (hk : Ev s .both (a + 1) o (.ok t p)) (hr : Ev s (.anyL (l ++ [t])) p o r) : Ev s (.anyL l) a o r := by
  obtain ⟨n, h1, h2⟩ := two_fuel hk hr
  exact ⟨n + 1, by rw [ev, if_neg (by omega), if_pos h', h1]; exact h2⟩

/-! both -/
theorem Ev.both_er (h : Ev s (.row []) a o (.er c p)) : Ev s .both a o (.er c p) := by
  obtain ⟨n, hn⟩ := h
  exact ⟨n + 1, by rw [ev, hn]; rfl⟩
theorem Ev.both_ok {t : Rx} {r : R Rx} (h : Ev s (.row []) a o (.ok t p)) (h' : Ev s (.bothL [t]) p o r) : Ev s .both a o r := by
  obtain ⟨n, h1, h2⟩ := two_fuel h h'
  exact ⟨n + 1, by rw [ev, h1]; exact h2⟩
theorem Ev.bothL_bad {l : List Rx} (h : pk s a = -2) : Ev s (.bothL l) a o (.er 1 a) := ⟨1, by rw [ev, if_pos h]⟩
theorem Ev.bothL_stop {l : List Rx} (h : pk s a ≠ -2) (h' : pk s a ≠ 38) : Ev s (.bothL l) a o (.ok (sev 4 l) a) := ⟨1, by rw [ev, if_neg h, if_neg h']⟩
theorem Ev.bothL_er {l : List Rx} (h' : pk s a = 38) (hk : Ev s (.row []) (a + 1) o (.er c p)) : Ev s (.bothL l) a o (.er c p) := by
  obtain ⟨n, hn⟩ := hk
  exact ⟨n + 1, by rw [ev, if_neg (by omega), if_pos h', hn]; rfl⟩
theorem Ev.bothL_ok {l : List Rx} {t : Rx} {r : R Rx} (h' : pk s a = 38) (hk : Ev s (.row []) (a + 1) o (.ok t p)) (hr : Ev s (.bothL (l ++ [t])) p o r) : Ev s (.bothL l) a o r := by
  obtain ⟨n, h1, h2⟩ := two_fuel hk hr
  exact ⟨n + 1, by rw [ev, if_neg (by omega), if_pos h', h1]; exact h2⟩

/-! row -/
theorem Ev.row_bad {l : List Rx} (h : pk s a = -2) : Ev s (.row l) a o (.er 1 a) := ⟨1, by rw [ev, if_pos h]⟩
theorem Ev.row_stop {l : List Rx} (h : pk s a = -1 ∨ pk s a = 124 ∨ pk s a = 38 ∨ pk s a = 41) : Ev s (.row l) a o (.ok (sev 2 l) a) := ⟨1, by rw [ev, if_neg (by omega), if_pos h]⟩
theorem Ev.row_er {l : List Rx} (h : pk s a ≠ -2) (h' : ¬ (pk s a = -1 ∨ pk s a = 124 ∨ pk s a = 38 ∨ pk s a = 41)) (hk : Ev s .part a o (.er c p)) : Ev s (.row l) a o (.er c p) := by
  obtain ⟨n, hn⟩ := hk
  exact ⟨n + 1, by rw [ev, if_neg h, if_neg h', hn]; rfl⟩
theorem Ev.row_ok {l : List Rx} {t : Rx} {r : R Rx} (h : pk s a ≠ -2) (h' : ¬ (pk s a = -1 ∨ pk s a = 124 ∨ pk s a = 38 ∨ pk s a = 41)) (hk : Ev s .part a o (.ok t p)) (hr : Ev s (.row (l ++ [t])) p o r) : Ev s (.row l) a o r := by
  obtain ⟨n, h1, h2⟩ := two_fuel hk hr
  exact ⟨n + 1, by rw [ev, if_neg h, if_neg h', h1]; exact h2⟩

/-! part -/
theorem Ev.part_er (h : Ev s .unit a o (.er c p)) : Ev s .part a o (.er c p) := by
  obtain ⟨n, hn⟩ := h
  exact ⟨n + 1, by rw [ev, hn]; rfl⟩
theorem Ev.part_ok {t : Rx} {r : R Rx} (h : Ev s .unit a o (.ok t p)) (h' : Ev s (.partL t) p o r) : Ev s .part a o r := by
  obtain ⟨n, h1, h2⟩ := two_fuel h h'
  exact ⟨n + 1, by rw [ev, h1]; exact h2⟩
theorem Ev.partL_bad {t : Rx} (h : pk s a = -2) : Ev s (.partL t) a o (.er 1 a) := ⟨1, by rw [ev, if_pos h]⟩
theorem Ev.partL_stop {t : Rx} (h : pk s a ≠ -2) (h1 : pk s a ≠ 42) (h2 : pk s a ≠ 43) (h3 : pk s a ≠ 63) (h4 : pk s a ≠ 123) : Ev s (.partL t) a o (.ok t a) :=
  ⟨1, by rw [ev, if_neg h, if_neg h1, if_neg h2, if_neg h3, if_neg h4]⟩
theorem Ev.partL_star {t : Rx} {r : R Rx} (h : pk s a = 42) (hr : Ev s (.partL (.mk 6 [] 0 (-1) [t])) (a + 1) o r) : Ev s (.partL t) a o r := by
  obtain ⟨n, hn⟩ := hr
  exact ⟨n + 1, by rw [ev, if_neg (by omega), if_pos h]; exact hn⟩
theorem Ev.partL_plus {t : Rx} {r : R Rx} (h : pk s a = 43) (hr : Ev s (.partL (.mk 6 [] 1 (-1) [t])) (a + 1) o r) : Ev s (.partL t) a o r := by
  obtain ⟨n, hn⟩ := hr
  exact ⟨n + 1, by rw [ev, if_neg (by omega), if_neg (by omega), if_pos h]; exact hn⟩
theorem Ev.partL_ask {t : Rx} {r : R Rx} (h : pk s a = 63) (hr : Ev s (.partL (.mk 6 [] 0 1 [t])) (a + 1) o r) : Ev s (.partL t) a o r := by
  obtain ⟨n, hn⟩ := hr
  exact ⟨n + 1, by rw [ev, if_neg (by omega), if_neg (by omega), if_neg (by omega), if_pos h]; exact hn⟩
theorem Ev.partL_er {t : Rx} (h : pk s a = 123) (hc : counted s (a + 1) = .er c p) : Ev s (.partL t) a o (.er c p) :=
  ⟨1, by rw [ev, if_neg (by omega), if_neg (by omega), if_neg (by omega), if_neg (by omega), if_pos h, hc]; rfl⟩
theorem Ev.partL_ok {t : Rx} {x : Int × Int} {r : R Rx} (h : pk s a = 123) (hc : counted s (a + 1) = .ok x p) (hr : Ev s (.partL (.mk 6 [] x.1 x.2 [t])) p o r) : Ev s (.partL t) a o r := by
  obtain ⟨n, hn⟩ := hr
  exact ⟨n + 1, by rw [ev, if_neg (by omega), if_neg (by omega), if_neg (by omega), if_neg (by omega), if_pos h, hc]; exact hn⟩

/-! unit -/
theorem Ev.unit_bad (h : pk s a = -2) : Ev s .unit a o (.er 1 a) := ⟨1, by rw [ev, if_pos h]⟩
theorem Ev.unit_deep (h : pk s a = 126 ∨ pk s a = 40 ∨ pk s a = 91) (ho : 100 ≤ o) : Ev s .unit a o (.er 2 a) := by
  refine ⟨1, ?_⟩
  rw [ev, if_neg (by omega)]
  rcases h with h | h | h
  · rw [if_pos h, if_pos ho]
  · rw [if_neg (by omega), if_pos h, if_pos ho]
  · rw [if_neg (by omega), if_neg (by omega), if_pos h, if_pos ho]
theorem Ev.not_er (h : pk s a = 126) (ho : o < 100) (hk : Ev s .unit (a + 1) (o + 1) (.er c p)) : Ev s .unit a o (.er c p) := by
  obtain ⟨n, hn⟩ := hk
  exact ⟨n + 1, by rw [ev, if_neg (by omega), if_pos h, if_neg (by omega), hn]; rfl⟩
theorem Ev.not_ok {t : Rx} (h : pk s a = 126) (ho : o < 100) (hk : Ev s .unit (a + 1) (o + 1) (.ok t p)) : Ev s .unit a o (.ok (.mk 5 [] 0 0 [t]) p) := by
  obtain ⟨n, hn⟩ := hk
  exact ⟨n + 1, by rw [ev, if_neg (by omega), if_pos h, if_neg (by omega), hn]; rfl⟩
theorem Ev.open_er (h : pk s a = 40) (ho : o < 100) (hk : Ev s .any (a + 1) (o + 1) (.er c p)) : Ev s .unit a o (.er c p) := by
  obtain ⟨n, hn⟩ := hk
  exact ⟨n + 1, by rw [ev, if_neg (by omega), if_neg (by omega), if_pos h, if_neg (by omega), hn]; rfl⟩
theorem Ev.open_no {t : Rx} (h : pk s a = 40) (ho : o < 100) (hk : Ev s .any (a + 1) (o + 1) (.ok t p)) (h' : pk s p ≠ 41) : Ev s .unit a o (.er 1 p) := by
  obtain ⟨n, hn⟩ := hk
  exact ⟨n + 1, by rw [ev, if_neg (by omega), if_neg (by omega), if_pos h, if_neg (by omega), hn]; simp only [bnd]; rw [if_neg h']⟩
theorem Ev.open_ok {t : Rx} (h : pk s a = 40) (ho : o < 100) (hk : Ev s .any (a + 1) (o + 1) (.ok t p)) (h' : pk s p = 41) : Ev s .unit a o (.ok t (p + 1)) := by
  obtain ⟨n, hn⟩ := hk
  exact ⟨n + 1, by rw [ev, if_neg (by omega), if_neg (by omega), if_pos h, if_neg (by omega), hn]; simp only [bnd]; rw [if_pos h']⟩
theorem Ev.cls {r : R Rx} (h : pk s a = 91) (ho : o < 100) (hk : Cls s (a + 1) r) : Ev s .unit a o r := by
  obtain ⟨n, hn⟩ := hk
  exact ⟨n + 1, by rw [ev, if_neg (by omega), if_neg (by omega), if_neg (by omega), if_pos h, if_neg (by omega)]; exact hn⟩
theorem Ev.dot (h : pk s a = 46) : Ev s .unit a o (.ok (.mk 1 [(0, 9), (11, 0x10FFFF)] 0 0 []) (a + 1)) :=
  ⟨1, by rw [ev, if_neg (by omega), if_neg (by omega), if_neg (by omega), if_neg (by omega), if_pos h]⟩
theorem Ev.point_er (h : pk s a ≠ -2) (h1 : pk s a ≠ 126) (h2 : pk s a ≠ 40) (h3 : pk s a ≠ 91) (h4 : pk s a ≠ 46) (hp : point s outs a = .er c p) : Ev s .unit a o (.er c p) :=
  ⟨1, by rw [ev, if_neg h, if_neg h1, if_neg h2, if_neg h3, if_neg h4, hp]; rfl⟩
theorem Ev.point_ok {x : Int} (h : pk s a ≠ -2) (h1 : pk s a ≠ 126) (h2 : pk s a ≠ 40) (h3 : pk s a ≠ 91) (h4 : pk s a ≠ 46) (hp : point s outs a = .ok x p) : Ev s .unit a o (.ok (.mk 1 [(x, x)] 0 0 []) p) :=
  ⟨1, by rw [ev, if_neg h, if_neg h1, if_neg h2, if_neg h3, if_neg h4, hp]; rfl⟩

theorem canonOf_dot : canonOf (fun p => ¬ inR [(10, 10)] p) = [(0, 9), (11, 0x10FFFF)] := by
  refine canonOf_eq ⟨by decide, by decide, by decide, by decide, by decide, by decide, trivial⟩ fun p => ?_
  simp only [inR, isP, List.mem_cons, List.not_mem_nil, or_false]
  constructor
  · rintro ⟨r, rfl | rfl, h1, h2⟩
    · simp only at h1 h2
      refine ⟨by omega, ?_⟩
      rintro ⟨r, rfl, h3, h4⟩
      simp only at h3 h4
      omega
    · simp only at h1 h2
      refine ⟨by omega, ?_⟩
      rintro ⟨r, rfl, h3, h4⟩
      simp only at h3 h4
      omega
  · rintro ⟨⟨h1, h2⟩, h3⟩
    by_cases h : p ≤ 9
    · exact ⟨_, .inl rfl, by simpa using h1, by simpa using h⟩
    · refine ⟨_, .inr rfl, ?_, by simpa using h2⟩
      simp only
      by_cases h4 : p = 10
      · exact absurd ⟨_, rfl, by simp [h4], by simp [h4]⟩ h3
      · omega

theorem count_er {n q : Nat} (h : count s a = .er n q) : n = 1 ∨ n = 2 := by
  unfold count at h
  simp only at h
  repeat' split at h
  all_goals first
    | (cases h; done)
    | (cases h; simp)

end Go.Proofs.Gram

namespace Go.Proofs.Gram

def cntOk (kind : Int) (n : Nat) : Prop := (kind = 1 ∧ n = 0) ∨ (kind = 2 ∧ n ≠ 1) ∨ ((kind = 3 ∨ kind = 4) ∧ 2 ≤ n) ∨ ((kind = 5 ∨ kind = 6) ∧ n = 1)
instance (kind : Int) (n : Nat) : Decidable (cntOk kind n) := by unfold cntOk; infer_instance

def timesOk (mn mx : Int) : Prop := 0 ≤ mn ∧ mn ≤ 50 ∧ (mx = -1 ∨ (max mn 1 ≤ mx ∧ mx ≤ 50))

mutual
def Shp : Nat → Rx → Prop
  | _, .nil => False
  | d, .mk kind set mn mx kids => d ≤ 30 ∧ cntOk kind kids.length ∧ (kind = 1 ∨ set = []) ∧ canonOf (inR set) = set ∧ (if kind = 6 then timesOk mn mx else mn = 0 ∧ mx = 0) ∧ ShpL (d + 1) kids
def ShpL : Nat → List Rx → Prop
  | _, [] => True
  | d, k :: l => Shp d k ∧ ShpL d l
end

mutual
def wt : Rx → Int
  | .nil => 0
  | .mk kind _ mn mx kids => if kind = 1 then 1 else min ((if kind = 6 then wtL kids 0 * max (max mn mx) 1 else wtL kids 0) + 1) 61
def wtL : List Rx → Int → Int
  | [], n => n
  | k :: l, n => wtL l (min (n + wt k) 61)
end

/-- Valid. -/
def OkR (t : Rx) : Prop := Shp 0 t ∧ wt t ≤ 60

mutual
def Small : Rx → Prop
  | .nil => True
  | .mk _ set _ _ kids => set.length ≤ 16777216 ∧ SmallL kids
def SmallL : List Rx → Prop
  | [] => True
  | k :: l => Small k ∧ SmallL l
end

theorem smallL_append : ∀ {l : List Rx} {t : Rx}, SmallL l → Small t → SmallL (l ++ [t])
  | [], _, _, h => ⟨h, trivial⟩
  | _ :: _, _, h, h' => ⟨h.1, smallL_append h.2 h'⟩
theorem smallL_at : ∀ {l : List Rx} {i : Nat} {t : Rx}, SmallL l → l[i]? = some t → Small t
  | [], i, t, _, h => by simp at h
  | k :: l, 0, t, h, h' => by simp at h'; subst h'; exact h.1
  | k :: l, i + 1, t, h, h' => smallL_at h.2 (by simpa using h')
theorem shpL_iff {d : Nat} : ∀ {l : List Rx}, ShpL d l ↔ ∀ (i : Nat) (t : Rx), l[i]? = some t → Shp d t
  | [] => ⟨fun _ i t h => by simp at h, fun _ => trivial⟩
  | k :: l => by
    rw [ShpL, shpL_iff]
    constructor
    · rintro ⟨h1, h2⟩ i t h
      cases i with
      | zero => simp at h; subst h; exact h1
      | succ i => exact h2 i t (by simpa using h)
    · intro h
      exact ⟨h 0 k rfl, fun i t ht => h (i + 1) t (by simpa using ht)⟩
theorem wtL_snoc : ∀ (l : List Rx) (t : Rx) (n : Int), wtL (l ++ [t]) n = min (wtL l n + wt t) 61
  | [], t, n => rfl
  | k :: l, t, n => by rw [List.cons_append, wtL, wtL, wtL_snoc l t]

theorem mul_max_nonneg {a b : Int} (ha : 0 ≤ a) : 0 ≤ a * max b 1 := Int.mul_nonneg ha (by omega)

theorem wt_bnd : ∀ (n : Nat) (t : Rx), SizeOf.sizeOf t ≤ n → 0 ≤ wt t ∧ wt t ≤ 61 := by
  intro n
  induction n with
  | zero => intro t h; cases t <;> simp at h
  | succ n ih =>
    intro t h
    cases t with
    | nil => simp [wt]
    | mk kind set mn mx kids =>
      have hL : ∀ (l : List Rx) (m : Int), SizeOf.sizeOf l ≤ n → 0 ≤ m → 0 ≤ wtL l m := by
        intro l
        induction l with
        | nil => intro m _ hm; exact hm
        | cons k l ihl =>
          intro m hs hm
          simp only [List.cons.sizeOf_spec] at hs
          have := ih k (by omega)
          rw [wtL]
          exact ihl _ (by omega) (by omega)
      simp only [Rx.mk.sizeOf_spec] at h
      have h0 := hL kids 0 (by omega) (Int.le_refl 0)
      rw [wt]
      split
      · omega
      · split
        · have := mul_max_nonneg (b := max mn mx) h0
          omega
        · omega
theorem wt_bounds (t : Rx) : 0 ≤ wt t ∧ wt t ≤ 61 := wt_bnd _ t (Nat.le_refl _)
theorem wtL_bounds : ∀ (l : List Rx) (m : Int), 0 ≤ m → m ≤ 61 → 0 ≤ wtL l m ∧ wtL l m ≤ 61
  | [], m, h, h' => ⟨h, h'⟩
  | k :: l, m, h, h' => by
    have := wt_bounds k
    rw [wtL]
    exact wtL_bounds l _ (by omega) (by omega)

theorem items_short (s : ByteArray) : ∀ (f a : Nat) (l l' : List (Int × Int)) (p : Nat), items s f a l = some (.ok l' p) → l.length ≤ a → l'.length ≤ p ∧ p ≤ s.size + 1 := by
  intro f
  induction f with
  | zero => intro a l l' p h _; cases h
  | succ f ih =>
    intro a l l' p h hl
    rw [items] at h
    split at h
    · cases h
    split at h
    · rename_i h1
      have := pk_lt s a (by omega)
      cases h
      omega
    split at h
    · cases h
    · rename_i lo b hp
      have := point_adv hp
      split at h
      · cases h
      split at h
      · split at h
        · cases h
        · rename_i hi d hd
          have := point_adv hd
          split at h
          · cases h
          · exact ih _ _ _ _ h (by simp; omega)
      · exact ih _ _ _ _ h (by simp; omega)

theorem cls_small (s : ByteArray) (hsz : s.size ≤ 65536) (f a : Nat) (t : Rx) (p : Nat) (h : cls s f a = some (.ok t p)) : Small t := by
  unfold cls at h
  split at h
  · cases h
  split at h
  · cases hi : items s f (a + 1) [] with
    | none => rw [hi] at h; cases h
    | some r =>
      rw [hi] at h
      cases r with
      | er c q => cases h
      | ok l q =>
        cases h
        have h1 := items_short s f (a + 1) [] l p hi (by simp)
        refine ⟨?_, trivial⟩
        rw [← other_made]
        have h2 := others_length (canonOf (inR l)) 0
        have h3 := (canonOf_canon l).2.2
        omega
  · cases hi : items s f a [] with
    | none => rw [hi] at h; cases h
    | some r =>
      rw [hi] at h
      cases r with
      | er c q => cases h
      | ok l q =>
        cases h
        have h1 := items_short s f a [] l p hi (by simp)
        refine ⟨?_, trivial⟩
        have h3 := (canonOf_canon l).2.2
        show (canonOf (inR l)).length ≤ _
        omega

def NTSmall : NT → Prop
  | .anyL l => SmallL l
  | .bothL l => SmallL l
  | .row l => SmallL l
  | .partL p => Small p
  | _ => True

theorem sev_small (kind : Int) : ∀ (l : List Rx), SmallL l → Small (sev kind l)
  | [], _ => ⟨by simp, trivial⟩
  | [_], h => h.1
  | _ :: _ :: _, h => ⟨by simp, h⟩

theorem bnd_some {α β : Type} {x : Option (R α)} {f : α → Nat → Option (R β)} {t : β} {p : Nat} (h : bnd x f = some (.ok t p)) : ∃ k b, x = some (.ok k b) ∧ f k b = some (.ok t p) := by
  cases x with
  | none => cases h
  | some r =>
    cases r with
    | er c a => cases h
    | ok k b => exact ⟨k, b, rfl, h⟩

theorem ev_small (s : ByteArray) (hsz : s.size ≤ 65536) : ∀ (n : Nat) (nt : NT) (a o : Nat) (t : Rx) (p : Nat), NTSmall nt → ev s n nt a o = some (.ok t p) → Small t := by
  intro n
  induction n with
  | zero => intro nt a o t p _ h; cases h
  | succ n ih =>
    intro nt a o t p hs h
    cases nt <;> rw [ev] at h
    case any =>
      obtain ⟨k, b, h1, h2⟩ := bnd_some h
      exact ih (.anyL [k]) _ _ _ _ ⟨ih .both _ _ _ _ trivial h1, trivial⟩ h2
    case anyL l =>
      split at h
      · cases h
      split at h
      · obtain ⟨k, b, h1, h2⟩ := bnd_some h
        exact ih (.anyL (l ++ [k])) _ _ _ _ (smallL_append hs (ih .both _ _ _ _ trivial h1)) h2
      · cases h; exact sev_small _ _ hs
    case both =>
      obtain ⟨k, b, h1, h2⟩ := bnd_some h
      exact ih (.bothL [k]) _ _ _ _ ⟨ih (.row []) _ _ _ _ trivial h1, trivial⟩ h2
    case bothL l =>
      split at h
      · cases h
      split at h
      · obtain ⟨k, b, h1, h2⟩ := bnd_some h
        exact ih (.bothL (l ++ [k])) _ _ _ _ (smallL_append hs (ih (.row []) _ _ _ _ trivial h1)) h2
      · cases h; exact sev_small _ _ hs
    case row l =>
      split at h
      · cases h
      split at h
      · cases h; exact sev_small _ _ hs
      · obtain ⟨k, b, h1, h2⟩ := bnd_some h
        exact ih (.row (l ++ [k])) _ _ _ _ (smallL_append hs (ih .part _ _ _ _ trivial h1)) h2
    case part =>
      obtain ⟨k, b, h1, h2⟩ := bnd_some h
      exact ih (.partL k) _ _ _ _ (ih .unit _ _ _ _ trivial h1) h2
    case partL q =>
      have hq : ∀ mn mx, NTSmall (.partL (.mk 6 [] mn mx [q])) := fun mn mx => (⟨by simp, hs, trivial⟩ : Small (.mk 6 [] mn mx [q]))
      split at h
      · cases h
      split at h
      · exact ih _ _ _ _ _ (hq _ _) h
      split at h
      · exact ih _ _ _ _ _ (hq _ _) h
      split at h
      · exact ih _ _ _ _ _ (hq _ _) h
      split at h
      · obtain ⟨k, b, h1, h2⟩ := bnd_some h
        exact ih _ _ _ _ _ (hq _ _) h2
      · cases h; exact hs
    case unit =>
      split at h
      · cases h
      split at h
      · split at h
        · cases h
        · obtain ⟨k, b, h1, h2⟩ := bnd_some h
          cases h2
          exact ⟨by simp, ih .unit _ _ _ _ trivial h1, trivial⟩
      split at h
      · split at h
        · cases h
        · obtain ⟨k, b, h1, h2⟩ := bnd_some h
          split at h2
          · cases h2; exact ih .any _ _ _ _ trivial h1
          · cases h2
      split at h
      · split at h
        · cases h
        · exact cls_small s hsz _ _ _ _ h
      split at h
      · cases h; exact ⟨by simp, trivial⟩
      · obtain ⟨k, b, h1, h2⟩ := bnd_some h
        cases h2
        exact ⟨by simp, trivial⟩

end Go.Proofs.Gram
