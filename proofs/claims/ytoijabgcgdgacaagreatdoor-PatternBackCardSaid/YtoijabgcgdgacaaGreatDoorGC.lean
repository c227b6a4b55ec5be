/-
  PLAIN LAW, part 8: the text of a pattern; read again it tells the pattern.
  PLAIN LAW, part 9: the text of a valid pattern, read, tells the pattern.
  PLAIN LAW, part 10: how long the text of a pattern is.
  PLAIN LAW, part 11: the pattern that the law of writing reads first.
-/
import Derived.Test.YtoijabgcgdgacaaGreatDoorGB
import Derived.Lib.Join
import Derived.Lib.ItoaNum
import Derived.KernelRfl
namespace Go.Proofs.Gram

def rankR : Rx → Nat
  | .nil => 4
  | .mk kind _ _ _ _ => if kind = 3 then 0 else if kind = 4 then 1 else if kind = 2 then 2 else if kind = 6 then 3 else 4

def hexd (n : Nat) : UInt8 := if n < 10 then UInt8.ofNat (48 + n) else UInt8.ofNat (87 + n)

/-- The digits to the base 16. -/
def hexT (n : Nat) : List UInt8 := if _h : n < 16 then [hexd n] else hexT (n / 16) ++ [hexd (n % 16)]
termination_by n
decreasing_by omega

def alnum (p : Int) : Prop := (48 ≤ p ∧ p ≤ 57) ∨ (65 ≤ p ∧ p ≤ 90) ∨ (97 ≤ p ∧ p ≤ 122)
instance (p : Int) : Decidable (alnum p) := by unfold alnum; infer_instance

def pointT (p : Int) : List UInt8 := if alnum p then [UInt8.ofNat p.toNat] else 92 :: 117 :: 123 :: (hexT p.toNat ++ [125])
def rangeT (r : Int × Int) : List UInt8 := pointT r.1 ++ (if r.1 < r.2 then 45 :: pointT r.2 else [])
def brackT (l : List (Int × Int)) : List UInt8 := 91 :: (l.flatMap rangeT ++ [93])
def isOne (l : List (Int × Int)) : Prop := ∃ p, l = [(p, p)]
def setT : List (Int × Int) → List UInt8
  | [r] => if r.1 = r.2 then pointT r.1 else brackT [r]
  | l => brackT l

def repT (mn mx : Int) : List UInt8 :=
  if mn = 0 ∧ mx = -1 then [42] else if mn = 1 ∧ mx = -1 then [43] else if mn = 0 ∧ mx = 1 then [63]
  else if mx = -1 then 123 :: (Lib.decDigits mn.toNat ++ [44, 125])
  else if mn = mx then 123 :: (Lib.decDigits mn.toNat ++ [125])
  else 123 :: (Lib.decDigits mn.toNat ++ 44 :: (Lib.decDigits mx.toNat ++ [125]))

mutual
def tx : Rx → List UInt8
  | .nil => []
  | .mk kind set mn mx kids =>
    if kind = 1 then setT set
    else if kind = 3 then Lib.join (txL 1 kids) [124]
    else if kind = 4 then Lib.join (txL 2 kids) [38]
    else if kind = 2 then Lib.join (txL 3 kids) []
    else if kind = 5 then 126 :: (txL 4 kids).headD []
    else (txL 3 kids).headD [] ++ repT mn mx
def txL : Nat → List Rx → List (List UInt8)
  | _, [] => []
  | least, k :: l => (if rankR k < least then 40 :: (tx k ++ [41]) else tx k) :: txL least l
end

/-- A kid's text, in brackets where it binds less strongly than asked. -/
def wi (least : Nat) (k : Rx) : List UInt8 := if rankR k < least then 40 :: (tx k ++ [41]) else tx k
theorem txL_eq (least : Nat) : ∀ l : List Rx, txL least l = l.map (wi least)
  | [] => by rw [txL]; rfl
  | k :: l => by rw [txL, txL_eq least l]; rfl

/-! Bytes at a place. -/
def At (s : ByteArray) : Nat → List UInt8 → Prop
  | _, [] => True
  | a, c :: L => (∃ h : a < s.size, s[a] = c) ∧ At s (a + 1) L

theorem At.app {s : ByteArray} : ∀ {L M : List UInt8} {a : Nat}, At s a (L ++ M) ↔ At s a L ∧ At s (a + L.length) M
  | [], M, a => by simp [At]
  | c :: L, M, a => by
    rw [List.cons_append, At, At, At.app, List.length_cons, show a + (L.length + 1) = a + 1 + L.length from by omega]
    exact and_assoc.symm

theorem At.whole (L : List UInt8) : At ⟨L.toArray⟩ 0 L := by
  suffices h : ∀ (L M : List UInt8), At ⟨(M ++ L).toArray⟩ M.length L by simpa using h L []
  intro L
  induction L with
  | nil => intro M; trivial
  | cons c L ih =>
    intro M
    refine ⟨⟨by show M.length < (M ++ c :: L).toArray.size; simp, ?_⟩, ?_⟩
    · show (M ++ c :: L).toArray[M.length]'_ = c
      simp
    · have := ih (M ++ [c])
      simpa using this

theorem At.pk {s : ByteArray} {a : Nat} {c : UInt8} {L : List UInt8} (h : At s a (c :: L)) (hc : c.toNat < 128) : pk s a = (c.toNat : Int) ∧ nx s a = a + 1 := by
  obtain ⟨⟨h1, h2⟩, _⟩ := h
  have hd := decode_ascii s a h1 (by rw [h2]; exact hc)
  rw [h2] at hd
  unfold Gram.pk nx
  rw [if_neg (by omega), hd]
  refine ⟨if_neg fun e => ?_, rfl⟩
  have := congrArg Prod.fst e
  simp only at this
  omega

/-! Digits to the base 16. -/
theorem hexd_v : ∀ n : Fin 16, hexv (hexd n.val) = some n.val := by decide
theorem hexd_at (n : Nat) (h : n < 16) : hexv (hexd n) = some n := hexd_v ⟨n, h⟩

def hv (acc : Nat) (l : List UInt8) : Nat := l.foldl (fun n c => n * 16 + (hexv c).getD 0) acc

theorem hexT_v (n : Nat) : hv 0 (hexT n) = n ∧ (∀ c ∈ hexT n, (hexv c).isSome = true) ∧ 1 ≤ (hexT n).length := by
  induction n using Nat.strongRecOn with
  | _ n ih =>
    rw [hexT]
    by_cases h : n < 16
    · rw [dif_pos h]
      simp [hv, hexd_at n h]
    · rw [dif_neg h]
      obtain ⟨h1, h2, h3⟩ := ih (n / 16) (by omega)
      refine ⟨?_, ?_, by simp⟩
      · rw [hv, List.foldl_append]
        show hv 0 (hexT (n / 16)) * 16 + (hexv (hexd (n % 16))).getD 0 = n
        rw [h1, hexd_at _ (by omega)]
        simp only [Option.getD_some]
        omega
      · intro c hc
        rcases List.mem_append.1 hc with hc | hc
        · exact h2 c hc
        · simp only [List.mem_singleton] at hc
          rw [hc, hexd_at _ (by omega)]
          rfl
theorem hexT_len : ∀ (k n : Nat), n < 16 ^ (k + 1) → (hexT n).length ≤ k + 1
  | 0, n, h => by rw [hexT, dif_pos (by simpa using h)]; simp
  | k + 1, n, h => by
    rw [hexT]
    split
    · simp
    · have := hexT_len k (n / 16) (by rw [Nat.pow_succ] at h; omega)
      simp only [List.length_append, List.length_singleton]
      omega

theorem hexs_at (s : ByteArray) (frm : Nat) : ∀ (D : List UInt8) (f i k n : Nat), At s i (D ++ [125]) → (∀ c ∈ D, (hexv c).isSome = true) → D.length < f → 1 ≤ k + D.length → hv n D ≤ 0x10FFFF →
    hexs s frm f i k n = .ok (hv n D) (i + D.length + 1)
  | [], 0, _, _, _, _, _, h, _, _ => by simp at h
  | [], f + 1, i, k, n, hA, _, _, hk, hn => by
    obtain ⟨⟨h1, h2⟩, _⟩ := hA
    rw [hexs, dif_pos h1, h2, show hexv 125 = none from by decide]
    simp only
    rw [if_pos ⟨trivial, by simpa using hk, hn⟩]
    rfl
  | c :: D, 0, _, _, _, _, _, h, _, _ => by simp at h
  | c :: D, f + 1, i, k, n, hA, hc, hf, hk, hn => by
    obtain ⟨⟨h1, h2⟩, h3⟩ := hA
    have hs := hc c (by simp)
    obtain ⟨d, hd⟩ := Option.isSome_iff_exists.1 hs
    have e : hv n (c :: D) = hv (n * 16 + d) D := by rw [hv, List.foldl_cons, hd]; rfl
    rw [e] at hn ⊢
    simp only [List.length_cons] at hf hk
    rw [hexs, dif_pos h1, h2, hd]
    simp only
    rw [hexs_at s frm D f (i + 1) (k + 1) (n * 16 + d) h3 (fun x hx => hc x (by simp [hx])) (by omega) (by omega) hn, List.length_cons, show i + (D.length + 1) + 1 = i + 1 + D.length + 1 from by omega]

/-! Points. -/
theorem ofNat_toNat (p : Int) (h0 : 0 ≤ p) (h : p < 256) : ((UInt8.ofNat p.toNat).toNat : Int) = p := by
  rw [UInt8.toNat_ofNat']
  omega

def plainB (bl : List Int) : Prop := ∀ p ∈ bl, ¬ alnum p ∧ p ≠ 92
theorem outs_plain : plainB outs := by unfold plainB; decide
theorem ins_plain : plainB ins := by unfold plainB; decide

theorem point_at {s : ByteArray} {bl : List Int} {a : Nat} {p : Int} (hbl : plainB bl) (hp : isP p) (h : At s a (pointT p)) : point s bl a = .ok p (a + (pointT p).length) := by
  obtain ⟨hp0, hp1⟩ := hp
  unfold pointT at h ⊢
  by_cases ha : alnum p
  · rw [if_pos ha] at h ⊢
    have hb : p < 128 := by unfold alnum at ha; omega
    have e := ofNat_toNat p hp0 (by omega)
    obtain ⟨h1, h2⟩ := h.pk (by omega)
    rw [e] at h1
    unfold point
    simp only
    rw [h1, if_neg (fun h3 => h3.elim (fun h => by omega) (fun h => (hbl p h).1 ha)), if_pos (by unfold alnum at ha; omega), h2]
    rfl
  · rw [if_neg ha] at h ⊢
    obtain ⟨h1, _⟩ := h.pk (by decide)
    obtain ⟨h2, _⟩ := (show At s (a + 1) (117 :: _) from h.2).pk (by decide)
    have h3 : At s (a + 2) (123 :: (hexT p.toNat ++ [125])) := h.2.2
    have h4 : At s (a + 3) (hexT p.toNat ++ [125]) := h3.2
    obtain ⟨v1, v2, v3⟩ := hexT_v p.toNat
    have hl := hexT_len 5 p.toNat (by rw [show 16 ^ (5 + 1) = 16777216 from by decide]; omega)
    have hx := hexs_at s a (hexT p.toNat) 7 (a + 3) 0 0 h4 v2 (by omega) (by omega) (by rw [v1]; omega)
    have hn : numb s a (a + 2) = .ok p.toNat (a + 3 + (hexT p.toNat).length + 1) := by
      obtain ⟨⟨g1, g2⟩, _⟩ := h3
      unfold numb
      rw [dif_pos g1, if_pos g2, hx, v1]
    unfold point
    simp only
    rw [h1, h2, if_neg (fun h5 => h5.elim (fun h => absurd h (by decide)) (fun h => (hbl _ h).2 (by decide))), if_neg (by decide), if_neg (by decide), if_neg (by decide), if_neg (by decide), if_neg (by decide), if_pos (by decide), hn]
    simp only [List.length_cons, List.length_append, List.length_nil]
    congr 1 <;> omega

theorem pointT_head (p : Int) (hp : isP p) : ∃ c L, pointT p = c :: L ∧ c.toNat < 128 ∧ (alnum (c.toNat : Int) ∨ c = 92) := by
  unfold pointT
  obtain ⟨hp0, hp1⟩ := hp
  by_cases ha : alnum p
  · rw [if_pos ha]
    have hb : p < 128 := by unfold alnum at ha; omega
    have e := ofNat_toNat p hp0 (by omega)
    exact ⟨_, _, rfl, by omega, .inl (by rw [e]; exact ha)⟩
  · rw [if_neg ha]
    exact ⟨_, _, rfl, by decide, .inr rfl⟩

/-- The first sign of a text that binds strongly. -/
def hd (c : UInt8) : Prop := c = 126 ∨ c = 40 ∨ c = 91 ∨ c = 92 ∨ alnum (c.toNat : Int)
theorem hd_pk {s : ByteArray} {a : Nat} {c : UInt8} {L : List UInt8} (h : At s a (c :: L)) (hc : hd c) :
    pk s a ≠ -2 ∧ ¬ (pk s a = -1 ∨ pk s a = 124 ∨ pk s a = 38 ∨ pk s a = 41) ∧ pk s a ≠ 42 ∧ pk s a ≠ 43 ∧ pk s a ≠ 63 ∧ pk s a ≠ 123 := by
  have h128 : c.toNat < 128 := by
    rcases hc with rfl | rfl | rfl | rfl | hc
    · decide
    · decide
    · decide
    · decide
    · unfold alnum at hc; omega
  rw [(h.pk h128).1]
  rcases hc with rfl | rfl | rfl | rfl | hc
  · decide
  · decide
  · decide
  · decide
  · unfold alnum at hc; omega

end Go.Proofs.Gram

namespace Go.Proofs.Gram

def stopAny (s : ByteArray) (p : Nat) : Prop := pk s p = -1 ∨ pk s p = 41
def stopBoth (s : ByteArray) (p : Nat) : Prop := pk s p = -1 ∨ pk s p = 41 ∨ pk s p = 124
def stopRow (s : ByteArray) (p : Nat) : Prop := pk s p = -1 ∨ pk s p = 41 ∨ pk s p = 124 ∨ pk s p = 38
theorem stopAny.both {s : ByteArray} {p : Nat} (h : stopAny s p) : stopBoth s p := by unfold stopAny at h; unfold stopBoth; omega
theorem stopBoth.row {s : ByteArray} {p : Nat} (h : stopBoth s p) : stopRow s p := by unfold stopBoth at h; unfold stopRow; omega

structure Reads (s : ByteArray) (d : Nat) (t : Rx) : Prop where
  head : 3 ≤ rankR t → ∃ c L, tx t = c :: L ∧ hd c
  unit : rankR t = 4 → ∀ a o, o + 2 * (31 - d) ≤ 100 → At s a (tx t) → Ev s .unit a o (.ok t (a + (tx t).length))
  part : 3 ≤ rankR t → ∀ a o r, o + 2 * (31 - d) ≤ 100 → At s a (tx t) → Ev s (.partL t) (a + (tx t).length) o r → Ev s .part a o r
  row : 2 ≤ rankR t → ∀ a o, o + 2 * (31 - d) ≤ 100 → At s a (tx t) → stopRow s (a + (tx t).length) → Ev s (.row []) a o (.ok t (a + (tx t).length))
  both : 1 ≤ rankR t → ∀ a o, o + 2 * (31 - d) ≤ 100 → At s a (tx t) → stopBoth s (a + (tx t).length) → Ev s .both a o (.ok t (a + (tx t).length))
  any : ∀ a o, o + 2 * (31 - d) ≤ 100 → At s a (tx t) → stopAny s (a + (tx t).length) → Ev s .any a o (.ok t (a + (tx t).length))

section
variable {s : ByteArray} {a o p d : Nat} {t : Rx}

theorem part_stop (h : stopRow s p) : Ev s (.partL t) p o (.ok t p) := by
  unfold stopRow at h
  exact Ev.partL_stop (by omega) (by omega) (by omega) (by omega) (by omega)
theorem row_of_part {c : UInt8} {L : List UInt8} (hA : At s a (c :: L)) (hc : hd c) (hp : Ev s .part a o (.ok t p)) (h : stopRow s p) : Ev s (.row []) a o (.ok t p) := by
  obtain ⟨h1, h2, _⟩ := hd_pk hA hc
  refine Ev.row_ok h1 h2 hp ?_
  exact Ev.row_stop (l := [] ++ [t]) (by unfold stopRow at h; omega)
theorem both_of_row (hr : Ev s (.row []) a o (.ok t p)) (h : stopBoth s p) : Ev s .both a o (.ok t p) := by
  refine Ev.both_ok hr ?_
  unfold stopBoth at h
  exact Ev.bothL_stop (l := [t]) (by omega) (by omega)
theorem any_of_both (hr : Ev s .both a o (.ok t p)) (h : stopAny s p) : Ev s .any a o (.ok t p) := by
  refine Ev.any_ok hr ?_
  unfold stopAny at h
  exact Ev.anyL_stop (l := [t]) (by omega) (by omega)

/-- All levels from the strongest. -/
theorem reads_of_any (h0 : ¬ 1 ≤ rankR t) (ha : ∀ a o, o + 2 * (31 - d) ≤ 100 → At s a (tx t) → stopAny s (a + (tx t).length) → Ev s .any a o (.ok t (a + (tx t).length))) : Reads s d t :=
  ⟨fun h => absurd h (by omega), fun h => absurd h (by omega), fun h => absurd h (by omega), fun h => absurd h (by omega), fun h => absurd h (by omega), ha⟩
theorem reads_of_both (h0 : ¬ 2 ≤ rankR t) (hb : ∀ a o, o + 2 * (31 - d) ≤ 100 → At s a (tx t) → stopBoth s (a + (tx t).length) → Ev s .both a o (.ok t (a + (tx t).length))) : Reads s d t :=
  ⟨fun h => absurd h (by omega), fun h => absurd h (by omega), fun h => absurd h (by omega), fun h => absurd h (by omega), fun _ => hb,
   fun a o h1 h2 h3 => any_of_both (hb a o h1 h2 h3.both) h3⟩
theorem reads_of_row (h0 : ¬ 3 ≤ rankR t) (hb : ∀ a o, o + 2 * (31 - d) ≤ 100 → At s a (tx t) → stopRow s (a + (tx t).length) → Ev s (.row []) a o (.ok t (a + (tx t).length))) : Reads s d t :=
  ⟨fun h => absurd h (by omega), fun h => absurd h (by omega), fun h => absurd h (by omega), fun _ => hb, fun _ a o h1 h2 h3 => both_of_row (hb a o h1 h2 h3.row) h3,
   fun a o h1 h2 h3 => any_of_both (both_of_row (hb a o h1 h2 h3.both.row) h3.both) h3⟩
theorem reads_of_part (h0 : rankR t ≠ 4) (hh : ∃ c L, tx t = c :: L ∧ hd c) (hb : ∀ a o r, o + 2 * (31 - d) ≤ 100 → At s a (tx t) → Ev s (.partL t) (a + (tx t).length) o r → Ev s .part a o r) : Reads s d t := by
  have hrow : ∀ a o, o + 2 * (31 - d) ≤ 100 → At s a (tx t) → stopRow s (a + (tx t).length) → Ev s (.row []) a o (.ok t (a + (tx t).length)) := by
    intro a o h1 h2 h3
    obtain ⟨c, L, h4, h5⟩ := hh
    exact row_of_part (h4 ▸ h2) h5 (hb a o _ h1 h2 (part_stop h3)) h3
  exact ⟨fun _ => hh, fun h => absurd h h0, fun _ => hb, fun _ => hrow, fun _ a o h1 h2 h3 => both_of_row (hrow a o h1 h2 h3.row) h3,
   fun a o h1 h2 h3 => any_of_both (both_of_row (hrow a o h1 h2 h3.both.row) h3.both) h3⟩
theorem reads_of_unit (hh : ∃ c L, tx t = c :: L ∧ hd c) (hb : ∀ a o, o + 2 * (31 - d) ≤ 100 → At s a (tx t) → Ev s .unit a o (.ok t (a + (tx t).length))) : Reads s d t := by
  have hpart : ∀ a o r, o + 2 * (31 - d) ≤ 100 → At s a (tx t) → Ev s (.partL t) (a + (tx t).length) o r → Ev s .part a o r := fun a o r h1 h2 h3 => Ev.part_ok (hb a o h1 h2) h3
  have hrow : ∀ a o, o + 2 * (31 - d) ≤ 100 → At s a (tx t) → stopRow s (a + (tx t).length) → Ev s (.row []) a o (.ok t (a + (tx t).length)) := by
    intro a o h1 h2 h3
    obtain ⟨c, L, h4, h5⟩ := hh
    exact row_of_part (h4 ▸ h2) h5 (hpart a o _ h1 h2 (part_stop h3)) h3
  exact ⟨fun _ => hh, fun _ => hb, fun _ => hpart, fun _ => hrow, fun _ a o h1 h2 h3 => both_of_row (hrow a o h1 h2 h3.row) h3,
   fun a o h1 h2 h3 => any_of_both (both_of_row (hrow a o h1 h2 h3.both.row) h3.both) h3⟩

/-! A kid's text. -/
theorem paren_unit (hR : Reads s d t) (ho : o + 1 + 2 * (31 - d) ≤ 100) (hA : At s a (40 :: (tx t ++ [41]))) : Ev s .unit a o (.ok t (a + (40 :: (tx t ++ [41])).length)) := by
  have h1 := (hA.pk (by decide)).1
  have h2 := At.app.1 hA.2
  have h3 := (h2.2.pk (by decide)).1
  have h4 := hR.any (a + 1) (o + 1) ho h2.1 (.inr h3)
  have := Ev.open_ok (by rw [h1]; decide) (by omega) h4 (by rw [h3]; decide)
  rw [show a + (40 :: (tx t ++ [41])).length = a + 1 + (tx t).length + 1 from by simp; omega]
  exact this

theorem wi_unit (hR : Reads s d t) (hr : rankR t ≤ 4) (ho : o + 1 + 2 * (31 - d) ≤ 100) (hA : At s a (wi 4 t)) : Ev s .unit a o (.ok t (a + (wi 4 t).length)) := by
  unfold wi at hA ⊢
  split at hA
  · rename_i h; rw [if_pos h]; exact paren_unit hR ho hA
  · rename_i h; rw [if_neg h]; exact hR.unit (by omega) a o (by omega) hA
theorem wi_part {r : R Rx} (hR : Reads s d t) (ho : o + 1 + 2 * (31 - d) ≤ 100) (hA : At s a (wi 3 t)) (h : Ev s (.partL t) (a + (wi 3 t).length) o r) : Ev s .part a o r := by
  unfold wi at hA h
  split at hA
  · rename_i hc; rw [if_pos hc] at h; exact Ev.part_ok (paren_unit hR ho hA) h
  · rename_i hc; rw [if_neg hc] at h; exact hR.part (by omega) a o r (by omega) hA h
theorem wi_head (hR : Reads s d t) : ∃ c L, wi 3 t = c :: L ∧ hd c := by
  unfold wi
  split
  · exact ⟨40, _, rfl, .inr (.inl rfl)⟩
  · exact hR.head (by omega)
theorem paren_row (hR : Reads s d t) (ho : o + 1 + 2 * (31 - d) ≤ 100) (hA : At s a (40 :: (tx t ++ [41]))) (h : stopRow s (a + (40 :: (tx t ++ [41])).length)) : Ev s (.row []) a o (.ok t (a + (40 :: (tx t ++ [41])).length)) :=
  row_of_part hA (.inr (.inl rfl)) (Ev.part_ok (paren_unit hR ho hA) (part_stop h)) h
theorem wi_row (hR : Reads s d t) (ho : o + 1 + 2 * (31 - d) ≤ 100) (hA : At s a (wi 2 t)) (h : stopRow s (a + (wi 2 t).length)) : Ev s (.row []) a o (.ok t (a + (wi 2 t).length)) := by
  unfold wi at hA h ⊢
  split at hA
  · rename_i hc; rw [if_pos hc] at h ⊢; exact paren_row hR ho hA h
  · rename_i hc; rw [if_neg hc] at h ⊢; exact hR.row (by omega) a o (by omega) hA h
theorem wi_both (hR : Reads s d t) (ho : o + 1 + 2 * (31 - d) ≤ 100) (hA : At s a (wi 1 t)) (h : stopBoth s (a + (wi 1 t).length)) : Ev s .both a o (.ok t (a + (wi 1 t).length)) := by
  unfold wi at hA h ⊢
  split at hA
  · rename_i hc; rw [if_pos hc] at h ⊢; exact both_of_row (paren_row hR ho hA h.row) h
  · rename_i hc; rw [if_neg hc] at h ⊢; exact hR.both (by omega) a o (by omega) hA h

/-! Rows of kids. -/
theorem kids_row (ho : o + 1 + 2 * (31 - d) ≤ 100) : ∀ (kids l : List Rx) (a : Nat), (∀ k ∈ kids, Reads s d k) → At s a (kids.flatMap (wi 3)) → stopRow s (a + (kids.flatMap (wi 3)).length) →
    Ev s (.row l) a o (.ok (sev 2 (l ++ kids)) (a + (kids.flatMap (wi 3)).length))
  | [], l, a, _, _, h => by
    simp only [List.flatMap_nil, List.length_nil, Nat.add_zero, List.append_nil] at h ⊢
    exact Ev.row_stop (by unfold stopRow at h; omega)
  | k :: kids, l, a, hk, hA, h => by
    rw [List.flatMap_cons] at hA h ⊢
    obtain ⟨h1, h2⟩ := At.app.1 hA
    obtain ⟨c, L, h3, h4⟩ := wi_head (hk k (by simp))
    obtain ⟨h5, h6, _⟩ := hd_pk (h3 ▸ h1) h4
    rw [List.length_append, ← Nat.add_assoc] at h ⊢
    have hnext : Ev s (.partL k) (a + (wi 3 k).length) o (.ok k (a + (wi 3 k).length)) := by
      cases kids with
      | nil => exact part_stop (by simpa using h)
      | cons k' kids =>
        obtain ⟨c', L', h7, h8⟩ := wi_head (hk k' (by simp))
        rw [List.flatMap_cons] at h2
        have h9 := (At.app.1 h2).1
        obtain ⟨g1, _, g2, g3, g4, g5⟩ := hd_pk (h7 ▸ h9) h8
        exact Ev.partL_stop g1 g2 g3 g4 g5
    have := kids_row ho kids (l ++ [k]) _ (fun x hx => hk x (by simp [hx])) h2 h
    rw [List.append_assoc, List.singleton_append] at this
    exact Ev.row_ok h5 h6 (wi_part (hk k (by simp)) ho h1 hnext) this

theorem tail_cons (sep x : List UInt8) (l : List (List UInt8)) : Lib.joinTail sep (x :: l) = sep ++ x ++ Lib.joinTail sep l := by simp [Lib.joinTail]

theorem kids_both (ho : o + 1 + 2 * (31 - d) ≤ 100) : ∀ (kids l : List Rx) (a : Nat), (∀ k ∈ kids, Reads s d k) → At s a (Lib.joinTail [38] (kids.map (wi 2))) → stopBoth s (a + (Lib.joinTail [38] (kids.map (wi 2))).length) →
    Ev s (.bothL l) a o (.ok (sev 4 (l ++ kids)) (a + (Lib.joinTail [38] (kids.map (wi 2))).length))
  | [], l, a, _, _, h => by
    simp only [List.map_nil, Lib.joinTail, List.flatten_nil, List.length_nil, Nat.add_zero, List.append_nil] at h ⊢
    unfold stopBoth at h
    exact Ev.bothL_stop (by omega) (by omega)
  | k :: kids, l, a, hk, hA, h => by
    rw [List.map_cons, tail_cons] at hA h ⊢
    obtain ⟨h1, h2⟩ := At.app.1 hA
    have hp := (h1.pk (by decide)).1
    have h1' : At s (a + 1) (wi 2 k) := h1.2
    rw [List.length_append, ← Nat.add_assoc] at h ⊢
    have el : a + (([38] : List UInt8) ++ wi 2 k).length = a + 1 + (wi 2 k).length := by simp; omega
    rw [el] at h h2 ⊢
    have hst : stopRow s (a + 1 + (wi 2 k).length) := by
      cases kids with
      | nil => exact stopBoth.row (by simpa [Lib.joinTail] using h)
      | cons k' kids =>
        rw [List.map_cons, tail_cons] at h2
        have := ((At.app.1 (At.app.1 h2).1).1.pk (by decide)).1
        exact .inr (.inr (.inr this))
    have := kids_both ho kids (l ++ [k]) _ (fun x hx => hk x (by simp [hx])) h2 h
    rw [List.append_assoc, List.singleton_append] at this
    exact Ev.bothL_ok hp (wi_row (hk k (by simp)) ho h1' hst) this

theorem kids_any (ho : o + 1 + 2 * (31 - d) ≤ 100) : ∀ (kids l : List Rx) (a : Nat), (∀ k ∈ kids, Reads s d k) → At s a (Lib.joinTail [124] (kids.map (wi 1))) → stopAny s (a + (Lib.joinTail [124] (kids.map (wi 1))).length) →
    Ev s (.anyL l) a o (.ok (sev 3 (l ++ kids)) (a + (Lib.joinTail [124] (kids.map (wi 1))).length))
  | [], l, a, _, _, h => by
    simp only [List.map_nil, Lib.joinTail, List.flatten_nil, List.length_nil, Nat.add_zero, List.append_nil] at h ⊢
    unfold stopAny at h
    exact Ev.anyL_stop (by omega) (by omega)
  | k :: kids, l, a, hk, hA, h => by
    rw [List.map_cons, tail_cons] at hA h ⊢
    obtain ⟨h1, h2⟩ := At.app.1 hA
    have hp := (h1.pk (by decide)).1
    have h1' : At s (a + 1) (wi 1 k) := h1.2
    rw [List.length_append, ← Nat.add_assoc] at h ⊢
    have el : a + (([124] : List UInt8) ++ wi 1 k).length = a + 1 + (wi 1 k).length := by simp; omega
    rw [el] at h h2 ⊢
    have hst : stopBoth s (a + 1 + (wi 1 k).length) := by
      cases kids with
      | nil => exact stopAny.both (by simpa [Lib.joinTail] using h)
      | cons k' kids =>
        rw [List.map_cons, tail_cons] at h2
        have := ((At.app.1 (At.app.1 h2).1).1.pk (by decide)).1
        exact .inr (.inr this)
    have := kids_any ho kids (l ++ [k]) _ (fun x hx => hk x (by simp [hx])) h2 h
    rw [List.append_assoc, List.singleton_append] at this
    exact Ev.anyL_ok hp (wi_both (hk k (by simp)) ho h1' hst) this

/-! Counts. -/
theorem dec_one (n : Nat) (h : n < 10) : Lib.decDigits n = [UInt8.ofNat (48 + n)] := by rw [Lib.decDigits, dif_pos h]
theorem dec_two (n : Nat) (h : ¬ n < 10) (h' : n < 100) : Lib.decDigits n = [UInt8.ofNat (48 + n / 10), UInt8.ofNat (48 + n % 10)] := by
  rw [Lib.decDigits, dif_neg h, dec_one _ (by omega)]
  rfl

theorem dig_pk {L : List UInt8} {n : Nat} (hn : n < 10) (h : At s a (UInt8.ofNat (48 + n) :: L)) : pk s a = 48 + n := by
  have e : (UInt8.ofNat (48 + n)).toNat = 48 + n := by rw [UInt8.toNat_ofNat']; omega
  have := (h.pk (by omega)).1
  rw [this, e]
  omega

theorem at_le : ∀ {L : List UInt8} {a : Nat}, At s a L → L ≠ [] → a + L.length ≤ s.size
  | [], _, _, h => absurd rfl h
  | [c], a, h, _ => by obtain ⟨⟨h1, _⟩, _⟩ := h; simp only [List.length_cons, List.length_nil]; omega
  | c :: c' :: L, a, h, _ => by
    have := at_le (L := c' :: L) h.2 (by simp)
    simp only [List.length_cons] at this ⊢
    omega

theorem count_at {n : Nat} {c : UInt8} {L : List UInt8} (hn : n ≤ 50) (hc : c = 44 ∨ c = 125) (h : At s a (Lib.decDigits n ++ c :: L)) : count s a = .ok n (a + (Lib.decDigits n).length) := by
  by_cases h10 : n < 10
  · rw [dec_one n h10] at h ⊢
    have h1 := dig_pk h10 h
    have h2 : At s (a + 1) (c :: L) := h.2
    have h3 : pk s (a + 1) = c.toNat := (h2.pk (by rcases hc with rfl | rfl <;> decide)).1
    have hsz := at_le h2 (by simp)
    simp only [List.length_cons] at hsz
    have hd := digs_stop s 1 a (fun i hi => by rw [show i = 0 from by omega, Nat.add_zero, h1]; omega) (by omega) (by rw [h3]; rcases hc with rfl | rfl <;> decide)
    have hv : dv s a 1 0 = n := by simp only [dv, Nat.add_zero, h1]; omega
    rw [hv] at hd
    unfold count
    simp only
    rw [hd]
    simp only
    rw [if_neg (by rw [h3]; rcases hc with rfl | rfl <;> decide), if_neg (by omega), if_neg (by omega)]
    rfl
  · rw [dec_two n h10 (by omega)] at h ⊢
    have h1 := dig_pk (by omega) h
    have h1' := dig_pk (by omega) (show At s (a + 1) (UInt8.ofNat (48 + n % 10) :: _) from h.2)
    have h2 : At s (a + 2) (c :: L) := h.2.2
    have h3 : pk s (a + 2) = c.toNat := (h2.pk (by rcases hc with rfl | rfl <;> decide)).1
    have hsz := at_le h2 (by simp)
    simp only [List.length_cons] at hsz
    have hd := digs_stop s 2 a (fun i hi => by
      rcases (by omega : i = 0 ∨ i = 1) with rfl | rfl
      · rw [Nat.add_zero, h1]; omega
      · rw [h1']; omega) (by omega) (by rw [h3]; rcases hc with rfl | rfl <;> decide)
    have hv : dv s a 2 0 = n := by simp only [dv, Nat.add_zero, h1, h1']; omega
    rw [hv] at hd
    unfold count
    simp only
    rw [hd]
    simp only
    rw [if_neg (by rw [h3]; rcases hc with rfl | rfl <;> decide), if_neg (by rintro (h | ⟨_, h⟩) <;> omega), if_neg (by omega)]
    rfl

/-- How often, read. -/
theorem rep_at {mn mx : Int} {r : R Rx} (hv : timesOk mn mx) (h : At s a (repT mn mx)) (hr : Ev s (.partL (.mk 6 [] mn mx [t])) (a + (repT mn mx).length) o r) : Ev s (.partL t) a o r := by
  obtain ⟨m0, m1, m2⟩ := hv
  unfold repT at h hr
  split at h
  · rename_i hc; rw [if_pos hc] at hr; obtain ⟨rfl, rfl⟩ := hc
    exact Ev.partL_star (by rw [(h.pk (by decide)).1]; rfl) hr
  rename_i c1; rw [if_neg c1] at hr
  split at h
  · rename_i hc; rw [if_pos hc] at hr; obtain ⟨rfl, rfl⟩ := hc
    exact Ev.partL_plus (by rw [(h.pk (by decide)).1]; rfl) hr
  rename_i c2; rw [if_neg c2] at hr
  split at h
  · rename_i hc; rw [if_pos hc] at hr; obtain ⟨rfl, rfl⟩ := hc
    exact Ev.partL_ask (by rw [(h.pk (by decide)).1]; rfl) hr
  rename_i c3; rw [if_neg c3] at hr
  have en : ((mn.toNat : Nat) : Int) = mn := by omega
  split at h
  · rename_i hc; rw [if_pos hc] at hr; subst hc
    have hp := (h.pk (by decide)).1
    have h2 : At s (a + 1) (Lib.decDigits mn.toNat ++ 44 :: [125]) := h.2
    have hcn := count_at (n := mn.toNat) (by omega) (.inl rfl) h2
    have h3 := (At.app.1 h2).2
    have h4 := (h3.pk (by decide)).1
    have h5 := (h3.2.pk (by decide)).1
    refine Ev.partL_ok (x := (mn, -1)) (p := a + 1 + (Lib.decDigits mn.toNat).length + 1 + 1) (by rw [hp]; rfl) ?_ ?_
    · unfold counted
      rw [hcn]
      simp only
      rw [if_neg (by rw [h4]; decide), if_pos (by rw [h4]; rfl), if_neg (by rw [h5]; decide), if_pos (by rw [h5]; rfl)]
      unfold closed
      rw [if_pos (by rw [h5]; rfl), en]
    · simp only [List.length_cons, List.length_append, List.length_nil] at hr
      rw [show a + 1 + (Lib.decDigits mn.toNat).length + 1 + 1 = a + ((Lib.decDigits mn.toNat).length + (0 + 1 + 1) + 1) from by omega]
      exact hr
  rename_i c4; rw [if_neg c4] at hr
  split at h
  · rename_i hc; rw [if_pos hc] at hr; subst hc
    have hp := (h.pk (by decide)).1
    have h2 : At s (a + 1) (Lib.decDigits mn.toNat ++ 125 :: []) := h.2
    have hcn := count_at (n := mn.toNat) (by omega) (.inr rfl) h2
    have h3 := (At.app.1 h2).2
    have h4 := (h3.pk (by decide)).1
    refine Ev.partL_ok (x := (mn, mn)) (p := a + 1 + (Lib.decDigits mn.toNat).length + 1) (by rw [hp]; rfl) ?_ ?_
    · unfold counted
      rw [hcn]
      simp only
      rw [if_neg (by rw [h4]; decide), if_neg (by rw [h4]; decide), if_neg (by omega)]
      unfold closed
      rw [if_pos (by rw [h4]; rfl), en]
    · simp only [List.length_cons, List.length_append, List.length_nil] at hr
      rw [show a + 1 + (Lib.decDigits mn.toNat).length + 1 = a + ((Lib.decDigits mn.toNat).length + (0 + 1) + 1) from by omega]
      exact hr
  · rename_i c5; rw [if_neg c5] at hr
    have em : ((mx.toNat : Nat) : Int) = mx := by omega
    have hp := (h.pk (by decide)).1
    have h2 : At s (a + 1) (Lib.decDigits mn.toNat ++ 44 :: (Lib.decDigits mx.toNat ++ 125 :: [])) := h.2
    have hcn := count_at (n := mn.toNat) (by omega) (.inl rfl) h2
    have h3 := (At.app.1 h2).2
    have h4 := (h3.pk (by decide)).1
    have h5 : At s (a + 1 + (Lib.decDigits mn.toNat).length + 1) (Lib.decDigits mx.toNat ++ 125 :: []) := h3.2
    have hcm := count_at (n := mx.toNat) (by omega) (.inr rfl) h5
    have h6 := (At.app.1 h5).2
    have h7 := (h6.pk (by decide)).1
    have hdig : pk s (a + 1 + (Lib.decDigits mn.toNat).length + 1) ≠ -2 ∧ pk s (a + 1 + (Lib.decDigits mn.toNat).length + 1) ≠ 125 := by
      by_cases h10 : mx.toNat < 10
      · rw [dec_one _ h10] at h5
        have := dig_pk h10 h5
        omega
      · rw [dec_two _ h10 (by omega)] at h5
        have := dig_pk (by omega) h5
        omega
    refine Ev.partL_ok (x := (mn, mx)) (p := a + 1 + (Lib.decDigits mn.toNat).length + 1 + (Lib.decDigits mx.toNat).length + 1) (by rw [hp]; rfl) ?_ ?_
    · unfold counted
      rw [hcn]
      simp only
      rw [if_neg (by rw [h4]; decide), if_pos (by rw [h4]; rfl), if_neg hdig.1, if_neg hdig.2, hcm]
      simp only
      rw [if_neg (by omega)]
      unfold closed
      rw [if_pos (by rw [h7]; rfl), en, em]
    · simp only [List.length_cons, List.length_append, List.length_nil] at hr
      rw [show a + 1 + (Lib.decDigits mn.toNat).length + 1 + (Lib.decDigits mx.toNat).length + 1 = a + ((Lib.decDigits mn.toNat).length + ((Lib.decDigits mx.toNat).length + (0 + 1) + 1) + 1) from by omega]
      exact hr

/-! Classes. -/
theorem items_at : ∀ (l l0 : List (Int × Int)) (a : Nat), (∀ r ∈ l, 0 ≤ r.1 ∧ r.1 ≤ r.2 ∧ r.2 ≤ 0x10FFFF) → At s a (l.flatMap rangeT ++ [93]) →
    Items s a l0 (.ok (l0 ++ l) (a + (l.flatMap rangeT ++ [93]).length))
  | [], l0, a, _, h => by
    have := (h.pk (by decide)).1
    simpa using Items.stop (l := l0) (by rw [this]; rfl)
  | (lo, hi) :: l, l0, a, hl, h => by
    obtain ⟨b1, b2, b3⟩ := hl (lo, hi) (by simp)
    simp only at b1 b2 b3
    rw [List.flatMap_cons, List.append_assoc] at h ⊢
    have hrest := fun l1 => items_at l l1 (a + (rangeT (lo, hi)).length) (fun r hr => hl r (by simp [hr])) (At.app.1 h).2
    rw [List.length_append, ← Nat.add_assoc]
    have hlo : isP lo := ⟨b1, by omega⟩
    have hhi : isP hi := ⟨by omega, b3⟩
    obtain ⟨c, L, h1, h2, h3⟩ := pointT_head lo hlo
    have hA := (At.app.1 h).1
    unfold rangeT at hA
    simp only at hA
    obtain ⟨hA1, hA2⟩ := At.app.1 hA
    have hpt := point_at ins_plain hlo hA1
    have hpk := ((h1 ▸ hA1 : At s a (c :: L)).pk h2).1
    have hn : pk s a ≠ -2 ∧ pk s a ≠ 93 := by
      rw [hpk]
      rcases h3 with h3 | rfl
      · unfold alnum at h3; omega
      · decide
    by_cases hlt : lo < hi
    · rw [if_pos hlt] at hA2
      have h45 := (hA2.pk (by decide)).1
      have hpt2 := point_at ins_plain hhi (show At s (a + (pointT lo).length + 1) (pointT hi) from hA2.2)
      have hr := hrest (l0 ++ [(lo, hi)])
      rw [List.append_assoc, List.singleton_append] at hr
      refine Items.two hn.1 hn.2 hpt (by rw [h45]; rfl) hpt2 (by omega) ?_
      have e : (rangeT (lo, hi)).length = (pointT lo).length + 1 + (pointT hi).length := by
        unfold rangeT
        simp only
        rw [if_pos hlt]
        simp only [List.length_append, List.length_cons]
        omega
      rw [e, show a + ((pointT lo).length + 1 + (pointT hi).length) = a + (pointT lo).length + 1 + (pointT hi).length from by omega] at hr ⊢
      exact hr
    · have he : hi = lo := by omega
      subst he
      have e : (rangeT (hi, hi)).length = (pointT hi).length := by
        unfold rangeT
        simp only
        rw [if_neg hlt, List.append_nil]
      have hr := hrest (l0 ++ [(hi, hi)])
      rw [List.append_assoc, List.singleton_append] at hr
      rw [e] at hr ⊢
      have hnext : pk s (a + (pointT hi).length) ≠ -2 ∧ pk s (a + (pointT hi).length) ≠ 45 := by
        have h5 := (At.app.1 h).2
        rw [e] at h5
        cases l with
        | nil =>
          have := ((show At s _ (93 :: []) from h5).pk (by decide)).1
          rw [this]; decide
        | cons q l =>
          obtain ⟨q1, q2⟩ := q
          obtain ⟨d1, d2, d3⟩ := hl (q1, q2) (by simp)
          simp only at d1 d2 d3
          obtain ⟨c', L', g1, g2, g3⟩ := pointT_head q1 ⟨d1, by omega⟩
          rw [List.flatMap_cons, List.append_assoc] at h5
          have h6 := (At.app.1 h5).1
          unfold rangeT at h6
          have h7 := (At.app.1 h6).1
          simp only at h7
          rw [((g1 ▸ h7 : At s _ (c' :: L')).pk g2).1]
          rcases g3 with g3 | rfl
          · unfold alnum at g3; omega
          · decide
      exact Items.one hn.1 hn.2 hpt hnext.1 hnext.2 hr

theorem canon_bounds {l : List (Int × Int)} (h : isCanon l) : ∀ r ∈ l, 0 ≤ r.1 ∧ r.1 ≤ r.2 ∧ r.2 ≤ 0x10FFFF := fun r hr => by
  have := canonFrom_mem h r hr
  exact ⟨this.2.1, this.1, this.2.2⟩

theorem brack_at {set : List (Int × Int)} (hc : canonOf (inR set) = set) (ho : o < 100) (h : At s a (brackT set)) : Ev s .unit a o (.ok (.mk 1 set 0 0 []) (a + (brackT set).length)) := by
  have hcan : isCanon set := hc ▸ (canonOf_canon set).1
  have h1 := (h.pk (by decide)).1
  have h2 : At s (a + 1) (set.flatMap rangeT ++ [93]) := h.2
  have hi := items_at set [] (a + 1) (canon_bounds hcan) h2
  have hn : pk s (a + 1) ≠ -2 ∧ pk s (a + 1) ≠ 94 := by
    cases set with
    | nil => have := (h2.pk (by decide)).1; rw [this]; decide
    | cons q l =>
      obtain ⟨q1, q2⟩ := q
      obtain ⟨d1, d2, d3⟩ := canon_bounds hcan (q1, q2) (by simp)
      simp only at d1 d2 d3
      obtain ⟨c', L', g1, g2, g3⟩ := pointT_head q1 ⟨d1, by omega⟩
      rw [List.flatMap_cons, List.append_assoc] at h2
      have h6 := (At.app.1 h2).1
      unfold rangeT at h6
      have h7 := (At.app.1 h6).1
      simp only at h7
      rw [((g1 ▸ h7 : At s _ (c' :: L')).pk g2).1]
      rcases g3 with g3 | rfl
      · unfold alnum at g3; omega
      · decide
  have := Ev.cls (o := o) (by rw [h1]; rfl) ho (Cls.in_ok hn.1 hn.2 hi)
  rw [List.nil_append, show canonOf (fun p => inR set p) = set from hc] at this
  rw [show a + (brackT set).length = a + 1 + (set.flatMap rangeT ++ [93]).length from by unfold brackT; simp only [List.length_cons]; omega]
  exact this

theorem set_at {set : List (Int × Int)} (hc : canonOf (inR set) = set) (ho : o < 100) (h : At s a (setT set)) : Ev s .unit a o (.ok (.mk 1 set 0 0 []) (a + (setT set).length)) := by
  unfold setT at h ⊢
  split at h
  · rename_i q
    obtain ⟨q1, q2⟩ := q
    simp only at h ⊢
    split at h
    · rename_i he
      subst he
      rw [if_pos rfl]
      have hcan : isCanon [(q1, q1)] := hc ▸ (canonOf_canon _).1
      obtain ⟨d1, d2, d3⟩ := canon_bounds hcan (q1, q1) (by simp)
      simp only at d1 d2 d3
      have hp : isP q1 := ⟨d1, d3⟩
      have hpt := point_at outs_plain hp h
      obtain ⟨c', L', g1, g2, g3⟩ := pointT_head q1 hp
      have hpk := ((g1 ▸ h : At s _ (c' :: L')).pk g2).1
      have : pk s a ≠ -2 ∧ pk s a ≠ 126 ∧ pk s a ≠ 40 ∧ pk s a ≠ 91 ∧ pk s a ≠ 46 := by
        rw [hpk]
        rcases g3 with g3 | rfl
        · unfold alnum at g3; omega
        · decide
      exact Ev.point_ok this.1 this.2.1 this.2.2.1 this.2.2.2.1 this.2.2.2.2 hpt
    · rename_i he
      rw [if_neg he]
      exact brack_at hc ho h
  · exact brack_at hc ho h

theorem set_head {set : List (Int × Int)} (hc : canonOf (inR set) = set) : ∃ c L, setT set = c :: L ∧ hd c := by
  unfold setT
  split
  · rename_i q
    obtain ⟨q1, q2⟩ := q
    simp only
    split
    · rename_i he
      subst he
      have hcan : isCanon [(q1, q1)] := hc ▸ (canonOf_canon _).1
      obtain ⟨d1, d2, d3⟩ := canon_bounds hcan (q1, q1) (by simp)
      simp only at d1 d2 d3
      obtain ⟨c', L', g1, g2, g3⟩ := pointT_head q1 ⟨d1, d3⟩
      exact ⟨c', L', g1, g3.elim (fun g3 => .inr (.inr (.inr (.inr g3)))) (fun g3 => .inr (.inr (.inr (.inl g3))))⟩
    · exact ⟨91, _, rfl, .inr (.inr (.inl rfl))⟩
  · exact ⟨91, _, rfl, .inr (.inr (.inl rfl))⟩
end

theorem sev_many (kind : Int) : ∀ (l : List Rx), l.length ≠ 1 → sev kind l = .mk kind [] 0 0 l
  | [], _ => rfl
  | [_], h => absurd rfl h
  | _ :: _ :: _, _ => rfl

theorem shp_kid {d : Nat} {l : List Rx} (h : ShpL d l) : ∀ k ∈ l, Shp d k := by
  intro k hk
  obtain ⟨i, hi⟩ := List.mem_iff_getElem?.1 hk
  exact shpL_iff.1 h i k hi

theorem join_flat (l : List Rx) : Lib.join (l.map (wi 3)) [] = l.flatMap (wi 3) := by
  cases l with
  | nil => rfl
  | cons k l => rw [List.map_cons, Lib.join_cons, List.flatMap_cons]; simp [Lib.joinTail, List.flatMap, Function.comp_def]

theorem reads_all (s : ByteArray) : ∀ (n : Nat) (t : Rx) (d : Nat), SizeOf.sizeOf t ≤ n → Shp d t → Reads s d t := by
  intro n
  induction n with
  | zero => intro t d h; cases t <;> simp at h
  | succ n ih =>
    intro t d hsz hsh
    cases t with
    | nil => simp [Shp] at hsh
    | mk kind set mn mx kids =>
      simp only [Rx.mk.sizeOf_spec] at hsz
      rw [Shp] at hsh
      obtain ⟨h30, hcnt, hset, hcan, htimes, hkids⟩ := hsh
      have hK : ∀ k ∈ kids, Reads s (d + 1) k := fun k hk => ih k (d + 1) (by have := List.sizeOf_lt_of_mem hk; omega) (shp_kid hkids k hk)
      have hbud : ∀ o, o + 2 * (31 - d) ≤ 100 → o + 1 + 2 * (31 - (d + 1)) ≤ 100 ∧ o + 1 + 1 + 2 * (31 - (d + 1)) ≤ 100 ∧ o < 100 := fun o h => by omega
      unfold cntOk at hcnt
      have hk16 : kind = 1 ∨ kind = 2 ∨ kind = 3 ∨ kind = 4 ∨ kind = 5 ∨ kind = 6 := by omega
      rcases hk16 with rfl | rfl | rfl | rfl | rfl | rfl
      · -- a set
        rw [if_neg (by decide)] at htimes
        obtain ⟨rfl, rfl⟩ := htimes
        have hk0 : kids = [] := List.eq_nil_of_length_eq_zero (by omega)
        subst hk0
        have e : tx (.mk 1 set 0 0 []) = setT set := by rw [tx, if_pos rfl]
        refine reads_of_unit (by rw [e]; exact set_head hcan) fun a o ho hA => ?_
        rw [e] at hA ⊢
        exact set_at hcan (hbud o ho).2.2 hA
      · -- a row
        have hset' : set = [] := hset.resolve_left (by decide)
        subst hset'
        rw [if_neg (by decide)] at htimes
        obtain ⟨rfl, rfl⟩ := htimes
        have e : tx (.mk 2 [] 0 0 kids) = kids.flatMap (wi 3) := by
          rw [tx, if_neg (by decide), if_neg (by decide), if_neg (by decide), if_pos rfl, txL_eq]
          exact join_flat _
        refine reads_of_row (by simp [rankR]) fun a o ho hA hst => ?_
        rw [e] at hA hst ⊢
        have := kids_row (hbud o ho).1 kids [] a hK hA hst
        rw [List.nil_append, sev_many 2 kids (by omega)] at this
        exact this
      · -- one of several
        have hset' : set = [] := hset.resolve_left (by decide)
        subst hset'
        rw [if_neg (by decide)] at htimes
        obtain ⟨rfl, rfl⟩ := htimes
        obtain ⟨k, k', l, rfl⟩ : ∃ k k' l, kids = k :: k' :: l := by
          match kids, (by omega : 2 ≤ kids.length) with
          | k :: k' :: l, _ => exact ⟨k, k', l, rfl⟩
        have e : tx (.mk 3 [] 0 0 (k :: k' :: l)) = wi 1 k ++ Lib.joinTail [124] ((k' :: l).map (wi 1)) := by
          rw [tx, if_neg (by decide), if_pos rfl, txL_eq, List.map_cons, Lib.join_cons]
        refine reads_of_any (by simp [rankR]) fun a o ho hA hst => ?_
        rw [e] at hA hst ⊢
        obtain ⟨h1, h2⟩ := At.app.1 hA
        rw [List.length_append, ← Nat.add_assoc] at hst ⊢
        have hst' : stopBoth s (a + (wi 1 k).length) := by
          rw [List.map_cons, tail_cons] at h2
          have := ((At.app.1 (At.app.1 h2).1).1.pk (by decide)).1
          exact .inr (.inr this)
        have := kids_any (hbud o ho).1 (k' :: l) [k] _ (fun x hx => hK x (List.mem_cons_of_mem _ hx)) h2 hst
        exact Ev.any_ok (wi_both (hK k (by simp)) (hbud o ho).1 h1 hst') this
      · -- all of several
        have hset' : set = [] := hset.resolve_left (by decide)
        subst hset'
        rw [if_neg (by decide)] at htimes
        obtain ⟨rfl, rfl⟩ := htimes
        obtain ⟨k, k', l, rfl⟩ : ∃ k k' l, kids = k :: k' :: l := by
          match kids, (by omega : 2 ≤ kids.length) with
          | k :: k' :: l, _ => exact ⟨k, k', l, rfl⟩
        have e : tx (.mk 4 [] 0 0 (k :: k' :: l)) = wi 2 k ++ Lib.joinTail [38] ((k' :: l).map (wi 2)) := by
          rw [tx, if_neg (by decide), if_neg (by decide), if_pos rfl, txL_eq, List.map_cons, Lib.join_cons]
        refine reads_of_both (by simp [rankR]) fun a o ho hA hst => ?_
        rw [e] at hA hst ⊢
        obtain ⟨h1, h2⟩ := At.app.1 hA
        rw [List.length_append, ← Nat.add_assoc] at hst ⊢
        have hst' : stopRow s (a + (wi 2 k).length) := by
          rw [List.map_cons, tail_cons] at h2
          have := ((At.app.1 (At.app.1 h2).1).1.pk (by decide)).1
          exact .inr (.inr (.inr this))
        have := kids_both (hbud o ho).1 (k' :: l) [k] _ (fun x hx => hK x (List.mem_cons_of_mem _ hx)) h2 hst
        exact Ev.both_ok (wi_row (hK k (by simp)) (hbud o ho).1 h1 hst') this
      · -- not
        have hset' : set = [] := hset.resolve_left (by decide)
        subst hset'
        rw [if_neg (by decide)] at htimes
        obtain ⟨rfl, rfl⟩ := htimes
        obtain ⟨k, rfl⟩ : ∃ k, kids = [k] := by
          match kids, (by omega : kids.length = 1) with
          | [k], _ => exact ⟨k, rfl⟩
        have e : tx (.mk 5 [] 0 0 [k]) = 126 :: wi 4 k := by
          rw [tx, if_neg (by decide), if_neg (by decide), if_neg (by decide), if_neg (by decide), if_pos rfl, txL_eq]
          rfl
        have hrk : rankR k ≤ 4 := by
          cases k with
          | nil => simp [rankR]
          | mk => unfold rankR; repeat' split
                  all_goals omega
        refine reads_of_unit (by rw [e]; exact ⟨126, _, rfl, .inl rfl⟩) fun a o ho hA => ?_
        rw [e] at hA ⊢
        have h1 := (hA.pk (by decide)).1
        have := Ev.not_ok (by rw [h1]; rfl) (hbud o ho).2.2 (wi_unit (o := o + 1) (hK k (by simp)) hrk (hbud o ho).2.1 (show At s (a + 1) (wi 4 k) from hA.2))
        rw [show a + (126 :: wi 4 k).length = a + 1 + (wi 4 k).length from by simp only [List.length_cons]; omega]
        exact this
      · -- so often
        have hset' : set = [] := hset.resolve_left (by decide)
        subst hset'
        rw [if_pos rfl] at htimes
        obtain ⟨k, rfl⟩ : ∃ k, kids = [k] := by
          match kids, (by omega : kids.length = 1) with
          | [k], _ => exact ⟨k, rfl⟩
        have e : tx (.mk 6 [] mn mx [k]) = wi 3 k ++ repT mn mx := by
          rw [tx, if_neg (by decide), if_neg (by decide), if_neg (by decide), if_neg (by decide), if_neg (by decide), txL_eq]
          rfl
        obtain ⟨c, L, hh1, hh2⟩ := wi_head (hK k (by simp))
        refine reads_of_part (by simp [rankR]) (by rw [e, hh1]; exact ⟨c, _, rfl, hh2⟩) fun a o r ho hA hr => ?_
        rw [e] at hA hr
        obtain ⟨h1, h2⟩ := At.app.1 hA
        rw [List.length_append, ← Nat.add_assoc] at hr
        exact wi_part (hK k (by simp)) (hbud o ho).1 h1 (rep_at htimes h2 hr)

/-- WHAT IS WRITTEN IS READ AGAIN. -/
theorem tx_read (t : Rx) (h : Shp 0 t) : Ev ⟨(tx t).toArray⟩ .any 0 0 (.ok t (tx t).length) := by
  have := (reads_all ⟨(tx t).toArray⟩ _ t 0 (Nat.le_refl _) h).any 0 0 (by decide) (At.whole _) (.inl (by unfold pk; rw [if_pos (by show (tx t).toArray.size ≤ _; simp)]))
  simpa using this

end Go.Proofs.Gram

namespace Go.Proofs.Gram

mutual
/-- How many ranges. -/
def rg : Rx → Nat
  | .nil => 0
  | .mk _ set _ _ kids => set.length + rgL kids
def rgL : List Rx → Nat
  | [] => 0
  | k :: l => rg k + rgL l
end
mutual
/-- How many patterns. -/
def nd : Rx → Nat
  | .nil => 0
  | .mk _ _ _ _ kids => 1 + ndL kids
def ndL : List Rx → Nat
  | [] => 0
  | k :: l => nd k + ndL l
end

theorem rgL_append : ∀ (l : List Rx) (k : Rx), rgL (l ++ [k]) = rgL l + rg k
  | [], k => by simp [rgL]
  | x :: l, k => by rw [List.cons_append, rgL, rgL, rgL_append l k]; omega
theorem ndL_append : ∀ (l : List Rx) (k : Rx), ndL (l ++ [k]) = ndL l + nd k
  | [], k => by simp [ndL]
  | x :: l, k => by rw [List.cons_append, ndL, ndL, ndL_append l k]; omega

theorem pointT_len (p : Int) (hp : isP p) : (pointT p).length ≤ 10 := by
  unfold pointT
  obtain ⟨h0, h1⟩ := hp
  split
  · simp
  · have := hexT_len 5 p.toNat (by rw [show 16 ^ (5 + 1) = 16777216 from by decide]; omega)
    simp only [List.length_cons, List.length_append, List.length_nil]
    omega
theorem ranges_len : ∀ (l : List (Int × Int)), (∀ r ∈ l, 0 ≤ r.1 ∧ r.1 ≤ r.2 ∧ r.2 ≤ 0x10FFFF) → (l.flatMap rangeT).length ≤ 21 * l.length
  | [], _ => by simp
  | r :: l, h => by
    obtain ⟨h1, h2, h3⟩ := h r (by simp)
    have ih := ranges_len l fun x hx => h x (by simp [hx])
    have a1 := pointT_len r.1 ⟨h1, by omega⟩
    have a2 := pointT_len r.2 ⟨by omega, h3⟩
    have hr : (rangeT r).length ≤ 21 := by
      unfold rangeT
      rw [List.length_append]
      split
      · rw [List.length_cons]; omega
      · rw [List.length_nil]; omega
    rw [List.flatMap_cons, List.length_append, List.length_cons]
    omega
theorem setT_len {l : List (Int × Int)} (hc : canonOf (inR l) = l) : (setT l).length ≤ 21 * l.length + 2 := by
  have hcan : isCanon l := hc ▸ (canonOf_canon l).1
  have hb : ∀ r ∈ l, 0 ≤ r.1 ∧ r.1 ≤ r.2 ∧ r.2 ≤ 0x10FFFF := fun r hr => by
    have := canonFrom_mem hcan r hr
    exact ⟨this.2.1, this.1, this.2.2⟩
  have h := ranges_len l hb
  have hk : (brackT l).length ≤ 21 * l.length + 2 := by
    unfold brackT
    simp only [List.length_cons, List.length_append, List.length_nil]
    omega
  unfold setT
  split
  · rename_i r
    split
    · obtain ⟨h1, h2, h3⟩ := hb r (by simp)
      have := pointT_len r.1 ⟨h1, by omega⟩
      simp only [List.length_cons, List.length_nil]
      omega
    · exact hk
  · exact hk
theorem dec_len (n : Nat) (h : n ≤ 50) : (Lib.decDigits n).length ≤ 2 := by
  rw [Lib.decDigits]
  split
  · simp
  · rw [Lib.decDigits, dif_pos (by omega)]
    simp
theorem repT_len {mn mx : Int} (h : timesOk mn mx) : (repT mn mx).length ≤ 7 := by
  obtain ⟨h0, h1, h2⟩ := h
  have a1 := dec_len mn.toNat (by omega)
  have a2 := dec_len mx.toNat (by omega)
  unfold repT
  repeat' split
  all_goals
    simp only [List.length_cons, List.length_append, List.length_nil]
    omega
theorem wi_len (n : Nat) (k : Rx) : (wi n k).length ≤ (tx k).length + 2 := by
  unfold wi
  split
  · simp
  · omega
theorem join_len (sep : List UInt8) (hs : sep.length ≤ 1) (n : Nat) : ∀ (l : List Rx) (B : Nat), (∀ k ∈ l, (tx k).length + 3 ≤ 21 * rg k + 13 * nd k) → (Lib.joinTail sep (l.map (wi n))).length ≤ 21 * rgL l + 13 * ndL l
  | [], _, _ => by simp [Lib.joinTail]
  | k :: l, B, h => by
    have ih := join_len sep hs n l B fun x hx => h x (by simp [hx])
    have hk := h k (by simp)
    have hw := wi_len n k
    rw [rgL, ndL]
    simp only [Lib.joinTail, List.map_cons, List.flatten_cons, List.length_append] at ih ⊢
    omega
theorem join_len' (sep : List UInt8) (hs : sep.length ≤ 1) (n : Nat) (l : List Rx) (h : ∀ k ∈ l, (tx k).length + 3 ≤ 21 * rg k + 13 * nd k) : (Lib.join (txL n l) sep).length ≤ 21 * rgL l + 13 * ndL l := by
  rw [txL_eq]
  cases l with
  | nil => rw [List.map_nil, Lib.join_nil]; simp
  | cons k l =>
    have := join_len sep hs n l 0 fun x hx => h x (by simp [hx])
    have hk := h k (by simp)
    have hw := wi_len n k
    rw [List.map_cons, Lib.join_cons, rgL, ndL, List.length_append]
    omega
theorem head_len (n : Nat) (l : List Rx) (h : ∀ k ∈ l, (tx k).length + 3 ≤ 21 * rg k + 13 * nd k) : ((txL n l).headD []).length ≤ 21 * rgL l + 13 * ndL l := by
  rw [txL_eq]
  cases l with
  | nil => simp
  | cons k l =>
    have hk := h k (by simp)
    have hw := wi_len n k
    rw [List.map_cons, rgL, ndL, List.headD_cons]
    omega

theorem tx_len : ∀ (n : Nat) (t : Rx) (d : Nat), SizeOf.sizeOf t ≤ n → Shp d t → (tx t).length + 3 ≤ 21 * rg t + 13 * nd t := by
  intro n
  induction n with
  | zero => intro t d h; cases t <;> simp at h
  | succ n ih =>
    intro t d hsz hsh
    cases t with
    | nil => simp [Shp] at hsh
    | mk kind set mn mx kids =>
      simp only [Rx.mk.sizeOf_spec] at hsz
      rw [Shp] at hsh
      obtain ⟨h30, hcnt, hset, hcan, htimes, hkids⟩ := hsh
      have hK : ∀ k ∈ kids, (tx k).length + 3 ≤ 21 * rg k + 13 * nd k := fun k hk => ih k (d + 1) (by have := List.sizeOf_lt_of_mem hk; omega) (by
        obtain ⟨i, hi⟩ := List.mem_iff_getElem?.1 hk
        exact shpL_iff.1 hkids i k hi)
      rw [tx, rg, nd]
      split
      · have := setT_len hcan; omega
      split
      · have := join_len' [124] (by simp) 1 kids hK; omega
      split
      · have := join_len' [38] (by simp) 2 kids hK; omega
      split
      · have := join_len' [] (by simp) 3 kids hK; omega
      split
      · have := head_len 4 kids hK
        rw [List.length_cons]
        omega
      · rename_i h1 h3 h4 h2 h5
        have h6 : kind = 6 := by unfold cntOk at hcnt; omega
        rw [if_pos h6] at htimes
        have := head_len 3 kids hK
        have hr := repT_len htimes
        rw [List.length_append]
        omega

/-! How many patterns: at most its weight. -/
theorem wtL_ge : ∀ (l : List Rx) (m : Int), m ≤ 61 → m ≤ wtL l m
  | [], m, _ => Int.le_refl m
  | k :: l, m, h => by
    have hk := wt_bounds k
    have := wtL_ge l (min (m + wt k) 61) (by omega)
    rw [wtL]
    omega
theorem nd_wt : ∀ (n : Nat) (t : Rx), SizeOf.sizeOf t ≤ n → ∀ d, Shp d t → wt t ≤ 60 → (nd t : Int) ≤ wt t := by
  intro n
  induction n with
  | zero => intro t h; cases t <;> simp at h
  | succ n ih =>
    intro t hsz d hsh hw
    cases t with
    | nil => simp [Shp] at hsh
    | mk kind set mn mx kids =>
      simp only [Rx.mk.sizeOf_spec] at hsz
      rw [Shp] at hsh
      obtain ⟨h30, hcnt, hset, hcan, htimes, hkids⟩ := hsh
      have hL : ∀ (l : List Rx) (m : Int), SizeOf.sizeOf l ≤ n → 0 ≤ m → m ≤ 61 → (∀ k ∈ l, Shp (d + 1) k) → wtL l m ≤ 60 → (ndL l : Int) + m ≤ wtL l m := by
        intro l
        induction l with
        | nil => intro m _ _ _ _ _; rw [ndL, wtL]; simp
        | cons k l ihl =>
          intro m hs h0 hm hsk hl
          simp only [List.cons.sizeOf_spec] at hs
          rw [wtL] at hl ⊢
          have hkb := wt_bounds k
          have hg := wtL_ge l (min (m + wt k) 61) (by omega)
          have hk := ih k (by omega) (d + 1) (hsk k (by simp)) (by omega)
          have := ihl (min (m + wt k) 61) (by omega) (by omega) (by omega) (fun x hx => hsk x (by simp [hx])) hl
          rw [ndL]
          omega
      have hb := wtL_bounds kids 0 (by omega) (by omega)
      have hsk : ∀ k ∈ kids, Shp (d + 1) k := fun k hk => by
        obtain ⟨i, hi⟩ := List.mem_iff_getElem?.1 hk
        exact shpL_iff.1 hkids i k hi
      rw [wt] at hw ⊢
      rw [nd]
      by_cases h1 : kind = 1
      · rw [if_pos h1]
        have : kids = [] := List.eq_nil_of_length_eq_zero (by unfold cntOk at hcnt; omega)
        subst this
        simp [ndL]
      · rw [if_neg h1] at hw ⊢
        by_cases h6 : kind = 6
        · rw [if_pos h6] at hw ⊢
          have hm : wtL kids 0 * 1 ≤ wtL kids 0 * max (max mn mx) 1 := Int.mul_le_mul_of_nonneg_left (by omega) hb.1
          have := hL kids 0 (by omega) (by omega) (by omega) hsk (by omega)
          omega
        · rw [if_neg h6] at hw ⊢
          have := hL kids 0 (by omega) (by omega) (by omega) hsk (by omega)
          omega

/-! How many ranges: at most one for each byte and each pattern. -/
theorem items_len (s : ByteArray) : ∀ (f a : Nat) (l l' : List (Int × Int)) (p : Nat), items s f a l = some (.ok l' p) → l'.length + a + 1 ≤ l.length + p := by
  intro f
  induction f with
  | zero => intro a l l' p h; cases h
  | succ f ih =>
    intro a l l' p h
    rw [items] at h
    split at h
    · cases h
    split at h
    · cases h
      omega
    split at h
    · cases h
    · rename_i lo b hp
      have := point_adv hp
      split at h
      · cases h
      split at h
      · split at h
        · cases h
        · rename_i hi d hd
          have := point_adv hd
          split at h
          · cases h
          · have := ih _ _ _ _ h
            simp only [List.length_append, List.length_singleton] at this
            omega
      · have := ih _ _ _ _ h
        simp only [List.length_append, List.length_singleton] at this
        omega
theorem cls_len (s : ByteArray) (f a : Nat) (t : Rx) (p : Nat) (h : cls s f a = some (.ok t p)) : ∃ l, t = .mk 1 l 0 0 [] ∧ l.length + a ≤ p := by
  unfold cls at h
  split at h
  · cases h
  split at h
  · cases hi : items s f (a + 1) [] with
    | none => rw [hi] at h; cases h
    | some r =>
      rw [hi] at h
      cases r with
      | er c q => cases h
      | ok l q =>
        cases h
        have h1 := items_len s f (a + 1) [] l p hi
        refine ⟨_, rfl, ?_⟩
        rw [← other_made]
        have h2 := others_length (canonOf (inR l)) 0
        have h3 := (canonOf_canon l).2.2
        simp only [List.length_nil] at h1
        omega
  · cases hi : items s f a [] with
    | none => rw [hi] at h; cases h
    | some r =>
      rw [hi] at h
      cases r with
      | er c q => cases h
      | ok l q =>
        cases h
        have h1 := items_len s f a [] l p hi
        refine ⟨_, rfl, ?_⟩
        have h3 := (canonOf_canon l).2.2
        show (canonOf (inR l)).length + a ≤ p
        simp only [List.length_nil] at h1
        omega
theorem digs_ge (s : ByteArray) : ∀ (f a n : Nat), a ≤ (digs s f a n).1
  | 0, a, n => Nat.le_refl a
  | f + 1, a, n => by
    rw [digs]
    split
    · have := digs_ge s f (a + 1) (n * 10 + (pk s a - 48).toNat); omega
    · exact Nat.le_refl a
theorem count_adv {s : ByteArray} {a n p : Nat} (h : count s a = .ok n p) : a ≤ p := by
  have := digs_ge s (s.size + 1) a 0
  unfold count at h
  simp only at h
  repeat' split at h
  all_goals first
    | (cases h; done)
    | (cases h; exact this)
theorem counted_adv {s : ByteArray} {a p : Nat} {x : Int × Int} (h : counted s a = .ok x p) : a ≤ p := by
  have hc : ∀ lo hi q, closed s lo hi q = .ok x p → q ≤ p := by
    intro lo hi q hq
    unfold closed at hq
    split at hq
    · cases hq; omega
    · cases hq
  unfold counted at h
  split at h
  · cases h
  rename_i n b h1
  have := count_adv h1
  split at h
  · cases h
  split at h
  · split at h
    · cases h
    split at h
    · have := hc _ _ _ h; omega
    split at h
    · cases h
    rename_i m d h2
    have := count_adv h2
    split at h
    · cases h
    · have := hc _ _ _ h; omega
  split at h
  · cases h
  · have := hc _ _ _ h; omega

def rgN : NT → Nat
  | .anyL l => rgL l
  | .bothL l => rgL l
  | .row l => rgL l
  | .partL p => rg p
  | _ => 0
def ndN : NT → Nat
  | .anyL l => ndL l
  | .bothL l => ndL l
  | .row l => ndL l
  | .partL p => nd p
  | _ => 0

theorem sev_rg (kind : Int) : ∀ (l : List Rx), rg (sev kind l) = rgL l ∧ ndL l ≤ nd (sev kind l)
  | [] => by simp [sev, rg, rgL, ndL]
  | [k] => by simp [sev, rgL, ndL]
  | k :: k' :: l => by simp only [sev, rg, nd, List.length_nil]; omega

theorem ev_len (s : ByteArray) : ∀ (n : Nat) (nt : NT) (a o : Nat) (t : Rx) (p : Nat), ev s n nt a o = some (.ok t p) → rg t + ndN nt + a ≤ rgN nt + nd t + p := by
  intro n
  induction n with
  | zero => intro nt a o t p h; cases h
  | succ n ih =>
    intro nt a o t p h
    cases nt <;> rw [ev] at h <;> simp only [rgN, ndN]
    case any =>
      obtain ⟨k, b, h1, h2⟩ := bnd_some h
      have i1 := ih _ _ _ _ _ h1
      have i2 := ih _ _ _ _ _ h2
      simp only [rgN, ndN, rgL, ndL] at i1 i2
      omega
    case anyL l =>
      split at h
      · cases h
      split at h
      · obtain ⟨k, b, h1, h2⟩ := bnd_some h
        have i1 := ih _ _ _ _ _ h1
        have i2 := ih _ _ _ _ _ h2
        simp only [rgN, ndN, rgL_append, ndL_append] at i1 i2
        omega
      · cases h
        have := sev_rg 3 l
        omega
    case both =>
      obtain ⟨k, b, h1, h2⟩ := bnd_some h
      have i1 := ih _ _ _ _ _ h1
      have i2 := ih _ _ _ _ _ h2
      simp only [rgN, ndN, rgL, ndL] at i1 i2
      omega
    case bothL l =>
      split at h
      · cases h
      split at h
      · obtain ⟨k, b, h1, h2⟩ := bnd_some h
        have i1 := ih _ _ _ _ _ h1
        have i2 := ih _ _ _ _ _ h2
        simp only [rgN, ndN, rgL, ndL, rgL_append, ndL_append] at i1 i2
        omega
      · cases h
        have := sev_rg 4 l
        omega
    case row l =>
      split at h
      · cases h
      split at h
      · cases h
        have := sev_rg 2 l
        omega
      · obtain ⟨k, b, h1, h2⟩ := bnd_some h
        have i1 := ih _ _ _ _ _ h1
        have i2 := ih _ _ _ _ _ h2
        simp only [rgN, ndN, rgL_append, ndL_append] at i1 i2
        omega
    case part =>
      obtain ⟨k, b, h1, h2⟩ := bnd_some h
      have i1 := ih _ _ _ _ _ h1
      have i2 := ih _ _ _ _ _ h2
      simp only [rgN, ndN] at i1 i2
      omega
    case partL q =>
      have hq : ∀ mn mx a', ev s n (.partL (.mk 6 [] mn mx [q])) a' o = some (.ok t p) → a ≤ a' → rg t + nd q + a ≤ rg q + nd t + p := by
        intro mn mx a' h1 h2
        have := ih _ _ _ _ _ h1
        simp only [rgN, ndN, rg, nd, rgL, ndL, List.length_nil] at this
        omega
      split at h
      · cases h
      split at h
      · exact hq _ _ _ h (by omega)
      split at h
      · exact hq _ _ _ h (by omega)
      split at h
      · exact hq _ _ _ h (by omega)
      split at h
      · obtain ⟨x, b, h1, h2⟩ := bnd_some h
        have := counted_adv (Option.some.inj h1)
        have := hq _ _ _ h2 (by omega)
        exact this
      · cases h; omega
    case unit =>
      split at h
      · cases h
      split at h
      · split at h
        · cases h
        · obtain ⟨k, b, h1, h2⟩ := bnd_some h
          cases h2
          have := ih _ _ _ _ _ h1
          simp only [rgN, ndN, rg, nd, rgL, ndL, List.length_nil] at this ⊢
          omega
      split at h
      · split at h
        · cases h
        · obtain ⟨k, b, h1, h2⟩ := bnd_some h
          split at h2
          · cases h2
            have := ih _ _ _ _ _ h1
            simp only [rgN, ndN] at this
            omega
          · cases h2
      split at h
      · split at h
        · cases h
        · obtain ⟨l, rfl, hl⟩ := cls_len s _ _ _ _ h
          simp only [rg, nd, rgL, ndL]
          omega
      split at h
      · cases h
        simp only [rg, nd, rgL, ndL, List.length_cons, List.length_nil]
        omega
      · obtain ⟨k, b, h1, h2⟩ := bnd_some h
        cases h2
        have := point_adv (Option.some.inj h1)
        simp only [rg, nd, rgL, ndL, List.length_cons, List.length_nil]
        omega

/-- What is written of what was read of a short text is not long. -/
theorem written_short {s : ByteArray} {t : Rx} {p : Nat} (hs : s.size ≤ 2000) (h : Ev s .any 0 0 (.ok t p)) (hp : p ≤ s.size) (hok : OkR t) : (tx t).length ≤ 65536 := by
  obtain ⟨n, hn⟩ := h
  have h1 := ev_len s n _ _ _ _ _ hn
  simp only [rgN, ndN] at h1
  have h2 := nd_wt _ t (Nat.le_refl _) 0 hok.1 hok.2
  have h3 := tx_len _ t 0 (Nat.le_refl _) hok.1
  have h4 := hok.2
  omega

end Go.Proofs.Gram

namespace Go.Proofs.Gram

def s0 : ByteArray := ⟨#[91, 48, 45, 57, 93, 43, 40, 97, 98, 124, 99, 41, 63, 38, 126, 46]⟩
def pt (p : Int) : Rx := .mk 1 [(p, p)] 0 0 []
def dig0 : Rx := .mk 6 [] 1 (-1) [.mk 1 [(48, 57)] 0 0 []]
def alt0 : Rx := .mk 3 [] 0 0 [.mk 2 [] 0 0 [pt 97, pt 98], pt 99]
def dot0 : Rx := .mk 1 [(0, 9), (11, 0x10FFFF)] 0 0 []
def T0 : Rx := .mk 4 [] 0 0 [.mk 2 [] 0 0 [dig0, .mk 6 [] 0 1 [alt0]], .mk 5 [] 0 0 [dot0]]

theorem k0 : pk s0 0 = 91 := by kernel_rfl
theorem k1 : pk s0 1 = 48 := by kernel_rfl
theorem k2 : pk s0 2 = 45 := by kernel_rfl
theorem k4 : pk s0 4 = 93 := by kernel_rfl
theorem k5 : pk s0 5 = 43 := by kernel_rfl
theorem k6 : pk s0 6 = 40 := by kernel_rfl
theorem k7 : pk s0 7 = 97 := by kernel_rfl
theorem k8 : pk s0 8 = 98 := by kernel_rfl
theorem k9 : pk s0 9 = 124 := by kernel_rfl
theorem k10 : pk s0 10 = 99 := by kernel_rfl
theorem k11 : pk s0 11 = 41 := by kernel_rfl
theorem k12 : pk s0 12 = 63 := by kernel_rfl
theorem k13 : pk s0 13 = 38 := by kernel_rfl
theorem k14 : pk s0 14 = 126 := by kernel_rfl
theorem k15 : pk s0 15 = 46 := by kernel_rfl
theorem k16 : pk s0 16 = -1 := by kernel_rfl
theorem p1 : point s0 ins 1 = .ok 48 2 := by kernel_rfl
theorem p3 : point s0 ins 3 = .ok 57 4 := by kernel_rfl
theorem p7 : point s0 outs 7 = .ok 97 8 := by kernel_rfl
theorem p8 : point s0 outs 8 = .ok 98 9 := by kernel_rfl
theorem p10 : point s0 outs 10 = .ok 99 11 := by kernel_rfl

theorem canon_one (a b : Int) (h0 : 0 ≤ a) (h : a ≤ b) (h1 : b ≤ 0x10FFFF) : canonOf (inR [(a, b)]) = [(a, b)] := by
  refine canonOf_eq ⟨h0, h, h1, trivial⟩ fun p => ?_
  simp only [inR, isP, List.mem_cons, List.not_mem_nil, or_false]
  constructor
  · rintro ⟨r, rfl, h2, h3⟩
    simp only at h2 h3
    exact ⟨⟨by omega, by omega⟩, _, rfl, h2, h3⟩
  · rintro ⟨_, h⟩
    exact h
theorem canon_dot : canonOf (inR [(0, 9), (11, 0x10FFFF)]) = [(0, 9), (11, 0x10FFFF)] := by
  refine canonOf_eq ⟨by decide, by decide, by decide, by decide, by decide, by decide, trivial⟩ fun p => ?_
  constructor
  · intro h
    have := canonFrom_ge (b := 0) (p := p) (l := [(0, 9), (11, 0x10FFFF)]) ⟨by decide, by decide, by decide, by decide, by decide, by decide, trivial⟩ h
    exact ⟨this, h⟩
  · exact fun h => h.2

theorem ev_point (o : Nat) {a : Nat} {x : Int} (h1 : pk s0 a = x) (hx : x ≠ -2 ∧ x ≠ 126 ∧ x ≠ 40 ∧ x ≠ 91 ∧ x ≠ 46) (hp : point s0 outs a = .ok x (a + 1)) : Ev s0 .unit a o (.ok (pt x) (a + 1)) :=
  Ev.point_ok (by rw [h1]; exact hx.1) (by rw [h1]; exact hx.2.1) (by rw [h1]; exact hx.2.2.1) (by rw [h1]; exact hx.2.2.2.1) (by rw [h1]; exact hx.2.2.2.2) hp
theorem ev_stop (o : Nat) {a : Nat} {x : Int} {t : Rx} (h1 : pk s0 a = x) (hx : x ≠ -2 ∧ x ≠ 42 ∧ x ≠ 43 ∧ x ≠ 63 ∧ x ≠ 123) : Ev s0 (.partL t) a o (.ok t a) :=
  Ev.partL_stop (by rw [h1]; exact hx.1) (by rw [h1]; exact hx.2.1) (by rw [h1]; exact hx.2.2.1) (by rw [h1]; exact hx.2.2.2.1) (by rw [h1]; exact hx.2.2.2.2)
theorem ev_row (o : Nat) {a p : Nat} {x : Int} {t : Rx} {l : List Rx} {r : R Rx} (h1 : pk s0 a = x) (hx : x ≠ -2 ∧ ¬ (x = -1 ∨ x = 124 ∨ x = 38 ∨ x = 41)) (hk : Ev s0 .part a o (.ok t p)) (hr : Ev s0 (.row (l ++ [t])) p o r) : Ev s0 (.row l) a o r :=
  Ev.row_ok (by rw [h1]; exact hx.1) (by rw [h1]; exact hx.2) hk hr

theorem ev_dig : Ev s0 .part 0 0 (.ok dig0 6) := by
  have hi : Items s0 1 [] (.ok [(48, 57)] 5) := Items.two (by rw [k1]; decide) (by rw [k1]; decide) p1 k2 p3 (by decide) (Items.stop k4)
  have hc := Ev.cls (o := 0) k0 (by decide) (Cls.in_ok (by rw [k1]; decide) (by rw [k1]; decide) hi)
  rw [show canonOf (fun p => inR [(48, 57)] p) = [(48, 57)] from canon_one 48 57 (by decide) (by decide) (by decide)] at hc
  exact Ev.part_ok hc (Ev.partL_plus k5 (ev_stop 0 k6 (by decide)))

theorem ev_alt (o : Nat) : Ev s0 .any 7 o (.ok alt0 11) := by
  have r1 : Ev s0 (.row []) 7 o (.ok (.mk 2 [] 0 0 [pt 97, pt 98]) 9) :=
    ev_row o k7 (by decide) (Ev.part_ok (ev_point o k7 (by decide) p7) (ev_stop o k8 (by decide))) (ev_row o k8 (by decide) (Ev.part_ok (ev_point o k8 (by decide) p8) (ev_stop o k9 (by decide))) (Ev.row_stop (l := [pt 97, pt 98]) (by rw [k9]; decide)))
  have b1 : Ev s0 .both 7 o (.ok (.mk 2 [] 0 0 [pt 97, pt 98]) 9) := Ev.both_ok r1 (Ev.bothL_stop (l := [.mk 2 [] 0 0 [pt 97, pt 98]]) (by rw [k9]; decide) (by rw [k9]; decide))
  have r2 : Ev s0 (.row []) 10 o (.ok (pt 99) 11) := ev_row o k10 (by decide) (Ev.part_ok (ev_point o k10 (by decide) p10) (ev_stop o k11 (by decide))) (Ev.row_stop (l := [pt 99]) (by rw [k11]; decide))
  have b2 : Ev s0 .both 10 o (.ok (pt 99) 11) := Ev.both_ok r2 (Ev.bothL_stop (l := [pt 99]) (by rw [k11]; decide) (by rw [k11]; decide))
  exact Ev.any_ok b1 (Ev.anyL_ok k9 b2 (Ev.anyL_stop (l := [.mk 2 [] 0 0 [pt 97, pt 98], pt 99]) (by rw [k11]; decide) (by rw [k11]; decide)))

theorem ev_first : Ev s0 .any 0 0 (.ok T0 16) := by
  have q : Ev s0 .part 6 0 (.ok (.mk 6 [] 0 1 [alt0]) 13) := Ev.part_ok (Ev.open_ok k6 (by decide) (ev_alt 1) k11) (Ev.partL_ask k12 (ev_stop 0 k13 (by decide)))
  have r1 : Ev s0 (.row []) 0 0 (.ok (.mk 2 [] 0 0 [dig0, .mk 6 [] 0 1 [alt0]]) 13) := ev_row 0 k0 (by decide) ev_dig (ev_row 0 k6 (by decide) q (Ev.row_stop (l := [dig0, .mk 6 [] 0 1 [alt0]]) (by rw [k13]; decide)))
  have n : Ev s0 .part 14 0 (.ok (.mk 5 [] 0 0 [dot0]) 16) := Ev.part_ok (Ev.not_ok k14 (by decide) (Ev.dot k15)) (ev_stop 0 k16 (by decide))
  have r2 : Ev s0 (.row []) 14 0 (.ok (.mk 5 [] 0 0 [dot0]) 16) := ev_row 0 k14 (by decide) n (Ev.row_stop (l := [.mk 5 [] 0 0 [dot0]]) (by rw [k16]; decide))
  have b : Ev s0 .both 0 0 (.ok T0 16) := Ev.both_ok r1 (Ev.bothL_ok k13 r2 (Ev.bothL_stop (l := [.mk 2 [] 0 0 [dig0, .mk 6 [] 0 1 [alt0]], .mk 5 [] 0 0 [dot0]]) (by rw [k16]; decide) (by rw [k16]; decide)))
  exact Ev.any_ok b (Ev.anyL_stop (l := [T0]) (by rw [k16]; decide) (by rw [k16]; decide))

theorem canon_nil : canonOf (inR []) = [] := canonOf_eq trivial fun p => ⟨fun h => absurd h (inR_nil p), fun h => absurd h.2 (inR_nil p)⟩
theorem shp_pt (d : Nat) (hd : d ≤ 30) (p : Int) (h0 : 0 ≤ p) (h1 : p ≤ 0x10FFFF) : Shp d (pt p) := by
  unfold pt
  rw [Shp]
  exact ⟨hd, by unfold cntOk; decide, .inl rfl, canon_one p p h0 (Int.le_refl _) h1, by rw [if_neg (by decide)]; exact ⟨rfl, rfl⟩, trivial⟩
theorem ok_first : OkR T0 := by
  refine ⟨?_, by rw [show wt T0 = 12 from by kernel_rfl]; decide⟩
  have c0 := canon_nil
  have cd := canon_one 48 57 (by decide) (by decide) (by decide)
  have a1 : Shp 5 (pt 97) := shp_pt 5 (by decide) 97 (by decide) (by decide)
  have a2 : Shp 5 (pt 98) := shp_pt 5 (by decide) 98 (by decide) (by decide)
  have a3 : Shp 4 (pt 99) := shp_pt 4 (by decide) 99 (by decide) (by decide)
  have e : ∀ kind (n : Nat), kind ≠ 6 → (if kind = (6 : Int) then timesOk 0 0 else (0 : Int) = 0 ∧ (0 : Int) = 0) := fun kind n h => by rw [if_neg h]; exact ⟨rfl, rfl⟩
  have alt : Shp 3 alt0 := by
    unfold alt0
    rw [Shp]
    refine ⟨by decide, by unfold cntOk; decide, .inr rfl, c0, e 3 0 (by decide), ?_⟩
    rw [ShpL, ShpL, ShpL]
    refine ⟨?_, a3, trivial⟩
    rw [Shp]
    refine ⟨by decide, by unfold cntOk; decide, .inr rfl, c0, e 2 0 (by decide), ?_⟩
    rw [ShpL, ShpL, ShpL]
    exact ⟨a1, a2, trivial⟩
  have dig : Shp 2 dig0 := by
    unfold dig0
    rw [Shp]
    refine ⟨by decide, by unfold cntOk; decide, .inr rfl, c0, by rw [if_pos rfl]; unfold timesOk; decide, ?_⟩
    rw [ShpL, ShpL]
    refine ⟨?_, trivial⟩
    rw [Shp]
    exact ⟨by decide, by unfold cntOk; decide, .inl rfl, cd, e 1 0 (by decide), trivial⟩
  have dot : Shp 2 dot0 := by
    unfold dot0
    rw [Shp]
    exact ⟨by decide, by unfold cntOk; decide, .inl rfl, canon_dot, e 1 0 (by decide), trivial⟩
  unfold T0
  rw [Shp]
  refine ⟨by decide, by unfold cntOk; decide, .inr rfl, c0, e 4 0 (by decide), ?_⟩
  rw [ShpL, ShpL, ShpL]
  refine ⟨?_, ?_, trivial⟩
  · rw [Shp]
    refine ⟨by decide, by unfold cntOk; decide, .inr rfl, c0, e 2 0 (by decide), ?_⟩
    rw [ShpL, ShpL, ShpL]
    refine ⟨dig, ?_, trivial⟩
    rw [Shp]
    refine ⟨by decide, by unfold cntOk; decide, .inr rfl, c0, by rw [if_pos rfl]; unfold timesOk; decide, ?_⟩
    rw [ShpL, ShpL]
    exact ⟨alt, trivial⟩
  · rw [Shp]
    refine ⟨by decide, by unfold cntOk; decide, .inr rfl, c0, e 5 0 (by decide), ?_⟩
    rw [ShpL, ShpL]
    exact ⟨dot, trivial⟩

end Go.Proofs.Gram
