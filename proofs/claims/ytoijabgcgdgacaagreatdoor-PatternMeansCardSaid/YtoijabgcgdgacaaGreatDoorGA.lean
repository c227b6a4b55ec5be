/-
  PLAIN LAW, part 1: what the text of a pattern tells: a parser as a plain function (no program in sight).
  MEMORY: what a pattern is in memory; what a call leaves as it was. (Plain facts on worlds; the numbers of three types alone: 34, 22, 191.)
-/
import GoSem.Core.Utf8
import Derived.Below
import Derived.Lib.Hide
import Derived.Deep.Draws
namespace Go.Proofs.Gram

/-- A pattern (nil: no pattern). -/
inductive Rx where
  | nil
  | mk (kind : Int) (set : List (Int × Int)) (mn mx : Int) (kids : List Rx)
  deriving Inhabited

/-- What reading ends in: a thing and the place behind it, or what is wrong (1: the form, 2: a bound), and where. -/
inductive R (α : Type) where
  | ok (t : α) (a : Nat)
  | er (c : Nat) (a : Nat)

/-- The point at a place: -1 the end, -2 a byte that belongs to none. -/
def pk (s : ByteArray) (a : Nat) : Int :=
  if s.size ≤ a then -1 else if Utf8.decode s a = (0xFFFD, 1) then -2 else ((Utf8.decode s a).1 : Int)

/-- The place behind the point at a place. -/
def nx (s : ByteArray) (a : Nat) : Nat := a + (Utf8.decode s a).2

def outs : List Int := [124, 38, 42, 43, 63, 123, 125, 126, 40, 41, 91, 93, 46]
def ins : List Int := [91, 93, 45, 94]
def escs : List Int := [124, 38, 42, 43, 63, 123, 125, 126, 40, 41, 91, 93, 46, 92, 45, 94, 34, 39, 32]

/-- A digit to the base 16. -/
def hexv (b : UInt8) : Option Nat :=
  if 48 ≤ b.toNat ∧ b.toNat ≤ 57 then some (b.toNat - 48)
  else if 97 ≤ b.toNat ∧ b.toNat ≤ 102 then some (b.toNat - 87)
  else if 65 ≤ b.toNat ∧ b.toNat ≤ 70 then some (b.toNat - 55)
  else none

/-- Digits to the base 16 up to the closing sign; `k` more of them may come (with the sign behind the last), `n` so far. -/
def hexs (s : ByteArray) (frm : Nat) : Nat → Nat → Nat → Nat → R Nat
  | 0, _, _, _ => .er 1 frm
  | f + 1, i, k, n =>
    if h : i < s.size then
      match hexv s[i] with
      | some d => hexs s frm f (i + 1) (k + 1) (n * 16 + d)
      | none => if s[i] = 125 ∧ 1 ≤ k ∧ n ≤ 0x10FFFF then .ok n (i + 1) else .er 1 frm
    else .er 1 frm

/-- Behind the u of an escape: `i` is the place behind it. -/
def numb (s : ByteArray) (frm i : Nat) : R Nat :=
  if h : i < s.size then if s[i] = 123 then hexs s frm 7 (i + 1) 0 0 else .er 1 frm else .er 1 frm

/-- A code point, but for those of `bad`, or an escape. -/
def point (s : ByteArray) (bad : List Int) (a : Nat) : R Int :=
  let c := pk s a
  if c < 0 ∨ c ∈ bad then .er 1 a
  else if c ≠ 92 then .ok c (nx s a)
  else
    let e := pk s (a + 1)
    if e = -2 then .er 1 (a + 1)
    else if e = 110 then .ok 10 (a + 2)
    else if e = 114 then .ok 13 (a + 2)
    else if e = 116 then .ok 9 (a + 2)
    else if e = 117 then
      match numb s a (a + 2) with
      | .ok n b => .ok (n : Int) b
      | .er c b => .er c b
    else if e < 0 ∨ e ∉ escs then .er 1 a
    else .ok e (a + 2)

/-- The digits from a place on: where they end, and their number, `n` so far. -/
def digs (s : ByteArray) : Nat → Nat → Nat → Nat × Nat
  | 0, a, n => (a, n)
  | f + 1, a, n => if 48 ≤ pk s a ∧ pk s a ≤ 57 then digs s f (a + 1) (n * 10 + (pk s a - 48).toNat) else (a, n)

/-- A count. -/
def count (s : ByteArray) (a : Nat) : R Nat :=
  let d := digs s (s.size + 1) a 0
  if pk s d.1 = -2 then .er 1 d.1
  else if d.1 = a ∨ (a + 1 < d.1 ∧ pk s a = 48) then .er 1 a
  else if 50 < d.2 then .er 2 a
  else .ok d.2 d.1

/-- The closing sign of counts. -/
def closed (s : ByteArray) (lo hi : Int) (a : Nat) : R (Int × Int) :=
  if pk s a = 125 then .ok (lo, hi) (a + 1) else .er 1 a

/-- Counts, behind the opening sign. -/
def counted (s : ByteArray) (a : Nat) : R (Int × Int) :=
  match count s a with
  | .er c b => .er c b
  | .ok n b =>
    if pk s b = -2 then .er 1 b
    else if pk s b = 44 then
      if pk s (b + 1) = -2 then .er 1 (b + 1)
      else if pk s (b + 1) = 125 then closed s n (-1) (b + 1)
      else match count s (b + 1) with
        | .er c d => .er c d
        | .ok m d => if m < n ∨ m = 0 then .er 1 (b + 1) else closed s n m d
    else if n = 0 then .er 1 a
    else closed s n n b

/-- Does a point lie in a list of ranges? -/
def inR (l : List (Int × Int)) (p : Int) : Prop := ∃ r ∈ l, r.1 ≤ p ∧ p ≤ r.2

/-- A point. -/
def isP (p : Int) : Prop := 0 ≤ p ∧ p ≤ 0x10FFFF

/-- Canonical, all from `b` on. -/
def canonFrom : Int → List (Int × Int) → Prop
  | _, [] => True
  | b, r :: l => b ≤ r.1 ∧ r.1 ≤ r.2 ∧ r.2 ≤ 0x10FFFF ∧ canonFrom (r.2 + 2) l

/-- Canonical. -/
def isCanon (l : List (Int × Int)) : Prop := canonFrom 0 l

/-- The canonical list of a set of points, if there is one. -/
noncomputable def canonOf (S : Int → Prop) : List (Int × Int) := Classical.epsilon fun l => isCanon l ∧ ∀ p, inR l p ↔ isP p ∧ S p

/-- The items of a class, up to the closing sign. -/
def items (s : ByteArray) : Nat → Nat → List (Int × Int) → Option (R (List (Int × Int)))
  | 0, _, _ => none
  | f + 1, a, l =>
    if pk s a = -2 then some (.er 1 a)
    else if pk s a = 93 then some (.ok l (a + 1))
    else match point s ins a with
      | .er c b => some (.er c b)
      | .ok lo b =>
        if pk s b = -2 then some (.er 1 b)
        else if pk s b = 45 then
          match point s ins (b + 1) with
          | .er c d => some (.er c d)
          | .ok hi d => if hi < lo then some (.er 1 a) else items s f d (l ++ [(lo, hi)])
        else items s f b (l ++ [(lo, lo)])

/-- One behind the other. -/
def bnd {α β : Type} : Option (R α) → (α → Nat → Option (R β)) → Option (R β)
  | some (.ok t a), f => f t a
  | some (.er c a), _ => some (.er c a)
  | none, _ => none

/-- A class, behind its opening sign. -/
noncomputable def cls (s : ByteArray) (f : Nat) (a : Nat) : Option (R Rx) :=
  if pk s a = -2 then some (.er 1 a)
  else if pk s a = 94 then bnd (items s f (a + 1) []) fun l b => some (.ok (.mk 1 (canonOf fun p => ¬ inR l p) 0 0 []) b)
  else bnd (items s f a []) fun l b => some (.ok (.mk 1 (canonOf fun p => inR l p) 0 0 []) b)

/-- One of a list is itself, any other number a pattern of a kind. -/
def sev (kind : Int) : List Rx → Rx
  | [x] => x
  | l => .mk kind [] 0 0 l

/-- What is to be read. -/
inductive NT where
  | any | anyL (l : List Rx) | both | bothL (l : List Rx) | row (l : List Rx) | part | partL (p : Rx) | unit

/-- A pattern's text, read. -/
noncomputable def ev (s : ByteArray) : Nat → NT → Nat → Nat → Option (R Rx)
  | 0, _, _, _ => none
  | n + 1, .any, a, o => bnd (ev s n .both a o) fun k b => ev s n (.anyL [k]) b o
  | n + 1, .anyL l, a, o =>
    if pk s a = -2 then some (.er 1 a)
    else if pk s a = 124 then bnd (ev s n .both (a + 1) o) fun k b => ev s n (.anyL (l ++ [k])) b o
    else some (.ok (sev 3 l) a)
  | n + 1, .both, a, o => bnd (ev s n (.row []) a o) fun k b => ev s n (.bothL [k]) b o
  | n + 1, .bothL l, a, o =>
    if pk s a = -2 then some (.er 1 a)
    else if pk s a = 38 then bnd (ev s n (.row []) (a + 1) o) fun k b => ev s n (.bothL (l ++ [k])) b o
    else some (.ok (sev 4 l) a)
  | n + 1, .row l, a, o =>
    if pk s a = -2 then some (.er 1 a)
    else if pk s a = -1 ∨ pk s a = 124 ∨ pk s a = 38 ∨ pk s a = 41 then some (.ok (sev 2 l) a)
    else bnd (ev s n .part a o) fun k b => ev s n (.row (l ++ [k])) b o
  | n + 1, .part, a, o => bnd (ev s n .unit a o) fun k b => ev s n (.partL k) b o
  | n + 1, .partL p, a, o =>
    if pk s a = -2 then some (.er 1 a)
    else if pk s a = 42 then ev s n (.partL (.mk 6 [] 0 (-1) [p])) (a + 1) o
    else if pk s a = 43 then ev s n (.partL (.mk 6 [] 1 (-1) [p])) (a + 1) o
    else if pk s a = 63 then ev s n (.partL (.mk 6 [] 0 1 [p])) (a + 1) o
    else if pk s a = 123 then bnd (some (counted s (a + 1))) fun c b => ev s n (.partL (.mk 6 [] c.1 c.2 [p])) b o
    else some (.ok p a)
  | n + 1, .unit, a, o =>
    if pk s a = -2 then some (.er 1 a)
    else if pk s a = 126 then
      if 100 ≤ o then some (.er 2 a)
      else bnd (ev s n .unit (a + 1) (o + 1)) fun k b => some (.ok (.mk 5 [] 0 0 [k]) b)
    else if pk s a = 40 then
      if 100 ≤ o then some (.er 2 a)
      else bnd (ev s n .any (a + 1) (o + 1)) fun k b => if pk s b = 41 then some (.ok k (b + 1)) else some (.er 1 b)
    else if pk s a = 91 then
      if 100 ≤ o then some (.er 2 a) else cls s n (a + 1)
    else if pk s a = 46 then some (.ok (.mk 1 [(0, 9), (11, 0x10FFFF)] 0 0 []) (a + 1))
    else bnd (some (point s outs a)) fun p b => some (.ok (.mk 1 [(p, p)] 0 0 []) b)

/-- What the one answers, the other answers. -/
def Le {α : Type} (x y : Option α) : Prop := ∀ r, x = some r → y = some r

theorem Le.refl {α : Type} (x : Option α) : Le x x := fun _ h => h
theorem Le.none {α : Type} (x : Option α) : Le none x := fun _ h => by cases h
theorem Le.ite {α : Type} {c : Prop} [Decidable c] {x x' y y' : Option α} (h : Le x x') (k : Le y y') : Le (if c then x else y) (if c then x' else y') := by
  split
  · exact h
  · exact k
theorem Le.bnd {α β : Type} {x x' : Option (R α)} {f f' : α → Nat → Option (R β)} (h : Le x x') (k : ∀ t a, Le (f t a) (f' t a)) : Le (bnd x f) (bnd x' f') := by
  intro r hr
  cases x with
  | none => simp [Gram.bnd] at hr
  | some x =>
    rw [h x rfl]
    cases x with
    | ok t a => exact k t a r hr
    | er c a => exact hr

/-- More fuel turns nothing. -/
theorem items_le (s : ByteArray) : ∀ (n a : Nat) (l : List (Int × Int)), Le (items s n a l) (items s (n + 1) a l) := by
  intro n
  induction n with
  | zero => intro a l; exact Le.none _
  | succ n ih =>
    intro a l
    rw [items, items]
    refine Le.ite (Le.refl _) (Le.ite (Le.refl _) ?_)
    cases point s ins a with
    | er c b => exact Le.refl _
    | ok lo b =>
      refine Le.ite (Le.refl _) (Le.ite ?_ (ih _ _))
      cases point s ins (b + 1) with
      | er c d => exact Le.refl _
      | ok hi d => exact Le.ite (Le.refl _) (ih _ _)

theorem cls_le (s : ByteArray) (n a : Nat) : Le (cls s n a) (cls s (n + 1) a) :=
  Le.ite (Le.refl _) (Le.ite (Le.bnd (items_le s _ _ _) fun _ _ => Le.refl _) (Le.bnd (items_le s _ _ _) fun _ _ => Le.refl _))

theorem ev_le (s : ByteArray) : ∀ (n : Nat) (t : NT) (a o : Nat), Le (ev s n t a o) (ev s (n + 1) t a o) := by
  intro n
  induction n with
  | zero => intro t a o; exact Le.none _
  | succ n ih =>
    intro t a o
    cases t <;> rw [ev, ev]
    all_goals repeat' first
      | exact ih _ _ _
      | exact cls_le _ _ _
      | exact Le.refl _
      | apply Le.ite
      | refine Le.bnd ?_ fun _ _ => ?_

theorem Le.mono {α : Type} {f : Nat → Option α} (h : ∀ n, Le (f n) (f (n + 1))) {n m : Nat} (hm : n ≤ m) : Le (f n) (f m) := by
  induction hm with
  | refl => exact Le.refl _
  | step _ ih => exact fun r hr => h _ r (ih r hr)

/-- What is read there is this (with fuel enough). -/
def Ev (s : ByteArray) (t : NT) (a o : Nat) (r : R Rx) : Prop := ∃ n, ev s n t a o = some r
def Items (s : ByteArray) (a : Nat) (l : List (Int × Int)) (r : R (List (Int × Int))) : Prop := ∃ n, items s n a l = some r

theorem Ev.unique {s : ByteArray} {t : NT} {a o : Nat} {r r' : R Rx} (h : Ev s t a o r) (h' : Ev s t a o r') : r = r' := by
  obtain ⟨n, h⟩ := h
  obtain ⟨m, h'⟩ := h'
  have e := Le.mono (f := fun n => ev s n t a o) (fun n => ev_le s n t a o) (Nat.le_max_left n m) r h
  have e' := Le.mono (f := fun n => ev s n t a o) (fun n => ev_le s n t a o) (Nat.le_max_right n m) r' h'
  exact Option.some.inj (e.symm.trans e')

end Go.Proofs.Gram

namespace Go.Proofs.Gram
open Go.RowKit

/-- All that lay there stays, but for what lies in blocks that are in F. -/
structure Kp (F : Nat → Prop) (w w' : World) : Prop where
  os : w'.os = w.os
  tape : w'.tape = w.tape
  output : w'.output = w.output
  size : w.heap.size ≤ w'.heap.size
  block : ∀ k, k < w.heap.size → ¬ F k → w'.heap[k]? = w.heap[k]?

def noB : Nat → Prop := fun _ => False
def onB (b : Nat) : Nat → Prop := fun k => k = b
theorem onB_self (b : Nat) : onB b b := rfl
theorem noB_not (k : Nat) : ¬ noB k := fun h => h
theorem onB_not {b k : Nat} (h : k ≠ b) : ¬ onB b k := h

theorem Kp.refl (F : Nat → Prop) (w : World) : Kp F w w := ⟨rfl, rfl, rfl, Nat.le_refl _, fun _ _ _ => rfl⟩
theorem Kp.trans {F : Nat → Prop} {a b c : World} (h : Kp F a b) (k : Kp F b c) : Kp F a c :=
  ⟨k.os.trans h.os, k.tape.trans h.tape, k.output.trans h.output, Nat.le_trans h.size k.size, fun i hi hf => (k.block i (Nat.lt_of_lt_of_le hi h.size) hf).trans (h.block i hi hf)⟩
theorem Kp.mono {F F' : Nat → Prop} {w w' : World} (h : Kp F w w') (hF : ∀ k, k < w.heap.size → F k → F' k) : Kp F' w w' :=
  ⟨h.os, h.tape, h.output, h.size, fun k hk hf => h.block k hk fun e => hf (hF k hk e)⟩
/-- Behind a first stretch, a second one may turn what the first has made. -/
theorem Kp.later {F F' : Nat → Prop} {a b c : World} (h : Kp F a b) (k : Kp F' b c) (hF : ∀ i, i < a.heap.size → F' i → F i) : Kp F a c :=
  ⟨k.os.trans h.os, k.tape.trans h.tape, k.output.trans h.output, Nat.le_trans h.size k.size, fun i hi hf => (k.block i (Nat.lt_of_lt_of_le hi h.size) (fun e => hf (hF i hi e))).trans (h.block i hi hf)⟩
/-- Nothing turned at all. -/
theorem Kp.any {F : Nat → Prop} {w w' : World} (h : Kp noB w w') : Kp F w w' := h.mono fun _ _ e => e.elim
theorem Kp.of_below {F : Nat → Prop} {w w' : World} (h : Below w.heap.size w w') : Kp F w w' := ⟨h.os, h.tape, h.output, h.size, fun k hk _ => h.block k hk⟩
theorem Kp.below {w w' : World} (h : Kp noB w w') : Below w.heap.size w w' := ⟨h.os, h.tape, h.output, h.size, fun k hk => h.block k hk (fun e => e)⟩
theorem Kp.drew {F : Nat → Prop} {a w : World} (h : Kp F a w) : Kp F a w.drew := ⟨h.os, h.tape, h.output, h.size, h.block⟩
theorem Kp.drewN {F : Nat → Prop} {a w : World} (h : Kp F a w) (n : Nat) : Kp F a (w.drewN n) := ⟨h.os, h.tape, h.output, h.size, h.block⟩
theorem Kp.alloc {F : Nat → Prop} {a w : World} (h : Kp F a w) (o : Obj) : Kp F a (w.alloc o) :=
  h.trans ⟨rfl, rfl, rfl, by simp, fun k hk _ => Below.heap_alloc _ _ _ hk⟩
theorem Kp.setCell {F : Nat → Prop} {a w : World} (h : Kp F a w) {p : Addr} (hp : F p.block ∨ a.heap.size ≤ p.block) (u : Value) : Kp F a (w.setCell p u) :=
  h.later (F' := fun k => k = p.block) ⟨rfl, rfl, rfl, by simp [World.setCell], fun k _ hf => Below.heap_setCell _ _ _ _ hf⟩ fun i hi e => by subst e; exact hp.resolve_right (by omega)
theorem Kp.grown {F : Nat → Prop} {a w w' : World} {row : Option Nat} (h : Kp F a w) (hg : w.grownBy w' row) (hr : ∀ k, row = some k → F k ∨ a.heap.size ≤ k) : Kp F a w' :=
  h.later (F' := fun k => some k = row) ⟨hg.os, hg.tape, hg.output, hg.size, fun k hk hf => hg.block k hk hf⟩ fun i hi e => (hr i e.symm).resolve_right (by omega)
theorem Kp.cell {F : Nat → Prop} {w w' : World} (h : Kp F w w') {p : Addr} {v : Value} (hc : w.cell? p = some v) (hp : ¬ F p.block) : w'.cell? p = some v :=
  (World.cell?_of_block (w := w) (h.block p.block (World.block_lt_of_cell? w p hc) hp)).trans hc
theorem Kp.heap {F : Nat → Prop} {w w' : World} (h : Kp F w w') {k : Nat} {o : Obj} (hc : w.heap[k]? = some o) (hp : ¬ F k) : w'.heap[k]? = some o :=
  (h.block k (Array.getElem?_eq_some_iff.1 hc).1 hp).trans hc

/-- A slice value of n elements, whose cells are cs. -/
def Cells (w : World) (ok : Nat → Prop) (v : Value) (n : Nat) (cs : List Value) : Prop :=
  (v = .slice none 0 0 ∧ n = 0 ∧ cs = []) ∨
  ∃ g off cap, v = .slice (some ⟨g, off, none⟩) n cap ∧ n ≤ cap ∧ cap ≤ maxLen ∧ ok g ∧ g < w.heap.size ∧ ∀ i u, cs[i]? = some u → w.cell? ⟨g, off + i, none⟩ = some u

theorem Cells.keep {w w' : World} {ok ok' : Nat → Prop} {v : Value} {n : Nat} {cs : List Value} (h : Cells w ok v n cs) (hs : w.heap.size ≤ w'.heap.size)
    (hw : ∀ k, k < w.heap.size → ok k → w'.heap[k]? = w.heap[k]?) (ho : ∀ k, k < w.heap.size → ok k → ok' k) : Cells w' ok' v n cs := by
  rcases h with h | ⟨g, off, cap, h1, h2, h3, h4, h5, h6⟩
  · exact .inl h
  · exact .inr ⟨g, off, cap, h1, h2, h3, ho g h5 h4, by omega, fun i u hu => (World.cell?_of_block (w := w) (hw g h5 h4)).trans (h6 i u hu)⟩

def rcells (l : List (Int × Int)) : List Value := l.flatMap fun r => [.int .i64 r.1, .int .i64 r.2]

/-- A list of ranges in memory. -/
def Rngs (w : World) (ok : Nat → Prop) (v : Value) (l : List (Int × Int)) : Prop := Cells w ok v l.length (rcells l)

/-- A pattern in memory. -/
inductive IsRe (w : World) (ok : Nat → Prop) : Value → Rx → Prop where
  | nil : IsRe w ok (.pointer none) .nil
  | mk (b : Nat) (kind mn mx : Int) (set : List (Int × Int)) (kids : List Rx) (sv kv : Value) (ps : List Value)
      (hb : w.heap[b]? = some (.cells #[.int .i64 kind, sv, .int .i64 mn, .int .i64 mx, kv] 34 (0, 0))) (hok : ok b)
      (hs : Rngs w ok sv set) (hk : Cells w ok kv kids.length ps) (hl : ps.length = kids.length)
      (h : ∀ (i : Nat) (p : Value) (t : Rx), ps[i]? = some p → kids[i]? = some t → IsRe w ok p t) : IsRe w ok (.pointer (some ⟨b, 0, none⟩)) (.mk kind set mn mx kids)

theorem IsRe.keep {w w' : World} {ok ok' : Nat → Prop} {v : Value} {t : Rx} (h : IsRe w ok v t) (hs : w.heap.size ≤ w'.heap.size)
    (hw : ∀ k, k < w.heap.size → ok k → w'.heap[k]? = w.heap[k]?) (ho : ∀ k, k < w.heap.size → ok k → ok' k) : IsRe w' ok' v t := by
  induction h with
  | nil => exact .nil
  | mk b kind mn mx set kids sv kv ps hb hok hss hk hl _ ih =>
    have hlt := (Array.getElem?_eq_some_iff.1 hb).1
    exact .mk b kind mn mx set kids sv kv ps ((hw b hlt hok).trans hb) (ho b hlt hok) (Cells.keep hss hs hw ho) (Cells.keep hk hs hw ho) hl ih

theorem IsRe.kp {F ok : Nat → Prop} {w w' : World} {v : Value} {t : Rx} (h : IsRe w ok v t) (hk : Kp F w w') (hF : ∀ k, k < w.heap.size → ok k → ¬ F k) : IsRe w' ok v t :=
  h.keep hk.size (fun k hl ho => hk.block k hl (hF k hl ho)) fun _ _ h => h
theorem Cells.kp {F ok : Nat → Prop} {w w' : World} {v : Value} {n : Nat} {cs : List Value} (h : Cells w ok v n cs) (hk : Kp F w w') (hF : ∀ k, k < w.heap.size → ok k → ¬ F k) : Cells w' ok v n cs :=
  h.keep hk.size (fun k hl ho => hk.block k hl (hF k hl ho)) fun _ _ h => h
theorem IsRe.ok {ok ok' : Nat → Prop} {w : World} {v : Value} {t : Rx} (h : IsRe w ok v t) (ho : ∀ k, k < w.heap.size → ok k → ok' k) : IsRe w ok' v t := h.keep (Nat.le_refl _) (fun _ _ _ => rfl) ho
theorem Cells.ok {ok ok' : Nat → Prop} {w : World} {v : Value} {n : Nat} {cs : List Value} (h : Cells w ok v n cs) (ho : ∀ k, k < w.heap.size → ok k → ok' k) : Cells w ok' v n cs := h.keep (Nat.le_refl _) (fun _ _ _ => rfl) ho

/-- Where a pattern is no nil, its five cells, its ranges and its kids. -/
theorem IsRe.inv {w : World} {ok : Nat → Prop} {v : Value} {kind mn mx : Int} {set : List (Int × Int)} {kids : List Rx} (h : IsRe w ok v (.mk kind set mn mx kids)) :
    ∃ b sv kv ps, v = .pointer (some ⟨b, 0, none⟩) ∧ w.heap[b]? = some (.cells #[.int .i64 kind, sv, .int .i64 mn, .int .i64 mx, kv] 34 (0, 0)) ∧ ok b ∧ Rngs w ok sv set ∧ Cells w ok kv kids.length ps ∧
      ps.length = kids.length ∧ ∀ (i : Nat) (p : Value) (t : Rx), ps[i]? = some p → kids[i]? = some t → IsRe w ok p t := by
  cases h with
  | mk b _ _ _ _ _ sv kv ps hb hok hs hk hl hh => exact ⟨b, sv, kv, ps, rfl, hb, hok, hs, hk, hl, hh⟩

end Go.Proofs.Gram
