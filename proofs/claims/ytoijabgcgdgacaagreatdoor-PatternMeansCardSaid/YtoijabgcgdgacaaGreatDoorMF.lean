/-
  WALKS, mo: the memo: a map whose keys are a pattern's address and three numbers.
  WALKS, mp: what holds of the matcher's memo (plain facts on worlds).
  WALKS, mq: the program's matcher: what is asked once.
-/
import Derived.Test.YtoijabgcgdgacaaGreatDoorMB
import Derived.Laws.StructEq
import Derived.LaidEql
import Derived.MapKept
import Derived.Test.YtoijabgcgdgacaaGreatDoorPA
import Derived.Test.YtoijabgcgdgacaaGreatDoorMC
namespace Go.Proofs.YtoijabgcgdgacaaGreatDoor
open Go.RowKit Go.Proofs.Gram Go.Lib

/-- A key: the block of a pattern, from where, up to where, how many. -/
structure Ky where
  b : Nat
  f : Nat
  t : Nat
  n : Nat
  deriving DecidableEq

def kE (k : Ky) : Value := .agg #[.pointer (some ⟨k.b, 0, none⟩), .int .i64 k.f, .int .i64 k.t, .int .i64 k.n]
/-- A block of a pattern. -/
def NodeB (w : World) (b : Nat) : Prop := ∃ cs, w.heap[b]? = some (.cells cs 34 (0, 0))

theorem kE_inj {k k' : Ky} (h : kE k = kE k') : k = k' := by
  cases k; cases k'
  simp only [kE, Value.agg.injEq, Array.mk.injEq, List.cons.injEq, Value.pointer.injEq, Option.some.injEq, Addr.mk.injEq, Value.int.injEq, and_true, true_and] at h
  simp only [Ky.mk.injEq]
  omega

theorem run_equalIn_ptr {P : Program} (w : World) (d : Nat) {tp te : TypeId} {j : TypeInfo} (hp : P.underlying tp = some (.pointer te)) (hte : P.info? te = some j) (hsz : j.size ≠ 0) {a b : Addr} {r : Bool} (h : (sameAddr a b).run P w = .ok r w) :
    (Op.equalIn (d + 1) tp (.pointer (some a)) (.pointer (some b))).run P w = .ok r w := by
  simp [Op.equalIn, run_underlying hp, sizeOf, typeInfo, hte, hsz, h]

theorem info34 : ∃ j, Tryz.prog.info? 34 = some j ∧ j.size ≠ 0 := by
  have h : (Tryz.prog.info? 34).map (fun i => i.size != 0) = some true := by kernel_rfl
  obtain ⟨j, hj, h⟩ := Option.map_eq_some_iff.1 h
  exact ⟨j, hj, by simpa using h⟩

theorem run_eqK {w : World} {k k' : Ky} (hk : NodeB w k.b) (hk' : NodeB w k'.b) : (Op.equal 182 (kE k) (kE k')).run Tryz.prog w = .ok (decide (k = k')) w := by
  have u3 := Tryz.underlying3
  have a3 := Tryz.isAgg3
  have z3 := Tryz.sizeOf3
  have hS : Tryz.prog.underlying 182 = some (.struct (Tryz.prog.fieldsOf 182)) := by kernel_rfl
  have hp : Tryz.prog.stoodInHeld 182 = false := by kernel_rfl
  obtain ⟨cs, hc⟩ := hk
  obtain ⟨cs', hc'⟩ := hk'
  obtain ⟨j, hj, hjs⟩ := info34
  have hptr : (Op.equalIn 9999 22 (.pointer (some ⟨k.b, 0, none⟩)) (.pointer (some ⟨k'.b, 0, none⟩))).run Tryz.prog w = .ok (decide (k.b = k'.b)) w := by
    refine run_equalIn_ptr w 9998 Tryz.underlying22 hj hjs ?_
    by_cases h : k.b = k'.b
    · rw [decide_eq_true h, h]
      exact run_sameAddr_same w _
    · rw [decide_eq_false h]
      exact run_sameAddr_other w (fun e => h (congrArg Addr.block e)) hc hc'
  unfold kE
  rw [Op.equal, show Op.maxDepth = 9999 + 1 from rfl, run_equalIn_agg w 9999 182 _ _ hS hp]
  simp only [Program.fieldsOf, Tryz.underlying182]
  go_simp
  have hiff : k = k' ↔ k.b = k'.b ∧ k.f = k'.f ∧ k.t = k'.t ∧ k.n = k'.n := by
    cases k; cases k'
    simp
  by_cases h1 : k.b = k'.b
  · by_cases h2 : k.f = k'.f
    · by_cases h3 : k.t = k'.t
      · by_cases h4 : k.n = k'.n
        · rw [decide_eq_true (hiff.2 ⟨h1, h2, h3, h4⟩)]
          simp [h1, h2, h3, h4]
        · rw [decide_eq_false (fun h => h4 (hiff.1 h).2.2.2)]
          simp [h1, h2, h3]
          omega
      · rw [decide_eq_false (fun h => h3 (hiff.1 h).2.2.1)]
        simp [h1, h2]
        omega
    · rw [decide_eq_false (fun h => h2 (hiff.1 h).2.1)]
      simp [h1]
      omega
  · rw [decide_eq_false (fun h => h1 (hiff.1 h).1)]
    simp [h1]

theorem run_check_ptr {P : Program} (w : World) (em : Bool) (n : Nat) {tp te : TypeId} (hp : P.underlying tp = some (.pointer te)) (a : Option Addr) : (Instr.checkKey em (n + 1) tp (.pointer a)).run P w = .ok () w := by
  simp [Instr.checkKey, run_underlying hp]
theorem run_check_int {P : Program} (w : World) (em : Bool) (n : Nat) {tp : TypeId} {q : IntKind} (hp : P.underlying tp = some (.int q)) (k : IntKind) (a : Int) : (Instr.checkKey em (n + 1) tp (.int k a)).run P w = .ok () w := by
  simp [Instr.checkKey, run_underlying hp]

theorem run_checkK (w : World) (em : Bool) (k : Ky) : (Instr.checkKey em 10000 182 (kE k)).run Tryz.prog w = .ok () w := by
  have u3 := Tryz.underlying3
  have a3 := Tryz.isAgg3
  have z3 := Tryz.sizeOf3
  have u22 := Tryz.underlying22
  have hS : Tryz.prog.underlying 182 = some (.struct (Tryz.prog.fieldsOf 182)) := by kernel_rfl
  unfold kE
  rw [show (10000 : Nat) = 9999 + 1 from rfl, Instr.checkKey]
  go_simp
  rw [run_check_ptr w em 9998 u22, Result.andThen_ok, run_check_int w em 9998 u3, Result.andThen_ok, run_check_int w em 9998 u3, Result.andThen_ok, run_check_int w em 9998 u3]

/-! the entries, as a list of keys and numbers -/
def updK : List (Ky × Int) → Ky → Int → List (Ky × Int)
  | [], k, v => [(k, v)]
  | p :: l, k, v => if p.1 = k then (k, v) :: l else p :: updK l k v
def lookK : List (Ky × Int) → Ky → Option Int
  | [], _ => none
  | p :: l, k => if p.1 = k then some p.2 else lookK l k
theorem look_upd (k k' : Ky) (v : Int) : ∀ l, lookK (updK l k v) k' = if k' = k then some v else lookK l k'
  | [] => by
    simp only [updK, lookK]
    by_cases h : k = k'
    · rw [if_pos h, if_pos h.symm]
    · rw [if_neg h, if_neg (fun e => h e.symm)]
  | p :: l => by
    rw [updK]
    by_cases h : p.1 = k
    · rw [if_pos h, lookK, lookK]
      by_cases h2 : k' = k
      · rw [if_pos h2, if_pos h2.symm]
      · rw [if_neg h2, if_neg (fun e => h2 e.symm), if_neg (fun e => h2 (by rw [← e, h]))]
    · rw [if_neg h, lookK, lookK, look_upd k k' v l]
      by_cases h2 : p.1 = k'
      · rw [if_pos h2, if_pos h2, if_neg (fun e => h (by rw [h2, e]))]
      · rw [if_neg h2, if_neg h2]

/-- A block is the map of these entries. -/
def EnL (es : List MapEntry) (l : List (Ky × Int)) : Prop := es.map (fun e => (e.key, e.val)) = l.map fun p => (kE p.1, .int .i64 p.2)
def IsMap (w : World) (r : Nat) (l : List (Ky × Int)) : Prop := ∃ es clock, w.heap[r]? = some (.map es clock) ∧ EnL es.toList l
def NodesB (w : World) (l : List (Ky × Int)) : Prop := ∀ p ∈ l, NodeB w p.1.b

theorem run_find {w : World} {k : Ky} (hk : NodeB w k.b) : ∀ (es : List MapEntry) (l : List (Ky × Int)) (i : Nat), EnL es l → NodesB w l →
    (lookK l k = none ∧ (Instr.findAsking 182 (kE k) es i).run Tryz.prog w = .ok none w ∧ ∀ v, updK l k v = l ++ [(k, v)]) ∨
    ∃ j v, lookK l k = some v ∧ (Instr.findAsking 182 (kE k) es i).run Tryz.prog w = .ok (some (i + j, .int .i64 v)) w ∧ (∃ e, es[j]? = some e ∧ e.key = kE k) ∧ ∀ v', EnL (es.modify j fun e => { e with key := kE k, val := .int .i64 v' }) (updK l k v')
  | [], [], i, _, _ => .inl ⟨rfl, by simp [Instr.findAsking], fun v => rfl⟩
  | [], _ :: _, _, h, _ => by simp [EnL] at h
  | _ :: _, [], _, h, _ => by simp [EnL] at h
  | e :: es, p :: l, i, h, hn => by
    simp only [EnL, List.map_cons, List.cons.injEq, Prod.mk.injEq] at h
    obtain ⟨⟨h1, h2⟩, h3⟩ := h
    have heq := run_eqK hk (hn p (by simp))
    by_cases hp : p.1 = k
    · right
      refine ⟨0, p.2, by rw [lookK, if_pos hp], ?_, ⟨e, rfl, by rw [h1, hp]⟩, fun v' => ?_⟩
      · rw [hp] at heq
        rw [Instr.findAsking, h1, hp]
        simp [heq, h2]
      · simp only [List.modify_zero_cons, EnL, List.map_cons, updK, if_pos hp]
        rw [h3]
    · have hne : ¬ k = p.1 := fun e => hp e.symm
      have hrun : (Instr.findAsking 182 (kE k) (e :: es) i).run Tryz.prog w = (Instr.findAsking 182 (kE k) es (i + 1)).run Tryz.prog w := by
        rw [Instr.findAsking, h1]
        simp [heq, hne]
      rw [hrun, lookK, if_neg hp]
      rcases run_find hk es l (i + 1) h3 (fun q hq => hn q (by simp [hq])) with ⟨a1, a2, a3⟩ | ⟨j, v, a1, a2, a3, a4⟩
      · exact .inl ⟨a1, a2, fun v => by rw [updK, if_neg hp, a3 v]; rfl⟩
      · right
        refine ⟨j + 1, v, a1, by rw [a2, show i + 1 + j = i + (j + 1) by omega], by simpa using a3, fun v' => ?_⟩
        simp only [List.modify_succ_cons, EnL, List.map_cons, updK, if_neg hp]
        rw [h1, h2]
        exact congrArg _ (a4 v')

theorem same_kE (k : Ky) : Instr.sameBits 10000 (kE k) (kE k) = true := by
  show Instr.sameBits (9999 + 1) (kE k) (kE k) = true
  unfold kE
  simp [Instr.sameBits]

theorem map104 : Tryz.prog.underlying 104 = some (.map 182 3) := by kernel_rfl
theorem zero3 (w : World) : (zeroValue 3).run Tryz.prog w = .ok (.int .i64 0) w := by
  obtain ⟨i, hi, h⟩ := Option.map_eq_some_iff.1 (show (Tryz.prog.info? 3).map (fun i => i.zero) = some (some (.int .i64 0)) by kernel_rfl)
  simp [zeroValue, typeInfo, hi, h]
theorem struct182 : Tryz.prog.underlying 182 = some (.struct (Tryz.prog.fieldsOf 182)) := by kernel_rfl
theorem run_findKey_struct {P : Program} (w : World) {k : TypeId} {fs : Array Field} (hu : P.underlying k = some (.struct fs)) (x : Value) (es : List MapEntry) :
    (Instr.findKey k x es).run P w = (Instr.findAsking k x es).run P w := by
  cases es with
  | nil => simp [Instr.findKey, run_underlying hu, Instr.findNow, Instr.findAsking]
  | cons e es => simp [Instr.findKey, run_underlying hu, Instr.findNow, Instr.sameNow]

section
variable {P : Program} {w : World} {mt kt et : TypeId} {r clock : Nat} {es : Array MapEntry} {key val : Value}
theorem run_lookup_some (hm : P.underlying mt = some (.map kt et)) (hb : w.heap[r]? = some (.map es clock)) (hc : (Instr.checkKey es.isEmpty 10000 kt key).run P w = .ok () w) {j : Nat} {v : Value}
    (hf : (Instr.findKey kt key es.toList).run P w = .ok (some (j, v)) w) : (Instr.lookup mt (.map (some r)) key false).run P w = .ok v w := by
  simp [Instr.lookup, run_underlying hm, Go.MapKept.run_getObj_map hb, hc, hf]
theorem run_lookup_none (hm : P.underlying mt = some (.map kt et)) (hb : w.heap[r]? = some (.map es clock)) (hc : (Instr.checkKey es.isEmpty 10000 kt key).run P w = .ok () w) {z : Value} (hz : (zeroValue et).run P w = .ok z w)
    (hf : (Instr.findKey kt key es.toList).run P w = .ok none w) : (Instr.lookup mt (.map (some r)) key false).run P w = .ok z w := by
  simp [Instr.lookup, run_underlying hm, Go.MapKept.run_getObj_map hb, hc, hf, hz]
theorem run_update_some (hm : P.underlying mt = some (.map kt et)) (hb : w.heap[r]? = some (.map es clock)) (hc : (Instr.checkKey false 10000 kt key).run P w = .ok () w) {j : Nat} {v : Value}
    (hf : (Instr.findKey kt key es.toList).run P w = .ok (some (j, v)) w) {e : MapEntry} (he : es[j]? = some e) (hk : Instr.sameBits 10000 e.key key = true) :
    (Instr.mapUpdate mt (.map (some r)) key val).run P w = .ok () { w with heap := w.heap.setIfInBounds r (.map (es.modify j fun e => { e with key := key, val := val }) clock) } := by
  simp [Instr.mapUpdate, run_underlying hm, Go.MapKept.run_getObj_map hb, hc, hf, he, Instr.keyThatStays, hk, Go.MapKept.run_setObj_map _ hb]
theorem run_update_none (hm : P.underlying mt = some (.map kt et)) (hb : w.heap[r]? = some (.map es clock)) (hc : (Instr.checkKey false 10000 kt key).run P w = .ok () w)
    (hf : (Instr.findKey kt key es.toList).run P w = .ok none w) :
    (Instr.mapUpdate mt (.map (some r)) key val).run P w = .ok () { w with heap := w.heap.setIfInBounds r (.map (es.push { key, val, born := clock }) (clock + 1)) } := by
  simp [Instr.mapUpdate, run_underlying hm, Go.MapKept.run_getObj_map hb, hc, hf, Go.MapKept.run_setObj_map _ hb]
end

/-- What the look-up gives. -/
theorem run_look {w : World} {r : Nat} {l : List (Ky × Int)} (hm : IsMap w r l) (hn : NodesB w l) {k : Ky} (hk : NodeB w k.b) :
    (Instr.lookup 104 (.map (some r)) (kE k) false).run Tryz.prog w = .ok (.int .i64 ((lookK l k).getD 0)) w := by
  obtain ⟨es, clock, hb, hE⟩ := hm
  have hf := run_find hk es.toList l 0 hE hn
  have hc := run_checkK w es.isEmpty k
  have hfk := run_findKey_struct w struct182 (kE k) es.toList
  rcases hf with ⟨h1, h2, _⟩ | ⟨j, v, h1, h2, _⟩
  · rw [h2] at hfk
    rw [h1]
    exact run_lookup_none map104 hb hc (zero3 w) hfk
  · rw [h2] at hfk
    rw [h1]
    exact run_lookup_some map104 hb hc hfk

/-- What the update leaves. -/
theorem run_upd {w : World} {r : Nat} {l : List (Ky × Int)} (hm : IsMap w r l) (hn : NodesB w l) {k : Ky} (hk : NodeB w k.b) (v : Int) :
    ∃ w', (Instr.mapUpdate 104 (.map (some r)) (kE k) (.int .i64 v)).run Tryz.prog w = .ok () w' ∧ IsMap w' r (updK l k v) ∧ Kp (fun j => j = r) w w' := by
  obtain ⟨es, clock, hb, hE⟩ := hm
  have hlt := (Array.getElem?_eq_some_iff.1 hb).1
  have hkp : ∀ o, Kp (fun j => j = r) w { w with heap := w.heap.setIfInBounds r o } := fun o => ⟨rfl, rfl, rfl, by simp, fun i hi hne => by
    rw [Array.getElem?_setIfInBounds_ne (fun e => hne e.symm)]⟩
  have hat : ∀ o, ({ w with heap := w.heap.setIfInBounds r o } : World).heap[r]? = some o := fun o => by
    show (w.heap.setIfInBounds r o)[r]? = some o
    rw [Array.getElem?_setIfInBounds_self_of_lt hlt]
  have hc := run_checkK w false k
  have hfk := run_findKey_struct w struct182 (kE k) es.toList
  rcases run_find hk es.toList l 0 hE hn with ⟨h1, h2, h3⟩ | ⟨j, v0, h1, h2, ⟨e, he, hek⟩, h4⟩
  · rw [h2] at hfk
    refine ⟨_, run_update_none map104 hb hc hfk, ⟨_, _, hat _, ?_⟩, hkp _⟩
    rw [h3 v, Array.toList_push]
    simp only [EnL, List.map_append, List.map_cons, List.map_nil]
    rw [hE]
  · rw [h2] at hfk
    rw [Nat.zero_add] at hfk
    refine ⟨_, run_update_some map104 hb hc hfk (e := e) (by rw [← he]; simp) (by rw [hek]; exact same_kE k), ⟨_, _, hat _, ?_⟩, hkp _⟩
    rw [Array.toList_modify]
    exact h4 v
end Go.Proofs.YtoijabgcgdgacaaGreatDoor

namespace Go.Proofs.YtoijabgcgdgacaaGreatDoor
open Go.RowKit Go.Proofs.Gram Go.Lib

/-! what lies in memory is one pattern -/
theorem cells_val {w : World} {ok ok' : Nat → Prop} {v : Value} {n n' : Nat} {cs cs' : List Value} (h : Cells w ok v n cs) (h' : Cells w ok' v n' cs') :
    n = n' ∧ ∀ (i : Nat) (u u' : Value), cs[i]? = some u → cs'[i]? = some u' → u = u' := by
  rcases h with ⟨rfl, rfl, rfl⟩ | ⟨g, off, cap, rfl, _, _, _, _, hc⟩
  · rcases h' with ⟨_, rfl, rfl⟩ | ⟨g', off', cap', e, _⟩
    · exact ⟨rfl, fun i u u' hu => by simp at hu⟩
    · cases e
  · rcases h' with ⟨e, _⟩ | ⟨g', off', cap', e, _, _, _, _, hc'⟩
    · cases e
    · cases e
      exact ⟨rfl, fun i u u' hu hu' => Option.some.inj ((hc i u hu).symm.trans (hc' i u' hu'))⟩
theorem rcells_eq : ∀ {l l' : List (Int × Int)}, l.length = l'.length → (∀ (i : Nat) (u u' : Value), (rcells l)[i]? = some u → (rcells l')[i]? = some u' → u = u') → l = l'
  | [], [], _, _ => rfl
  | [], _ :: _, h, _ => by simp at h
  | _ :: _, [], h, _ => by simp at h
  | (a, b) :: l, (c, d) :: l', h, k => by
    have h0 := k 0 (.int .i64 a) (.int .i64 c) (by simp [rcells]) (by simp [rcells])
    have h1 := k 1 (.int .i64 b) (.int .i64 d) (by simp [rcells]) (by simp [rcells])
    simp only [Value.int.injEq, true_and] at h0 h1
    rw [h0, h1, rcells_eq (l := l) (l' := l') (by simpa using h) fun i u u' hu hu' => k (i + 2) u u' (by simpa [rcells] using hu) (by simpa [rcells] using hu')]
theorem IsRe.one {w : World} {ok ok' : Nat → Prop} : ∀ {v : Value} {t t' : Rx}, IsRe w ok v t → IsRe w ok' v t' → t = t' := by
  intro v t t' h
  induction h generalizing t' with
  | nil => intro h'; cases h'; rfl
  | mk b kind mn mx set kids sv kv ps hb hok hs hk hl hh ih =>
    intro h'
    cases h' with
    | mk _ kind' mn' mx' set' kids' sv' kv' ps' hb' hok' hs' hk' hl' hh' =>
      rw [hb] at hb'
      simp only [Option.some.injEq, Obj.cells.injEq, Array.mk.injEq, List.cons.injEq, Value.int.injEq, true_and, and_true] at hb'
      obtain ⟨rfl, rfl, rfl, rfl, rfl⟩ := hb'
      have e1 := cells_val hs hs'
      have e2 := cells_val hk hk'
      have : set = set' := rcells_eq e1.1 e1.2
      subst this
      have : kids = kids' := by
        refine List.ext_getElem e2.1 fun i h1 h2 => ?_
        have hp : ps[i]? = some (ps[i]'(by omega)) := by simp
        have hp' : ps'[i]? = some (ps'[i]'(by omega)) := by simp
        have he := e2.2 i _ _ hp hp'
        have ht : kids[i]? = some kids[i] := by simp
        have ht' : kids'[i]? = some kids'[i] := by simp
        exact ih i _ _ hp ht (by rw [he]; exact hh' i _ _ hp' ht')
      rw [this]

/-! ranks -/
def base (s : Nat) : Nat := s * (s + 3000)
theorem base_step {s s' : Nat} (h : s' < s) : base s' + (s' + 3000) ≤ base s := by
  have := Nat.mul_le_mul (show s' + 1 ≤ s by omega) (show s' + 3000 ≤ s + 3000 by omega)
  unfold base
  rw [Nat.add_mul, Nat.one_mul] at this
  omega
theorem base_le {s s' : Nat} (h : s' ≤ s) : base s' ≤ base s := Nat.mul_le_mul h (by omega)
def localK : Rx → Ky → Nat
  | .nil, _ => 0
  | .mk kind _ _ _ kids, k => if kind = 2 then kids.length - k.n else (k.t - k.f) * 60 + (60 - k.n)
noncomputable def rank (t : Rx) (k : Ky) : Nat := base (SizeOf.sizeOf t) + localK t k
theorem len_le_size : ∀ l : List Rx, l.length ≤ SizeOf.sizeOf l
  | [] => by simp
  | x :: l => by
    have := len_le_size l
    simp only [List.length_cons, List.cons.sizeOf_spec]
    omega
theorem local_le (t : Rx) (k : Ky) (h : k.t - k.f ≤ 40) : localK t k < SizeOf.sizeOf t + 3000 := by
  cases t with
  | nil => simp [localK]
  | mk kind set mn mx kids =>
    have := len_le_size kids
    rw [localK, Rx.mk.sizeOf_spec]
    split <;> omega
theorem rank_lt {t t' : Rx} {k : Ky} (h : SizeOf.sizeOf t' < SizeOf.sizeOf t) (hk : k.t - k.f ≤ 40) : rank t' k < base (SizeOf.sizeOf t) := by
  have := base_step h
  have := local_le t' k hk
  unfold rank
  omega
theorem rank_top {t : Rx} {k : Ky} (hk : k.t - k.f ≤ 40) : rank t k < base (SizeOf.sizeOf t + 1) := by
  have := base_step (show SizeOf.sizeOf t < SizeOf.sizeOf t + 1 by omega)
  have := local_le t k hk
  unfold rank
  omega

/-! the answers -/
def AnsK (L : List Int) : Rx → Ky → Prop
  | .nil, _ => False
  | .mk kind _ mn mx kids, k => if kind = 2 then LgC (kids.drop k.n) (seg L k.f k.t) else Tn mn mx (LgH kids) k.n (seg L k.f k.t)
def Cor (L : List Int) (t : Rx) (k : Ky) (v : Int) : Prop := (v = 1 ∧ AnsK L t k) ∨ (v = 2 ∧ ¬ AnsK L t k)

def NT (w0 : World) (r b : Nat) (t : Rx) : Prop := IsRe w0 (fun k => k ≠ r) (.pointer (some ⟨b, 0, none⟩)) t
theorem NT.one {w0 : World} {r b : Nat} {t t' : Rx} (h : NT w0 r b t) (h' : NT w0 r b t') : t = t' := IsRe.one h h'
theorem NT.node {w0 : World} {r b : Nat} {t : Rx} (h : NT w0 r b t) : NodeB w0 b ∧ b ≠ r := by
  cases h with
  | mk _ _ _ _ _ _ _ _ _ hb hok => exact ⟨⟨_, hb⟩, hok⟩

def Good (w0 : World) (r : Nat) (L : List Int) (B : Nat) (M : List (Ky × Int)) : Prop := ∀ k v, lookK M k = some v → ∀ t, NT w0 r k.b t → rank t k < B → Cor L t k v
def Ext (w0 : World) (r : Nat) (L : List Int) (B : Nat) (M M' : List (Ky × Int)) : Prop :=
  ∀ k, lookK M' k = lookK M k ∨ ((∃ t, NT w0 r k.b t ∧ rank t k < B) ∧ ∃ v, lookK M' k = some v ∧ ∀ t, NT w0 r k.b t → Cor L t k v)
section
variable {w0 : World} {r : Nat} {L : List Int} {B B' : Nat} {M M' M'' : List (Ky × Int)}
theorem Ext.refl : Ext w0 r L B M M := fun _ => .inl rfl
theorem Good.mono (h : Good w0 r L B M) (hB : B' ≤ B) : Good w0 r L B' M := fun k v hk t ht hr => h k v hk t ht (Nat.lt_of_lt_of_le hr hB)
theorem Ext.mono (h : Ext w0 r L B M M') (hB : B ≤ B') : Ext w0 r L B' M M' := fun k => (h k).imp id fun ⟨⟨t, ht, hr⟩, hv⟩ => ⟨⟨t, ht, Nat.lt_of_lt_of_le hr hB⟩, hv⟩
theorem Ext.trans (h : Ext w0 r L B M M') (h' : Ext w0 r L B M' M'') : Ext w0 r L B M M'' := fun k => by
  rcases h' k with e | e
  · rcases h k with e' | e'
    · exact .inl (e.trans e')
    · refine .inr ⟨e'.1, ?_⟩
      rw [e]
      exact e'.2
  · exact .inr e
theorem Good.ext (h : Good w0 r L B' M) (he : Ext w0 r L B M M') : Good w0 r L B' M' := fun k v hk t ht hr => by
  rcases he k with e | ⟨_, v', hv, hc⟩
  · exact h k v (e ▸ hk) t ht hr
  · rw [hk] at hv
    cases hv
    exact hc t ht
theorem Ext.same (he : Ext w0 r L B M M') {k : Ky} {t : Rx} (ht : NT w0 r k.b t) (hr : B ≤ rank t k) : lookK M' k = lookK M k := by
  rcases he k with e | ⟨⟨t', ht', hr'⟩, _⟩
  · exact e
  · rw [ht'.one ht] at hr'
    omega
/-- A right entry laid. -/
theorem Ext.upd {k : Ky} {t : Rx} {v : Int} (ht : NT w0 r k.b t) (hr : rank t k < B) (hc : Cor L t k v) (h : Ext w0 r L B M M') : Ext w0 r L B M (updK M' k v) := fun k' => by
  rw [look_upd]
  by_cases e : k' = k
  · subst e
    rw [if_pos rfl]
    exact .inr ⟨⟨t, ht, hr⟩, v, rfl, fun t' ht' => by rw [ht'.one ht]; exact hc⟩
  · rw [if_neg e]
    exact h k'
/-- An entry of the rank itself laid: those below are as they were. -/
theorem Good.upd {k : Ky} {t : Rx} {v : Int} (h : Good w0 r L B M) (ht : NT w0 r k.b t) (hr : B ≤ rank t k) : Good w0 r L B (updK M k v) := fun k' v' hk t' ht' hr' => by
  rw [look_upd] at hk
  split at hk
  · rename_i e
    subst e
    rw [ht'.one ht] at hr'
    omega
  · exact h k' v' hk t' ht' hr'
/-- The own entry first laid as 2, the parts asked, then this. -/
theorem Ext.own {k : Ky} {t : Rx} {v v0 : Int} (ht : NT w0 r k.b t) (hc : Cor L t k v) (h : Ext w0 r L (rank t k) (updK M k v0) M') (hv : lookK M' k = some v) : Ext w0 r L (rank t k + 1) M M' := fun k' => by
  by_cases e : k' = k
  · subst e
    exact .inr ⟨⟨t, ht, by omega⟩, v, hv, fun t' ht' => by rw [ht'.one ht]; exact hc⟩
  · rcases h k' with h1 | ⟨⟨t', ht', hr'⟩, h2⟩
    · rw [look_upd, if_neg e] at h1
      exact .inl h1
    · exact .inr ⟨⟨t', ht', by omega⟩, h2⟩
end

section
variable {w0 : World} {r : Nat} {L : List Int} {M M' : List (Ky × Int)}
theorem Ext.own1 {k : Ky} {t : Rx} {v v0 : Int} (ht : NT w0 r k.b t) (hc : Cor L t k v) (h : Ext w0 r L (rank t k) (updK M k v0) M') : Ext w0 r L (rank t k + 1) M (updK M' k v) := fun k' => by
  rw [look_upd]
  by_cases e : k' = k
  · subst e
    rw [if_pos rfl]
    exact .inr ⟨⟨t, ht, by omega⟩, v, rfl, fun t' ht' => by rw [ht'.one ht]; exact hc⟩
  · rw [if_neg e]
    rcases h k' with h1 | ⟨⟨t', ht', hr'⟩, h2⟩
    · rw [look_upd, if_neg e] at h1
      exact .inl h1
    · exact .inr ⟨⟨t', ht', by omega⟩, h2⟩
end

/-- What holds of the world with the matcher in it. -/
structure MI (w0 w : World) (r : Nat) (M : List (Ky × Int)) : Prop where
  kp : Kp (onB r) w0 w
  map : IsMap w r M
  nodes : ∀ p ∈ M, NodeB w0 p.1.b ∧ p.1.b ≠ r
section
variable {w0 w w' : World} {r : Nat} {M : List (Ky × Int)}
theorem NodeB.kp {b : Nat} (h : NodeB w0 b) (hb : b ≠ r) (hk : Kp (onB r) w0 w) : NodeB w b := by
  obtain ⟨cs, hc⟩ := h
  exact ⟨cs, hk.heap hc (onB_not hb)⟩
theorem MI.nb (h : MI w0 w r M) : NodesB w M := fun p hp => (h.nodes p hp).1.kp (h.nodes p hp).2 h.kp
theorem IsMap.kp (h : IsMap w r M) (hk : Kp noB w w') : IsMap w' r M := by
  obtain ⟨es, c, hb, hE⟩ := h
  exact ⟨es, c, hk.heap hb (noB_not _), hE⟩
theorem MI.keep (h : MI w0 w r M) (hk : Kp noB w w') : MI w0 w' r M := ⟨h.kp.trans hk.any, h.map.kp hk, h.nodes⟩
theorem mem_upd {p : Ky × Int} {k : Ky} {v : Int} : ∀ {l : List (Ky × Int)}, p ∈ updK l k v → p ∈ l ∨ p = (k, v)
  | [], h => by simp [updK] at h; exact .inr h
  | q :: l, h => by
    rw [updK] at h
    split at h
    · rcases List.mem_cons.1 h with h | h
      · exact .inr h
      · exact .inl (List.mem_cons_of_mem _ h)
    · rcases List.mem_cons.1 h with h | h
      · exact .inl (by simp [h])
      · exact (mem_upd h).imp (fun h => List.mem_cons_of_mem _ h) id
/-- The update. -/
theorem MI.upd (h : MI w0 w r M) {k : Ky} (hk : NodeB w0 k.b) (hb : k.b ≠ r) (v : Int) :
    ∃ w', (Instr.mapUpdate 104 (.map (some r)) (kE k) (.int .i64 v)).run Tryz.prog w = .ok () w' ∧ MI w0 w' r (updK M k v) ∧ Kp (onB r) w w' := by
  obtain ⟨w', h1, h2, h3⟩ := run_upd h.map h.nb (hk.kp hb h.kp) v
  exact ⟨w', h1, ⟨h.kp.trans h3, h2, fun p hp => (mem_upd hp).elim (fun hp => h.nodes p hp) fun e => by rw [e]; exact ⟨hk, hb⟩⟩, h3⟩
theorem MI.look (h : MI w0 w r M) {k : Ky} (hk : NodeB w0 k.b) (hb : k.b ≠ r) : ∀ q, (Instr.lookup 104 (.map (some r)) (kE k) false).run Tryz.prog (w.drewN q) = .ok (.int .i64 ((lookK M k).getD 0)) (w.drewN q) := fun q => by
  have h' := h.keep ((Kp.refl noB w).drewN q)
  exact run_look h'.map h'.nb (hk.kp hb h'.kp)
end
end Go.Proofs.YtoijabgcgdgacaaGreatDoor

namespace Go.Proofs.YtoijabgcgdgacaaGreatDoor
open Go.RowKit Go.Proofs.Gram Go.Lib

/-- The matcher, as it lies in the world of the start. -/
structure MW (w0 : World) (r mb : Nat) (A : Option Addr) (N cap : Nat) (L : List Int) : Prop where
  node : w0.heap[mb]? = some (.cells #[.slice A N cap, .map (some r)] 106 (0, 0))
  ne : mb ≠ r
  lt : r < w0.heap.size
  len : L.length = N
  small : N ≤ 40
  pts : ∀ i x, L[i]? = some x → ∃ g off, A = some ⟨g, off, none⟩ ∧ w0.cell? ⟨g, off + i, none⟩ = some (.int .i64 x) ∧ g ≠ r

/-- What a call of the matcher tells. -/
def MP (w0 w : World) (r : Nat) (L : List Int) (B : Nat) (M : List (Ky × Int)) (p : Prop) (e : Ending) (w' : World) : Prop :=
  ∃ bl M', e = .returned (.bool bl) ∧ (bl = true ↔ p) ∧ MI w0 w' r M' ∧ Ext w0 r L B M M' ∧ Kp (onB r) w w'
theorem MP.mono {w0 w w' : World} {r : Nat} {L : List Int} {B B' : Nat} {M : List (Ky × Int)} {p p' : Prop} {e : Ending} (h : MP w0 w r L B M p e w') (hB : B ≤ B') (hp : p ↔ p') : MP w0 w r L B' M p' e w' := by
  obtain ⟨bl, M', h1, h2, h3, h4, h5⟩ := h
  exact ⟨bl, M', h1, h2.trans hp, h3, h4.mono hB, h5⟩

section
variable {w0 w : World} {r mb : Nat} {A : Option Addr} {N cap : Nat} {L : List Int} {M : List (Ky × Int)} {t : Rx} {k : Ky}

theorem two_cells {w : World} {b : Nat} {x y : Value} {ty : TypeId} (h : w.heap[b]? = some (.cells #[x, y] ty (0, 0))) : w.cell? ⟨b, 0, none⟩ = some x ∧ w.cell? ⟨b, 1, none⟩ = some y := by
  constructor <;> simp [World.cell?, h]

/-- The key, as the walk spells it. -/
theorem kE_def (k : Ky) : kE k = .agg #[.pointer (some ⟨k.b, 0, none⟩), .int .i64 k.f, .int .i64 k.t, .int .i64 k.n] := rfl
theorem four_new (w : World) (a b c d : Value) (t : TypeId) : ∀ i u, [a, b, c, d][i]? = some u → (w.alloc (.cells #[a, b, c, d] t)).cell? ⟨w.heap.size, i, none⟩ = some u := by
  intro i u hu
  have hrow := heap_alloc_new w (.cells #[a, b, c, d] t)
  unfold World.cell?
  simp only [hrow]
  rw [← hu, ← Array.getElem?_toList]
  rfl

set_option maxRecDepth 100000 in
set_option maxHeartbeats 2000000 in
/-- Asked before. -/
theorem memo155_old (hW : MW w0 r mb A N cap L) (hI : MI w0 w r M) (ht : NT w0 r k.b t) {v : Int} (hv : lookK M k = some v) (hc : Cor L t k v) (cs : Array Value) :
    Calls Tryz.prog 154 #[.pointer (some ⟨mb, 0, none⟩), .agg #[.pointer (some ⟨k.b, 0, none⟩), .int .i64 k.f, .int .i64 k.t, .int .i64 k.n], .func (.func 155) #[] cs] w (MP w0 w r L (rank t k + 1) M (AnsK L t k)) := by
  have hnode := ht.node
  obtain ⟨m0, m1⟩ := two_cells (hI.kp.heap hW.node (onB_not hW.ne))
  have hka : Kp noB w (w.alloc (.cells #[.pointer (some ⟨k.b, 0, none⟩), .int .i64 k.f, .int .i64 k.t, .int .i64 k.n] 182)) := (Kp.refl _ _).alloc _
  have a0 := hka.cell m0 (noB_not _)
  have a1 := hka.cell m1 (noB_not _)
  have hn4 := four_new w (.pointer (some ⟨k.b, 0, none⟩)) (.int .i64 k.f) (.int .i64 k.t) (.int .i64 k.n) 182
  have s0 := hn4 0 _ rfl
  have s1 := hn4 1 _ rfl
  have s2 := hn4 2 _ rfl
  have s3 := hn4 3 _ rfl
  have hlk := (hI.keep hka).look hnode.1 hnode.2
  rw [hv] at hlk
  simp only [Option.getD_some] at hlk
  unfold kE at hlk
  have HF : Hid (∀ q, MI w0 ((w.alloc (.cells #[.pointer (some ⟨k.b, 0, none⟩), .int .i64 k.f, .int .i64 k.t, .int .i64 k.n] 182)).drewN q) r M) := Lib.hid fun q => hI.keep (hka.drewN q)
  have HKA : Hid (∀ q, Kp (onB r) w ((w.alloc (.cells #[.pointer (some ⟨k.b, 0, none⟩), .int .i64 k.f, .int .i64 k.t, .int .i64 k.n] 182)).drewN q)) := Lib.hid fun q => hka.any.drewN q
  have HC := Lib.hid hc
  have hb0 : (v == (0 : Int)) = false := by rcases hc with ⟨rfl, _⟩ | ⟨rfl, _⟩ <;> rfl
  clear hn4 hc hI hW ht hnode hka hv m0 m1
  generalize hG : w.alloc (.cells #[.pointer (some ⟨k.b, 0, none⟩), .int .i64 k.f, .int .i64 k.t, .int .i64 k.n] 182) = wa at *
  have HG := Lib.hid hG
  clear hG
  go_enter Tryz.func154, Tryz.ntmps154
  go_wp2_with fail
  rw [HG.out]
  go_wp2_with fail
  go_quiet (fail)
  go_wp2_with fail
  go_quiet (fail)
  go_wp2_with fail
  go_ret
  refine ⟨(v == 1), M, rfl, ?_, by simpa using HF.out _, Ext.refl, by simpa using HKA.out _⟩
  rcases HC.out with ⟨rfl, h⟩ | ⟨rfl, h⟩
  · exact ⟨fun _ => h, fun _ => rfl⟩
  · exact ⟨fun h => (by cases h), fun h' => absurd h' h⟩

set_option maxRecDepth 100000 in
set_option maxHeartbeats 2000000 in
/-- Asked for the first time. -/
theorem memo155_new (hW : MW w0 r mb A N cap L) (hI : MI w0 w r M) (hg : Good w0 r L (rank t k) M) (ht : NT w0 r k.b t) (hv : lookK M k = none) (cs : Array Value)
    (hclo : ∀ w1 M1, Kp (onB r) w w1 → MI w0 w1 r M1 → Good w0 r L (rank t k) M1 → Calls Tryz.prog 155 cs w1 (MP w0 w1 r L (rank t k) M1 (AnsK L t k))) :
    Calls Tryz.prog 154 #[.pointer (some ⟨mb, 0, none⟩), .agg #[.pointer (some ⟨k.b, 0, none⟩), .int .i64 k.f, .int .i64 k.t, .int .i64 k.n], .func (.func 155) #[] cs] w (MP w0 w r L (rank t k + 1) M (AnsK L t k)) := by
  have hnode := ht.node
  have hm := two_cells hW.node
  have hka : Kp noB w (w.alloc (.cells #[.pointer (some ⟨k.b, 0, none⟩), .int .i64 k.f, .int .i64 k.t, .int .i64 k.n] 182)) := (Kp.refl _ _).alloc _
  have HM : Hid (∀ w', Kp (onB r) w0 w' → w'.cell? ⟨mb, 0, none⟩ = some (.slice A N cap) ∧ w'.cell? ⟨mb, 1, none⟩ = some (.map (some r))) := Lib.hid fun w' hk => ⟨hk.cell hm.1 (onB_not hW.ne), hk.cell hm.2 (onB_not hW.ne)⟩
  have hn4 := four_new w (.pointer (some ⟨k.b, 0, none⟩)) (.int .i64 k.f) (.int .i64 k.t) (.int .i64 k.n) 182
  have s0 := hn4 0 _ rfl
  have s1 := hn4 1 _ rfl
  have s2 := hn4 2 _ rfl
  have s3 := hn4 3 _ rfl
  have hbox : w.heap.size ≠ r := by have := hW.lt; have := hI.kp.size; omega
  have hIa := hI.keep hka
  obtain ⟨a0, a1⟩ := HM.out _ hIa.kp
  have hlk := hIa.look hnode.1 hnode.2
  rw [hv] at hlk
  simp only [Option.getD_none] at hlk
  unfold kE at hlk
  have HIA := Lib.hid hIa
  have HUPD : Hid (∀ (w1 : World) (M1 : List (Ky × Int)) (v : Int), MI w0 w1 r M1 → ∃ w', (Instr.mapUpdate 104 (.map (some r)) (.agg #[.pointer (some ⟨k.b, 0, none⟩), .int .i64 k.f, .int .i64 k.t, .int .i64 k.n]) (.int .i64 v)).run Tryz.prog w1 = .ok () w' ∧ MI w0 w' r (updK M1 k v) ∧ Kp (onB r) w1 w') := Lib.hid fun w1 M1 v h1 => h1.upd hnode.1 hnode.2 v
  have HKA : Hid (Kp (onB r) w (w.alloc (.cells #[.pointer (some ⟨k.b, 0, none⟩), .int .i64 k.f, .int .i64 k.t, .int .i64 k.n] 182))) := Lib.hid hka.any
  have HG2 : Hid (Good w0 r L (rank t k) (updK M k 2)) := Lib.hid (hg.upd ht (Nat.le_refl _))
  have HCLO := Lib.hid hclo
  have HT := Lib.hid (And.intro ht hnode)
  clear hn4 hI hW ht hnode hka hv hclo hg hIa hm
  generalize hG : w.alloc (.cells #[.pointer (some ⟨k.b, 0, none⟩), .int .i64 k.f, .int .i64 k.t, .int .i64 k.n] 182) = wa at *
  have HG := Lib.hid hG
  clear hG
  go_enter Tryz.func154, Tryz.ntmps154
  go_wp2_with fail
  rw [HG.out]
  go_wp2_with fail
  go_quiet (fail)
  have b0 : (wa.drewN nq).cell? ⟨mb, 0, none⟩ = some (.slice A N cap) := a0
  have b1 : (wa.drewN nq).cell? ⟨mb, 1, none⟩ = some (.map (some r)) := a1
  have t0 : (wa.drewN nq).cell? ⟨w.heap.size, 0, none⟩ = _ := s0
  have t1 : (wa.drewN nq).cell? ⟨w.heap.size, 1, none⟩ = _ := s1
  have t2 : (wa.drewN nq).cell? ⟨w.heap.size, 2, none⟩ = _ := s2
  have t3 : (wa.drewN nq).cell? ⟨w.heap.size, 3, none⟩ = _ := s3
  have HKB : Hid (Kp noB wa (wa.drewN nq)) := Lib.hid ((Kp.refl noB wa).drewN nq)
  generalize wa.drewN nq = wb at *
  go_wp2_with fail
  go_still_tail 5, (by kernel_rfl)
  change wpList _ _ _ _ _ wb.drew
  obtain ⟨w2, hup, hI2, hk2⟩ := HUPD.out wb.drew M 2 ((HIA.out.keep HKB.out).keep ((Kp.refl noB wb).drew))
  have HI2 := Lib.hid hI2
  have HK2 : Hid (Kp (onB r) wa w2) := Lib.hid ((HKB.out.any.trans ((Kp.refl (onB r) wb).drew)).trans hk2)
  have HC2 := Lib.hid (HCLO.out w2 _ (HKA.out.trans HK2.out) hI2 HG2.out)
  clear hI2 hk2 HG2 HCLO
  go_wp2_with (go_at_call 155; refine HC2.out.mono ?_; rintro e w3 ⟨bl, M2, rfl, hbl, hI3, hE3, hk3⟩)
  · have hbt : bl = true := by assumption
    subst hbt
    have hyes := hbl.1 rfl
    have hK3 := HK2.out.trans hk3
    obtain ⟨c0, c1⟩ := HM.out _ hI3.kp
    have d0 := hK3.cell s0 (onB_not hbox)
    have d1 := hK3.cell s1 (onB_not hbox)
    have d2 := hK3.cell s2 (onB_not hbox)
    have d3 := hK3.cell s3 (onB_not hbox)
    have HI3 := Lib.hid hI3
    have HE3 := Lib.hid hE3
    have HYES := Lib.hid hyes
    have HK3 := Lib.hid hK3
    clear hlk hbl hyes hK3 hI3 hE3 hk3 hup t0 t1 t2 t3 a0 a1 b0 b1
    go_still_tail 5, (by kernel_rfl)
    change wpList _ _ _ _ _ w3.drew
    obtain ⟨w4, hup4, hI4, hk4⟩ := HUPD.out w3.drew M2 1 (HI3.out.keep ((Kp.refl noB w3).drew))
    have hK4 := (HK3.out.trans ((Kp.refl (onB r) w3).drew)).trans hk4
    obtain ⟨e0, e1⟩ := HM.out _ hI4.kp
    have f0 := hK4.cell s0 (onB_not hbox)
    have f1 := hK4.cell s1 (onB_not hbox)
    have f2 := hK4.cell s2 (onB_not hbox)
    have f3 := hK4.cell s3 (onB_not hbox)
    have hlk4 := hI4.look HT.out.2.1 HT.out.2.2
    rw [look_upd, if_pos rfl] at hlk4
    simp only [Option.getD_some] at hlk4
    unfold kE at hlk4
    have HF : Hid (∀ q, MI w0 (w4.drewN q) r (updK M2 k 1) ∧ Ext w0 r L (rank t k + 1) M (updK M2 k 1) ∧ Kp (onB r) w (w4.drewN q)) := Lib.hid fun q => ⟨hI4.keep ((Kp.refl noB w4).drewN q), Ext.own1 HT.out.1 (.inl ⟨rfl, HYES.out⟩) HE3.out, (HKA.out.trans hK4).drewN q⟩
    clear hK4 hI4 hk4 s0 s1 s2 s3
    go_wp2_with fail
    clear hup4 c0 c1 d0 d1 d2 d3
    go_quiet (fail)
    go_wp2_with fail
    go_ret
    exact ⟨true, _, rfl, ⟨fun _ => HYES.out, fun _ => rfl⟩, (HF.out _).1, (HF.out 0).2.1, (HF.out _).2.2⟩
  · have hbf : bl = false := by assumption
    subst hbf
    have hno : ¬ AnsK L t k := fun h => (by have := hbl.2 h; cases this)
    have hlook : lookK M2 k = some 2 := by rw [hE3.same HT.out.1 (Nat.le_refl _), look_upd, if_pos rfl]
    have hK3 := HK2.out.trans hk3
    obtain ⟨c0, c1⟩ := HM.out _ hI3.kp
    have d0 := hK3.cell s0 (onB_not hbox)
    have d1 := hK3.cell s1 (onB_not hbox)
    have d2 := hK3.cell s2 (onB_not hbox)
    have d3 := hK3.cell s3 (onB_not hbox)
    have hlk3 := hI3.look HT.out.2.1 HT.out.2.2
    rw [hlook] at hlk3
    simp only [Option.getD_some] at hlk3
    unfold kE at hlk3
    have HF : Hid (∀ q, MI w0 (w3.drewN q) r M2 ∧ Ext w0 r L (rank t k + 1) M M2 ∧ Kp (onB r) w (w3.drewN q)) := Lib.hid fun q => ⟨hI3.keep ((Kp.refl noB w3).drewN q), Ext.own HT.out.1 (.inr ⟨rfl, hno⟩) hE3 hlook, (HKA.out.trans hK3).drewN q⟩
    have HNO := Lib.hid hno
    clear hlk hbl hno hlook hK3 hI3 hE3 hk3 hup s0 s1 s2 s3 t0 t1 t2 t3 a0 a1 b0 b1
    go_quiet (fail)
    go_wp2_with fail
    go_ret
    exact ⟨false, M2, rfl, ⟨fun h => (by cases h), fun h => absurd h HNO.out⟩, (HF.out _).1, (HF.out 0).2.1, (HF.out _).2.2⟩

theorem memo155_any (hW : MW w0 r mb A N cap L) (hI : MI w0 w r M) (hg : Good w0 r L (rank t k + 1) M) (ht : NT w0 r k.b t) (cs : Array Value)
    (hclo : ∀ w1 M1, Kp (onB r) w w1 → MI w0 w1 r M1 → Good w0 r L (rank t k) M1 → Calls Tryz.prog 155 cs w1 (MP w0 w1 r L (rank t k) M1 (AnsK L t k))) :
    Calls Tryz.prog 154 #[.pointer (some ⟨mb, 0, none⟩), .agg #[.pointer (some ⟨k.b, 0, none⟩), .int .i64 k.f, .int .i64 k.t, .int .i64 k.n], .func (.func 155) #[] cs] w (MP w0 w r L (rank t k + 1) M (AnsK L t k)) := by
  cases hv : lookK M k with
  | none => exact memo155_new hW hI (hg.mono (Nat.le_succ _)) ht hv cs hclo
  | some v => exact memo155_old hW hI ht hv (hg k v hv t ht (Nat.lt_succ_self _)) cs

set_option maxRecDepth 100000 in
set_option maxHeartbeats 2000000 in
/-- Asked before. -/
theorem memo156_old (hW : MW w0 r mb A N cap L) (hI : MI w0 w r M) (ht : NT w0 r k.b t) {v : Int} (hv : lookK M k = some v) (hc : Cor L t k v) (cs : Array Value) :
    Calls Tryz.prog 154 #[.pointer (some ⟨mb, 0, none⟩), .agg #[.pointer (some ⟨k.b, 0, none⟩), .int .i64 k.f, .int .i64 k.t, .int .i64 k.n], .func (.func 156) #[] cs] w (MP w0 w r L (rank t k + 1) M (AnsK L t k)) := by
  have hnode := ht.node
  obtain ⟨m0, m1⟩ := two_cells (hI.kp.heap hW.node (onB_not hW.ne))
  have hka : Kp noB w (w.alloc (.cells #[.pointer (some ⟨k.b, 0, none⟩), .int .i64 k.f, .int .i64 k.t, .int .i64 k.n] 182)) := (Kp.refl _ _).alloc _
  have a0 := hka.cell m0 (noB_not _)
  have a1 := hka.cell m1 (noB_not _)
  have hn4 := four_new w (.pointer (some ⟨k.b, 0, none⟩)) (.int .i64 k.f) (.int .i64 k.t) (.int .i64 k.n) 182
  have s0 := hn4 0 _ rfl
  have s1 := hn4 1 _ rfl
  have s2 := hn4 2 _ rfl
  have s3 := hn4 3 _ rfl
  have hlk := (hI.keep hka).look hnode.1 hnode.2
  rw [hv] at hlk
  simp only [Option.getD_some] at hlk
  unfold kE at hlk
  have HF : Hid (∀ q, MI w0 ((w.alloc (.cells #[.pointer (some ⟨k.b, 0, none⟩), .int .i64 k.f, .int .i64 k.t, .int .i64 k.n] 182)).drewN q) r M) := Lib.hid fun q => hI.keep (hka.drewN q)
  have HKA : Hid (∀ q, Kp (onB r) w ((w.alloc (.cells #[.pointer (some ⟨k.b, 0, none⟩), .int .i64 k.f, .int .i64 k.t, .int .i64 k.n] 182)).drewN q)) := Lib.hid fun q => hka.any.drewN q
  have HC := Lib.hid hc
  have hb0 : (v == (0 : Int)) = false := by rcases hc with ⟨rfl, _⟩ | ⟨rfl, _⟩ <;> rfl
  clear hn4 hc hI hW ht hnode hka hv m0 m1
  generalize hG : w.alloc (.cells #[.pointer (some ⟨k.b, 0, none⟩), .int .i64 k.f, .int .i64 k.t, .int .i64 k.n] 182) = wa at *
  have HG := Lib.hid hG
  clear hG
  go_enter Tryz.func154, Tryz.ntmps154
  go_wp2_with fail
  rw [HG.out]
  go_wp2_with fail
  go_quiet (fail)
  go_wp2_with fail
  go_quiet (fail)
  go_wp2_with fail
  go_ret
  refine ⟨(v == 1), M, rfl, ?_, by simpa using HF.out _, Ext.refl, by simpa using HKA.out _⟩
  rcases HC.out with ⟨rfl, h⟩ | ⟨rfl, h⟩
  · exact ⟨fun _ => h, fun _ => rfl⟩
  · exact ⟨fun h => (by cases h), fun h' => absurd h' h⟩

set_option maxRecDepth 100000 in
set_option maxHeartbeats 2000000 in
/-- Asked for the first time. -/
theorem memo156_new (hW : MW w0 r mb A N cap L) (hI : MI w0 w r M) (hg : Good w0 r L (rank t k) M) (ht : NT w0 r k.b t) (hv : lookK M k = none) (cs : Array Value)
    (hclo : ∀ w1 M1, Kp (onB r) w w1 → MI w0 w1 r M1 → Good w0 r L (rank t k) M1 → Calls Tryz.prog 156 cs w1 (MP w0 w1 r L (rank t k) M1 (AnsK L t k))) :
    Calls Tryz.prog 154 #[.pointer (some ⟨mb, 0, none⟩), .agg #[.pointer (some ⟨k.b, 0, none⟩), .int .i64 k.f, .int .i64 k.t, .int .i64 k.n], .func (.func 156) #[] cs] w (MP w0 w r L (rank t k + 1) M (AnsK L t k)) := by
  have hnode := ht.node
  have hm := two_cells hW.node
  have hka : Kp noB w (w.alloc (.cells #[.pointer (some ⟨k.b, 0, none⟩), .int .i64 k.f, .int .i64 k.t, .int .i64 k.n] 182)) := (Kp.refl _ _).alloc _
  have HM : Hid (∀ w', Kp (onB r) w0 w' → w'.cell? ⟨mb, 0, none⟩ = some (.slice A N cap) ∧ w'.cell? ⟨mb, 1, none⟩ = some (.map (some r))) := Lib.hid fun w' hk => ⟨hk.cell hm.1 (onB_not hW.ne), hk.cell hm.2 (onB_not hW.ne)⟩
  have hn4 := four_new w (.pointer (some ⟨k.b, 0, none⟩)) (.int .i64 k.f) (.int .i64 k.t) (.int .i64 k.n) 182
  have s0 := hn4 0 _ rfl
  have s1 := hn4 1 _ rfl
  have s2 := hn4 2 _ rfl
  have s3 := hn4 3 _ rfl
  have hbox : w.heap.size ≠ r := by have := hW.lt; have := hI.kp.size; omega
  have hIa := hI.keep hka
  obtain ⟨a0, a1⟩ := HM.out _ hIa.kp
  have hlk := hIa.look hnode.1 hnode.2
  rw [hv] at hlk
  simp only [Option.getD_none] at hlk
  unfold kE at hlk
  have HIA := Lib.hid hIa
  have HUPD : Hid (∀ (w1 : World) (M1 : List (Ky × Int)) (v : Int), MI w0 w1 r M1 → ∃ w', (Instr.mapUpdate 104 (.map (some r)) (.agg #[.pointer (some ⟨k.b, 0, none⟩), .int .i64 k.f, .int .i64 k.t, .int .i64 k.n]) (.int .i64 v)).run Tryz.prog w1 = .ok () w' ∧ MI w0 w' r (updK M1 k v) ∧ Kp (onB r) w1 w') := Lib.hid fun w1 M1 v h1 => h1.upd hnode.1 hnode.2 v
  have HKA : Hid (Kp (onB r) w (w.alloc (.cells #[.pointer (some ⟨k.b, 0, none⟩), .int .i64 k.f, .int .i64 k.t, .int .i64 k.n] 182))) := Lib.hid hka.any
  have HG2 : Hid (Good w0 r L (rank t k) (updK M k 2)) := Lib.hid (hg.upd ht (Nat.le_refl _))
  have HCLO := Lib.hid hclo
  have HT := Lib.hid (And.intro ht hnode)
  clear hn4 hI hW ht hnode hka hv hclo hg hIa hm
  generalize hG : w.alloc (.cells #[.pointer (some ⟨k.b, 0, none⟩), .int .i64 k.f, .int .i64 k.t, .int .i64 k.n] 182) = wa at *
  have HG := Lib.hid hG
  clear hG
  go_enter Tryz.func154, Tryz.ntmps154
  go_wp2_with fail
  rw [HG.out]
  go_wp2_with fail
  go_quiet (fail)
  have b0 : (wa.drewN nq).cell? ⟨mb, 0, none⟩ = some (.slice A N cap) := a0
  have b1 : (wa.drewN nq).cell? ⟨mb, 1, none⟩ = some (.map (some r)) := a1
  have t0 : (wa.drewN nq).cell? ⟨w.heap.size, 0, none⟩ = _ := s0
  have t1 : (wa.drewN nq).cell? ⟨w.heap.size, 1, none⟩ = _ := s1
  have t2 : (wa.drewN nq).cell? ⟨w.heap.size, 2, none⟩ = _ := s2
  have t3 : (wa.drewN nq).cell? ⟨w.heap.size, 3, none⟩ = _ := s3
  have HKB : Hid (Kp noB wa (wa.drewN nq)) := Lib.hid ((Kp.refl noB wa).drewN nq)
  generalize wa.drewN nq = wb at *
  go_wp2_with fail
  go_still_tail 5, (by kernel_rfl)
  change wpList _ _ _ _ _ wb.drew
  obtain ⟨w2, hup, hI2, hk2⟩ := HUPD.out wb.drew M 2 ((HIA.out.keep HKB.out).keep ((Kp.refl noB wb).drew))
  have HI2 := Lib.hid hI2
  have HK2 : Hid (Kp (onB r) wa w2) := Lib.hid ((HKB.out.any.trans ((Kp.refl (onB r) wb).drew)).trans hk2)
  have HC2 := Lib.hid (HCLO.out w2 _ (HKA.out.trans HK2.out) hI2 HG2.out)
  clear hI2 hk2 HG2 HCLO
  go_wp2_with (go_at_call 156; refine HC2.out.mono ?_; rintro e w3 ⟨bl, M2, rfl, hbl, hI3, hE3, hk3⟩)
  · have hbt : bl = true := by assumption
    subst hbt
    have hyes := hbl.1 rfl
    have hK3 := HK2.out.trans hk3
    obtain ⟨c0, c1⟩ := HM.out _ hI3.kp
    have d0 := hK3.cell s0 (onB_not hbox)
    have d1 := hK3.cell s1 (onB_not hbox)
    have d2 := hK3.cell s2 (onB_not hbox)
    have d3 := hK3.cell s3 (onB_not hbox)
    have HI3 := Lib.hid hI3
    have HE3 := Lib.hid hE3
    have HYES := Lib.hid hyes
    have HK3 := Lib.hid hK3
    clear hlk hbl hyes hK3 hI3 hE3 hk3 hup t0 t1 t2 t3 a0 a1 b0 b1
    go_still_tail 5, (by kernel_rfl)
    change wpList _ _ _ _ _ w3.drew
    obtain ⟨w4, hup4, hI4, hk4⟩ := HUPD.out w3.drew M2 1 (HI3.out.keep ((Kp.refl noB w3).drew))
    have hK4 := (HK3.out.trans ((Kp.refl (onB r) w3).drew)).trans hk4
    obtain ⟨e0, e1⟩ := HM.out _ hI4.kp
    have f0 := hK4.cell s0 (onB_not hbox)
    have f1 := hK4.cell s1 (onB_not hbox)
    have f2 := hK4.cell s2 (onB_not hbox)
    have f3 := hK4.cell s3 (onB_not hbox)
    have hlk4 := hI4.look HT.out.2.1 HT.out.2.2
    rw [look_upd, if_pos rfl] at hlk4
    simp only [Option.getD_some] at hlk4
    unfold kE at hlk4
    have HF : Hid (∀ q, MI w0 (w4.drewN q) r (updK M2 k 1) ∧ Ext w0 r L (rank t k + 1) M (updK M2 k 1) ∧ Kp (onB r) w (w4.drewN q)) := Lib.hid fun q => ⟨hI4.keep ((Kp.refl noB w4).drewN q), Ext.own1 HT.out.1 (.inl ⟨rfl, HYES.out⟩) HE3.out, (HKA.out.trans hK4).drewN q⟩
    clear hK4 hI4 hk4 s0 s1 s2 s3
    go_wp2_with fail
    clear hup4 c0 c1 d0 d1 d2 d3
    go_quiet (fail)
    go_wp2_with fail
    go_ret
    exact ⟨true, _, rfl, ⟨fun _ => HYES.out, fun _ => rfl⟩, (HF.out _).1, (HF.out 0).2.1, (HF.out _).2.2⟩
  · have hbf : bl = false := by assumption
    subst hbf
    have hno : ¬ AnsK L t k := fun h => (by have := hbl.2 h; cases this)
    have hlook : lookK M2 k = some 2 := by rw [hE3.same HT.out.1 (Nat.le_refl _), look_upd, if_pos rfl]
    have hK3 := HK2.out.trans hk3
    obtain ⟨c0, c1⟩ := HM.out _ hI3.kp
    have d0 := hK3.cell s0 (onB_not hbox)
    have d1 := hK3.cell s1 (onB_not hbox)
    have d2 := hK3.cell s2 (onB_not hbox)
    have d3 := hK3.cell s3 (onB_not hbox)
    have hlk3 := hI3.look HT.out.2.1 HT.out.2.2
    rw [hlook] at hlk3
    simp only [Option.getD_some] at hlk3
    unfold kE at hlk3
    have HF : Hid (∀ q, MI w0 (w3.drewN q) r M2 ∧ Ext w0 r L (rank t k + 1) M M2 ∧ Kp (onB r) w (w3.drewN q)) := Lib.hid fun q => ⟨hI3.keep ((Kp.refl noB w3).drewN q), Ext.own HT.out.1 (.inr ⟨rfl, hno⟩) hE3 hlook, (HKA.out.trans hK3).drewN q⟩
    have HNO := Lib.hid hno
    clear hlk hbl hno hlook hK3 hI3 hE3 hk3 hup s0 s1 s2 s3 t0 t1 t2 t3 a0 a1 b0 b1
    go_quiet (fail)
    go_wp2_with fail
    go_ret
    exact ⟨false, M2, rfl, ⟨fun h => (by cases h), fun h => absurd h HNO.out⟩, (HF.out _).1, (HF.out 0).2.1, (HF.out _).2.2⟩

theorem memo156_any (hW : MW w0 r mb A N cap L) (hI : MI w0 w r M) (hg : Good w0 r L (rank t k + 1) M) (ht : NT w0 r k.b t) (cs : Array Value)
    (hclo : ∀ w1 M1, Kp (onB r) w w1 → MI w0 w1 r M1 → Good w0 r L (rank t k) M1 → Calls Tryz.prog 156 cs w1 (MP w0 w1 r L (rank t k) M1 (AnsK L t k))) :
    Calls Tryz.prog 154 #[.pointer (some ⟨mb, 0, none⟩), .agg #[.pointer (some ⟨k.b, 0, none⟩), .int .i64 k.f, .int .i64 k.t, .int .i64 k.n], .func (.func 156) #[] cs] w (MP w0 w r L (rank t k + 1) M (AnsK L t k)) := by
  cases hv : lookK M k with
  | none => exact memo156_new hW hI (hg.mono (Nat.le_succ _)) ht hv cs hclo
  | some v => exact memo156_old hW hI ht hv (hg k v hv t ht (Nat.lt_succ_self _)) cs
end
end Go.Proofs.YtoijabgcgdgacaaGreatDoor
