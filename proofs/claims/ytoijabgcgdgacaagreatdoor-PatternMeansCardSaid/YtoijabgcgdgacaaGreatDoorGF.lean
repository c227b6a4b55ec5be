/-
  WALKS, k: rows of ranges; points.Canon's sorting.
  WALKS, l: points.Canon.
  WALKS, m: points.Other.
  WALKS, n: the program's reader of patterns: a class.
-/
import Derived.Test.YtoijabgcgdgacaaGreatDoorGB
import Derived.Test.YtoijabgcgdgacaaGreatDoorGD
import Derived.Test.YtoijabgcgdgacaaGreatDoorShD
import Derived.Shelf.SlSortCmp.NoneTotal
import Derived.Deep.CutBlock
import Derived.StillTailTactics
import Derived.Test.YtoijabgcgdgacaaGreatDoorGE
namespace Go.Proofs.YtoijabgcgdgacaaGreatDoor
open Go.RowKit Go.Proofs.Gram Go.Shelf Go.Lib Go.Sort

theorem rcells_length (l : List (Int × Int)) : (rcells l).length = l.length * 2 := by
  induction l with
  | nil => rfl
  | cons r l ih => simp only [rcells, List.flatMap_cons, List.length_append, List.length_cons, List.length_nil] at *; omega
theorem rcells_append (l l' : List (Int × Int)) : rcells (l ++ l') = rcells l ++ rcells l' := by simp [rcells]
theorem rcells_at (l : List (Int × Int)) : ∀ (k : Nat) (r : Int × Int), l[k]? = some r → (rcells l)[k * 2]? = some (.int .i64 r.1) ∧ (rcells l)[k * 2 + 1]? = some (.int .i64 r.2) := by
  induction l with
  | nil => intro k r h; simp at h
  | cons q l ih =>
    intro k r h
    cases k with
    | zero => simp at h; subst h; simp [rcells]
    | succ k =>
      have := ih k r (by simpa using h)
      have e1 : (k + 1) * 2 = k * 2 + 1 + 1 := by omega
      simp only [rcells, List.flatMap_cons, List.cons_append, List.nil_append] at *
      rw [e1]
      simpa using this

/-- A row of the call's own holds these ranges. -/
def Own (w : World) (base : Nat) (v : Value) (l : List (Int × Int)) : Prop := w.ownsRow base 191 2 v l.length (rcells l)

theorem own_nil (w : World) (base : Nat) : Own w base (.slice none 0 0) [] := World.ownsRow_nil _ _ _ _

theorem Own.rngs {w : World} {base : Nat} {v : Value} {l : List (Int × Int)} (h : Own w base v l) : Rngs w (fun k => base ≤ k) v l := by
  obtain ⟨h1, h2⟩ := h
  rcases h2 with ⟨rfl, h0⟩ | ⟨g, cap, cur, rfl, hg, hh, hn, hcap, hsz, htake⟩
  · exact .inl ⟨rfl, h0, by rw [List.eq_nil_of_length_eq_zero h0]; rfl⟩
  · refine .inr ⟨g, 0, cap, rfl, hn, hcap, hg, (Array.getElem?_eq_some_iff.1 hh).1, fun i u hu => ?_⟩
    rw [← htake] at hu
    have hu' : cur[i]? = some u := by
      rw [List.getElem?_take] at hu
      split at hu
      · simpa using hu
      · cases hu
    simp only [World.cell?, hh, Nat.zero_add]
    exact hu'

/-- A list of ranges, laid open. -/
theorem rngs_open {w : World} {ok : Nat → Prop} {v : Value} {l : List (Int × Int)} (h : Rngs w ok v l) : ∃ A cap, v = .slice A l.length cap ∧
    ∀ k r, l[k]? = some r → ∃ g off, A = some ⟨g, off, none⟩ ∧ ok g ∧ g < w.heap.size ∧ w.cell? ⟨g, off + k * 2, none⟩ = some (.int .i64 r.1) ∧ w.cell? ⟨g, off + k * 2 + 1, none⟩ = some (.int .i64 r.2) := by
  rcases h with ⟨rfl, h0, _⟩ | ⟨g, off, cap, rfl, hn, hcap, hg, hlt, hc⟩
  · refine ⟨none, 0, by rw [h0], fun k r hr => ?_⟩
    rw [List.eq_nil_of_length_eq_zero h0] at hr
    simp at hr
  · refine ⟨_, cap, rfl, fun k r hr => ⟨g, off, rfl, hg, hlt, ?_⟩⟩
    obtain ⟨h1, h2⟩ := rcells_at l k r hr
    exact ⟨hc _ _ h1, by rw [Nat.add_assoc]; exact hc _ _ h2⟩

/-- Ranges as Canon sorts them: their low ends no less than none. -/
abbrev PR := { x : Int × Int // 0 ≤ x.1 ∧ x.1 ≤ 1114111 }
instance : Inhabited PR := ⟨⟨(0, 0), by simp⟩⟩
def encR (x : PR) : List Value := [.int .i64 x.1.1, .int .i64 x.1.2]
def cmpR (x y : PR) : Int := x.1.1 - y.1.1

theorem closure_any (x y : PR) (W : World) : Calls Tryz.prog 167 #[.agg #[.int .i64 x.1.1, .int .i64 x.1.2], .agg #[.int .i64 y.1.1, .int .i64 y.1.2]] W fun e w' => e = .returned (.int .i64 (cmpR x y)) ∧ ∃ q os', w' = grow (W.drewN q) os' := by
  obtain ⟨⟨x1, x2⟩, hx⟩ := x
  obtain ⟨⟨y1, y2⟩, hy⟩ := y
  simp only [cmpR] at *
  have hw : IntKind.i64.wrap (x1 - y1) = x1 - y1 := by rw [IntKind.wrap_i64]; omega
  clear hx hy
  go_enter Tryz.func167, Tryz.ntmps167
  go_wp2
  go_ret
  exact ⟨rfl, 0, _, by rw [alloc_eq_grow, alloc_eq_grow, grow_grow]; rfl⟩

theorem cmpLays_any (blk off size : Nat) (w : World) : CmpLays Tryz.prog 167 #[] encR 2 cmpR blk off size w :=
  fun _ _ _ _ x y => closure_any x y _

theorem ltR (x y : PR) : ltOf cmpR x y = decide (x.1.1 < y.1.1) := by
  unfold ltOf cmpR
  exact decide_eq_decide.2 ⟨fun h => by omega, fun h => by omega⟩
theorem swoR : SWO (ltOf cmpR) where
  irrefl x := by rw [ltR]; simp
  trans x y z h1 h2 := by
    rw [ltR, decide_eq_true_eq] at *
    omega
  ntrans x y z h1 h2 := by
    rw [ltR, decide_eq_false_iff_not] at *
    omega

/-- The ranges as an array of those. -/
def arr (l : List (Int × Int)) (hb : ∀ r ∈ l, 0 ≤ r.1 ∧ r.1 ≤ 1114111) : Array PR := (l.attach.map fun r => (⟨r.1, hb r.1 r.2⟩ : PR)).toArray
theorem arr_size (l : List (Int × Int)) (hb) : (arr l hb).size = l.length := by simp [arr]
theorem arr_val (l : List (Int × Int)) (hb) : (arr l hb).toList.map (·.1) = l := by
  simp only [arr, List.map_map]
  exact List.attach_map_subtype_val l
theorem arr_at (l : List (Int × Int)) (hb) (k : Nat) (h : k < l.length) : ((arr l hb)[k]!).1 = l[k] := by
  rw [getElem!_pos _ _ (by rw [arr_size]; exact h)]
  simp [arr]

theorem holds_arr {w : World} {g cap : Nat} {cur : Array Value} {e : TypeId} {l : List (Int × Int)} (hb : ∀ r ∈ l, 0 ≤ r.1 ∧ r.1 ≤ 1114111) (hh : w.heap[g]? = some (.cells cur e (0, 0))) (hsz : cur.size = cap * 2) (hn : l.length ≤ cap)
    (ht : cur.toList.take (l.length * 2) = rcells l) : HoldsK encR 2 w g 0 (arr l hb) := by
  intro j hj
  rw [size_flatK, arr_size] at hj
  refine ⟨?_, by simp [World.frozen?, hh]⟩
  rw [get_flatK _ _ _ _ (by rw [arr_size]; exact hj)]
  have hk : j / 2 < l.length := by omega
  have hv := arr_at l hb (j / 2) hk
  obtain ⟨h1, h2⟩ := rcells_at l (j / 2) l[j / 2] (by simp [hk])
  have hc : ∀ i u, (rcells l)[i]? = some u → w.cell? ⟨g, 0 + i, none⟩ = some u := by
    intro i u hu
    rw [← ht, List.getElem?_take] at hu
    simp only [World.cell?, hh, Nat.zero_add]
    split at hu
    · simpa using hu
    · cases hu
  rcases Nat.mod_two_eq_zero_or_one j with hm | hm
  · have := hc _ _ h1
    rw [show j / 2 * 2 = j by omega] at this
    rw [this, hm]
    simp [encR, hv]
  · have := hc _ _ h2
    rw [show j / 2 * 2 + 1 = j by omega] at this
    rw [this, hm]
    simp [encR, hv]

theorem kp_sorted {w : World} {B g n : Nat} {d : Array PR} {os : Array Obj} (hB : B ≤ g) : Kp (fun k => B ≤ k) w (sortWorldK encR 2 w g 0 n d os) := by
  refine ⟨rfl, rfl, rfl, ?_, fun k hk hf => ?_⟩
  · simp [sortWorldK, grow, putRowK, putRow, mapBlock, ahead]
  · have hf' : k < B := by omega
    simp only [sortWorldK, grow, putRowK, putRow, mapBlock, ahead]
    rw [Array.getElem?_append_left (by simpa using hk), Array.getElem?_modify, if_neg (by omega)]
    rfl

theorem sort_any (v : Value) (l : List (Int × Int)) (B : Nat) (w : World) (hown : Own w B v l) (hb : ∀ r ∈ l, 0 ≤ r.1 ∧ r.1 ≤ 1114111) (hsz : l.length < 4611686018427387904) :
    Calls Tryz.prog 166 #[v, .func (.func 167) #[] #[]] w fun e w' => e = .returned (.tuple #[]) ∧ ∃ s : List (Int × Int), s.Perm l ∧ (s.Pairwise fun x y => x.1 ≤ y.1) ∧ Rngs w' (fun k => B ≤ k) v s ∧ Kp (fun k => B ≤ k) w w' := by
  have hr := hown.rngs
  obtain ⟨h1, h2⟩ := hown
  rcases h2 with ⟨rfl, h0⟩ | ⟨g, cap, cur, rfl, hg, hh, hn, hcap, hcs, htake⟩
  · have hl := List.eq_nil_of_length_eq_zero h0
    subst hl
    have hcon := AnyF.slices_SortFunc_none Tryz.laySortRange none 0 (.func (.func 167) #[] #[]) w
    change Calls Tryz.prog 166 _ _ _ at hcon
    exact hcon.mono fun e w' ⟨he, hw⟩ => ⟨he, [], .refl _, .nil, by rw [hw]; exact hr, by rw [hw]; exact Kp.refl _ _⟩
  · have eg : ∀ args w, (callFunc 167 args).run Tryz.prog w = .ok (.enter 167 args) w := enters_of Tryz.func167 (by kernel_rfl) rfl
    have hlt := (Array.getElem?_eq_some_iff.1 hh).1
    have hH := holds_arr hb hh hcs hn htake
    have hcon := AnyQ.slices_SortFunc Tryz.laySortRange 2 Tryz.isAgg191 Tryz.sizeOf191 encR (fun _ => rfl) (fun x v hv => by simp [encR] at hv; rcases hv with rfl | rfl <;> rfl) cmpR swoR 167 #[] g 0 cap (arr l hb) w eg (cmpLays_any g 0 _ w) hH hlt (by rw [arr_size]; exact hsz)
    change Calls Tryz.prog 166 _ _ _ at hcon
    rw [arr_size] at hcon
    refine hcon.mono ?_
    rintro e w' ⟨he, d', n, os, ⟨hp1, _, hp3⟩, hs, rfl⟩
    rw [arr_size] at hp1
    have hpl : d'.toList.Perm (arr l hb).toList := by
      have e1 : d'.extract 0 l.length = d' := by rw [← hp1]; simp
      have e2 : (arr l hb).extract 0 l.length = arr l hb := by rw [← arr_size l hb]; simp
      rwa [e1, e2] at hp3
    refine ⟨he, d'.toList.map (·.1), ?_, ?_, ?_, kp_sorted hg⟩
    · have := hpl.map (fun x : PR => x.1)
      rwa [arr_val] at this
    · rw [List.pairwise_map, List.pairwise_iff_getElem]
      intro i j hi hj hij
      simp only [Array.length_toList] at hi hj
      have := hs i j (Nat.zero_le _) hij (by omega)
      rw [getElem!_pos _ _ (by omega), getElem!_pos _ _ (by omega)] at this
      rw [ltR, decide_eq_false_iff_not] at this
      simp only [Array.getElem_toList]
      omega
    · have hsz' : d'.size = (arr l hb).size := by rw [hp1, arr_size]
      have hH' : HoldsK encR 2 (sortWorldK encR 2 w g 0 n d' os) g 0 d' := by
        refine holdsK_grow _ _ _ os g 0 d' ?_ (holdsK_putRowK _ _ _ g 0 (arr l hb) d' (holdsK_ahead _ _ w n g 0 _ hH) hsz')
        simp [putRowK, putRow, mapBlock, ahead]
        exact hlt
      have hlen : (d'.toList.map (fun x : PR => x.1)).length = l.length := by simp [hp1]
      refine .inr ⟨g, 0, cap, by rw [hlen], by rw [hlen]; exact hn, hcap, hg, Nat.lt_of_lt_of_le hlt (kp_sorted (B := 0) (Nat.zero_le _)).size, fun i u hu => ?_⟩
      have hi : i < l.length * 2 := by
        have := (List.getElem?_eq_some_iff.1 hu).1
        rw [rcells_length, hlen] at this
        exact this
      have hk : i / 2 < d'.size := by omega
      have hq : (d'.toList.map (fun x : PR => x.1))[i / 2]? = some (d'[i / 2]!).1 := by
        rw [getElem!_pos d' (i / 2) hk]
        simp [hk]
      obtain ⟨c1, c2⟩ := rcells_at _ _ _ hq
      have hi' : i < d'.size * 2 := by omega
      have hcell := (hH' i (by rw [size_flatK]; exact hi')).1
      rw [get_flatK encR 2 d' i hi', Nat.zero_add, id] at hcell
      rw [Nat.zero_add, hcell]
      rcases Nat.mod_two_eq_zero_or_one i with hm | hm
      · rw [show i / 2 * 2 = i by omega, hu] at c1
        rw [hm, c1]
        simp [encR]
      · rw [show i / 2 * 2 + 1 = i by omega, hu] at c2
        rw [hm, c2]
        simp [encR]

end Go.Proofs.YtoijabgcgdgacaaGreatDoor

namespace Go.Proofs.YtoijabgcgdgacaaGreatDoor
open Go.RowKit Go.Proofs.Gram Go.Lib

theorem info191 : (Tryz.prog.info? 191).map (fun i => (i.zero, i.size, i.bytes)) = some (some (.agg #[.int .i64 0, .int .i64 0]), 2, 16) := by kernel_rfl

theorem clamps_snoc (l : List (Int × Int)) (r : Int × Int) : clamps (l ++ [r]) = clamps l ++ (if max r.1 0 ≤ min r.2 1114111 then [(max r.1 0, min r.2 1114111)] else []) := by
  simp only [clamps, List.map_append, List.filter_append, List.map_cons, List.map_nil, clampR]
  congr 1
  by_cases h : max r.1 0 ≤ min r.2 1114111
  · rw [if_pos h, List.filter_cons_of_pos (by simpa using h), List.filter_nil]
  · rw [if_neg h, List.filter_cons_of_neg (by simpa using h), List.filter_nil]
theorem clamps_length (l : List (Int × Int)) : (clamps l).length ≤ l.length := by
  simp only [clamps]
  exact Nat.le_trans (List.length_filter_le _ _) (by simp)
theorem take_snoc {α : Type} (l : List α) (k : Nat) (r : α) (h : l[k]? = some r) : l.take (k + 1) = l.take k ++ [r] := by
  rw [List.take_add_one, h]
  rfl

theorem two_new (w : World) (a b : Value) (t : TypeId) : ∀ j u, [a, b][j]? = some u → (w.alloc (.cells #[a, b] t)).cell? ((⟨w.heap.size, 0, none⟩ : Addr).add j) = some u := by
  intro j u hj
  match j, hj with
  | 0, hj => simp at hj; subst hj; simp [Addr.add]
  | 1, hj => simp at hj; subst hj; simp [Addr.add]
  | j + 2, hj => simp at hj

theorem put_bnd {r : Int × Int} {m : Int} (hr : 0 ≤ r.2 ∧ r.2 ≤ m) : ∀ {o : List (Int × Int)}, (∀ q ∈ o, 0 ≤ q.2 ∧ q.2 ≤ m) → ∀ q ∈ put r o, 0 ≤ q.2 ∧ q.2 ≤ m
  | [], _, q, h => by simp [put] at h; subst h; exact hr
  | [a], h, q, hq => by
    have ha := h a (by simp)
    rw [put] at hq
    split at hq
    · simp at hq; subst hq; simp only; omega
    · simp at hq; rcases hq with rfl | rfl
      · exact ha
      · exact hr
  | a :: a' :: o, h, q, hq => by
    rw [put] at hq
    rcases List.mem_cons.1 hq with rfl | hq
    · exact h _ (by simp)
    · exact put_bnd hr (fun x hx => h x (List.mem_cons_of_mem _ hx)) q hq
theorem puts_bnd {m : Int} (l : List (Int × Int)) (h : ∀ r ∈ l, 0 ≤ r.2 ∧ r.2 ≤ m) : ∀ q ∈ puts l, 0 ≤ q.2 ∧ q.2 ≤ m := by
  suffices hh : ∀ (l o : List (Int × Int)), (∀ r ∈ l, 0 ≤ r.2 ∧ r.2 ≤ m) → (∀ q ∈ o, 0 ≤ q.2 ∧ q.2 ≤ m) → ∀ q ∈ l.foldl (fun o r => put r o) o, 0 ≤ q.2 ∧ q.2 ≤ m from hh l [] h (by simp)
  intro l
  induction l with
  | nil => intro o _ h q hq; exact h q hq
  | cons r l ih => intro o h ho; exact ih _ (fun x hx => h x (List.mem_cons_of_mem _ hx)) (put_bnd (h r (by simp)) ho)

theorem own_push {a wr w3 : World} {B : Nat} {u v' : Value} {l : List (Int × Int)} {x y : Int} {o o' : Obj} (hown : Own wr B u l) (hown' : w3.ownsRow B 191 2 v' (l.length + 1) (rcells l ++ [.int .i64 x, .int .i64 y]))
    (hg : ((wr.alloc o).alloc o').grownBy w3 u.ownBlock) (hk : Kp noB a wr) (hB : a.heap.size ≤ B) : Own w3 B v' (l ++ [(x, y)]) ∧ Kp noB a w3 := by
  refine ⟨?_, ((hk.alloc o).alloc o').grown hg fun k hk => .inr ?_⟩
  · unfold Own
    rw [rcells_append, List.length_append]
    exact hown'
  · have := (hown.lt _ hk).1
    omega

theorem own_push1 {a W2 w3 : World} {B : Nat} {u v' : Value} {l : List (Int × Int)} {x y : Int} {o' : Obj} (hown : Own W2 B u l) (hown' : w3.ownsRow B 191 2 v' (l.length + 1) (rcells l ++ [.int .i64 x, .int .i64 y]))
    (hg : (W2.alloc o').grownBy w3 u.ownBlock) (hk : Kp noB a W2) (hB : a.heap.size ≤ B) : Own w3 B v' (l ++ [(x, y)]) ∧ Kp noB a w3 := by
  refine ⟨?_, (hk.alloc o').grown hg fun k hk => .inr ?_⟩
  · unfold Own
    rw [rcells_append, List.length_append]
    exact hown'
  · have := (hown.lt _ hk).1
    omega

theorem own_last {w : World} {B : Nat} {u : Value} {o : List (Int × Int)} {q : Int × Int} (h : Own w B u (o ++ [q])) : ∃ g cap, u = .slice (some ⟨g, 0, none⟩) (o.length + 1) cap ∧ B ≤ g ∧ g < w.heap.size ∧ o.length + 1 ≤ cap ∧
    w.cell? ⟨g, o.length * 2, none⟩ = some (.int .i64 q.1) ∧ w.cell? ⟨g, o.length * 2 + 1, none⟩ = some (.int .i64 q.2) ∧ w.frozen? ⟨g, o.length * 2 + 1, none⟩ = false ∧
    ∀ y, Own (w.setCell ⟨g, o.length * 2 + 1, none⟩ (.int .i64 y)) B u (o ++ [(q.1, y)]) := by
  have hr := h.rngs
  obtain ⟨h1, h2⟩ := h
  rcases h2 with ⟨rfl, h0⟩ | ⟨g, cap, cur, rfl, hg, hh, hn, hcap, hcs, htake⟩
  · simp at h0
  · rw [List.length_append, List.length_singleton] at hn
    obtain ⟨A, cap', hv, hc⟩ := rngs_open hr
    obtain ⟨g', off', hA, _, hlt, c0, c1⟩ := hc o.length q (by simp)
    rw [hA] at hv
    cases hv
    rw [Nat.zero_add] at c0 c1
    refine ⟨g, cap, by simp, hg, hlt, hn, c0, c1, by simp [World.frozen?, hh], fun y => ⟨by rw [rcells_length], .inr ⟨g, cap, cur.setIfInBounds (o.length * 2 + 1) (.int .i64 y), by simp, hg, ?_, by simpa using hn, hcap, by simpa using hcs, ?_⟩⟩⟩
    · simp [World.setCell, Array.getElem?_modify, hh]
    · rw [Array.toList_setIfInBounds, List.take_set]
      have e : cur.toList.take ((o ++ [(q.1, y)]).length * 2) = cur.toList.take ((o ++ [q]).length * 2) := by simp
      rw [e, htake, rcells_append, rcells_append, List.set_append_right _ _ (by rw [rcells_length]; omega), rcells_length]
      congr 1
      rw [show o.length * 2 + 1 - o.length * 2 = 1 by omega]
      rfl

set_option maxRecDepth 100000 in
set_option maxHeartbeats 4000000 in
theorem canon_any (v : Value) (l : List (Int × Int)) (okk : Nat → Prop) (w : World) (hr : Rngs w okk v l) (hsz : l.length ≤ 16777216) :
    Calls Tryz.prog 114 #[v] w fun e w' => ∃ u, e = .returned u ∧ Rngs w' (fun k => w.heap.size ≤ k) u (canonOf (inR l)) ∧ Kp noB w w' := by
  obtain ⟨i0, hi, hz0, hz1, hz2⟩ := info_parts info191
  obtain ⟨A, cap, rfl, hc⟩ := rngs_open hr
  go_enter Tryz.func114, Tryz.ntmps114
  go_wp2_with fail
  go_loopw [3, 12] (fun u c wr => ∃ k : Nat, k ≤ l.length ∧ c = .int .i64 k ∧ Own wr w.heap.size u (clamps (l.take k)) ∧ Kp noB w wr)
    (fun _ c _ => l.length - (intOf c).toNat)
  case atStart =>
    exact ⟨0, Nat.zero_le _, rfl, own_nil _ _, Kp.refl _ _⟩
  case round =>
    obtain ⟨k, hk, rfl, hown, hkp⟩ := hrel
    rcases Nat.lt_or_ge k l.length with hlt | hge
    · obtain ⟨r, hrk⟩ : ∃ r, l[k]? = some r := ⟨l[k], by simp [hlt]⟩
      obtain ⟨g, off, rfl, hg, hgl, hc0, hc1⟩ := hc k r hrk
      have hc0' := hkp.cell hc0 (noB_not _)
      have hc1' := hkp.cell hc1 (noB_not _)
      clear hc hc0 hc1
      have hb : decide ((k : Int) < (l.length : Int)) = true := decide_eq_true (by omega)
      have hcl := clamps_length (l.take k)
      have htl : (l.take k).length = k := by simp; omega
      have hsn := clamps_snoc (l.take k) r
      rw [← take_snoc l k r hrk] at hsn
      obtain ⟨x, hx⟩ : ∃ x, max r.1 0 = x := ⟨_, rfl⟩
      obtain ⟨y, hy⟩ : ∃ y, min r.2 1114111 = y := ⟨_, rfl⟩
      rw [hx, hy] at hsn
      go_upto_region 6 with (fail)
      clear hx hy
      by_cases hxy : x ≤ y
      · have hb2 : decide (x ≤ y) = true := decide_eq_true hxy
        rw [if_pos hxy] at hsn
        have HSN := Lib.hid hsn
        clear hsn hxy
        go_wp2_with (first
          | (at_builtin; refine wpList_append_own _ rfl (.tmp 28) (.tmp 30) 31 rfl w.heap.size 191 i0 (.agg #[.int .i64 0, .int .i64 0]) 2 16 Tryz.underlying31 hi hz0 hz1 hz2 rfl (by decide) _ _ _ rfl ((hown.alloc _).alloc _) ⟨wr.heap.size + 1, 0, none⟩ 1 1 [.int .i64 x, .int .i64 y] rfl rfl (by have := two_new (wr.alloc (Obj.cells #[Value.int IntKind.i64 x, Value.int IntKind.i64 y] 191)) (.int .i64 x) (.int .i64 y) 191; simpa using this) (fun x hx => by simp at hx; rcases hx with rfl | rfl <;> rfl) (by unfold maxLen; omega) (by omega) (by have := hkp.size; simp; omega) ?_; intro v' w3 hown' hgrow3 hnil3))
        have R := Lib.hid (own_push hown hown' hgrow3 hkp (Nat.le_refl _))
        clear hown' hgrow3 hnil3
        go_roundw
        case rel => exact ⟨k + 1, by omega, by simp, by rw [HSN.out]; exact R.out.1, R.out.2⟩
        case measure => simp [intOf]; omega
      · have hb2 : decide (x ≤ y) = false := decide_eq_false hxy
        rw [if_neg hxy, List.append_nil] at hsn
        have HSN := Lib.hid hsn
        clear hsn hxy
        go_wp2_with fail
        go_roundw
        case rel => exact ⟨k + 1, by omega, by simp, by rw [HSN.out]; exact hown.alloc _, hkp.alloc _⟩
        case measure => simp [intOf]; omega
    · obtain rfl : k = l.length := by omega
      rw [List.take_length] at hown
      have hb : decide ((l.length : Int) < (l.length : Int)) = false := decide_eq_false (by omega)
      have hcl := clamps_length l
      have HS := Lib.hid ((sort_any _ _ _ _ hown (fun r hr => by have := clamps_mem hr; omega) (by omega)).mono (R' := fun e wS => e = .returned (.tuple #[]) ∧ ∃ s A2 cap2, u3 = .slice A2 s.length cap2 ∧
        (∀ k r, s[k]? = some r → ∃ g off, A2 = some ⟨g, off, none⟩ ∧ w.heap.size ≤ g ∧ g < wS.heap.size ∧ wS.cell? ⟨g, off + k * 2, none⟩ = some (.int .i64 r.1) ∧ wS.cell? ⟨g, off + k * 2 + 1, none⟩ = some (.int .i64 r.2)) ∧
        Hid (puts s = canonOf (inR l)) ∧ Kp noB w wS ∧ s.length ≤ 16777216 ∧ ∀ r ∈ s, 0 ≤ r.2 ∧ r.2 ≤ 1114111)
        (by
          rintro e wS ⟨he, s, hp, hs, hrs, hks⟩
          obtain ⟨A2, cap2, hv, hc⟩ := rngs_open hrs
          exact ⟨he, s, A2, cap2, hv, hc, Lib.hid (canon_made l s hp hs), hkp.later hks (fun i hi hB => by omega), by rw [hp.length_eq]; omega, fun r hr => by have := clamps_mem (hp.mem_iff.1 hr); omega⟩))
      clear hc hr
      go_wp2_with (go_at_call 166; refine HS.out.mono ?_; rintro e wS ⟨rfl, s, A2, cap2, rfl, hc, HM, hks2, hsl, hsb⟩; clear HS hkp hown)
      go_loopw [6, 37] (fun u c wr => ∃ k : Nat, k ≤ s.length ∧ c = .int .i64 k ∧ Own wr wS.heap.size u (puts (s.take k)) ∧ Kp noB wS wr)
        (fun _ c _ => s.length - (intOf c).toNat)
      case atStart =>
        exact ⟨0, Nat.zero_le _, rfl, own_nil _ _, Kp.refl _ _⟩
      case round =>
        obtain ⟨k, hk, rfl, hown, hkp⟩ := hrel
        rcases Nat.lt_or_ge k s.length with hlt | hge
        · obtain ⟨r, hrk⟩ : ∃ r, s[k]? = some r := ⟨s[k], by simp [hlt]⟩
          obtain ⟨g, off, rfl, hg, hgl, hc0, hc1⟩ := hc k r hrk
          have hc0' := hkp.cell hc0 (noB_not _)
          have hc1' := hkp.cell hc1 (noB_not _)
          clear hc hc0 hc1
          have hb1 : decide ((k : Int) < (s.length : Int)) = true := decide_eq_true (by omega)
          have hpl := puts_length (s.take k)
          have htl : (s.take k).length = k := by simp; omega
          have hsn := puts_snoc (s.take k) r
          rw [← take_snoc s k r hrk] at hsn
          obtain ⟨r1, r2⟩ := r
          simp only at hc0' hc1'
          rcases List.eq_nil_or_concat (puts (s.take k)) with he | ⟨o, q, he⟩
          · have HSN := Lib.hid hsn
            obtain ⟨A3, cap3, rfl, _⟩ := rngs_open hown.rngs
            rw [he] at hown
            simp only [he, List.length_nil]
            clear hsn
            have hb2 : decide ((-1 : Int) ≥ 0) = false := rfl
            go_upto_region 15 with (fail)
            go_quiet (fail)
            have hown2 : Own ((wr.alloc (Obj.cells #[Value.int IntKind.i64 r1, Value.int IntKind.i64 r2] 191)).drewN nq) wS.heap.size (.slice A3 0 cap3) [] := hown.alloc _
            have hkp2 : Kp noB wS ((wr.alloc (Obj.cells #[Value.int IntKind.i64 r1, Value.int IntKind.i64 r2] 191)).drewN nq) := (hkp.alloc _).drewN _
            have hx0 : ((wr.alloc (Obj.cells #[Value.int IntKind.i64 r1, Value.int IntKind.i64 r2] 191)).drewN nq).cell? ⟨wr.heap.size, 0, none⟩ = some (.int .i64 r1) := two_new wr (.int .i64 r1) (.int .i64 r2) 191 0 _ rfl
            have hx1 : ((wr.alloc (Obj.cells #[Value.int IntKind.i64 r1, Value.int IntKind.i64 r2] 191)).drewN nq).cell? ⟨wr.heap.size, 1, none⟩ = some (.int .i64 r2) := two_new wr (.int .i64 r1) (.int .i64 r2) 191 1 _ rfl
            clear hown hkp
            generalize (wr.alloc (Obj.cells #[Value.int IntKind.i64 r1, Value.int IntKind.i64 r2] 191)).drewN nq = W2 at hown2 hkp2 hx0 hx1 ⊢
            go_wp2_with (first
              | (at_builtin; refine wpList_append_own _ rfl (.tmp 69) (.tmp 71) 31 rfl wS.heap.size 191 i0 (.agg #[.int .i64 0, .int .i64 0]) 2 16 Tryz.underlying31 hi hz0 hz1 hz2 rfl (by decide) _ _ _ rfl (hown2.alloc _) ⟨W2.heap.size, 0, none⟩ 1 1 [.int .i64 r1, .int .i64 r2] rfl rfl (two_new W2 (.int .i64 r1) (.int .i64 r2) 191) (fun x hx => by simp at hx; rcases hx with rfl | rfl <;> rfl) (by unfold maxLen; simp only [List.length_nil]; omega) (by simp only [List.length_nil]; omega) (by have := hkp2.size; simp; omega) ?_; intro v' w3 hown' hgrow3 hnil3))
            have R := Lib.hid (own_push1 hown2 hown' hgrow3 hkp2 (Nat.le_refl _))
            clear hown' hgrow3 hnil3
            go_roundw
            case rel => exact ⟨k + 1, by omega, by simp, by rw [HSN.out, he]; exact R.out.1, R.out.2⟩
            case measure => simp [intOf]; omega
          · rw [List.concat_eq_append] at he
            have hqb : 0 ≤ q.2 ∧ q.2 ≤ 1114111 := puts_bnd (s.take k) (fun r hr => hsb r (List.mem_of_mem_take hr)) q (by rw [he]; simp)
            rw [he] at hown hpl
            obtain ⟨g3, cap3, rfl, hg3, hgl3, hcap3, hq0, hq1, hz, hset⟩ := own_last hown
            obtain ⟨q1, q2⟩ := q
            rw [List.length_append, List.length_singleton] at hpl
            simp only at hq0 hq1
            have hq0' := ((Kp.refl noB wr).alloc (Obj.cells #[Value.int IntKind.i64 r1, Value.int IntKind.i64 r2] 191)).cell hq0 (noB_not _)
            have hq1' := ((Kp.refl noB wr).alloc (Obj.cells #[Value.int IntKind.i64 r1, Value.int IntKind.i64 r2] 191)).cell hq1 (noB_not _)
            have hlen1 : IntKind.i64.wrap ((o.length : Int) + 1 - 1) = (o.length : Int) := by rw [IntKind.wrap_i64]; omega
            have hb2 : decide ((o.length : Int) ≥ 0) = true := decide_eq_true (by omega)
            have hi0 : (0 : Int) ≤ (o.length : Int) := by omega
            have hi1 : (o.length : Int) < ((o.length + 1 : Nat) : Int) := by omega
            have hi2 : (o.length : Int) < (o.length : Int) + 1 := by omega
            have hq2 : IntKind.i64.wrap (q2 + 1) = q2 + 1 := by rw [IntKind.wrap_i64]; simp only at hqb; omega
            clear hqb
            rw [he] at hsn
            by_cases hle : r1 ≤ q2 + 1
            · have hb3 : decide (r1 ≤ q2 + 1) = true := decide_eq_true hle
              rw [put_join _ _ hle] at hsn
              have HSN := Lib.hid hsn
              clear hsn hle he
              go_upto_region 15 with (fail)
              go_quiet (fail)
              have hown2 : Own ((wr.alloc (Obj.cells #[Value.int IntKind.i64 r1, Value.int IntKind.i64 r2] 191)).drewN nq) wS.heap.size (.slice (some ⟨g3, 0, none⟩) (o.length + 1) cap3) (o ++ [(q1, q2)]) := hown.alloc _
              have hkp2 : Kp noB wS ((wr.alloc (Obj.cells #[Value.int IntKind.i64 r1, Value.int IntKind.i64 r2] 191)).drewN nq) := (hkp.alloc _).drewN _
              have hx0 : ((wr.alloc (Obj.cells #[Value.int IntKind.i64 r1, Value.int IntKind.i64 r2] 191)).drewN nq).cell? ⟨wr.heap.size, 0, none⟩ = some (.int .i64 r1) := two_new wr (.int .i64 r1) (.int .i64 r2) 191 0 _ rfl
              have hx1 : ((wr.alloc (Obj.cells #[Value.int IntKind.i64 r1, Value.int IntKind.i64 r2] 191)).drewN nq).cell? ⟨wr.heap.size, 1, none⟩ = some (.int .i64 r2) := two_new wr (.int .i64 r1) (.int .i64 r2) 191 1 _ rfl
              clear hown hkp hq0 hq1 hset hq0' hq1' hz hgl3 hcap3 hg3
              generalize (wr.alloc (Obj.cells #[Value.int IntKind.i64 r1, Value.int IntKind.i64 r2] 191)).drewN nq = W2 at hown2 hkp2 hx0 hx1 ⊢
              obtain ⟨g4, cap4, hv, hg3, hgl3, hcap3, hq0, hq1, hz, hset⟩ := own_last hown2
              cases hv
              simp only at hq0 hq1 hset
              have HSET := Lib.hid hset
              clear hset hown2
              go_upto_region 16 with (fail)
              go_still_tail 12, (by kernel_rfl)
              change wpList _ _ _ _ _ W2.drew
              go_wp2_with fail
              have R := Lib.hid (HSET.out (max q2 r2))
              have hkp3 : Kp noB wS (W2.drew.setCell ⟨g3, o.length * 2 + 1, none⟩ (.int .i64 (max q2 r2))) := hkp2.drew.setCell (.inr hg3) _
              have HKP := Lib.hid hkp3
              clear hkp3
              go_roundw
              case rel => exact ⟨k + 1, by omega, by simp, by rw [HSN.out]; exact R.out, HKP.out⟩
              case measure => simp [intOf]; omega
            · have hb3 : decide (r1 ≤ q2 + 1) = false := decide_eq_false hle
              rw [put_new _ _ hle] at hsn
              have HSN := Lib.hid hsn
              clear hsn hle he
              go_upto_region 15 with (fail)
              go_quiet (fail)
              have hown2 : Own ((wr.alloc (Obj.cells #[Value.int IntKind.i64 r1, Value.int IntKind.i64 r2] 191)).drewN nq) wS.heap.size (.slice (some ⟨g3, 0, none⟩) (o.length + 1) cap3) (o ++ [(q1, q2)]) := hown.alloc _
              have hkp2 : Kp noB wS ((wr.alloc (Obj.cells #[Value.int IntKind.i64 r1, Value.int IntKind.i64 r2] 191)).drewN nq) := (hkp.alloc _).drewN _
              have hx0 : ((wr.alloc (Obj.cells #[Value.int IntKind.i64 r1, Value.int IntKind.i64 r2] 191)).drewN nq).cell? ⟨wr.heap.size, 0, none⟩ = some (.int .i64 r1) := two_new wr (.int .i64 r1) (.int .i64 r2) 191 0 _ rfl
              have hx1 : ((wr.alloc (Obj.cells #[Value.int IntKind.i64 r1, Value.int IntKind.i64 r2] 191)).drewN nq).cell? ⟨wr.heap.size, 1, none⟩ = some (.int .i64 r2) := two_new wr (.int .i64 r1) (.int .i64 r2) 191 1 _ rfl
              clear hown hkp hq0 hq1 hset hq0' hq1' hz hgl3 hcap3 hg3
              generalize (wr.alloc (Obj.cells #[Value.int IntKind.i64 r1, Value.int IntKind.i64 r2] 191)).drewN nq = W2 at hown2 hkp2 hx0 hx1 ⊢
              have hown3 : (W2.alloc (Obj.cells #[Value.int IntKind.i64 r1, Value.int IntKind.i64 r2] 191)).ownsRow wS.heap.size 191 2 (.slice (some ⟨g3, 0, none⟩) (o.length + 1) cap3) (o.length + 1) (rcells (o ++ [(q1, q2)])) := by
                have := hown2.alloc (Obj.cells #[Value.int IntKind.i64 r1, Value.int IntKind.i64 r2] 191)
                rwa [List.length_append, List.length_singleton] at this
              go_wp2_with (first
                | (at_builtin; refine wpList_append_own _ rfl (.tmp 69) (.tmp 71) 31 rfl wS.heap.size 191 i0 (.agg #[.int .i64 0, .int .i64 0]) 2 16 Tryz.underlying31 hi hz0 hz1 hz2 rfl (by decide) _ (o.length + 1) (rcells (o ++ [(q1, q2)])) rfl hown3 ⟨W2.heap.size, 0, none⟩ 1 1 [.int .i64 r1, .int .i64 r2] rfl rfl (two_new W2 (.int .i64 r1) (.int .i64 r2) 191) (fun x hx => by simp at hx; rcases hx with rfl | rfl <;> rfl) (by unfold maxLen; omega) (by omega) (by have := hkp2.size; simp; omega) ?_; intro v' w3 hown' hgrow3 hnil3))
              have hown4 : w3.ownsRow wS.heap.size 191 2 v' ((o ++ [(q1, q2)]).length + 1) (rcells (o ++ [(q1, q2)]) ++ [.int .i64 r1, .int .i64 r2]) := by
                rw [List.length_append, List.length_singleton]
                exact hown'
              have R := Lib.hid (own_push1 hown2 hown4 hgrow3 hkp2 (Nat.le_refl _))
              clear hown' hgrow3 hnil3 hown4
              go_roundw
              case rel => exact ⟨k + 1, by omega, by simp, by rw [HSN.out]; exact R.out.1, R.out.2⟩
              case measure => simp [intOf]; omega
        · obtain rfl : k = s.length := by omega
          rw [List.take_length, HM.out] at hown
          have hb : decide ((s.length : Int) < (s.length : Int)) = false := decide_eq_false (by omega)
          have R := Lib.hid (And.intro hown.rngs (hks2.trans hkp))
          have hsz2 := hks2.size
          clear hc hown hkp
          go_wp2_with fail
          go_ret
          refine ⟨_, rfl, ?_, R.out.2⟩
          exact Cells.ok R.out.1 fun k _ h => by omega
end Go.Proofs.YtoijabgcgdgacaaGreatDoor

namespace Go.Proofs.YtoijabgcgdgacaaGreatDoor
open Go.RowKit Go.Proofs.Gram Go.Lib

def ostep (x : List (Int × Int) × Int) (r : Int × Int) : List (Int × Int) × Int := (if r.1 > x.2 then x.1 ++ [(x.2, r.1 - 1)] else x.1, r.2 + 1)
def ofin (x : List (Int × Int) × Int) : List (Int × Int) := if x.2 ≤ 1114111 then x.1 ++ [(x.2, 1114111)] else x.1
def ofold (l : List (Int × Int)) : List (Int × Int) × Int := l.foldl ostep ([], 0)
theorem ofold_snoc (l : List (Int × Int)) (r : Int × Int) : ofold (l ++ [r]) = ostep (ofold l) r := by simp [ofold]
theorem ofold_others (l : List (Int × Int)) : ofin (ofold l) = others 0 l := by
  suffices h : ∀ (l o : List (Int × Int)) (f : Int), ofin (l.foldl ostep (o, f)) = o ++ others f l by simpa [ofold] using h l [] 0
  intro l
  induction l with
  | nil =>
    intro o f
    show ofin (o, f) = _
    unfold ofin others
    by_cases h : f ≤ 1114111
    · rw [if_pos h, if_pos h]
    · rw [if_neg h, if_neg h, List.append_nil]
  | cons r l ih =>
    intro o f
    simp only [List.foldl_cons, ostep, others]
    rw [ih]
    split <;> simp
theorem ofold_bnd (l : List (Int × Int)) (h : ∀ r ∈ l, r.1 ≤ r.2 ∧ 0 ≤ r.1 ∧ r.2 ≤ 0x10FFFF) : (ofold l).1.length ≤ l.length ∧ 0 ≤ (ofold l).2 ∧ (ofold l).2 ≤ 1114112 := by
  suffices hh : ∀ (l : List (Int × Int)) (x : List (Int × Int) × Int), (∀ r ∈ l, r.1 ≤ r.2 ∧ 0 ≤ r.1 ∧ r.2 ≤ 0x10FFFF) → 0 ≤ x.2 → x.2 ≤ 1114112 → (l.foldl ostep x).1.length ≤ x.1.length + l.length ∧ 0 ≤ (l.foldl ostep x).2 ∧ (l.foldl ostep x).2 ≤ 1114112 by
    have := hh l ([], 0) h (by simp) (by simp)
    simpa [ofold] using this
  intro l
  induction l with
  | nil => intro x _ h0 h1; exact ⟨by simp, h0, h1⟩
  | cons r l ih =>
    intro x h h0 h1
    have hr := h r (by simp)
    have := ih (ostep x r) (fun y hy => h y (List.mem_cons_of_mem _ hy)) (by simp only [ostep]; omega) (by simp only [ostep]; omega)
    have hl : (ostep x r).1.length ≤ x.1.length + 1 := by simp only [ostep]; split <;> simp
    simp only [List.foldl_cons, List.length_cons]
    omega

theorem own_far {wr w3 : World} {B : Nat} {u x y : Value} {l : List (Int × Int)} {o' : Obj} (hown : Own wr B u l) (hg : ((wr.alloc (.cells #[x, y] 191)).alloc o').grownBy w3 u.ownBlock) :
    w3.cell? ⟨wr.heap.size, 1, none⟩ = some y := by
  have h := two_new wr x y 191 1 _ rfl
  have hk : Kp (fun k => some k = u.ownBlock) (wr.alloc (.cells #[x, y] 191)) w3 := ((Kp.refl _ _).alloc o').grown hg fun k hk => .inl hk.symm
  refine hk.cell h fun hh => ?_
  have := (hown.lt _ hh.symm).2
  simp at this

set_option maxRecDepth 100000 in
set_option maxHeartbeats 4000000 in
theorem other_any (v : Value) (l : List (Int × Int)) (okk : Nat → Prop) (w : World) (hr : Rngs w okk v l) (hsz : l.length ≤ 16777216) :
    Calls Tryz.prog 214 #[v] w fun e w' => ∃ u, e = .returned u ∧ Rngs w' (fun k => w.heap.size ≤ k) u (canonOf (fun p => ¬ inR l p)) ∧ Kp noB w w' := by
  obtain ⟨i0, hi, hz0, hz1, hz2⟩ := info_parts info191
  obtain ⟨hcan, _, hlen⟩ := canonOf_canon l
  have hmade := other_made l
  have HC := (canon_any v l okk w hr hsz).mono (R' := fun e w1 => ∃ s A cap, e = .returned (.slice A s.length cap) ∧
        (∀ k r, s[k]? = some r → ∃ g off, A = some ⟨g, off, none⟩ ∧ w.heap.size ≤ g ∧ g < w1.heap.size ∧ w1.cell? ⟨g, off + k * 2, none⟩ = some (.int .i64 r.1) ∧ w1.cell? ⟨g, off + k * 2 + 1, none⟩ = some (.int .i64 r.2)) ∧
        Kp noB w w1 ∧ Hid (s = canonOf (inR l)))
    (by
      rintro e w1 ⟨u, rfl, hru, hk⟩
      obtain ⟨A, cap, rfl, hc⟩ := rngs_open hru
      exact ⟨_, A, cap, rfl, hc, hk, Lib.hid rfl⟩)
  have HM := Lib.hid hmade
  have HCAN := Lib.hid hcan
  have HLEN := Lib.hid hlen
  have HC := Lib.hid HC
  clear hmade hcan hr hlen
  go_enter Tryz.func214, Tryz.ntmps214
  go_wp2_with (go_at_call 114; refine HC.out.mono ?_; rintro e w1 ⟨s, A, cap, rfl, hc, hk1, HS⟩)
  have hbd := Lib.hid (canonFrom_mem HCAN.out)
  have hsl : s.length ≤ l.length := by rw [HS.out]; exact HLEN.out
  have HB : Hid (∀ r ∈ s, r.1 ≤ r.2 ∧ 0 ≤ r.1 ∧ r.2 ≤ 0x10FFFF) := Lib.hid (by rw [HS.out]; exact hbd.out)
  clear hbd
  go_loopw [3, 4, 10] (fun u f c wr => ∃ k : Nat, k ≤ s.length ∧ c = .int .i64 k ∧ f = .int .i64 (ofold (s.take k)).2 ∧ Own wr w1.heap.size u (ofold (s.take k)).1 ∧ Kp noB w1 wr)
    (fun _ _ c _ => s.length - (intOf c).toNat)
  case atStart =>
    exact ⟨0, Nat.zero_le _, rfl, rfl, own_nil _ _, Kp.refl _ _⟩
  case round =>
    obtain ⟨k, hk, rfl, rfl, hown, hkp⟩ := hrel
    have hbd := ofold_bnd (s.take k) (fun r hr => HB.out r (List.mem_of_mem_take hr))
    have htl : (s.take k).length = k := by simp; omega
    rcases Nat.lt_or_ge k s.length with hlt | hge
    · obtain ⟨r, hrk⟩ : ∃ r, s[k]? = some r := ⟨s[k], by simp [hlt]⟩
      have hrb := HB.out r (List.mem_of_getElem? hrk)
      obtain ⟨g, off, rfl, hg, hgl, hc0, hc1⟩ := hc k r hrk
      have hc0' := hkp.cell hc0 (noB_not _)
      have hc1' := hkp.cell hc1 (noB_not _)
      clear hc hc0 hc1
      have hb : decide ((k : Int) < (s.length : Int)) = true := decide_eq_true (by omega)
      have hsn := ofold_snoc (s.take k) r
      rw [← take_snoc s k r hrk] at hsn
      obtain ⟨r1, r2⟩ := r
      simp only at hc0' hc1' hrb
      generalize ofold (s.take k) = x at hsn hown hbd ⊢
      obtain ⟨o, f⟩ := x
      simp only at hown hbd
      have hw2 : IntKind.i64.wrap (r2 + 1) = r2 + 1 := by rw [IntKind.wrap_i64]; omega
      have hw1 : IntKind.i64.wrap (r1 - 1) = r1 - 1 := by rw [IntKind.wrap_i64]; omega
      by_cases hxy : r1 > f
      · have hb2 : decide (r1 > f) = true := decide_eq_true hxy
        simp only [ostep, if_pos hxy] at hsn
        have HSN := Lib.hid hsn
        have HBD := Lib.hid (And.intro hbd hrb)
        have hol : o.length ≤ 16777216 := by omega
        clear hsn hxy hbd hrb
        go_wp2_with (first
          | (at_builtin; refine wpList_append_own _ rfl (.tmp 18) (.tmp 24) 31 rfl w1.heap.size 191 i0 (.agg #[.int .i64 0, .int .i64 0]) 2 16 Tryz.underlying31 hi hz0 hz1 hz2 rfl (by decide) _ _ _ rfl ((hown.alloc _).alloc _) ⟨wr.heap.size + 1, 0, none⟩ 1 1 [.int .i64 f, .int .i64 (r1 - 1)] rfl rfl (by have := two_new (wr.alloc (Obj.cells #[Value.int IntKind.i64 r1, Value.int IntKind.i64 r2] 191)) (.int .i64 f) (.int .i64 (r1 - 1)) 191; simpa using this) (fun x hx => by simp at hx; rcases hx with rfl | rfl <;> rfl) (by unfold maxLen; omega) (by omega) (by have := hkp.size; simp; omega) ?_; intro v' w3 hown' hgrow3 hnil3; have R := Lib.hid (own_push hown hown' hgrow3 hkp (Nat.le_refl _)); have hx1 := own_far hown hgrow3; clear hown' hgrow3 hnil3))
        go_roundw
        case rel => exact ⟨k + 1, by omega, by simp, by rw [HSN.out], by rw [HSN.out]; exact R.out.1, R.out.2⟩
        case measure => simp [intOf]; omega
      · have hb2 : decide (r1 > f) = false := decide_eq_false hxy
        simp only [ostep, if_neg hxy] at hsn
        have HSN := Lib.hid hsn
        clear hsn hxy hbd hrb
        go_wp2_with fail
        go_roundw
        case rel => exact ⟨k + 1, by omega, by simp, by rw [HSN.out], by rw [HSN.out]; exact hown.alloc _, hkp.alloc _⟩
        case measure => simp [intOf]; omega
    · obtain rfl : k = s.length := by omega
      have hb : decide ((s.length : Int) < (s.length : Int)) = false := decide_eq_false (by omega)
      rw [List.take_length] at hown hbd ⊢
      have hof := ofold_others s
      rw [HS.out, HM.out, ← HS.out] at hof
      have hsz1 := hk1.size
      generalize ofold s = x at hown hbd hof ⊢
      obtain ⟨o, f⟩ := x
      simp only at hown hbd
      by_cases hf : f ≤ 1114111
      · have hb2 : decide (f ≤ 1114111) = true := decide_eq_true hf
        simp only [ofin, if_pos hf] at hof
        have HOF := Lib.hid hof
        have hol : o.length ≤ 16777216 := by omega
        clear hof hf hbd hc
        go_wp2_with (first
          | (at_builtin; refine wpList_append_own _ rfl (.tmp 32) (.tmp 35) 31 rfl w1.heap.size 191 i0 (.agg #[.int .i64 0, .int .i64 0]) 2 16 Tryz.underlying31 hi hz0 hz1 hz2 rfl (by decide) _ _ _ rfl (hown.alloc _) ⟨wr.heap.size, 0, none⟩ 1 1 [.int .i64 f, .int .i64 1114111] rfl rfl (two_new wr (.int .i64 f) (.int .i64 1114111) 191) (fun x hx => by simp at hx; rcases hx with rfl | rfl <;> rfl) (by unfold maxLen; omega) (by omega) (by have := hkp.size; simp; omega) ?_; intro v' w3 hown' hgrow3 hnil3; have R := Lib.hid (own_push1 hown hown' hgrow3 hkp (Nat.le_refl _)); clear hown' hgrow3 hnil3))
        go_ret
        rw [HOF.out] at R
        exact ⟨_, rfl, Cells.ok R.out.1.rngs fun k _ h => by omega, hk1.trans R.out.2⟩
      · have hb2 : decide (f ≤ 1114111) = false := decide_eq_false hf
        simp only [ofin, if_neg hf] at hof
        have HOF := Lib.hid hof
        clear hof hf hbd hc
        go_wp2_with fail
        go_ret
        rw [HOF.out] at hown
        exact ⟨_, rfl, Cells.ok hown.rngs fun k _ h => by omega, hk1.trans hkp⟩
end Go.Proofs.YtoijabgcgdgacaaGreatDoor

namespace Go.Proofs.YtoijabgcgdgacaaGreatDoor
open Go.RowKit Go.Proofs.Gram Go.Lib

/-- How reading a pattern ends. -/
def TP (T : TypeId) (eb es : Addr) (s : ByteArray) (b a o : Nat) (w : World) (r : R Rx) (e : Ending) (w' : World) : Prop :=
  match r with
  | .er c p => Bad T (erA eb es c) p e w' ∧ Kp (onB b) w w'
  | .ok t p => ∃ v, e = .returned v ∧ Kp (onB b) w w' ∧ RD s b p o w' ∧ IsRe w' (fun k => w.heap.size ≤ k) v t ∧ a ≤ p ∧ p ≤ s.size

theorem Own.kp {w w' : World} {B : Nat} {u : Value} {l : List (Int × Int)} {F : Nat → Prop} (h : Own w B u l) (hk : Kp F w w') (hF : ∀ k, B ≤ k → ¬ F k) : Own w' B u l := by
  obtain ⟨h1, h2⟩ := h
  refine ⟨h1, ?_⟩
  rcases h2 with ⟨rfl, h0⟩ | ⟨g, cap, cur, rfl, hg, hh, hn⟩
  · exact .inl ⟨rfl, h0⟩
  · exact .inr ⟨g, cap, cur, rfl, hg, hk.heap hh (hF g hg), hn⟩

theorem erA_one (eb es : Addr) : erA eb es 1 = es := by simp [erA]

theorem own_push2 {a W2 w3 : World} {B : Nat} {F : Nat → Prop} {u v' : Value} {l : List (Int × Int)} {x y : Int} {o' : Obj} (hown : Own W2 B u l) (hown' : w3.ownsRow B 191 2 v' (l.length + 1) (rcells l ++ [.int .i64 x, .int .i64 y]))
    (hg : (W2.alloc o').grownBy w3 u.ownBlock) (hk : Kp F a W2) (hB : a.heap.size ≤ B) : Own w3 B v' (l ++ [(x, y)]) ∧ Kp F a w3 ∧ Kp (fun k => B ≤ k) W2 w3 := by
  refine ⟨?_, (hk.alloc o').grown hg fun k hk => .inr ?_, ((Kp.refl _ _).alloc o').grown hg fun k hk => .inl (hown.lt _ hk).1⟩
  · unfold Own
    rw [rcells_append, List.length_append]
    exact hown'
  · have := (hown.lt _ hk).1
    omega

theorem isRe_set {w : World} {B : Nat} {u : Value} {l : List (Int × Int)} (hr : Rngs w (fun k => B ≤ k) u l) (hB : B ≤ w.heap.size) :
    IsRe (w.alloc (.cells #[.int .i64 1, u, .int .i64 0, .int .i64 0, .slice none 0 0] 34)) (fun k => B ≤ k) (.pointer (some ⟨w.heap.size, 0, none⟩)) (.mk 1 l 0 0 []) :=
  .mk w.heap.size 1 0 0 l [] u (.slice none 0 0) [] (heap_alloc_new w _) hB (hr.kp ((Kp.refl noB w).alloc _) fun _ _ _ => noB_not _) (.inl ⟨rfl, rfl, rfl⟩) rfl (fun i p t h => by simp at h)

section
variable {T : TypeId} {eb es : Addr} {s : ByteArray} {b a o : Nat} {w : World}

/-- A sign, passed over or not. -/
theorem pass_any (c : Int) (hr : RD s b a o w) (hE : Env T eb es w) (hsz : s.size ≤ 65536) (h0 : 0 ≤ c) (h1 : c < 128) (h : pk s a ≠ -2) :
    Calls Tryz.prog 93 #[.pointer (some ⟨b, 0, none⟩), .int .i32 c] w fun e w' => ∃ nb a1, e = .returned (.bool nb) ∧ Kp (onB b) w w' ∧ RD s b a1 o w' ∧ Hid ((nb = true ∧ pk s a = c ∧ a1 = a + 1 ∧ a + 1 ≤ s.size) ∨ (nb = false ∧ pk s a ≠ c ∧ a1 = a)) := by
  by_cases hc : pk s a = c
  · have := pk_lt s a (by omega)
    exact (pass_yes c hr hE hsz h0 h1 hc).mono fun e w' ⟨he, hk, hr'⟩ => ⟨true, a + 1, he, hk, hr', Lib.hid (.inl ⟨rfl, hc, rfl, this⟩)⟩
  · exact (pass_no c hr hE hsz h hc).mono fun e w' ⟨he, hk⟩ => ⟨false, a, he, hk.any, hr.kp hk (noB_not _), Lib.hid (.inr ⟨rfl, hc, rfl⟩)⟩

set_option maxRecDepth 100000 in
set_option maxHeartbeats 4000000 in
theorem class_any (hr : RD s b a o w) (hE : Env T eb es w) (hsz : s.size ≤ 65536) (ha : a ≤ s.size) :
    Calls Tryz.prog 241 #[.pointer (some ⟨b, 0, none⟩)] w fun e w' => ∃ r, Cls s a r ∧ TP T eb es s b a o w r e w' := by
  obtain ⟨i0, hi, hz0, hz1, hz2⟩ := info_parts info191
  by_cases h2 : pk s a = -2
  · have HP := Lib.hid (pass_bad 94 hr hE hsz h2)
    have H2 := Lib.hid (Cls.bad h2)
    clear h2
    go_enter Tryz.func241, Tryz.ntmps241
    go_wp2_with fail
    refine HP.out.mono ?_
    rintro e w1 ⟨⟨g, rfl, hg⟩, hk1⟩
    go_wp2_with fail
    exact ⟨rfl, _, H2.out, by rw [TP, erA_one]; exact ⟨⟨g, rfl, hg⟩, hk1.any⟩⟩
  have HP := Lib.hid (pass_any 94 hr hE hsz (by omega) (by omega) h2)
  have H2 := Lib.hid h2
  clear h2
  go_enter Tryz.func241, Tryz.ntmps241
  go_wp2_with fail
  refine HP.out.mono ?_
  rintro e w1 ⟨nb, a1, rfl, hk1, hr1, HN⟩
  have ha1 : a ≤ a1 ∧ a1 ≤ s.size ∧ a1 ≤ 65536 := by rcases HN.out with ⟨_, _, rfl, h⟩ | ⟨_, _, rfl⟩ <;> omega
  have HA1 := Lib.hid ha1
  have hfar := hr.far
  have hblt := hr.lt
  have hE1 := hE.kp hk1 (fun k hk => onB_not (by omega))
  have hk1s := hk1.size
  clear ha1
  go_wp2_with fail
  go_loopw [4] (fun u wr => ∃ p l, p ≤ s.size ∧ a1 ≤ p ∧ l.length ≤ p ∧ Own wr w1.heap.size u l ∧ Kp (onB b) w1 wr ∧ RD s b p o wr ∧ Hid (∀ r, Items s p l r → Items s a1 [] r))
    (fun _ wr => s.size - (intOf ((wr.cell? ⟨b, 1, none⟩).getD undef)).toNat)
  case atStart =>
    exact ⟨a1, [], HA1.out.2.1, Nat.le_refl _, by simp, own_nil _ _, Kp.refl _ _, hr1, Lib.hid fun r h => h⟩
  case round =>
    obtain ⟨p, l, hp, hap, hll, hown, hkp, hrp, HI⟩ := hrel
    have hEp := hE1.kp hkp (fun k hk => onB_not (by omega))
    have hcp := hrp.c1
    by_cases h2 : pk s p = -2
    · have HQ := Lib.hid (pass_bad 93 hrp hEp hsz h2)
      have HR := Lib.hid (HI.out _ (Items.bad h2))
      clear h2
      go_wp2_with fail
      refine HQ.out.mono ?_
      rintro e w2 ⟨⟨g, rfl, hg⟩, hk2⟩
      go_wp2_with fail
      refine ⟨rfl, .er 1 p, ?_, by rw [TP, erA_one]; exact ⟨⟨g, rfl, hg⟩, (hk1.trans hkp).trans hk2.any⟩⟩
      rcases HN.out with ⟨_, h, rfl, _⟩ | ⟨_, h, rfl⟩
      · exact Cls.not_er h HR.out
      · exact Cls.in_er H2.out h HR.out
    by_cases h93 : pk s p = 93
    · have HQ := Lib.hid (pass_yes 93 hrp hEp hsz (by omega) (by omega) h93)
      have HR := Lib.hid (HI.out _ (Items.stop h93))
      have HPL : Hid (p + 1 ≤ s.size) := Lib.hid (by have := pk_lt s p (by omega); omega)
      clear h93 h2 HI
      go_wp2_with fail
      refine HQ.out.mono ?_
      rintro e w2 ⟨rfl, hk2, hr2⟩
      have hown2 := hown.kp hk2 (fun k hk => onB_not (by omega))
      have HC := Lib.hid (canon_any u4 l _ w2 hown2.rngs (by omega))
      go_wp2_with fail
      refine HC.out.mono ?_
      rintro e w3 ⟨u, rfl, hru, hk3⟩
      obtain ⟨A4, cap4, rfl, _⟩ := rngs_open hru
      obtain ⟨n4, HN4⟩ : ∃ n4, Hid ((canonOf (inR l)).length = n4) := ⟨_, rfl⟩
      rw [HN4.out] at hru ⊢
      have hk03 : Kp (onB b) w w3 := ((hk1.trans hkp).trans hk2).trans hk3.any
      have hr3 := hr2.kp hk3 (noB_not _)
      have hk2s := hk2.size
      have hkps := hkp.size
      have hk3s := hk3.size
      have hcl := (canonOf_canon l).2.2
      have HRU := Lib.hid hru
      clear hown2 hk2 hkp hown HC HQ hru
      rcases HN.out with ⟨rfl, h94, rfl, _⟩ | ⟨rfl, h94, rfl⟩
      · have HO := Lib.hid (other_any _ _ _ w3 HRU.out (by omega))
        have HCL := Lib.hid (Cls.not_ok h94 HR.out)
        go_wp2_with fail
        refine HO.out.mono ?_
        rintro e w4 ⟨u2, rfl, hru2, hk4⟩
        rw [canonOf_twice] at hru2
        obtain ⟨A5, cap5, rfl, _⟩ := rngs_open hru2
        obtain ⟨n5, HN5⟩ : ∃ n5, Hid ((canonOf fun p => ¬ inR l p).length = n5) := ⟨_, rfl⟩
        rw [HN5.out] at hru2 ⊢
        have hR := isRe_set hru2 hk4.size
        have hk5 := ((hk03.trans hk4.any)).alloc (.cells #[.int .i64 1, .slice A5 n5 cap5, .int .i64 0, .int .i64 0, .slice none 0 0] 34)
        have hr5 := hr3.kp (hk4.alloc (.cells #[.int .i64 1, .slice A5 n5 cap5, .int .i64 0, .int .i64 0, .slice none 0 0] 34)) (noB_not _)
        have R := Lib.hid (And.intro hR (And.intro hk5 hr5))
        clear hR hk5 hr5 hru2
        go_wp2_with fail
        go_ret
        exact ⟨_, HCL.out, _, rfl, R.out.2.1, R.out.2.2, R.out.1.ok (fun k _ h => by omega), by omega, HPL.out⟩
      · have hR := isRe_set HRU.out (by omega : w2.heap.size ≤ w3.heap.size)
        have hk5 := hk03.alloc (.cells #[.int .i64 1, .slice A4 n4 cap4, .int .i64 0, .int .i64 0, .slice none 0 0] 34)
        have hr5 := hr3.kp ((Kp.refl noB w3).alloc (.cells #[.int .i64 1, .slice A4 n4 cap4, .int .i64 0, .int .i64 0, .slice none 0 0] 34)) (noB_not _)
        have HCL := Lib.hid (Cls.in_ok H2.out h94 HR.out)
        have R := Lib.hid (And.intro hR (And.intro hk5 hr5))
        clear hR hk5 hr5
        go_wp2_with fail
        go_ret
        exact ⟨_, HCL.out, _, rfl, R.out.2.1, R.out.2.2, R.out.1.ok (fun k _ h => by omega), by omega, HPL.out⟩
    · have HQ := Lib.hid (pass_no 93 hrp hEp hsz h2 h93)
      have H93 := Lib.hid (And.intro h2 h93)
      have hER : ∀ c q, Items s a1 [] (.er c q) → Cls s a (.er c q) := by
        intro c q hi
        rcases HN.out with ⟨_, h, rfl, _⟩ | ⟨_, h, rfl⟩
        · exact Cls.not_er h hi
        · exact Cls.in_er H2.out h hi
      have HER := Lib.hid hER
      clear h93 h2 hER
      go_wp2_with fail
      refine HQ.out.mono ?_
      rintro e w2 ⟨rfl, hk2⟩
      have hr2 := hrp.kp hk2 (noB_not _)
      have hE2 := hEp.kp hk2 (fun k _ => noB_not _)
      have hcp2 := hr2.c1
      have hown2 := hown.kp hk2 (fun k _ => noB_not _)
      have hkp2 := hkp.trans hk2.any
      clear hown hkp hk2 hcp
      have HPT := Lib.hid (point_any ins_signs hr2 hE2 hsz (by decide))
      unfold insB at HPT
      go_wp2_with fail
      refine HPT.out.mono ?_
      clear HPT HQ
      intro e w3 hP3
      cases hpt : point s ins p with
      | er c q =>
        rw [hpt] at hP3
        obtain ⟨⟨g, rfl, hg⟩, hk3⟩ := hP3
        have hc1 := point_er hpt
        subst hc1
        have HR := Lib.hid (HER.out _ _ (HI.out _ (Items.er H93.out.1 H93.out.2 hpt)))
        clear hpt
        go_wp2_with fail
        exact ⟨rfl, _, HR.out, by rw [TP, erA_one]; exact ⟨⟨g, rfl, hg⟩, (hk1.trans hkp2).trans hk3⟩⟩
      | ok lo q =>
        rw [hpt] at hP3
        obtain ⟨rfl, hk3, hr3⟩ := hP3
        have hE3 := hE2.kp hk3 (fun k hk => onB_not (by omega))
        have hown3 := hown2.kp hk3 (fun k hk => onB_not (by omega))
        have hkp3 := hkp2.trans hk3
        clear hown2 hkp2 hk3
        have hadv := point_adv hpt
        have HPT := Lib.hid hpt
        clear hpt
        by_cases h2 : pk s q = -2
        · have HQ := Lib.hid (pass_bad 45 hr3 hE3 hsz h2)
          have HR := Lib.hid (HER.out _ _ (HI.out _ (Items.bad2 H93.out.1 H93.out.2 HPT.out h2)))
          clear h2
          go_wp2_with fail
          refine HQ.out.mono ?_
          rintro e w4 ⟨⟨g, rfl, hg⟩, hk4⟩
          go_wp2_with fail
          exact ⟨rfl, _, HR.out, by rw [TP, erA_one]; exact ⟨⟨g, rfl, hg⟩, (hk1.trans hkp3).trans hk4.any⟩⟩
        by_cases h45 : pk s q = 45
        · have HQ := Lib.hid (pass_yes 45 hr3 hE3 hsz (by omega) (by omega) h45)
          have hql := pk_lt s q (by omega)
          have H45 := Lib.hid h45
          clear h45 h2
          go_wp2_with fail
          refine HQ.out.mono ?_
          rintro e w4 ⟨rfl, hk4, hr4⟩
          have hE4 := hE3.kp hk4 (fun k hk => onB_not (by omega))
          have hown4 := hown3.kp hk4 (fun k hk => onB_not (by omega))
          have hkp4 := hkp3.trans hk4
          clear hown3 hkp3 hk4 HQ
          have HPT2 := Lib.hid (point_any ins_signs hr4 hE4 hsz (by decide))
          unfold insB at HPT2
          go_wp2_with fail
          refine HPT2.out.mono ?_
          clear HPT2
          intro e w5 hP5
          cases hpt : point s ins (q + 1) with
          | er c d =>
            rw [hpt] at hP5
            obtain ⟨⟨g, rfl, hg⟩, hk5⟩ := hP5
            have hc1 := point_er hpt
            subst hc1
            have HR := Lib.hid (HER.out _ _ (HI.out _ (Items.er2 H93.out.1 H93.out.2 HPT.out H45.out hpt)))
            clear hpt
            go_wp2_with fail
            exact ⟨rfl, _, HR.out, by rw [TP, erA_one]; exact ⟨⟨g, rfl, hg⟩, (hk1.trans hkp4).trans hk5⟩⟩
          | ok hh d =>
            rw [hpt] at hP5
            obtain ⟨rfl, hk5, hr5⟩ := hP5
            have hE5 := hE4.kp hk5 (fun k hk => onB_not (by omega))
            have hown5 := hown4.kp hk5 (fun k hk => onB_not (by omega))
            have hkp5 := hkp4.trans hk5
            clear hown4 hkp4 hk5
            have hadv2 := point_adv hpt
            have HPT2 := Lib.hid hpt
            clear hpt
            have hy5 := hE5.syn
            by_cases hlt : hh < lo
            · have hb : decide (hh < lo) = true := decide_eq_true hlt
              have HR := Lib.hid (HER.out _ _ (HI.out _ (Items.less H93.out.1 H93.out.2 HPT.out H45.out HPT2.out hlt)))
              clear hlt
              go_wp2_with (go_at_call 46; refine (fail_bad _ _ _).mono ?_; rintro e w6 ⟨⟨g, rfl, hg⟩, hk6⟩)
              exact ⟨rfl, _, HR.out, by rw [TP, erA_one]; exact ⟨⟨g, rfl, hg⟩, (hk1.trans hkp5).trans hk6.any⟩⟩
            · have hb : decide (hh < lo) = false := decide_eq_false hlt
              have HI2 : Hid (∀ r, Items s d (l ++ [(lo, hh)]) r → Items s a1 [] r) := Lib.hid fun r h => HI.out _ (Items.two H93.out.1 H93.out.2 HPT.out H45.out HPT2.out hlt h)
              have hc5 := hr5.c1
              clear hlt
              go_wp2_with (first
          | (at_builtin; refine wpList_append_own _ rfl (.tmp 32) (.tmp 36) 31 rfl w1.heap.size 191 i0 (.agg #[.int .i64 0, .int .i64 0]) 2 16 Tryz.underlying31 hi hz0 hz1 hz2 rfl (by decide) _ _ _ rfl (hown5.alloc _) ⟨w5.heap.size, 0, none⟩ 1 1 [.int .i64 lo, .int .i64 hh] rfl rfl (two_new w5 (.int .i64 lo) (.int .i64 hh) 191) (fun x hx => by simp at hx; rcases hx with rfl | rfl <;> rfl) (by unfold maxLen; omega) (by omega) (by have := hkp5.size; simp; omega) ?_; intro v' w9 hown' hgrow9 hnil9; have R := Lib.hid (own_push2 hown5 hown' hgrow9 hkp5 (Nat.le_refl _)); clear hown' hgrow9 hnil9))
              have hr9 := hr5.kp R.out.2.2 (by omega)
              go_roundw
              case rel => exact ⟨d, l ++ [(lo, hh)], hadv2.2.1, by omega, by simp; omega, R.out.1, R.out.2.1, hr9, HI2⟩
              case measure => rw [hr9.c1, hrp.c1]; simp only [intOf, Option.getD_some]; omega
        · have HQ := Lib.hid (pass_no 45 hr3 hE3 hsz h2 h45)
          have HI2 : Hid (∀ r, Items s q (l ++ [(lo, lo)]) r → Items s a1 [] r) := Lib.hid fun r h => HI.out _ (Items.one H93.out.1 H93.out.2 HPT.out h2 h45 h)
          clear h45 h2
          go_wp2_with fail
          refine HQ.out.mono ?_
          rintro e w4 ⟨rfl, hk4⟩
          have hr4 := hr3.kp hk4 (noB_not _)
          have hown4 := hown3.kp hk4 (fun k hk => noB_not _)
          have hkp4 := hkp3.trans hk4.any
          have hc4 := hr4.c1
          have hb : decide (lo < lo) = false := decide_eq_false (by omega)
          clear hown3 hkp3 hk4 HQ
          go_wp2_with (first
          | (at_builtin; refine wpList_append_own _ rfl (.tmp 32) (.tmp 36) 31 rfl w1.heap.size 191 i0 (.agg #[.int .i64 0, .int .i64 0]) 2 16 Tryz.underlying31 hi hz0 hz1 hz2 rfl (by decide) _ _ _ rfl (hown4.alloc _) ⟨w4.heap.size, 0, none⟩ 1 1 [.int .i64 lo, .int .i64 lo] rfl rfl (two_new w4 (.int .i64 lo) (.int .i64 lo) 191) (fun x hx => by simp at hx; rcases hx with rfl | rfl <;> rfl) (by unfold maxLen; omega) (by omega) (by have := hkp4.size; simp; omega) ?_; intro v' w9 hown' hgrow9 hnil9; have R := Lib.hid (own_push2 hown4 hown' hgrow9 hkp4 (Nat.le_refl _)); clear hown' hgrow9 hnil9))
          have hr9 := hr4.kp R.out.2.2 (by omega)
          go_roundw
          case rel => exact ⟨q, l ++ [(lo, lo)], hadv.2.1, by omega, by simp; omega, R.out.1, R.out.2.1, hr9, HI2⟩
          case measure => rw [hr9.c1, hrp.c1]; simp only [intOf, Option.getD_some]; omega
end
end Go.Proofs.YtoijabgcgdgacaaGreatDoor
