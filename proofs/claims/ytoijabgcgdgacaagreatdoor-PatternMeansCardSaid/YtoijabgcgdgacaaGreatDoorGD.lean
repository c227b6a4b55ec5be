/-
  WALKS, a: the program's reader of patterns: its smallest steps.
  WALKS, b: the program's reader of patterns: a look, a step, a sign that must stand.
  WALKS, c: the program's reader of patterns: a step, a sign that must stand, one more that is open.
  WALKS, d: strings.ContainsRune of a text of ASCII signs at any rune.
  WALKS, e: the program's reader of patterns: the number of an escape.
  WALKS, f: the program's reader of patterns: a code point, or an escape.
-/
import Derived.Test.YtoijabgcgdgacaaGreatDoorGA
import Derived.Test.YtoijabgcgdgacaaGreatDoorShA
import Derived.WalkKit
import Derived.WalkSpells
import Derived.WalkLawsBesides
import Derived.Deep.RegionHeld3
import Derived.Deep.RegionWith
import Derived.Deep.QuietTactic
import Derived.BigQuiet
import Derived.Outline
import Derived.StillTailTactics
import Derived.Test.YtoijabgcgdgacaaGreatDoorGB
import Derived.Deep.CutBlock
import Derived.Deep.DeepCutAuto
namespace Go.Proofs.YtoijabgcgdgacaaGreatDoor
open Go.RowKit Go.Proofs.Gram

/-- The two errors, and utf8's tables, lie in their variables. -/
structure Env (T : TypeId) (eb es : Addr) (w : World) : Prop where
  tabs : Lib.Utf8Tabs 8 9 w
  bound : w.cell? ⟨0, 0, none⟩ = some (.iface T (.pointer (some eb)))
  syn : w.cell? ⟨1, 0, none⟩ = some (.iface T (.pointer (some es)))
  rng : ∃ tp p t fr, w.heap[15]? = some (.cells #[.iface tp p] t fr)

theorem Env.kp {T : TypeId} {eb es : Addr} {F : Nat → Prop} {w w' : World} (h : Env T eb es w) (hk : Kp F w w') (hF : ∀ k, k < 16 → ¬ F k) : Env T eb es w' :=
  ⟨⟨fun c hc => hk.cell (h.tabs.1 c hc) (hF 8 (by omega)), fun i hi => ⟨hk.cell (h.tabs.2 i hi).1 (hF 9 (by omega)), hk.cell (h.tabs.2 i hi).2 (hF 9 (by omega))⟩⟩, hk.cell h.bound (hF 0 (by omega)), hk.cell h.syn (hF 1 (by omega)),
   let ⟨tp, p, t, fr, hh⟩ := h.rng; ⟨tp, p, t, fr, hk.heap hh (hF 15 (by omega))⟩⟩

theorem Env.range {T : TypeId} {eb es : Addr} {w : World} (h : Env T eb es w) : ∃ tp p, w.var? Tryz.prog "strconv.ErrRange" = some #[.iface tp p] := by
  obtain ⟨tp, p, t, fr, hh⟩ := h.rng
  refine ⟨tp, p, ?_⟩
  unfold World.var?
  rw [show Tryz.prog.globalNamed "strconv.ErrRange" = some 15 by kernel_rfl]
  simp [hh]

/-- The reader's block. -/
structure RD (s : ByteArray) (b a o : Nat) (w : World) : Prop where
  blk : w.heap[b]? = some (.cells #[.string s, .int .i64 a, .int .i64 o] 98 (0, 0))
  far : 16 ≤ b

theorem RD.lt {s : ByteArray} {b a o : Nat} {w : World} (h : RD s b a o w) : b < w.heap.size := (Array.getElem?_eq_some_iff.1 h.blk).1
theorem RD.c0 {s : ByteArray} {b a o : Nat} {w : World} (h : RD s b a o w) : w.cell? ⟨b, 0, none⟩ = some (.string s) := by simp [World.cell?, h.blk]
theorem RD.c1 {s : ByteArray} {b a o : Nat} {w : World} (h : RD s b a o w) : w.cell? ⟨b, 1, none⟩ = some (.int .i64 a) := by simp [World.cell?, h.blk]
theorem RD.c2 {s : ByteArray} {b a o : Nat} {w : World} (h : RD s b a o w) : w.cell? ⟨b, 2, none⟩ = some (.int .i64 o) := by simp [World.cell?, h.blk]
theorem RD.z {s : ByteArray} {b a o : Nat} {w : World} (h : RD s b a o w) (k : Nat) : w.frozen? ⟨b, k, none⟩ = false := by simp [World.frozen?, h.blk]
theorem RD.kp {s : ByteArray} {b a o : Nat} {F : Nat → Prop} {w w' : World} (h : RD s b a o w) (hk : Kp F w w') (hF : ¬ F b) : RD s b a o w' := ⟨hk.heap h.blk hF, h.far⟩
theorem RD.at {s : ByteArray} {b a o : Nat} {w : World} (h : RD s b a o w) (a' : Nat) : RD s b a' o (w.setCell ⟨b, 1, none⟩ (.int .i64 a')) := by
  refine ⟨?_, h.far⟩
  simp [World.setCell, Array.getElem?_modify, h.blk]
theorem RD.op {s : ByteArray} {b a o : Nat} {w : World} (h : RD s b a o w) (o' : Nat) : RD s b a o' (w.setCell ⟨b, 2, none⟩ (.int .i64 o')) := by
  refine ⟨?_, h.far⟩
  simp [World.setCell, Array.getElem?_modify, h.blk]

/-- It panics with a fault. -/
def Bad (T : TypeId) (ea : Addr) (n : Nat) (e : Ending) (w' : World) : Prop :=
  ∃ g, e = .panicked [{ v := .iface 94 (.agg #[.pointer (some ⟨g, 0, none⟩)]), recovered := false }] ∧ w'.heap[g]? = some (.cells #[.iface T (.pointer (some ea)), .int .i64 n] 92 (0, 0))

theorem bcell {W w1 : World} (hb : Below W.heap.size W w1) : (∀ b o, b < W.heap.size → w1.cell? ⟨b, o, none⟩ = W.cell? ⟨b, o, none⟩) ∧ (∀ b o, b < W.heap.size → w1.frozen? ⟨b, o, none⟩ = W.frozen? ⟨b, o, none⟩) :=
  ⟨fun b o h => hb.cell (p := ⟨b, o, none⟩) h, fun b o h => hb.frozen (p := ⟨b, o, none⟩) h⟩

theorem fail_any (r : Value) (et : TypeId) (ea : Addr) (n : Int) (w : World) :
    Calls Tryz.prog 46 #[r, .iface et (.pointer (some ea)), .int .i64 n] w fun o w' => o = .panicked [{ v := .iface 94 (.agg #[.pointer (some ⟨w.heap.size, 0, none⟩)]), recovered := false }] ∧ w' = w.alloc (.cells #[.iface et (.pointer (some ea)), .int .i64 n] 92) := by
  go_enter Tryz.func46, Tryz.ntmps46
  go_wp2
  exact ⟨rfl, rfl, rfl⟩

theorem fail_bad {T : TypeId} {ea : Addr} (r : Value) (n : Nat) (w : World) :
    Calls Tryz.prog 46 #[r, .iface T (.pointer (some ea)), .int .i64 n] w fun e w' => Bad T ea n e w' ∧ Kp noB w w' :=
  (fail_any r T ea n w).mono fun e w' ⟨he, hw⟩ => ⟨⟨w.heap.size, he, by rw [hw]; exact heap_alloc_new w _⟩, by rw [hw]; exact (Kp.refl _ _).alloc _⟩

/-- The rune at a place. -/
theorem dec_any {T : TypeId} {eb es : Addr} (s : ByteArray) (a : Nat) (w : World) (hE : Env T eb es w) (ha : a < s.size) :
    Calls Tryz.prog 200 #[.string (s.extract a s.size)] w fun e w' => e = .returned (.tuple #[.int .i32 (Utf8.decode s a).1, .int .i64 (Utf8.decode s a).2]) ∧ Kp noB w w' := by
  have hsz : (s.extract a s.size).size = s.size - a := by simp
  have hg : ∀ k, (s.extract a s.size).get! k = s.get! (a + k) := by
    intro k
    show (s.extract a s.size).data[k]! = s.data[a + k]!
    rw [ByteArray.data_extract]
    simp only [getElem!_def, Array.getElem?_extract]
    by_cases hk : k < s.size - a
    · simp [hk]
    · have h2 : s.data[a + k]? = none := Array.getElem?_eq_none (by show s.size ≤ a + k; omega)
      rw [h2]
      simp [hk]
  have hd : Lib.decodeGo (s.extract a s.size) = Utf8.decode s a := by
    unfold Lib.decodeGo
    rw [if_neg (by omega), Lib.decode_at, Lib.decode_at s a, hsz]
    simp [hg]
  exact (Tryz.utf8_DecodeRuneInString (s.extract a s.size) w hE.tabs).mono fun e w' ⟨he, hb⟩ => ⟨by rw [he, hd], Kp.of_below hb⟩

end Go.Proofs.YtoijabgcgdgacaaGreatDoor

namespace Go.Proofs.YtoijabgcgdgacaaGreatDoor
open Go.RowKit Go.Proofs.Gram

section
variable {T : TypeId} {eb es : Addr} {s : ByteArray} {b a o : Nat} {w : World}

theorem pk_end (h : s.size ≤ a) : pk s a = -1 := if_pos h
theorem pk_in (h : a < s.size) (h2 : pk s a ≠ -2) : pk s a = ((Utf8.decode s a).1 : Int) ∧ Utf8.decode s a ≠ (65533, 1) := by
  unfold pk at h2 ⊢
  rw [if_neg (by omega)] at h2 ⊢
  by_cases hd : Utf8.decode s a = (65533, 1)
  · rw [if_pos hd] at h2
    exact absurd rfl h2
  · rw [if_neg hd]
    exact ⟨rfl, hd⟩
theorem pk_bad (h : pk s a = -2) : a < s.size ∧ Utf8.decode s a = (65533, 1) := by
  unfold pk at h
  split at h
  · simp at h
  · split at h
    · exact ⟨by omega, by assumption⟩
    · omega

set_option maxRecDepth 100000 in
theorem peek_end (hr : RD s b a o w) (he : s.size ≤ a) :
    Calls Tryz.prog 148 #[.pointer (some ⟨b, 0, none⟩)] w fun e w' => e = .returned (.int .i32 (-1)) ∧ Kp noB w w' := by
  have hs := hr.c0
  have ha := hr.c1
  go_enter Tryz.func148, Tryz.ntmps148
  go_wp2_with fail
  go_quiet (fail)
  go_wp2_with fail
  go_ret
  exact ⟨rfl, (Kp.refl _ _).drewN _⟩

set_option maxRecDepth 100000 in
theorem peek_in (hr : RD s b a o w) (hE : Env T eb es w) (hsz : s.size ≤ 65536) (he : a < s.size) (c n : Nat) (hd : Utf8.decode s a = (c, n)) (hc : ((c : Int) == 65533) = false ∨ ((n : Int) == 1) = false) :
    Calls Tryz.prog 148 #[.pointer (some ⟨b, 0, none⟩)] w fun e w' => e = .returned (.int .i32 c) ∧ Kp noB w w' := by
  have hlt := hr.lt
  have h0 : (0 : Int) ≤ a := by omega
  have h1 : (a : Int) < s.size := by omega
  have h2 : (s.size : Int) ≤ 65536 := by omega
  have h3 : (a : Int) ≤ s.size := by omega
  have hdec := fun W hE => dec_any (T := T) (eb := eb) (es := es) s a W hE he
  rw [hd] at hdec
  have HD := Lib.hid hdec
  clear hdec hd
  have hs := hr.c0
  have ha := hr.c1
  have hc' : ((c : Int) == 65533) = false ∨ (c = 65533 ∧ ((n : Int) == 1) = false) := by
    rcases hc with hc | hc
    · exact .inl hc
    · by_cases e : c = 65533
      · exact .inr ⟨e, hc⟩
      · exact .inl (beq_eq_false_iff_ne.2 (by omega))
  clear hc
  rcases hc' with hc | ⟨rfl, hc⟩
  all_goals
    go_enter Tryz.func148, Tryz.ntmps148
    go_wp2_with fail
    go_quiet (fail)
    go_wp2_with fail
    go_region_held3 (fun w' => w'.cell? ⟨b, 0, none⟩ = some (.string s) ∧ w'.cell? ⟨b, 1, none⟩ = some (.int .i64 a)) (go_keep) (first | (go_at_call 200; refine (HD.out _ ?_).mono ?_; exact ⟨hE.tabs, hE.bound, hE.syn, hE.rng⟩; rintro e w1 ⟨rfl, hk1⟩; obtain ⟨hc1, hf1⟩ := bcell hk1.below; simp only [World.heap_drewN] at hc1))
    go_wp2_with fail
    go_ret
    exact ⟨rfl, ((Kp.refl _ _).drewN _).trans hk1⟩

set_option maxRecDepth 100000 in
theorem peek_bad (hr : RD s b a o w) (hE : Env T eb es w) (hsz : s.size ≤ 65536) (h : pk s a = -2) :
    Calls Tryz.prog 148 #[.pointer (some ⟨b, 0, none⟩)] w fun e w' => Bad T es a e w' ∧ Kp noB w w' := by
  obtain ⟨he, hd⟩ := pk_bad h
  clear h
  have hlt := hr.lt
  have h0 : (0 : Int) ≤ a := by omega
  have h1 : (a : Int) < s.size := by omega
  have h2 : (s.size : Int) ≤ 65536 := by omega
  have h3 : (a : Int) ≤ s.size := by omega
  have hdec := fun W hE => dec_any (T := T) (eb := eb) (es := es) s a W hE he
  rw [hd] at hdec
  have HD := Lib.hid hdec
  clear hdec hd
  have hs := hr.c0
  have ha := hr.c1
  have hy := hE.syn
  have hly : 1 < w.heap.size := World.block_lt_of_cell? w _ hy
  go_enter Tryz.func148, Tryz.ntmps148
  go_wp2_with fail
  go_quiet (fail)
  go_wp2_with fail
  go_region_held3 (fun w' => w'.cell? ⟨b, 0, none⟩ = some (.string s) ∧ w'.cell? ⟨b, 1, none⟩ = some (.int .i64 a)) (go_keep) (first | (go_at_call 200; refine (HD.out _ ?_).mono ?_; exact ⟨hE.tabs, hE.bound, hE.syn, hE.rng⟩; rintro e w1 ⟨rfl, hk1⟩; obtain ⟨hc1, hf1⟩ := bcell hk1.below; simp only [World.heap_drewN] at hc1))
  go_wp2_with fail
  have g1 := hk1.cell (p := ⟨b, 1, none⟩) (v := .int .i64 a) (by simpa using ha) (by simp [noB])
  have g2 := hk1.cell (p := ⟨1, 0, none⟩) (by simpa using hy) (by simp [noB])
  go_still_tail 6, (by kernel_rfl)
  change wpList _ _ _ _ _ w1.drew
  go_wp2_with (go_at_call 46; refine (fail_bad _ _ _).mono ?_; rintro e w2 ⟨⟨g, rfl, hg⟩, hk2⟩)
  exact ⟨rfl, ⟨g, rfl, hg⟩, (((Kp.refl _ _).drewN _).trans hk1).trans (((Kp.refl _ _).drew).trans hk2)⟩
end
end Go.Proofs.YtoijabgcgdgacaaGreatDoor

namespace Go.Proofs.YtoijabgcgdgacaaGreatDoor
open Go.RowKit Go.Proofs.Gram

section
variable {T : TypeId} {eb es : Addr} {s : ByteArray} {b a o : Nat} {w : World}

theorem peek_ok (hr : RD s b a o w) (hE : Env T eb es w) (hsz : s.size ≤ 65536) (x : Int) (hx : pk s a = x) (h : x ≠ -2) :
    Calls Tryz.prog 148 #[.pointer (some ⟨b, 0, none⟩)] w fun e w' => e = .returned (.int .i32 x) ∧ Kp noB w w' := by
  subst hx
  by_cases he : s.size ≤ a
  · rw [pk_end he]
    exact peek_end hr he
  · obtain ⟨h1, h2⟩ := pk_in (by omega) h
    rw [h1]
    refine peek_in hr hE hsz (by omega) _ (Utf8.decode s a).2 rfl ?_
    by_cases h3 : (Utf8.decode s a).1 = 65533
    · refine .inr (beq_eq_false_iff_ne.2 fun h4 => h2 (Prod.ext h3 (by omega)))
    · exact .inl (beq_eq_false_iff_ne.2 (by omega))

/-- An ASCII sign has one byte. -/
theorem runeLen_ascii (c : Int) (h0 : 0 ≤ c) (h1 : c < 128) (w : World) : Calls Tryz.prog 149 #[.int .i32 c] w fun e w' => e = .returned (.int .i64 1) ∧ w' = w := by
  have := Tryz.utf8_RuneLen c w
  rw [show Lib.runeLen c = 1 from by unfold Lib.runeLen; rw [if_neg (by omega), if_pos (by omega)]] at this
  exact this

theorem pass_bad (c : Int) (hr : RD s b a o w) (hE : Env T eb es w) (hsz : s.size ≤ 65536) (h : pk s a = -2) :
    Calls Tryz.prog 93 #[.pointer (some ⟨b, 0, none⟩), .int .i32 c] w fun e w' => Bad T es a e w' ∧ Kp noB w w' := by
  have HP := Lib.hid (peek_bad hr hE hsz h)
  clear h
  go_enter Tryz.func93, Tryz.ntmps93
  go_wp2_with (go_at_call 148; refine HP.out.mono ?_; rintro e w1 ⟨⟨g, rfl, hg⟩, hk1⟩)
  exact ⟨rfl, ⟨g, rfl, hg⟩, hk1⟩

theorem pass_no (c : Int) (hr : RD s b a o w) (hE : Env T eb es w) (hsz : s.size ≤ 65536) (h : pk s a ≠ -2) (hc : pk s a ≠ c) :
    Calls Tryz.prog 93 #[.pointer (some ⟨b, 0, none⟩), .int .i32 c] w fun e w' => e = .returned (.bool false) ∧ Kp noB w w' := by
  have hp := peek_ok hr hE hsz _ rfl h
  generalize pk s a = x at hp hc h
  have HP := Lib.hid hp
  clear hp
  have hn : (x != c) = true := bne_iff_ne.2 hc
  clear h hc
  go_enter Tryz.func93, Tryz.ntmps93
  go_wp2_with (go_at_call 148; refine HP.out.mono ?_; rintro e w1 ⟨rfl, hk1⟩)
  go_ret
  exact ⟨rfl, hk1⟩

set_option maxRecDepth 100000 in
theorem pass_yes (c : Int) (hr : RD s b a o w) (hE : Env T eb es w) (hsz : s.size ≤ 65536) (h0 : 0 ≤ c) (h1 : c < 128) (h : pk s a = c) :
    Calls Tryz.prog 93 #[.pointer (some ⟨b, 0, none⟩), .int .i32 c] w fun e w' => e = .returned (.bool true) ∧ Kp (onB b) w w' ∧ RD s b (a + 1) o w' := by
  have hlt : (a : Int) < s.size := by
    have : ¬ s.size ≤ a := fun hh => by rw [pk_end hh] at h; omega
    omega
  have HP := Lib.hid (peek_ok hr hE hsz _ h (by omega))
  clear h
  have hn : (c != c) = false := by simp
  have hsz' : (s.size : Int) ≤ 65536 := by omega
  go_enter Tryz.func93, Tryz.ntmps93
  go_wp2_with (go_at_call 148; refine HP.out.mono ?_; rintro e w1 ⟨rfl, hk1⟩)
  have hr1 := hr.kp hk1 (by simp [noB])
  have hc1 := hr1.c1
  have hz1 := hr1.z
  go_still_tail 9, (by kernel_rfl)
  still_call (runeLen_ascii c h0 h1 _)
  repeat still_step
  refine wpStill_nil ?_
  change wpList _ _ _ _ _ w1.drew
  go_wp2_with fail
  go_ret
  refine ⟨rfl, ?_, ?_⟩
  · exact (hk1.any.setCell (F := onB b) (p := ⟨b, 1, none⟩) (.inl (onB_self b)) _).drew
  · exact (hr1.at (a + 1)).kp ((Kp.refl noB _).drew) (by simp [noB])

set_option maxRecDepth 100000 in
theorem want_bad (c : Int) (hr : RD s b a o w) (hE : Env T eb es w) (hsz : s.size ≤ 65536) (hc : pk s a ≠ c) :
    Calls Tryz.prog 240 #[.pointer (some ⟨b, 0, none⟩), .int .i32 c] w fun e w' => Bad T es a e w' ∧ Kp noB w w' := by
  by_cases h : pk s a = -2
  · have HP := Lib.hid (pass_bad c hr hE hsz h)
    clear h hc
    go_enter Tryz.func240, Tryz.ntmps240
    go_wp2_with (go_at_call 93; refine HP.out.mono ?_; rintro e w1 ⟨⟨g, rfl, hg⟩, hk1⟩)
    exact ⟨rfl, ⟨g, rfl, hg⟩, hk1⟩
  · have HP := Lib.hid (pass_no c hr hE hsz h hc)
    clear h hc
    go_enter Tryz.func240, Tryz.ntmps240
    go_wp2_with (go_at_call 93; refine HP.out.mono ?_; rintro e w1 ⟨rfl, hk1⟩)
    have hc1 := (hr.kp hk1 (noB_not _)).c1
    have hy := hk1.cell hE.syn (noB_not _)
    go_still_tail 6, (by kernel_rfl)
    change wpList _ _ _ _ _ w1.drew
    go_wp2_with (go_at_call 46; refine (fail_bad _ _ _).mono ?_; rintro e w2 ⟨⟨g, rfl, hg⟩, hk2⟩)
    exact ⟨rfl, ⟨g, rfl, hg⟩, hk1.trans (((Kp.refl _ _).drew).trans hk2)⟩

theorem want_yes (c : Int) (hr : RD s b a o w) (hE : Env T eb es w) (hsz : s.size ≤ 65536) (h0 : 0 ≤ c) (h1 : c < 128) (h : pk s a = c) :
    Calls Tryz.prog 240 #[.pointer (some ⟨b, 0, none⟩), .int .i32 c] w fun e w' => e = .returned (.tuple #[]) ∧ Kp (onB b) w w' ∧ RD s b (a + 1) o w' := by
  have HP := Lib.hid (pass_yes c hr hE hsz h0 h1 h)
  clear h
  go_enter Tryz.func240, Tryz.ntmps240
  go_wp2_with (go_at_call 93; refine HP.out.mono ?_; rintro e w1 ⟨rfl, hk1, hr1⟩)
  go_end0
  exact ⟨rfl, hk1, hr1⟩

theorem down_ok (hr : RD s b a o w) (h : o < 100) :
    Calls Tryz.prog 239 #[.pointer (some ⟨b, 0, none⟩)] w fun e w' => e = .returned (.tuple #[]) ∧ Kp (onB b) w w' ∧ RD s b a (o + 1) w' := by
  have h2 := hr.c2
  have hz := hr.z
  have h' : (o : Int) < 100 := by omega
  go_enter Tryz.func239, Tryz.ntmps239
  go_wp2_with fail
  go_end0
  exact ⟨rfl, ((Kp.refl _ _).setCell (F := onB b) (p := ⟨b, 2, none⟩) (.inl (onB_self b)) _), hr.op (o + 1)⟩

set_option maxRecDepth 100000 in
theorem down_bad (hr : RD s b a o w) (hE : Env T eb es w) (h : 100 ≤ o) (ho : o ≤ 1000) :
    Calls Tryz.prog 239 #[.pointer (some ⟨b, 0, none⟩)] w fun e w' => Bad T eb a e w' ∧ Kp (onB b) w w' := by
  have h2 := hr.c2
  have hz := hr.z
  have h' : (100 : Int) ≤ o := by omega
  have h'' : (o : Int) ≤ 1000 := by omega
  have hr1 := hr.op (o + 1)
  have hc1 := hr1.c1
  have hk1 := (Kp.refl _ w).setCell (F := onB b) (p := ⟨b, 2, none⟩) (.inl (onB_self b)) (.int .i64 ((o + 1 : Nat) : Int))
  have hy := hk1.cell hE.bound (onB_not (by have := hr.far; show (0 : Nat) ≠ b; omega))
  obtain ⟨w1, HW⟩ : ∃ w1, Hid (w.setCell ⟨b, 2, none⟩ (.int .i64 (o + 1)) = w1) := ⟨_, rfl⟩
  have e1 : ((o + 1 : Nat) : Int) = (o : Int) + 1 := by omega
  rw [e1] at hr1 hc1 hk1 hy
  rw [HW.out] at hr1 hc1 hk1 hy
  go_enter Tryz.func239, Tryz.ntmps239
  go_wp2_with fail
  rw [HW.out]
  go_still_tail 6, (by kernel_rfl)
  change wpList _ _ _ _ _ w1.drew
  go_wp2_with (go_at_call 46; refine (fail_bad _ _ _).mono ?_; rintro e w2 ⟨⟨g, rfl, hg⟩, hk2⟩)
  exact ⟨rfl, ⟨g, rfl, hg⟩, hk1.trans (((Kp.refl _ _).drew).trans hk2.any)⟩
end
end Go.Proofs.YtoijabgcgdgacaaGreatDoor

namespace Go.Proofs.YtoijabgcgdgacaaGreatDoor
open Go.RowKit Go.Proofs.Gram

/-- The index of a byte that is not there. -/
theorem indexByte_absent : ∀ (l : List UInt8) (c : UInt8), (∀ x ∈ l, x ≠ c) → Lib.indexByte l c = -1
  | [], _, _ => rfl
  | x :: l, c, h => by
    have h1 : (x == c) = false := beq_eq_false_iff_ne.2 (h x (by simp))
    have h2 := indexByte_absent l c fun y hy => h y (by simp [hy])
    simp [Lib.indexByte, h1, h2]

set_option maxRecDepth 100000 in
set_option maxHeartbeats 800000 in
theorem indexRune_far (s : ByteArray) (hs : ∀ x ∈ s.data.toList, x.toNat < 128) (hl : 4 ≤ s.size) (hm : s.size ≤ 100) (r : Int) (h0 : 128 ≤ r) (hv : Utf8.valid r = true) (hne : (r == 65533) = false) (w : World) :
    Calls Tryz.prog 297 #[.string s, .int .i32 r] w fun e w' => e = .returned (.int .i64 (-1)) ∧ Kp noB w w' := by
  obtain ⟨h2, h4, hlast⟩ := encode_facts r hv h0
  have hvr := Tryz.utf8_ValidRune r
  have hvv : Lib.validRune r = true := by
    simp only [Utf8.valid, Bool.or_eq_true, Bool.and_eq_true, decide_eq_true_eq] at hv
    unfold Lib.validRune
    exact decide_eq_true (by omega)
  rw [hvv] at hvr
  have hcv : ∀ w : World, (convert 21 9 (.int .i32 r)).run Tryz.prog w = .ok (.string (Utf8.encode r)) w := fun w => run_convert_int_string w 21 9 .i32 r (by kernel_rfl) Tryz.underlying9
  generalize Utf8.encode r = rs at h2 h4 hlast hcv
  obtain ⟨k, hk⟩ : ∃ k, rs.size = k + 1 := ⟨rs.size - 1, by omega⟩
  have hk' : (rs.size : Int) - 1 = k := by omega
  have hn : ¬ r < 128 := by omega
  have k0 : (0 : Int) ≤ k := by omega
  have k1 : (k : Int) < s.size := by omega
  have k2 : (k : Int) < rs.size := by omega
  have hkl : k < rs.size := by omega
  have hks : k < s.size := by omega
  have hA : 128 ≤ (rs[k]).toNat := by
    have := hlast (by omega)
    simpa [hk] using this
  have hB : (s[k]).toNat < 128 := hs _ (by
    have := Array.getElem_mem_toList (xs := s.data) (i := k) hks
    exact this)
  have hidx : ∀ (i : Nat) (W : World), Calls Tryz.prog 298 #[.string (s.extract i s.size), .int .u8 (rs[k]).toNat] W fun e w' => e = .returned (.int .i64 (-1)) ∧ w' = W := by
    intro i W
    have h := Tryz.strings_IndexByte (s.extract i s.size) ((rs[k]).toNat) W
    rw [indexByte_absent] at h
    · exact h
    · intro x hx hxe
      have := hs x (mem_extract hx)
      subst hxe
      simp at this
      omega
  have HI := Lib.hid hidx
  have HK := Lib.hid hk
  clear hk hlast hidx hvv hv
  go_enter Tryz.func297, Tryz.ntmps297
  go_wp2_with (go_at_call 317; refine (hvr _).mono ?_; rintro e w1 ⟨rfl, rfl⟩)
  go_step3
  go_wp2_with fail
  refine wp_loop_once ?_
  go_wp2_with fail
  go_step3
  go_wp2_with fail
  go_quiet (fail)
  have hk2 : Kp noB w1 (w1.drewN nq) := (Kp.refl _ _).drewN _
  generalize w1.drewN nq = w2 at hk2 ⊢
  go_wp2_with fail
  have q1 : IntKind.i64.wrap ((k : Int) + 1) = (k : Int) + 1 := IntWalk.i64_in _ (by omega)
  have q2 : (0 : Int) ≤ (k : Int) + 1 := by omega
  have q3 : ((k : Int) + 1).toNat = k + 1 := by omega
  have q4 : (k : Int) + 1 ≤ s.size := by omega
  go_quiet ((go_at_call 298; exact Calls.quiet_of_same (HI.out _ _)))
  go_wp2_with fail
  rw [Exit.noGoto_ret]
  simp only [Exit.inBlock]
  show Exit.then _ _ _ _ _
  simp only [Exit.then, Exit.inBlock, Exit.noGoto_ret]
  go_ret
  exact ⟨rfl, hk2.drewN _⟩

theorem kp_iter (w : World) (s : ByteArray) (p : Nat) : Kp noB w (w.iter s p) := (Kp.refl _ _).alloc _

set_option maxRecDepth 100000 in
set_option maxHeartbeats 800000 in
theorem indexRune_fffd (s : ByteArray) (hs : ∀ x ∈ s.data.toList, x.toNat < 128) (hm : s.size ≤ 100) (w : World) :
    Calls Tryz.prog 297 #[.string s, .int .i32 65533] w fun e w' => e = .returned (.int .i64 (-1)) ∧ Kp noB w w' := by
  go_enter Tryz.func297, Tryz.ntmps297
  go_wp2_with fail
  go_loopw [] (fun w' => ∃ pos, pos ≤ s.size ∧ w' = w.iter s pos) (fun w' => s.size - w'.iterPos w.heap.size)
  case atStart => exact ⟨0, by omega, rfl⟩
  case round =>
    obtain ⟨pos, hp, rfl⟩ := hrel
    by_cases hlt : pos < s.size
    · have ha : (s[pos]).toNat < 128 := hs _ (by
        have := Array.getElem_mem_toList (xs := s.data) (i := pos) hlt
        exact this)
      have hf : (((s[pos]).toNat : Int) == 65533) = false := beq_eq_false_iff_ne.2 (by omega)
      have hnx : ∀ ty, (Instr.next (.pointer (some ⟨w.heap.size, 0, none⟩)) true ty).run Tryz.prog (w.iter s pos) = _ := fun ty => run_next_ascii w s pos ty hlt ha
      go_wp2_with fail
      go_roundw
      case rel => exact ⟨pos + 1, by omega, rfl⟩
      case measure => simp; omega
    · have hnx : ∀ ty, (Instr.next (.pointer (some ⟨w.heap.size, 0, none⟩)) true ty).run Tryz.prog (w.iter s pos) = _ := fun ty => run_next_end w s pos ty hlt
      go_wp2_with fail
      go_ret
      exact ⟨rfl, kp_iter _ _ _⟩

/-- No text of ASCII signs holds another rune. -/
theorem containsRune_far (s : ByteArray) (hs : ∀ x ∈ s.data.toList, x.toNat < 128) (hl : 4 ≤ s.size) (hm : s.size ≤ 100) (r : Int) (h0 : 128 ≤ r) (hv : Utf8.valid r = true) (w : World) :
    Calls Tryz.prog 278 #[.string s, .int .i32 r] w fun e w' => e = .returned (.bool false) ∧ Kp noB w w' := by
  have HI : Hid (∀ w, Calls Tryz.prog 297 #[.string s, .int .i32 r] w fun e w' => e = .returned (.int .i64 (-1)) ∧ Kp noB w w') := by
    intro w
    by_cases h : r = 65533
    · subst h
      exact indexRune_fffd s hs hm w
    · exact indexRune_far s hs hl hm r h0 hv (beq_eq_false_iff_ne.2 h) w
  clear hv
  go_enter Tryz.func278, Tryz.ntmps278
  go_wp2_with (go_at_call 297; refine (HI.out _).mono ?_; rintro e w1 ⟨rfl, hk1⟩)
  go_ret
  exact ⟨rfl, hk1⟩
end Go.Proofs.YtoijabgcgdgacaaGreatDoor

namespace Go.Proofs.YtoijabgcgdgacaaGreatDoor
open Go.RowKit Go.Proofs.Gram

section
variable {T : TypeId} {eb es : Addr} {s : ByteArray} {b a o : Nat} {w : World}

/-- How reading a number ends. -/
def NumP (T : TypeId) (es : Addr) (s : ByteArray) (b o : Nat) (w : World) (r : R Nat) (e : Ending) (w' : World) : Prop :=
  match r with
  | .er _ p => Bad T es p e w' ∧ Kp noB w w'
  | .ok n p => e = .returned (.int .i64 n) ∧ Kp (onB b) w w' ∧ RD s b p o w'

theorem extract_get (s : ByteArray) (i j : Nat) (h : j < (s.extract i s.size).size) : (s.extract i s.size)[j] = s[i + j]'(by simp at h; omega) := by
  rw [ByteArray.getElem_extract]

theorem u8_of_nat (x : UInt8) : ((x.toNat : Int).toNat).toUInt8 = x := by simp

theorem getElem?_data (s : ByteArray) (i : Nat) (h : i < s.size) : s.data.toList[i]? = some s[i] := by
  have h' : i < s.data.toList.length := by rw [Array.length_toList]; exact h
  rw [List.getElem?_eq_getElem h']
  rfl

set_option maxRecDepth 100000 in
theorem number_bad (frm : Nat) (hr : RD s b a o w) (hE : Env T eb es w) (hsz : s.size ≤ 65536) (ha : a < s.size) (R : ByteArray) (HR : Hid (s.extract (a + 1) s.size = R)) (E : Int)
    (HI : Hid (∀ W, Calls Tryz.prog 298 #[.string R, .int .u8 125] W fun e w' => e = .returned (.int .i64 E) ∧ w' = W))
    (hg : (R.size : Int) < 3 ∨ (∃ h : 0 < R.size, ¬ (R.size : Int) < 3 ∧ (((R[0]).toNat : Int) != 123) = true) ∨ (∃ h : 0 < R.size, ¬ (R.size : Int) < 3 ∧ (((R[0]).toNat : Int) != 123) = false ∧ (E < 2 ∨ ¬ E < 2 ∧ 7 < E))) :
    Calls Tryz.prog 279 #[.pointer (some ⟨b, 0, none⟩), .int .i64 frm] w fun e w' => Bad T es frm e w' ∧ Kp noB w w' := by
  have h0 : (0 : Int) ≤ a := by omega
  have h2 : (s.size : Int) ≤ 65536 := by omega
  have h4 : (a : Int) + 1 ≤ s.size := by omega
  have q1 : IntKind.i64.wrap ((a : Int) + 1) = (a : Int) + 1 := IntWalk.i64_in _ (by omega)
  have q2 : (0 : Int) ≤ (a : Int) + 1 := by omega
  have q3 : ((a : Int) + 1).toNat = a + 1 := by omega
  have hs := hr.c0
  have hc1 := hr.c1
  have hy := hE.syn
  rcases hg with h | ⟨hp, h1, h⟩ | ⟨hp, h1, h, h3 | ⟨h3, h5⟩⟩
  all_goals
    go_enter Tryz.func279, Tryz.ntmps279
    go_wp2_with fail
    go_quiet (fail)
    rw [HR.out]
    go_wp2_with (first | (go_at_call 298; refine (HI.out _).mono ?_; rintro e w1 ⟨rfl, rfl⟩) | (go_at_call 46; refine (fail_bad _ _ _).mono ?_; rintro e w2 ⟨⟨g, rfl, hg⟩, hk2⟩))
    exact ⟨rfl, ⟨g, rfl, hg⟩, ((Kp.refl _ _).drewN _).trans hk2⟩


/-- The signs of the base 16, as a text. -/
theorem hexIdx (c : UInt8) (W : World) : Calls Tryz.prog 298 #[.string ⟨#[48, 49, 50, 51, 52, 53, 54, 55, 56, 57, 97, 98, 99, 100, 101, 102, 65, 66, 67, 68, 69, 70]⟩, .int .u8 c.toNat] W fun e w' => e = .returned (.int .i64 (Lib.indexByte hexDigits c)) ∧ w' = W := by
  have h := Tryz.strings_IndexByte ⟨#[48, 49, 50, 51, 52, 53, 54, 55, 56, 57, 97, 98, 99, 100, 101, 102, 65, 66, 67, 68, 69, 70]⟩ (c.toNat) W
  rw [u8_of_nat] at h
  exact h

theorem pow_le {j : Nat} (h : j ≤ 7) (h1 : 1 ≤ j) : 16 ^ (j - 1) ≤ 16777216 := by
  have : 16 ^ (j - 1) ≤ 16 ^ 6 := Nat.pow_le_pow_right (by omega) (by omega)
  simpa using this

set_option maxRecDepth 100000 in
set_option maxHeartbeats 800000 in
theorem number_good (frm : Nat) (hr : RD s b a o w) (hE : Env T eb es w) (hsz : s.size ≤ 65536) (ha : a < s.size) (R : ByteArray) (HR : Hid (s.extract (a + 1) s.size = R)) (q : Nat)
    (HI : Hid (∀ W, Calls Tryz.prog 298 #[.string R, .int .u8 125] W fun e w' => e = .returned (.int .i64 q) ∧ w' = W))
    (hp : 0 < R.size) (h1 : ¬ (R.size : Int) < 3) (h3 : (((R[0]).toNat : Int) != 123) = false) (hq1 : 2 ≤ q) (hq2 : q ≤ 7)
    (hbyte : ∀ j, j < q → ∃ h : j < R.size, R[j] ≠ 125) (hend : ∃ h : q < R.size, R[q] = 125) (hRs : ∀ j (h : j < R.size), ∃ h' : a + 1 + j < s.size, R[j] = s[a + 1 + j]) :
    Calls Tryz.prog 279 #[.pointer (some ⟨b, 0, none⟩), .int .i64 frm] w fun e w' => NumP T es s b o w (numb s frm (a + 1)) e w' := by
  have hnumb : numb s frm (a + 1) = hexs s frm 7 (a + 2) 0 0 := by
    obtain ⟨h', e⟩ := hRs 0 hp
    have e2 : s[a + 1] = 123 := by
      have e3 : R[0] = 123 := by
        have := bne_eq_false_iff_eq.1 h3
        exact UInt8.toNat_inj.1 (by simpa using (show R[0].toNat = 123 by omega))
      rw [← e3, e]
    unfold numb
    rw [dif_pos (show a + 1 < s.size from h'), if_pos e2]
  have h0 : (0 : Int) ≤ a := by omega
  have h2 : (s.size : Int) ≤ 65536 := by omega
  have h4 : (a : Int) + 1 ≤ s.size := by omega
  have q1 : IntKind.i64.wrap ((a : Int) + 1) = (a : Int) + 1 := IntWalk.i64_in _ (by omega)
  have q2 : (0 : Int) ≤ (a : Int) + 1 := by omega
  have q3 : ((a : Int) + 1).toNat = a + 1 := by omega
  have hs := hr.c0
  have hc1 := hr.c1
  have hz := hr.z
  have hy := hE.syn
  have hQ1 : ¬ (q : Int) < 2 := by omega
  have hQ2 : ¬ (7 : Int) < q := by omega
  have HB := Lib.hid hbyte
  have HE := Lib.hid hend
  have HS := Lib.hid hRs
  have HN := Lib.hid hnumb
  clear hbyte hend hRs hnumb
  go_enter Tryz.func279, Tryz.ntmps279
  go_wp2_with fail
  go_quiet (fail)
  rw [HR.out]
  have hk1 : Kp noB w (w.drewN nq) := (Kp.refl _ _).drewN _
  go_wp2_with (first | (go_at_call 298; refine (HI.out _).mono ?_; rintro e w1 ⟨rfl, rfl⟩))
  clear h3 h1
  go_loop [7, 8] (fun n i => ∃ j m : Nat, 1 ≤ j ∧ j ≤ q ∧ n = .int .i64 m ∧ i = .int .i64 j ∧ m < 16 ^ (j - 1) ∧ hexs s frm 7 (a + 2) 0 0 = hexs s frm (8 - j) (a + 1 + j) (j - 1) m) (fun _ i => q - (intOf i).toNat)
  case atStart => exact ⟨1, 0, by omega, by omega, rfl, rfl, by simp, rfl⟩
  case round =>
    obtain ⟨j, m, hj1, hjq, rfl, rfl, hm, hx⟩ := hrel
    have hpw := pow_le (j := j) (by omega) hj1
    have hmI : (m : Int) < 16777216 := by omega
    have HX := Lib.hid hx
    have HM := Lib.hid hm
    clear hx hm hpw
    by_cases hlt : j < q
    · obtain ⟨hjR, hne⟩ := HB.out j hlt
      obtain ⟨hjs, hRj⟩ := HS.out j hjR
      have hstep : hexs s frm (8 - j) (a + 1 + j) (j - 1) m = match hexv R[j] with
          | some d => hexs s frm (8 - (j + 1)) (a + 1 + (j + 1)) (j + 1 - 1) (m * 16 + d)
          | none => .er 1 frm := by
        rw [show 8 - j = (8 - (j + 1)) + 1 from by omega, hexs, dif_pos hjs, ← hRj, if_neg (fun h => hne h.1)]
        cases hexv R[j] with
        | none => rfl
        | some d => simp only [show a + 1 + j + 1 = a + 1 + (j + 1) from by omega, show j - 1 + 1 = j + 1 - 1 from by omega]
      have hidx := hexIdx R[j]
      have hcase := hexDigits_any R[j]
      generalize Lib.indexByte hexDigits R[j] = x at hidx hcase
      have HXI := Lib.hid hidx
      clear hidx hne hRj
      rcases hcase with ⟨hx1, hx2⟩ | ⟨⟨hx1, hx1'⟩, hx2⟩ | ⟨⟨hx1, hx1'⟩, hx2⟩
      · rw [hx2] at hstep
        have HT := Lib.hid hstep
        clear hstep hx2
        go_wp2_with (first | (go_at_call 298; refine (HXI.out _).mono ?_; rintro e w1 ⟨rfl, rfl⟩) | (go_at_call 46; refine (fail_bad _ _ _).mono ?_; rintro e w2 ⟨⟨g, rfl, hg⟩, hk2⟩))
        refine ⟨rfl, ?_⟩
        show NumP T es s b o w (numb s frm (a + 1)) _ _
        rw [HN.out, HX.out, HT.out]
        exact ⟨⟨g, rfl, hg⟩, hk1.trans hk2⟩
      · rw [hx2] at hstep
        have HT := Lib.hid hstep
        clear hstep hx2
        obtain ⟨x, rfl⟩ := Int.eq_ofNat_of_zero_le hx1
        have hb1 : decide ((x : Int) < 0) = false := decide_eq_false (by omega)
        have hb2 : decide ((15 : Int) < x) = false := decide_eq_false (by omega)
        go_wp2_with (first | (go_at_call 298; refine (HXI.out _).mono ?_; rintro e w1 ⟨rfl, rfl⟩))
        go_round
        case rel =>
          refine ⟨j + 1, m * 16 + x, by omega, by omega, congrArg (Value.int .i64) (by omega), by go_num, ?_, HX.out.trans HT.out⟩
          have := HM.out
          rw [show j + 1 - 1 = (j - 1) + 1 from by omega, Nat.pow_succ]
          omega
        case measure => simp [intOf]; omega
      · rw [hx2] at hstep
        have HT := Lib.hid hstep
        clear hstep hx2
        obtain ⟨x, rfl⟩ := Int.eq_ofNat_of_zero_le (show 0 ≤ x by omega)
        have hb1 : decide ((x : Int) < 0) = false := decide_eq_false (by omega)
        have hb2 : decide ((15 : Int) < x) = true := decide_eq_true (by omega)
        go_wp2_with (first | (go_at_call 298; refine (HXI.out _).mono ?_; rintro e w1 ⟨rfl, rfl⟩))
        go_round
        case rel =>
          refine ⟨j + 1, m * 16 + (x - 6), by omega, by omega, congrArg (Value.int .i64) (by omega), by go_num, ?_, HX.out.trans (by rw [HT.out, show ((x : Int) - 6).toNat = x - 6 from by omega])⟩
          have := HM.out
          rw [show j + 1 - 1 = (j - 1) + 1 from by omega, Nat.pow_succ]
          omega
        case measure => simp [intOf]; omega
    · obtain rfl : q = j := by omega
      obtain ⟨hqR, he⟩ := HE.out
      obtain ⟨hqs, hRq⟩ := HS.out q hqR
      have hfin : hexs s frm (8 - q) (a + 1 + q) (q - 1) m = if m ≤ 0x10FFFF then .ok m (a + 1 + q + 1) else .er 1 frm := by
        rw [show 8 - q = (7 - q) + 1 from by omega, hexs, dif_pos hqs, ← hRq, he]
        simp only [show hexv 125 = none from rfl]
        by_cases hm : m ≤ 0x10FFFF
        · rw [if_pos ⟨trivial, by omega, hm⟩, if_pos hm]
        · rw [if_neg (fun h => hm h.2.2), if_neg hm]
      clear hlt he hRq
      by_cases hm : m ≤ 0x10FFFF
      · rw [if_pos hm] at hfin
        have HT := Lib.hid hfin
        clear hfin
        have hqs' : (a : Int) + 1 + q < s.size := by omega
        have hm' : decide ((1114111 : Int) < m) = false := decide_eq_false (by omega)
        go_wp2_with fail
        go_ret
        show NumP T es s b o w (numb s frm (a + 1)) _ _
        rw [HN.out, HX.out, HT.out]
        refine ⟨rfl, ?_, ?_⟩
        · exact hk1.any.setCell (F := onB b) (p := ⟨b, 1, none⟩) (.inl (onB_self b)) _
        · have := (hr.kp hk1 (noB_not _)).at (a + 1 + q + 1)
          rw [show ((a + 1 + q + 1 : Nat) : Int) = (a : Int) + (1 + (q : Int) + 1) from by omega] at this
          exact this
      · rw [if_neg hm] at hfin
        have HT := Lib.hid hfin
        clear hfin
        have hm' : decide ((1114111 : Int) < m) = true := decide_eq_true (by omega)
        clear hm
        go_wp2_with (first | (go_at_call 46; refine (fail_bad _ _ _).mono ?_; rintro e w2 ⟨⟨g, rfl, hg⟩, hk2⟩))
        refine ⟨rfl, ?_⟩
        show NumP T es s b o w (numb s frm (a + 1)) _ _
        rw [HN.out, HX.out, HT.out]
        exact ⟨⟨g, rfl, hg⟩, hk1.trans hk2⟩

theorem data_get (s : ByteArray) (i : Nat) (c : UInt8) (h : s.data.toList[i]? = some c) : ∃ h : i < s.size, s[i] = c := by
  obtain ⟨h1, h2⟩ := List.getElem?_eq_some_iff.1 h
  rw [Array.length_toList] at h1
  exact ⟨h1, h2⟩

theorem number_any (frm : Nat) (hr : RD s b a o w) (hE : Env T eb es w) (hsz : s.size ≤ 65536) (ha : a < s.size) :
    Calls Tryz.prog 279 #[.pointer (some ⟨b, 0, none⟩), .int .i64 frm] w fun e w' => NumP T es s b o w (numb s frm (a + 1)) e w' := by
  obtain ⟨R, hR⟩ : ∃ R, s.extract (a + 1) s.size = R := ⟨_, rfl⟩
  have hRz : R.size = s.size - (a + 1) := by rw [← hR]; simp
  have hRs : ∀ j (h : j < R.size), ∃ h' : a + 1 + j < s.size, R[j] = s[a + 1 + j] := by
    intro j h
    subst hR
    exact ⟨by omega, extract_get s (a + 1) j h⟩
  have hI := fun W => Tryz.strings_IndexByte R 125 W
  obtain ⟨E, hE1⟩ : ∃ E, Lib.indexByte R.data.toList ((125 : Int).toNat.toUInt8) = E := ⟨_, rfl⟩
  rw [hE1] at hI
  have hE2 : Lib.indexByte R.data.toList 125 = E := hE1
  clear hE1
  have hge := Lib.indexByte_ge R.data.toList 125
  rw [hE2] at hge
  -- what the number is, when it is one
  have hnum := numb_cases s frm (a + 1)
  have hfirst : ∀ m, (∀ j, j < m → ∃ h : a + 1 + 1 + j < s.size, s[a + 1 + 1 + j] ≠ 125) → (∃ h : a + 1 + 1 + m < s.size, s[a + 1 + 1 + m] = 125) → (∃ h : a + 1 < s.size, s[a + 1] = 123) → E = ((m + 1 : Nat) : Int) := by
    intro m h1 ⟨h2, h3⟩ ⟨h4, h5⟩
    have hm : m + 1 < R.size := by omega
    have e1 : R[m + 1] = 125 := by
      obtain ⟨h6, h7⟩ := hRs (m + 1) hm
      rw [h7, ← h3]
      congr 1
      omega
    have hlow : ∀ j, j < m + 1 → ∃ h : j < R.size, R[j] ≠ 125 := by
      intro j hj
      refine ⟨by omega, ?_⟩
      obtain ⟨h6, h7⟩ := hRs j (by omega)
      rw [h7]
      rcases j with _ | j
      · intro h8
        have : s[a + 1] = 125 := by simpa using h8
        rw [h5] at this
        exact absurd this (by decide)
      · obtain ⟨h8, h9⟩ := h1 j (by omega)
        intro h10
        apply h9
        rw [← h10]
        congr 1
        omega
    have hneg : E ≠ -1 := by
      intro h
      rw [h] at hE2
      exact Lib.indexByte_none hE2 (m + 1) (by rw [getElem?_data R _ hm, e1])
    obtain ⟨k, hk⟩ := Int.eq_ofNat_of_zero_le (show 0 ≤ E by omega)
    rw [hk] at hE2
    obtain ⟨h6, h7⟩ := Lib.indexByte_some hE2
    obtain ⟨h8, h9⟩ := data_get R k 125 h6
    have : k = m + 1 := by
      rcases Nat.lt_trichotomy k (m + 1) with h | h | h
      · obtain ⟨_, h10⟩ := hlow k h
        exact absurd h9 h10
      · exact h
      · exact absurd (by rw [getElem?_data R _ hm, e1]) (h7 (m + 1) h)
    rw [hk, this]
  have bad : ∀ (_ : (R.size : Int) < 3 ∨ (∃ h : 0 < R.size, ¬ (R.size : Int) < 3 ∧ (((R[0]).toNat : Int) != 123) = true) ∨ (∃ h : 0 < R.size, ¬ (R.size : Int) < 3 ∧ (((R[0]).toNat : Int) != 123) = false ∧ (E < 2 ∨ ¬ E < 2 ∧ 7 < E))) (_ : numb s frm (a + 1) = .er 1 frm),
      Calls Tryz.prog 279 #[.pointer (some ⟨b, 0, none⟩), .int .i64 frm] w fun e w' => NumP T es s b o w (numb s frm (a + 1)) e w' := by
    intro h1 h2
    rw [h2]
    exact number_bad frm hr hE hsz ha R (Lib.hid hR) E (Lib.hid hI) h1
  by_cases g1 : (R.size : Int) < 3
  · refine bad (.inl g1) ?_
    rcases hnum with h | ⟨m, v, h1, h2, h3, h4, h5, h6, h7⟩
    · exact h
    · omega
  · have hp : 0 < R.size := by omega
    cases g2 : (((R[0]).toNat : Int) != 123) with
    | true =>
      refine bad (.inr (.inl ⟨hp, g1, g2⟩)) ?_
      rcases hnum with h | ⟨m, v, h1, h2, h3, ⟨h4, h4'⟩, h5, h6⟩
      · exact h
      · exfalso
        obtain ⟨h8, h9⟩ := hRs 0 hp
        rw [h9] at g2
        simp only [Nat.add_zero] at g2
        rw [h4'] at g2
        exact absurd g2 (by decide)
    | false =>
      by_cases g3 : E < 2 ∨ ¬ E < 2 ∧ 7 < E
      · refine bad (.inr (.inr ⟨hp, g1, g2, g3⟩)) ?_
        rcases hnum with h | ⟨m, v, h1, h2, h3, h4, h5, h6⟩
        · exact h
        · have := hfirst m h5 h6 h4
          omega
      · obtain ⟨q, hq⟩ := Int.eq_ofNat_of_zero_le (show 0 ≤ E by omega)
        rw [hq] at hE2 hI
        obtain ⟨h6, h7⟩ := Lib.indexByte_some hE2
        obtain ⟨h8, h9⟩ := data_get R q 125 h6
        refine number_good frm hr hE hsz ha R (Lib.hid hR) q (Lib.hid hI) hp g1 g2 (by omega) (by omega) (fun j hj => ⟨by omega, fun h => ?_⟩) ⟨h8, h9⟩ hRs
        exact h7 j hj (by rw [getElem?_data R _ (by omega), h])
end
end Go.Proofs.YtoijabgcgdgacaaGreatDoor

namespace Go.Proofs.YtoijabgcgdgacaaGreatDoor
open Go.RowKit Go.Proofs.Gram

/-- A rune has as many bytes as were read. -/
theorem runeLen_decode (s : ByteArray) (a c n : Nat) (h : Utf8.decode s a = (c, n)) (hne : ¬ (c = 65533 ∧ n = 1)) : Lib.runeLen c = n ∧ Utf8.valid c = true := by
  have hb : ∀ k, (s.get! k).toNat < 256 := fun k => (s.get! k).toNat_lt
  rw [Lib.decode_at] at h
  have h0 := hb a; have h1 := hb (a + 1); have h2 := hb (a + 2); have h3 := hb (a + 3)
  generalize (s.get! a).toNat = b0 at h h0
  generalize (s.get! (a + 1)).toNat = b1 at h h1
  generalize (s.get! (a + 2)).toNat = b2 at h h2
  generalize (s.get! (a + 3)).toNat = b3 at h h3
  unfold Lib.decodeN at h
  simp only [Utf8.valid, Bool.or_eq_true, Bool.and_eq_true, decide_eq_true_eq]
  unfold Lib.runeLen
  repeat' split at h
  all_goals
    simp only [Prod.mk.injEq] at h
    obtain ⟨rfl, rfl⟩ := h
    first
      | exact absurd ⟨rfl, rfl⟩ hne
      | (refine ⟨?_, by omega⟩
         repeat' split
         all_goals omega)

/-- A text of signs, as a list of points. -/
structure Signs (bad : ByteArray) (bl : List Int) : Prop where
  ascii : ∀ x ∈ bad.data.toList, x.toNat < 128
  long : 4 ≤ bad.size
  short : bad.size ≤ 100
  low : ∀ x ∈ bl, 0 ≤ x ∧ x < 128
  same : ∀ c : Fin 128, decide (0 ≤ Lib.indexByte bad.data.toList (UInt8.ofNat c.val)) = decide ((c.val : Int) ∈ bl)

theorem Signs.contains {bad : ByteArray} {bl : List Int} (h : Signs bad bl) (c : Int) (h0 : 0 ≤ c) (hv : Utf8.valid c = true) (w : World) :
    Calls Tryz.prog 278 #[.string bad, .int .i32 c] w fun e w' => e = .returned (.bool (decide (c ∈ bl))) ∧ Kp noB w w' := by
  by_cases hc : c < 128
  · refine (Tryz.strings_ContainsRune_ascii bad c w h0 hc).mono fun e w' ⟨he, hw⟩ => ⟨?_, by rw [hw]; exact Kp.refl _ _⟩
    have := h.same ⟨c.toNat, by omega⟩
    have e1 : c.toNat.toUInt8 = UInt8.ofNat c.toNat := rfl
    rw [he, e1, this]
    simp only [show ((c.toNat : Nat) : Int) = c from by omega]
  · have hn : decide (c ∈ bl) = false := decide_eq_false fun hm => by have := h.low c hm; omega
    rw [hn]
    exact containsRune_far bad h.ascii h.long h.short c (by omega) hv w

def outsB : ByteArray := ⟨#[124, 38, 42, 43, 63, 123, 125, 126, 40, 41, 91, 93, 46]⟩
def insB : ByteArray := ⟨#[91, 93, 45, 94]⟩
def escsB : ByteArray := ⟨#[124, 38, 42, 43, 63, 123, 125, 126, 40, 41, 91, 93, 46, 92, 45, 94, 34, 39, 32]⟩
theorem outs_signs : Signs outsB outs := ⟨by decide, by decide, by decide, by decide, by decide +kernel⟩
theorem ins_signs : Signs insB ins := ⟨by decide, by decide, by decide, by decide, by decide +kernel⟩
theorem escs_signs : Signs escsB escs := ⟨by decide, by decide, by decide, by decide, by decide +kernel⟩

section
variable {T : TypeId} {eb es : Addr} {s : ByteArray} {b a o : Nat} {w : World}

/-- How reading a point ends. -/
def PointP (T : TypeId) (es : Addr) (s : ByteArray) (b o : Nat) (w : World) (r : R Int) (e : Ending) (w' : World) : Prop :=
  match r with
  | .er _ p => Bad T es p e w' ∧ Kp (onB b) w w'
  | .ok c p => e = .returned (.int .i64 c) ∧ Kp (onB b) w w' ∧ RD s b p o w'

theorem pk_nonneg (h : pk s a ≠ -2) (h' : pk s a ≠ -1) : ∃ c n, Utf8.decode s a = (c, n) ∧ a < s.size ∧ pk s a = (c : Int) ∧ ¬ (c = 65533 ∧ n = 1) := by
  have ha : a < s.size := by
    rcases Nat.lt_or_ge a s.size with h1 | h1
    · exact h1
    · exact absurd (pk_end h1) h'
  obtain ⟨h1, h2⟩ := pk_in ha h
  exact ⟨_, _, rfl, ha, h1, fun h3 => h2 (Prod.ext h3.1 h3.2)⟩

set_option maxRecDepth 100000 in
/-- It is refused at once. -/
theorem point_stop {bad : ByteArray} {bl : List Int} (hS : Signs bad bl) (hr : RD s b a o w) (hE : Env T eb es w) (hsz : s.size ≤ 65536) (h : pk s a < 0 ∨ pk s a ∈ bl) :
    Calls Tryz.prog 242 #[.pointer (some ⟨b, 0, none⟩), .string bad] w fun e w' => Bad T es a e w' ∧ Kp noB w w' := by
  by_cases h2 : pk s a = -2
  · have HP := Lib.hid (peek_bad hr hE hsz h2)
    clear h h2
    go_enter Tryz.func242, Tryz.ntmps242
    go_wp2_with (go_at_call 148; refine HP.out.mono ?_; rintro e w1 ⟨⟨g, rfl, hg⟩, hk1⟩)
    exact ⟨rfl, ⟨g, rfl, hg⟩, hk1⟩
  · have HP := Lib.hid (peek_ok hr hE hsz _ rfl h2)
    by_cases h1 : pk s a = -1
    · rw [h1] at HP
      clear h h2 h1
      have hb : decide ((-1 : Int) < 0) = true := rfl
      go_enter Tryz.func242, Tryz.ntmps242
      go_wp2_with (go_at_call 148; refine HP.out.mono ?_; rintro e w1 ⟨rfl, hk1⟩)
      have hc1 := (hr.kp hk1 (noB_not _)).c1
      have hy := hk1.cell hE.syn (noB_not _)
      go_still_tail 6, (by kernel_rfl)
      change wpList _ _ _ _ _ w1.drew
      go_wp2_with (go_at_call 46; refine (fail_bad _ _ _).mono ?_; rintro e w2 ⟨⟨g, rfl, hg⟩, hk2⟩)
      exact ⟨rfl, ⟨g, rfl, hg⟩, hk1.trans (((Kp.refl _ _).drew).trans hk2)⟩
    · obtain ⟨c, n, hd, ha, hc, hne⟩ := pk_nonneg h2 h1
      obtain ⟨hrl, hv⟩ := runeLen_decode s a c n hd hne
      rw [hc] at HP h
      have hm : (c : Int) ∈ bl := by rcases h with h | h; omega; exact h
      have HC := hS.contains c (by omega) hv
      rw [decide_eq_true hm] at HC
      have HC := Lib.hid HC
      have hb : decide ((c : Int) < 0) = false := decide_eq_false (by omega)
      clear h h2 h1 hd hc hne hrl hv hm
      go_enter Tryz.func242, Tryz.ntmps242
      go_wp2_with (first | (go_at_call 148; refine HP.out.mono ?_; rintro e w1 ⟨rfl, hk1⟩) | (go_at_call 278; refine (HC.out _).mono ?_; rintro e w2 ⟨rfl, hk2⟩))
      have hk := hk1.trans hk2
      have hc1 := (hr.kp hk (noB_not _)).c1
      have hy := hk.cell hE.syn (noB_not _)
      go_still_tail 6, (by kernel_rfl)
      change wpList _ _ _ _ _ w2.drew
      go_wp2_with (go_at_call 46; refine (fail_bad _ _ _).mono ?_; rintro e w3 ⟨⟨g, rfl, hg⟩, hk3⟩)
      exact ⟨rfl, ⟨g, rfl, hg⟩, hk.trans (((Kp.refl _ _).drew).trans hk3)⟩

set_option maxRecDepth 100000 in
/-- It is a point that stands for itself. -/
theorem point_self {bad : ByteArray} {bl : List Int} (hS : Signs bad bl) (hr : RD s b a o w) (hE : Env T eb es w) (hsz : s.size ≤ 65536) (h0 : 0 ≤ pk s a) (h1 : ¬ pk s a ∈ bl) (h2 : pk s a ≠ 92) :
    Calls Tryz.prog 242 #[.pointer (some ⟨b, 0, none⟩), .string bad] w fun e w' => e = .returned (.int .i64 (pk s a)) ∧ Kp (onB b) w w' ∧ RD s b (nx s a) o w' := by
  have HP := Lib.hid (peek_ok hr hE hsz _ rfl (by omega))
  obtain ⟨c, n, hd, ha, hc, hne⟩ := pk_nonneg (s := s) (a := a) (by omega) (by omega)
  obtain ⟨hrl, hv⟩ := runeLen_decode s a c n hd hne
  have hnx : nx s a = a + n := by unfold nx; rw [hd]
  rw [hc] at HP h1 h2 ⊢
  rw [hnx]
  have HC := hS.contains c (by omega) hv
  rw [decide_eq_false h1] at HC
  have HC := Lib.hid HC
  have hRL := Tryz.utf8_RuneLen c
  rw [hrl] at hRL
  have HRL := Lib.hid hRL
  have hn : n ≤ 4 := by
    unfold Lib.runeLen at hrl
    repeat' split at hrl
    all_goals omega
  have hcm : (c : Int) ≤ 1114111 := by
    simp only [Utf8.valid, Bool.or_eq_true, Bool.and_eq_true, decide_eq_true_eq] at hv
    omega
  have hb : decide ((c : Int) < 0) = false := decide_eq_false (by omega)
  have hb2 : ((c : Int) != 92) = true := bne_iff_ne.2 h2
  have hal : (a : Int) ≤ 65536 := by omega
  have hnl : (n : Int) ≤ 4 := by omega
  clear h0 h1 h2 hd hc hne hrl hv hnx hn hRL
  go_enter Tryz.func242, Tryz.ntmps242
  go_wp2_with (first | (go_at_call 148; refine HP.out.mono ?_; rintro e w1 ⟨rfl, hk1⟩) | (go_at_call 278; refine (HC.out _).mono ?_; rintro e w2 ⟨rfl, hk2⟩))
  have hk := hk1.trans hk2
  have hr1 := hr.kp hk (noB_not _)
  have hc1 := hr1.c1
  have hz1 := hr1.z
  go_still_tail 9, (by kernel_rfl)
  still_call (HRL.out _)
  repeat still_step
  refine wpStill_nil ?_
  change wpList _ _ _ _ _ w2.drew
  go_wp2_with fail
  go_ret
  refine ⟨rfl, ?_, ?_⟩
  · exact (hk.any.setCell (F := onB b) (p := ⟨b, 1, none⟩) (.inl (onB_self b)) _).drew
  · exact (hr1.at (a + n)).kp ((Kp.refl noB _).drew) (noB_not _)
end
end Go.Proofs.YtoijabgcgdgacaaGreatDoor
