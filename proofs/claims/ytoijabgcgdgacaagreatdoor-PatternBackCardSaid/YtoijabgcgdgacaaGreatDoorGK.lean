/-
  WALKS, xa: numbers to the base 16: strconv.FormatInt.
  WALKS, xb: the text of a point; of a set.
  WALKS, xc: the text of a set.
-/
import Derived.Test.YtoijabgcgdgacaaGreatDoorGC
import Derived.Test.YtoijabgcgdgacaaGreatDoorGD
import Derived.Lib.ItoaMem
import Derived.Laws.IdiomStrings
import Derived.Test.YtoijabgcgdgacaaGreatDoorGF
namespace Go.Proofs.YtoijabgcgdgacaaGreatDoor
open Go.RowKit Go.Proofs.Gram

set_option maxRecDepth 100000 in
theorem tz64_16 (w : World) (h : w.cell? ⟨13, 15, none⟩ = some (.int .u8 4)) : Calls Tryz.prog 302 #[.int .u64 16] w fun e w' => e = .returned (.int .i64 4) ∧ ∃ q, w' = w.drewN q := by
  have he : IntKind.u64.wrap (bits BinOp.and IntKind.u64 16 (IntKind.u64.wrap (-16)) * 285870213051353865) / 288230376151711744 = 15 := by kernel_rfl
  go_enter Tryz.func302, Tryz.ntmps302
  go_wp2
  go_ret
  exact ⟨rfl, 0, rfl⟩

set_option maxRecDepth 100000 in
theorem pow_16 (w : World) : Calls Tryz.prog 283 #[.int .i64 16] w fun e w' => e = .returned (.bool true) ∧ ∃ q, w' = w.drewN q := by
  go_enter Tryz.func283, Tryz.ntmps283
  go_wp2
  go_ret
  exact ⟨by rfl, 0, rfl⟩

set_option maxRecDepth 100000 in
theorem tz_16 (w : World) (h : w.cell? ⟨13, 15, none⟩ = some (.int .u8 4)) : Calls Tryz.prog 284 #[.int .u64 16] w fun e w' => e = .returned (.int .i64 4) ∧ ∃ q, w' = w.drewN q := by
  go_enter Tryz.func284, Tryz.ntmps284
  go_wp2_with (go_at_call 302; refine (tz64_16 _ h).mono ?_; rintro e w' ⟨rfl, q, rfl⟩)
  go_ret
  exact ⟨rfl, q, rfl⟩

/-- The last bytes of the row of 65. -/
def Tail (w : World) (b : Nat) (D : List UInt8) : Prop := ∃ arr : Array Value, w.heap[b]? = some (.cells arr 365 (0, 0)) ∧ arr.size = 65 ∧ (∀ j c, D[j]? = some c → arr[65 - D.length + j]? = some (.int .u8 (c.toNat : Int)))
theorem Tail.cell {w : World} {b : Nat} {D : List UInt8} (h : Tail w b D) (o : Nat) (ho : o < 65) : ∃ v, w.cell? ⟨b, o, none⟩ = some v := by
  obtain ⟨arr, h1, h2, _⟩ := h
  exact ⟨arr[o]'(by omega), by simp [World.cell?, h1]⟩
theorem Tail.at {w : World} {b : Nat} {D : List UInt8} (h : Tail w b D) {j : Nat} {c : UInt8} (hc : D[j]? = some c) : w.cell? ⟨b, 65 - D.length + j, none⟩ = some (.int .u8 (c.toNat : Int)) := by
  obtain ⟨arr, h1, _, h3⟩ := h
  simp [World.cell?, h1, h3 j c hc]
theorem Tail.z {w : World} {b : Nat} {D : List UInt8} (h : Tail w b D) (o : Nat) : w.frozen? ⟨b, o, none⟩ = false := by
  obtain ⟨arr, h1, _, _⟩ := h
  simp [World.frozen?, h1]
theorem Tail.push {w : World} {b : Nat} {D : List UInt8} (h : Tail w b D) (c : UInt8) (hD : D.length < 65) : Tail (w.setCell ⟨b, 65 - D.length - 1, none⟩ (.int .u8 (c.toNat : Int))) b (c :: D) := by
  obtain ⟨arr, h1, h2, h3⟩ := h
  refine ⟨arr.setIfInBounds (65 - D.length - 1) (.int .u8 (c.toNat : Int)), ?_, by simpa using h2, fun j x hx => ?_⟩
  · simp [World.setCell, Array.getElem?_modify, h1]
  · rw [Array.getElem?_setIfInBounds]
    cases j with
    | zero =>
      simp only [List.getElem?_cons_zero, Option.some.injEq] at hx
      subst hx
      rw [if_pos (by simp only [List.length_cons]; omega), if_pos (by omega)]
    | succ j =>
      rw [List.getElem?_cons_succ] at hx
      have hj := (List.getElem?_eq_some_iff.1 hx).1
      rw [if_neg (by simp only [List.length_cons]; omega), List.length_cons, show 65 - (D.length + 1) + (j + 1) = 65 - D.length + j from by omega]
      exact h3 j x hx
theorem Tail.drewN {w : World} {b : Nat} {D : List UInt8} (h : Tail w b D) (q : Nat) : Tail (w.drewN q) b D := h

theorem digit_hex_fin : ∀ k : Fin 16, (#[48, 49, 50, 51, 52, 53, 54, 55, 56, 57, 97, 98, 99, 100, 101, 102, 103, 104, 105, 106, 107, 108, 109, 110, 111, 112, 113, 114, 115, 116, 117, 118, 119, 120, 121, 122] : Array UInt8)[k.val]'(Nat.lt_of_lt_of_le k.2 (by decide)) = hexd k.val := by decide
theorem digit_hex (k : Nat) (h : k < 16) {hh' : k < (⟨#[48, 49, 50, 51, 52, 53, 54, 55, 56, 57, 97, 98, 99, 100, 101, 102, 103, 104, 105, 106, 107, 108, 109, 110, 111, 112, 113, 114, 115, 116, 117, 118, 119, 120, 121, 122]⟩ : ByteArray).size} : (⟨#[48, 49, 50, 51, 52, 53, 54, 55, 56, 57, 97, 98, 99, 100, 101, 102, 103, 104, 105, 106, 107, 108, 109, 110, 111, 112, 113, 114, 115, 116, 117, 118, 119, 120, 121, 122]⟩ : ByteArray)[k]'hh' = hexd k := digit_hex_fin ⟨k, h⟩

theorem and_15 (m : Nat) (h : m < 16777216) : bits BinOp.and IntKind.u64 (m : Int) 15 = ((m % 16 : Nat) : Int) := by
  have e := bits_and_u64_nat m 15 (by omega) (by omega)
  rw [show (15 : Nat) = 2 ^ 4 - 1 from rfl, Nat.and_two_pow_sub_one_eq_mod] at e
  exact e

set_option maxRecDepth 100000 in
set_option maxHeartbeats 1000000 in
theorem fbits (n : Nat) (hn : n < 16777216) (w : World) (h13 : w.cell? ⟨13, 15, none⟩ = some (.int .u8 4)) : Calls Tryz.prog 249 #[.slice none 0 0, .int .u64 n, .int .i64 16, .bool false, .bool false] w fun e w' => e = .returned (.tuple #[.slice none 0 0, .string ⟨(hexT n).toArray⟩]) ∧ Kp noB w w' := by
  have h13l := World.block_lt_of_cell? w _ h13
  go_enter Tryz.func249, Tryz.ntmps249
  go_wp2_with (first
    | (go_at_call 283; refine (pow_16 _).mono ?_; rintro e w1 ⟨rfl, q1, rfl⟩)
    | (go_at_call 284; refine (tz_16 _ ((((Kp.refl noB w).alloc _).drewN _).cell h13 (noB_not _))).mono ?_; rintro e w2 ⟨rfl, q2, rfl⟩))
  have hK0 : Kp noB w ((w.alloc (.cells Tryz.zeroCells365 365)).drewN (q1 + q2)) := ((Kp.refl noB w).alloc _).drewN _
  have HH := Lib.hid h13
  clear h13
  have HT : Tail ((w.alloc (.cells Tryz.zeroCells365 365)).drewN (q1 + q2)) w.heap.size [] := Tail.drewN ⟨Tryz.zeroCells365, heap_alloc_new w _, by rfl, by simp⟩ _
  go_loopw [1, 13] (fun u i wr => ∃ (m : Nat) (D : List UInt8), u = .int .u64 m ∧ i = .int .i64 (65 - (D.length : Int)) ∧ D.length ≤ 5 ∧ m < 16777216 ∧ Hid (m < 16 ^ (6 - D.length)) ∧ Hid (hexT m ++ D = hexT n) ∧ Hid (Tail wr w.heap.size D) ∧ Kp noB w wr)
    (fun u _ _ => (intOf u).toNat)
  case atStart =>
    exact ⟨n, [], rfl, rfl, by simp, hn, Lib.hid (by simpa using hn), Lib.hid (by simp), Lib.hid HT, hK0⟩
  case round =>
    obtain ⟨m, D, rfl, rfl, hD, hm, HM, HX, HA, hkr⟩ := hrel
    obtain ⟨v0, hc0⟩ := HA.out.cell (65 - D.length - 1) (by omega)
    have hz0 := HA.out.z (65 - D.length - 1)
    have hand := and_15 m hm
    have hmod : m % 16 < 16 := by omega
    by_cases h16 : (16 : Int) ≤ (m : Int)
    · have HE : Hid (hexT (m / 16) ++ (hexd (m % 16) :: D) = hexT n) := Lib.hid (by
        have h := HX.out
        rw [hexT, dif_neg (by omega), List.append_assoc] at h
        exact h)
      have HP := Lib.hid (HA.out.push (hexd (m % 16)) (by omega))
      have HQ : Hid (Kp noB w (wr.setCell ⟨w.heap.size, 65 - D.length - 1, none⟩ (.int .u8 ((hexd (m % 16)).toNat : Int)))) := Lib.hid (hkr.setCell (.inr (Nat.le_refl _)) _)
      have hD5 : D.length + 1 ≤ 5 := by
        have h := HM.out
        rcases Nat.lt_or_ge D.length 5 with h5 | h5
        · exact h5
        · rw [show 6 - D.length = 1 from by omega] at h; omega
      go_wp2_with fail
      go_roundw
      case rel =>
        rw [digit_hex _ hmod]
        refine ⟨m / 16, hexd (m % 16) :: D, by simp, by simp only [List.length_cons]; congr 1; omega, by simpa using hD5, by omega, Lib.hid ?_, HE, HP, HQ.out⟩
        have h := HM.out
        rw [show 6 - D.length = (6 - (hexd (m % 16) :: D).length) + 1 from by simp only [List.length_cons]; omega, Nat.pow_succ] at h
        omega
      case measure =>
        simp only [intOf]
        omega
    · have h16' : m < 16 := by omega
      have hdg : ∀ hh', (⟨#[48, 49, 50, 51, 52, 53, 54, 55, 56, 57, 97, 98, 99, 100, 101, 102, 103, 104, 105, 106, 107, 108, 109, 110, 111, 112, 113, 114, 115, 116, 117, 118, 119, 120, 121, 122]⟩ : ByteArray)[m]'hh' = hexd m := fun hh' => digit_hex m h16'
      have HP := HA.out.push (hexd m) (by omega)
      have hsl : ∀ W, (Instr.sliceAt 365 (.pointer (some ⟨w.heap.size, 0, none⟩)) (some (.int .i64 (65 - (D.length : Int) - 1))) none none).run Tryz.prog W = .ok (.slice (some ⟨w.heap.size, 65 - D.length - 1, none⟩) (D.length + 1) (D.length + 1)) W := fun W => by
        have hal : Tryz.prog.arrayLen 365 = 65 := by kernel_rfl
        rw [run_sliceAt_array_l W 365 ⟨w.heap.size, 0, none⟩ (by kernel_rfl) .i64 (65 - (D.length : Int) - 1) (by omega) (by rw [hal]; omega), hal]
        go_simp
        omega
      have hcv : (convert 251 9 (.slice (some ⟨w.heap.size, 65 - D.length - 1, none⟩) (D.length + 1) (D.length + 1))).run Tryz.prog (wr.setCell ⟨w.heap.size, 65 - D.length - 1, none⟩ (.int .u8 ((hexd m).toNat : Int))) = .ok (.string ⟨(hexd m :: D).toArray⟩) (wr.setCell ⟨w.heap.size, 65 - D.length - 1, none⟩ (.int .u8 ((hexd m).toNat : Int))) := by
        have h := run_convert_bytes_back (P := Tryz.prog) (wr.setCell ⟨w.heap.size, 65 - D.length - 1, none⟩ (.int .u8 ((hexd m).toNat : Int))) 251 9 5 ⟨w.heap.size, 65 - D.length - 1, none⟩ (D.length + 1) (hexd m :: D) Tryz.underlying251 Tryz.underlying5 Tryz.underlying9 (fun j hj => by
          rw [Lib.add_plain]
          have := HP.at (j := j) (List.getElem?_eq_getElem hj)
          rw [List.length_cons, show 65 - (D.length + 1) + j = 65 - D.length - 1 + j from by omega] at this
          exact this)
        exact h
      have HE : Hid (hexd m :: D = hexT n) := Lib.hid (by
        have h := HX.out
        rw [hexT, dif_pos h16'] at h
        exact h)
      have HQ : Hid (Kp noB w (wr.setCell ⟨w.heap.size, 65 - D.length - 1, none⟩ (.int .u8 ((hexd m).toNat : Int)))) := Lib.hid (hkr.setCell (.inr (Nat.le_refl _)) _)
      have HPH := Lib.hid HP
      clear HP hkr
      go_wp2_with fail
      go_ret2
      rw [← HE.out]
      exact ⟨rfl, HQ.out⟩
end Go.Proofs.YtoijabgcgdgacaaGreatDoor

namespace Go.Proofs.YtoijabgcgdgacaaGreatDoor
open Go.RowKit Go.Proofs.Gram

set_option maxRecDepth 100000 in
theorem fmt_inner (n : Nat) (hn : n < 16777216) (w : World) (h13 : w.cell? ⟨13, 15, none⟩ = some (.int .u8 4)) : Calls Tryz.prog 208 #[.int .i64 n, .int .i64 16] w fun e w' => e = .returned (.string ⟨(hexT n).toArray⟩) ∧ Kp noB w w' := by
  have HF := Lib.hid (fbits n hn w h13)
  have h0 : ¬ ((n : Int) < 0) := by omega
  have hw : IntKind.u64.wrap (n : Int) = n := by rw [IntKind.wrap_u64]; omega
  clear h13
  go_enter Tryz.func208, Tryz.ntmps208
  go_wp2_with (go_at_call 249; refine HF.out.mono ?_; rintro e w1 ⟨rfl, hk1⟩)
  go_ret
  exact ⟨rfl, hk1⟩

set_option maxRecDepth 100000 in
theorem fmt_16 (n : Nat) (hn : n < 16777216) (w : World) (h13 : w.cell? ⟨13, 15, none⟩ = some (.int .u8 4)) : Calls Tryz.prog 205 #[.int .i64 n, .int .i64 16] w fun e w' => e = .returned (.string ⟨(hexT n).toArray⟩) ∧ Kp noB w w' := by
  have HF := Lib.hid (fmt_inner n hn w h13)
  clear h13
  go_enter Tryz.func205, Tryz.ntmps205
  go_wp2_with (go_at_call 208; refine HF.out.mono ?_; rintro e w1 ⟨rfl, hk1⟩)
  go_ret
  exact ⟨rfl, hk1⟩

theorem enc_ascii (n : Nat) (h : n < 128) : Utf8.encode (n : Int) = ⟨#[UInt8.ofNat n]⟩ := by
  have hv : Utf8.valid (n : Int) = true := by unfold Utf8.valid; simp; omega
  unfold Utf8.encode
  simp [hv, h]

set_option maxRecDepth 100000 in
theorem pointText_alnum (n : Nat) (h : alnum n) (w : World) : Calls Tryz.prog 160 #[.int .i64 n] w fun e w' => e = .returned (.string ⟨(pointT n).toArray⟩) ∧ Kp noB w w' := by
  unfold alnum at h
  have hb : (n : Int) < 128 := by omega
  have hw : IntKind.i32.wrap (n : Int) = n := by rw [IntKind.wrap_i32]; omega
  rcases h with ⟨h1, h2⟩ | ⟨h1, h2⟩ | ⟨h1, h2⟩
  all_goals
    go_enter Tryz.func160, Tryz.ntmps160
    go_wp2_with fail
    go_ret
    refine ⟨?_, Kp.refl _ _⟩
    rw [enc_ascii n (by omega), pointT, if_pos (by unfold alnum; omega)]
    rfl

set_option maxRecDepth 100000 in
theorem pointText_hex (n : Nat) (hn : n < 16777216) (h : ¬ alnum n) (w : World) (h13 : w.cell? ⟨13, 15, none⟩ = some (.int .u8 4)) : Calls Tryz.prog 160 #[.int .i64 n] w fun e w' => e = .returned (.string ⟨(pointT n).toArray⟩) ∧ Kp noB w w' := by
  have HF := Lib.hid (fmt_16 n hn w h13)
  have HE : Hid ((⟨#[92, 117, 123]⟩ : ByteArray) ++ ⟨(hexT n).toArray⟩ ++ ⟨#[125]⟩ = ⟨(pointT n).toArray⟩) := Lib.hid (by
    rw [pointT, if_neg h]
    apply ByteArray.ext
    simp)
  have hl : (hexT n).length ≤ 6 := hexT_len 5 n (by rw [show 16 ^ (5 + 1) = 16777216 from by decide]; exact hn)
  clear h13
  have hc : (n : Int) < 48 ∨ ((57 : Int) < n ∧ (n : Int) < 65) ∨ ((90 : Int) < n ∧ (n : Int) < 97) ∨ (122 : Int) < n := by unfold alnum at h; omega
  clear h
  rcases hc with h1 | ⟨h1, h2⟩ | ⟨h1, h2⟩ | h1
  all_goals
    go_enter Tryz.func160, Tryz.ntmps160
    go_wp2_with (go_at_call 205; refine HF.out.mono ?_; rintro e w1 ⟨rfl, hk1⟩)
    go_ret
    rw [← HE.out]
    exact ⟨rfl, hk1⟩

theorem pointText_any (p : Int) (hp : isP p) (w : World) (h13 : w.cell? ⟨13, 15, none⟩ = some (.int .u8 4)) : Calls Tryz.prog 160 #[.int .i64 p] w fun e w' => e = .returned (.string ⟨(pointT p).toArray⟩) ∧ Kp noB w w' := by
  obtain ⟨h0, h1⟩ := hp
  obtain ⟨n, rfl⟩ : ∃ n : Nat, p = n := ⟨p.toNat, by omega⟩
  by_cases h : alnum n
  · exact pointText_alnum n h w
  · exact pointText_hex n (by omega) h w h13
end Go.Proofs.YtoijabgcgdgacaaGreatDoor

namespace Go.Proofs.YtoijabgcgdgacaaGreatDoor
open Go.RowKit Go.Proofs.Gram Go.Lib

def bt (L : List UInt8) : ByteArray := ⟨L.toArray⟩
theorem bt_append (a b : List UInt8) : bt a ++ bt b = bt (a ++ b) := by apply ByteArray.ext; simp [bt]
theorem bt_size (a : List UInt8) : (bt a).size = a.length := by simp [bt, ByteArray.size]

theorem bt_eq (a : List UInt8) : bt a = ⟨a.toArray⟩ := rfl

set_option maxRecDepth 100000 in
set_option maxHeartbeats 1000000 in
theorem setText_one (v : Value) (p : Int) (okk : Nat → Prop) (w : World) (hr : Rngs w okk v [(p, p)]) (hp : isP p) (h13 : w.cell? ⟨13, 15, none⟩ = some (.int .u8 4)) :
    Calls Tryz.prog 108 #[v] w fun e w' => e = .returned (.string (bt (setT [(p, p)]))) ∧ Kp noB w w' := by
  obtain ⟨A, cap, rfl, hc⟩ := rngs_open hr
  obtain ⟨g, off, rfl, hg, hgl, hc0, hc1⟩ := hc 0 (p, p) rfl
  simp only [Nat.zero_mul, Nat.add_zero] at hc0 hc1
  have HP : ∀ q, Hid (Calls Tryz.prog 160 #[.int .i64 p] (w.drewN q) fun e w' => e = .returned (.string ⟨(pointT p).toArray⟩) ∧ Kp noB (w.drewN q) w') := fun q => Lib.hid (pointText_any p hp (w.drewN q) h13)
  clear hr hc h13
  go_enter Tryz.func108, Tryz.ntmps108
  go_wp2_with fail
  go_quiet (fail)
  go_wp2_with fail
  refine (HP nq).out.mono ?_
  rintro e w1 ⟨rfl, hk1⟩
  go_wp2_with fail
  go_ret
  refine ⟨?_, ((Kp.refl _ _).drewN _).trans hk1⟩
  rw [setT, if_pos rfl]
  rfl

theorem heap_new2 (w : World) (x y : Int) : (w.alloc (.cells #[.int .i64 x, .int .i64 y] 191)).cell? ⟨w.heap.size, 0, none⟩ = some (.int .i64 x) ∧ (w.alloc (.cells #[.int .i64 x, .int .i64 y] 191)).cell? ⟨w.heap.size, 1, none⟩ = some (.int .i64 y) := by constructor <;> simp

theorem flat_snoc (l : List (Int × Int)) (k : Nat) (r : Int × Int) (h : l[k]? = some r) : (l.take (k + 1)).flatMap rangeT = (l.take k).flatMap rangeT ++ rangeT r := by
  rw [take_snoc l k r h, List.flatMap_append]
  simp

theorem pointText_h (p : Int) (hp : isP p) (w : World) (h13 : w.cell? ⟨13, 15, none⟩ = some (.int .u8 4)) : Calls Tryz.prog 160 #[.int .i64 p] w fun e w' => ∃ P, e = .returned (.string P) ∧ P.size ≤ 10 ∧ Hid (P = bt (pointT p)) ∧ Kp noB w w' :=
  (pointText_any p hp w h13).mono fun e w' ⟨he, hk⟩ => ⟨bt (pointT p), he, by rw [bt_size]; exact pointT_len p hp, Lib.hid rfl, hk⟩

set_option maxRecDepth 100000 in
set_option maxHeartbeats 4000000 in
theorem setText_many (v : Value) (l : List (Int × Int)) (okk : Nat → Prop) (w : World) (hr : Rngs w okk v l) (hcan : ∀ r ∈ l, 0 ≤ r.1 ∧ r.1 ≤ r.2 ∧ r.2 ≤ 0x10FFFF) (hsz : l.length ≤ 16777217)
    (hl : l.length ≠ 1 ∨ ∃ x y, l = [(x, y)] ∧ ¬ x = y) (h13 : w.cell? ⟨13, 15, none⟩ = some (.int .u8 4)) :
    Calls Tryz.prog 108 #[v] w fun e w' => e = .returned (.string (bt (brackT l))) ∧ Kp noB w w' := by
  obtain ⟨A, cap, rfl, hc⟩ := rngs_open hr
  have HC := Lib.hid hc
  have H13 := Lib.hid h13
  have HCAN := Lib.hid hcan
  have hsl : ∃ b : Bool, Hid ((b = false ∧ l.length ≠ 1) ∨ (b = true ∧ l.length = 1 ∧ ∃ x y, l = [(x, y)] ∧ ¬ x = y)) := by
    rcases hl with h | ⟨x, y, rfl, h⟩
    · exact ⟨false, Lib.hid (.inl ⟨rfl, h⟩)⟩
    · exact ⟨true, Lib.hid (.inr ⟨rfl, rfl, x, y, rfl, h⟩)⟩
  obtain ⟨n, hn⟩ : ∃ n, n = l.length := ⟨_, rfl⟩
  have HN := Lib.hid hn
  rw [← hn] at hsz ⊢
  clear h13 hcan hl hc hr hn
  obtain ⟨b, HB⟩ := hsl
  cases b
  · have hb : ((n : Int) == 1) = false := beq_eq_false_iff_ne.2 (by
      have h0 := HN.out
      rcases HB.out with ⟨_, h⟩ | ⟨h, _⟩
      · omega
      · cases h)
    go_enter Tryz.func108, Tryz.ntmps108
    go_wp2_with fail
    go_quiet (fail)
    go_wp2_with fail
    have hk0 : Kp noB w (w.drewN nq) := (Kp.refl _ _).drewN _
    go_loopw [3, 27] (fun u c wr => ∃ (k : Nat) (S : ByteArray), k ≤ n ∧ c = .int .i64 k ∧ u = .string S ∧ S.size ≤ 1 + 21 * k ∧ Hid (S = bt (91 :: (l.take k).flatMap rangeT)) ∧ Kp noB w wr)
      (fun _ c _ => n - (intOf c).toNat)
    case atStart => exact ⟨0, ⟨#[91]⟩, Nat.zero_le _, rfl, rfl, by decide, Lib.hid rfl, hk0⟩
    case round =>
      obtain ⟨k, S, hk, rfl, rfl, hS, HS, hkp⟩ := hrel
      rcases Nat.lt_or_ge k n with hlt | hge
      · obtain ⟨r, hrk⟩ : ∃ r, l[k]? = some r := ⟨l[k]'(by rw [← HN.out]; exact hlt), by simp⟩
        obtain ⟨g, off, rfl, hg, hgl, hc0, hc1⟩ := HC.out k r hrk
        have hc0' := hkp.cell hc0 (noB_not _)
        have hc1' := hkp.cell hc1 (noB_not _)
        have hbd := HCAN.out r (List.mem_of_getElem? hrk)
        have HFS := Lib.hid (flat_snoc l k r hrk)
        have hb1 : decide ((k : Int) < (n : Int)) = true := decide_eq_true (by omega)
        obtain ⟨lo, hi⟩ := r
        simp only at hc0' hc1' hbd
        have HP1 := Lib.hid (pointText_h lo ⟨hbd.1, by omega⟩ _ ((hkp.alloc (.cells #[.int .i64 lo, .int .i64 hi] 191)).cell H13.out (noB_not _)))
        have HRK : Hid (((lo, hi) : Int × Int) = (lo, hi)) := Lib.hid rfl
        clear hc0 hc1 hrk
        go_wp2_with fail
        refine HP1.out.mono ?_
        rintro e w1 ⟨P1, rfl, hP1, HPE1, hk1⟩
        have hc5 := hk1.cell (heap_new2 wr lo hi).1 (noB_not _)
        have hc6 := hk1.cell (heap_new2 wr lo hi).2 (noB_not _)
        have hkp1 := (hkp.alloc (.cells #[.int .i64 lo, .int .i64 hi] 191)).trans hk1
        have HP2 := Lib.hid (pointText_h hi ⟨by omega, hbd.2.2⟩ _ (hkp1.cell H13.out (noB_not _)))
        clear hk1 hc0' hc1'
        by_cases hlh : lo < hi
        · have hb2 : decide (lo < hi) = true := decide_eq_true hlh
          have HL := Lib.hid hlh
          clear hlh
          go_wp2_with fail
          refine HP2.out.mono ?_
          rintro e w2 ⟨P2, rfl, hP2, HPE2, hk2⟩
          have hkp2 := hkp1.trans hk2
          clear hk2 hkp1 HP1 HP2
          go_wp2_with fail
          go_roundw
          case rel =>
            refine ⟨k + 1, _, by omega, by simp, rfl, ?_, Lib.hid ?_, hkp2⟩
            · simp only [ByteArray.size_append]
              have : (⟨#[45]⟩ : ByteArray).size = 1 := rfl
              omega
            · rw [HFS.out, HS.out, HPE1.out, HPE2.out, rangeT]
              simp only
              rw [if_pos HL.out, show (⟨#[45]⟩ : ByteArray) = bt [45] from rfl, bt_append, bt_append, bt_append]
              simp
          case measure => simp only [intOf]; omega
        · have hb2 : decide (lo < hi) = false := decide_eq_false hlh
          have HL := Lib.hid hlh
          clear hlh
          go_wp2_with fail
          go_roundw
          case rel =>
            refine ⟨k + 1, _, by omega, by simp, rfl, ?_, Lib.hid ?_, hkp1⟩
            · simp only [ByteArray.size_append]
              omega
            · rw [HFS.out, HS.out, HPE1.out, rangeT]
              simp only
              rw [if_neg (by have := HL.out; omega), bt_append]
              simp
          case measure => simp only [intOf]; omega
      · have hkn : k = n := by omega
        subst hkn
        have hb1 : decide ((k : Int) < (k : Int)) = false := decide_eq_false (by omega)
        have HE : Hid (S ++ (⟨#[93]⟩ : ByteArray) = bt (brackT l)) := Lib.hid (by
          rw [HS.out, HN.out, List.take_length, show (⟨#[93]⟩ : ByteArray) = bt [93] from rfl, bt_append]
          rfl)
        go_wp2_with fail
        go_ret
        rw [← HE.out]
        exact ⟨rfl, hkp⟩
  · have h1 : n = 1 := by
      have h0 := HN.out
      rcases HB.out with ⟨h, _⟩ | ⟨_, h, _⟩
      · cases h
      · omega
    subst h1
    obtain ⟨x, y, HXY, g, off, hA, hg, hgl, hc0, hc1, hxy⟩ : ∃ x y, Hid (l = [(x, y)]) ∧ ∃ g off, A = some ⟨g, off, none⟩ ∧ okk g ∧ g < w.heap.size ∧ w.cell? ⟨g, off, none⟩ = some (.int .i64 x) ∧ w.cell? ⟨g, off + 1, none⟩ = some (.int .i64 y) ∧ (x == y) = false := by
      rcases HB.out with ⟨h, _⟩ | ⟨_, _, x, y, hl, h⟩
      · cases h
      · obtain ⟨g, off, e1, e2, e3, e4, e5⟩ := HC.out 0 (x, y) (by rw [hl]; rfl)
        exact ⟨x, y, Lib.hid hl, g, off, e1, e2, e3, by simpa using e4, by simpa using e5, beq_eq_false_iff_ne.2 h⟩
    subst hA
    go_enter Tryz.func108, Tryz.ntmps108
    go_wp2_with fail
    go_quiet (fail)
    go_wp2_with fail
    clear hc0 hc1 hxy
    have hk0 : Kp noB w (w.drewN nq) := (Kp.refl _ _).drewN _
    go_loopw [3, 27] (fun u c wr => ∃ (k : Nat) (S : ByteArray), k ≤ 1 ∧ c = .int .i64 k ∧ u = .string S ∧ S.size ≤ 1 + 21 * k ∧ Hid (S = bt (91 :: (l.take k).flatMap rangeT)) ∧ Kp noB w wr)
      (fun _ c _ => 1 - (intOf c).toNat)
    case atStart => exact ⟨0, ⟨#[91]⟩, Nat.zero_le _, rfl, rfl, by decide, Lib.hid rfl, hk0⟩
    case round =>
      obtain ⟨k, S, hk, rfl, rfl, hS, HS, hkp⟩ := hrel
      rcases Nat.lt_or_ge k 1 with hlt | hge
      · obtain ⟨r, hrk⟩ : ∃ r, l[k]? = some r := ⟨l[k]'(by rw [← HN.out]; exact hlt), by simp⟩
        obtain ⟨g2, off2, EQA, hg2, hgl2, hc0, hc1⟩ := HC.out k r hrk
        obtain ⟨rfl, rfl⟩ : g = g2 ∧ off = off2 := by simpa using EQA
        clear EQA
        have hc0' := hkp.cell hc0 (noB_not _)
        have hc1' := hkp.cell hc1 (noB_not _)
        have hbd := HCAN.out r (List.mem_of_getElem? hrk)
        have HFS := Lib.hid (flat_snoc l k r hrk)
        have hb1 : decide ((k : Int) < (1 : Int)) = true := decide_eq_true (by omega)
        obtain ⟨lo, hi⟩ := r
        simp only at hc0' hc1' hbd
        have HP1 := Lib.hid (pointText_h lo ⟨hbd.1, by omega⟩ _ ((hkp.alloc (.cells #[.int .i64 lo, .int .i64 hi] 191)).cell H13.out (noB_not _)))
        have HRK : Hid (((lo, hi) : Int × Int) = (lo, hi)) := Lib.hid rfl
        clear hc0 hc1 hrk
        go_wp2_with fail
        refine HP1.out.mono ?_
        rintro e w1 ⟨P1, rfl, hP1, HPE1, hk1⟩
        have hc5 := hk1.cell (heap_new2 wr lo hi).1 (noB_not _)
        have hc6 := hk1.cell (heap_new2 wr lo hi).2 (noB_not _)
        have hkp1 := (hkp.alloc (.cells #[.int .i64 lo, .int .i64 hi] 191)).trans hk1
        have HP2 := Lib.hid (pointText_h hi ⟨by omega, hbd.2.2⟩ _ (hkp1.cell H13.out (noB_not _)))
        clear hk1 hc0' hc1'
        by_cases hlh : lo < hi
        · have hb2 : decide (lo < hi) = true := decide_eq_true hlh
          have HL := Lib.hid hlh
          clear hlh
          go_wp2_with fail
          refine HP2.out.mono ?_
          rintro e w2 ⟨P2, rfl, hP2, HPE2, hk2⟩
          have hkp2 := hkp1.trans hk2
          clear hk2 hkp1 HP1 HP2
          go_wp2_with fail
          go_roundw
          case rel =>
            refine ⟨k + 1, _, by omega, by simp, rfl, ?_, Lib.hid ?_, hkp2⟩
            · simp only [ByteArray.size_append]
              have : (⟨#[45]⟩ : ByteArray).size = 1 := rfl
              omega
            · rw [HFS.out, HS.out, HPE1.out, HPE2.out, rangeT]
              simp only
              rw [if_pos HL.out, show (⟨#[45]⟩ : ByteArray) = bt [45] from rfl, bt_append, bt_append, bt_append]
              simp
          case measure => simp only [intOf]; omega
        · have hb2 : decide (lo < hi) = false := decide_eq_false hlh
          have HL := Lib.hid hlh
          clear hlh
          go_wp2_with fail
          go_roundw
          case rel =>
            refine ⟨k + 1, _, by omega, by simp, rfl, ?_, Lib.hid ?_, hkp1⟩
            · simp only [ByteArray.size_append]
              omega
            · rw [HFS.out, HS.out, HPE1.out, rangeT]
              simp only
              rw [if_neg (by have := HL.out; omega), bt_append]
              simp
          case measure => simp only [intOf]; omega
      · have hkn : k = 1 := by omega
        subst hkn
        have hb1 : decide ((1 : Int) < (1 : Int)) = false := decide_eq_false (by omega)
        have HE : Hid (S ++ (⟨#[93]⟩ : ByteArray) = bt (brackT l)) := Lib.hid (by
          rw [HS.out, HN.out, List.take_length, show (⟨#[93]⟩ : ByteArray) = bt [93] from rfl, bt_append]
          rfl)
        go_wp2_with fail
        go_ret
        rw [← HE.out]
        exact ⟨rfl, hkp⟩

/-- THE TEXT OF A SET. -/
theorem setText_any (v : Value) (l : List (Int × Int)) (okk : Nat → Prop) (w : World) (hr : Rngs w okk v l) (hc : canonOf (inR l) = l) (hsz : l.length ≤ 16777217) (h13 : w.cell? ⟨13, 15, none⟩ = some (.int .u8 4)) :
    Calls Tryz.prog 108 #[v] w fun e w' => e = .returned (.string (bt (setT l))) ∧ Kp noB w w' := by
  have hcan : isCanon l := hc ▸ (canonOf_canon l).1
  have hb : ∀ r ∈ l, 0 ≤ r.1 ∧ r.1 ≤ r.2 ∧ r.2 ≤ 0x10FFFF := fun r hr => by
    have := canonFrom_mem hcan r hr
    exact ⟨this.2.1, this.1, this.2.2⟩
  by_cases h1 : ∃ p, l = [(p, p)]
  · obtain ⟨p, rfl⟩ := h1
    obtain ⟨h0, _, h2⟩ := hb (p, p) (by simp)
    exact setText_one v p okk w hr ⟨h0, h2⟩ h13
  · have e : setT l = brackT l := by
      unfold setT
      split
      · rename_i r
        obtain ⟨x, y⟩ := r
        rw [if_neg]
        intro h
        exact h1 ⟨x, by simp only at h; rw [h]⟩
      · rfl
    rw [e]
    refine setText_many v l okk w hr hb hsz ?_ h13
    by_cases h : l.length = 1
    · right
      match l, h with
      | [(x, y)], _ => exact ⟨x, y, rfl, fun h => h1 ⟨x, by rw [h]⟩⟩
    · exact .inl h
end Go.Proofs.YtoijabgcgdgacaaGreatDoor
