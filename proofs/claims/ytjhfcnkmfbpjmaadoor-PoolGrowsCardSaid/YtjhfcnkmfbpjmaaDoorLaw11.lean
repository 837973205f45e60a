/-
  The laws of layer 11 on pool.Room, as walks.
-/
import Derived.Test.YtjhfcnkmfbpjmaaDoorPool2
namespace Go.Proofs.YtjhfcnkmfbpjmaaDoor
open Go.RowKit

theorem room_ok {B : Nat} (W : World) {ae : Nat → Addr} {size off w h stride format : Int} (hE : Errs B W ae) (hs : I64 size) (ht : I64 stride) (hk : roomK size off w h stride format = 0) :
    Calls Tryd.prog 30 #[.int .i64 size, .int .i64 off, .int .i64 w, .int .i64 h, .int .i64 stride, .int .i64 format] W
      fun e w' => e = .returned .nilIface ∧ W = w' := by
  have := room_any B W ae size off w h stride format hE hs ht
  rw [hk] at this
  exact this
theorem room_no {B : Nat} (W : World) {ae : Nat → Addr} (k : Nat) {size off w h stride format : Int} (hE : Errs B W ae) (hs : I64 size) (ht : I64 stride) (hk : roomK size off w h stride format = k + 1) :
    Calls Tryd.prog 30 #[.int .i64 size, .int .i64 off, .int .i64 w, .int .i64 h, .int .i64 stride, .int .i64 format] W
      fun e w' => e = .returned (.iface 152 (.pointer (some (ae k)))) ∧ W = w' := by
  have := room_any B W ae size off w h stride format hE hs ht
  rw [hk] at this
  exact this
/-- Kind of the k-th error. -/
theorem kind_at {B : Nat} (W : World) {ae : Nat → Addr} (k : Nat) (hE : Errs B W ae) (hk : k < 16) :
    Calls Tryd.prog 21 #[.iface 152 (.pointer (some (ae k)))] W fun e w' => e = .returned (.int .i64 ((k : Int) + 1)) ∧ Below W.heap.size W w' :=
  (kind_any B W ae (k + 1) hE (by omega)).mono fun _ _ ⟨he, hw⟩ => ⟨by rw [he]; exact ret_int (by omega), hw⟩

set_option maxRecDepth 100000 in
theorem awake11 {B : Nat} (W : World) {ae : Nat → Addr} (hE : Errs B W ae) : Calls Tryd.prog 32 #[] W fun e w' => e = .returned (.bool true) ∧ Below W.heap.size W w' := by
  go_enter Tryd.func32, Tryd.ntmps32
  go_wp2_with fail
  refine (room_ok W hE (by unfold I64; omega) (by unfold I64; omega) (by decide)).mono ?_
  rintro e w1 ⟨rfl, rfl⟩
  go_wp2_with fail
  refine (room_no W 7 hE (by unfold I64; omega) (by unfold I64; omega) (by decide)).mono ?_
  rintro e w1 ⟨rfl, rfl⟩
  go_wp2_with fail
  refine (room_no W 6 hE (by unfold I64; omega) (by unfold I64; omega) (by decide)).mono ?_
  rintro e w1 ⟨rfl, rfl⟩
  go_wp2_with fail
  refine (kind_at W 6 hE (by decide)).mono ?_
  rintro e w1 ⟨rfl, hB1⟩
  go_wp2
  go_ret
  exact ⟨rfl, hB1⟩

set_option maxRecDepth 100000 in
theorem poolRooms_any {B : Nat} (W : World) {ae : Nat → Addr} (hE : Errs B W ae) (hB : B ≤ W.heap.size) (size off w h stride format : Int) (hs : I64 size) (ht : I64 stride) :
    Calls Tryd.prog 6 #[.int .i64 size, .int .i64 off, .int .i64 w, .int .i64 h, .int .i64 stride, .int .i64 format] W
      fun e w' => e = .returned (.bool true) ∧ Below W.heap.size W w' := by
  have hR := room_any B W ae size off w h stride format hE hs ht
  have hR2 := fun W2 => rroom_any W2 size off w h stride format hs ht
  have hk16 : roomK size off w h stride format ≤ 16 := by unfold roomK; split <;> (try split) <;> omega
  obtain ⟨k, hk⟩ : ∃ k, k = roomK size off w h stride format := ⟨_, rfl⟩
  rw [← hk] at hR hR2 hk16
  have hR := hide hR
  have hR2 := hide hR2
  clear hk
  go_enter Tryd.func6, Tryd.ntmps6
  go_wp2_with fail
  refine hR.out.mono ?_
  rintro e w1 ⟨rfl, rfl⟩
  go_wp2_with fail
  refine (kind_any B W ae k hE hk16).mono ?_
  rintro e w1 ⟨rfl, hB1⟩
  go_wp2_with fail
  refine (hR2.out w1).mono ?_
  rintro e w2 ⟨rfl, rfl⟩
  go_wp2_with fail
  refine (awake11 w1 (hE.below (hB1.mono hB))).mono ?_
  rintro e w2 ⟨rfl, hB2⟩
  go_wp2
  go_ret
  exact ⟨rfl, hB1.trans (hB2.mono hB1.size)⟩

theorem roomK_bad2 {size off w h stride format : Int} (hf : format = 0 ∨ format = 1) (hb : w < 1 ∨ h < 1 ∨ off < 0 ∨ stride < 1 ∨ stride / 4 < w ∨ size < off ∨ (size - off) / stride < h) : roomK size off w h stride format = 7 + 1 := roomK_bad hf hb


set_option maxRecDepth 100000 in
theorem poolWraps_any {B : Nat} (W : World) {ae : Nat → Addr} (hE : Errs B W ae) (a b : Int) :
    Calls Tryd.prog 8 #[.int .i64 a, .int .i64 b] W fun e w' => e = .returned (.bool true) ∧ Below W.heap.size W w' := by
  have h1m := Int.emod_nonneg a (show (1099511627776 : Int) ≠ 0 by omega)
  have h2m := Int.emod_lt_of_pos a (show (0 : Int) < 1099511627776 by omega)
  have hPm := fun W => place_any a 1099511627776 W (by omega) (by omega)
  obtain ⟨m, hym⟩ : ∃ y, y = a % 1099511627776 := ⟨_, rfl⟩
  rw [← hym] at h1m h2m hPm
  have hPm := hide hPm
  clear hym
  have h1k := Int.emod_nonneg b (show (1000 : Int) ≠ 0 by omega)
  have h2k := Int.emod_lt_of_pos b (show (0 : Int) < 1000 by omega)
  have hPk := fun W => place_any b 1000 W (by omega) (by omega)
  obtain ⟨k, hyk⟩ : ∃ y, y = b % 1000 := ⟨_, rfl⟩
  rw [← hyk] at h1k h2k hPk
  have hPk := hide hPk
  clear hyk
  have r1 := room_no W 7 hE (size := 65536) (off := 1) (w := 1) (h := 4611686018427387904 + m) (stride := 4 + k) (format := 0) (by unfold I64; omega) (by unfold I64; omega)
    (roomK_bad2 (.inl rfl) (.inr (.inr (.inr (.inr (.inr (.inr (Int.lt_of_le_of_lt (Int.ediv_le_self _ (by omega)) (by omega)))))))))
  have r2 := room_no W 7 hE (size := 65536) (off := 4611686018427387904 + m) (w := 1) (h := 1) (stride := 4611686018427387904 + m) (format := 0) (by unfold I64; omega) (by unfold I64; omega) (roomK_bad2 (.inl rfl) (by omega))
  have r3 := room_no W 7 hE (size := 65536) (off := 0) (w := 4611686018427387904 + m) (h := 1) (stride := -(4611686018427387904 + m)) (format := 0) (by unfold I64; omega) (by unfold I64; omega) (roomK_bad2 (.inl rfl) (by omega))
  have r4 := room_no W 7 hE (size := 65536) (off := 0) (w := 1) (h := 4294967296) (stride := 4294967296) (format := 0) (by unfold I64; omega) (by unfold I64; omega) (roomK_bad2 (.inl rfl) (by omega))
  have r5 := room_no W 7 hE (size := 65536) (off := 4611686018427387904 + m) (w := 1) (h := 2147483648) (stride := 8589934592) (format := 1) (by unfold I64; omega) (by unfold I64; omega) (roomK_bad2 (.inr rfl) (by omega))
  have r1 := hide r1
  have r2 := hide r2
  have r3 := hide r3
  have r4 := hide r4
  have r5 := hide r5
  go_enter Tryd.func8, Tryd.ntmps8
  go_wp2_with fail
  refine (hPm.out W).mono ?_
  rintro e w1 ⟨rfl, rfl⟩
  go_wp2_with fail
  refine (hPk.out W).mono ?_
  rintro e w1 ⟨rfl, rfl⟩
  go_wp2_with fail
  refine r1.out.mono ?_
  rintro e w1 ⟨rfl, rfl⟩
  go_wp2_with fail
  refine r2.out.mono ?_
  rintro e w1 ⟨rfl, rfl⟩
  go_wp2_with fail
  refine r3.out.mono ?_
  rintro e w1 ⟨rfl, rfl⟩
  go_wp2_with fail
  refine r4.out.mono ?_
  rintro e w1 ⟨rfl, rfl⟩
  go_wp2_with fail
  refine r5.out.mono ?_
  rintro e w1 ⟨rfl, rfl⟩
  go_wp2_with fail
  refine (awake11 W hE).mono ?_
  rintro e w2 ⟨rfl, hB2⟩
  go_wp2
  go_ret
  exact ⟨rfl, hB2⟩

theorem roomK_zero {size off w h stride format : Int} (hf : format = 0 ∨ format = 1) (hk : roomK size off w h stride format = 0) :
    1 ≤ w ∧ 1 ≤ h ∧ 0 ≤ off ∧ 1 ≤ stride ∧ w ≤ stride / 4 ∧ off ≤ size ∧ h ≤ (size - off) / stride := by
  by_cases hb : w < 1 ∨ h < 1 ∨ off < 0 ∨ stride < 1 ∨ stride / 4 < w ∨ size < off ∨ (size - off) / stride < h
  · rw [roomK_bad hf hb] at hk; cases hk
  · omega

set_option maxRecDepth 100000 in
set_option maxHeartbeats 1000000 in
theorem poolInside_any {B : Nat} (W : World) {ae : Nat → Addr} (hE : Errs B W ae) (size off w h stride x y : Int) (ht : I64 stride) :
    Calls Tryd.prog 7 #[.int .i64 size, .int .i64 off, .int .i64 w, .int .i64 h, .int .i64 stride, .int .i64 x, .int .i64 y] W fun e w' => e = .returned (.bool true) ∧ Below W.heap.size W w' := by
  have h1n := Int.emod_nonneg size (show (65537 : Int) ≠ 0 by omega)
  have h2n := Int.emod_lt_of_pos size (show (0 : Int) < 65537 by omega)
  have hPn := fun W => place_any size 65537 W (by omega) (by omega)
  obtain ⟨n, hyn⟩ : ∃ y, y = size % 65537 := ⟨_, rfl⟩
  rw [← hyn] at h1n h2n hPn
  have hPn := hide hPn
  clear hyn
  rcases Nat.eq_zero_or_pos (roomK n off w h stride 0) with hk | hk
  · obtain ⟨a1, a2, a3, a4, a5, a6, a7⟩ := roomK_zero (.inl rfl) hk
    have r1 := hide (room_ok W hE (by unfold I64; omega) ht hk)
    have q1 : stride * h ≤ n - off := by
      have := Int.mul_le_of_le_ediv (show (0 : Int) < stride by omega) a7
      rwa [Int.mul_comm]
    have hk2 : roomK (n + 1) off w h stride 1 = 0 := by
      refine roomK_good (.inr rfl) ⟨a1, a2, a3, a4, a5, by omega, ?_⟩
      exact (Int.le_ediv_iff_mul_le (by omega)).2 (by rw [Int.mul_comm]; omega)
    have r2 := hide (room_ok W hE (by unfold I64; omega) ht hk2)
    have hs4 : 4 * w ≤ stride := by omega
    have e1 := Int.emod_nonneg x (show w ≠ 0 by omega)
    have e2 := Int.emod_lt_of_pos x (show 0 < w by omega)
    have e3 := Int.emod_nonneg y (show h ≠ 0 by omega)
    have e4 := Int.emod_lt_of_pos y (show 0 < h by omega)
    have b1 : h ≤ stride * h := by have := Int.mul_le_mul_of_nonneg_right (show 1 ≤ stride by omega) (show 0 ≤ h by omega); omega
    have b2 : stride ≤ stride * h := by have := Int.mul_le_mul_of_nonneg_left (show 1 ≤ h by omega) (show 0 ≤ stride by omega); omega
    have pi := place_any x w W (by omega) (by omega)
    have pj := place_any y h W (by omega) (by omega)
    obtain ⟨i, hi⟩ : ∃ i, i = x % w := ⟨_, rfl⟩
    obtain ⟨j, hj⟩ : ∃ j, j = y % h := ⟨_, rfl⟩
    rw [← hi] at e1 e2 pi
    rw [← hj] at e3 e4 pj
    have pi := hide pi
    have pj := hide pj
    have c1 : 0 ≤ stride * j := Int.mul_nonneg (by omega) e3
    have c2 : stride * j + stride ≤ stride * h := by
      have := Int.mul_le_mul_of_nonneg_left (show j + 1 ≤ h by omega) (show 0 ≤ stride by omega)
      rw [Int.mul_add, Int.mul_one] at this; exact this
    clear hk hk2 hi hj a7 ht
    go_enter Tryd.func7, Tryd.ntmps7
    go_wp2_with fail
    refine (hPn.out W).mono ?_
    rintro e w1 ⟨rfl, rfl⟩
    go_wp2_with fail
    refine r1.out.mono ?_
    rintro e w1 ⟨rfl, rfl⟩
    go_wp2_with fail
    refine pi.out.mono ?_
    rintro e w1 ⟨rfl, rfl⟩
    go_wp2_with fail
    refine pj.out.mono ?_
    rintro e w1 ⟨rfl, rfl⟩
    go_wp2_with fail
    refine r2.out.mono ?_
    rintro e w1 ⟨rfl, rfl⟩
    go_wp2_with fail
    refine (awake11 W hE).mono ?_
    rintro e w2 ⟨rfl, hB2⟩
    go_wp2
    go_ret
    exact ⟨rfl, hB2⟩
  · obtain ⟨k, hk⟩ : ∃ k, roomK n off w h stride 0 = k + 1 := ⟨roomK n off w h stride 0 - 1, by omega⟩
    have r1 := hide (room_no W k hE (by unfold I64; omega) ht hk)
    clear hk ht
    go_enter Tryd.func7, Tryd.ntmps7
    go_wp2_with fail
    refine (hPn.out W).mono ?_
    rintro e w1 ⟨rfl, rfl⟩
    go_wp2_with fail
    refine r1.out.mono ?_
    rintro e w1 ⟨rfl, rfl⟩
    go_wp2_with fail
    refine (awake11 W hE).mono ?_
    rintro e w2 ⟨rfl, hB2⟩
    go_wp2
    go_ret
    exact ⟨rfl, hB2⟩

set_option maxRecDepth 100000 in
set_option maxHeartbeats 1000000 in
theorem poolEdges_any {B : Nat} (W : World) {ae : Nat → Addr} (hE : Errs B W ae) (hB : B ≤ W.heap.size) (w h more off : Int) :
    Calls Tryd.prog 9 #[.int .i64 w, .int .i64 h, .int .i64 more, .int .i64 off] W fun e w' => e = .returned (.bool true) ∧ Below W.heap.size W w' := by
  have h1a := Int.emod_nonneg w (show (40 : Int) ≠ 0 by omega)
  have h2a := Int.emod_lt_of_pos w (show (0 : Int) < 40 by omega)
  have hPa := fun W => place_any w 40 W (by omega) (by omega)
  obtain ⟨a, hya⟩ : ∃ y, y = w % 40 := ⟨_, rfl⟩
  rw [← hya] at h1a h2a hPa
  have hPa := hide hPa
  clear hya
  have h1b := Int.emod_nonneg h (show (40 : Int) ≠ 0 by omega)
  have h2b := Int.emod_lt_of_pos h (show (0 : Int) < 40 by omega)
  have hPb := fun W => place_any h 40 W (by omega) (by omega)
  obtain ⟨b, hyb⟩ : ∃ y, y = h % 40 := ⟨_, rfl⟩
  rw [← hyb] at h1b h2b hPb
  have hPb := hide hPb
  clear hyb
  have h1m := Int.emod_nonneg more (show (9 : Int) ≠ 0 by omega)
  have h2m := Int.emod_lt_of_pos more (show (0 : Int) < 9 by omega)
  have hPm := fun W => place_any more 9 W (by omega) (by omega)
  obtain ⟨m, hym⟩ : ∃ y, y = more % 9 := ⟨_, rfl⟩
  rw [← hym] at h1m h2m hPm
  have hPm := hide hPm
  clear hym
  have h1o := Int.emod_nonneg off (show (500 : Int) ≠ 0 by omega)
  have h2o := Int.emod_lt_of_pos off (show (0 : Int) < 500 by omega)
  have hPo := fun W => place_any off 500 W (by omega) (by omega)
  obtain ⟨o, hyo⟩ : ∃ y, y = off % 500 := ⟨_, rfl⟩
  rw [← hyo] at h1o h2o hPo
  have hPo := hide hPo
  clear hyo
  obtain ⟨s, hs⟩ : ∃ s, s = 4 * (1 + a) + m := ⟨_, rfl⟩
  have s1 : 4 * (1 + a) ≤ s := by omega
  have s2 : s ≤ 168 := by omega
  have q0 : (s * (1 + b)) / s = 1 + b := Int.mul_ediv_cancel_left _ (by omega)
  have q1 : s ≤ s * (1 + b) := by have := Int.mul_le_mul_of_nonneg_left (show 1 ≤ 1 + b by omega) (show 0 ≤ s by omega); omega
  have q2 : s * (1 + b) ≤ 6720 := by
    have a1 := Int.mul_le_mul_of_nonneg_right (show s ≤ 168 by omega) (show 0 ≤ 1 + b by omega)
    omega
  obtain ⟨p, hp⟩ : ∃ p, p = s * (1 + b) := ⟨_, rfl⟩
  rw [← hp] at q0 q1 q2
  have q3 : (p - 1) / s < 1 + b := div_lt_of (by omega) (by rw [Int.mul_comm, ← hp]; omega)
  have r1 := hide (room_ok W hE (size := o + p) (off := o) (w := 1 + a) (h := 1 + b) (stride := s) (format := 0) (by unfold I64; omega) (by unfold I64; omega)
    (roomK_good (.inl rfl) ⟨by omega, by omega, by omega, by omega, by omega, by omega, by rw [show o + p - o = p by omega, q0]; omega⟩))
  have r2 := hide (room_no W 7 hE (size := o + p - 1) (off := o) (w := 1 + a) (h := 1 + b) (stride := s) (format := 0) (by unfold I64; omega) (by unfold I64; omega)
    (roomK_bad2 (.inl rfl) (.inr (.inr (.inr (.inr (.inr (.inr (by rw [show o + p - 1 - o = p - 1 by omega]; exact q3)))))))))
  have r3 := hide (fun (W : World) (hE : Errs B W ae) => room_no W 7 hE (size := o + p) (off := o + 1) (w := 1 + a) (h := 1 + b) (stride := s) (format := 1) (by unfold I64; omega) (by unfold I64; omega)
    (roomK_bad2 (.inr rfl) (.inr (.inr (.inr (.inr (.inr (.inr (by rw [show o + p - (o + 1) = p - 1 by omega]; exact q3)))))))))
  have r4 := hide (fun (W : World) (hE : Errs B W ae) => room_no W 7 hE (size := o + p) (off := o) (w := 1 + a) (h := 1 + b + 1) (stride := s) (format := 0) (by unfold I64; omega) (by unfold I64; omega)
    (roomK_bad2 (.inl rfl) (.inr (.inr (.inr (.inr (.inr (.inr (by rw [show o + p - o = p by omega, q0]; omega)))))))))
  have r5 := hide (fun (W : World) (hE : Errs B W ae) => room_no W 7 hE (size := o + p) (off := o) (w := 1 + a) (h := 1 + b) (stride := 4 * (1 + a) - 1) (format := 0) (by unfold I64; omega) (by unfold I64; omega)
    (roomK_bad2 (.inl rfl) (by omega)))
  have r6 := hide (fun (W : World) (hE : Errs B W ae) => room_no W 6 hE (size := o + p) (off := o) (w := 1 + a) (h := 1 + b) (stride := s) (format := -1) (by unfold I64; omega) (by unfold I64; omega)
    (by unfold roomK; rw [if_pos (by omega)]))
  clear q0 q3
  have Hs := hide hs
  have Hp := hide hp
  clear hs hp
  go_enter Tryd.func9, Tryd.ntmps9
  go_wp2_with fail
  refine (hPa.out W).mono ?_
  rintro e w1 ⟨rfl, rfl⟩
  go_wp2_with fail
  refine (hPb.out W).mono ?_
  rintro e w1 ⟨rfl, rfl⟩
  go_wp2_with fail
  refine (hPm.out W).mono ?_
  rintro e w1 ⟨rfl, rfl⟩
  go_wp2_with fail
  rw [← Hs.out]
  refine (hPo.out W).mono ?_
  rintro e w1 ⟨rfl, rfl⟩
  have u1 : s * (1 + b) ≤ 6720 := by rw [← Hp.out]; exact q2
  have u2 : 0 ≤ s * (1 + b) := by rw [← Hp.out]; omega
  go_wp2_with fail
  rw [← Hp.out]
  refine r1.out.mono ?_
  rintro e w1 ⟨rfl, rfl⟩
  go_wp2_with fail
  refine r2.out.mono ?_
  rintro e w1 ⟨rfl, rfl⟩
  go_wp2_with fail
  refine (kind_at W 7 hE (by decide)).mono ?_
  rintro e w2 ⟨rfl, hB2⟩
  have hE2 := hE.below (hB2.mono hB)
  go_wp2_with fail
  refine (r3.out w2 hE2).mono ?_
  rintro e w1 ⟨rfl, rfl⟩
  go_wp2_with fail
  refine (r4.out w2 hE2).mono ?_
  rintro e w1 ⟨rfl, rfl⟩
  go_wp2_with fail
  refine (r5.out w2 hE2).mono ?_
  rintro e w1 ⟨rfl, rfl⟩
  go_wp2_with fail
  refine (r6.out w2 hE2).mono ?_
  rintro e w1 ⟨rfl, rfl⟩
  go_wp2_with fail
  refine (kind_at w2 6 hE2 (by decide)).mono ?_
  rintro e w3 ⟨rfl, hB3⟩
  have hB3' := hB2.trans (hB3.mono hB2.size)
  go_wp2_with fail
  refine (awake11 w3 (hE.below (hB3'.mono hB))).mono ?_
  rintro e w4 ⟨rfl, hB4⟩
  go_wp2
  go_ret
  exact ⟨rfl, hB3'.trans (hB4.mono hB3'.size)⟩
end Go.Proofs.YtjhfcnkmfbpjmaaDoor
