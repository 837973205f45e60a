/-
  tableauref11.Room answers as pool.Room does; the laws' awake.
-/
import Derived.Test.YtjhfcnkmfbpjmaaDoorPool
import Derived.Test.YtjhfcnkmfbpjmaaDoorLaw00
namespace Go.Proofs.YtjhfcnkmfbpjmaaDoor
open Go.RowKit

theorem tdiv_lt {s w : Int} (h : s < 0) (hw : 1 ≤ w) : s.tdiv 4 < w := by
  have e : s.tdiv 4 = -((-s) / 4) := by
    rw [show s = -(-s) by omega, Int.neg_tdiv, Int.tdiv_eq_ediv_of_nonneg (by omega)]; simp
  omega

theorem div_lt_of {a b c : Int} (hb : 0 < b) (h : a < c * b) : a / b < c := Int.ediv_lt_of_lt_mul hb h
theorem not_div_lt {a b c : Int} (hb : 0 < b) (h : a / b < c) : a < c * b := Int.lt_mul_of_ediv_lt hb h

theorem roomK_bad {size off w h stride format : Int} (hf : format = 0 ∨ format = 1) (hb : w < 1 ∨ h < 1 ∨ off < 0 ∨ stride < 1 ∨ stride / 4 < w ∨ size < off ∨ (size - off) / stride < h) : roomK size off w h stride format = 8 := by
  unfold roomK; rw [if_neg (by omega), if_pos hb]
theorem roomK_good {size off w h stride format : Int} (hf : format = 0 ∨ format = 1) (hb : 1 ≤ w ∧ 1 ≤ h ∧ 0 ≤ off ∧ 1 ≤ stride ∧ w ≤ stride / 4 ∧ off ≤ size ∧ h ≤ (size - off) / stride) : roomK size off w h stride format = 0 := by
  unfold roomK; rw [if_neg (by omega), if_neg (by omega)]

theorem big_any (W : World) (size off h stride : Int) (h1 : 0 ≤ off) (h2 : off ≤ size) (h3 : 1 ≤ stride) (h4 : size ≤ 9223372036854775807) :
    Calls Tryd.prog 59 #[.int .i64 size, .int .i64 off, .int .i64 h, .int .i64 stride] W
      fun e w' => e = .returned (.int .i64 (if (size - off) / stride < h then 8 else 0)) ∧ W = w' := by
  have hq := Int.ediv_nonneg (show (0 : Int) ≤ size - off by omega) (show (0 : Int) ≤ stride by omega)
  by_cases h5 : (size - off) / stride < h
  · rw [if_pos h5]
    go_enter Tryd.func59, Tryd.ntmps59
    go_wp2
    go_ret
    exact ⟨rfl, rfl⟩
  · rw [if_neg h5]
    go_enter Tryd.func59, Tryd.ntmps59
    go_wp2
    go_ret
    exact ⟨rfl, rfl⟩


set_option maxRecDepth 100000 in
set_option maxHeartbeats 4000000 in
theorem rroom_any (W : World) (size off w h stride f : Int) (hs : I64 size) (ht : I64 stride) :
    Calls Tryd.prog 31 #[.int .i64 size, .int .i64 off, .int .i64 w, .int .i64 h, .int .i64 stride, .int .i64 f] W
      fun e w' => e = .returned (.int .i64 (roomK size off w h stride f)) ∧ W = w' := by
  obtain ⟨hs1, hs2⟩ := hs
  obtain ⟨ht1, ht2⟩ := ht
  by_cases hf : f ≠ 0 ∧ f ≠ 1
  · have hk : roomK size off w h stride f = 7 := by unfold roomK; rw [if_pos hf]
    rw [hk]
    have f0 : (f != 0) = true := by simpa using hf.1
    have f1 : (f != 1) = true := by simpa using hf.2
    clear hk hf
    go_enter Tryd.func31, Tryd.ntmps31
    go_wp2
    go_ret
    exact ⟨rfl, rfl⟩
  · have hf : f = 0 ∨ f = 1 := by omega
    rcases (show w < 1 ∨ 1 ≤ w by omega) with h1 | h1
    ·
      have hk := roomK_bad (size := size) (off := off) (w := w) (h := h) (stride := stride) (show f = 0 ∨ f = 1 from hf) (by omega)
      rw [hk]
      clear hk
      rcases hf with rfl | rfl
      all_goals
        go_enter Tryd.func31, Tryd.ntmps31
        go_wp2
        go_ret
        exact ⟨rfl, rfl⟩
    rcases (show h < 1 ∨ 1 ≤ h by omega) with h2 | h2
    ·
      have hk := roomK_bad (size := size) (off := off) (w := w) (h := h) (stride := stride) (show f = 0 ∨ f = 1 from hf) (by omega)
      rw [hk]
      clear hk
      rcases hf with rfl | rfl
      all_goals
        go_enter Tryd.func31, Tryd.ntmps31
        go_wp2
        go_ret
        exact ⟨rfl, rfl⟩
    rcases (show off < 0 ∨ 0 ≤ off by omega) with h3 | h3
    ·
      have hk := roomK_bad (size := size) (off := off) (w := w) (h := h) (stride := stride) (show f = 0 ∨ f = 1 from hf) (by omega)
      rw [hk]
      clear hk
      rcases hf with rfl | rfl
      all_goals
        go_enter Tryd.func31, Tryd.ntmps31
        go_wp2
        go_ret
        exact ⟨rfl, rfl⟩
    rcases (show stride < 0 ∨ 0 ≤ stride by omega) with h4 | h4
    · have hq := tdiv_lt h4 h1
      have hk := roomK_bad (size := size) (off := off) (w := w) (h := h) (stride := stride) (show f = 0 ∨ f = 1 from hf) (by omega)
      rw [hk]
      clear hk
      rcases hf with rfl | rfl
      all_goals
        go_enter Tryd.func31, Tryd.ntmps31
        go_wp2
        go_ret
        exact ⟨rfl, rfl⟩
    rcases (show stride / 4 < w ∨ w ≤ stride / 4 by omega) with h5 | h5
    ·
      have hk := roomK_bad (size := size) (off := off) (w := w) (h := h) (stride := stride) (show f = 0 ∨ f = 1 from hf) (by omega)
      rw [hk]
      clear hk
      rcases hf with rfl | rfl
      all_goals
        go_enter Tryd.func31, Tryd.ntmps31
        go_wp2
        go_ret
        exact ⟨rfl, rfl⟩
    rcases (show size < off ∨ off ≤ size by omega) with h6 | h6
    ·
      have hk := roomK_bad (size := size) (off := off) (w := w) (h := h) (stride := stride) (show f = 0 ∨ f = 1 from hf) (by omega)
      rw [hk]
      clear hk
      rcases hf with rfl | rfl
      all_goals
        go_enter Tryd.func31, Tryd.ntmps31
        go_wp2
        go_ret
        exact ⟨rfl, rfl⟩
    rcases (show size < stride ∨ stride ≤ size by omega) with h7 | h7
    · have hd := div_lt_of (a := size - off) (b := stride) (c := h) (by omega) (by have := Int.mul_le_mul_of_nonneg_right h2 h4; omega)
      have hd := hide hd
      have hk := roomK_bad (size := size) (off := off) (w := w) (h := h) (stride := stride) (show f = 0 ∨ f = 1 from hf) (by exact .inr (.inr (.inr (.inr (.inr (.inr hd.out))))))
      rw [hk]
      clear hk
      rcases hf with rfl | rfl
      all_goals
        go_enter Tryd.func31, Tryd.ntmps31
        go_wp2
        go_ret
        exact ⟨rfl, rfl⟩
    rcases (show size < h ∨ h ≤ size by omega) with h8 | h8
    · have hd := div_lt_of (a := size - off) (b := stride) (c := h) (by omega) (by have := Int.mul_le_mul_of_nonneg_left (show 1 ≤ stride by omega) (show 0 ≤ h by omega); omega)
      have hd := hide hd
      have hk := roomK_bad (size := size) (off := off) (w := w) (h := h) (stride := stride) (show f = 0 ∨ f = 1 from hf) (by exact .inr (.inr (.inr (.inr (.inr (.inr hd.out))))))
      rw [hk]
      clear hk
      rcases hf with rfl | rfl
      all_goals
        go_enter Tryd.func31, Tryd.ntmps31
        go_wp2
        go_ret
        exact ⟨rfl, rfl⟩
    rcases (show size < 0 ∨ 0 ≤ size by omega) with h9 | h9
    · exact absurd h9 (by omega)
    rcases (show 65536 < size ∨ size ≤ 65536 by omega) with h10 | h10
    · have HB := hide (big_any W size off h stride h3 h6 (by omega) hs2)
      have hk : roomK size off w h stride f = if (size - off) / stride < h then 8 else 0 := by
        split
        · next hd => exact roomK_bad hf (.inr (.inr (.inr (.inr (.inr (.inr hd))))))
        · next hd => exact roomK_good hf (by omega)
      have hk2 : ((roomK size off w h stride f : Nat) : Int) = if (size - off) / stride < h then 8 else 0 := by rw [hk]; split <;> rfl
      rw [hk2]
      obtain ⟨r, hr⟩ : ∃ r : Int, r = if (size - off) / stride < h then 8 else 0 := ⟨_, rfl⟩
      rw [← hr] at HB ⊢
      clear hk hk2 hr
      rcases hf with rfl | rfl
      all_goals
        go_enter Tryd.func31, Tryd.ntmps31
        go_wp2_with fail
        refine HB.out.mono ?_
        rintro e w' ⟨rfl, rfl⟩
        go_wp2
        go_ret
        exact ⟨rfl, rfl⟩
    · have m1 : 0 ≤ stride * h := Int.mul_nonneg h4 (by omega)
      have m2 : stride * h ≤ 4294967296 := by
        have a1 := Int.mul_le_mul_of_nonneg_right (show stride ≤ 65536 by omega) (show 0 ≤ h by omega)
        have a2 := Int.mul_le_mul_of_nonneg_left (show h ≤ 65536 by omega) (show (0 : Int) ≤ 65536 by omega)
        omega
      have hk : roomK size off w h stride f = if size < off + stride * h then 8 else 0 := by
        split
        · next hd => exact roomK_bad hf (.inr (.inr (.inr (.inr (.inr (.inr (div_lt_of (by omega) (by rw [Int.mul_comm]; omega))))))))
        · next hd =>
          refine roomK_good hf ⟨by omega, by omega, by omega, by omega, h5, h6, ?_⟩
          rcases (show (size - off) / stride < h ∨ h ≤ (size - off) / stride by omega) with hc | hc
          · have := not_div_lt (by omega) hc
            rw [Int.mul_comm] at this; omega
          · exact hc
      by_cases hd : size < off + stride * h
      · rw [hk, if_pos hd]
        clear hk
        rcases hf with rfl | rfl
        all_goals
          go_enter Tryd.func31, Tryd.ntmps31
          go_wp2
          go_ret
          exact ⟨rfl, rfl⟩
      · rw [hk, if_neg hd]
        clear hk
        rcases hf with rfl | rfl
        all_goals
          go_enter Tryd.func31, Tryd.ntmps31
          go_wp2
          go_ret
          exact ⟨rfl, rfl⟩
end Go.Proofs.YtjhfcnkmfbpjmaaDoor
