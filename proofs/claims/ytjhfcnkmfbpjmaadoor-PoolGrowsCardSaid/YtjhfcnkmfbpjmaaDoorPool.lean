/-
  pool.Room: whether a buffer has room, as a number of an error.
-/
import Derived.Test.YtjhfcnkmfbpjmaaDoorErrs2
namespace Go.Proofs.YtjhfcnkmfbpjmaaDoor
open Go.RowKit

/-- The answer of pool.Room: the error's number. -/
def roomK (size off w h stride format : Int) : Nat :=
  if format ≠ 0 ∧ format ≠ 1 then 7
  else if w < 1 ∨ h < 1 ∨ off < 0 ∨ stride < 1 ∨ stride / 4 < w ∨ size < off ∨ (size - off) / stride < h then 8 else 0


set_option maxRecDepth 100000 in
set_option maxHeartbeats 2000000 in
theorem room_any (B : Nat) (W : World) (ae : Nat → Addr) (size off w h stride format : Int) (hE : Errs B W ae) (hs : I64 size) (ht : I64 stride) :
    Calls Tryd.prog 30 #[.int .i64 size, .int .i64 off, .int .i64 w, .int .i64 h, .int .i64 stride, .int .i64 format] W
      fun e w' => e = .returned (errV ae (roomK size off w h stride format)) ∧ W = w' := by
  obtain ⟨hs1, hs2⟩ := hs
  obtain ⟨ht1, ht2⟩ := ht
  by_cases hf : format ≠ 0 ∧ format ≠ 1
  · have hk : roomK size off w h stride format = 7 := by unfold roomK; rw [if_pos hf]
    rw [hk]
    have f0 : (format != 0) = true := by simpa using hf.1
    have f1 : (format != 1) = true := by simpa using hf.2
    have gs : W.cell? ⟨6, 0, none⟩ = _ := hE.glob 6 (by decide)
    clear hE hk hf
    go_enter Tryd.func30, Tryd.ntmps30
    go_wp2
    go_ret
    exact ⟨rfl, rfl⟩
  · rcases (show format = 0 ∨ format = 1 by omega) with rfl | rfl
    all_goals
      clear hf
      rcases (show w < 1 ∨ 1 ≤ w by omega) with h1 | h1
      ·
        have hk : ∀ f : Int, f = 0 ∨ f = 1 → roomK size off w h stride f = 8 := fun f hf => by
          unfold roomK; rw [if_neg (by omega), if_pos (by omega)]
        rw [hk _ (by omega)]
        have gs : W.cell? ⟨7, 0, none⟩ = _ := hE.glob 7 (by decide)
        clear hE hk
        go_enter Tryd.func30, Tryd.ntmps30
        go_wp2
        go_ret
        exact ⟨rfl, rfl⟩
      rcases (show h < 1 ∨ 1 ≤ h by omega) with h2 | h2
      ·
        have hk : ∀ f : Int, f = 0 ∨ f = 1 → roomK size off w h stride f = 8 := fun f hf => by
          unfold roomK; rw [if_neg (by omega), if_pos (by omega)]
        rw [hk _ (by omega)]
        have gs : W.cell? ⟨7, 0, none⟩ = _ := hE.glob 7 (by decide)
        clear hE hk
        go_enter Tryd.func30, Tryd.ntmps30
        go_wp2
        go_ret
        exact ⟨rfl, rfl⟩
      rcases (show off < 0 ∨ 0 ≤ off by omega) with h3 | h3
      ·
        have hk : ∀ f : Int, f = 0 ∨ f = 1 → roomK size off w h stride f = 8 := fun f hf => by
          unfold roomK; rw [if_neg (by omega), if_pos (by omega)]
        rw [hk _ (by omega)]
        have gs : W.cell? ⟨7, 0, none⟩ = _ := hE.glob 7 (by decide)
        clear hE hk
        go_enter Tryd.func30, Tryd.ntmps30
        go_wp2
        go_ret
        exact ⟨rfl, rfl⟩
      rcases (show stride < 1 ∨ 1 ≤ stride by omega) with h4 | h4
      ·
        have hk : ∀ f : Int, f = 0 ∨ f = 1 → roomK size off w h stride f = 8 := fun f hf => by
          unfold roomK; rw [if_neg (by omega), if_pos (by omega)]
        rw [hk _ (by omega)]
        have gs : W.cell? ⟨7, 0, none⟩ = _ := hE.glob 7 (by decide)
        clear hE hk
        go_enter Tryd.func30, Tryd.ntmps30
        go_wp2
        go_ret
        exact ⟨rfl, rfl⟩
      rcases (show stride / 4 < w ∨ w ≤ stride / 4 by omega) with h5 | h5
      ·
        have hk : ∀ f : Int, f = 0 ∨ f = 1 → roomK size off w h stride f = 8 := fun f hf => by
          unfold roomK; rw [if_neg (by omega), if_pos (by omega)]
        rw [hk _ (by omega)]
        have gs : W.cell? ⟨7, 0, none⟩ = _ := hE.glob 7 (by decide)
        clear hE hk
        go_enter Tryd.func30, Tryd.ntmps30
        go_wp2
        go_ret
        exact ⟨rfl, rfl⟩
      rcases (show size < off ∨ off ≤ size by omega) with h6 | h6
      ·
        have hk : ∀ f : Int, f = 0 ∨ f = 1 → roomK size off w h stride f = 8 := fun f hf => by
          unfold roomK; rw [if_neg (by omega), if_pos (by omega)]
        rw [hk _ (by omega)]
        have gs : W.cell? ⟨7, 0, none⟩ = _ := hE.glob 7 (by decide)
        clear hE hk
        go_enter Tryd.func30, Tryd.ntmps30
        go_wp2
        go_ret
        exact ⟨rfl, rfl⟩
      rcases (show (size - off) / stride < h ∨ h ≤ (size - off) / stride by omega) with h7 | h7
      ·
        have hk : ∀ f : Int, f = 0 ∨ f = 1 → roomK size off w h stride f = 8 := fun f hf => by
          unfold roomK; rw [if_neg (by omega), if_pos (by omega)]
        rw [hk _ (by omega)]
        have gs : W.cell? ⟨7, 0, none⟩ = _ := hE.glob 7 (by decide)
        clear hE hk
        go_enter Tryd.func30, Tryd.ntmps30
        go_wp2
        go_ret
        exact ⟨rfl, rfl⟩
      have hk : ∀ f : Int, f = 0 ∨ f = 1 → roomK size off w h stride f = 0 := fun f hf => by
        unfold roomK; rw [if_neg (by omega), if_neg (by omega)]
      rw [hk _ (by omega)]
      clear hE hk
      have hq := Int.ediv_nonneg (show (0 : Int) ≤ size - off by omega) (show (0 : Int) ≤ stride by omega)
      go_enter Tryd.func30, Tryd.ntmps30
      go_wp2
      go_ret
      exact ⟨rfl, rfl⟩
end Go.Proofs.YtjhfcnkmfbpjmaaDoor
