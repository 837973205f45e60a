/-
  Contracts of package stack.
-/
import Derived.Test.YtjhfcnkmfbpjmaaOrder
import Derived.Deep.QuietTactic
import Derived.BigQuiet
namespace Go.Proofs.Ytjhfcnkmfbpjmaa
open Go.RowKit

def ints (xs : List Int) : List Value := xs.map (Value.int .i64)
theorem ints_length (xs : List Int) : (ints xs).length = xs.length := by simp [ints]

/-- A stack at block B holds xs. -/
def StackAt (w : World) (B : Nat) (xs : List Int) : Prop :=
  ∃ v, w.heap[B]? = some (.cells #[v] 37 (0, 0)) ∧ Rd w v 1 xs.length (xs.map (Value.int .i64)) ∧ v.ownBlock ≠ some B

def topL (xs : List Int) (d : Int) : List Int := without xs d ++ [d]

/-- stack.New -/
theorem new_any (w : World) : Calls Try.prog 6 #[] w fun e w' => e = .returned (.pointer (some ⟨w.heap.size, 0, none⟩)) ∧ StackAt w' w.heap.size [] ∧ Below w.heap.size w w' := by
  go_enter Try.func6, Try.ntmps6
  go_wp2
  go_ret
  exact ⟨rfl, ⟨_, heap_alloc_new _ _, Rd.nil _ _, by simp [Value.ownBlock]⟩, (Below.refl _ _).alloc (Nat.le_refl _) _⟩

theorem stack_lt {w : World} {B : Nat} {xs : List Int} (h : StackAt w B xs) : B < w.heap.size := by
  obtain ⟨v, hb, _⟩ := h; exact lt_of_block hb

theorem StackAt.set {w w1 : World} {B : Nat} {ys : List Int} {v v1 : Value} (hb : w.heap[B]? = some (.cells #[v] 37 (0, 0))) (hB : Below w.heap.size w w1) (hown : w1.ownsRow w.heap.size 3 1 v1 ys.length (ys.map (Value.int .i64))) :
    StackAt (w1.setCell ⟨B, 0, none⟩ v1) B ys ∧ w.grownBy (w1.setCell ⟨B, 0, none⟩ v1) (some B) := by
  have hlt := lt_of_block hb
  have hb1 := (hB.block B hlt).trans hb
  have hne : v1.ownBlock ≠ some B := own_base hown hlt
  refine ⟨⟨v1, one_setCell hb1, (Rd.of_own hown).setCell hne _, hne⟩, hB.os, hB.tape, hB.output, by simpa [World.setCell] using hB.size, fun k hk hkB => ?_⟩
  rw [Below.heap_setCell _ _ _ _ (by rintro rfl; exact hkB rfl)]
  exact hB.block k hk

/-- (*Stack).turn with order.Top -/
theorem turn_top (w : World) (B : Nat) (xs : List Int) (d : Int) (h : StackAt w B xs) (hlen : xs.length ≤ 1000000) :
    Calls Try.prog 18 #[.pointer (some ⟨B, 0, none⟩), .int .i64 d, .func (.func 19) #[] #[]] w fun e w' => e = .returned (.tuple #[]) ∧ StackAt w' B (topL xs d) ∧ w.grownBy w' (some B) := by
  obtain ⟨v, hb, hr, hne⟩ := h
  have hr0 := hr
  obtain ⟨_, A, c, rfl, hc, _⟩ := hr0
  have hc0 := cell_of_one hb
  have hlt := lt_of_block hb
  go_enter Try.func18, Try.ntmps18
  go_wp2_with fail
  refine (top_any _ _ xs d hr hlen).mono ?_
  rintro e w1 ⟨v1, rfl, hown, hB⟩
  obtain ⟨A1, c1, rfl, hc1⟩ := own_form hown
  have hb1 := (hB.block B hlt).trans hb
  have hc01 := cell_of_one hb1
  have hf01 := free_of_one hb1
  have R := StackAt.set (ys := topL xs d) hb hB (by simpa [topL] using hown)
  have HR := hide R
  clear R hown
  go_wp2
  go_end0
  exact ⟨rfl, by simpa [topL] using HR.out⟩

theorem turn_drop (w : World) (B : Nat) (xs : List Int) (d : Int) (h : StackAt w B xs) (hlen : xs.length ≤ 1000000) :
    Calls Try.prog 18 #[.pointer (some ⟨B, 0, none⟩), .int .i64 d, .func (.func 22) #[] #[]] w fun e w' => e = .returned (.tuple #[]) ∧ StackAt w' B (without xs d) ∧ w.grownBy w' (some B) := by
  obtain ⟨v, hb, hr, hne⟩ := h
  have hr0 := hr
  obtain ⟨_, A, c, rfl, hc, _⟩ := hr0
  have hc0 := cell_of_one hb
  have hlt := lt_of_block hb
  go_enter Try.func18, Try.ntmps18
  go_wp2_with fail
  refine (drop_any _ _ xs d hr hlen).mono ?_
  rintro e w1 ⟨v1, rfl, hown, hB⟩
  obtain ⟨A1, c1, rfl, hc1⟩ := own_form hown
  have hb1 := (hB.block B hlt).trans hb
  have hc01 := cell_of_one hb1
  have hf01 := free_of_one hb1
  have R := StackAt.set hb hB hown
  have HR := hide R
  clear R hown
  go_wp2
  go_end0
  exact ⟨rfl, HR.out⟩

/-- (*Stack).Raise -/
theorem raise_any (w : World) (B : Nat) (xs : List Int) (d : Int) (h : StackAt w B xs) (hlen : xs.length ≤ 1000000) :
    Calls Try.prog 7 #[.pointer (some ⟨B, 0, none⟩), .int .i64 d] w fun e w' => e = .returned (.tuple #[]) ∧ StackAt w' B (topL xs d) ∧ w.grownBy w' (some B) := by
  go_enter Try.func7, Try.ntmps7
  go_wp2_with fail
  refine (turn_top w B xs d h hlen).mono ?_
  rintro e w1 ⟨rfl, R⟩
  have HR := hide R
  clear R
  go_wp2
  go_end0
  exact ⟨rfl, HR.out⟩

/-- (*Stack).Drop -/
theorem sdrop_any (w : World) (B : Nat) (xs : List Int) (d : Int) (h : StackAt w B xs) (hlen : xs.length ≤ 1000000) :
    Calls Try.prog 14 #[.pointer (some ⟨B, 0, none⟩), .int .i64 d] w fun e w' => e = .returned (.tuple #[]) ∧ StackAt w' B (without xs d) ∧ w.grownBy w' (some B) := by
  go_enter Try.func14, Try.ntmps14
  go_wp2_with fail
  refine (turn_drop w B xs d h hlen).mono ?_
  rintro e w1 ⟨rfl, R⟩
  have HR := hide R
  clear R
  go_wp2
  go_end0
  exact ⟨rfl, HR.out⟩

/-- (*Stack).Top -/
theorem stop_any (w : World) (B : Nat) (xs : List Int) (h : StackAt w B xs) (hlen : xs.length ≤ 1000000) :
    Calls Try.prog 10 #[.pointer (some ⟨B, 0, none⟩)] w fun e w' => e = .returned (.int .i64 (xs.getLastD 0)) ∧ ∃ q, w' = w.drewN q := by
  obtain ⟨v, hb, hr, hne⟩ := h
  have hr0 := hr
  obtain ⟨_, A, c, rfl, hc, _⟩ := hr0
  have hc0 := cell_of_one hb
  by_cases h0 : xs.length = 0
  · obtain rfl := List.eq_nil_of_length_eq_zero h0
    go_enter Try.func10, Try.ntmps10
    go_wp2
    go_ret
    exact ⟨rfl, 0, rfl⟩
  · obtain ⟨b, off, rfl, hb', hcell⟩ := hr.open1 (by omega)
    have hlast := hcell (xs.length - 1) (by omega)
    have hx : xs.getD (xs.length - 1) 0 = xs.getLastD 0 := by
      rw [List.getLastD_eq_getLast?, List.getLast?_eq_getElem?, List.getD]
    rw [hx] at hlast
    have hz : ((xs.length : Int) == 0) = false := by simpa using h0
    obtain ⟨n, hn⟩ : ∃ n, n = xs.length := ⟨_, rfl⟩
    rw [← hn] at hc0 hlast hz hlen h0 hc
    obtain ⟨y, hy⟩ : ∃ y, y = xs.getLastD 0 := ⟨_, rfl⟩
    rw [← hy] at hlast ⊢
    clear hcell hx hr hb hy hn
    go_enter Try.func10, Try.ntmps10
    go_wp2
    go_quiet (fail)
    all_goals go_wp2
    go_ret
    exact ⟨rfl, _, rfl⟩
end Go.Proofs.Ytjhfcnkmfbpjmaa
