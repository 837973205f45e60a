/-
  Rows of ints: append of a row, slices.Clone, slices.Index, slices.Contains.
-/
import Derived.Test.YthkjicnnepkghaaGreatDoorPkA
import Derived.Laws.AppendOwnNone
namespace Go.Proofs.YthkjicnnepkghaaGreatDoor
open Go.RowKit

theorem indexInts (w : World) (v : Value) (xs : List Int) (d : Int) (hr : Rd w v 1 xs.length (xs.map (Value.int .i64))) (hlen : xs.length ≤ 1000000) :
    Calls Tryz.prog 155 #[v, .int .i64 d] w fun e w' => e = .returned (.int .i64 (Lib.idxOf xs d)) ∧ w = w' := by
  have hr0 := hr
  obtain ⟨hl, A, c, rfl, hc, _⟩ := hr0
  by_cases h0 : xs.length = 0
  · obtain rfl := List.eq_nil_of_length_eq_zero h0
    refine (Go.Proofs.Tryz.slices_Index_int_empty A c d w).mono ?_
    rintro e w' ⟨rfl, rfl⟩
    exact ⟨rfl, rfl⟩
  · obtain ⟨b, off, rfl, hb, hcell⟩ := hr.open1 (by omega)
    refine (Go.Proofs.Tryz.slices_Index_int b off xs.length c xs d w (Nat.le_refl _) (by omega) hcell).mono ?_
    rintro e w' ⟨rfl, rfl⟩
    rw [List.take_of_length_le (Nat.le_refl _)]
    exact ⟨rfl, rfl⟩

theorem containsInts (w : World) (v : Value) (xs : List Int) (d : Int) (hr : Rd w v 1 xs.length (xs.map (Value.int .i64))) (hlen : xs.length ≤ 1000000) :
    Calls Tryz.prog 169 #[v, .int .i64 d] w fun e w' => e = .returned (.bool (decide (d ∈ xs))) ∧ w = w' := by
  have hr0 := hr
  obtain ⟨hl, A, c, rfl, hc, _⟩ := hr0
  by_cases h0 : xs.length = 0
  · obtain rfl := List.eq_nil_of_length_eq_zero h0
    refine (Go.Proofs.Tryz.slices_Contains_int_empty A c d w).mono ?_
    rintro e w' ⟨rfl, rfl⟩
    exact ⟨by simp, rfl⟩
  · obtain ⟨b, off, rfl, hb, hcell⟩ := hr.open1 (by omega)
    refine (Go.Proofs.Tryz.slices_Contains_int b off xs.length c xs d w (Nat.le_refl _) (by omega) hcell).mono ?_
    rintro e w' ⟨rfl, rfl⟩
    rw [List.take_of_length_le (Nat.le_refl _)]
    exact ⟨by congr 2; simp, rfl⟩

theorem idxFrom_cases (d : Int) : ∀ (xs : List Int) (i : Nat), (Lib.idxFrom xs d i = -1 ∧ d ∉ xs) ∨ ∃ k, k < xs.length ∧ Lib.idxFrom xs d i = ((i + k : Nat) : Int) ∧ xs.getD k 0 = d ∧ ∀ j, j < k → xs.getD j 0 ≠ d
  | [], i => .inl ⟨rfl, by simp⟩
  | x :: xs, i => by
    by_cases hx : x = d
    · exact .inr ⟨0, by simp, by simp [Lib.idxFrom, hx], by simpa using hx, fun j hj => by omega⟩
    · rcases idxFrom_cases d xs (i + 1) with ⟨h1, h2⟩ | ⟨k, hk, h1, h2, h3⟩
      · exact .inl ⟨by simpa [Lib.idxFrom, hx] using h1, by simp [Ne.symm hx, h2]⟩
      · refine .inr ⟨k + 1, by simpa using hk, by simp only [Lib.idxFrom, if_neg hx, h1]; congr 1; omega, by simpa using h2, fun j hj => ?_⟩
        cases j with
        | zero => simpa using hx
        | succ j => simpa using h3 j (by omega)

theorem idx_cases (xs : List Int) (d : Int) : (Lib.idxOf xs d = -1 ∧ d ∉ xs) ∨ ∃ k, k < xs.length ∧ Lib.idxOf xs d = (k : Int) ∧ xs.getD k 0 = d ∧ ∀ j, j < k → xs.getD j 0 ≠ d := by
  have := idxFrom_cases d xs 0
  simpa [Lib.idxOf] using this

end Go.Proofs.YthkjicnnepkghaaGreatDoor
