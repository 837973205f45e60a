/-
  Contracts of package stack: All, Next.
-/
import Derived.Test.YtjhfcnkmfbpjmaaStack
import Derived.Test.YtjhfcnkmfbpjmaaShelf
namespace Go.Proofs.Ytjhfcnkmfbpjmaa
open Go.RowKit

/-- slices.Clone of ints, nil let in. -/
theorem cloneInts (w : World) (v : Value) (xs : List Int) (hr : Rd w v 1 xs.length (xs.map (Value.int .i64))) (hlen : xs.length ≤ 1000000) :
    Calls Try.prog 20 #[v] w fun e w' => ∃ v', e = .returned v' ∧ w'.ownsRow w.heap.size 3 1 v' xs.length (xs.map (Value.int .i64)) ∧ Below w.heap.size w w' := by
  have hr0 := hr
  obtain ⟨hl, A, c, rfl, hc, _⟩ := hr0
  by_cases h0 : xs.length = 0
  · obtain rfl := List.eq_nil_of_length_eq_zero h0
    cases A with
    | none =>
      refine (Go.Proofs.Try.slices_Clone_int_nil 0 c w).mono ?_
      rintro e w' ⟨rfl, rfl⟩
      exact ⟨_, rfl, World.ownsRow_nil _ _ _ _, Below.refl _ _⟩
    | some a =>
      refine (Go.Proofs.Try.slices_Clone_int_zero a c w).mono ?_
      rintro e w' ⟨v', rfl, hown, _, hB⟩
      exact ⟨_, rfl, hown, hB⟩
  · obtain ⟨b, off, rfl, hb, hcell⟩ := hr.open1 (by omega)
    refine (Go.Proofs.Try.slices_Clone_int b off xs.length c xs w (Nat.le_refl _) (by omega) hcell).mono ?_
    rintro e w' ⟨v', rfl, hown, _, hB⟩
    rw [List.take_of_length_le (Nat.le_refl _)] at hown
    exact ⟨_, rfl, hown, hB⟩

/-- slices.Index of ints, nil let in. -/
theorem indexInts (w : World) (v : Value) (xs : List Int) (d : Int) (hr : Rd w v 1 xs.length (xs.map (Value.int .i64))) (hlen : xs.length ≤ 1000000) :
    Calls Try.prog 21 #[v, .int .i64 d] w fun e w' => e = .returned (.int .i64 (Lib.idxOf xs d)) ∧ w = w' := by
  have hr0 := hr
  obtain ⟨hl, A, c, rfl, hc, _⟩ := hr0
  by_cases h0 : xs.length = 0
  · obtain rfl := List.eq_nil_of_length_eq_zero h0
    refine (Go.Proofs.Try.slices_Index_int_empty A c d w).mono ?_
    rintro e w' ⟨rfl, rfl⟩
    exact ⟨rfl, rfl⟩
  · obtain ⟨b, off, rfl, hb, hcell⟩ := hr.open1 (by omega)
    refine (Go.Proofs.Try.slices_Index_int b off xs.length c xs d w (Nat.le_refl _) (by omega) hcell).mono ?_
    rintro e w' ⟨rfl, rfl⟩
    rw [List.take_of_length_le (Nat.le_refl _)]
    exact ⟨rfl, rfl⟩

/-- (*Stack).All -/
theorem all_any (w : World) (B : Nat) (xs : List Int) (h : StackAt w B xs) (hlen : xs.length ≤ 1000000) :
    Calls Try.prog 9 #[.pointer (some ⟨B, 0, none⟩)] w fun e w' => ∃ v', e = .returned v' ∧ w'.ownsRow w.heap.size 3 1 v' xs.length (xs.map (Value.int .i64)) ∧ Below w.heap.size w w' := by
  obtain ⟨v, hb, hr, hne⟩ := h
  have hr0 := hr
  obtain ⟨_, A, c, rfl, hc, _⟩ := hr0
  have hc0 := cell_of_one hb
  go_enter Try.func9, Try.ntmps9
  go_wp2_with fail
  refine (cloneInts w _ xs hr hlen).mono ?_
  rintro e w1 ⟨v1, rfl, hown, hB⟩
  obtain ⟨A1, c1, rfl, hc1⟩ := own_form hown
  go_wp2
  go_ret
  exact ⟨_, rfl, hown, hB⟩

theorem idxFrom_cases (d : Int) : ∀ (xs : List Int) (i : Nat), (Lib.idxFrom xs d i = -1 ∧ d ∉ xs) ∨ ∃ k, k < xs.length ∧ Lib.idxFrom xs d i = ((i + k : Nat) : Int) ∧ xs.getD k 0 = d ∧ ∀ j, j < k → xs.getD j 0 ≠ d
  | [], i => .inl ⟨rfl, by simp⟩
  | x :: xs, i => by
    by_cases hx : x = d
    · exact .inr ⟨0, by simp, by simp [Lib.idxFrom, hx], by simpa using hx, fun j hj => by omega⟩
    · rcases idxFrom_cases d xs (i + 1) with ⟨h1, h2⟩ | ⟨k, hk, h1, h2, h3⟩
      · exact .inl ⟨by simpa [Lib.idxFrom, hx] using h1, by simp [Ne.symm hx, h2]⟩
      · refine .inr ⟨k + 1, by simpa using hk, by simp only [Lib.idxFrom, if_neg hx, h1]; congr 1; omega, by simpa using h2, fun j hj => ?_⟩
        cases j with
        | zero => simpa using hx
        | succ j => simpa using h3 j (by omega)

theorem idx_cases (xs : List Int) (d : Int) : (Lib.idxOf xs d = -1 ∧ d ∉ xs) ∨ ∃ k, k < xs.length ∧ Lib.idxOf xs d = (k : Int) ∧ xs.getD k 0 = d ∧ ∀ j, j < k → xs.getD j 0 ≠ d := by
  have := idxFrom_cases d xs 0
  simpa [Lib.idxOf] using this

def nextL (xs : List Int) (d : Int) : Int := if 0 < Lib.idxOf xs d then xs.getD ((Lib.idxOf xs d).toNat - 1) 0 else xs.getLastD 0

/-- (*Stack).Next -/
theorem next_any (w : World) (B : Nat) (xs : List Int) (d : Int) (h : StackAt w B xs) (hlen : xs.length ≤ 1000000) :
    Calls Try.prog 11 #[.pointer (some ⟨B, 0, none⟩), .int .i64 d] w fun e w' => e = .returned (.int .i64 (nextL xs d)) ∧ ∃ q, w' = w.drewN q := by
  have hS := h
  obtain ⟨v, hb, hr, hne⟩ := h
  have hr0 := hr
  obtain ⟨_, A, c, rfl, hc, _⟩ := hr0
  have hc0 := cell_of_one hb
  obtain ⟨m, hm⟩ : ∃ m, m = Lib.idxOf xs d := ⟨_, rfl⟩
  have hN : nextL xs d = if 0 < m then xs.getD (m.toNat - 1) 0 else xs.getLastD 0 := by rw [hm]; rfl
  have HI := indexInts w _ xs d hr hlen
  rw [← hm] at HI
  have HC := idx_cases xs d
  rw [← hm] at HC
  obtain ⟨n, hn⟩ : ∃ n, n = xs.length := ⟨_, rfl⟩
  by_cases hi : 0 < m
  · obtain ⟨k, rfl⟩ : ∃ k : Nat, m = (k : Int) + 1 := ⟨(m - 1).toNat, by omega⟩
    have hk : k + 1 < n := by
      rcases HC with ⟨h1, _⟩ | ⟨j, hj, h1, _⟩ <;> omega
    obtain ⟨b, off, rfl, hb', hcell⟩ := hr.open1 (by omega)
    have hx := hcell k (by omega)
    have hN2 : nextL xs d = xs.getD k 0 := by rw [hN, if_pos hi]; congr 1
    obtain ⟨y, hy⟩ : ∃ y, y = xs.getD k 0 := ⟨_, rfl⟩
    rw [← hy] at hx hN2
    rw [hN2]
    have H := hide HI
    rw [← hn] at hlen hc hc0 H
    clear HI HC hN hN2 hy hcell hr hS hb hm hn
    go_enter Try.func11, Try.ntmps11
    go_wp2_with fail
    refine H.out.mono ?_
    rintro e w1 ⟨rfl, rfl⟩
    go_wp2
    go_ret
    exact ⟨rfl, 0, rfl⟩
  · rw [hN, if_neg hi]
    have H := hide HI
    have HT := stop_any w B xs hS hlen
    obtain ⟨y, hy⟩ : ∃ y, y = xs.getLastD 0 := ⟨_, rfl⟩
    rw [← hy] at HT ⊢
    have HT := hide HT
    clear HI HC hN hr hS hb hm hn hy
    go_enter Try.func11, Try.ntmps11
    go_wp2_with fail
    refine H.out.mono ?_
    rintro e w1 ⟨rfl, rfl⟩
    go_wp2_with fail
    refine HT.out.mono ?_
    rintro e w1 ⟨rfl, q, rfl⟩
    go_wp2
    go_ret
    exact ⟨rfl, _, rfl⟩
end Go.Proofs.Ytjhfcnkmfbpjmaa
