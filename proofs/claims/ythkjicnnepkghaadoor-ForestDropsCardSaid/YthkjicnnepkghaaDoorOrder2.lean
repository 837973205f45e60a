/-
  Contracts of order.Has, Above, Below.
-/
import Derived.Test.YthkjicnnepkghaaDoorInsert
import Derived.Test.YthkjicnnepkghaaDoorInts
import Derived.Test.YthkjicnnepkghaaDoorErrs
import Derived.Deep.QuietTactic
import Derived.BigQuiet
namespace Go.Proofs.YthkjicnnepkghaaDoor
open Go.RowKit

/-- Where a number is taken out, and put in again: k ahead of where 'by' stands. -/
def putL (xs : List Int) (id by' : Int) (k : Nat) : List Int :=
  (without xs id).take ((Lib.idxOf (without xs id) by').toNat + k) ++ id :: (without xs id).drop ((Lib.idxOf (without xs id) by').toNat + k)

theorem putL_eq (xs : List Int) (id by' : Int) (k : Nat) : putL xs id by' k = (without xs id).take ((Lib.idxOf (without xs id) by').toNat + k) ++ id :: (without xs id).drop ((Lib.idxOf (without xs id) by').toNat + k) := rfl
theorem mem_without {xs : List Int} {id x : Int} : x ∈ without xs id ↔ x ∈ xs ∧ x ≠ id := by simp [without]
theorem without_lt {xs : List Int} {id : Int} (h : id ∈ xs) : (without xs id).length + 1 ≤ xs.length := by
  unfold without
  have h1 : (xs.filter (· != id)).length ≤ xs.length := List.length_filter_le _ _
  rcases Nat.lt_or_ge (xs.filter (· != id)).length xs.length with h2 | h2
  · omega
  · have h3 := List.length_filter_eq_length_iff.1 (show (xs.filter (· != id)).length = xs.length by omega) id h
    simp at h3
theorem idx_mem {xs : List Int} {d : Int} (h : d ∈ xs) : 0 ≤ Lib.idxOf xs d ∧ (Lib.idxOf xs d).toNat < xs.length := by
  rcases idx_cases xs d with ⟨_, h2⟩ | ⟨k, hk, h1, _⟩
  · exact absurd h h2
  · omega

theorem oHas_any (w : World) (v : Value) (xs : List Int) (id : Int) (hr : Rd w v 1 xs.length (xs.map (Value.int .i64))) (hlen : xs.length ≤ 1000000) :
    Calls Tryd.prog 92 #[v, .int .i64 id] w fun e w' => e = .returned (.bool (decide (id ∈ xs))) ∧ w = w' := by
  have hr0 := hr
  obtain ⟨_, A, c, rfl, hc, _⟩ := hr0
  go_enter Tryd.func92, Tryd.ntmps92
  go_wp2_with fail
  refine (containsInts w _ xs id hr hlen).mono ?_
  rintro e w1 ⟨rfl, rfl⟩
  go_wp2
  go_ret
  exact ⟨rfl, rfl⟩

set_option maxRecDepth 100000 in
theorem beside_bad {B : Nat} (w : World) {ae : Nat → Addr} (hE : ErrF B w ae) (v : Value) (xs : List Int) (id by' k : Int) (hr : Rd w v 1 xs.length (xs.map (Value.int .i64))) (hlen : xs.length ≤ 1000000) (hb : id ∉ xs ∨ by' ∉ xs ∨ id = by') :
    Calls Tryd.prog 75 #[v, .int .i64 id, .int .i64 by', .int .i64 k] w fun e w' => e = .returned (.tuple #[.slice none 0 0, errV ae 11]) ∧ ∃ q, w' = w.drewN q := by
  have g10 : w.cell? ⟨4, 0, none⟩ = _ := hE.glob 10 (by decide)
  have H1 := oHas_any w v xs id hr hlen
  have H2 := oHas_any w v xs by' hr hlen
  have hr0 := hr
  obtain ⟨_, A, c, rfl, hc, _⟩ := hr0
  clear hr
  by_cases h1 : id ∈ xs
  · rw [decide_eq_true h1] at H1
    by_cases h2 : by' ∈ xs
    · rw [decide_eq_true h2] at H2
      have h3 : id = by' := by rcases hb with h | h | h; exact absurd h1 h; exact absurd h2 h; exact h
      have H1 := hide H1
      have H2 := hide H2
      clear hb h1 h2
      subst h3
      go_enter Tryd.func75, Tryd.ntmps75
      go_wp2_with fail
      refine H1.out.mono ?_
      rintro e w1 ⟨rfl, rfl⟩
      go_wp2_with fail
      refine H2.out.mono ?_
      rintro e w1 ⟨rfl, rfl⟩
      go_wp2
      go_quiet (fail)
      go_wp2
      go_ret2
      exact ⟨rfl, _, rfl⟩
    · rw [decide_eq_false h2] at H2
      have H1 := hide H1
      have H2 := hide H2
      clear hb h1 h2
      go_enter Tryd.func75, Tryd.ntmps75
      go_wp2_with fail
      refine H1.out.mono ?_
      rintro e w1 ⟨rfl, rfl⟩
      go_wp2_with fail
      refine H2.out.mono ?_
      rintro e w1 ⟨rfl, rfl⟩
      go_wp2
      go_quiet (fail)
      go_wp2
      go_ret2
      exact ⟨rfl, _, rfl⟩
  · rw [decide_eq_false h1] at H1
    have H1 := hide H1
    clear hb h1 H2
    go_enter Tryd.func75, Tryd.ntmps75
    go_wp2_with fail
    refine H1.out.mono ?_
    rintro e w1 ⟨rfl, rfl⟩
    go_wp2
    go_quiet (fail)
    go_wp2
    go_ret2
    exact ⟨rfl, _, rfl⟩

set_option maxRecDepth 100000 in
theorem beside_ok (w : World) (v : Value) (xs : List Int) (id by' : Int) (k : Nat) (hr : Rd w v 1 xs.length (xs.map (Value.int .i64))) (hlen : xs.length ≤ 1000000) (h1 : id ∈ xs) (h2 : by' ∈ xs) (h3 : id ≠ by') (hk : k ≤ 1) :
    Calls Tryd.prog 75 #[v, .int .i64 id, .int .i64 by', .int .i64 ((1 - k : Nat) : Int)] w fun e w' => ∃ v', e = .returned (.tuple #[v', .nilIface]) ∧ w'.ownsRow w.heap.size 3 1 v' (putL xs id by' k).length ((putL xs id by' k).map (Value.int .i64)) ∧ Below w.heap.size w w' := by
  obtain ⟨q, hq, hq1⟩ : ∃ q : Int, q = ((1 - k : Nat) : Int) ∧ q = 1 - (k : Int) := ⟨_, rfl, by omega⟩
  rw [← hq]
  clear hq
  have H1 := oHas_any w v xs id hr hlen
  have H2 := oHas_any w v xs by' hr hlen
  have H3 := drop_at w v xs id hr hlen
  have hm : by' ∈ without xs id := mem_without.2 ⟨h2, fun e => h3 e.symm⟩
  obtain ⟨i1, i2⟩ := idx_mem hm
  have hlt := without_lt h1
  have hP := putL_eq xs id by' k
  have hr0 := hr
  obtain ⟨_, A, c, rfl, hc, _⟩ := hr0
  rw [decide_eq_true h1] at H1
  rw [decide_eq_true h2] at H2
  obtain ⟨n, hn⟩ : ∃ n, n = xs.length := ⟨_, rfl⟩
  rw [← hn] at H1 H2 H3 hc hlt hlen ⊢
  obtain ⟨R, hR⟩ : ∃ R, R = putL xs id by' k := ⟨_, rfl⟩
  rw [← hR] at hP ⊢
  clear hR hn hr
  obtain ⟨ys, hys⟩ : ∃ ys, ys = without xs id := ⟨_, rfl⟩
  rw [← hys] at H3 hm i1 i2 hlt hP
  clear hys h1 h2
  obtain ⟨i, hi⟩ : ∃ i : Nat, Lib.idxOf ys by' = (i : Int) := ⟨_, (Int.toNat_of_nonneg i1).symm⟩
  rw [hi] at hP i2
  have i2 : i < ys.length := by simpa using i2
  have hb3 : (id == by') = false := by simpa using h3
  clear i1 hm
  simp only [Int.toNat_natCast] at hP
  have H1 := hide H1
  have H2 := hide H2
  have H3 := hide H3
  have Hi := hide hi
  have HP := hide hP
  clear hi hP
  go_enter Tryd.func75, Tryd.ntmps75
  go_wp2_with fail
  refine H1.out.mono ?_
  rintro e w1 ⟨rfl, rfl⟩
  go_wp2_with fail
  refine H2.out.mono ?_
  rintro e w1 ⟨rfl, rfl⟩
  go_wp2_with fail
  refine H3.out.mono ?_
  rintro e w1 ⟨rfl, P, hB⟩
  have hgs : w.heap.size < w1.heap.size := by obtain ⟨cur, _, h, _⟩ := P.ex; exact lt_of_block h
  have hown := P.own (base := w.heap.size) (Nat.le_refl _) (by omega) (by unfold maxLen; omega)
  have HI := indexInts w1 _ ys by' (Rd.of_own hown) (by omega)
  rw [Hi.out] at HI
  have HI := hide HI
  have P0 := hide P
  clear hown P
  go_wp2_with fail
  refine HI.out.mono ?_
  rintro e w2 ⟨rfl, rfl⟩
  have P1 : Part (w1.alloc (.cells #[.int .i64 id] 3)) w.heap.size n ys := by
    obtain ⟨cur, a1, a2, a3⟩ := P0.out.ex
    exact ⟨cur, a1, (Below.heap_alloc _ _ _ hgs).trans a2, a3⟩
  have HN := insertInts (w1.alloc (.cells #[.int .i64 id] 3)) w.heap.size n ys id (i + k) w1.heap.size P1 (by omega) hlt hlen (by omega) (heap_alloc_new _ _)
  have HN := hide HN
  clear P1 P0
  go_wp2_with fail
  rw [show (i : Int) + 1 - (1 - (k : Int)) = ((i + k : Nat) : Int) by omega]
  refine HN.out.mono ?_
  rintro e w3 ⟨rfl, P3, hB3⟩
  rw [← HP.out] at P3
  have hRl : R.length = ys.length + 1 := by rw [HP.out]; simp; omega
  have hown := P3.own (base := w.heap.size) (Nat.le_refl _) (by omega) (by unfold maxLen; omega)
  rw [hRl] at hown
  have hown := hide hown
  have hB4 := (hB.alloc hB.size (.cells #[.int .i64 id] 3)).trans hB3
  clear P3 hB3
  go_wp2
  go_ret2
  exact ⟨_, rfl, by rw [hRl]; exact hown.out, hB4⟩


theorem below_bad {B : Nat} (w : World) {ae : Nat → Addr} (hE : ErrF B w ae) (v : Value) (xs : List Int) (id by' : Int) (hr : Rd w v 1 xs.length (xs.map (Value.int .i64))) (hlen : xs.length ≤ 1000000) (hb : id ∉ xs ∨ by' ∉ xs ∨ id = by') :
    Calls Tryd.prog 57 #[v, .int .i64 id, .int .i64 by'] w fun e w' => e = .returned (.tuple #[.slice none 0 0, errV ae 11]) ∧ ∃ q, w' = w.drewN q := by
  have H := hide (beside_bad w hE v xs id by' 1 hr hlen hb)
  obtain ⟨_, A, c, rfl, hc, _⟩ := hr
  go_enter Tryd.func57, Tryd.ntmps57
  go_wp2_with fail
  refine H.out.mono ?_
  rintro e w1 ⟨rfl, q, rfl⟩
  go_wp2
  go_ret2
  exact ⟨rfl, _, rfl⟩

theorem below_ok (w : World) (v : Value) (xs : List Int) (id by' : Int) (hr : Rd w v 1 xs.length (xs.map (Value.int .i64))) (hlen : xs.length ≤ 1000000) (h1 : id ∈ xs) (h2 : by' ∈ xs) (h3 : id ≠ by') :
    Calls Tryd.prog 57 #[v, .int .i64 id, .int .i64 by'] w fun e w' => ∃ v', e = .returned (.tuple #[v', .nilIface]) ∧ w'.ownsRow w.heap.size 3 1 v' (putL xs id by' 0).length ((putL xs id by' 0).map (Value.int .i64)) ∧ Below w.heap.size w w' := by
  have H := hide (beside_ok w v xs id by' 0 hr hlen h1 h2 h3 (by omega))
  obtain ⟨_, A, c, rfl, hc, _⟩ := hr
  go_enter Tryd.func57, Tryd.ntmps57
  go_wp2_with fail
  refine H.out.mono ?_
  rintro e w1 ⟨v1, rfl, hown, hB⟩
  obtain ⟨A1, c1, rfl, hc1⟩ := own_form hown
  have hown := hide hown
  go_wp2
  go_ret2
  exact ⟨_, rfl, hown.out, hB⟩
end Go.Proofs.YthkjicnnepkghaaDoor
