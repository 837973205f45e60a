/-
  Contracts of the laws' own helpers (tableaulaw00): Place, SameInts.
-/
import Derived.Test.YthkjicnnepkghaaDoorProg
import Derived.Test.YthkjicnnepkghaaDoorBase
import Derived.Deep.QuietTactic
import Derived.BigQuiet
namespace Go.Proofs.YthkjicnnepkghaaDoor
open Go.RowKit

theorem place_any (v n : Int) (w : World) (hn : 0 < n) (hn' : n ≤ 9223372036854775807) : Calls Tryd.prog 12 #[.int .i64 v, .int .i64 n] w fun e w' => e = .returned (.int .i64 (v % n)) ∧ w = w' := by
  have h1 := Int.emod_nonneg v (show n ≠ 0 by omega)
  have h2 := Int.emod_lt_of_pos v hn
  have h0 : v.tmod n = v % n ∨ v.tmod n = v % n - n := by
    rw [Int.tmod_eq_emod]; split
    · left; omega
    · right; omega
  have h5 : -n < v.tmod n ∧ v.tmod n < n := by
    rcases h0 with h | h
    · omega
    · have h6 : v.tmod n ≠ -n := fun h7 => by
        have h8 : v.tmod n = 0 := by
          have : v % n = 0 := by omega
          exact Int.tmod_eq_zero_of_dvd (Int.dvd_of_emod_eq_zero this)
        omega
      omega
  have h3 : v.tmod n < 0 → v % n = v.tmod n + n := fun h => by omega
  have h4 : 0 ≤ v.tmod n → v % n = v.tmod n := fun h => by omega
  obtain ⟨h6, h7⟩ := h5
  clear h0
  have H3 := hide h3
  have H4 := hide h4
  clear h3 h4
  go_enter Tryd.func12, Tryd.ntmps12
  go_wp2
  · have h : v.tmod n < 0 := by assumption
    go_ret
    exact ⟨ret_int (H3.out h).symm, rfl⟩
  · have h : 0 ≤ v.tmod n := by assumption
    go_ret
    exact ⟨ret_int (H4.out h).symm, rfl⟩

/-- SameInts: the same numbers? -/
theorem sameInts_any (w : World) (v u : Value) (xs ys : List Int) (hx : Rd w v 1 xs.length (xs.map (Value.int .i64))) (hy : Rd w u 1 ys.length (ys.map (Value.int .i64))) (hlx : xs.length ≤ 1000000000) :
    Calls Tryd.prog 45 #[v, u] w fun e w' => e = .returned (.bool (decide (xs = ys))) ∧ ∃ q, w' = w.drewN q := by
  have hx0 := hx
  have hy0 := hy
  obtain ⟨_, A, c, rfl, hc, _⟩ := hx0
  obtain ⟨_, D, d, rfl, hd, _⟩ := hy0
  by_cases hl : xs.length = ys.length
  · obtain ⟨n, hn⟩ : ∃ n, n = xs.length := ⟨_, rfl⟩
    rw [← hl] at hy hd ⊢
    rw [← hn] at hx hy hlx hc hd ⊢
    have hb : ((n : Int) != (n : Int)) = false := by simp
    have Hn := hide hn
    have Hl := hide hl
    clear hn hl
    go_enter Tryd.func45, Tryd.ntmps45
    go_wp2
    go_loopw [5] (fun i wr => ∃ k : Nat, k ≤ n ∧ i = .int .i64 k ∧ Hid (xs.take k = ys.take k) ∧ ∃ q, wr = w.drewN q)
      (fun i _ => n - (intOf i).toNat)
    case atStart => exact ⟨0, Nat.zero_le _, rfl, rfl, 0, rfl⟩
    case round =>
      obtain ⟨k, hk, rfl, E, q, rfl⟩ := hrel
      by_cases hlt : k < n
      · obtain ⟨b, off, rfl, hb1, hcx⟩ := hx.open1 (by omega)
        obtain ⟨b2, off2, rfl, hb2, hcy⟩ := hy.open1 (by omega)
        have kx := hcx k hlt
        have ky := hcy k hlt
        have hkx : k < xs.length := by rw [← Hn.out]; exact hlt
        have hky : k < ys.length := by rw [← Hl.out]; exact hkx
        have ex : xs.getD k 0 = xs[k] := by simp [List.getD, hkx]
        have ey : ys.getD k 0 = ys[k] := by simp [List.getD, hky]
        have tx := List.take_succ_eq_append_getElem hkx
        have ty := List.take_succ_eq_append_getElem hky
        rw [← ex] at tx
        rw [← ey] at ty
        have Tx := hide tx
        have Ty := hide ty
        have hgo : xs.getD k 0 = ys.getD k 0 → xs.take (k + 1) = ys.take (k + 1) := fun h => by rw [Tx.out, Ty.out, E.out, h]
        have hout : ¬ xs.getD k 0 = ys.getD k 0 → ¬ xs = ys := fun h e => h (by rw [e])
        have Hgo := hide hgo
        have Hout := hide hout
        clear hgo hout tx ty Tx Ty ex ey hcx hcy hkx hky hb1 hb2
        obtain ⟨x, hxe⟩ : ∃ x, x = xs.getD k 0 := ⟨_, rfl⟩
        obtain ⟨y, hye⟩ : ∃ y, y = ys.getD k 0 := ⟨_, rfl⟩
        rw [← hxe] at kx Hgo Hout
        rw [← hye] at ky Hgo Hout
        clear hxe hye hx hy
        by_cases hxy : x = y
        · have hbb : (x != y) = false := by simpa using hxy
          go_wp2
          go_quiet (fail)
          all_goals go_wp2
          go_roundw
          case rel => exact ⟨k + 1, by omega, by go_num, Hgo.out hxy, _, rfl⟩
          case measure => simp [intOf]; omega
        · have hbb : (x != y) = true := by simpa using hxy
          go_wp2
          go_quiet (fail)
          all_goals go_wp2
          go_ret
          exact ⟨by simp [Hout.out hxy], _, World.drewN_drewN _ _ _⟩
      · obtain rfl : k = n := by omega
        have heq : xs = ys := by
          have := E.out
          rwa [List.take_of_length_le (by rw [← Hn.out]; exact Nat.le_refl _), List.take_of_length_le (by rw [← Hl.out, ← Hn.out]; exact Nat.le_refl _)] at this
        have Heq := hide heq
        clear heq
        go_wp2
        go_ret
        exact ⟨by simp [Heq.out], _, rfl⟩
  · have hne : ¬ xs = ys := fun h => hl (by rw [h])
    have hb : ((xs.length : Int) != (ys.length : Int)) = true := by simp; omega
    go_enter Tryd.func45, Tryd.ntmps45
    go_wp2
    go_ret
    exact ⟨by simp [hne], 0, rfl⟩

theorem sameInts_true (w : World) (v u : Value) (xs : List Int) (hx : Rd w v 1 xs.length (xs.map (Value.int .i64))) (hy : Rd w u 1 xs.length (xs.map (Value.int .i64))) (hlx : xs.length ≤ 1000000000) :
    Calls Tryd.prog 45 #[v, u] w fun e w' => e = .returned (.bool true) ∧ ∃ q, w' = w.drewN q :=
  (sameInts_any w v u xs xs hx hy hlx).mono fun _ _ ⟨he, hw⟩ => ⟨by rw [he, decide_eq_true rfl], hw⟩
end Go.Proofs.YthkjicnnepkghaaDoor
