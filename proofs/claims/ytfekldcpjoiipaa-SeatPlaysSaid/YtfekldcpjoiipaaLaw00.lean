/-
  Contracts of the laws' own helpers (tableaulaw00): Place, SameInts.
-/
import Derived.Test.YtfekldcpjoiipaaProg
import Derived.Test.YtfekldcpjoiipaaBase
import Derived.Deep.QuietTactic
import Derived.BigQuiet
namespace Go.Proofs.Ytfekldcpjoiipaa
open Go.RowKit

theorem place_any (v n : Int) (w : World) (hn : 0 < n) (hn' : n ≤ 9223372036854775807) : Calls Try.prog 7 #[.int .i64 v, .int .i64 n] w fun e w' => e = .returned (.int .i64 (v % n)) ∧ w = w' := by
  have h1 := Int.emod_nonneg v (show n ≠ 0 by omega)
  have h2 := Int.emod_lt_of_pos v hn
  have h0 : v.tmod n = v % n ∨ v.tmod n = v % n - n := by
    rw [Int.tmod_eq_emod]; split
    · left; omega
    · right; omega
  have h5 : -n < v.tmod n ∧ v.tmod n < n := by
    rcases h0 with h | h
    · omega
    · have h6 : v.tmod n ≠ -n := fun h7 => by
        have h8 : v.tmod n = 0 := by
          have : v % n = 0 := by omega
          exact Int.tmod_eq_zero_of_dvd (Int.dvd_of_emod_eq_zero this)
        omega
      omega
  have h3 : v.tmod n < 0 → v % n = v.tmod n + n := fun h => by omega
  have h4 : 0 ≤ v.tmod n → v % n = v.tmod n := fun h => by omega
  obtain ⟨h6, h7⟩ := h5
  clear h0
  have H3 := hide h3
  have H4 := hide h4
  clear h3 h4
  go_enter Try.func7, Try.ntmps7
  go_wp2
  · have h : v.tmod n < 0 := by assumption
    go_ret
    exact ⟨ret_int (H3.out h).symm, rfl⟩
  · have h : 0 ≤ v.tmod n := by assumption
    go_ret
    exact ⟨ret_int (H4.out h).symm, rfl⟩

end Go.Proofs.Ytfekldcpjoiipaa
