/-
  What a row's condition on five of the errors gives a walk: 'ErrF'.
-/
import Derived.Test.YthkjicnnepkghaaDoorLaid
namespace Go.Proofs.YthkjicnnepkghaaDoor
open Go.RowKit

theorem errs5_of_laid {W : World} (h : laidMet Tryd.prog [("tableau/api.ErrArg", Rows.laid_tableau_api_ErrArg), ("tableau/api.ErrBig", Rows.laid_tableau_api_ErrBig), ("tableau/api.ErrObject", Rows.laid_tableau_api_ErrObject), ("tableau/api.ErrRole", Rows.laid_tableau_api_ErrRole), ("tableau/api.ErrPlace", Rows.laid_tableau_api_ErrPlace)] W) : ∃ ae, ErrF W.heap.size W ae := by
  obtain ⟨a0, s0, c0, t0, h1, _⟩ := laid_err 0 (by decide) h
  obtain ⟨a1, s1, c1, t1, h2, _⟩ := laid_err 3 (by decide) (laidMet_drop 1 _ h)
  obtain ⟨a2, s2, c2, t2, h3, _⟩ := laid_err 4 (by decide) (laidMet_drop 2 _ h)
  obtain ⟨a3, s3, c3, t3, h4, _⟩ := laid_err 9 (by decide) (laidMet_drop 3 _ h)
  obtain ⟨a4, s4, c4, t4, h5, _⟩ := laid_err 10 (by decide) (laidMet_drop 4 _ h)
  have key : ∀ k, fiveK k = true → k = 0 ∨ k = 3 ∨ k = 4 ∨ k = 9 ∨ k = 10 := fun k hk => by
    simp only [fiveK, Bool.or_eq_true, beq_iff_eq] at hk
    omega
  refine ⟨fun k => if k = 0 then a0 else if k = 3 then a1 else if k = 4 then a2 else if k = 9 then a3 else a4, fun k hk => ?_, fun k hk => ?_⟩
  · rcases key k hk with rfl | rfl | rfl | rfl | rfl
    · exact h1
    · exact h2
    · exact h3
    · exact h4
    · exact h5
  · rcases key k hk with rfl | rfl | rfl | rfl | rfl
    · exact block_lt_of_cell h1
    · exact block_lt_of_cell h2
    · exact block_lt_of_cell h3
    · exact block_lt_of_cell h4
    · exact block_lt_of_cell h5
end Go.Proofs.YthkjicnnepkghaaDoor
