/-
  What a row's condition on two of the errors gives a walk: 'Err2'.
-/
import Derived.Test.YtjhfcnkmfbpjmaaDoorLaid
import Derived.Test.YtjhfcnkmfbpjmaaDoorTab
namespace Go.Proofs.YtjhfcnkmfbpjmaaDoor
open Go.RowKit

theorem errs2_of_laid {W : World} (h : laidMet Tryd.prog [("tableau/api.ErrArg", Rows.laid_tableau_api_ErrArg), ("tableau/api.ErrObject", Rows.laid_tableau_api_ErrObject)] W) : ∃ ae, Err2 W.heap.size W ae := by
  obtain ⟨a0, s0, c0, t0, h1, h2, h3, h4⟩ := laid_err 0 (by decide) h
  obtain ⟨a1, s1, c1, t1, k1, k2, k3, k4⟩ := laid_err 4 (by decide) (laidMet_drop 1 _ h)
  exact ⟨fun k => if k = 0 then a0 else a1, h1, k1, block_lt_of_cell h1, block_lt_of_cell k1⟩
end Go.Proofs.YtjhfcnkmfbpjmaaDoor
