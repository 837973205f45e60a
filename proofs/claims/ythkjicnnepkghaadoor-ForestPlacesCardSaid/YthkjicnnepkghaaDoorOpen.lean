/-
  A slice of ints that came in, opened.
-/
import Derived.Test.YthkjicnnepkghaaDoorProg
import Derived.Test.YthkjicnnepkghaaDoorBase
import Derived.ChangeSlices
namespace Go.Proofs.YthkjicnnepkghaaDoor
open Go.RowKit Go.ChangeShapes

theorem ints_came {w : World} {a : Option Addr} {len cap : Nat} (h : CameIn Tryd.prog w 29 a len cap) :
    ∃ l : List Int, l.length = len ∧ l.length ≤ 9223372036854775807 ∧ (∀ x ∈ l, I64 x) ∧ Rd w (.slice a len cap) 1 len (l.map (Value.int .i64)) := by
  obtain ⟨H, enc, d, p, fuel, hf⟩ := h
  have key : ∃ zs : List Int, (a = none ∧ len = 0 ∧ cap = 0 ∧ zs = []) ∨ ∃ x, a = some x ∧ len ≤ cap ∧ cap ≤ maxLen ∧ zs.length = cap ∧ (∀ i, i < zs.length → w.cell? (x.add i) = some (.int .i64 (zs.getD i 0))) ∧ ∀ n ∈ zs, (Lit.int .i64 n).wf = true := by
    rcases open_ints Tryd.underlying29 Tryd.underlying3 (by kernel_rfl) hf with ⟨hcs, _⟩ | ⟨x, l, c, zs, hcs, _, hl, hm, hz, _, hcell, hwz⟩
    · simp [Value.cells] at hcs
      obtain ⟨rfl, rfl, rfl⟩ := hcs
      exact ⟨[], .inl ⟨rfl, rfl, rfl, rfl⟩⟩
    · simp [Value.cells] at hcs
      obtain ⟨rfl, rfl, rfl⟩ := hcs
      exact ⟨zs, .inr ⟨_, rfl, hl, hm, by simpa using hz, hcell, hwz⟩⟩
  obtain ⟨zs, hz⟩ := key
  obtain ⟨l, h1, h2, h3, h4, _⟩ := rd_row hz
  exact ⟨l, h1, h2, h3, h4⟩
end Go.Proofs.YthkjicnnepkghaaDoor
