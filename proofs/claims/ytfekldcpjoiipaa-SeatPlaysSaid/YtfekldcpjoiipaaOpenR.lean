/-
  Rectangles that came in, opened.
-/
import Derived.Test.YtfekldcpjoiipaaOpenS
import Derived.Test.YtfekldcpjoiipaaTakes
namespace Go.Proofs.Ytfekldcpjoiipaa
open Go.RowKit

theorem rects_came {w : World} {a : Option Addr} {len cap : Nat} (h : CameIn Try.prog w 22 a len cap) :
    ∃ l : List Rect, l.length = len ∧ (∀ r ∈ l, r.good) ∧ RdR w (.slice a len cap) l := by
  obtain ⟨L, h1, h2, h3, h4⟩ := structs_came h Try.underlying22 Try.underlying26 (by kernel_rfl) (by kernel_rfl) (by decide)
  obtain ⟨l, rfl, hg⟩ := all_enc (enc := Rect.enc) (good := Rect.good) L fun r hr => by
    obtain ⟨hlen, hf⟩ := h4 r hr
    obtain ⟨v0, e0, r0⟩ := hf 0 _ rfl
    obtain ⟨v1, e1, r1⟩ := hf 1 _ rfl
    obtain ⟨v2, e2, r2⟩ := hf 2 _ rfl
    obtain ⟨v3, e3, r3⟩ := hf 3 _ rfl
    obtain ⟨x0, rfl, b0⟩ := reads_int r0 Try.underlying3
    obtain ⟨x1, rfl, b1⟩ := reads_int r1 Try.underlying3
    obtain ⟨x2, rfl, b2⟩ := reads_int r2 Try.underlying3
    obtain ⟨x3, rfl, b3⟩ := reads_int r3 Try.underlying3
    refine ⟨⟨x0, x1, x2, x3⟩, ?_, b0, b1, b2, b3⟩
    match r, hlen with
    | [y0, y1, y2, y3], _ =>
      simp at e0 e1 e2 e3
      subst e0 e1 e2 e3
      rfl
  have hl : l.length = len := by simpa using h1
  refine ⟨l, hl, hg, ?_⟩
  unfold RdR
  rw [hl, List.flatMap_def]
  exact h3
end Go.Proofs.Ytfekldcpjoiipaa
