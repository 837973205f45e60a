/-
  A slice of truths that came in, opened.
-/
import Derived.Test.YthkjicnnepkghaaDoorProg
import Derived.Test.YthkjicnnepkghaaDoorBase
import Derived.Deep.Slices
namespace Go.Proofs.YthkjicnnepkghaaDoor
open Go.RowKit Go.ChangeShapes Go.Deep

theorem bools_came {w : World} {a : Option Addr} {len cap : Nat} (h : CameIn Tryd.prog w 22 a len cap) :
    ∃ l : List Bool, l.length = len ∧ l.length ≤ 9223372036854775807 ∧ Rd w (.slice a len cap) 1 len (l.map Value.bool) := by
  obtain ⟨H, enc, d, p, fuel, hf⟩ := h
  rcases open_slice1 Tryd.underlying22 (by kernel_rfl) hf with ⟨hcs, _⟩ | ⟨x, l, c, m, n, V, D, Pl, hcs, _, hl, hm, hmm, _, hi⟩
  · simp [Value.cells] at hcs
    obtain ⟨rfl, rfl, rfl⟩ := hcs
    exact ⟨[], rfl, by simp, Rd.nil _ _⟩
  · simp [Value.cells] at hcs
    obtain ⟨rfl, rfl, rfl⟩ := hcs
    simp only [if_true] at hmm
    subst hmm
    obtain ⟨B, hB⟩ := choose_lt (α := Bool) (n := len) (p := fun i b => w.cell? (x.add i) = some (.bool b)) (fun i hil => by
      obtain ⟨h1, h2⟩ := hi i (by omega)
      obtain ⟨b, hb, _⟩ := DataW.trod_bool Tryd.underlying4 h2
      simp at hb
      exact ⟨b, by rw [h1, hb]⟩)
    have hlm : len ≤ 9223372036854775807 := by unfold maxLen at hm; omega
    refine ⟨(List.range len).map B, by simp, by simpa using hlm, ⟨by simp, some x, _, rfl, hl, fun hn => ?_⟩⟩
    have h0 := hB 0 hn
    have hx : x.spot = none := by
      cases hs : x.spot with
      | none => rfl
      | some s =>
        exfalso
        have : x.add 0 = x := by simp [Addr.add]
        rw [this] at h0
        unfold World.cell? at h0
        split at h0
        · simp [hs] at h0
        · cases h0
    obtain ⟨b, off, sp⟩ := x
    obtain rfl : sp = none := hx
    refine ⟨b, off, rfl, ?_, fun j u hu => ?_⟩
    · have := block_lt_of_cell h0
      rwa [addr_add] at this
    · have hj : j < len := by
        have := (List.getElem?_eq_some_iff.1 hu).1
        simpa using this
      have := hB j hj
      rw [addr_add] at this
      rw [this]
      simpa [hj] using hu
end Go.Proofs.YthkjicnnepkghaaDoor
