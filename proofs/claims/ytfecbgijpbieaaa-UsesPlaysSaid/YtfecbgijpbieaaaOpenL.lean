/-
  A slice of slices of ints that came in, opened.
-/
import Derived.Test.YtfecbgijpbieaaaOpen
import Derived.Test.YtfecbgijpbieaaaOpenS
namespace Go.Proofs.Ytfecbgijpbieaaa
open Go.RowKit Go.ChangeShapes Go.Deep

/-- A slice of ints: its address, its spare, its numbers. -/
structure IRow where
  A : Option Addr
  c : Nat
  l : List Int
instance : Inhabited IRow := ⟨⟨none, 0, []⟩⟩
def IRow.val (r : IRow) : Value := .slice r.A r.l.length r.c
def IRow.good (w : World) (r : IRow) : Prop := Rd w r.val 1 r.l.length (r.l.map (Value.int .i64)) ∧ (∀ x ∈ r.l, I64 x) ∧ r.l.length ≤ 9223372036854775807

theorem lists_came {w : World} {a : Option Addr} {len cap : Nat} (h : CameIn Try.prog w 31 a len cap) :
    ∃ l : List IRow, l.length = len ∧ l.length ≤ 9223372036854775807 ∧ Rd w (.slice a len cap) 1 len (l.map IRow.val) ∧ ∀ r ∈ l, r.good w := by
  obtain ⟨H, enc, d, p, fuel, hf⟩ := h
  rcases open_slice1 Try.underlying31 (by kernel_rfl) hf with ⟨hcs, _⟩ | ⟨x, l, c, m, n, V, D, Pl, hcs, _, hl, hm, hmm, _, hi⟩
  · simp [Value.cells] at hcs
    obtain ⟨rfl, rfl, rfl⟩ := hcs
    exact ⟨[], rfl, by simp, Rd.nil _ _, by simp⟩
  · simp [Value.cells] at hcs
    obtain ⟨rfl, rfl, rfl⟩ := hcs
    simp only [if_true] at hmm
    subst hmm
    obtain ⟨R, hR⟩ := choose_lt (α := IRow) (n := len) (p := fun i r => w.cell? (x.add i) = some r.val ∧ r.good w) (fun i hil => by
      obtain ⟨h1, h2⟩ := hi i (by omega)
      have hv : ∃ A k c, V i = .slice A k c := by
        rcases open_ints Try.underlying23 Try.underlying3 (by kernel_rfl) h2 with ⟨hcs, _⟩ | ⟨y, l, c, zs, hcs, _⟩
        · simp at hcs; exact ⟨none, 0, 0, hcs⟩
        · simp at hcs; exact ⟨_, _, _, hcs⟩
      obtain ⟨A, k, c, hv⟩ := hv
      rw [hv] at h1 h2
      obtain ⟨l, e1, e2, e3, e4⟩ := ints_came (w := w) (a := A) (len := k) (cap := c) ⟨H, enc, D i, Pl i, n, by simpa [Value.cells] using h2⟩
      refine ⟨⟨A, c, l⟩, by rw [h1]; simp [IRow.val, e1], ?_, e3, e2⟩
      unfold IRow.val
      dsimp only
      rw [e1]
      exact e4)
    have hlm : len ≤ 9223372036854775807 := by unfold maxLen at hm; omega
    refine ⟨(List.range len).map R, by simp, by simpa using hlm, ⟨by simp, some x, _, rfl, hl, fun hn => ?_⟩, fun r hr => ?_⟩
    · have h0 := (hR 0 hn).1
      have hx : x.spot = none := by
        cases hs : x.spot with
        | none => rfl
        | some s =>
          exfalso
          have : x.add 0 = x := by simp [Addr.add]
          rw [this] at h0
          unfold World.cell? at h0
          split at h0
          · simp [hs] at h0
          · cases h0
      obtain ⟨b, off, sp⟩ := x
      obtain rfl : sp = none := hx
      refine ⟨b, off, rfl, ?_, fun j u hu => ?_⟩
      · have := block_lt_of_cell h0
        rwa [addr_add] at this
      · have hj : j < len := by
          have := (List.getElem?_eq_some_iff.1 hu).1
          simpa using this
        have := (hR j hj).1
        rw [addr_add] at this
        rw [this]
        simpa [hj] using hu
    · obtain ⟨i, hi, rfl⟩ := List.mem_map.1 hr
      exact (hR i (by simpa using hi)).2
end Go.Proofs.Ytfecbgijpbieaaa
