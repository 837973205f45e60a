/-
  What the notes of a move, of a look tell: who is entered, who is left.
-/
import Derived.Test.YtfekldcpjoiipaaSeat
namespace Go.Proofs.Ytfekldcpjoiipaa

/-- Who has the pointer behind a note. -/
def inStep (c : Int) (z : Note) : Int := if z.k = 1 then z.s else if z.k = 2 then 0 else c
def inF (c : Int) (N : List Note) : Int := N.foldl inStep c
def okStep (mv : Bool) (c : Int) (z : Note) : Prop := (z.k = 1 ∧ c = 0 ∧ z.s ≠ 0) ∨ (z.k = 2 ∧ c = z.s ∧ c ≠ 0) ∨ (z.k = 3 ∧ c = z.s ∧ mv = true)
def okN (mv : Bool) : Int → List Note → Prop
  | _, [] => True
  | c, z :: N => okStep mv c z ∧ okN mv (inStep c z) N
theorem okN_at {mv : Bool} : ∀ {c : Int} {N : List Note} (_ : okN mv c N) {q : Nat} (_ : q < N.length), okStep mv (inF c (N.take q)) (N.getD q default)
  | c, [], _, q, hq => by simp at hq
  | c, z :: N, h, 0, _ => h.1
  | c, z :: N, h, q + 1, hq => by
    have := okN_at h.2 (q := q) (by simpa using hq)
    simpa [inF] using this
theorem inF_take {c : Int} {N : List Note} {q : Nat} (hq : q < N.length) : inF c (N.take (q + 1)) = inStep (inF c (N.take q)) (N.getD q default) := by
  unfold inF
  rw [List.take_succ_eq_append_getElem hq, List.foldl_append]
  simp [List.getD, hq]
theorem inF_all {c : Int} {N : List Note} : inF c (N.take N.length) = inF c N := by rw [List.take_length]
theorem okN_turn (mv : Bool) (k id x y : Int) : okN mv k (turnN k id x y) ∧ inF k (turnN k id x y) = id := by
  unfold turnN
  by_cases hk : k = 0 <;> by_cases hi : id = 0 <;> simp [hk, hi, okN, okStep, inF, inStep]
theorem okN_move (L : List Hit) (x y k : Int) : okN true k (moveN L x y k) ∧ inF k (moveN L x y k) = (atH L x y).1 := by
  unfold moveN
  by_cases h : (atH L x y).1 = k
  · rw [if_pos h, h]
    by_cases hk : k = 0
    · simp [hk, okN, inF]
    · simp [hk, okN, okStep, inF, inStep]
  · rw [if_neg h]
    exact okN_turn true _ _ _ _
theorem okN_look (L : List Hit) (x y k : Int) : okN false k (lookN L x y k) ∧ inF k (lookN L x y k) = (atH L x y).1 := by
  unfold lookN
  by_cases h : (atH L x y).1 = k
  · rw [if_pos h, h]
    simp [okN, inF]
  · rw [if_neg h]
    exact okN_turn false _ _ _ _
theorem moveN_len (L : List Hit) (x y k : Int) : (moveN L x y k).length ≤ 2 := by
  unfold moveN turnN
  split
  · split <;> simp
  · split <;> split <;> simp
theorem lookN_len (L : List Hit) (x y k : Int) : (lookN L x y k).length ≤ 2 := by
  unfold lookN turnN
  split
  · simp
  · split <;> split <;> simp
end Go.Proofs.Ytfekldcpjoiipaa
