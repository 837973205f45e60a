/-
  What is seen with a surface, as plain data.
-/
import Derived.Test.YthkjicnnepkghaaGreatDoorPkFFit
namespace Go.Proofs.YthkjicnnepkghaaGreatDoor
open Go.RowKit
set_option linter.unusedVariables false

def atP (l : List Ch) (k : Int) : Ch := (findP l k).getD default
def moveC (d c : Ch) : Ch := ⟨c.id, wrap64 (c.x + d.x), wrap64 (c.y + d.y)⟩
def walkStep (rec : Int → List Ch) (id : Int) (l : List Ch) (x : Int) : List Ch := if x = 0 then [⟨id, 0, 0⟩] else (rec x).map (moveC (atP l x))
def walkT (M : Fo) : Nat → Int → List Ch
  | 0, _ => []
  | k + 1, id => match M id with
    | none => []
    | some s => if s.cu.buffer = 0 then [] else s.cu.order.flatMap (walkStep (walkT M k) id s.cu.places)
theorem walkT_none {M : Fo} {id : Int} (k : Nat) (h : M id = none) : walkT M k id = [] := by
  cases k with
  | zero => rfl
  | succ k => unfold walkT; rw [h]
theorem walkT_zero {M : Fo} {id : Int} {s : Sf} (k : Nat) (h : M id = some s) (hb : s.cu.buffer = 0) : walkT M k id = [] := by
  cases k with
  | zero => rfl
  | succ k => unfold walkT; rw [h]; dsimp only; rw [if_pos hb]
theorem walkT_some {M : Fo} {id : Int} {s : Sf} (k : Nat) (h : M id = some s) (hb : s.cu.buffer ≠ 0) : walkT M (k + 1) id = s.cu.order.flatMap (walkStep (walkT M k) id s.cu.places) := by
  show (match M id with | none => [] | some s => if s.cu.buffer = 0 then [] else s.cu.order.flatMap (walkStep (walkT M k) id s.cu.places)) = _
  rw [h]; dsimp only; rw [if_neg hb]
theorem flatMap_take {α β : Type} [Inhabited α] (f : α → List β) (L : List α) {j : Nat} (hj : j < L.length) : (L.take (j + 1)).flatMap f = (L.take j).flatMap f ++ f (L.getD j default) := by
  rw [List.take_add_one, List.flatMap_append, List.getElem?_eq_getElem hj]
  simp [List.getD, hj]
theorem flatMap_le {α β : Type} (f : α → List β) (L : List α) (j : Nat) : ((L.take j).flatMap f).length ≤ (L.flatMap f).length := by
  conv => rhs; rw [← List.take_append_drop j L, List.flatMap_append, List.length_append]
  omega
theorem flatMap_mem_le {α β : Type} [Inhabited α] (f : α → List β) (L : List α) {j : Nat} (hj : j < L.length) : ((L.take j).flatMap f).length + (f (L.getD j default)).length ≤ (L.flatMap f).length := by
  have h1 := flatMap_le f L (j + 1)
  rw [flatMap_take f L hj, List.length_append] at h1
  exact h1
theorem map_take {α β : Type} [Inhabited α] (f : α → β) (L : List α) {j : Nat} (hj : j < L.length) : (L.take (j + 1)).map f = (L.take j).map f ++ [f (L.getD j default)] := by
  rw [List.take_add_one, List.map_append, List.getElem?_eq_getElem hj]
  simp [List.getD, hj]
end Go.Proofs.YthkjicnnepkghaaGreatDoor
