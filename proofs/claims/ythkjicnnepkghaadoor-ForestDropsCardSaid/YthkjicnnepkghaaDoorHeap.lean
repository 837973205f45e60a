/-
  What a call may turn: the blocks of a footprint, and new ones.
-/
import Derived.Test.YthkjicnnepkghaaDoorBase
namespace Go.Proofs.YthkjicnnepkghaaDoor
open Go.RowKit

/-- From w to w' no block of w has turned but those of F. -/
structure Chg (F : Nat → Prop) (w w' : World) : Prop where
  os : w'.os = w.os
  tape : w'.tape = w.tape
  output : w'.output = w.output
  size : w.heap.size ≤ w'.heap.size
  block : ∀ b, b < w.heap.size → ¬ F b → w'.heap[b]? = w.heap[b]?

section
variable {F F' G G' : Nat → Prop} {w w' w'' : World} {B : Nat}

/-- F' has grown out of F by new blocks alone. -/
def Ext (F F' : Nat → Prop) (n : Nat) : Prop := ∀ b, F' b → F b ∨ n ≤ b
theorem Ext.refl (F : Nat → Prop) (n : Nat) : Ext F F n := fun _ h => .inl h
theorem Ext.trans {n m : Nat} {F'' : Nat → Prop} (h : Ext F F' n) (h' : Ext F' F'' m) (hn : n ≤ m) : Ext F F'' n := fun b hb => by
  rcases h' b hb with h1 | h1
  · exact h b h1
  · exact .inr (by omega)

theorem Chg.refl (F : Nat → Prop) (w : World) : Chg F w w := ⟨rfl, rfl, rfl, Nat.le_refl _, fun _ _ _ => rfl⟩
theorem Chg.mono (h : Chg F w w') (hF : ∀ b, b < w.heap.size → F b → G b) : Chg G w w' :=
  ⟨h.os, h.tape, h.output, h.size, fun b hb hn => h.block b hb fun hf => hn (hF b hb hf)⟩
theorem Chg.trans (h : Chg F w w') (h' : Chg F' w' w'') (hF : Ext F F' w.heap.size) : Chg F w w'' :=
  ⟨h'.os.trans h.os, h'.tape.trans h.tape, h'.output.trans h.output, Nat.le_trans h.size h'.size, fun b hb hn =>
    (h'.block b (Nat.lt_of_lt_of_le hb h.size) fun hf => by rcases hF b hf with h1 | h1; exact hn h1; omega).trans (h.block b hb hn)⟩
theorem Chg.of_below (h : Below w.heap.size w w') (F : Nat → Prop) : Chg F w w' := ⟨h.os, h.tape, h.output, h.size, fun b hb _ => h.block b hb⟩
theorem Chg.below (h : Chg F w w') (hB : B ≤ w.heap.size) (hF : ∀ b, F b → B ≤ b) : Below B w w' :=
  ⟨h.os, h.tape, h.output, h.size, fun b hb => h.block b (by omega) fun hf => by have := hF b hf; omega⟩
theorem Chg.grown {row : Option Nat} (h : w.grownBy w' row) (hF : ∀ b, row = some b → F b) : Chg F w w' :=
  ⟨h.os, h.tape, h.output, h.size, fun b hb hn => h.block b hb fun e => hn (hF b e.symm)⟩
theorem Chg.setCell (w : World) {a : Addr} (ha : F a.block) (u : Value) : Chg F w (w.setCell a u) :=
  ⟨rfl, rfl, rfl, by simp [World.setCell], fun b _ hn => Below.heap_setCell w a u b (by rintro rfl; exact hn ha)⟩
theorem Chg.alloc (h : Chg F w w') (o : Obj) : Chg F w (w'.alloc o) :=
  h.trans (Chg.of_below ((Below.refl _ _).alloc (Nat.le_refl _) o) F) (Ext.refl _ _)
theorem Chg.drewN (h : Chg F w w') (q : Nat) : Chg F w (w'.drewN q) := ⟨h.os, h.tape, h.output, h.size, h.block⟩
theorem Chg.andBelow (h : Chg F w w') (h' : Below w'.heap.size w' w'') : Chg F w w'' := h.trans (Chg.of_below h' F) (Ext.refl _ _)

/-- Two footprints that have nothing in common stay so. -/
theorem apart_ext {n : Nat} (h : ∀ b, F b → ¬ G b) (hE : Ext F F' n) (hG : ∀ b, G b → b < n) : ∀ b, F' b → ¬ G b := fun b hb hg => by
  rcases hE b hb with h1 | h1
  · exact h b h1 hg
  · have := hG b hg; omega
end
end Go.Proofs.YthkjicnnepkghaaDoor
