/-
  Package uses: who is held, and how often each was free again.
-/
import Derived.Test.YtfecbgijpbieaaaIRange
import Derived.Test.YtfecbgijpbieaaaHeap
import Derived.Test.YtfecbgijpbieaaaSorted
import Derived.Shelf.SlMaps.Clone
namespace Go.Proofs.Ytfecbgijpbieaaa
open Go.RowKit Go.Shelf

def boolM (H : Int → Bool) : Int → Option Value := fun j => if H j then some (.bool true) else none
def timesM (T : Int → Option Int) : Int → Option Value := fun j => (T j).map (Value.int .i64)

theorem boolM_put (H : Int → Bool) (x j : Int) : boolM (fun j => H j || j == x) j = putM (boolM H) x (.bool true) j := by
  unfold boolM putM
  by_cases h : j = x
  · subst h; simp
  · simp [h]
theorem boolM_del (H : Int → Bool) (x j : Int) : boolM (fun j => H j && j != x) j = delM (boolM H) x j := by
  unfold boolM delM
  by_cases h : j = x
  · subst h; simp
  · simp [h]

/-- Uses at u: who is held, the map hb, of no more than nh; how often each was free, the map tb. -/
structure UsesAt (w : World) (u hb tb nh nt : Nat) (H : Int → Bool) (T : Int → Option Int) : Prop where
  cells : w.heap[u]? = some (.cells #[.map (some hb), .map (some tb)] 42 (0, 0))
  hu : hb ≠ u
  tu : tb ≠ u
  ht : hb ≠ tb
  held : MapAt Try.prog 3 w hb nh (boolM H)
  times : MapAt Try.prog 3 w tb nt (timesM T)

section
variable {w w' : World} {u hb tb nh nt : Nat} {H : Int → Bool} {T : Int → Option Int}
theorem UsesAt.cellH (h : UsesAt w u hb tb nh nt H T) : w.cell? ⟨u, 0, none⟩ = some (.map (some hb)) := by rw [cell_of_row w u 0 _ _ _ h.cells]; rfl
theorem UsesAt.cellT (h : UsesAt w u hb tb nh nt H T) : w.cell? ⟨u, 1, none⟩ = some (.map (some tb)) := by rw [cell_of_row w u 1 _ _ _ h.cells]; rfl
theorem UsesAt.lt (h : UsesAt w u hb tb nh nt H T) : u < w.heap.size ∧ hb < w.heap.size ∧ tb < w.heap.size := ⟨lt_of_block h.cells, h.held.lt, h.times.lt⟩
theorem UsesAt.chg {G : Nat → Prop} (h : UsesAt w u hb tb nh nt H T) (hg : Chg G w w') (h1 : ¬ G u) (h2 : ¬ G hb) (h3 : ¬ G tb) : UsesAt w' u hb tb nh nt H T :=
  ⟨(hg.block u h.lt.1 h1).trans h.cells, h.hu, h.tu, h.ht, h.held.block (hg.block hb h.lt.2.1 h2), h.times.block (hg.block tb h.lt.2.2 h3)⟩
theorem UsesAt.below (h : UsesAt w u hb tb nh nt H T) (hb' : Below w.heap.size w w') : UsesAt w' u hb tb nh nt H T :=
  h.chg (Chg.of_below hb' (fun _ => False)) (fun h => h) (fun h => h) (fun h => h)
end

set_option maxRecDepth 100000 in
theorem uNew_any (w : World) : Calls Try.prog 7 #[] w fun e w' => ∃ u hb tb, e = .returned (.pointer (some ⟨u, 0, none⟩)) ∧ UsesAt w' u hb tb 0 0 (fun _ => false) (fun _ => none) ∧ Below w.heap.size w w' ∧ w.heap.size ≤ u ∧ w.heap.size ≤ hb ∧ w.heap.size ≤ tb := by
  have hmm := @run_makeMap Try.prog
  have hm0 := MapAt.made w Try.prog 3
  have hm1 := MapAt.made (w.alloc (.map #[] 0)) Try.prog 3
  go_enter Try.func7, Try.ntmps7
  go_wp2
  go_ret
  have e1 : (w.alloc (.map #[] 0)).heap.size = w.heap.size + 1 := by simp
  rw [e1] at hm1
  have hA := hm0.kept (World.grownBy_alloc (w.alloc (.map #[] 0)) (.map #[] 0) none) (by simp)
  refine ⟨w.heap.size + 2, w.heap.size, w.heap.size + 1, rfl, ⟨?_, by omega, by omega, by omega, (hA.kept (World.grownBy_alloc _ _ none) (by simp)).congr fun _ _ => rfl, (hm1.kept (World.grownBy_alloc _ _ none) (by simp)).congr fun _ _ => rfl⟩, ((((Below.refl _ _).alloc (Nat.le_refl _) _).alloc (by simp) _).alloc (by simp; omega) _), by omega, Nat.le_refl _, by omega⟩
  have := heap_alloc_new ((w.alloc (.map #[] 0)).alloc (.map #[] 0)) (.cells #[.map (some w.heap.size), .map (some (w.heap.size + 1))] 42)
  simpa using this

set_option maxRecDepth 100000 in
theorem uTimes_any (w : World) (u hb tb nh nt : Nat) (H : Int → Bool) (T : Int → Option Int) (id : Int) (hid : I64 id) (h : UsesAt w u hb tb nh nt H T) :
    Calls Try.prog 9 #[.pointer (some ⟨u, 0, none⟩), .int .i64 id] w fun e w' => e = .returned (.int .i64 ((T id).getD 0)) ∧ w = w' := by
  have hc := h.cellT
  have hl := h.times.look Try.underlying3 Try.underlying40 (Try.zeroValue3 _) hid
  have e1 : ((timesM T id).getD (Value.int .i64 0)) = .int .i64 ((T id).getD 0) := by
    unfold timesM
    cases T id <;> rfl
  rw [e1] at hl
  clear h e1
  go_enter Try.func9, Try.ntmps9
  go_wp2
  go_ret
  exact ⟨rfl, rfl⟩

set_option maxRecDepth 100000 in
theorem uHeld_any (w : World) (u hb tb nh nt : Nat) (H : Int → Bool) (T : Int → Option Int) (h : UsesAt w u hb tb nh nt H T) (hn : nh ≤ 1000000) :
    Calls Try.prog 14 #[.pointer (some ⟨u, 0, none⟩)] w fun e w' => ∃ (v : Value) (l : List Int), e = .returned v ∧ KeysOf (boolM H) l ∧ l.length ≤ nh ∧ w'.ownsRow w.heap.size 3 1 v l.length (l.map (Value.int .i64)) ∧ Below w.heap.size w w' := by
  have hc := h.cellH
  obtain ⟨c1, c2⟩ := sortedKeys_bool w hb nh _ h.held hn
  replace c1 := hide c1
  replace c2 := hide c2
  clear h
  go_enter Try.func14, Try.ntmps14
  go_wp2_with fail
  refine (c1.out).mono ?_
  rintro e w' ⟨rfl, rfl⟩
  go_wp2_with fail
  refine (c2.out).mono ?_
  rintro e w' ⟨v, l, rfl, hk, hl, hr, hnil, hb⟩
  go_wp2
  go_ret
  exact ⟨v, l, rfl, hk, hl, hr, hb⟩
end Go.Proofs.Ytfecbgijpbieaaa
