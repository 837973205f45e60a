/-
  Package state: Merge, Apply, None, First.
-/
import Derived.Test.YthkjicnnepkghaaGreatDoorPkFState
import Derived.Test.YthkjicnnepkghaaGreatDoorPkB
import Derived.Deep.DeepCutAuto
import Derived.Deep.RegionHeld3
namespace Go.Proofs.YthkjicnnepkghaaGreatDoor
open Go.RowKit
set_option linter.unusedVariables false

structure StOwn (w : World) (base : Nat) (v : StV) (s : St) : Prop where
  d : w.ownsRow base 30 4 v.d s.damage.length (s.damage.flatMap R4.enc)
  f : w.ownsRow base 3 1 v.f s.frames.length (s.frames.map (Value.int .i64))
  r : w.ownsRow base 30 4 v.r s.region.length (s.region.flatMap R4.enc)
  o : w.ownsRow base 3 1 v.o s.order.length (s.order.map (Value.int .i64))
  p : w.ownsRow base 62 3 v.p s.places.length (s.places.flatMap Ch.enc)
theorem own_belowF {w w' : World} {base sz n B : Nat} {e : TypeId} {v : Value} {cs : List Value} (h : w.ownsRow base e sz v n cs) (hb : Below B w w') (hB : w.heap.size ≤ B) : w'.ownsRow base e sz v n cs :=
  own_keepF h fun b hb' => hb.block b (by have := (h.lt b hb').2; omega)

theorem rd_row_at {W : World} {g : Nat} {t : TypeId} {L : List Src} (h : W.heap[g]? = some (.cells (L.map Src.v).toArray t (0, 0))) : Rd W (.slice (some ⟨g, 0, none⟩) L.length L.length) 1 L.length (L.map Src.v) := by
  refine ⟨by simp, _, _, rfl, Nat.le_refl _, fun _ => ⟨g, 0, rfl, lt_of_block h, fun j u hu => ?_⟩⟩
  rw [cell_of_row W g (0 + j) _ _ _ h]
  simpa using hu
theorem at_rect {w0 W : World} {g : Nat} {L : List Src} (hB : Below w0.heap.size w0 W) (h : W.heap[g]? = some (.cells (L.map Src.v).toArray 31 (0, 0))) (hL : RdSrc w0 4 L) (hm : L.length ≤ 1000) (hn : sumSrc L ≤ 1000000) :
    Calls Tryz.prog 134 #[.slice (some ⟨g, 0, none⟩) L.length L.length] W fun e w' => ∃ v', e = .returned v' ∧ w'.ownsRow w0.heap.size 30 4 v' (sumSrc L) (catSrc L) ∧ Below W.heap.size W w' :=
  (all_rect W _ L (rd_row_at h) (fun x hx => ⟨(hL x hx).1.below hB (Nat.le_refl _), (hL x hx).2⟩) hm hn).mono fun e w' ⟨v', e1, o1, b1⟩ => ⟨v', e1, own_le o1 hB.size, b1⟩
theorem all1_rect {w0 W : World} {v : Value} {n : Nat} {cs : List Value} (hB : Below w0.heap.size w0 W) (h : Rd w0 v 4 n cs) (h1 : ∀ u ∈ cs, u.oneCell' = true) (hn : n ≤ 1000000) :
    (Calls Tryz.prog 134 #[.slice (some ⟨W.heap.size, 0, none⟩) 1 1] (W.alloc (.cells #[v] 31)) fun e w' => ∃ v', e = .returned v' ∧ w'.ownsRow w0.heap.size 30 4 v' n cs ∧ Below W.heap.size W w') ∧
    (∀ o, Calls Tryz.prog 134 #[.slice (some ⟨W.heap.size, 0, none⟩) 1 1] ((W.alloc (.cells #[v] 31)).alloc o) fun e w' => ∃ v', e = .returned v' ∧ w'.ownsRow w0.heap.size 30 4 v' n cs ∧ Below W.heap.size W w' ∧ w'.heap[W.heap.size + 1]? = some o) ∧
    ∀ o, Calls Tryz.prog 134 #[.slice (some ⟨W.heap.size + 1, 0, none⟩) 1 1] ((W.alloc o).alloc (.cells #[v] 31)) fun e w' => ∃ v', e = .returned v' ∧ w'.ownsRow w0.heap.size 30 4 v' n cs ∧ Below W.heap.size W w' ∧ w'.heap[W.heap.size]? = some o := by
  have hL : RdSrc w0 4 [⟨v, n, cs⟩] := fun x hx => by
    obtain rfl : x = ⟨v, n, cs⟩ := by simpa using hx
    exact ⟨h, h1⟩
  have b1 : ∀ o, Below W.heap.size W (W.alloc o) := fun o => (Below.refl _ W).alloc (Nat.le_refl _) o
  have b2 : ∀ o o', Below W.heap.size W ((W.alloc o).alloc o') := fun o o' => ((Below.refl _ W).alloc (Nat.le_refl _) o).alloc (by simp) o'
  refine ⟨?_, ?_, ?_⟩
  · have := at_rect (L := [⟨v, n, cs⟩]) (hB.trans ((b1 _).mono hB.size)) (heap_alloc_new W (.cells #[v] 31)) hL (by simp) (by rw [sum_one]; omega)
    rw [sum_one, cat_one] at this
    exact this.mono fun e w' ⟨v', e1, o1, q1⟩ => ⟨v', e1, o1, (b1 _).trans (q1.mono (by simp))⟩
  · intro o
    have := at_rect (L := [⟨v, n, cs⟩]) (hB.trans ((b2 _ o).mono hB.size)) (heap_alloc2_old W (.cells #[v] 31) o) hL (by simp) (by rw [sum_one]; omega)
    rw [sum_one, cat_one] at this
    exact this.mono fun e w' ⟨v', e1, o1, q1⟩ => ⟨v', e1, o1, (b2 _ o).trans (q1.mono (by simp; omega)), (q1.block _ (by simp)).trans (heap_alloc2_new _ _ _)⟩
  · intro o
    have hh : ((W.alloc o).alloc (.cells #[v] 31)).heap[W.heap.size + 1]? = some (.cells #[v] 31 (0, 0)) := heap_alloc2_new _ _ _
    have := at_rect (L := [⟨v, n, cs⟩]) (hB.trans ((b2 o _).mono hB.size)) hh hL (by simp) (by rw [sum_one]; omega)
    rw [sum_one, cat_one] at this
    exact this.mono fun e w' ⟨v', e1, o1, q1⟩ => ⟨v', e1, o1, (b2 o _).trans (q1.mono (by simp; omega)), (q1.block _ (by simp; omega)).trans (heap_alloc2_old _ _ _)⟩
theorem all2_rect {w0 W : World} {v u : Value} {n m : Nat} {cs ds : List Value} (hB : Below w0.heap.size w0 W) (h : Rd w0 v 4 n cs) (h1 : ∀ u ∈ cs, u.oneCell' = true) (g : Rd w0 u 4 m ds) (g1 : ∀ u ∈ ds, u.oneCell' = true) (hn : n + m ≤ 1000000) :
    (Calls Tryz.prog 134 #[.slice (some ⟨W.heap.size, 0, none⟩) 2 2] (W.alloc (.cells #[v, u] 31)) fun e w' => ∃ v', e = .returned v' ∧ w'.ownsRow w0.heap.size 30 4 v' (n + m) (cs ++ ds) ∧ Below W.heap.size W w') ∧
    (∀ o, Calls Tryz.prog 134 #[.slice (some ⟨W.heap.size, 0, none⟩) 2 2] ((W.alloc (.cells #[v, u] 31)).alloc o) fun e w' => ∃ v', e = .returned v' ∧ w'.ownsRow w0.heap.size 30 4 v' (n + m) (cs ++ ds) ∧ Below W.heap.size W w' ∧ w'.heap[W.heap.size + 1]? = some o) ∧
    ∀ o, Calls Tryz.prog 134 #[.slice (some ⟨W.heap.size + 1, 0, none⟩) 2 2] ((W.alloc o).alloc (.cells #[v, u] 31)) fun e w' => ∃ v', e = .returned v' ∧ w'.ownsRow w0.heap.size 30 4 v' (n + m) (cs ++ ds) ∧ Below W.heap.size W w' ∧ w'.heap[W.heap.size]? = some o := by
  have hL : RdSrc w0 4 [⟨v, n, cs⟩, ⟨u, m, ds⟩] := fun x hx => by
    rcases (show x = ⟨v, n, cs⟩ ∨ x = ⟨u, m, ds⟩ by simpa using hx) with rfl | rfl
    · exact ⟨h, h1⟩
    · exact ⟨g, g1⟩
  have e1 : sumSrc [(⟨v, n, cs⟩ : Src), ⟨u, m, ds⟩] = n + m := by simp [sumSrc]
  have e2 : catSrc [(⟨v, n, cs⟩ : Src), ⟨u, m, ds⟩] = cs ++ ds := by simp [catSrc]
  have b1 : ∀ o, Below W.heap.size W (W.alloc o) := fun o => (Below.refl _ W).alloc (Nat.le_refl _) o
  have b2 : ∀ o o', Below W.heap.size W ((W.alloc o).alloc o') := fun o o' => ((Below.refl _ W).alloc (Nat.le_refl _) o).alloc (by simp) o'
  refine ⟨?_, ?_, ?_⟩
  · have := at_rect (L := [⟨v, n, cs⟩, ⟨u, m, ds⟩]) (hB.trans ((b1 _).mono hB.size)) (heap_alloc_new W (.cells #[v, u] 31)) hL (by simp) (by rw [e1]; omega)
    rw [e1, e2] at this
    exact this.mono fun e w' ⟨v', e1, o1, q1⟩ => ⟨v', e1, o1, (b1 _).trans (q1.mono (by simp))⟩
  · intro o
    have := at_rect (L := [⟨v, n, cs⟩, ⟨u, m, ds⟩]) (hB.trans ((b2 _ o).mono hB.size)) (heap_alloc2_old W (.cells #[v, u] 31) o) hL (by simp) (by rw [e1]; omega)
    rw [e1, e2] at this
    exact this.mono fun e w' ⟨v', e1, o1, q1⟩ => ⟨v', e1, o1, (b2 _ o).trans (q1.mono (by simp; omega)), (q1.block _ (by simp)).trans (heap_alloc2_new _ _ _)⟩
  · intro o
    have hh : ((W.alloc o).alloc (.cells #[v, u] 31)).heap[W.heap.size + 1]? = some (.cells #[v, u] 31 (0, 0)) := heap_alloc2_new _ _ _
    have := at_rect (L := [⟨v, n, cs⟩, ⟨u, m, ds⟩]) (hB.trans ((b2 o _).mono hB.size)) hh hL (by simp) (by rw [e1]; omega)
    rw [e1, e2] at this
    exact this.mono fun e w' ⟨v', e1, o1, q1⟩ => ⟨v', e1, o1, (b2 o _).trans (q1.mono (by simp; omega)), (q1.block _ (by simp; omega)).trans (heap_alloc2_old _ _ _)⟩
theorem at_int {w0 W : World} {g : Nat} {L : List Src} (hB : Below w0.heap.size w0 W) (h : W.heap[g]? = some (.cells (L.map Src.v).toArray 38 (0, 0))) (hL : RdSrc w0 1 L) (hm : L.length ≤ 1000) (hn : sumSrc L ≤ 1000000) :
    Calls Tryz.prog 135 #[.slice (some ⟨g, 0, none⟩) L.length L.length] W fun e w' => ∃ v', e = .returned v' ∧ w'.ownsRow w0.heap.size 3 1 v' (sumSrc L) (catSrc L) ∧ Below W.heap.size W w' :=
  (all_int W _ L (rd_row_at h) (fun x hx => ⟨(hL x hx).1.below hB (Nat.le_refl _), (hL x hx).2⟩) hm hn).mono fun e w' ⟨v', e1, o1, b1⟩ => ⟨v', e1, own_le o1 hB.size, b1⟩
theorem all1_int {w0 W : World} {v : Value} {n : Nat} {cs : List Value} (hB : Below w0.heap.size w0 W) (h : Rd w0 v 1 n cs) (h1 : ∀ u ∈ cs, u.oneCell' = true) (hn : n ≤ 1000000) :
    (Calls Tryz.prog 135 #[.slice (some ⟨W.heap.size, 0, none⟩) 1 1] (W.alloc (.cells #[v] 38)) fun e w' => ∃ v', e = .returned v' ∧ w'.ownsRow w0.heap.size 3 1 v' n cs ∧ Below W.heap.size W w') ∧
    (∀ o, Calls Tryz.prog 135 #[.slice (some ⟨W.heap.size, 0, none⟩) 1 1] ((W.alloc (.cells #[v] 38)).alloc o) fun e w' => ∃ v', e = .returned v' ∧ w'.ownsRow w0.heap.size 3 1 v' n cs ∧ Below W.heap.size W w' ∧ w'.heap[W.heap.size + 1]? = some o) ∧
    ∀ o, Calls Tryz.prog 135 #[.slice (some ⟨W.heap.size + 1, 0, none⟩) 1 1] ((W.alloc o).alloc (.cells #[v] 38)) fun e w' => ∃ v', e = .returned v' ∧ w'.ownsRow w0.heap.size 3 1 v' n cs ∧ Below W.heap.size W w' ∧ w'.heap[W.heap.size]? = some o := by
  have hL : RdSrc w0 1 [⟨v, n, cs⟩] := fun x hx => by
    obtain rfl : x = ⟨v, n, cs⟩ := by simpa using hx
    exact ⟨h, h1⟩
  have b1 : ∀ o, Below W.heap.size W (W.alloc o) := fun o => (Below.refl _ W).alloc (Nat.le_refl _) o
  have b2 : ∀ o o', Below W.heap.size W ((W.alloc o).alloc o') := fun o o' => ((Below.refl _ W).alloc (Nat.le_refl _) o).alloc (by simp) o'
  refine ⟨?_, ?_, ?_⟩
  · have := at_int (L := [⟨v, n, cs⟩]) (hB.trans ((b1 _).mono hB.size)) (heap_alloc_new W (.cells #[v] 38)) hL (by simp) (by rw [sum_one]; omega)
    rw [sum_one, cat_one] at this
    exact this.mono fun e w' ⟨v', e1, o1, q1⟩ => ⟨v', e1, o1, (b1 _).trans (q1.mono (by simp))⟩
  · intro o
    have := at_int (L := [⟨v, n, cs⟩]) (hB.trans ((b2 _ o).mono hB.size)) (heap_alloc2_old W (.cells #[v] 38) o) hL (by simp) (by rw [sum_one]; omega)
    rw [sum_one, cat_one] at this
    exact this.mono fun e w' ⟨v', e1, o1, q1⟩ => ⟨v', e1, o1, (b2 _ o).trans (q1.mono (by simp; omega)), (q1.block _ (by simp)).trans (heap_alloc2_new _ _ _)⟩
  · intro o
    have hh : ((W.alloc o).alloc (.cells #[v] 38)).heap[W.heap.size + 1]? = some (.cells #[v] 38 (0, 0)) := heap_alloc2_new _ _ _
    have := at_int (L := [⟨v, n, cs⟩]) (hB.trans ((b2 o _).mono hB.size)) hh hL (by simp) (by rw [sum_one]; omega)
    rw [sum_one, cat_one] at this
    exact this.mono fun e w' ⟨v', e1, o1, q1⟩ => ⟨v', e1, o1, (b2 o _).trans (q1.mono (by simp; omega)), (q1.block _ (by simp; omega)).trans (heap_alloc2_old _ _ _)⟩
theorem all2_int {w0 W : World} {v u : Value} {n m : Nat} {cs ds : List Value} (hB : Below w0.heap.size w0 W) (h : Rd w0 v 1 n cs) (h1 : ∀ u ∈ cs, u.oneCell' = true) (g : Rd w0 u 1 m ds) (g1 : ∀ u ∈ ds, u.oneCell' = true) (hn : n + m ≤ 1000000) :
    (Calls Tryz.prog 135 #[.slice (some ⟨W.heap.size, 0, none⟩) 2 2] (W.alloc (.cells #[v, u] 38)) fun e w' => ∃ v', e = .returned v' ∧ w'.ownsRow w0.heap.size 3 1 v' (n + m) (cs ++ ds) ∧ Below W.heap.size W w') ∧
    (∀ o, Calls Tryz.prog 135 #[.slice (some ⟨W.heap.size, 0, none⟩) 2 2] ((W.alloc (.cells #[v, u] 38)).alloc o) fun e w' => ∃ v', e = .returned v' ∧ w'.ownsRow w0.heap.size 3 1 v' (n + m) (cs ++ ds) ∧ Below W.heap.size W w' ∧ w'.heap[W.heap.size + 1]? = some o) ∧
    ∀ o, Calls Tryz.prog 135 #[.slice (some ⟨W.heap.size + 1, 0, none⟩) 2 2] ((W.alloc o).alloc (.cells #[v, u] 38)) fun e w' => ∃ v', e = .returned v' ∧ w'.ownsRow w0.heap.size 3 1 v' (n + m) (cs ++ ds) ∧ Below W.heap.size W w' ∧ w'.heap[W.heap.size]? = some o := by
  have hL : RdSrc w0 1 [⟨v, n, cs⟩, ⟨u, m, ds⟩] := fun x hx => by
    rcases (show x = ⟨v, n, cs⟩ ∨ x = ⟨u, m, ds⟩ by simpa using hx) with rfl | rfl
    · exact ⟨h, h1⟩
    · exact ⟨g, g1⟩
  have e1 : sumSrc [(⟨v, n, cs⟩ : Src), ⟨u, m, ds⟩] = n + m := by simp [sumSrc]
  have e2 : catSrc [(⟨v, n, cs⟩ : Src), ⟨u, m, ds⟩] = cs ++ ds := by simp [catSrc]
  have b1 : ∀ o, Below W.heap.size W (W.alloc o) := fun o => (Below.refl _ W).alloc (Nat.le_refl _) o
  have b2 : ∀ o o', Below W.heap.size W ((W.alloc o).alloc o') := fun o o' => ((Below.refl _ W).alloc (Nat.le_refl _) o).alloc (by simp) o'
  refine ⟨?_, ?_, ?_⟩
  · have := at_int (L := [⟨v, n, cs⟩, ⟨u, m, ds⟩]) (hB.trans ((b1 _).mono hB.size)) (heap_alloc_new W (.cells #[v, u] 38)) hL (by simp) (by rw [e1]; omega)
    rw [e1, e2] at this
    exact this.mono fun e w' ⟨v', e1, o1, q1⟩ => ⟨v', e1, o1, (b1 _).trans (q1.mono (by simp))⟩
  · intro o
    have := at_int (L := [⟨v, n, cs⟩, ⟨u, m, ds⟩]) (hB.trans ((b2 _ o).mono hB.size)) (heap_alloc2_old W (.cells #[v, u] 38) o) hL (by simp) (by rw [e1]; omega)
    rw [e1, e2] at this
    exact this.mono fun e w' ⟨v', e1, o1, q1⟩ => ⟨v', e1, o1, (b2 _ o).trans (q1.mono (by simp; omega)), (q1.block _ (by simp)).trans (heap_alloc2_new _ _ _)⟩
  · intro o
    have hh : ((W.alloc o).alloc (.cells #[v, u] 38)).heap[W.heap.size + 1]? = some (.cells #[v, u] 38 (0, 0)) := heap_alloc2_new _ _ _
    have := at_int (L := [⟨v, n, cs⟩, ⟨u, m, ds⟩]) (hB.trans ((b2 o _).mono hB.size)) hh hL (by simp) (by rw [e1]; omega)
    rw [e1, e2] at this
    exact this.mono fun e w' ⟨v', e1, o1, q1⟩ => ⟨v', e1, o1, (b2 o _).trans (q1.mono (by simp; omega)), (q1.block _ (by simp; omega)).trans (heap_alloc2_old _ _ _)⟩
theorem all2_rectD {w0 W : World} {v u : Value} {n m : Nat} {cs ds : List Value} (hB : Below w0.heap.size w0 W) (h : Rd w0 v 4 n cs) (h1 : ∀ u ∈ cs, u.oneCell' = true) (g : Rd w0 u 4 m ds) (g1 : ∀ u ∈ ds, u.oneCell' = true) (hn : n + m ≤ 1000000) :
    (Calls Tryz.prog 134 #[.slice (some ⟨W.heap.size, 0, none⟩) 2 2] (W.alloc (.cells #[v, u] 31)).drew fun e w' => ∃ v', e = .returned v' ∧ w'.ownsRow w0.heap.size 30 4 v' (n + m) (cs ++ ds) ∧ Below W.heap.size W w') ∧
    (∀ o, Calls Tryz.prog 134 #[.slice (some ⟨W.heap.size, 0, none⟩) 2 2] ((W.alloc (.cells #[v, u] 31)).alloc o).drew fun e w' => ∃ v', e = .returned v' ∧ w'.ownsRow w0.heap.size 30 4 v' (n + m) (cs ++ ds) ∧ Below W.heap.size W w' ∧ w'.heap[W.heap.size + 1]? = some o) ∧
    ∀ o, Calls Tryz.prog 134 #[.slice (some ⟨W.heap.size + 1, 0, none⟩) 2 2] ((W.alloc o).alloc (.cells #[v, u] 31)).drew fun e w' => ∃ v', e = .returned v' ∧ w'.ownsRow w0.heap.size 30 4 v' (n + m) (cs ++ ds) ∧ Below W.heap.size W w' ∧ w'.heap[W.heap.size]? = some o := by
  obtain ⟨H1, H2, H3⟩ := all2_rect (W := W.drew) (below_drewN hB 1) h h1 g g1 hn
  exact ⟨H1.mono fun e w' ⟨v', e1, o1, b1⟩ => ⟨v', e1, o1, (below_drewN (Below.refl W.heap.size W) 1).trans b1⟩, fun o => (H2 o).mono fun e w' ⟨v', e1, o1, b1, b2⟩ => ⟨v', e1, o1, (below_drewN (Below.refl W.heap.size W) 1).trans b1, b2⟩, fun o => (H3 o).mono fun e w' ⟨v', e1, o1, b1, b2⟩ => ⟨v', e1, o1, (below_drewN (Below.refl W.heap.size W) 1).trans b1, b2⟩⟩
theorem all1D_rect {w0 W : World} {v : Value} {n : Nat} {cs : List Value} (k : Nat) (hk : W.heap.size = k) (hB : Below w0.heap.size w0 W) (h : Rd w0 v 4 n cs) (h1 : ∀ u ∈ cs, u.oneCell' = true) (hn : n ≤ 1000000) :
    Calls Tryz.prog 134 #[.slice (some ⟨k, 0, none⟩) 1 1] (W.alloc (.cells #[v] 31)).drew fun e w' => ∃ v', e = .returned v' ∧ w'.ownsRow w0.heap.size 30 4 v' n cs ∧ Below W.heap.size W w' := by
  subst hk
  exact ((all1_rect (W := W.drew) (below_drewN hB 1) h h1 hn).1).mono fun e w' ⟨v', e1, o1, b1⟩ => ⟨v', e1, o1, (below_drewN (Below.refl W.heap.size W) 1).trans b1⟩
theorem sum_two (v u : Value) (n m : Nat) (cs ds : List Value) : sumSrc [⟨v, n, cs⟩, ⟨u, m, ds⟩] = n + m := by simp [sumSrc]
theorem cat_two (v u : Value) (n m : Nat) (cs ds : List Value) : catSrc [⟨v, n, cs⟩, ⟨u, m, ds⟩] = cs ++ ds := by simp [catSrc]
theorem src1 {w0 : World} {sz : Nat} {v : Value} {n : Nat} {cs : List Value} (h : Rd w0 v sz n cs) (h1 : ∀ u ∈ cs, u.oneCell' = true) : RdSrc w0 sz [⟨v, n, cs⟩] := fun x hx => by
  obtain rfl : x = ⟨v, n, cs⟩ := by simpa using hx
  exact ⟨h, h1⟩
theorem src2 {w0 : World} {sz : Nat} {v u : Value} {n m : Nat} {cs ds : List Value} (h : Rd w0 v sz n cs) (h1 : ∀ u ∈ cs, u.oneCell' = true) (g : Rd w0 u sz m ds) (g1 : ∀ u ∈ ds, u.oneCell' = true) : RdSrc w0 sz [⟨v, n, cs⟩, ⟨u, m, ds⟩] := fun x hx => by
  rcases (show x = ⟨v, n, cs⟩ ∨ x = ⟨u, m, ds⟩ by simpa using hx) with rfl | rfl
  · exact ⟨h, h1⟩
  · exact ⟨g, g1⟩
theorem places2 {w0 W : World} {v u : Value} {L K : List Ch} (hB : Below w0.heap.size w0 W) (h : Rd w0 v 3 L.length (L.flatMap Ch.enc)) (g : Rd w0 u 3 K.length (K.flatMap Ch.enc)) (hl : L.length + K.length ≤ 100000) :
    Calls Tryz.prog 136 #[v, u] W fun e w' => ∃ v', e = .returned v' ∧ w'.ownsRow w0.heap.size 62 3 v' (putsP L K).length ((putsP L K).flatMap Ch.enc) ∧ Below W.heap.size W w' :=
  (places_any W v u L K (h.below hB (Nat.le_refl _)) (g.below hB (Nat.le_refl _)) hl).mono fun e w' ⟨v', e1, o1, b1⟩ => ⟨v', e1, own_le o1 hB.size, b1⟩

theorem Tryz.zeroState : ((Tryz.prog.info? 41).bind (·.zero)) = some (.agg #[.bool false, .int .i64 0, .slice none 0 0, .slice none 0 0, .bool false, .bool false, .slice none 0 0, .bool false, .slice none 0 0, .slice none 0 0]) := by kernel_rfl

theorem below10 {B : Nat} {W w : World} (hb : Below B W w) {g : Nat} (hg : B ≤ g) (x0 x1 x2 x3 x4 x5 x6 x7 x8 x9 : Value) : Below B W ((((((((((w.setCell ⟨g, 0, none⟩ x0).setCell ⟨g, 1, none⟩ x1).setCell ⟨g, 2, none⟩ x2).setCell ⟨g, 3, none⟩ x3).setCell ⟨g, 4, none⟩ x4).setCell ⟨g, 5, none⟩ x5).setCell ⟨g, 6, none⟩ x6).setCell ⟨g, 7, none⟩ x7).setCell ⟨g, 8, none⟩ x8).setCell ⟨g, 9, none⟩ x9) := ((((((((((hb.setCell (p := ⟨g, 0, none⟩) hg x0).setCell (p := ⟨g, 1, none⟩) hg x1).setCell (p := ⟨g, 2, none⟩) hg x2).setCell (p := ⟨g, 3, none⟩) hg x3).setCell (p := ⟨g, 4, none⟩) hg x4).setCell (p := ⟨g, 5, none⟩) hg x5).setCell (p := ⟨g, 6, none⟩) hg x6).setCell (p := ⟨g, 7, none⟩) hg x7).setCell (p := ⟨g, 8, none⟩) hg x8).setCell (p := ⟨g, 9, none⟩) hg x9)
theorem set10 {w : World} {g : Nat} {t : TypeId} {a0 a1 a2 a3 a4 a5 a6 a7 a8 a9 : Value} (h : w.heap[g]? = some (.cells #[a0, a1, a2, a3, a4, a5, a6, a7, a8, a9] t (0, 0))) (x0 x1 x2 x3 x4 x5 x6 x7 x8 x9 : Value) : ((((((((((w.setCell ⟨g, 0, none⟩ x0).setCell ⟨g, 1, none⟩ x1).setCell ⟨g, 2, none⟩ x2).setCell ⟨g, 3, none⟩ x3).setCell ⟨g, 4, none⟩ x4).setCell ⟨g, 5, none⟩ x5).setCell ⟨g, 6, none⟩ x6).setCell ⟨g, 7, none⟩ x7).setCell ⟨g, 8, none⟩ x8).setCell ⟨g, 9, none⟩ x9).heap[g]? = some (.cells #[x0, x1, x2, x3, x4, x5, x6, x7, x8, x9] t (0, 0)) := by
  have h0 : (w.setCell ⟨g, 0, none⟩ x0).heap[g]? = some (.cells #[x0, a1, a2, a3, a4, a5, a6, a7, a8, a9] t (0, 0)) := heap_setCell_same _ g 0 _ _ x0 h
  have h1 : ((w.setCell ⟨g, 0, none⟩ x0).setCell ⟨g, 1, none⟩ x1).heap[g]? = some (.cells #[x0, x1, a2, a3, a4, a5, a6, a7, a8, a9] t (0, 0)) := heap_setCell_same _ g 1 _ _ x1 h0
  have h2 : (((w.setCell ⟨g, 0, none⟩ x0).setCell ⟨g, 1, none⟩ x1).setCell ⟨g, 2, none⟩ x2).heap[g]? = some (.cells #[x0, x1, x2, a3, a4, a5, a6, a7, a8, a9] t (0, 0)) := heap_setCell_same _ g 2 _ _ x2 h1
  have h3 : ((((w.setCell ⟨g, 0, none⟩ x0).setCell ⟨g, 1, none⟩ x1).setCell ⟨g, 2, none⟩ x2).setCell ⟨g, 3, none⟩ x3).heap[g]? = some (.cells #[x0, x1, x2, x3, a4, a5, a6, a7, a8, a9] t (0, 0)) := heap_setCell_same _ g 3 _ _ x3 h2
  have h4 : (((((w.setCell ⟨g, 0, none⟩ x0).setCell ⟨g, 1, none⟩ x1).setCell ⟨g, 2, none⟩ x2).setCell ⟨g, 3, none⟩ x3).setCell ⟨g, 4, none⟩ x4).heap[g]? = some (.cells #[x0, x1, x2, x3, x4, a5, a6, a7, a8, a9] t (0, 0)) := heap_setCell_same _ g 4 _ _ x4 h3
  have h5 : ((((((w.setCell ⟨g, 0, none⟩ x0).setCell ⟨g, 1, none⟩ x1).setCell ⟨g, 2, none⟩ x2).setCell ⟨g, 3, none⟩ x3).setCell ⟨g, 4, none⟩ x4).setCell ⟨g, 5, none⟩ x5).heap[g]? = some (.cells #[x0, x1, x2, x3, x4, x5, a6, a7, a8, a9] t (0, 0)) := heap_setCell_same _ g 5 _ _ x5 h4
  have h6 : (((((((w.setCell ⟨g, 0, none⟩ x0).setCell ⟨g, 1, none⟩ x1).setCell ⟨g, 2, none⟩ x2).setCell ⟨g, 3, none⟩ x3).setCell ⟨g, 4, none⟩ x4).setCell ⟨g, 5, none⟩ x5).setCell ⟨g, 6, none⟩ x6).heap[g]? = some (.cells #[x0, x1, x2, x3, x4, x5, x6, a7, a8, a9] t (0, 0)) := heap_setCell_same _ g 6 _ _ x6 h5
  have h7 : ((((((((w.setCell ⟨g, 0, none⟩ x0).setCell ⟨g, 1, none⟩ x1).setCell ⟨g, 2, none⟩ x2).setCell ⟨g, 3, none⟩ x3).setCell ⟨g, 4, none⟩ x4).setCell ⟨g, 5, none⟩ x5).setCell ⟨g, 6, none⟩ x6).setCell ⟨g, 7, none⟩ x7).heap[g]? = some (.cells #[x0, x1, x2, x3, x4, x5, x6, x7, a8, a9] t (0, 0)) := heap_setCell_same _ g 7 _ _ x7 h6
  have h8 : (((((((((w.setCell ⟨g, 0, none⟩ x0).setCell ⟨g, 1, none⟩ x1).setCell ⟨g, 2, none⟩ x2).setCell ⟨g, 3, none⟩ x3).setCell ⟨g, 4, none⟩ x4).setCell ⟨g, 5, none⟩ x5).setCell ⟨g, 6, none⟩ x6).setCell ⟨g, 7, none⟩ x7).setCell ⟨g, 8, none⟩ x8).heap[g]? = some (.cells #[x0, x1, x2, x3, x4, x5, x6, x7, x8, a9] t (0, 0)) := heap_setCell_same _ g 8 _ _ x8 h7
  have h9 : ((((((((((w.setCell ⟨g, 0, none⟩ x0).setCell ⟨g, 1, none⟩ x1).setCell ⟨g, 2, none⟩ x2).setCell ⟨g, 3, none⟩ x3).setCell ⟨g, 4, none⟩ x4).setCell ⟨g, 5, none⟩ x5).setCell ⟨g, 6, none⟩ x6).setCell ⟨g, 7, none⟩ x7).setCell ⟨g, 8, none⟩ x8).setCell ⟨g, 9, none⟩ x9).heap[g]? = some (.cells #[x0, x1, x2, x3, x4, x5, x6, x7, x8, x9] t (0, 0)) := heap_setCell_same _ g 9 _ _ x9 h8
  exact h9
theorem cells10 {W : World} {g : Nat} {t : TypeId} {x0 x1 x2 x3 x4 x5 x6 x7 x8 x9 : Value} (h : W.heap[g]? = some (.cells #[x0, x1, x2, x3, x4, x5, x6, x7, x8, x9] t (0, 0))) :
    W.cell? ⟨g, 0, none⟩ = some x0 ∧ W.cell? ⟨g, 1, none⟩ = some x1 ∧ W.cell? ⟨g, 2, none⟩ = some x2 ∧ W.cell? ⟨g, 3, none⟩ = some x3 ∧ W.cell? ⟨g, 4, none⟩ = some x4 ∧ W.cell? ⟨g, 5, none⟩ = some x5 ∧ W.cell? ⟨g, 6, none⟩ = some x6 ∧ W.cell? ⟨g, 7, none⟩ = some x7 ∧ W.cell? ⟨g, 8, none⟩ = some x8 ∧ W.cell? ⟨g, 9, none⟩ = some x9 := by
  refine ⟨?_, ?_, ?_, ?_, ?_, ?_, ?_, ?_, ?_, ?_⟩
  all_goals (rw [cell_of_row W g _ _ _ _ h]; rfl)
structure RowOf where
  e : TypeId
  sz : Nat
  v : Value
  n : Nat
  cs : List Value
structure Mg (W3 : World) (g : Nat) (cs : Array Value) (R : List RowOf) (W : World) : Prop where
  m : W.heap[g]? = some (.cells cs 41 (0, 0))
  bel : Below W3.heap.size W3 W
  hg : W3.heap.size ≤ g
  rows : ∀ r ∈ R, W.ownsRow W3.heap.size r.e r.sz r.v r.n r.cs ∧ r.e ≠ 41
section
variable {W3 W W' : World} {g : Nat} {cs : Array Value} {R : List RowOf}
theorem Mg.set (h : Mg W3 g cs R W) (i : Nat) (u : Value) : Mg W3 g (cs.setIfInBounds i u) R (W.setCell ⟨g, i, none⟩ u) :=
  ⟨heap_setCell_same W g i _ _ u h.m, h.bel.setCell (p := ⟨g, i, none⟩) h.hg u, h.hg, fun r hr => ⟨own_keepF (h.rows r hr).1 fun b hb => heap_setCell_other W _ b _ fun e => by
    obtain ⟨cur, hc⟩ := own_typeF (h.rows r hr).1 hb
    have e : b = g := e
    rw [e, h.m] at hc
    simp only [Option.some.injEq, Obj.cells.injEq] at hc
    exact (h.rows r hr).2 hc.2.1.symm, (h.rows r hr).2⟩⟩
theorem Mg.drewN (h : Mg W3 g cs R W) (q : Nat) : Mg W3 g cs R (W.drewN q) := ⟨h.m, below_drewN h.bel q, h.hg, h.rows⟩
theorem Mg.drew (h : Mg W3 g cs R W) : Mg W3 g cs R W.drew := h.drewN 1
theorem Mg.below (h : Mg W3 g cs R W) (hb : Below W.heap.size W W') : Mg W3 g cs R W' :=
  ⟨(hb.block g (lt_of_block h.m)).trans h.m, h.bel.trans (hb.mono h.bel.size), h.hg, fun r hr => ⟨own_belowF (h.rows r hr).1 hb (Nat.le_refl _), (h.rows r hr).2⟩⟩
theorem Mg.push (h : Mg W3 g cs R W) {r : RowOf} (hr : W.ownsRow W3.heap.size r.e r.sz r.v r.n r.cs) (he : r.e ≠ 41) : Mg W3 g cs (r :: R) W :=
  ⟨h.m, h.bel, h.hg, fun x hx => by
    rcases List.mem_cons.1 hx with rfl | hx
    · exact ⟨hr, he⟩
    · exact h.rows x hx⟩
theorem Mg.facts {x0 x1 x2 x3 x4 x5 x6 x7 x8 x9 : Value} (h : Mg W3 g #[x0, x1, x2, x3, x4, x5, x6, x7, x8, x9] R W) :
    W.cell? ⟨g, 0, none⟩ = some x0 ∧ W.cell? ⟨g, 1, none⟩ = some x1 ∧ W.cell? ⟨g, 2, none⟩ = some x2 ∧ W.cell? ⟨g, 3, none⟩ = some x3 ∧ W.cell? ⟨g, 4, none⟩ = some x4 ∧ W.cell? ⟨g, 5, none⟩ = some x5 ∧ W.cell? ⟨g, 6, none⟩ = some x6 ∧ W.cell? ⟨g, 7, none⟩ = some x7 ∧ W.cell? ⟨g, 8, none⟩ = some x8 ∧ W.cell? ⟨g, 9, none⟩ = some x9 ∧
    W.frozen? ⟨g, 0, none⟩ = false ∧ W.frozen? ⟨g, 1, none⟩ = false ∧ W.frozen? ⟨g, 2, none⟩ = false ∧ W.frozen? ⟨g, 3, none⟩ = false ∧ W.frozen? ⟨g, 4, none⟩ = false ∧ W.frozen? ⟨g, 5, none⟩ = false ∧ W.frozen? ⟨g, 6, none⟩ = false ∧ W.frozen? ⟨g, 7, none⟩ = false ∧ W.frozen? ⟨g, 8, none⟩ = false ∧ W.frozen? ⟨g, 9, none⟩ = false := by
  refine ⟨?_, ?_, ?_, ?_, ?_, ?_, ?_, ?_, ?_, ?_, frozen_of_row W g 0 _ _ h.m, frozen_of_row W g 1 _ _ h.m, frozen_of_row W g 2 _ _ h.m, frozen_of_row W g 3 _ _ h.m, frozen_of_row W g 4 _ _ h.m, frozen_of_row W g 5 _ _ h.m, frozen_of_row W g 6 _ _ h.m, frozen_of_row W g 7 _ _ h.m, frozen_of_row W g 8 _ _ h.m, frozen_of_row W g 9 _ _ h.m⟩
  all_goals (rw [cell_of_row W g _ _ _ _ h.m]; rfl)
end

structure MergeFits (a b : St) : Prop where
  d : a.damage.length + b.damage.length ≤ 100000
  f : a.frames.length + b.frames.length ≤ 100000
  r : a.region.length ≤ 100000 ∧ b.region.length ≤ 100000
  o : a.order.length ≤ 100000 ∧ b.order.length ≤ 100000
  p : a.places.length + b.places.length ≤ 100000

def mgRows (D : List R4) (Fr : List Int) (Rg : List R4) (O : List Int) (Pl : List Ch) (v1 v2 v3 v4 v5 : Value) : List RowOf :=
  [⟨30, 4, v1, D.length, D.flatMap R4.enc⟩, ⟨3, 1, v2, Fr.length, Fr.map (Value.int .i64)⟩, ⟨30, 4, v3, Rg.length, Rg.flatMap R4.enc⟩, ⟨3, 1, v4, O.length, O.map (Value.int .i64)⟩, ⟨62, 3, v5, Pl.length, Pl.flatMap Ch.enc⟩]
theorem mgRows_mk {W3 W : World} {g : Nat} {cs : Array Value} {D : List R4} {Fr : List Int} {Rg : List R4} {O : List Int} {Pl : List Ch} {v1 v2 v3 v4 v5 : Value} (h : W.heap[g]? = some (.cells cs 41 (0, 0))) (hb : Below W3.heap.size W3 W) (hg : W3.heap.size ≤ g)
    (g1 : W.ownsRow W3.heap.size 30 4 v1 D.length (D.flatMap R4.enc)) (g2 : W.ownsRow W3.heap.size 3 1 v2 Fr.length (Fr.map (Value.int .i64))) (g3 : W.ownsRow W3.heap.size 30 4 v3 Rg.length (Rg.flatMap R4.enc)) (g4 : W.ownsRow W3.heap.size 3 1 v4 O.length (O.map (Value.int .i64))) (g5 : W.ownsRow W3.heap.size 62 3 v5 Pl.length (Pl.flatMap Ch.enc)) :
    Mg W3 g cs (mgRows D Fr Rg O Pl v1 v2 v3 v4 v5) W :=
  ⟨h, hb, hg, fun r hr => by
    simp only [mgRows, List.mem_cons, List.not_mem_nil, or_false] at hr
    rcases hr with rfl | rfl | rfl | rfl | rfl
    · exact ⟨g1, by simp⟩
    · exact ⟨g2, by simp⟩
    · exact ⟨g3, by simp⟩
    · exact ⟨g4, by simp⟩
    · exact ⟨g5, by simp⟩⟩
theorem Mg.own5 {W3 W : World} {g : Nat} {cs : Array Value} {D : List R4} {Fr : List Int} {Rg : List R4} {O : List Int} {Pl : List Ch} {v1 v2 v3 v4 v5 : Value} (h : Mg W3 g cs (mgRows D Fr Rg O Pl v1 v2 v3 v4 v5) W) :
    W.ownsRow W3.heap.size 30 4 v1 D.length (D.flatMap R4.enc) ∧ W.ownsRow W3.heap.size 3 1 v2 Fr.length (Fr.map (Value.int .i64)) ∧ W.ownsRow W3.heap.size 30 4 v3 Rg.length (Rg.flatMap R4.enc) ∧ W.ownsRow W3.heap.size 3 1 v4 O.length (O.map (Value.int .i64)) ∧ W.ownsRow W3.heap.size 62 3 v5 Pl.length (Pl.flatMap Ch.enc) :=
  ⟨(h.rows _ (List.mem_cons_self ..)).1, (h.rows _ (List.mem_cons_of_mem _ (List.mem_cons_self ..))).1, (h.rows _ (List.mem_cons_of_mem _ (List.mem_cons_of_mem _ (List.mem_cons_self ..)))).1,
   (h.rows _ (List.mem_cons_of_mem _ (List.mem_cons_of_mem _ (List.mem_cons_of_mem _ (List.mem_cons_self ..))))).1, (h.rows _ (List.mem_cons_of_mem _ (List.mem_cons_of_mem _ (List.mem_cons_of_mem _ (List.mem_cons_of_mem _ (List.mem_cons_self ..)))))).1⟩
def mgBuild (W3 : World) (a b : St) : SP := ⟨fun v w => ∃ v1 v2 v3 v4 v5, v = .agg #[.bool a.attach, .int .i64 a.buffer, v1, v2, .bool a.input, .bool a.all, v3, .bool a.ordered, v4, v5] ∧
    w.ownsRow W3.heap.size 30 4 v1 (a.damage.length + b.damage.length) (a.damage.flatMap R4.enc ++ b.damage.flatMap R4.enc) ∧ w.ownsRow W3.heap.size 3 1 v2 (a.frames.length + b.frames.length) (a.frames.map (Value.int .i64) ++ b.frames.map (Value.int .i64)) ∧
    w.ownsRow W3.heap.size 30 4 v3 a.region.length (a.region.flatMap R4.enc) ∧ w.ownsRow W3.heap.size 3 1 v4 a.order.length (a.order.map (Value.int .i64)) ∧ w.ownsRow W3.heap.size 62 3 v5 (putsP a.places b.places).length ((putsP a.places b.places).flatMap Ch.enc),
  fun v w w' ⟨v1, v2, v3, v4, v5, h, h1, h2, h3, h4, h5⟩ hb => ⟨v1, v2, v3, v4, v5, h, own_below' h1 hb (Nat.le_refl _), own_below' h2 hb (Nat.le_refl _), own_below' h3 hb (Nat.le_refl _), own_below' h4 hb (Nat.le_refl _), own_below' h5 hb (Nat.le_refl _)⟩⟩
def BigP (w : World) (s : St) (e : Ending) (w' : World) : Prop := ∃ v', e = .returned (stVal s v') ∧ StOwn w' w.heap.size v' s ∧ Below w.heap.size w w'

set_option maxRecDepth 100000 in
set_option maxHeartbeats 4000000 in
theorem merge_any (w : World) (va vb : StV) (a b : St) (ha : StRd w va a) (hb : StRd w vb b) (hf : MergeFits a b) :
    Calls Tryz.prog 107 #[stVal a va, stVal b vb] w (BigP w (mergeT a b)) := by
  obtain ⟨ad, af, ar, ao, ap⟩ := va
  obtain ⟨bd, bf, br, bo, bp⟩ := vb
  obtain ⟨had, haf, har, hao, hap⟩ := ha
  obtain ⟨hbd, hbf, hbr, hbo, hbp⟩ := hb
  dsimp only at had haf har hao hap hbd hbf hbr hbo hbp
  obtain ⟨adA, adc, rfl, _⟩ := had.form
  obtain ⟨afA, afc, rfl, _⟩ := haf.form
  obtain ⟨arA, arc, rfl, _⟩ := har.form
  obtain ⟨aoA, aoc, rfl, _⟩ := hao.form
  obtain ⟨apA, apc, rfl, _⟩ := hap.form
  obtain ⟨bdA, bdc, rfl, _⟩ := hbd.form
  obtain ⟨bfA, bfc, rfl, _⟩ := hbf.form
  obtain ⟨brA, brc, rfl, _⟩ := hbr.form
  obtain ⟨boA, boc, rfl, _⟩ := hbo.form
  obtain ⟨bpA, bpc, rfl, _⟩ := hbp.form
  obtain ⟨W3, hW3⟩ : ∃ W3, W3 = ((w.alloc (.cells #[.bool a.attach, .int .i64 a.buffer, .slice adA a.damage.length adc, .slice afA a.frames.length afc, .bool a.input, .bool a.all, .slice arA a.region.length arc, .bool a.ordered, .slice aoA a.order.length aoc, .slice apA a.places.length apc] 41)).alloc (.cells #[.bool b.attach, .int .i64 b.buffer, .slice bdA b.damage.length bdc, .slice bfA b.frames.length bfc, .bool b.input, .bool b.all, .slice brA b.region.length brc, .bool b.ordered, .slice boA b.order.length boc, .slice bpA b.places.length bpc] 41)).alloc (.cells #[.bool false, .int .i64 0, .slice none 0 0, .slice none 0 0, .bool false, .bool false, .slice none 0 0, .bool false, .slice none 0 0, .slice none 0 0] 41) := ⟨_, rfl⟩
  have hsz : W3.heap.size = w.heap.size + 3 := by rw [hW3]; simp
  have hbel : Below w.heap.size w W3 := by rw [hW3]; exact (((Below.refl _ w).alloc (Nat.le_refl _) _).alloc (by simp) _).alloc (by simp; omega) _
  have hk2 : W3.heap[w.heap.size]? = some (.cells #[.bool a.attach, .int .i64 a.buffer, .slice adA a.damage.length adc, .slice afA a.frames.length afc, .bool a.input, .bool a.all, .slice arA a.region.length arc, .bool a.ordered, .slice aoA a.order.length aoc, .slice apA a.places.length apc] 41 (0, 0)) := (by rw [hW3]; exact (Below.heap_alloc _ _ _ (by simp; omega)).trans (heap_alloc2_old _ _ _))
  have hk3 : W3.heap[w.heap.size + 1]? = some (.cells #[.bool b.attach, .int .i64 b.buffer, .slice bdA b.damage.length bdc, .slice bfA b.frames.length bfc, .bool b.input, .bool b.all, .slice brA b.region.length brc, .bool b.ordered, .slice boA b.order.length boc, .slice bpA b.places.length bpc] 41 (0, 0)) := (by rw [hW3]; exact (Below.heap_alloc _ _ _ (by simp)).trans (heap_alloc2_new _ _ _))
  have hk4 : W3.heap[w.heap.size + 2]? = some (.cells #[.bool false, .int .i64 0, .slice none 0 0, .slice none 0 0, .bool false, .bool false, .slice none 0 0, .bool false, .slice none 0 0, .slice none 0 0] 41 (0, 0)) := by
    rw [hW3]
    have := heap_alloc_new ((w.alloc (.cells #[.bool a.attach, .int .i64 a.buffer, .slice adA a.damage.length adc, .slice afA a.frames.length afc, .bool a.input, .bool a.all, .slice arA a.region.length arc, .bool a.ordered, .slice aoA a.order.length aoc, .slice apA a.places.length apc] 41)).alloc (.cells #[.bool b.attach, .int .i64 b.buffer, .slice bdA b.damage.length bdc, .slice bfA b.frames.length bfc, .bool b.input, .bool b.all, .slice brA b.region.length brc, .bool b.ordered, .slice boA b.order.length boc, .slice bpA b.places.length bpc] 41)) (.cells #[.bool false, .int .i64 0, .slice none 0 0, .slice none 0 0, .bool false, .bool false, .slice none 0 0, .bool false, .slice none 0 0, .slice none 0 0] 41)
    simpa using this
  have r1 := had.below hbel (Nat.le_refl _)
  have r2 := haf.below hbel (Nat.le_refl _)
  have r3 := har.below hbel (Nat.le_refl _)
  have r4 := hao.below hbel (Nat.le_refl _)
  have r5 := hap.below hbel (Nat.le_refl _)
  have s1 := hbd.below hbel (Nat.le_refl _)
  have s2 := hbf.below hbel (Nat.le_refl _)
  have s3 := hbr.below hbel (Nat.le_refl _)
  have s4 := hbo.below hbel (Nat.le_refl _)
  have s5 := hbp.below hbel (Nat.le_refl _)
  have c2r := hide (fun W g (hB : Below W3.heap.size W3 W) h => at_rect (W := W) (g := g) (L := [⟨.slice adA a.damage.length adc, _, _⟩, ⟨.slice bdA b.damage.length bdc, _, _⟩]) hB h (src2 r1 (oneR a.damage) s1 (oneR b.damage)) (by simp) (by rw [sum_two]; have := hf.d; omega))
  have c2i := hide (fun W g (hB : Below W3.heap.size W3 W) h => at_int (W := W) (g := g) (L := [⟨.slice afA a.frames.length afc, _, _⟩, ⟨.slice bfA b.frames.length bfc, _, _⟩]) hB h (src2 r2 (oneI a.frames) s2 (oneI b.frames)) (by simp) (by rw [sum_two]; have := hf.f; omega))
  have c1r := hide (fun W g (hB : Below W3.heap.size W3 W) h => at_rect (W := W) (g := g) (L := [⟨.slice arA a.region.length arc, _, _⟩]) hB h (src1 r3 (oneR a.region)) (by simp) (by rw [sum_one]; have := hf.r; omega))
  have d1r := hide (fun (W : World) (k : Nat) (hk : W.heap.size = k) (hB : Below W3.heap.size W3 W) => all1D_rect (W := W) k hk hB s3 (oneR b.region) (by have := hf.r; omega))
  have c1i := hide (fun W g (hB : Below W3.heap.size W3 W) h => at_int (W := W) (g := g) (L := [⟨.slice aoA a.order.length aoc, _, _⟩]) hB h (src1 r4 (oneI a.order)) (by simp) (by rw [sum_one]; have := hf.o; omega))
  rw [sum_two, cat_two] at c2r c2i
  rw [sum_one, cat_one] at c1r c1i
  have d1i := hide (fun W hB => all1_int (W := W) hB s4 (oneI b.order) (by have := hf.o; omega))
  have cpl := hide (fun W hB => places2 (W := W) hB r5 s5 hf.p)
  have b0 : Below W3.heap.size W3 W3.drew := below_drewN (Below.refl _ _) 1
  have b00 : ∀ o, Below W3.heap.size W3 (W3.alloc o).drew := fun o => below_drewN ((Below.refl _ _).alloc (Nat.le_refl _) o) 1
  have b000 : ∀ o o', Below W3.heap.size W3 ((W3.alloc o).alloc o').drew := fun o o' => below_drewN (((Below.refl _ _).alloc (Nat.le_refl _) o).alloc (by simp) o') 1
  have kS : Hid (∀ w' : World, Below W3.heap.size W3 w' → (w'.cell? ⟨w.heap.size, 0, none⟩ = some (.bool a.attach) ∧ w'.cell? ⟨w.heap.size, 1, none⟩ = some (.int .i64 a.buffer) ∧ w'.cell? ⟨w.heap.size, 2, none⟩ = some (.slice adA a.damage.length adc) ∧ w'.cell? ⟨w.heap.size, 3, none⟩ = some (.slice afA a.frames.length afc) ∧ w'.cell? ⟨w.heap.size, 4, none⟩ = some (.bool a.input) ∧ w'.cell? ⟨w.heap.size, 5, none⟩ = some (.bool a.all) ∧ w'.cell? ⟨w.heap.size, 6, none⟩ = some (.slice arA a.region.length arc) ∧ w'.cell? ⟨w.heap.size, 7, none⟩ = some (.bool a.ordered) ∧ w'.cell? ⟨w.heap.size, 8, none⟩ = some (.slice aoA a.order.length aoc) ∧ w'.cell? ⟨w.heap.size, 9, none⟩ = some (.slice apA a.places.length apc) ∧ w'.cell? ⟨w.heap.size + 1, 2, none⟩ = some (.slice bdA b.damage.length bdc) ∧ w'.cell? ⟨w.heap.size + 1, 3, none⟩ = some (.slice bfA b.frames.length bfc) ∧ w'.cell? ⟨w.heap.size + 1, 9, none⟩ = some (.slice bpA b.places.length bpc))) := hide fun w' hB => by
    have e2 : w'.heap[w.heap.size]? = _ := (hB.block _ (by omega)).trans hk2
    have e3 : w'.heap[w.heap.size + 1]? = _ := (hB.block _ (by omega)).trans hk3
    refine ⟨?_, ?_, ?_, ?_, ?_, ?_, ?_, ?_, ?_, ?_, ?_, ?_, ?_⟩
    iterate 10 (first | (rw [cell_of_row w' _ _ _ _ _ e2]; rfl) | skip)
    all_goals (rw [cell_of_row w' _ _ _ _ _ e3]; rfl)
  obtain ⟨k0, k1, k2, k3, k4, k5, k6, k7, k8, k9, l2, l3, l9⟩ := kS.out W3 (Below.refl _ _)
  replace hW3 := hide hW3
  replace hsz := hide hsz
  replace hk2 := hide hk2
  replace hk3 := hide hk3
  replace hk4 := hide hk4
  replace hbel := hide hbel
  clear had haf har hao hap hbd hbf hbr hbo hbp hf r1 r2 r3 r4 r5 s1 s2 s3 s4 s5
  unfold stVal
  dsimp only
  obtain ⟨S, hS⟩ : ∃ S, S = mergeT a b := ⟨_, rfl⟩
  rw [← hS]
  replace hS := hide hS
  go_enter Tryz.func107, Tryz.ntmps107
  go_wp2
  rw [← hW3.out]
  go_upto_region 2 with fail
  go_cut [5] (fun u wx => ∃ g v1 v2 v3 v4 v5, u = .pointer (some ⟨g, 0, none⟩) ∧ Hid (Mg W3 g #[.bool a.attach, .int .i64 a.buffer, v1, v2, .bool a.input, .bool a.all, v3, .bool a.ordered, v4, v5] (mgRows (a.damage ++ b.damage) (a.frames ++ b.frames) a.region a.order (putsP a.places b.places) v1 v2 v3 v4 v5) wx))
  case first =>
    rename_i J K' hJ hK
    refine wp_region_plan (m := 37) (n := 68) (l := [.is (.pointer (some ⟨w.heap.size, 0, none⟩)), .is (.bool a.attach), .is (.pointer (some ⟨w.heap.size, 1, none⟩)), .is (.int .i64 a.buffer), .is (.pointer (some ⟨w.heap.size, 2, none⟩)), .is (.slice adA a.damage.length adc), .is (.pointer (some ⟨w.heap.size + 1, 2, none⟩)), .is (.slice bdA b.damage.length bdc), .row W3.heap.size 31 [.slice adA a.damage.length adc, .slice bdA b.damage.length bdc], .own W3.heap.size 30 4 (a.damage.length + b.damage.length) (a.damage.flatMap R4.enc ++ b.damage.flatMap R4.enc), .is (.pointer (some ⟨w.heap.size, 3, none⟩)), .is (.slice afA a.frames.length afc), .is (.pointer (some ⟨w.heap.size + 1, 3, none⟩)), .is (.slice bfA b.frames.length bfc), .row W3.heap.size 38 [.slice afA a.frames.length afc, .slice bfA b.frames.length bfc], .own W3.heap.size 3 1 (a.frames.length + b.frames.length) (a.frames.map (Value.int .i64) ++ b.frames.map (Value.int .i64)), .is (.pointer (some ⟨w.heap.size, 4, none⟩)), .is (.bool a.input), .is (.pointer (some ⟨w.heap.size, 5, none⟩)), .is (.bool a.all), .is (.pointer (some ⟨w.heap.size, 6, none⟩)), .is (.slice arA a.region.length arc), .row W3.heap.size 31 [.slice arA a.region.length arc], .own W3.heap.size 30 4 a.region.length (a.region.flatMap R4.enc), .is (.pointer (some ⟨w.heap.size, 7, none⟩)), .is (.bool a.ordered), .is (.pointer (some ⟨w.heap.size, 8, none⟩)), .is (.slice aoA a.order.length aoc), .row W3.heap.size 38 [.slice aoA a.order.length aoc], .own W3.heap.size 3 1 a.order.length (a.order.map (Value.int .i64)), .is (.pointer (some ⟨w.heap.size, 9, none⟩)), .is (.slice apA a.places.length apc), .is (.pointer (some ⟨w.heap.size + 1, 9, none⟩)), .is (.slice bpA b.places.length bpc), .own W3.heap.size 62 3 (putsP a.places b.places).length ((putsP a.places b.places).flatMap Ch.enc), mgBuild W3 a b, .box W3.heap.size 41 #[.bool false, .int .i64 0, .slice none 0 0, .slice none 0 0, .bool false, .bool false, .slice none 0 0, .bool false, .slice none 0 0, .slice none 0 0]]) (by kernel_rfl) rfl (by kernel_rfl) rfl ?_ ?_
    · show AllBelow _ 37
      refine ⟨⟨⟨⟨⟨⟨⟨⟨⟨⟨⟨⟨⟨⟨⟨⟨⟨⟨⟨⟨⟨⟨⟨⟨⟨⟨⟨⟨⟨⟨⟨⟨⟨⟨⟨⟨⟨trivial, ?_⟩, ?_⟩, ?_⟩, ?_⟩, ?_⟩, ?_⟩, ?_⟩, ?_⟩, ?_⟩, ?_⟩, ?_⟩, ?_⟩, ?_⟩, ?_⟩, ?_⟩, ?_⟩, ?_⟩, ?_⟩, ?_⟩, ?_⟩, ?_⟩, ?_⟩, ?_⟩, ?_⟩, ?_⟩, ?_⟩, ?_⟩, ?_⟩, ?_⟩, ?_⟩, ?_⟩, ?_⟩, ?_⟩, ?_⟩, ?_⟩, ?_⟩, ?_⟩
      · intro o ho a1 w1 hk hb F; obtain rfl := Option.some.inj ho; have h : a1.tmps[2]?.getD undef = .pointer (some ⟨w.heap.size, 0, none⟩) := (Array.getD_eq_getD_getElem?).symm.trans (hk.free (j := 2) rfl); refine wpOp_val rfl rfl (v := .pointer (some ⟨w.heap.size, 0, none⟩)) ?_ ⟨_, rfl, Below.refl _ _, rfl⟩; simp [execOp, Act.eval, go_sem, h]
      · intro o ho a1 w1 hk hb F; obtain rfl := Option.some.inj ho; have f : a1.tmps[6]?.getD undef = .pointer (some ⟨w.heap.size, 0, none⟩) := (Array.getD_eq_getD_getElem?).symm.trans (F 0 _ rfl rfl); have c := (kS.out _ hb).1; refine wpOp_val rfl rfl (v := .bool a.attach) ?_ ⟨_, rfl, Below.refl _ _, rfl⟩; simp [execOp, Act.eval, go_sem, f, c]
      · intro o ho a1 w1 hk hb F; obtain rfl := Option.some.inj ho; have h : a1.tmps[2]?.getD undef = .pointer (some ⟨w.heap.size, 0, none⟩) := (Array.getD_eq_getD_getElem?).symm.trans (hk.free (j := 2) rfl); refine wpOp_val rfl rfl (v := .pointer (some ⟨w.heap.size, 1, none⟩)) ?_ ⟨_, rfl, Below.refl _ _, rfl⟩; simp [execOp, Act.eval, go_sem, h]
      · intro o ho a1 w1 hk hb F; obtain rfl := Option.some.inj ho; have f : a1.tmps[8]?.getD undef = .pointer (some ⟨w.heap.size, 1, none⟩) := (Array.getD_eq_getD_getElem?).symm.trans (F 2 _ rfl rfl); have c := (kS.out _ hb).2.1; refine wpOp_val rfl rfl (v := .int .i64 a.buffer) ?_ ⟨_, rfl, Below.refl _ _, rfl⟩; simp [execOp, Act.eval, go_sem, f, c]
      · intro o ho a1 w1 hk hb F; obtain rfl := Option.some.inj ho; have h : a1.tmps[2]?.getD undef = .pointer (some ⟨w.heap.size, 0, none⟩) := (Array.getD_eq_getD_getElem?).symm.trans (hk.free (j := 2) rfl); refine wpOp_val rfl rfl (v := .pointer (some ⟨w.heap.size, 2, none⟩)) ?_ ⟨_, rfl, Below.refl _ _, rfl⟩; simp [execOp, Act.eval, go_sem, h]
      · intro o ho a1 w1 hk hb F; obtain rfl := Option.some.inj ho; have f : a1.tmps[10]?.getD undef = .pointer (some ⟨w.heap.size, 2, none⟩) := (Array.getD_eq_getD_getElem?).symm.trans (F 4 _ rfl rfl); have c := (kS.out _ hb).2.2.1; refine wpOp_val rfl rfl (v := .slice adA a.damage.length adc) ?_ ⟨_, rfl, Below.refl _ _, rfl⟩; simp [execOp, Act.eval, go_sem, f, c]
      · intro o ho a1 w1 hk hb F; obtain rfl := Option.some.inj ho; have h : a1.tmps[3]?.getD undef = .pointer (some ⟨w.heap.size + 1, 0, none⟩) := (Array.getD_eq_getD_getElem?).symm.trans (hk.free (j := 3) rfl); refine wpOp_val rfl rfl (v := .pointer (some ⟨w.heap.size + 1, 2, none⟩)) ?_ ⟨_, rfl, Below.refl _ _, rfl⟩; simp [execOp, Act.eval, go_sem, h]
      · intro o ho a1 w1 hk hb F; obtain rfl := Option.some.inj ho; have f : a1.tmps[12]?.getD undef = .pointer (some ⟨w.heap.size + 1, 2, none⟩) := (Array.getD_eq_getD_getElem?).symm.trans (F 6 _ rfl rfl); have c := (kS.out _ hb).2.2.2.2.2.2.2.2.2.2.1; refine wpOp_val rfl rfl (v := .slice bdA b.damage.length bdc) ?_ ⟨_, rfl, Below.refl _ _, rfl⟩; simp [execOp, Act.eval, go_sem, f, c]
      · intro o ho a1 w1 hk hb F; obtain rfl := Option.some.inj ho; have f0 : a1.tmps[11]?.getD undef = .slice adA a.damage.length adc := (Array.getD_eq_getD_getElem?).symm.trans (F 5 _ rfl rfl); have f1 : a1.tmps[13]?.getD undef = .slice bdA b.damage.length bdc := (Array.getD_eq_getD_getElem?).symm.trans (F 7 _ rfl rfl); refine wpOp_val rfl rfl (v := .slice (some ⟨w1.heap.size, 0, none⟩) 2 2) (w' := w1.alloc (.cells #[.slice adA a.damage.length adc, .slice bdA b.damage.length bdc] 31)) ?_ ⟨_, rfl, (Below.refl _ _).alloc (Nat.le_refl _) _, w1.heap.size, rfl, hb.size, heap_alloc_new _ _⟩; simp [execOp, Act.eval, go_sem, f0, f1]
      · intro o ho a1 w1 hk hb F; obtain rfl := Option.some.inj ho; obtain ⟨g, fv, fg, fh⟩ := F 8 _ rfl rfl; refine wpOp_call rfl rfl (f := 134) (args := #[.slice (some ⟨g, 0, none⟩) 2 2]) ?_ ((c2r.out _ g hb fh).mono fun e w2 ⟨v, he, ho, hb2⟩ => ⟨v, he, _, rfl, hb2, ho⟩); simp [execOp, Act.eval, go_sem]; exact (Array.getD_eq_getD_getElem?).symm.trans fv
      · intro o ho a1 w1 hk hb F; obtain rfl := Option.some.inj ho; have h : a1.tmps[2]?.getD undef = .pointer (some ⟨w.heap.size, 0, none⟩) := (Array.getD_eq_getD_getElem?).symm.trans (hk.free (j := 2) rfl); refine wpOp_val rfl rfl (v := .pointer (some ⟨w.heap.size, 3, none⟩)) ?_ ⟨_, rfl, Below.refl _ _, rfl⟩; simp [execOp, Act.eval, go_sem, h]
      · intro o ho a1 w1 hk hb F; obtain rfl := Option.some.inj ho; have f : a1.tmps[16]?.getD undef = .pointer (some ⟨w.heap.size, 3, none⟩) := (Array.getD_eq_getD_getElem?).symm.trans (F 10 _ rfl rfl); have c := (kS.out _ hb).2.2.2.1; refine wpOp_val rfl rfl (v := .slice afA a.frames.length afc) ?_ ⟨_, rfl, Below.refl _ _, rfl⟩; simp [execOp, Act.eval, go_sem, f, c]
      · intro o ho a1 w1 hk hb F; obtain rfl := Option.some.inj ho; have h : a1.tmps[3]?.getD undef = .pointer (some ⟨w.heap.size + 1, 0, none⟩) := (Array.getD_eq_getD_getElem?).symm.trans (hk.free (j := 3) rfl); refine wpOp_val rfl rfl (v := .pointer (some ⟨w.heap.size + 1, 3, none⟩)) ?_ ⟨_, rfl, Below.refl _ _, rfl⟩; simp [execOp, Act.eval, go_sem, h]
      · intro o ho a1 w1 hk hb F; obtain rfl := Option.some.inj ho; have f : a1.tmps[18]?.getD undef = .pointer (some ⟨w.heap.size + 1, 3, none⟩) := (Array.getD_eq_getD_getElem?).symm.trans (F 12 _ rfl rfl); have c := (kS.out _ hb).2.2.2.2.2.2.2.2.2.2.2.1; refine wpOp_val rfl rfl (v := .slice bfA b.frames.length bfc) ?_ ⟨_, rfl, Below.refl _ _, rfl⟩; simp [execOp, Act.eval, go_sem, f, c]
      · intro o ho a1 w1 hk hb F; obtain rfl := Option.some.inj ho; have f0 : a1.tmps[17]?.getD undef = .slice afA a.frames.length afc := (Array.getD_eq_getD_getElem?).symm.trans (F 11 _ rfl rfl); have f1 : a1.tmps[19]?.getD undef = .slice bfA b.frames.length bfc := (Array.getD_eq_getD_getElem?).symm.trans (F 13 _ rfl rfl); refine wpOp_val rfl rfl (v := .slice (some ⟨w1.heap.size, 0, none⟩) 2 2) (w' := w1.alloc (.cells #[.slice afA a.frames.length afc, .slice bfA b.frames.length bfc] 38)) ?_ ⟨_, rfl, (Below.refl _ _).alloc (Nat.le_refl _) _, w1.heap.size, rfl, hb.size, heap_alloc_new _ _⟩; simp [execOp, Act.eval, go_sem, f0, f1]
      · intro o ho a1 w1 hk hb F; obtain rfl := Option.some.inj ho; obtain ⟨g, fv, fg, fh⟩ := F 14 _ rfl rfl; refine wpOp_call rfl rfl (f := 135) (args := #[.slice (some ⟨g, 0, none⟩) 2 2]) ?_ ((c2i.out _ g hb fh).mono fun e w2 ⟨v, he, ho, hb2⟩ => ⟨v, he, _, rfl, hb2, ho⟩); simp [execOp, Act.eval, go_sem]; exact (Array.getD_eq_getD_getElem?).symm.trans fv
      · intro o ho a1 w1 hk hb F; obtain rfl := Option.some.inj ho; have h : a1.tmps[2]?.getD undef = .pointer (some ⟨w.heap.size, 0, none⟩) := (Array.getD_eq_getD_getElem?).symm.trans (hk.free (j := 2) rfl); refine wpOp_val rfl rfl (v := .pointer (some ⟨w.heap.size, 4, none⟩)) ?_ ⟨_, rfl, Below.refl _ _, rfl⟩; simp [execOp, Act.eval, go_sem, h]
      · intro o ho a1 w1 hk hb F; obtain rfl := Option.some.inj ho; have f : a1.tmps[22]?.getD undef = .pointer (some ⟨w.heap.size, 4, none⟩) := (Array.getD_eq_getD_getElem?).symm.trans (F 16 _ rfl rfl); have c := (kS.out _ hb).2.2.2.2.1; refine wpOp_val rfl rfl (v := .bool a.input) ?_ ⟨_, rfl, Below.refl _ _, rfl⟩; simp [execOp, Act.eval, go_sem, f, c]
      · intro o ho a1 w1 hk hb F; obtain rfl := Option.some.inj ho; have h : a1.tmps[2]?.getD undef = .pointer (some ⟨w.heap.size, 0, none⟩) := (Array.getD_eq_getD_getElem?).symm.trans (hk.free (j := 2) rfl); refine wpOp_val rfl rfl (v := .pointer (some ⟨w.heap.size, 5, none⟩)) ?_ ⟨_, rfl, Below.refl _ _, rfl⟩; simp [execOp, Act.eval, go_sem, h]
      · intro o ho a1 w1 hk hb F; obtain rfl := Option.some.inj ho; have f : a1.tmps[24]?.getD undef = .pointer (some ⟨w.heap.size, 5, none⟩) := (Array.getD_eq_getD_getElem?).symm.trans (F 18 _ rfl rfl); have c := (kS.out _ hb).2.2.2.2.2.1; refine wpOp_val rfl rfl (v := .bool a.all) ?_ ⟨_, rfl, Below.refl _ _, rfl⟩; simp [execOp, Act.eval, go_sem, f, c]
      · intro o ho a1 w1 hk hb F; obtain rfl := Option.some.inj ho; have h : a1.tmps[2]?.getD undef = .pointer (some ⟨w.heap.size, 0, none⟩) := (Array.getD_eq_getD_getElem?).symm.trans (hk.free (j := 2) rfl); refine wpOp_val rfl rfl (v := .pointer (some ⟨w.heap.size, 6, none⟩)) ?_ ⟨_, rfl, Below.refl _ _, rfl⟩; simp [execOp, Act.eval, go_sem, h]
      · intro o ho a1 w1 hk hb F; obtain rfl := Option.some.inj ho; have f : a1.tmps[26]?.getD undef = .pointer (some ⟨w.heap.size, 6, none⟩) := (Array.getD_eq_getD_getElem?).symm.trans (F 20 _ rfl rfl); have c := (kS.out _ hb).2.2.2.2.2.2.1; refine wpOp_val rfl rfl (v := .slice arA a.region.length arc) ?_ ⟨_, rfl, Below.refl _ _, rfl⟩; simp [execOp, Act.eval, go_sem, f, c]
      · intro o ho a1 w1 hk hb F; obtain rfl := Option.some.inj ho; have f0 : a1.tmps[27]?.getD undef = .slice arA a.region.length arc := (Array.getD_eq_getD_getElem?).symm.trans (F 21 _ rfl rfl); refine wpOp_val rfl rfl (v := .slice (some ⟨w1.heap.size, 0, none⟩) 1 1) (w' := w1.alloc (.cells #[.slice arA a.region.length arc] 31)) ?_ ⟨_, rfl, (Below.refl _ _).alloc (Nat.le_refl _) _, w1.heap.size, rfl, hb.size, heap_alloc_new _ _⟩; simp [execOp, Act.eval, go_sem, f0]
      · intro o ho a1 w1 hk hb F; obtain rfl := Option.some.inj ho; obtain ⟨g, fv, fg, fh⟩ := F 22 _ rfl rfl; refine wpOp_call rfl rfl (f := 134) (args := #[.slice (some ⟨g, 0, none⟩) 1 1]) ?_ ((c1r.out _ g hb fh).mono fun e w2 ⟨v, he, ho, hb2⟩ => ⟨v, he, _, rfl, hb2, ho⟩); simp [execOp, Act.eval, go_sem]; exact (Array.getD_eq_getD_getElem?).symm.trans fv
      · intro o ho a1 w1 hk hb F; obtain rfl := Option.some.inj ho; have h : a1.tmps[2]?.getD undef = .pointer (some ⟨w.heap.size, 0, none⟩) := (Array.getD_eq_getD_getElem?).symm.trans (hk.free (j := 2) rfl); refine wpOp_val rfl rfl (v := .pointer (some ⟨w.heap.size, 7, none⟩)) ?_ ⟨_, rfl, Below.refl _ _, rfl⟩; simp [execOp, Act.eval, go_sem, h]
      · intro o ho a1 w1 hk hb F; obtain rfl := Option.some.inj ho; have f : a1.tmps[30]?.getD undef = .pointer (some ⟨w.heap.size, 7, none⟩) := (Array.getD_eq_getD_getElem?).symm.trans (F 24 _ rfl rfl); have c := (kS.out _ hb).2.2.2.2.2.2.2.1; refine wpOp_val rfl rfl (v := .bool a.ordered) ?_ ⟨_, rfl, Below.refl _ _, rfl⟩; simp [execOp, Act.eval, go_sem, f, c]
      · intro o ho a1 w1 hk hb F; obtain rfl := Option.some.inj ho; have h : a1.tmps[2]?.getD undef = .pointer (some ⟨w.heap.size, 0, none⟩) := (Array.getD_eq_getD_getElem?).symm.trans (hk.free (j := 2) rfl); refine wpOp_val rfl rfl (v := .pointer (some ⟨w.heap.size, 8, none⟩)) ?_ ⟨_, rfl, Below.refl _ _, rfl⟩; simp [execOp, Act.eval, go_sem, h]
      · intro o ho a1 w1 hk hb F; obtain rfl := Option.some.inj ho; have f : a1.tmps[32]?.getD undef = .pointer (some ⟨w.heap.size, 8, none⟩) := (Array.getD_eq_getD_getElem?).symm.trans (F 26 _ rfl rfl); have c := (kS.out _ hb).2.2.2.2.2.2.2.2.1; refine wpOp_val rfl rfl (v := .slice aoA a.order.length aoc) ?_ ⟨_, rfl, Below.refl _ _, rfl⟩; simp [execOp, Act.eval, go_sem, f, c]
      · intro o ho a1 w1 hk hb F; obtain rfl := Option.some.inj ho; have f0 : a1.tmps[33]?.getD undef = .slice aoA a.order.length aoc := (Array.getD_eq_getD_getElem?).symm.trans (F 27 _ rfl rfl); refine wpOp_val rfl rfl (v := .slice (some ⟨w1.heap.size, 0, none⟩) 1 1) (w' := w1.alloc (.cells #[.slice aoA a.order.length aoc] 38)) ?_ ⟨_, rfl, (Below.refl _ _).alloc (Nat.le_refl _) _, w1.heap.size, rfl, hb.size, heap_alloc_new _ _⟩; simp [execOp, Act.eval, go_sem, f0]
      · intro o ho a1 w1 hk hb F; obtain rfl := Option.some.inj ho; obtain ⟨g, fv, fg, fh⟩ := F 28 _ rfl rfl; refine wpOp_call rfl rfl (f := 135) (args := #[.slice (some ⟨g, 0, none⟩) 1 1]) ?_ ((c1i.out _ g hb fh).mono fun e w2 ⟨v, he, ho, hb2⟩ => ⟨v, he, _, rfl, hb2, ho⟩); simp [execOp, Act.eval, go_sem]; exact (Array.getD_eq_getD_getElem?).symm.trans fv
      · intro o ho a1 w1 hk hb F; obtain rfl := Option.some.inj ho; have h : a1.tmps[2]?.getD undef = .pointer (some ⟨w.heap.size, 0, none⟩) := (Array.getD_eq_getD_getElem?).symm.trans (hk.free (j := 2) rfl); refine wpOp_val rfl rfl (v := .pointer (some ⟨w.heap.size, 9, none⟩)) ?_ ⟨_, rfl, Below.refl _ _, rfl⟩; simp [execOp, Act.eval, go_sem, h]
      · intro o ho a1 w1 hk hb F; obtain rfl := Option.some.inj ho; have f : a1.tmps[36]?.getD undef = .pointer (some ⟨w.heap.size, 9, none⟩) := (Array.getD_eq_getD_getElem?).symm.trans (F 30 _ rfl rfl); have c := (kS.out _ hb).2.2.2.2.2.2.2.2.2.1; refine wpOp_val rfl rfl (v := .slice apA a.places.length apc) ?_ ⟨_, rfl, Below.refl _ _, rfl⟩; simp [execOp, Act.eval, go_sem, f, c]
      · intro o ho a1 w1 hk hb F; obtain rfl := Option.some.inj ho; have h : a1.tmps[3]?.getD undef = .pointer (some ⟨w.heap.size + 1, 0, none⟩) := (Array.getD_eq_getD_getElem?).symm.trans (hk.free (j := 3) rfl); refine wpOp_val rfl rfl (v := .pointer (some ⟨w.heap.size + 1, 9, none⟩)) ?_ ⟨_, rfl, Below.refl _ _, rfl⟩; simp [execOp, Act.eval, go_sem, h]
      · intro o ho a1 w1 hk hb F; obtain rfl := Option.some.inj ho; have f : a1.tmps[38]?.getD undef = .pointer (some ⟨w.heap.size + 1, 9, none⟩) := (Array.getD_eq_getD_getElem?).symm.trans (F 32 _ rfl rfl); have c := (kS.out _ hb).2.2.2.2.2.2.2.2.2.2.2.2; refine wpOp_val rfl rfl (v := .slice bpA b.places.length bpc) ?_ ⟨_, rfl, Below.refl _ _, rfl⟩; simp [execOp, Act.eval, go_sem, f, c]
      · intro o ho a1 w1 hk hb F; obtain rfl := Option.some.inj ho; have f0 : a1.tmps[37]?.getD undef = .slice apA a.places.length apc := (Array.getD_eq_getD_getElem?).symm.trans (F 31 _ rfl rfl); have f1 : a1.tmps[39]?.getD undef = .slice bpA b.places.length bpc := (Array.getD_eq_getD_getElem?).symm.trans (F 33 _ rfl rfl); refine wpOp_call rfl rfl (f := 136) (args := #[.slice apA a.places.length apc, .slice bpA b.places.length bpc]) ?_ ((cpl.out _ hb).mono fun e w2 ⟨v, he, ho, hb2⟩ => ⟨v, he, _, rfl, hb2, ho⟩); simp [execOp, Act.eval, go_sem, f0, f1]
      · intro o ho a1 w1 hk hb F
        obtain rfl := Option.some.inj ho
        have f1 : a1.tmps[7]?.getD undef = .bool a.attach := (Array.getD_eq_getD_getElem?).symm.trans (F 1 _ rfl rfl)
        have f3 : a1.tmps[9]?.getD undef = .int .i64 a.buffer := (Array.getD_eq_getD_getElem?).symm.trans (F 3 _ rfl rfl)
        have g9 := F 9 _ rfl rfl
        change w1.ownsRow _ _ _ (a1.tmps.getD 15 undef) _ _ at g9
        rw [Array.getD_eq_getD_getElem?] at g9
        obtain ⟨AA9, cc9, f9, _⟩ := own_form g9
        rw [f9] at g9
        have g15 := F 15 _ rfl rfl
        change w1.ownsRow _ _ _ (a1.tmps.getD 21 undef) _ _ at g15
        rw [Array.getD_eq_getD_getElem?] at g15
        obtain ⟨AA15, cc15, f15, _⟩ := own_form g15
        rw [f15] at g15
        have f17 : a1.tmps[23]?.getD undef = .bool a.input := (Array.getD_eq_getD_getElem?).symm.trans (F 17 _ rfl rfl)
        have f19 : a1.tmps[25]?.getD undef = .bool a.all := (Array.getD_eq_getD_getElem?).symm.trans (F 19 _ rfl rfl)
        have g23 := F 23 _ rfl rfl
        change w1.ownsRow _ _ _ (a1.tmps.getD 29 undef) _ _ at g23
        rw [Array.getD_eq_getD_getElem?] at g23
        obtain ⟨AA23, cc23, f23, _⟩ := own_form g23
        rw [f23] at g23
        have f25 : a1.tmps[31]?.getD undef = .bool a.ordered := (Array.getD_eq_getD_getElem?).symm.trans (F 25 _ rfl rfl)
        have g29 := F 29 _ rfl rfl
        change w1.ownsRow _ _ _ (a1.tmps.getD 35 undef) _ _ at g29
        rw [Array.getD_eq_getD_getElem?] at g29
        obtain ⟨AA29, cc29, f29, _⟩ := own_form g29
        rw [f29] at g29
        have g34 := F 34 _ rfl rfl
        change w1.ownsRow _ _ _ (a1.tmps.getD 40 undef) _ _ at g34
        rw [Array.getD_eq_getD_getElem?] at g34
        obtain ⟨AA34, cc34, f34, _⟩ := own_form g34
        rw [f34] at g34
        refine wpOp_val rfl rfl (v := .agg #[.bool a.attach, .int .i64 a.buffer, .slice AA9 _ cc9, .slice AA15 _ cc15, .bool a.input, .bool a.all, .slice AA23 _ cc23, .bool a.ordered, .slice AA29 _ cc29, .slice AA34 _ cc34]) ?_ ⟨_, rfl, Below.refl _ _, _, _, _, _, _, rfl, g9, g15, g23, g29, g34⟩
        simp [execOp, Act.eval, go_sem, f1, f3, f9, f15, f17, f19, f23, f25, f29, f34]
      · intro o ho a1 w1 hk hb F
        obtain rfl := Option.some.inj ho
        refine wpOp_val rfl rfl (v := .pointer (some ⟨w1.heap.size, 0, none⟩)) (w' := w1.alloc (.cells #[.bool false, .int .i64 0, .slice none 0 0, .slice none 0 0, .bool false, .bool false, .slice none 0 0, .bool false, .slice none 0 0, .slice none 0 0] 41)) ?_ ⟨_, rfl, (Below.refl _ _).alloc (Nat.le_refl _) _, w1.heap.size, rfl, hb.size, heap_alloc_new _ _⟩
        simp [execOp, go_sem]
    · intro a1 w1 hk hb F
      obtain ⟨v1, v2, v3, v4, v5, fv, g1, g2, g3, g4, g5⟩ := F 35 _ rfl (by decide)
      obtain ⟨g, hg0, hg1, hg2⟩ := F 36 _ rfl (by decide)
      obtain ⟨AA1, cc1, rfl, _⟩ := own_form g1
      obtain ⟨AA2, cc2, rfl, _⟩ := own_form g2
      obtain ⟨AA3, cc3, rfl, _⟩ := own_form g3
      obtain ⟨AA4, cc4, rfl, _⟩ := own_form g4
      obtain ⟨AA5, cc5, rfl, _⟩ := own_form g5
      have f0 : a1.tmps[41]?.getD undef = _ := (Array.getD_eq_getD_getElem?).symm.trans fv
      have f1 : a1.tmps[5]?.getD undef = _ := (Array.getD_eq_getD_getElem?).symm.trans hg0
      obtain ⟨cm0, cm1, cm2, cm3, cm4, cm5, cm6, cm7, cm8, cm9⟩ := cells10 hg2
      have fm0 := frozen_of_row w1 g 0 _ _ hg2
      have fm1 := frozen_of_row w1 g 1 _ _ hg2
      have fm2 := frozen_of_row w1 g 2 _ _ hg2
      have fm3 := frozen_of_row w1 g 3 _ _ hg2
      have fm4 := frozen_of_row w1 g 4 _ _ hg2
      have fm5 := frozen_of_row w1 g 5 _ _ hg2
      have fm6 := frozen_of_row w1 g 6 _ _ hg2
      have fm7 := frozen_of_row w1 g 7 _ _ hg2
      have fm8 := frozen_of_row w1 g 8 _ _ hg2
      have fm9 := frozen_of_row w1 g 9 _ _ hg2
      have M0 : Mg W3 g #[.bool false, .int .i64 0, .slice none 0 0, .slice none 0 0, .bool false, .bool false, .slice none 0 0, .bool false, .slice none 0 0, .slice none 0 0] (mgRows (a.damage ++ b.damage) (a.frames ++ b.frames) a.region a.order (putsP a.places b.places) (.slice AA1 (a.damage.length + b.damage.length) cc1) (.slice AA2 (a.frames.length + b.frames.length) cc2) (.slice AA3 a.region.length cc3) (.slice AA4 a.order.length cc4) (.slice AA5 (putsP a.places b.places).length cc5)) w1 :=
        mgRows_mk hg2 hb hg1 (by rw [List.length_append, List.flatMap_append]; exact g1) (by rw [List.length_append, List.map_append]; exact g2) g3 g4 g5
      have M1 := (((((((((M0.set 0 (.bool a.attach)).set 1 (.int .i64 a.buffer)).set 2 (.slice AA1 (a.damage.length + b.damage.length) cc1)).set 3 (.slice AA2 (a.frames.length + b.frames.length) cc2)).set 4 (.bool a.input)).set 5 (.bool a.all)).set 6 (.slice AA3 a.region.length cc3)).set 7 (.bool a.ordered)).set 8 (.slice AA4 a.order.length cc4)).set 9 (.slice AA5 (putsP a.places b.places).length cc5)
      have hcs : (((((((((((#[.bool false, .int .i64 0, .slice none 0 0, .slice none 0 0, .bool false, .bool false, .slice none 0 0, .bool false, .slice none 0 0, .slice none 0 0] : Array Value).setIfInBounds 0 (.bool a.attach)).setIfInBounds 1 (.int .i64 a.buffer)).setIfInBounds 2 (.slice AA1 (a.damage.length + b.damage.length) cc1)).setIfInBounds 3 (.slice AA2 (a.frames.length + b.frames.length) cc2)).setIfInBounds 4 (.bool a.input)).setIfInBounds 5 (.bool a.all)).setIfInBounds 6 (.slice AA3 a.region.length cc3)).setIfInBounds 7 (.bool a.ordered)).setIfInBounds 8 (.slice AA4 a.order.length cc4)).setIfInBounds 9 (.slice AA5 (putsP a.places b.places).length cc5)) = #[.bool a.attach, .int .i64 a.buffer, .slice AA1 (a.damage.length + b.damage.length) cc1, .slice AA2 (a.frames.length + b.frames.length) cc2, .bool a.input, .bool a.all, .slice AA3 a.region.length cc3, .bool a.ordered, .slice AA4 a.order.length cc4, .slice AA5 (putsP a.places b.places).length cc5] := by kernel_rfl
      rw [hcs] at M1
      refine wpOp_skip rfl rfl (by simp [execOp, Act.eval, go_sem, f0, f1, cm0, cm1, cm2, cm3, cm4, cm5, cm6, cm7, cm8, cm9, fm0, fm1, fm2, fm3, fm4, fm5, fm6, fm7, fm8, fm9]; rfl) ?_
      have e68 := arr_tab a1.tmps 68 hk.size
      have z0 : a1.tmps.getD 0 undef = .agg #[.bool a.attach, .int .i64 a.buffer, .slice adA a.damage.length adc, .slice afA a.frames.length afc, .bool a.input, .bool a.all, .slice arA a.region.length arc, .bool a.ordered, .slice aoA a.order.length aoc, .slice apA a.places.length apc] := hk.free (j := 0) rfl
      have z1 : a1.tmps.getD 1 undef = .agg #[.bool b.attach, .int .i64 b.buffer, .slice bdA b.damage.length bdc, .slice bfA b.frames.length bfc, .bool b.input, .bool b.all, .slice brA b.region.length brc, .bool b.ordered, .slice boA b.order.length boc, .slice bpA b.places.length bpc] := hk.free (j := 1) rfl
      have z2 : a1.tmps.getD 2 undef = .pointer (some ⟨w.heap.size, 0, none⟩) := hk.free (j := 2) rfl
      have z3 : a1.tmps.getD 3 undef = .pointer (some ⟨w.heap.size + 1, 0, none⟩) := hk.free (j := 3) rfl
      have z4 : a1.tmps.getD 4 undef = .pointer (some ⟨w.heap.size + 1 + 1, 0, none⟩) := hk.free (j := 4) rfl
      have z42 : a1.tmps.getD 42 undef = undef := hk.free (j := 42) rfl
      have z43 : a1.tmps.getD 43 undef = undef := hk.free (j := 43) rfl
      have z44 : a1.tmps.getD 44 undef = undef := hk.free (j := 44) rfl
      have z45 : a1.tmps.getD 45 undef = undef := hk.free (j := 45) rfl
      have z46 : a1.tmps.getD 46 undef = undef := hk.free (j := 46) rfl
      have z47 : a1.tmps.getD 47 undef = undef := hk.free (j := 47) rfl
      have z48 : a1.tmps.getD 48 undef = undef := hk.free (j := 48) rfl
      have z49 : a1.tmps.getD 49 undef = undef := hk.free (j := 49) rfl
      have z50 : a1.tmps.getD 50 undef = undef := hk.free (j := 50) rfl
      have z51 : a1.tmps.getD 51 undef = undef := hk.free (j := 51) rfl
      have z52 : a1.tmps.getD 52 undef = undef := hk.free (j := 52) rfl
      have z53 : a1.tmps.getD 53 undef = undef := hk.free (j := 53) rfl
      have z54 : a1.tmps.getD 54 undef = undef := hk.free (j := 54) rfl
      have z55 : a1.tmps.getD 55 undef = undef := hk.free (j := 55) rfl
      have z56 : a1.tmps.getD 56 undef = undef := hk.free (j := 56) rfl
      have z57 : a1.tmps.getD 57 undef = undef := hk.free (j := 57) rfl
      have z58 : a1.tmps.getD 58 undef = undef := hk.free (j := 58) rfl
      have z59 : a1.tmps.getD 59 undef = undef := hk.free (j := 59) rfl
      have z60 : a1.tmps.getD 60 undef = undef := hk.free (j := 60) rfl
      have z61 : a1.tmps.getD 61 undef = undef := hk.free (j := 61) rfl
      have z62 : a1.tmps.getD 62 undef = undef := hk.free (j := 62) rfl
      have z63 : a1.tmps.getD 63 undef = undef := hk.free (j := 63) rfl
      have z64 : a1.tmps.getD 64 undef = undef := hk.free (j := 64) rfl
      have z65 : a1.tmps.getD 65 undef = undef := hk.free (j := 65) rfl
      have z66 : a1.tmps.getD 66 undef = undef := hk.free (j := 66) rfl
      have z67 : a1.tmps.getD 67 undef = undef := hk.free (j := 67) rfl
      simp only [tabT, z0, z1, z2, z3, z4, z42, z43, z44, z45, z46, z47, z48, z49, z50, z51, z52, z53, z54, z55, z56, z57, z58, z59, z60, z61, z62, z63, z64, z65, z66, z67] at e68
      refine hK _ _ (Met.intro (hJ _ _ ?_))
      (repeat apply Exists.intro)
      refine ⟨?rel, ?fr⟩
      case fr => exact act_eq e68 hk.defers
      case rel => exact ⟨g, _, _, _, _, _, hg0, hide M1⟩
  case rest =>
    obtain ⟨g, v1, v2, v3, v4, v5, rfl, M6⟩ := hcut
    obtain ⟨W6, hW6⟩ : ∃ W6, W6 = wc := ⟨_, rfl⟩
    subst hW6
    have hgW := M6.out.hg
    have hgs : w.heap.size + 3 ≤ g := by rw [← hsz.out]; exact hgW
    have hb3 : ∀ W', Below W3.heap.size W3 W' → W'.heap[w.heap.size + 1]? = some (.cells #[.bool b.attach, .int .i64 b.buffer, .slice bdA b.damage.length bdc, .slice bfA b.frames.length bfc, .bool b.input, .bool b.all, .slice brA b.region.length brc, .bool b.ordered, .slice boA b.order.length boc, .slice bpA b.places.length bpc] 41 (0, 0)) := fun W' hb => (hb.block _ (by rw [hsz.out]; omega)).trans hk3.out
    have hb4 : ∀ W', Below W3.heap.size W3 W' → W'.heap[w.heap.size + 2]? = some (.cells #[.bool false, .int .i64 0, .slice none 0 0, .slice none 0 0, .bool false, .bool false, .slice none 0 0, .bool false, .slice none 0 0, .slice none 0 0] 41 (0, 0)) := fun W' hb => (hb.block _ (by rw [hsz.out]; omega)).trans hk4.out
    replace hb3 := hide hb3
    replace hb4 := hide hb4
    have n1 : w.heap.size + 1 ≠ g := by omega
    have n2 : w.heap.size + 2 ≠ g := by omega
    have hcl := hide hgW
    clear hgW kS b0 b00 b000 k0 k1 k2 k3 k4 k5 k6 k7 k8 k9 l2 l3 l9 c2r c2i c1r c1i cpl
    obtain ⟨m0, m1, m2, m3, m4, m5, m6, m7, m8, m9, f0, f1, f2, f3, f4, f5, f6, f7, f8, f9⟩ := M6.out.facts
    obtain ⟨c0, c1, c2, c3, c4, c5, c6, c7, c8, c9⟩ := cells10 (hb3.out _ M6.out.bel)
    obtain ⟨bt, hbt⟩ : ∃ x, x = b.attach := ⟨_, rfl⟩
    obtain ⟨bi, hbi⟩ : ∃ x, x = b.input := ⟨_, rfl⟩
    obtain ⟨bo, hbo⟩ : ∃ x, x = b.ordered := ⟨_, rfl⟩
    rw [← hbt] at c0
    replace hbt := hide hbt
    replace hbi := hide hbi
    replace hbo := hide hbo
    go_upto_if 43 with (fail)
    go_cut [5] (fun u wx => u = .pointer (some ⟨g, 0, none⟩) ∧ Hid (Mg W3 g #[.bool (a.attach || b.attach), .int .i64 (if b.attach then b.buffer else a.buffer), v1, v2, .bool a.input, .bool a.all, v3, .bool a.ordered, v4, v5] (mgRows (a.damage ++ b.damage) (a.frames ++ b.frames) a.region a.order (putsP a.places b.places) v1 v2 v3 v4 v5) wx))
    case first =>
      cases bt
      · go_wp2
        go_meet
        exact ⟨rfl, hide (by rw [← hbt.out]; simpa using M6.out)⟩
      · have M7 := hide (((M6.out.set 0 (.bool true)).set 1 (.int .i64 b.buffer)).drew)
        have s1 : (W6.setCell ⟨g, 0, none⟩ (.bool true)).drew.cell? ⟨w.heap.size + 1, 1, none⟩ = some (.int .i64 b.buffer) := (cells10 (hb3.out _ (M6.out.set 0 (.bool true)).drew.bel)).2.1
        have s2 : ((W6.setCell ⟨g, 0, none⟩ (.bool true)).setCell ⟨g, 1, none⟩ (.int .i64 b.buffer)).drew.cell? ⟨w.heap.size + 1, 1, none⟩ = some (.int .i64 b.buffer) := (cells10 (hb3.out _ ((M6.out.set 0 (.bool true)).set 1 (.int .i64 b.buffer)).drew.bel)).2.1
        go_wp2
        go_region_held3 (fun w' => w'.cell? ⟨w.heap.size + 1, 1, none⟩ = some (.int .i64 b.buffer)) (first | exact s1 | exact s2 | go_keep) (fail)
        all_goals
          go_wp2_with fail
          go_meet
          exact ⟨rfl, hide (by rw [← hbt.out]; simpa using M7.out)⟩
    case rest =>
      obtain ⟨rfl, M7⟩ := hcut
      obtain ⟨W7, hW7⟩ : ∃ W7, W7 = wc := ⟨_, rfl⟩
      subst hW7
      clear m0 m1 m2 m3 m4 m5 m6 m7 m8 m9 f0 f1 f2 f3 f4 f5 f6 f7 f8 f9 c0 c1 c2 c3 c4 c5 c6 c7 c8 c9 M6
      obtain ⟨m0, m1, m2, m3, m4, m5, m6, m7, m8, m9, f0, f1, f2, f3, f4, f5, f6, f7, f8, f9⟩ := M7.out.facts
      obtain ⟨c0, c1, c2, c3, c4, c5, c6, c7, c8, c9⟩ := cells10 (hb3.out _ M7.out.bel)
      rw [← hbi.out] at c4
      go_upto_if 49 with (fail)
      go_cut [5] (fun u wx => ∃ vr, u = .pointer (some ⟨g, 0, none⟩) ∧ Hid (Mg W3 g #[.bool (a.attach || b.attach), .int .i64 (if b.attach then b.buffer else a.buffer), v1, v2, .bool (a.input || b.input), .bool (if b.input then b.all else a.all), vr, .bool a.ordered, v4, v5] (mgRows (a.damage ++ b.damage) (a.frames ++ b.frames) (if b.input then b.region else a.region) a.order (putsP a.places b.places) v1 v2 vr v4 v5) wx))
      case first =>
        cases bi
        · go_wp2
          go_meet
          exact ⟨v3, rfl, hide (by rw [← hbi.out]; simpa using M7.out)⟩
        · have hz4 : ∀ u, (W7.setCell ⟨g, 4, none⟩ u).heap.size = W7.heap.size := fun u => by simp [World.setCell]
          have hz5 : ∀ u u', ((W7.setCell ⟨g, 4, none⟩ u).setCell ⟨g, 5, none⟩ u').heap.size = W7.heap.size := fun u u' => by simp [World.setCell]
          have hd0 := hide (d1r.out W7 _ rfl M7.out.bel)
          have hd1 := hide (d1r.out (W7.setCell ⟨g, 4, none⟩ (.bool true)) _ (hz4 _) (M7.out.set 4 (.bool true)).bel)
          have hd2 := hide (d1r.out ((W7.setCell ⟨g, 4, none⟩ (.bool true)).setCell ⟨g, 5, none⟩ (.bool b.all)) _ (hz5 _ _) ((M7.out.set 4 (.bool true)).set 5 (.bool b.all)).bel)
          have kS : Hid (∀ W', Below W3.heap.size W3 W' → (W'.cell? ⟨w.heap.size + 1, 5, none⟩ = some (.bool b.all) ∧ W'.cell? ⟨w.heap.size + 1, 6, none⟩ = some (.slice brA b.region.length brc))) := hide fun W' hb => ⟨(cells10 (hb3.out _ hb)).2.2.2.2.2.1, (cells10 (hb3.out _ hb)).2.2.2.2.2.2.1⟩
          go_wp2
          go_region_held3 (fun w' => w'.cell? ⟨w.heap.size + 1, 5, none⟩ = some (.bool b.all) ∧ w'.cell? ⟨w.heap.size + 1, 6, none⟩ = some (.slice brA b.region.length brc))
            (first | (with_reducible exact kS.out _ M8.out.bel) | go_keep | exact kS.out _ (M8.out.set 4 (.bool true)).bel | exact kS.out _ ((M8.out.set 4 (.bool true)).set 5 (.bool b.all)).bel | exact kS.out _ (((M8.out.set 4 (.bool true)).set 5 (.bool b.all)).set 6 _).bel | exact kS.out _ (M8.out.set 5 (.bool b.all)).bel | exact kS.out _ ((M8.out.set 5 (.bool b.all)).set 6 _).bel | exact kS.out _ (M8.out.set 6 _).bel | exact kS.out _ (M7.out.set 4 (.bool true)).drew.bel | exact kS.out _ ((M7.out.set 4 (.bool true)).set 5 (.bool b.all)).drew.bel | (trace_state; fail))
            (first | (go_at_call 134; first
              | ((with_reducible refine hd0.out.mono ?_); rintro e w8 ⟨v8, rfl, o8, b8⟩; have M8 := hide (M7.out.below b8); obtain ⟨A8, q8, rfl, _⟩ := own_form o8; obtain ⟨m0, m1, m2, m3, m4, m5, m6, m7, m8, m9, f0, f1, f2, f3, f4, f5, f6, f7, f8, f9⟩ := M8.out.facts)
              | ((with_reducible refine hd1.out.mono ?_); rintro e w8 ⟨v8, rfl, o8, b8⟩; have M8 := hide ((M7.out.set 4 (.bool true)).below b8); obtain ⟨A8, q8, rfl, _⟩ := own_form o8; obtain ⟨m0, m1, m2, m3, m4, m5, m6, m7, m8, m9, f0, f1, f2, f3, f4, f5, f6, f7, f8, f9⟩ := M8.out.facts)
              | ((with_reducible refine hd2.out.mono ?_); rintro e w8 ⟨v8, rfl, o8, b8⟩; have M8 := hide (((M7.out.set 4 (.bool true)).set 5 (.bool b.all)).below b8); obtain ⟨A8, q8, rfl, _⟩ := own_form o8; obtain ⟨m0, m1, m2, m3, m4, m5, m6, m7, m8, m9, f0, f1, f2, f3, f4, f5, f6, f7, f8, f9⟩ := M8.out.facts)
              | (trace_state; fail)))
          all_goals
            go_wp2_with fail
            go_meet
            have M9 := (((M8.out.push (r := ⟨30, 4, .slice A8 b.region.length q8, _, _⟩) o8 (by simp)).set 4 (.bool true)).set 5 (.bool b.all)).set 6 (.slice A8 b.region.length q8)
            have M10 := ((M8.out.set 4 (.bool true)).set 5 (.bool b.all)).set 6 (.slice A8 b.region.length q8)
            obtain ⟨p1, p2, _, p4, p5⟩ := M10.own5
            exact ⟨_, rfl, hide (by rw [← hbi.out]; have := mgRows_mk (D := a.damage ++ b.damage) (Fr := a.frames ++ b.frames) (Rg := b.region) M9.m M9.bel M9.hg p1 p2 (M9.rows _ (List.mem_cons_self ..)).1 p4 p5; simpa using this)⟩
      case rest =>
        obtain ⟨vr, rfl, M8⟩ := hcut
        obtain ⟨W8, hW8⟩ : ∃ W8, W8 = wc := ⟨_, rfl⟩
        subst hW8
        clear m0 m1 m2 m3 m4 m5 m6 m7 m8 m9 f0 f1 f2 f3 f4 f5 f6 f7 f8 f9 c0 c1 c2 c3 c4 c5 c6 c7 c8 c9 M7
        obtain ⟨m0, m1, m2, m3, m4, m5, m6, m7, m8, m9, f0, f1, f2, f3, f4, f5, f6, f7, f8, f9⟩ := M8.out.facts
        obtain ⟨c0, c1, c2, c3, c4, c5, c6, c7, c8, c9⟩ := cells10 (hb3.out _ M8.out.bel)
        rw [← hbo.out] at c7
        go_upto_if 60 with (fail)
        go_cut [5] (fun u wx => ∃ vo, u = .pointer (some ⟨g, 0, none⟩) ∧ Hid (Mg W3 g #[.bool (a.attach || b.attach), .int .i64 (if b.attach then b.buffer else a.buffer), v1, v2, .bool (a.input || b.input), .bool (if b.input then b.all else a.all), vr, .bool (a.ordered || b.ordered), vo, v5] (mgRows (a.damage ++ b.damage) (a.frames ++ b.frames) (if b.input then b.region else a.region) (if b.ordered then b.order else a.order) (putsP a.places b.places) v1 v2 vr vo v5) wx))
        case first =>
          cases bo
          · go_wp2
            go_meet
            exact ⟨v4, rfl, hide (by rw [← hbo.out]; simpa using M8.out)⟩
          · have hd := hide (d1i.out W8 M8.out.bel).1
            go_wp2_with (go_at_call 135; ((with_reducible refine hd.out.mono ?_); rintro e w9 ⟨v9, rfl, o9, b9⟩; have M9 := hide (M8.out.below b9); obtain ⟨A9, q9, rfl, _⟩ := own_form o9; obtain ⟨m0, m1, m2, m3, m4, m5, m6, m7, m8, m9, f0, f1, f2, f3, f4, f5, f6, f7, f8, f9⟩ := M9.out.facts))
            go_meet
            have Ma := ((M9.out.push (r := ⟨3, 1, .slice A9 b.order.length q9, _, _⟩) o9 (by simp)).set 7 (.bool true)).set 8 (.slice A9 b.order.length q9)
            have Mb := (M9.out.set 7 (.bool true)).set 8 (.slice A9 b.order.length q9)
            obtain ⟨p1, p2, p3, _, p5⟩ := Mb.own5
            exact ⟨_, rfl, hide (by rw [← hbo.out]; have := mgRows_mk (D := a.damage ++ b.damage) (Fr := a.frames ++ b.frames) (O := b.order) Ma.m Ma.bel Ma.hg p1 p2 p3 (Ma.rows _ (List.mem_cons_self ..)).1 p5; simpa using this)⟩
        case rest =>
          obtain ⟨vo, rfl, M9⟩ := hcut
          obtain ⟨W9, hW9⟩ : ∃ W9, W9 = wc := ⟨_, rfl⟩
          subst hW9
          clear m0 m1 m2 m3 m4 m5 m6 m7 m8 m9 f0 f1 f2 f3 f4 f5 f6 f7 f8 f9 c0 c1 c2 c3 c4 c5 c6 c7 c8 c9 M8
          have M9 : Mg W3 g #[.bool S.attach, .int .i64 S.buffer, v1, v2, .bool S.input, .bool S.all, vr, .bool S.ordered, vo, v5] (mgRows S.damage S.frames S.region S.order S.places v1 v2 vr vo v5) W9 := by rw [hS.out]; exact M9.out
          replace M9 := hide M9
          obtain ⟨o1, o2, o3, o4, o5⟩ := M9.out.own5
          obtain ⟨A1, q1, rfl, _⟩ := own_form o1
          obtain ⟨A2, q2, rfl, _⟩ := own_form o2
          obtain ⟨A3, q3, rfl, _⟩ := own_form o3
          obtain ⟨A4, q4, rfl, _⟩ := own_form o4
          obtain ⟨A5, q5, rfl, _⟩ := own_form o5
          obtain ⟨m0, m1, m2, m3, m4, m5, m6, m7, m8, m9, _⟩ := M9.out.facts
          have h4 := hb4.out _ M9.out.bel
          obtain ⟨r0, r1, r2, r3, r4, r5, r6, r7, r8, r9⟩ := cells10 h4
          have g0 := frozen_of_row _ _ 0 _ _ h4
          have g1 := frozen_of_row _ _ 1 _ _ h4
          have g2 := frozen_of_row _ _ 2 _ _ h4
          have g3 := frozen_of_row _ _ 3 _ _ h4
          have g4 := frozen_of_row _ _ 4 _ _ h4
          have g5 := frozen_of_row _ _ 5 _ _ h4
          have g6 := frozen_of_row _ _ 6 _ _ h4
          have g7 := frozen_of_row _ _ 7 _ _ h4
          have g8 := frozen_of_row _ _ 8 _ _ h4
          have g9 := frozen_of_row _ _ 9 _ _ h4
          replace o1 := hide o1
          replace o2 := hide o2
          replace o3 := hide o3
          replace o4 := hide o4
          replace o5 := hide o5
          replace h4 := hide h4
          have hR := hide (set10 h4.out (.bool S.attach) (.int .i64 S.buffer) (.slice A1 S.damage.length q1) (.slice A2 S.frames.length q2) (.bool S.input) (.bool S.all) (.slice A3 S.region.length q3) (.bool S.ordered) (.slice A4 S.order.length q4) (.slice A5 S.places.length q5))
          go_wp2
          try simp only [Exit.inBlock, Exit.then]
          refine bodyPost_ret (results_cell_row rfl _ _ (w.heap.size + 2) 41 #[.bool S.attach, .int .i64 S.buffer, .slice A1 S.damage.length q1, .slice A2 S.frames.length q2, .bool S.input, .bool S.all, .slice A3 S.region.length q3, .bool S.ordered, .slice A4 S.order.length q4, .slice A5 S.places.length q5] (0, 0) _ rfl hR.out Tryz.underlying41 rfl (by kernel_rfl)) rfl ?_
          have hw : w.heap.size ≤ w.heap.size + 2 := by omega
          have hbf := below10 (hbel.out.trans (M9.out.bel.mono hbel.out.size)) hw (.bool S.attach) (.int .i64 S.buffer) (.slice A1 S.damage.length q1) (.slice A2 S.frames.length q2) (.bool S.input) (.bool S.all) (.slice A3 S.region.length q3) (.bool S.ordered) (.slice A4 S.order.length q4) (.slice A5 S.places.length q5)
          have hlow := hbel.out.size
          have key : ∀ (base : Nat) (e : TypeId) (sz n : Nat) (v : Value) (cs : List Value) (W : World) (c : Nat) (u : Value), w.heap.size + 3 ≤ base → W.ownsRow base e sz v n cs → (W.setCell ⟨w.heap.size + 2, c, none⟩ u).ownsRow base e sz v n cs := fun base e sz n v cs W c u hb h => own_keepF h fun b hb' => heap_setCell_other W _ b _ (by have := (h.lt b hb').1; show b ≠ w.heap.size + 2; omega)
          have k10 : ∀ (e : TypeId) (sz n : Nat) (v : Value) (cs : List Value), W9.ownsRow W3.heap.size e sz v n cs → ((((((((((W9.setCell ⟨w.heap.size + 2, 0, none⟩ (.bool S.attach)).setCell ⟨w.heap.size + 2, 1, none⟩ (.int .i64 S.buffer)).setCell ⟨w.heap.size + 2, 2, none⟩ (.slice A1 S.damage.length q1)).setCell ⟨w.heap.size + 2, 3, none⟩ (.slice A2 S.frames.length q2)).setCell ⟨w.heap.size + 2, 4, none⟩ (.bool S.input)).setCell ⟨w.heap.size + 2, 5, none⟩ (.bool S.all)).setCell ⟨w.heap.size + 2, 6, none⟩ (.slice A3 S.region.length q3)).setCell ⟨w.heap.size + 2, 7, none⟩ (.bool S.ordered)).setCell ⟨w.heap.size + 2, 8, none⟩ (.slice A4 S.order.length q4)).setCell ⟨w.heap.size + 2, 9, none⟩ (.slice A5 S.places.length q5)).ownsRow w.heap.size e sz v n cs := fun e sz n v cs h => by
            have hz : w.heap.size + 3 ≤ W3.heap.size := by rw [hsz.out]; exact Nat.le_refl _
            refine own_le ?_ hlow
            iterate 10 refine key _ _ _ _ _ _ _ _ _ hz ?_
            exact h
          exact ⟨⟨_, _, _, _, _⟩, rfl, ⟨k10 _ _ _ _ _ o1.out, k10 _ _ _ _ _ o2.out, k10 _ _ _ _ _ o3.out, k10 _ _ _ _ _ o4.out, k10 _ _ _ _ _ o5.out⟩, hbf⟩
end Go.Proofs.YthkjicnnepkghaaGreatDoor
