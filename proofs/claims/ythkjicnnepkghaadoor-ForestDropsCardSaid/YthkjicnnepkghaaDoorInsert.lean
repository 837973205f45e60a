/-
  slices.Insert of one number, where there is room: the kit's two contracts, laid here.
-/
import Derived.Test.YthkjicnnepkghaaDoorProg
import Derived.Test.YthkjicnnepkghaaDoorBase
import Derived.Test.YthkjicnnepkghaaDoorOrder
import Derived.Shelf.Spec.SlicesInsert
namespace Go.Proofs.YthkjicnnepkghaaDoor
open Go.RowKit

def Tryd.layIns_ren : Go.Shelf.Ren := ⟨fun | 21 => 93 | 27 => 105 | 28 => 106 | 35 => 108 | 39 => 109 | n => n, fun | 22 => 29 | 3 => 3 | 4 => 4 | 0 => 0 | n => n, fun | n => n⟩
theorem Tryd.layIns : Go.Proofs.Lays2.n21 Tryd.prog Tryd.layIns_ren := {
  mixed := by kernel_rfl
  f21 := Tryd.func93.trans (congrArg some (by kernel_rfl))
  f27 := Tryd.func105.trans (congrArg some (by kernel_rfl))
  f28 := Tryd.func106.trans (congrArg some (by kernel_rfl))
  f35 := Tryd.func108.trans (congrArg some (by kernel_rfl))
  f39 := Tryd.func109.trans (congrArg some (by kernel_rfl))
  t0 := Tryd.underlying0
  a0 := Tryd.isAgg0
  z0 := Tryd.sizeOf0
  v0 := Tryd.zeroValue0
  t3 := Tryd.underlying3
  a3 := Tryd.isAgg3
  z3 := Tryd.sizeOf3
  v3 := Tryd.zeroValue3
  t4 := Tryd.underlying4
  a4 := Tryd.isAgg4
  z4 := Tryd.sizeOf4
  v4 := Tryd.zeroValue4
  t22 := Tryd.underlying29
  a22 := Tryd.isAgg29
  z22 := Tryd.sizeOf29
  v22 := Tryd.zeroValue29
  i3 := by kernel_rfl }
theorem setCells_row (b : Nat) (t : TypeId) : ∀ (vs : List Value) (o : Nat) (w : World) (cur : List Value), w.heap[b]? = some (.cells cur.toArray t (0, 0)) → o + vs.length ≤ cur.length →
    (w.setCells b o vs).heap[b]? = some (.cells (splice cur o vs).toArray t (0, 0)) ∧ Below b w (w.setCells b o vs)
  | [], o, w, cur, h, hl => ⟨by simpa [World.setCells, splice] using h, Below.refl _ _⟩
  | v :: r, o, w, cur, h, hl => by
    have h1 : (w.setCell ⟨b, o, none⟩ v).heap[b]? = some (.cells (cur.set o v).toArray t (0, 0)) := by
      rw [heap_setCell_same w b o _ t v h]; simp
    simp at hl
    obtain ⟨h2, h3⟩ := setCells_row b t r (o + 1) (w.setCell ⟨b, o, none⟩ v) (cur.set o v) h1 (by simp; omega)
    refine ⟨?_, (((Below.refl b w).setCell (p := ⟨b, o, none⟩) (Nat.le_refl _) v)).trans h3⟩
    rw [World.setCells, h2]
    congr 3
    simp only [splice]
    rw [List.take_set, List.take_succ_eq_append_getElem (show o < cur.length by omega), List.drop_set_of_lt (by omega), List.set_append_right _ _ (by simp; omega)]
    simp [List.length_take, Nat.min_eq_left (show o ≤ cur.length by omega), Nat.add_assoc, Nat.add_comm 1]

theorem splice_ins {α : Type} (cur ys : List α) (x : α) (i : Nat) (hi : i < ys.length) (hl : ys.length + 1 ≤ cur.length) (ht : cur.take ys.length = ys) :
    (splice (splice cur (i + 1) (ys.drop i)) i [x]).take (ys.length + 1) = ys.take i ++ x :: ys.drop i := by
  have e1 : cur.take i = ys.take i := by
    have := congrArg (List.take i) ht
    rwa [List.take_take, Nat.min_eq_left (by omega)] at this
  have e2 : (cur.take (i + 1)).length = i + 1 := by simp; omega
  have e3 : (splice cur (i + 1) (ys.drop i)).take i = ys.take i := by
    simp only [splice]
    rw [List.take_append_of_le_length (by omega), List.take_take, Nat.min_eq_left (by omega), e1]
  have e4 : (splice cur (i + 1) (ys.drop i)).drop (i + 1) = ys.drop i ++ cur.drop (i + 1 + (ys.drop i).length) := by
    simp only [splice]
    rw [List.drop_append, List.drop_of_length_le (by omega), e2]; simp
  have e5 : (ys.take i).length = i := by simp; omega
  have e6 : (ys.drop i).length = ys.length - i := by simp
  show ((splice cur (i + 1) (ys.drop i)).take i ++ ([x] ++ (splice cur (i + 1) (ys.drop i)).drop (i + 1))).take (ys.length + 1) = _
  rw [e3, e4, List.take_append, List.take_of_length_le (l := ys.take i) (i := ys.length + 1) (by omega), e5, show ys.length + 1 - i = (ys.length - i) + 1 by omega, List.singleton_append, List.take_succ_cons, List.take_append_of_le_length (by omega), List.take_of_length_le (l := ys.drop i) (by omega)]

/-- slices.Insert(l, i, x), where l has room. -/
theorem insertInts (w : World) (g len : Nat) (ys : List Int) (x : Int) (i vb : Nat) (hP : Part w g len ys) (hi : i ≤ ys.length) (hroom : ys.length + 1 ≤ len) (hlen : len ≤ 1000000) (hvb : vb ≠ g)
    (hv : w.heap[vb]? = some (.cells #[.int .i64 x] 3 (0, 0))) :
    Calls Tryd.prog 93 #[.slice (some ⟨g, 0, none⟩) ys.length len, .int .i64 i, .slice (some ⟨vb, 0, none⟩) 1 1] w fun e w' =>
      e = .returned (.slice (some ⟨g, 0, none⟩) (ys.length + 1) len) ∧ Part w' g len (ys.take i ++ x :: ys.drop i) ∧ Below g w w' := by
  obtain ⟨cur, h1, h2, h3⟩ := hP.ex
  have hcell : ∀ j u, (ys.map (Value.int .i64))[j]? = some u → w.cell? ⟨g, 0 + j, none⟩ = some u := fun j u hj => by
    have hjl : j < ys.length := by have := (List.getElem?_eq_some_iff.1 hj).1; simpa using this
    rw [Nat.zero_add, cell_of_row w g j _ _ _ h2]
    rw [← h3, List.getElem?_take, if_pos hjl] at hj
    simpa using hj
  have hsome : ∀ j, j < len → (w.cell? ⟨g, 0 + j, none⟩).isSome = true := fun j hj => by
    rw [Nat.zero_add, cell_of_row w g j _ _ _ h2]; simp; omega
  have hfz : ∀ j, w.frozen? ⟨g, j, none⟩ = false := fun j => frozen_of_row w g j _ _ h2
  have hvc : ∀ j u, [Value.int .i64 x][j]? = some u → w.cell? ⟨vb, 0 + j, none⟩ = some u := fun j u hj => by
    rw [Nat.zero_add, cell_of_row w vb j _ _ _ hv]; simpa using hj
  have hone : ∀ u ∈ [Value.int .i64 x], u.oneCell' = true := by intro u hu; simp at hu; subst hu; rfl
  have hcl : cur.length = len := h1
  rcases Nat.lt_or_ge i ys.length with hlt | hge
  · refine (Any2.slices_Insert_int_shift Tryd.layIns g 0 ys.length len i vb 0 1 1 (ys.map (Value.int .i64)) [.int .i64 x] w hlt (by omega) hroom (by omega) hvb (by simp) rfl hcell
      (fun j hj => hsome j (by omega)) (fun j _ => hfz _) hvc (by intro u hu; simp at hu; obtain ⟨y, _, rfl⟩ := hu; rfl) hone 3 3 1 len
      (by simp [World.shape?, hv]) (by simp [World.shape?, h2, hcl]) (by omega) (frozen_of_row w vb _ _ _ hv) (frozen_of_row w vb _ _ _ hv)).mono ?_
    rintro e w' ⟨rfl, rfl⟩
    have hl1 : (List.drop i (ys.map (Value.int .i64))).length = ys.length - i := by simp
    obtain ⟨a1, a2⟩ := setCells_row g 3 ((ys.map (Value.int .i64)).drop i) (0 + (i + 1)) w.drew cur h2 (by rw [hl1]; omega)
    have hs1 : (splice cur (0 + (i + 1)) ((ys.map (Value.int .i64)).drop i)).length = cur.length := length_splice _ _ _ (by rw [hl1]; omega)
    obtain ⟨b1, b2⟩ := setCells_row g 3 [.int .i64 x] (0 + i) _ _ a1 (by rw [hs1]; simp; omega)
    refine ⟨rfl, ⟨_, ?_, b1, ?_⟩, (show Below g w w.drew from below_drewN (Below.refl _ _) 1).trans (a2.trans b2)⟩
    · rw [length_splice _ _ _ (by rw [hs1]; simp; omega), hs1, hcl]
    · have := splice_ins cur (ys.map (Value.int .i64)) (.int .i64 x) i (by simpa using hlt) (by simp; omega) (by simpa using h3)
      have e2 : (ys.take i ++ x :: ys.drop i).length = ys.length + 1 := by simp; omega
      rw [e2]
      simpa using this
  · obtain rfl : i = ys.length := by omega
    refine (Any2.slices_Insert_int_end_room Tryd.layIns g 0 ys.length len vb 0 1 1 [.int .i64 x] w (by omega) hroom (by omega) rfl (fun j hj => by rw [Nat.add_assoc]; exact hsome _ (by omega)) (fun j _ => hfz _) hvc hone).mono ?_
    rintro e w' ⟨rfl, rfl⟩
    obtain ⟨a1, a2⟩ := setCells_row g 3 [.int .i64 x] (0 + ys.length) w cur h2 (by simp; omega)
    refine ⟨rfl, ⟨_, ?_, a1, ?_⟩, a2⟩
    · rw [length_splice _ _ _ (by simp; omega), hcl]
    · simp only [splice, Nat.zero_add, h3]
      rw [List.take_append]
      simp [List.take_of_length_le]
end Go.Proofs.YthkjicnnepkghaaDoor
