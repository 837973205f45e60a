/-
  Rows of structs as lists: where each element's cells stand.
-/
import Derived.Test.YthkjicnnepkghaaDoorFData
import Derived.Laws.Rows
namespace Go.Proofs.YthkjicnnepkghaaDoor
open Go.RowKit
set_option linter.unusedSectionVars false

section
variable {α : Type} [Inhabited α] {enc : α → List Value} {sz : Nat}
theorem getD_memR {L : List α} {k : Nat} (hk : k < L.length) : L.getD k default ∈ L := by
  have e : L.getD k default = L[k] := by simp [List.getD, hk]
  rw [e]; exact List.getElem_mem hk
theorem flat_len (hs : ∀ r, (enc r).length = sz) (L : List α) : (L.flatMap enc).length = L.length * sz := by
  induction L with
  | nil => simp
  | cons r L ih => rw [List.flatMap_cons, List.length_append, ih, hs, List.length_cons, Nat.succ_mul]; omega
theorem flat_row (hs : ∀ r, (enc r).length = sz) : ∀ {L : List α} {k : Nat} (_ : k < L.length) (j : Nat) (_ : j < sz), (L.flatMap enc)[k * sz + j]? = (enc (L.getD k default))[j]?
  | [], k, hk, _, _ => by simp at hk
  | r :: L, 0, _, j, hj => by
    rw [List.flatMap_cons, List.getElem?_append_left (by rw [hs]; omega)]
    simp
  | r :: L, k + 1, hk, j, hj => by
    rw [List.flatMap_cons, List.getElem?_append_right (by rw [hs, Nat.succ_mul]; omega), hs, show (k + 1) * sz + j - sz = k * sz + j by rw [Nat.succ_mul]; omega, flat_row hs (by simpa using hk) j hj]
    simp
theorem flat_set (hs : ∀ r, (enc r).length = sz) : ∀ {L : List α} {k : Nat} (_ : k < L.length) (j : Nat) (_ : j < sz) (u : Value) (r' : α) (_ : (enc (L.getD k default)).set j u = enc r'), (L.flatMap enc).set (k * sz + j) u = (L.set k r').flatMap enc
  | [], k, hk, _, _, _, _, _ => by simp at hk
  | r :: L, 0, _, j, hj, u, r', hr => by
    have hr : (enc r).set j u = enc r' := hr
    rw [List.flatMap_cons, List.set_append_left _ _ (by rw [hs]; omega), List.set_cons_zero, List.flatMap_cons]
    simp [hr]
  | r :: L, k + 1, hk, j, hj, u, r', hr => by
    have ih := flat_set hs (L := L) (k := k) (by simpa using hk) j hj u r' hr
    rw [List.flatMap_cons, List.set_append_right _ _ (by rw [hs, Nat.succ_mul]; omega), hs, show (k + 1) * sz + j - sz = k * sz + j by rw [Nat.succ_mul]; omega, ih]
    rfl
theorem flat_take (hs : ∀ r, (enc r).length = sz) : ∀ (L : List α) (k : Nat), (L.flatMap enc).take (k * sz) = (L.take k).flatMap enc
  | [], k => by simp
  | r :: L, 0 => by simp
  | r :: L, k + 1 => by
    rw [List.flatMap_cons, List.take_succ_cons, List.flatMap_cons, List.take_append, hs, show (k + 1) * sz - sz = k * sz by rw [Nat.succ_mul]; omega, flat_take hs L k, List.take_of_length_le (by rw [hs, Nat.succ_mul]; omega)]
theorem flat_drop (hs : ∀ r, (enc r).length = sz) : ∀ (L : List α) (k : Nat), (L.flatMap enc).drop (k * sz) = (L.drop k).flatMap enc
  | [], k => by simp
  | r :: L, 0 => by simp
  | r :: L, k + 1 => by
    rw [List.flatMap_cons, List.drop_succ_cons, List.drop_append, hs, show (k + 1) * sz - sz = k * sz by rw [Nat.succ_mul]; omega, flat_drop hs L k, List.drop_eq_nil_of_le (by rw [hs, Nat.succ_mul]; omega), List.nil_append]
end

/-- The cells of a row of children. -/
theorem Rd.chCells {w : World} {A : Option Addr} {c n : Nat} {L : List Ch} (h : Rd w (.slice A n c) 3 n (L.flatMap Ch.enc)) (hn : n = L.length) (h0 : 0 < n) :
    ∃ b off, A = some ⟨b, off, none⟩ ∧ b < w.heap.size ∧ ∀ k, k < n → w.cell? ⟨b, off + k * 3, none⟩ = some (.int .i64 (L.getD k default).id) ∧ w.cell? ⟨b, off + k * 3 + 1, none⟩ = some (.int .i64 (L.getD k default).x) ∧
      w.cell? ⟨b, off + k * 3 + 2, none⟩ = some (.int .i64 (L.getD k default).y) := by
  obtain ⟨h1, A', c', hv, hc, h2⟩ := h
  simp only [Value.slice.injEq] at hv
  obtain ⟨rfl, _, rfl⟩ := hv
  obtain ⟨b, off, rfl, hb, hcell⟩ := h2 h0
  refine ⟨b, off, rfl, hb, fun k hk => ?_⟩
  have H := fun j hj u (e : ((L.getD k default).enc)[j]? = some u) => hcell (k * 3 + j) u (by rw [flat_row Ch.len (by omega) j hj]; exact e)
  exact ⟨H 0 (by decide) _ rfl, by rw [show off + k * 3 + 1 = off + (k * 3 + 1) by omega]; exact H 1 (by decide) _ rfl, by rw [show off + k * 3 + 2 = off + (k * 3 + 2) by omega]; exact H 2 (by decide) _ rfl⟩
theorem oneR (L : List R4) : ∀ u ∈ L.flatMap R4.enc, u.oneCell' = true := by
  intro u hu
  obtain ⟨r, _, hr⟩ := List.mem_flatMap.1 hu
  simp [R4.enc] at hr
  rcases hr with rfl | rfl | rfl | rfl <;> rfl
theorem oneC (L : List Ch) : ∀ u ∈ L.flatMap Ch.enc, u.oneCell' = true := by
  intro u hu
  obtain ⟨r, _, hr⟩ := List.mem_flatMap.1 hu
  simp [Ch.enc] at hr
  rcases hr with rfl | rfl | rfl <;> rfl
theorem oneI (L : List Int) : ∀ u ∈ L.map (Value.int .i64), u.oneCell' = true := by
  intro u hu
  obtain ⟨r, _, rfl⟩ := List.mem_map.1 hu
  rfl
theorem find_at {l : List Ch} {id : Int} : ∀ {k : Nat}, k < l.length → (l.getD k default).id = id → (∀ j, j < k → (l.getD j default).id ≠ id) → findP l id = some (l.getD k default) := by
  induction l with
  | nil => intro k hk; simp at hk
  | cons x l ih =>
    intro k hk he hf
    unfold findP at ih ⊢
    cases k with
    | zero =>
      have he : x.id = id := he
      rw [List.find?_cons_of_pos (by simpa using he)]; rfl
    | succ k =>
      have h0 : x.id ≠ id := hf 0 (by omega)
      rw [List.find?_cons_of_neg (by simpa using h0)]
      exact ih (by simpa using hk) he fun j hj => hf (j + 1) (by omega)
theorem find_none {l : List Ch} {id : Int} (h : ∀ j, j < l.length → (l.getD j default).id ≠ id) : findP l id = none := by
  unfold findP
  rw [List.find?_eq_none]
  intro x hx
  obtain ⟨k, hk, rfl⟩ := List.getElem_of_mem hx
  have := h k hk
  simpa [List.getD, hk] using this
/-- Three cells written one behind the other. -/
theorem set3 (w : World) (g : Nat) (t : TypeId) (a0 a1 a2 x0 x1 x2 : Value) (h : w.heap[g]? = some (.cells #[a0, a1, a2] t (0, 0))) :
    (((w.setCell ⟨g, 0, none⟩ x0).setCell ⟨g, 1, none⟩ x1).setCell ⟨g, 2, none⟩ x2).heap[g]? = some (.cells #[x0, x1, x2] t (0, 0)) := by
  have h1 := heap_setCell_same w g 0 _ _ x0 h
  have h2 := heap_setCell_same _ g 1 _ _ x1 h1
  have h3 := heap_setCell_same _ g 2 _ _ x2 h2
  exact h3
theorem below_set3 {B : Nat} {W w : World} (hb : Below B W w) {g : Nat} (hg : B ≤ g) (x0 x1 x2 : Value) : Below B W (((w.setCell ⟨g, 0, none⟩ x0).setCell ⟨g, 1, none⟩ x1).setCell ⟨g, 2, none⟩ x2) :=
  ((hb.setCell (p := ⟨g, 0, none⟩) hg x0).setCell (p := ⟨g, 1, none⟩) hg x1).setCell (p := ⟨g, 2, none⟩) hg x2
theorem own_set {w : World} {base g n c i sz : Nat} {e : TypeId} {cs : List Value} (h : w.ownsRow base e sz (.slice (some ⟨g, 0, none⟩) n c) n cs) (u : Value) :
    (w.setCell ⟨g, i, none⟩ u).ownsRow base e sz (.slice (some ⟨g, 0, none⟩) n c) n (cs.set i u) := by
  refine ⟨by rw [List.length_set]; exact h.1, ?_⟩
  rcases h.2 with ⟨h2, _⟩ | ⟨g', cap, cur, hv, hb, hg, hnc, hm, hs, ht⟩
  · cases h2
  · simp only [Value.slice.injEq, Option.some.injEq, Addr.mk.injEq] at hv
    obtain ⟨⟨rfl, _⟩, _, rfl⟩ := hv
    refine .inr ⟨g, c, cur.setIfInBounds i u, rfl, hb, heap_setCell_same w g i cur e u hg, hnc, hm, by simpa using hs, ?_⟩
    rw [Array.toList_setIfInBounds, List.take_set, ht]
theorem own_frozen {w : World} {base g n c sz : Nat} {e : TypeId} {cs : List Value} (h : w.ownsRow base e sz (.slice (some ⟨g, 0, none⟩) n c) n cs) (i : Nat) : w.frozen? ⟨g, i, none⟩ = false := by
  rcases h.2 with ⟨h2, _⟩ | ⟨g', cap, cur, hv, hb, hg, _⟩
  · cases h2
  · simp only [Value.slice.injEq, Option.some.injEq, Addr.mk.injEq] at hv
    obtain ⟨⟨rfl, _⟩, _, rfl⟩ := hv
    simp [World.frozen?, hg]
/-- An owned row that is not empty stands at a block's head. -/
theorem own_at {w : World} {base n sz : Nat} {e : TypeId} {v : Value} {cs : List Value} (h : w.ownsRow base e sz v n cs) (h0 : 0 < n) : ∃ g c, v = .slice (some ⟨g, 0, none⟩) n c ∧ base ≤ g ∧ n ≤ c ∧ g < w.heap.size := by
  rcases h.2 with ⟨_, h2⟩ | ⟨g, cap, cur, hv, hb, hg, hnc, _⟩
  · omega
  · exact ⟨g, cap, hv, hb, hnc, lt_of_block hg⟩
/-- A child written over another one. -/
theorem own_setCh {w : World} {base g n c k : Nat} {e : TypeId} {L : List Ch} (h : w.ownsRow base e 3 (.slice (some ⟨g, 0, none⟩) n c) n (L.flatMap Ch.enc)) (hn : n = L.length) (hk : k < n) (x : Ch) :
    (((w.setCell ⟨g, k * 3, none⟩ (.int .i64 x.id)).setCell ⟨g, k * 3 + 1, none⟩ (.int .i64 x.x)).setCell ⟨g, k * 3 + 2, none⟩ (.int .i64 x.y)).ownsRow base e 3 (.slice (some ⟨g, 0, none⟩) n c) n ((L.set k x).flatMap Ch.enc) := by
  have hk0 : k < L.length := by omega
  have h1 := own_set (i := k * 3) h (.int .i64 x.id)
  have e1 := flat_set Ch.len hk0 0 (by decide) (.int .i64 x.id) { L.getD k default with id := x.id } rfl
  rw [show k * 3 = k * 3 + 0 by rfl, e1] at h1
  have hk1 : k < (L.set k { L.getD k default with id := x.id }).length := by rw [List.length_set]; omega
  have g1 : (L.set k { L.getD k default with id := x.id }).getD k default = { L.getD k default with id := x.id } := by simp [List.getD, hk0]
  have h2 := own_set (i := k * 3 + 1) h1 (.int .i64 x.x)
  have e2 := flat_set Ch.len hk1 1 (by decide) (.int .i64 x.x) { L.getD k default with id := x.id, x := x.x } (by rw [g1]; rfl)
  rw [e2, List.set_set] at h2
  have hk2 : k < (L.set k { L.getD k default with id := x.id, x := x.x }).length := by rw [List.length_set]; omega
  have g2 : (L.set k { L.getD k default with id := x.id, x := x.x }).getD k default = { L.getD k default with id := x.id, x := x.x } := by simp [List.getD, hk0]
  have h3 := own_set (i := k * 3 + 2) h2 (.int .i64 x.y)
  have e3 := flat_set Ch.len hk2 2 (by decide) (.int .i64 x.y) x (by rw [g2]; rfl)
  rw [e3, List.set_set] at h3
  exact h3
end Go.Proofs.YthkjicnnepkghaaDoor
