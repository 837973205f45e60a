/-
  Package forest: a state told (of, Pending, Cached, Current).
-/
import Derived.Test.YthkjicnnepkghaaGreatDoorPkE
namespace Go.Proofs.YthkjicnnepkghaaGreatDoor
open Go.RowKit
set_option linter.unusedVariables false

theorem froz10 {W : World} {g : Nat} {t : TypeId} {cs : Array Value} (h : W.heap[g]? = some (.cells cs t (0, 0))) : W.frozen? ⟨g, 0, none⟩ = false ∧ W.frozen? ⟨g, 1, none⟩ = false ∧ W.frozen? ⟨g, 2, none⟩ = false ∧ W.frozen? ⟨g, 3, none⟩ = false ∧ W.frozen? ⟨g, 4, none⟩ = false ∧ W.frozen? ⟨g, 5, none⟩ = false ∧ W.frozen? ⟨g, 6, none⟩ = false ∧ W.frozen? ⟨g, 7, none⟩ = false ∧ W.frozen? ⟨g, 8, none⟩ = false ∧ W.frozen? ⟨g, 9, none⟩ = false :=
  ⟨frozen_of_row W g 0 _ _ h, frozen_of_row W g 1 _ _ h, frozen_of_row W g 2 _ _ h, frozen_of_row W g 3 _ _ h, frozen_of_row W g 4 _ _ h, frozen_of_row W g 5 _ _ h, frozen_of_row W g 6 _ _ h, frozen_of_row W g 7 _ _ h, frozen_of_row W g 8 _ _ h, frozen_of_row W g 9 _ _ h⟩
theorem big_cell {w w1 : World} {s : St} {A1 A2 A3 A4 A5 : Option Addr} {c1 c2 c3 c4 c5 : Nat} {g base : Nat} (hg : g < base) (hw : w.heap.size ≤ g) (hb : Below w.heap.size w w1) (o : StOwn w1 base ⟨.slice A1 s.damage.length c1, .slice A2 s.frames.length c2, .slice A3 s.region.length c3, .slice A4 s.order.length c4, .slice A5 s.places.length c5⟩ s) (x0 x1 x2 x3 x4 x5 x6 x7 x8 x9 : Value) :
    StOwn ((((((((((w1.setCell ⟨g, 0, none⟩ x0).setCell ⟨g, 1, none⟩ x1).setCell ⟨g, 2, none⟩ x2).setCell ⟨g, 3, none⟩ x3).setCell ⟨g, 4, none⟩ x4).setCell ⟨g, 5, none⟩ x5).setCell ⟨g, 6, none⟩ x6).setCell ⟨g, 7, none⟩ x7).setCell ⟨g, 8, none⟩ x8).setCell ⟨g, 9, none⟩ x9) w.heap.size ⟨.slice A1 s.damage.length c1, .slice A2 s.frames.length c2, .slice A3 s.region.length c3, .slice A4 s.order.length c4, .slice A5 s.places.length c5⟩ s ∧ Below w.heap.size w ((((((((((w1.setCell ⟨g, 0, none⟩ x0).setCell ⟨g, 1, none⟩ x1).setCell ⟨g, 2, none⟩ x2).setCell ⟨g, 3, none⟩ x3).setCell ⟨g, 4, none⟩ x4).setCell ⟨g, 5, none⟩ x5).setCell ⟨g, 6, none⟩ x6).setCell ⟨g, 7, none⟩ x7).setCell ⟨g, 8, none⟩ x8).setCell ⟨g, 9, none⟩ x9) := by
  refine ⟨StOwn.le (base := base) ⟨?_, ?_, ?_, ?_, ?_⟩ (by omega), below10 hb hw _ _ _ _ _ _ _ _ _ _⟩
  all_goals
    dsimp only
    iterate 10 refine own_setOther ?_ hg _
  · exact o.d
  · exact o.f
  · exact o.r
  · exact o.o
  · exact o.p
def tellM (M : Fo) (id : Int) (f : Sf → St) : St := match M id with | some t => f t | none => St.zero
section
variable {p mb n : Nat} {F : Nat → Prop} {Z : Int → Option SfV} {M : Fo}
set_option maxRecDepth 100000 in
set_option maxHeartbeats 1000000 in
theorem pending1_any (w : World) {id : Int} {t : Sf} {z : SfV} (h : SurfAt w id t z) :
    Calls Tryz.prog 123 #[.pointer (some ⟨z.a, 0, none⟩)] w fun e w' => e = .returned (stVal t.pe z.pe) ∧ Below w.heap.size w w' := by
  have hlt := h.lt z.a (.inl rfl)
  have hr := h.pe
  obtain ⟨a, zpe, zca, zcu, zG⟩ := z
  dsimp only at hr hlt ⊢
  obtain ⟨A1, c1, A2, c2, A3, c3, A4, c4, A5, c5, rfl⟩ := hr.forms
  obtain ⟨z, hz⟩ : ∃ z : SfV, z = ⟨a, ⟨.slice A1 t.pe.damage.length c1, .slice A2 t.pe.frames.length c2, .slice A3 t.pe.region.length c3, .slice A4 t.pe.order.length c4, .slice A5 t.pe.places.length c5⟩, zca, zcu, zG⟩ := ⟨_, rfl⟩
  rw [← hz] at h
  have ha : z.a = a := by rw [hz]
  have hs : z.pe = ⟨.slice A1 t.pe.damage.length c1, .slice A2 t.pe.frames.length c2, .slice A3 t.pe.region.length c3, .slice A4 t.pe.order.length c4, .slice A5 t.pe.places.length c5⟩ := by rw [hz]
  clear hz
  rw [← ha] at hlt ⊢
  have k0 : w.cell? ⟨z.a, 3, none⟩ = some (.bool t.pe.attach) := by
    have := h.cell 3
    simp only [sfCells, hs] at this
    exact this
  have k1 : w.cell? ⟨z.a, 4, none⟩ = some (.int .i64 t.pe.buffer) := by
    have := h.cell 4
    simp only [sfCells, hs] at this
    exact this
  have k2 : w.cell? ⟨z.a, 5, none⟩ = some (.slice A1 t.pe.damage.length c1) := by
    have := h.cell 5
    simp only [sfCells, hs] at this
    exact this
  have k3 : w.cell? ⟨z.a, 6, none⟩ = some (.slice A2 t.pe.frames.length c2) := by
    have := h.cell 6
    simp only [sfCells, hs] at this
    exact this
  have k4 : w.cell? ⟨z.a, 7, none⟩ = some (.bool t.pe.input) := by
    have := h.cell 7
    simp only [sfCells, hs] at this
    exact this
  have k5 : w.cell? ⟨z.a, 8, none⟩ = some (.bool t.pe.all) := by
    have := h.cell 8
    simp only [sfCells, hs] at this
    exact this
  have k6 : w.cell? ⟨z.a, 9, none⟩ = some (.slice A3 t.pe.region.length c3) := by
    have := h.cell 9
    simp only [sfCells, hs] at this
    exact this
  have k7 : w.cell? ⟨z.a, 10, none⟩ = some (.bool t.pe.ordered) := by
    have := h.cell 10
    simp only [sfCells, hs] at this
    exact this
  have k8 : w.cell? ⟨z.a, 11, none⟩ = some (.slice A4 t.pe.order.length c4) := by
    have := h.cell 11
    simp only [sfCells, hs] at this
    exact this
  have k9 : w.cell? ⟨z.a, 12, none⟩ = some (.slice A5 t.pe.places.length c5) := by
    have := h.cell 12
    simp only [sfCells, hs] at this
    exact this
  unfold stVal
  dsimp only
  have hR := hide (fun o => heap_alloc_new w o)
  have hB := hide (fun o => (Below.refl _ w).alloc (Nat.le_refl w.heap.size) o)
  clear h hr ha hs
  generalize z.a = q at *
  go_enter Tryz.func123, Tryz.ntmps123
  go_wp2
  try simp only [Exit.inBlock, Exit.then]
  refine bodyPost_ret (results_cell_row rfl _ _ w.heap.size 41 #[.bool t.pe.attach, .int .i64 t.pe.buffer, .slice A1 t.pe.damage.length c1, .slice A2 t.pe.frames.length c2, .bool t.pe.input, .bool t.pe.all, .slice A3 t.pe.region.length c3, .bool t.pe.ordered, .slice A4 t.pe.order.length c4, .slice A5 t.pe.places.length c5] (0, 0) _ rfl (hR.out _) Tryz.underlying41 rfl (by kernel_rfl)) rfl ?_
  exact ⟨rfl, hB.out _⟩
set_option maxRecDepth 100000 in
set_option maxHeartbeats 2000000 in
theorem of_pending_any (w : World) (h : ForZ w p mb F n Z M) (id : Int) (hid : I64 id) (hf : ∀ t, M id = some t → MergeFits t.pe St.zero) :
    Calls Tryz.prog 59 #[.pointer (some ⟨p, 0, none⟩), .int .i64 id, .func (.func 123) #[] #[]] w (BigP w (tellM M id fun t => t.pe)) := by
  have hpl := h.lt p h.pF
  have hb0 : ∀ o, Below w.heap.size w (w.alloc o) := fun o => (Below.refl _ w).alloc (Nat.le_refl _) o
  have hc := fun o => (h.below (hb0 o)).cellP
  have hl := fun o => (h.below (hb0 o)).look hid
  have hR := hide (fun o => heap_alloc_new w o)
  cases hs : M id with
  | none =>
    have e1 : tellM M id (fun t => t.pe) = St.zero := by simp [tellM, hs]
    rw [e1]
    rw [h.zNone hs] at hl
    simp only [Option.map_none, Option.getD_none] at hl
    replace hb0 := hide hb0
    clear h hs e1 hf hpl
    go_enter Tryz.func59, Tryz.ntmps59
    go_wp2
    try simp only [Exit.inBlock, Exit.then]
    refine bodyPost_ret (results_cell_row rfl _ _ w.heap.size 41 #[.bool false, .int .i64 0, .slice none 0 0, .slice none 0 0, .bool false, .bool false, .slice none 0 0, .bool false, .slice none 0 0, .slice none 0 0] (0, 0) _ rfl (hR.out _) Tryz.underlying41 rfl (by kernel_rfl)) rfl ?_
    exact ⟨StV.nil, rfl, ⟨World.ownsRow_nil _ _ _ _, World.ownsRow_nil _ _ _ _, World.ownsRow_nil _ _ _ _, World.ownsRow_nil _ _ _ _, World.ownsRow_nil _ _ _ _⟩, hb0.out _⟩
  | some t =>
    obtain ⟨z, hz, ht⟩ := h.find hs
    have e1 : tellM M id (fun t => t.pe) = t.pe := by simp [tellM, hs]
    rw [e1]
    rw [hz] at hl
    simp only [Option.map_some, Option.getD_some, SfV.ptr] at hl
    have cC := hide (fun o => pending1_any (w.alloc o) ((h.below (hb0 o)).surf id z t hz hs))
    have cW := hide (fun (W : World) (hb : Below w.heap.size w W) => own_any W z.pe t.pe (ht.pe.below hb (Nat.le_refl _)) (hf t hs))
    replace hb0 := hide hb0
    clear h hs e1 hf hpl hz ht
    generalize t.pe = S at cC cW ⊢
    generalize z.pe = V at cC cW
    go_enter Tryz.func59, Tryz.ntmps59
    go_wp2_with fail
    refine (cC.out _).mono ?_
    rintro e w1 ⟨rfl, b1⟩
    have hr1 := hide ((b1.block w.heap.size (by simp)).trans (hR.out _))
    have cW1 := hide (cW.out w1 ((hb0.out _).trans (b1.mono (by simp))))
    have hb1 := hide ((hb0.out _).trans (b1.mono (by simp)) : Below w.heap.size w w1)
    have hz1 := hide b1.size
    clear b1 cW cC
    go_wp2_with fail
    refine cW1.out.mono ?_
    rintro e w2 ⟨v2, rfl, o2, b2⟩
    have hlt1 : w.heap.size < w1.heap.size := by have := hz1.out; simp only [World.size_alloc] at this; omega
    have hr2 := hide ((b2.block w.heap.size hlt1).trans hr1.out)
    obtain ⟨r0, r1, r2, r3, r4, r5, r6, r7, r8, r9⟩ := cells10 hr2.out
    obtain ⟨g0, g1, g2, g3, g4, g5, g6, g7, g8, g9⟩ := froz10 hr2.out
    obtain ⟨A1, c1, A2, c2, A3, c3, A4, c4, A5, c5, rfl⟩ := o2.forms
    have hbig := hide (fun x0 x1 x2 x3 x4 x5 x6 x7 x8 x9 => big_cell (w := w) (w1 := w2) (s := S) hlt1 (Nat.le_refl _) (hb1.out.trans (b2.mono hb1.out.size)) o2 x0 x1 x2 x3 x4 x5 x6 x7 x8 x9)
    have hRR := hide (set10 hr2.out (.bool S.attach) (.int .i64 S.buffer) (.slice A1 S.damage.length c1) (.slice A2 S.frames.length c2) (.bool S.input) (.bool S.all) (.slice A3 S.region.length c3) (.bool S.ordered) (.slice A4 S.order.length c4) (.slice A5 S.places.length c5))
    clear o2 b2 hr1 cW1 hlt1
    unfold stVal
    dsimp only
    go_wp2
    try simp only [Exit.inBlock, Exit.then]
    refine bodyPost_ret (results_cell_row rfl _ _ w.heap.size 41 #[.bool S.attach, .int .i64 S.buffer, .slice A1 S.damage.length c1, .slice A2 S.frames.length c2, .bool S.input, .bool S.all, .slice A3 S.region.length c3, .bool S.ordered, .slice A4 S.order.length c4, .slice A5 S.places.length c5] (0, 0) _ rfl hRR.out Tryz.underlying41 rfl (by kernel_rfl)) rfl ?_
    obtain ⟨hq1, hq2⟩ := hbig.out (.bool S.attach) (.int .i64 S.buffer) (.slice A1 S.damage.length c1) (.slice A2 S.frames.length c2) (.bool S.input) (.bool S.all) (.slice A3 S.region.length c3) (.bool S.ordered) (.slice A4 S.order.length c4) (.slice A5 S.places.length c5)
    exact ⟨_, rfl, hq1, hq2⟩
set_option maxRecDepth 100000 in
set_option maxHeartbeats 2000000 in
theorem fPending_any (w : World) (h : ForZ w p mb F n Z M) (id : Int) (hid : I64 id) (hf : ∀ t, M id = some t → MergeFits t.pe St.zero) :
    Calls Tryz.prog 80 #[.pointer (some ⟨p, 0, none⟩), .int .i64 id] w (BigP w (tellM M id fun t => t.pe)) := by
  have hb0 : ∀ o, Below w.heap.size w (w.alloc o) := fun o => (Below.refl _ w).alloc (Nat.le_refl _) o
  have cW := hide (fun o => of_pending_any (w.alloc o) (h.below (hb0 o)) id hid hf)
  have hR := hide (fun o => heap_alloc_new w o)
  replace hb0 := hide hb0
  generalize tellM M id (fun t => t.pe) = S at cW ⊢
  clear h hf
  go_enter Tryz.func80, Tryz.ntmps80
  go_wp2_with fail
  refine (cW.out _).mono ?_
  rintro e w2 ⟨v2, rfl, o2, b2⟩
  have hr2 := hide ((b2.block w.heap.size (by simp)).trans (hR.out _))
  obtain ⟨r0, r1, r2, r3, r4, r5, r6, r7, r8, r9⟩ := cells10 hr2.out
  obtain ⟨g0, g1, g2, g3, g4, g5, g6, g7, g8, g9⟩ := froz10 hr2.out
  obtain ⟨A1, c1, A2, c2, A3, c3, A4, c4, A5, c5, rfl⟩ := o2.forms
  have hbig := hide (fun x0 x1 x2 x3 x4 x5 x6 x7 x8 x9 => big_cell (w := w) (w1 := w2) (s := S) (g := w.heap.size) (by simp) (Nat.le_refl _) ((hb0.out _).trans (b2.mono (by simp))) o2 x0 x1 x2 x3 x4 x5 x6 x7 x8 x9)
  have hRR := hide (set10 hr2.out (.bool S.attach) (.int .i64 S.buffer) (.slice A1 S.damage.length c1) (.slice A2 S.frames.length c2) (.bool S.input) (.bool S.all) (.slice A3 S.region.length c3) (.bool S.ordered) (.slice A4 S.order.length c4) (.slice A5 S.places.length c5))
  clear o2 b2 cW
  unfold stVal
  dsimp only
  go_wp2
  try simp only [Exit.inBlock, Exit.then]
  refine bodyPost_ret (results_cell_row rfl _ _ w.heap.size 41 #[.bool S.attach, .int .i64 S.buffer, .slice A1 S.damage.length c1, .slice A2 S.frames.length c2, .bool S.input, .bool S.all, .slice A3 S.region.length c3, .bool S.ordered, .slice A4 S.order.length c4, .slice A5 S.places.length c5] (0, 0) _ rfl hRR.out Tryz.underlying41 rfl (by kernel_rfl)) rfl ?_
  obtain ⟨hq1, hq2⟩ := hbig.out (.bool S.attach) (.int .i64 S.buffer) (.slice A1 S.damage.length c1) (.slice A2 S.frames.length c2) (.bool S.input) (.bool S.all) (.slice A3 S.region.length c3) (.bool S.ordered) (.slice A4 S.order.length c4) (.slice A5 S.places.length c5)
  exact ⟨_, rfl, hq1, hq2⟩
set_option maxRecDepth 100000 in
set_option maxHeartbeats 1000000 in
theorem cached1_any (w : World) {id : Int} {t : Sf} {z : SfV} (h : SurfAt w id t z) :
    Calls Tryz.prog 124 #[.pointer (some ⟨z.a, 0, none⟩)] w fun e w' => e = .returned (stVal t.ca z.ca) ∧ Below w.heap.size w w' := by
  have hlt := h.lt z.a (.inl rfl)
  have hr := h.ca
  obtain ⟨a, zpe, zca, zcu, zG⟩ := z
  dsimp only at hr hlt ⊢
  obtain ⟨A1, c1, A2, c2, A3, c3, A4, c4, A5, c5, rfl⟩ := hr.forms
  obtain ⟨z, hz⟩ : ∃ z : SfV, z = ⟨a, zpe, ⟨.slice A1 t.ca.damage.length c1, .slice A2 t.ca.frames.length c2, .slice A3 t.ca.region.length c3, .slice A4 t.ca.order.length c4, .slice A5 t.ca.places.length c5⟩, zcu, zG⟩ := ⟨_, rfl⟩
  rw [← hz] at h
  have ha : z.a = a := by rw [hz]
  have hs : z.ca = ⟨.slice A1 t.ca.damage.length c1, .slice A2 t.ca.frames.length c2, .slice A3 t.ca.region.length c3, .slice A4 t.ca.order.length c4, .slice A5 t.ca.places.length c5⟩ := by rw [hz]
  clear hz
  rw [← ha] at hlt ⊢
  have k0 : w.cell? ⟨z.a, 13, none⟩ = some (.bool t.ca.attach) := by
    have := h.cell 13
    simp only [sfCells, hs] at this
    exact this
  have k1 : w.cell? ⟨z.a, 14, none⟩ = some (.int .i64 t.ca.buffer) := by
    have := h.cell 14
    simp only [sfCells, hs] at this
    exact this
  have k2 : w.cell? ⟨z.a, 15, none⟩ = some (.slice A1 t.ca.damage.length c1) := by
    have := h.cell 15
    simp only [sfCells, hs] at this
    exact this
  have k3 : w.cell? ⟨z.a, 16, none⟩ = some (.slice A2 t.ca.frames.length c2) := by
    have := h.cell 16
    simp only [sfCells, hs] at this
    exact this
  have k4 : w.cell? ⟨z.a, 17, none⟩ = some (.bool t.ca.input) := by
    have := h.cell 17
    simp only [sfCells, hs] at this
    exact this
  have k5 : w.cell? ⟨z.a, 18, none⟩ = some (.bool t.ca.all) := by
    have := h.cell 18
    simp only [sfCells, hs] at this
    exact this
  have k6 : w.cell? ⟨z.a, 19, none⟩ = some (.slice A3 t.ca.region.length c3) := by
    have := h.cell 19
    simp only [sfCells, hs] at this
    exact this
  have k7 : w.cell? ⟨z.a, 20, none⟩ = some (.bool t.ca.ordered) := by
    have := h.cell 20
    simp only [sfCells, hs] at this
    exact this
  have k8 : w.cell? ⟨z.a, 21, none⟩ = some (.slice A4 t.ca.order.length c4) := by
    have := h.cell 21
    simp only [sfCells, hs] at this
    exact this
  have k9 : w.cell? ⟨z.a, 22, none⟩ = some (.slice A5 t.ca.places.length c5) := by
    have := h.cell 22
    simp only [sfCells, hs] at this
    exact this
  unfold stVal
  dsimp only
  have hR := hide (fun o => heap_alloc_new w o)
  have hB := hide (fun o => (Below.refl _ w).alloc (Nat.le_refl w.heap.size) o)
  clear h hr ha hs
  generalize z.a = q at *
  go_enter Tryz.func124, Tryz.ntmps124
  go_wp2
  try simp only [Exit.inBlock, Exit.then]
  refine bodyPost_ret (results_cell_row rfl _ _ w.heap.size 41 #[.bool t.ca.attach, .int .i64 t.ca.buffer, .slice A1 t.ca.damage.length c1, .slice A2 t.ca.frames.length c2, .bool t.ca.input, .bool t.ca.all, .slice A3 t.ca.region.length c3, .bool t.ca.ordered, .slice A4 t.ca.order.length c4, .slice A5 t.ca.places.length c5] (0, 0) _ rfl (hR.out _) Tryz.underlying41 rfl (by kernel_rfl)) rfl ?_
  exact ⟨rfl, hB.out _⟩
set_option maxRecDepth 100000 in
set_option maxHeartbeats 2000000 in
theorem of_cached_any (w : World) (h : ForZ w p mb F n Z M) (id : Int) (hid : I64 id) (hf : ∀ t, M id = some t → MergeFits t.ca St.zero) :
    Calls Tryz.prog 59 #[.pointer (some ⟨p, 0, none⟩), .int .i64 id, .func (.func 124) #[] #[]] w (BigP w (tellM M id fun t => t.ca)) := by
  have hpl := h.lt p h.pF
  have hb0 : ∀ o, Below w.heap.size w (w.alloc o) := fun o => (Below.refl _ w).alloc (Nat.le_refl _) o
  have hc := fun o => (h.below (hb0 o)).cellP
  have hl := fun o => (h.below (hb0 o)).look hid
  have hR := hide (fun o => heap_alloc_new w o)
  cases hs : M id with
  | none =>
    have e1 : tellM M id (fun t => t.ca) = St.zero := by simp [tellM, hs]
    rw [e1]
    rw [h.zNone hs] at hl
    simp only [Option.map_none, Option.getD_none] at hl
    replace hb0 := hide hb0
    clear h hs e1 hf hpl
    go_enter Tryz.func59, Tryz.ntmps59
    go_wp2
    try simp only [Exit.inBlock, Exit.then]
    refine bodyPost_ret (results_cell_row rfl _ _ w.heap.size 41 #[.bool false, .int .i64 0, .slice none 0 0, .slice none 0 0, .bool false, .bool false, .slice none 0 0, .bool false, .slice none 0 0, .slice none 0 0] (0, 0) _ rfl (hR.out _) Tryz.underlying41 rfl (by kernel_rfl)) rfl ?_
    exact ⟨StV.nil, rfl, ⟨World.ownsRow_nil _ _ _ _, World.ownsRow_nil _ _ _ _, World.ownsRow_nil _ _ _ _, World.ownsRow_nil _ _ _ _, World.ownsRow_nil _ _ _ _⟩, hb0.out _⟩
  | some t =>
    obtain ⟨z, hz, ht⟩ := h.find hs
    have e1 : tellM M id (fun t => t.ca) = t.ca := by simp [tellM, hs]
    rw [e1]
    rw [hz] at hl
    simp only [Option.map_some, Option.getD_some, SfV.ptr] at hl
    have cC := hide (fun o => cached1_any (w.alloc o) ((h.below (hb0 o)).surf id z t hz hs))
    have cW := hide (fun (W : World) (hb : Below w.heap.size w W) => own_any W z.ca t.ca (ht.ca.below hb (Nat.le_refl _)) (hf t hs))
    replace hb0 := hide hb0
    clear h hs e1 hf hpl hz ht
    generalize t.ca = S at cC cW ⊢
    generalize z.ca = V at cC cW
    go_enter Tryz.func59, Tryz.ntmps59
    go_wp2_with fail
    refine (cC.out _).mono ?_
    rintro e w1 ⟨rfl, b1⟩
    have hr1 := hide ((b1.block w.heap.size (by simp)).trans (hR.out _))
    have cW1 := hide (cW.out w1 ((hb0.out _).trans (b1.mono (by simp))))
    have hb1 := hide ((hb0.out _).trans (b1.mono (by simp)) : Below w.heap.size w w1)
    have hz1 := hide b1.size
    clear b1 cW cC
    go_wp2_with fail
    refine cW1.out.mono ?_
    rintro e w2 ⟨v2, rfl, o2, b2⟩
    have hlt1 : w.heap.size < w1.heap.size := by have := hz1.out; simp only [World.size_alloc] at this; omega
    have hr2 := hide ((b2.block w.heap.size hlt1).trans hr1.out)
    obtain ⟨r0, r1, r2, r3, r4, r5, r6, r7, r8, r9⟩ := cells10 hr2.out
    obtain ⟨g0, g1, g2, g3, g4, g5, g6, g7, g8, g9⟩ := froz10 hr2.out
    obtain ⟨A1, c1, A2, c2, A3, c3, A4, c4, A5, c5, rfl⟩ := o2.forms
    have hbig := hide (fun x0 x1 x2 x3 x4 x5 x6 x7 x8 x9 => big_cell (w := w) (w1 := w2) (s := S) hlt1 (Nat.le_refl _) (hb1.out.trans (b2.mono hb1.out.size)) o2 x0 x1 x2 x3 x4 x5 x6 x7 x8 x9)
    have hRR := hide (set10 hr2.out (.bool S.attach) (.int .i64 S.buffer) (.slice A1 S.damage.length c1) (.slice A2 S.frames.length c2) (.bool S.input) (.bool S.all) (.slice A3 S.region.length c3) (.bool S.ordered) (.slice A4 S.order.length c4) (.slice A5 S.places.length c5))
    clear o2 b2 hr1 cW1 hlt1
    unfold stVal
    dsimp only
    go_wp2
    try simp only [Exit.inBlock, Exit.then]
    refine bodyPost_ret (results_cell_row rfl _ _ w.heap.size 41 #[.bool S.attach, .int .i64 S.buffer, .slice A1 S.damage.length c1, .slice A2 S.frames.length c2, .bool S.input, .bool S.all, .slice A3 S.region.length c3, .bool S.ordered, .slice A4 S.order.length c4, .slice A5 S.places.length c5] (0, 0) _ rfl hRR.out Tryz.underlying41 rfl (by kernel_rfl)) rfl ?_
    obtain ⟨hq1, hq2⟩ := hbig.out (.bool S.attach) (.int .i64 S.buffer) (.slice A1 S.damage.length c1) (.slice A2 S.frames.length c2) (.bool S.input) (.bool S.all) (.slice A3 S.region.length c3) (.bool S.ordered) (.slice A4 S.order.length c4) (.slice A5 S.places.length c5)
    exact ⟨_, rfl, hq1, hq2⟩
set_option maxRecDepth 100000 in
set_option maxHeartbeats 2000000 in
theorem fCached_any (w : World) (h : ForZ w p mb F n Z M) (id : Int) (hid : I64 id) (hf : ∀ t, M id = some t → MergeFits t.ca St.zero) :
    Calls Tryz.prog 81 #[.pointer (some ⟨p, 0, none⟩), .int .i64 id] w (BigP w (tellM M id fun t => t.ca)) := by
  have hb0 : ∀ o, Below w.heap.size w (w.alloc o) := fun o => (Below.refl _ w).alloc (Nat.le_refl _) o
  have cW := hide (fun o => of_cached_any (w.alloc o) (h.below (hb0 o)) id hid hf)
  have hR := hide (fun o => heap_alloc_new w o)
  replace hb0 := hide hb0
  generalize tellM M id (fun t => t.ca) = S at cW ⊢
  clear h hf
  go_enter Tryz.func81, Tryz.ntmps81
  go_wp2_with fail
  refine (cW.out _).mono ?_
  rintro e w2 ⟨v2, rfl, o2, b2⟩
  have hr2 := hide ((b2.block w.heap.size (by simp)).trans (hR.out _))
  obtain ⟨r0, r1, r2, r3, r4, r5, r6, r7, r8, r9⟩ := cells10 hr2.out
  obtain ⟨g0, g1, g2, g3, g4, g5, g6, g7, g8, g9⟩ := froz10 hr2.out
  obtain ⟨A1, c1, A2, c2, A3, c3, A4, c4, A5, c5, rfl⟩ := o2.forms
  have hbig := hide (fun x0 x1 x2 x3 x4 x5 x6 x7 x8 x9 => big_cell (w := w) (w1 := w2) (s := S) (g := w.heap.size) (by simp) (Nat.le_refl _) ((hb0.out _).trans (b2.mono (by simp))) o2 x0 x1 x2 x3 x4 x5 x6 x7 x8 x9)
  have hRR := hide (set10 hr2.out (.bool S.attach) (.int .i64 S.buffer) (.slice A1 S.damage.length c1) (.slice A2 S.frames.length c2) (.bool S.input) (.bool S.all) (.slice A3 S.region.length c3) (.bool S.ordered) (.slice A4 S.order.length c4) (.slice A5 S.places.length c5))
  clear o2 b2 cW
  unfold stVal
  dsimp only
  go_wp2
  try simp only [Exit.inBlock, Exit.then]
  refine bodyPost_ret (results_cell_row rfl _ _ w.heap.size 41 #[.bool S.attach, .int .i64 S.buffer, .slice A1 S.damage.length c1, .slice A2 S.frames.length c2, .bool S.input, .bool S.all, .slice A3 S.region.length c3, .bool S.ordered, .slice A4 S.order.length c4, .slice A5 S.places.length c5] (0, 0) _ rfl hRR.out Tryz.underlying41 rfl (by kernel_rfl)) rfl ?_
  obtain ⟨hq1, hq2⟩ := hbig.out (.bool S.attach) (.int .i64 S.buffer) (.slice A1 S.damage.length c1) (.slice A2 S.frames.length c2) (.bool S.input) (.bool S.all) (.slice A3 S.region.length c3) (.bool S.ordered) (.slice A4 S.order.length c4) (.slice A5 S.places.length c5)
  exact ⟨_, rfl, hq1, hq2⟩
set_option maxRecDepth 100000 in
set_option maxHeartbeats 1000000 in
theorem current1_any (w : World) {id : Int} {t : Sf} {z : SfV} (h : SurfAt w id t z) :
    Calls Tryz.prog 60 #[.pointer (some ⟨z.a, 0, none⟩)] w fun e w' => e = .returned (stVal t.cu z.cu) ∧ Below w.heap.size w w' := by
  have hlt := h.lt z.a (.inl rfl)
  have hr := h.cu
  obtain ⟨a, zpe, zca, zcu, zG⟩ := z
  dsimp only at hr hlt ⊢
  obtain ⟨A1, c1, A2, c2, A3, c3, A4, c4, A5, c5, rfl⟩ := hr.forms
  obtain ⟨z, hz⟩ : ∃ z : SfV, z = ⟨a, zpe, zca, ⟨.slice A1 t.cu.damage.length c1, .slice A2 t.cu.frames.length c2, .slice A3 t.cu.region.length c3, .slice A4 t.cu.order.length c4, .slice A5 t.cu.places.length c5⟩, zG⟩ := ⟨_, rfl⟩
  rw [← hz] at h
  have ha : z.a = a := by rw [hz]
  have hs : z.cu = ⟨.slice A1 t.cu.damage.length c1, .slice A2 t.cu.frames.length c2, .slice A3 t.cu.region.length c3, .slice A4 t.cu.order.length c4, .slice A5 t.cu.places.length c5⟩ := by rw [hz]
  clear hz
  rw [← ha] at hlt ⊢
  have k0 : w.cell? ⟨z.a, 23, none⟩ = some (.bool t.cu.attach) := by
    have := h.cell 23
    simp only [sfCells, hs] at this
    exact this
  have k1 : w.cell? ⟨z.a, 24, none⟩ = some (.int .i64 t.cu.buffer) := by
    have := h.cell 24
    simp only [sfCells, hs] at this
    exact this
  have k2 : w.cell? ⟨z.a, 25, none⟩ = some (.slice A1 t.cu.damage.length c1) := by
    have := h.cell 25
    simp only [sfCells, hs] at this
    exact this
  have k3 : w.cell? ⟨z.a, 26, none⟩ = some (.slice A2 t.cu.frames.length c2) := by
    have := h.cell 26
    simp only [sfCells, hs] at this
    exact this
  have k4 : w.cell? ⟨z.a, 27, none⟩ = some (.bool t.cu.input) := by
    have := h.cell 27
    simp only [sfCells, hs] at this
    exact this
  have k5 : w.cell? ⟨z.a, 28, none⟩ = some (.bool t.cu.all) := by
    have := h.cell 28
    simp only [sfCells, hs] at this
    exact this
  have k6 : w.cell? ⟨z.a, 29, none⟩ = some (.slice A3 t.cu.region.length c3) := by
    have := h.cell 29
    simp only [sfCells, hs] at this
    exact this
  have k7 : w.cell? ⟨z.a, 30, none⟩ = some (.bool t.cu.ordered) := by
    have := h.cell 30
    simp only [sfCells, hs] at this
    exact this
  have k8 : w.cell? ⟨z.a, 31, none⟩ = some (.slice A4 t.cu.order.length c4) := by
    have := h.cell 31
    simp only [sfCells, hs] at this
    exact this
  have k9 : w.cell? ⟨z.a, 32, none⟩ = some (.slice A5 t.cu.places.length c5) := by
    have := h.cell 32
    simp only [sfCells, hs] at this
    exact this
  unfold stVal
  dsimp only
  have hR := hide (fun o => heap_alloc_new w o)
  have hB := hide (fun o => (Below.refl _ w).alloc (Nat.le_refl w.heap.size) o)
  clear h hr ha hs
  generalize z.a = q at *
  go_enter Tryz.func60, Tryz.ntmps60
  go_wp2
  try simp only [Exit.inBlock, Exit.then]
  refine bodyPost_ret (results_cell_row rfl _ _ w.heap.size 41 #[.bool t.cu.attach, .int .i64 t.cu.buffer, .slice A1 t.cu.damage.length c1, .slice A2 t.cu.frames.length c2, .bool t.cu.input, .bool t.cu.all, .slice A3 t.cu.region.length c3, .bool t.cu.ordered, .slice A4 t.cu.order.length c4, .slice A5 t.cu.places.length c5] (0, 0) _ rfl (hR.out _) Tryz.underlying41 rfl (by kernel_rfl)) rfl ?_
  exact ⟨rfl, hB.out _⟩
set_option maxRecDepth 100000 in
set_option maxHeartbeats 2000000 in
theorem of_current_any (w : World) (h : ForZ w p mb F n Z M) (id : Int) (hid : I64 id) (hf : ∀ t, M id = some t → MergeFits t.cu St.zero) :
    Calls Tryz.prog 59 #[.pointer (some ⟨p, 0, none⟩), .int .i64 id, .func (.func 60) #[] #[]] w (BigP w (tellM M id fun t => t.cu)) := by
  have hpl := h.lt p h.pF
  have hb0 : ∀ o, Below w.heap.size w (w.alloc o) := fun o => (Below.refl _ w).alloc (Nat.le_refl _) o
  have hc := fun o => (h.below (hb0 o)).cellP
  have hl := fun o => (h.below (hb0 o)).look hid
  have hR := hide (fun o => heap_alloc_new w o)
  cases hs : M id with
  | none =>
    have e1 : tellM M id (fun t => t.cu) = St.zero := by simp [tellM, hs]
    rw [e1]
    rw [h.zNone hs] at hl
    simp only [Option.map_none, Option.getD_none] at hl
    replace hb0 := hide hb0
    clear h hs e1 hf hpl
    go_enter Tryz.func59, Tryz.ntmps59
    go_wp2
    try simp only [Exit.inBlock, Exit.then]
    refine bodyPost_ret (results_cell_row rfl _ _ w.heap.size 41 #[.bool false, .int .i64 0, .slice none 0 0, .slice none 0 0, .bool false, .bool false, .slice none 0 0, .bool false, .slice none 0 0, .slice none 0 0] (0, 0) _ rfl (hR.out _) Tryz.underlying41 rfl (by kernel_rfl)) rfl ?_
    exact ⟨StV.nil, rfl, ⟨World.ownsRow_nil _ _ _ _, World.ownsRow_nil _ _ _ _, World.ownsRow_nil _ _ _ _, World.ownsRow_nil _ _ _ _, World.ownsRow_nil _ _ _ _⟩, hb0.out _⟩
  | some t =>
    obtain ⟨z, hz, ht⟩ := h.find hs
    have e1 : tellM M id (fun t => t.cu) = t.cu := by simp [tellM, hs]
    rw [e1]
    rw [hz] at hl
    simp only [Option.map_some, Option.getD_some, SfV.ptr] at hl
    have cC := hide (fun o => current1_any (w.alloc o) ((h.below (hb0 o)).surf id z t hz hs))
    have cW := hide (fun (W : World) (hb : Below w.heap.size w W) => own_any W z.cu t.cu (ht.cu.below hb (Nat.le_refl _)) (hf t hs))
    replace hb0 := hide hb0
    clear h hs e1 hf hpl hz ht
    generalize t.cu = S at cC cW ⊢
    generalize z.cu = V at cC cW
    go_enter Tryz.func59, Tryz.ntmps59
    go_wp2_with fail
    refine (cC.out _).mono ?_
    rintro e w1 ⟨rfl, b1⟩
    have hr1 := hide ((b1.block w.heap.size (by simp)).trans (hR.out _))
    have cW1 := hide (cW.out w1 ((hb0.out _).trans (b1.mono (by simp))))
    have hb1 := hide ((hb0.out _).trans (b1.mono (by simp)) : Below w.heap.size w w1)
    have hz1 := hide b1.size
    clear b1 cW cC
    go_wp2_with fail
    refine cW1.out.mono ?_
    rintro e w2 ⟨v2, rfl, o2, b2⟩
    have hlt1 : w.heap.size < w1.heap.size := by have := hz1.out; simp only [World.size_alloc] at this; omega
    have hr2 := hide ((b2.block w.heap.size hlt1).trans hr1.out)
    obtain ⟨r0, r1, r2, r3, r4, r5, r6, r7, r8, r9⟩ := cells10 hr2.out
    obtain ⟨g0, g1, g2, g3, g4, g5, g6, g7, g8, g9⟩ := froz10 hr2.out
    obtain ⟨A1, c1, A2, c2, A3, c3, A4, c4, A5, c5, rfl⟩ := o2.forms
    have hbig := hide (fun x0 x1 x2 x3 x4 x5 x6 x7 x8 x9 => big_cell (w := w) (w1 := w2) (s := S) hlt1 (Nat.le_refl _) (hb1.out.trans (b2.mono hb1.out.size)) o2 x0 x1 x2 x3 x4 x5 x6 x7 x8 x9)
    have hRR := hide (set10 hr2.out (.bool S.attach) (.int .i64 S.buffer) (.slice A1 S.damage.length c1) (.slice A2 S.frames.length c2) (.bool S.input) (.bool S.all) (.slice A3 S.region.length c3) (.bool S.ordered) (.slice A4 S.order.length c4) (.slice A5 S.places.length c5))
    clear o2 b2 hr1 cW1 hlt1
    unfold stVal
    dsimp only
    go_wp2
    try simp only [Exit.inBlock, Exit.then]
    refine bodyPost_ret (results_cell_row rfl _ _ w.heap.size 41 #[.bool S.attach, .int .i64 S.buffer, .slice A1 S.damage.length c1, .slice A2 S.frames.length c2, .bool S.input, .bool S.all, .slice A3 S.region.length c3, .bool S.ordered, .slice A4 S.order.length c4, .slice A5 S.places.length c5] (0, 0) _ rfl hRR.out Tryz.underlying41 rfl (by kernel_rfl)) rfl ?_
    obtain ⟨hq1, hq2⟩ := hbig.out (.bool S.attach) (.int .i64 S.buffer) (.slice A1 S.damage.length c1) (.slice A2 S.frames.length c2) (.bool S.input) (.bool S.all) (.slice A3 S.region.length c3) (.bool S.ordered) (.slice A4 S.order.length c4) (.slice A5 S.places.length c5)
    exact ⟨_, rfl, hq1, hq2⟩
set_option maxRecDepth 100000 in
set_option maxHeartbeats 2000000 in
theorem fCurrent_any (w : World) (h : ForZ w p mb F n Z M) (id : Int) (hid : I64 id) (hf : ∀ t, M id = some t → MergeFits t.cu St.zero) :
    Calls Tryz.prog 13 #[.pointer (some ⟨p, 0, none⟩), .int .i64 id] w (BigP w (tellM M id fun t => t.cu)) := by
  have hb0 : ∀ o, Below w.heap.size w (w.alloc o) := fun o => (Below.refl _ w).alloc (Nat.le_refl _) o
  have cW := hide (fun o => of_current_any (w.alloc o) (h.below (hb0 o)) id hid hf)
  have hR := hide (fun o => heap_alloc_new w o)
  replace hb0 := hide hb0
  generalize tellM M id (fun t => t.cu) = S at cW ⊢
  clear h hf
  go_enter Tryz.func13, Tryz.ntmps13
  go_wp2_with fail
  refine (cW.out _).mono ?_
  rintro e w2 ⟨v2, rfl, o2, b2⟩
  have hr2 := hide ((b2.block w.heap.size (by simp)).trans (hR.out _))
  obtain ⟨r0, r1, r2, r3, r4, r5, r6, r7, r8, r9⟩ := cells10 hr2.out
  obtain ⟨g0, g1, g2, g3, g4, g5, g6, g7, g8, g9⟩ := froz10 hr2.out
  obtain ⟨A1, c1, A2, c2, A3, c3, A4, c4, A5, c5, rfl⟩ := o2.forms
  have hbig := hide (fun x0 x1 x2 x3 x4 x5 x6 x7 x8 x9 => big_cell (w := w) (w1 := w2) (s := S) (g := w.heap.size) (by simp) (Nat.le_refl _) ((hb0.out _).trans (b2.mono (by simp))) o2 x0 x1 x2 x3 x4 x5 x6 x7 x8 x9)
  have hRR := hide (set10 hr2.out (.bool S.attach) (.int .i64 S.buffer) (.slice A1 S.damage.length c1) (.slice A2 S.frames.length c2) (.bool S.input) (.bool S.all) (.slice A3 S.region.length c3) (.bool S.ordered) (.slice A4 S.order.length c4) (.slice A5 S.places.length c5))
  clear o2 b2 cW
  unfold stVal
  dsimp only
  go_wp2
  try simp only [Exit.inBlock, Exit.then]
  refine bodyPost_ret (results_cell_row rfl _ _ w.heap.size 41 #[.bool S.attach, .int .i64 S.buffer, .slice A1 S.damage.length c1, .slice A2 S.frames.length c2, .bool S.input, .bool S.all, .slice A3 S.region.length c3, .bool S.ordered, .slice A4 S.order.length c4, .slice A5 S.places.length c5] (0, 0) _ rfl hRR.out Tryz.underlying41 rfl (by kernel_rfl)) rfl ?_
  obtain ⟨hq1, hq2⟩ := hbig.out (.bool S.attach) (.int .i64 S.buffer) (.slice A1 S.damage.length c1) (.slice A2 S.frames.length c2) (.bool S.input) (.bool S.all) (.slice A3 S.region.length c3) (.bool S.ordered) (.slice A4 S.order.length c4) (.slice A5 S.places.length c5)
  exact ⟨_, rfl, hq1, hq2⟩
end
end Go.Proofs.YthkjicnnepkghaaGreatDoor
