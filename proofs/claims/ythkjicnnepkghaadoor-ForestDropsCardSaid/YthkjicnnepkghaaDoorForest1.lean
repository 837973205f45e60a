/-
  Package forest: New, Has, Parent, latest, order, child.
-/
import Derived.Test.YthkjicnnepkghaaDoorFMem2
import Derived.Test.YthkjicnnepkghaaDoorErrs
namespace Go.Proofs.YthkjicnnepkghaaDoor
open Go.RowKit
set_option linter.unusedVariables false

theorem fNew_any (w : World) : Calls Tryd.prog 8 #[] w fun e w' => ∃ p F, e = .returned (.pointer (some ⟨p, 0, none⟩)) ∧ ForAt w' p F 0 (fun _ => none) ∧ Below w.heap.size w w' ∧ ∀ b, F b → w.heap.size ≤ b := by
  have hmm := @run_makeMap Tryd.prog
  go_enter Tryd.func8, Tryd.ntmps8
  go_wp2
  go_ret
  have h1 : ((w.alloc (.map #[] 0)).alloc (.cells #[.map (some w.heap.size)] 56)).heap[w.heap.size + 1]? = some (.cells #[.map (some w.heap.size)] 56 (0, 0)) := heap_alloc2_new _ _ _
  refine ⟨w.heap.size + 1, fun b => b = w.heap.size ∨ b = w.heap.size + 1, rfl, ⟨w.heap.size, fun _ => none, ⟨h1, (MapAt.made w Tryd.prog 3).kept (World.grownBy_alloc _ _ none) (by simp), .inr rfl, .inl rfl, by simp, by simp, by simp, by simp, by simp, ?_⟩⟩, ((Below.refl _ _).alloc (Nat.le_refl _) _).alloc (by simp) _, ?_⟩
  · intro b hb
    simp
    omega
  · intro b hb
    omega

section
variable {p mb n : Nat} {F : Nat → Prop} {Z : Int → Option SfV} {M : Fo}
set_option maxRecDepth 100000 in
theorem fHas_any (w : World) (h : ForZ w p mb F n Z M) (id : Int) (hid : I64 id) :
    Calls Tryd.prog 25 #[.pointer (some ⟨p, 0, none⟩), .int .i64 id] w fun e w' => e = .returned (.bool (M id).isSome) ∧ w = w' := by
  have hc := h.cellP
  cases hs : M id with
  | none =>
    have hl := h.look_none hid (h.zNone hs)
    clear h hs
    go_enter Tryd.func25, Tryd.ntmps25
    go_wp2
    go_ret
    exact ⟨rfl, rfl⟩
  | some t =>
    obtain ⟨z, hz, _⟩ := h.find hs
    have hl := h.look_some hid hz
    clear h hs hz
    go_enter Tryd.func25, Tryd.ntmps25
    go_wp2
    go_ret
    exact ⟨rfl, rfl⟩

set_option maxRecDepth 100000 in
theorem fParent_any (w : World) (h : ForZ w p mb F n Z M) (id : Int) (hid : I64 id) :
    Calls Tryd.prog 20 #[.pointer (some ⟨p, 0, none⟩), .int .i64 id] w fun e w' => e = .returned (.int .i64 (parM M id)) ∧ w = w' := by
  have hc := h.cellP
  cases hs : M id with
  | none =>
    have hl := h.look_none hid (h.zNone hs)
    have e : parM M id = 0 := by simp [parM, hs]
    rw [e]
    clear h hs e
    go_enter Tryd.func20, Tryd.ntmps20
    go_wp2
    go_ret
    exact ⟨rfl, rfl⟩
  | some t =>
    obtain ⟨z, hz, ht⟩ := h.find hs
    have hl := h.look_some hid hz
    have c1 : w.cell? ⟨z.a, 1, none⟩ = some (.int .i64 t.parent) := ht.cell 1
    rw [parM_some hs]
    clear h hs hz ht
    go_enter Tryd.func20, Tryd.ntmps20
    go_wp2
    go_ret
    exact ⟨rfl, rfl⟩

/-- The value of a surface's latest order. -/
def latV (t : Sf) (z : SfV) : Value := if t.pe.ordered then z.pe.o else if t.ca.ordered then z.ca.o else z.cu.o
theorem latV_rd {w : World} {id : Int} {t : Sf} {z : SfV} (h : SurfAt w id t z) : Rd w (latV t z) 1 t.latest.length (t.latest.map (Value.int .i64)) := by
  unfold latV Sf.latest
  cases t.pe.ordered
  · cases t.ca.ordered
    · exact h.cu.o
    · exact h.ca.o
  · exact h.peO
set_option maxRecDepth 100000 in
theorem sLatest_any (w : World) {id : Int} {t : Sf} {z : SfV} (h : SurfAt w id t z) :
    Calls Tryd.prog 32 #[.pointer (some ⟨z.a, 0, none⟩)] w fun e w' => e = .returned (latV t z) ∧ w = w' := by
  have c10 : w.cell? ⟨z.a, 10, none⟩ = some (.bool t.pe.ordered) := h.cell 10
  have c11 : w.cell? ⟨z.a, 11, none⟩ = some z.pe.o := h.cell 11
  have c20 : w.cell? ⟨z.a, 20, none⟩ = some (.bool t.ca.ordered) := h.cell 20
  have c21 : w.cell? ⟨z.a, 21, none⟩ = some z.ca.o := h.cell 21
  have c31 : w.cell? ⟨z.a, 31, none⟩ = some z.cu.o := h.cell 31
  clear h
  unfold latV
  generalize t.pe.ordered = x at c10 ⊢
  generalize t.ca.ordered = y at c20 ⊢
  cases x
  · cases y
    all_goals
      go_enter Tryd.func32, Tryd.ntmps32
      go_wp2
      go_ret
      exact ⟨rfl, rfl⟩
  · go_enter Tryd.func32, Tryd.ntmps32
    go_wp2
    go_ret
    exact ⟨rfl, rfl⟩

set_option maxRecDepth 100000 in
theorem sOrder_any (w : World) {id : Int} {t : Sf} {z : SfV} (h : SurfAt w id t z) (A : Option Addr) (l c : Nat) :
    Calls Tryd.prog 30 #[.pointer (some ⟨z.a, 0, none⟩), .slice A l c] w fun e w' => e = .returned (.tuple #[]) ∧ (w.setCell ⟨z.a, 10, none⟩ (.bool true)).setCell ⟨z.a, 11, none⟩ (.slice A l c) = w' := by
  have c10 : w.cell? ⟨z.a, 10, none⟩ = some (.bool t.pe.ordered) := h.cell 10
  obtain ⟨Ao, co, ho, _⟩ := h.peO.form
  have c11 : w.cell? ⟨z.a, 11, none⟩ = some z.pe.o := h.cell 11
  have f10 := h.free 10
  have f11 := h.free 11
  clear h
  go_enter Tryd.func30, Tryd.ntmps30
  go_wp2
  go_end0
  exact ⟨rfl, rfl⟩

/-- A surface and its parent. -/
def childV (Z : Int → Option SfV) (M : Fo) (id : Int) : Value × Value := match M id with
  | none => (.pointer none, .pointer none)
  | some t => if t.parent = 0 then (.pointer none, .pointer none) else (((Z id).map SfV.ptr).getD (.pointer none), ((Z t.parent).map SfV.ptr).getD (.pointer none))
set_option maxRecDepth 100000 in
set_option maxHeartbeats 1000000 in
theorem fChild_any {B : Nat} (w : World) {ae : Nat → Addr} (hE : ErrF B w ae) (h : ForZ w p mb F n Z M) (hG : GoodM M) (id : Int) (hid : I64 id) :
    Calls Tryd.prog 38 #[.pointer (some ⟨p, 0, none⟩), .int .i64 id] w fun e w' => e = .returned (.tuple #[(childV Z M id).1, (childV Z M id).2, errV ae (childK M id)]) ∧ ∃ q, w' = w.drewN q := by
  have hc := h.cellP
  have g4 : w.cell? ⟨1, 0, none⟩ = _ := hE.glob 4 (by decide)
  have g9 : w.cell? ⟨3, 0, none⟩ = _ := hE.glob 9 (by decide)
  cases hs : M id with
  | none =>
    have hl := h.look_none hid (h.zNone hs)
    have e1 : childK M id = 5 := by simp [childK, hs]
    have e2 : childV Z M id = (.pointer none, .pointer none) := by simp [childV, hs]
    rw [e1, e2]
    clear h hs e1 e2 g9
    go_enter Tryd.func38, Tryd.ntmps38
    go_wp2
    go_quiet (fail)
    all_goals
      go_wp2
      go_ret3
      exact ⟨rfl, _, rfl⟩
  | some t =>
    obtain ⟨z, hz, ht⟩ := h.find hs
    have hl := h.look_some hid hz
    have c1 : w.cell? ⟨z.a, 1, none⟩ = some (.int .i64 t.parent) := ht.cell 1
    by_cases hp : t.parent = 0
    · have e1 : childK M id = 10 := by simp [childK, hs, hp]
      have e2 : childV Z M id = (.pointer none, .pointer none) := by simp [childV, hs, hp]
      rw [e1, e2]
      rw [hp] at c1
      clear h hs e1 e2 g4 hz ht hp
      go_enter Tryd.func38, Tryd.ntmps38
      go_wp2
      go_quiet (fail)
      all_goals
        go_wp2
        go_ret3
        exact ⟨rfl, _, rfl⟩
    · have hpp := hG.par_pos hs hp
      obtain ⟨t2, ht2⟩ := hG.par id t hs hp
      obtain ⟨z2, hz2, ht2'⟩ := h.find ht2
      have hl2 := fun q => (h.drewN q).look_some hpp.2 hz2
      have e1 : childK M id = 0 := by simp [childK, hs, hp]
      have e2 : childV Z M id = (.pointer (some ⟨z.a, 0, none⟩), .pointer (some ⟨z2.a, 0, none⟩)) := by simp [childV, hs, hp, hz, hz2, SfV.ptr]
      have hq : (t.parent == 0) = false := by simpa using hp
      rw [e1, e2]
      generalize t.parent = tp at *
      clear h hs e1 e2 g4 g9 hz ht hp hpp ht2 ht2' hz2 hG
      go_enter Tryd.func38, Tryd.ntmps38
      go_wp2
      go_quiet (fail)
      all_goals
        go_wp2
        go_ret3
        exact ⟨rfl, _, rfl⟩
end
end Go.Proofs.YthkjicnnepkghaaDoor
