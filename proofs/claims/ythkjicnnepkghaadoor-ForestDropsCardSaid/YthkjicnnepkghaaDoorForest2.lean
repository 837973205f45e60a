/-
  Package forest: turn, Attach, Frame, Sync, Synced.
-/
import Derived.Test.YthkjicnnepkghaaDoorForest1
import Derived.Deep.AppendLies
import Derived.Deep.RegionLaw
namespace Go.Proofs.YthkjicnnepkghaaDoor
open Go.RowKit
set_option linter.unusedVariables false

section
variable {p mb n : Nat} {F : Nat → Prop} {Z : Int → Option SfV} {M : Fo}
theorem ForZ.turnOut {w w' : World} {id : Int} {t' : Sf} {z z' : SfV} (h : ForZ w p mb F n Z M) (hz : Z id = some z) (hc : Chg z.F w w') (ha : z'.a = z.a) (hs' : SurfAt w' id t' z' ∧ (∀ b, z'.F b → z.F b ∨ w.heap.size ≤ b)) :
    FOut w p n F (setM M id (some t')) w' :=
  ⟨_, ⟨mb, _, (h.turn hz hc ha hs'.1 hs'.2).mono (Nat.le_succ n)⟩, hc.mono (fun b _ hb => h.inF id z hz b hb), fun b hb => by
    rcases hb with hb | hb
    · exact .inl hb
    · rcases hs'.2 b hb with h1 | h1
      · exact .inl (h.inF id z hz b h1)
      · exact .inr h1⟩
theorem ForZ.out {w : World} (h : ForZ w p mb F n Z M) : ForAt w p F n M := ⟨mb, Z, h⟩

set_option maxRecDepth 100000 in
theorem turn_attach_none {B : Nat} (w : World) {ae : Nat → Addr} (hE : ErrF B w ae) (h : ForZ w p mb F n Z M) (id : Int) (hid : I64 id) (caps : Array Value) (hs : M id = none) :
    Calls Tryd.prog 39 #[.pointer (some ⟨p, 0, none⟩), .int .i64 id, .func (.func 40) #[] caps] w fun e w' => e = .returned (errV ae 5) ∧ w = w' := by
  have hc := h.cellP
  have g4 : w.cell? ⟨1, 0, none⟩ = _ := hE.glob 4 (by decide)
  have hl := h.look_none hid (h.zNone hs)
  clear h hs
  go_enter Tryd.func39, Tryd.ntmps39
  go_wp2
  go_ret
  exact ⟨rfl, rfl⟩
set_option maxRecDepth 100000 in
theorem turn_attach_some (w : World) (h : ForZ w p mb F n Z M) (id : Int) (hid : I64 id) (b : Value) {z : SfV} (hz : Z id = some z) {R : World → Prop}
    (hcall : Calls Tryd.prog 40 #[.pointer (some ⟨z.a, 3, none⟩), b] w fun e w' => e = .returned (.tuple #[]) ∧ R w') :
    Calls Tryd.prog 39 #[.pointer (some ⟨p, 0, none⟩), .int .i64 id, .func (.func 40) #[] #[b]] w fun e w' => e = .returned .nilIface ∧ R w' := by
  have hc := h.cellP
  have hl := h.look_some hid hz
  replace hcall := hide hcall
  clear h hz
  go_enter Tryd.func39, Tryd.ntmps39
  go_wp2_with fail
  refine hcall.out.mono ?_
  rintro e w' ⟨rfl, hR⟩
  replace hR := hide hR
  go_wp2
  go_ret
  exact ⟨rfl, hR.out⟩
set_option maxRecDepth 100000 in
theorem turn_frame_none {B : Nat} (w : World) {ae : Nat → Addr} (hE : ErrF B w ae) (h : ForZ w p mb F n Z M) (id : Int) (hid : I64 id) (caps : Array Value) (hs : M id = none) :
    Calls Tryd.prog 39 #[.pointer (some ⟨p, 0, none⟩), .int .i64 id, .func (.func 64) #[] caps] w fun e w' => e = .returned (errV ae 5) ∧ w = w' := by
  have hc := h.cellP
  have g4 : w.cell? ⟨1, 0, none⟩ = _ := hE.glob 4 (by decide)
  have hl := h.look_none hid (h.zNone hs)
  clear h hs
  go_enter Tryd.func39, Tryd.ntmps39
  go_wp2
  go_ret
  exact ⟨rfl, rfl⟩
set_option maxRecDepth 100000 in
theorem turn_frame_some (w : World) (h : ForZ w p mb F n Z M) (id : Int) (hid : I64 id) (b : Value) {z : SfV} (hz : Z id = some z) {R : World → Prop}
    (hcall : Calls Tryd.prog 64 #[.pointer (some ⟨z.a, 3, none⟩), b] w fun e w' => e = .returned (.tuple #[]) ∧ R w') :
    Calls Tryd.prog 39 #[.pointer (some ⟨p, 0, none⟩), .int .i64 id, .func (.func 64) #[] #[b]] w fun e w' => e = .returned .nilIface ∧ R w' := by
  have hc := h.cellP
  have hl := h.look_some hid hz
  replace hcall := hide hcall
  clear h hz
  go_enter Tryd.func39, Tryd.ntmps39
  go_wp2_with fail
  refine hcall.out.mono ?_
  rintro e w' ⟨rfl, hR⟩
  replace hR := hide hR
  go_wp2
  go_ret
  exact ⟨rfl, hR.out⟩

set_option maxRecDepth 100000 in
theorem attach1_any (w : World) {id : Int} {t : Sf} {z : SfV} (h : SurfAt w id t z) (cb : Nat) (b : Int) (hb : w.cell? ⟨cb, 0, none⟩ = some (.int .i64 b)) (hne : cb ≠ z.a) :
    Calls Tryd.prog 40 #[.pointer (some ⟨z.a, 3, none⟩), .pointer (some ⟨cb, 0, none⟩)] w fun e w' => e = .returned (.tuple #[]) ∧ w' = ((w.setCell ⟨z.a, 3, none⟩ (.bool true)).setCell ⟨z.a, 4, none⟩ (.int .i64 b)).drew := by
  have c3 : w.cell? ⟨z.a, 3, none⟩ = some (.bool t.pe.attach) := h.cell 3
  have c4 : w.cell? ⟨z.a, 4, none⟩ = some (.int .i64 t.pe.buffer) := h.cell 4
  have f3 := h.free 3
  have f4 := h.free 4
  have s1 : ∀ k u, (w.setCell ⟨z.a, k, none⟩ u).cell? ⟨cb, 0, none⟩ = some (.int .i64 b) := fun k u => (World.cell?_setCell_other _ _ _ _ (fun e => hne (congrArg Addr.block e).symm)).trans hb
  have s2 : ∀ k u k' u', ((w.setCell ⟨z.a, k, none⟩ u).setCell ⟨z.a, k', none⟩ u').cell? ⟨cb, 0, none⟩ = some (.int .i64 b) := fun k u k' u' => (World.cell?_setCell_other _ _ _ _ (fun e => hne (congrArg Addr.block e).symm)).trans (s1 k u)
  clear h
  go_enter Tryd.func40, Tryd.ntmps40
  go_wp2
  go_region_held3 (fun w' => w'.cell? ⟨cb, 0, none⟩ = some (.int .i64 b)) (first | go_keep | exact s1 _ _ | exact s2 _ _ _ _) (fail)
  all_goals
    go_wp2
    go_end0
    exact ⟨rfl, rfl⟩

theorem chg1 (w : World) (a k : Nat) (u : Value) {F : Nat → Prop} (hF : F a) : Chg F w (w.setCell ⟨a, k, none⟩ u) := Chg.setCell w (a := ⟨a, k, none⟩) hF u
theorem chg2 (w : World) (a k k' : Nat) (u u' : Value) {F : Nat → Prop} (hF : F a) : Chg F w ((w.setCell ⟨a, k, none⟩ u).setCell ⟨a, k', none⟩ u') :=
  (chg1 w a k u hF).trans (chg1 _ a k' u' hF) (Ext.refl _ _)
theorem chg1e (w : World) (a k : Nat) (u : Value) : Chg (fun b => b = a) w (w.setCell ⟨a, k, none⟩ u) := chg1 w a k u rfl
theorem chg2e (w : World) (a k k' : Nat) (u u' : Value) : Chg (fun b => b = a) w ((w.setCell ⟨a, k, none⟩ u).setCell ⟨a, k', none⟩ u') := chg2 w a k k' u u' rfl
theorem set_cells {w : World} {id : Int} {t : Sf} {z : SfV} (h : SurfAt w id t z) (k : Nat) (u : Value) {t' : Sf} {z' : SfV} (e : (sfCells id t z).setIfInBounds k u = sfCells id t' z') : (w.setCell ⟨z.a, k, none⟩ u).heap[z.a]? = some (.cells (sfCells id t' z') 60 (0, 0)) := by
  rw [← e]; exact heap_setCell_same w z.a k _ _ u h.blk
theorem set_cells2 {w : World} {id : Int} {t : Sf} {z : SfV} (hb : w.heap[z.a]? = some (.cells (sfCells id t z) 60 (0, 0))) (k k' : Nat) (u u' : Value) {t' : Sf} {z' : SfV} (e : ((sfCells id t z).setIfInBounds k u).setIfInBounds k' u' = sfCells id t' z') :
    ((w.setCell ⟨z.a, k, none⟩ u).setCell ⟨z.a, k', none⟩ u').heap[z.a]? = some (.cells (sfCells id t' z') 60 (0, 0)) := by
  rw [← e]; exact heap_setCell_same _ z.a k' _ _ u' (heap_setCell_same w z.a k _ _ u hb)

set_option maxRecDepth 100000 in
theorem fAttach_any {B : Nat} (w : World) {ae : Nat → Addr} (hE : ErrF B w ae) (h : ForZ w p mb F n Z M) (id b : Int) (hid : I64 id) :
    Calls Tryd.prog 14 #[.pointer (some ⟨p, 0, none⟩), .int .i64 id, .int .i64 b] w fun e w' => e = .returned (errV ae (thereK M id)) ∧ FOut w p n F (turnS M id (attachT b)) w' := by
  have hE1 := fun o => hE.alloc o
  have hB : ∀ o, Below w.heap.size w (w.alloc o) := fun o => (Below.refl _ w).alloc (Nat.le_refl _) o
  have h1 := fun o => h.below (hB o)
  cases hs : M id with
  | none =>
    have e1 : thereK M id = 5 := by simp [thereK, hs]
    have e2 : turnS M id (attachT b) = M := by simp [turnS, hs]
    rw [e1, e2]
    have cT := hide (fun o caps => turn_attach_none (w.alloc o) (hE1 o) (h1 o) id hid caps hs)
    have hout := hide (fun o => h.out.stayB (hB o))
    clear h h1 hE hE1 e1 e2 hs hB
    go_enter Tryd.func14, Tryd.ntmps14
    go_wp2_with fail
    refine (cT.out _ _).mono ?_
    rintro e w' ⟨rfl, rfl⟩
    go_wp2
    go_ret
    exact ⟨rfl, hout.out _⟩
  | some t =>
    obtain ⟨z, hz, ht⟩ := h.find hs
    have e1 : thereK M id = 0 := by simp [thereK, hs]
    have e2 : turnS M id (attachT b) = setM M id (some { t with pe := attachT b t.pe }) := by simp [turnS, hs]
    rw [e1, e2]
    have hlt := ht.lt z.a (.inl rfl)
    have hcc := cell_one_new w (.int .i64 b) 3 0 _ rfl
    rw [addr_add] at hcc
    have cA := attach1_any (w.alloc (.cells #[.int .i64 b] 3)) ((h1 _).surf id z t hz hs) w.heap.size b hcc (by omega)
    have cT := hide (turn_attach_some (w.alloc (.cells #[.int .i64 b] 3)) (h1 _) id hid (.pointer (some ⟨w.heap.size, 0, none⟩)) hz cA)
    have hh := hide h
    have hz' := hide hz
    have hs' := hide hs
    have ht' := hide ht
    clear h h1 hE hE1 e1 e2 hs hB hz ht cA hcc
    go_enter Tryd.func14, Tryd.ntmps14
    go_wp2_with fail
    refine cT.out.mono ?_
    rintro e w' ⟨rfl, rfl⟩
    go_wp2
    go_ret
    refine ⟨rfl, hh.out.turnOut (z' := { z with G := grownG w _ z.G }) hz'.out ?_ rfl (ht'.out.froz ?_ rfl rfl ?_ (.inl ⟨rfl, rfl⟩) (.inl ⟨rfl, rfl⟩) .same .same .same .same .same)⟩
    · exact ((chg2 w z.a 3 4 _ _ (.inl rfl)).alloc _).drewN 1
    · exact ((chg2e w z.a 3 4 _ _).alloc _).drewN 1
    · exact (Below.heap_alloc _ _ _ (by simpa [World.setCell] using hlt)).trans (set_cells2 (t := t) ht'.out.blk 3 4 _ _ rfl)

set_option maxRecDepth 100000 in
theorem fSync_any {B : Nat} (w : World) {ae : Nat → Addr} (hE : ErrF B w ae) (h : ForZ w p mb F n Z M) (hG : GoodM M) (id : Int) (on : Bool) (hid : I64 id) :
    Calls Tryd.prog 13 #[.pointer (some ⟨p, 0, none⟩), .int .i64 id, .bool on] w fun e w' => e = .returned (errV ae (childK M id)) ∧ FOut w p n F (fsyncS M id on) w' := by
  have cC := fChild_any w hE h hG id hid
  cases hs : M id with
  | none =>
    have e1 : childK M id = 5 := by simp [childK, hs]
    have e2 : fsyncS M id on = M := by simp [fsyncS, hs]
    have e3 : childV Z M id = (.pointer none, .pointer none) := by simp [childV, hs]
    rw [e1, e3, show errV ae 5 = .iface 151 (.pointer (some (ae 4))) from rfl] at cC
    rw [e1, e2]
    have hout := hide (fun q => h.out.stayN q)
    replace cC := hide cC
    clear h hG hE hs e1 e2 e3
    go_enter Tryd.func13, Tryd.ntmps13
    go_wp2_with fail
    refine cC.out.mono ?_
    rintro e w' ⟨rfl, q, rfl⟩
    go_wp2
    go_ret
    exact ⟨rfl, hout.out _⟩
  | some t =>
    by_cases hp : t.parent = 0
    · have e1 : childK M id = 10 := by simp [childK, hs, hp]
      have e2 : fsyncS M id on = M := by unfold fsyncS; rw [hs]; dsimp only; rw [if_pos hp]
      have e3 : childV Z M id = (.pointer none, .pointer none) := by simp [childV, hs, hp]
      rw [e1, e3, show errV ae 10 = .iface 151 (.pointer (some (ae 9))) from rfl] at cC
      rw [e1, e2]
      have hout := hide (fun q => h.out.stayN q)
      replace cC := hide cC
      clear h hG hE hs e1 e2 e3 hp
      go_enter Tryd.func13, Tryd.ntmps13
      go_wp2_with fail
      refine cC.out.mono ?_
      rintro e w' ⟨rfl, q, rfl⟩
      go_wp2
      go_ret
      exact ⟨rfl, hout.out _⟩
    · obtain ⟨z, hz, ht⟩ := h.find hs
      obtain ⟨t2, ht2⟩ := hG.par id t hs hp
      obtain ⟨z2, hz2, _⟩ := h.find ht2
      have e1 : childK M id = 0 := by simp [childK, hs, hp]
      have e2 : fsyncS M id on = setM M id (some { t with sync := on }) := by unfold fsyncS; rw [hs]; dsimp only; rw [if_neg hp]
      have e3 : childV Z M id = (.pointer (some ⟨z.a, 0, none⟩), .pointer (some ⟨z2.a, 0, none⟩)) := by simp [childV, hs, hp, hz, hz2, SfV.ptr]
      rw [e1, e3, show errV ae 0 = .nilIface from rfl] at cC
      rw [e1, e2]
      replace cC := hide cC
      have c2 : w.cell? ⟨z.a, 2, none⟩ = some (.bool t.sync) := ht.cell 2
      have f2 := ht.free 2
      have hh := hide h
      have hz' := hide hz
      have ht' := hide ht
      clear h hG hE hs e1 e2 e3 hp hz ht hz2 ht2
      go_enter Tryd.func13, Tryd.ntmps13
      go_wp2_with fail
      refine cC.out.mono ?_
      rintro e w' ⟨rfl, q, rfl⟩
      go_wp2
      go_ret
      refine ⟨rfl, hh.out.turnOut (z' := { z with G := grownG w _ z.G }) hz'.out ?_ rfl (ht'.out.froz ?_ rfl rfl ?_ (.inl ⟨rfl, rfl⟩) (.inl ⟨rfl, rfl⟩) .same .same .same .same .same)⟩
      · exact (chg1 w z.a 2 _ (.inl rfl)).drewN q
      · exact (chg1e w z.a 2 _).drewN q
      · exact set_cells (t := t) ht'.out 2 _ rfl
end
end Go.Proofs.YthkjicnnepkghaaDoor
