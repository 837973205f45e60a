/-
  Package forest: Damage, Input, Take.
-/
import Derived.Test.YthkjicnnepkghaaGreatDoorPkForest4
import Derived.Test.YthkjicnnepkghaaGreatDoorPkB
import Derived.Test.YthkjicnnepkghaaGreatDoorPkI
namespace Go.Proofs.YthkjicnnepkghaaGreatDoor
open Go.RowKit
set_option linter.unusedVariables false

section
variable {p mb n : Nat} {F : Nat → Prop} {Z : Int → Option SfV} {M : Fo}

set_option maxRecDepth 100000 in
theorem turn_damage_none {B : Nat} (w : World) {ae : Nat → Addr} (hE : ErrF B w ae) (h : ForZ w p mb F n Z M) (id : Int) (hid : I64 id) (caps : Array Value) (hs : M id = none) :
    Calls Tryz.prog 61 #[.pointer (some ⟨p, 0, none⟩), .int .i64 id, .func (.func 63) #[] caps] w fun e w' => e = .returned (errV ae 5) ∧ w = w' := by
  have hc := h.cellP
  have g4 : w.cell? ⟨4, 0, none⟩ = _ := hE.glob 4 (by decide)
  have hl := h.look_none hid (h.zNone hs)
  clear h hs
  go_enter Tryz.func61, Tryz.ntmps61
  go_wp2
  go_ret
  exact ⟨rfl, rfl⟩
set_option maxRecDepth 100000 in
theorem turn_damage_some (w : World) (h : ForZ w p mb F n Z M) (id : Int) (hid : I64 id) (b : Value) {z : SfV} (hz : Z id = some z) {R : World → Prop}
    (hcall : Calls Tryz.prog 63 #[.pointer (some ⟨z.a, 3, none⟩), b] w fun e w' => e = .returned (.tuple #[]) ∧ R w') :
    Calls Tryz.prog 61 #[.pointer (some ⟨p, 0, none⟩), .int .i64 id, .func (.func 63) #[] #[b]] w fun e w' => e = .returned .nilIface ∧ R w' := by
  have hc := h.cellP
  have hl := h.look_some hid hz
  replace hcall := hide hcall
  clear h hz
  go_enter Tryz.func61, Tryz.ntmps61
  go_wp2_with fail
  refine hcall.out.mono ?_
  rintro e w' ⟨rfl, hR⟩
  replace hR := hide hR
  go_wp2
  go_ret
  exact ⟨rfl, hR.out⟩
set_option maxRecDepth 100000 in
theorem turn_input_none {B : Nat} (w : World) {ae : Nat → Addr} (hE : ErrF B w ae) (h : ForZ w p mb F n Z M) (id : Int) (hid : I64 id) (caps : Array Value) (hs : M id = none) :
    Calls Tryz.prog 61 #[.pointer (some ⟨p, 0, none⟩), .int .i64 id, .func (.func 71) #[] caps] w fun e w' => e = .returned (errV ae 5) ∧ w = w' := by
  have hc := h.cellP
  have g4 : w.cell? ⟨4, 0, none⟩ = _ := hE.glob 4 (by decide)
  have hl := h.look_none hid (h.zNone hs)
  clear h hs
  go_enter Tryz.func61, Tryz.ntmps61
  go_wp2
  go_ret
  exact ⟨rfl, rfl⟩
set_option maxRecDepth 100000 in
theorem turn_input_some (w : World) (h : ForZ w p mb F n Z M) (id : Int) (hid : I64 id) (b b2 : Value) {z : SfV} (hz : Z id = some z) {R : World → Prop}
    (hcall : Calls Tryz.prog 71 #[.pointer (some ⟨z.a, 3, none⟩), b, b2] w fun e w' => e = .returned (.tuple #[]) ∧ R w') :
    Calls Tryz.prog 61 #[.pointer (some ⟨p, 0, none⟩), .int .i64 id, .func (.func 71) #[] #[b, b2]] w fun e w' => e = .returned .nilIface ∧ R w' := by
  have hc := h.cellP
  have hl := h.look_some hid hz
  replace hcall := hide hcall
  clear h hz
  go_enter Tryz.func61, Tryz.ntmps61
  go_wp2_with fail
  refine hcall.out.mono ?_
  rintro e w' ⟨rfl, hR⟩
  replace hR := hide hR
  go_wp2
  go_ret
  exact ⟨rfl, hR.out⟩

theorem cells_newD (w : World) (cs : List Value) (t : TypeId) : ∀ j u, cs[j]? = some u → (w.alloc (.cells cs.toArray t)).cell? ((⟨w.heap.size, 0, none⟩ : Addr).add j) = some u := by
  intro j u hj
  rw [addr_add]
  rw [cell_of_row _ w.heap.size (0 + j) _ _ _ (heap_alloc_new _ _)]
  simpa using hj
theorem SurfAt.damaged {w w1 : World} {id : Int} {t : Sf} {z : SfV} (h : SurfAt w id t z) (c : R4) {o : Obj} {g cap : Nat} (hg : (w.drew.alloc o).grownBy w1 z.pe.d.ownBlock)
    (hown : w1.ownsRow 0 30 4 (.slice (some ⟨g, 0, none⟩) (t.pe.damage.length + 1) cap) (t.pe.damage.length + 1) (t.pe.damage.flatMap R4.enc ++ R4.enc c)) (hat : z.pe.d.ownBlock = some g ∨ w.heap.size ≤ g) :
    ∃ z', z'.a = z.a ∧ Chg z.F w (w1.setCell ⟨z.a, 5, none⟩ (.slice (some ⟨g, 0, none⟩) (t.pe.damage.length + 1) cap)) ∧ SurfAt (w1.setCell ⟨z.a, 5, none⟩ (.slice (some ⟨g, 0, none⟩) (t.pe.damage.length + 1) cap)) id { t with pe := damageT c t.pe } z' ∧ ∀ b, z'.F b → z.F b ∨ w.heap.size ≤ b := by
  have hlt := h.lt z.a (.inl rfl)
  have h2 : (w.drew.alloc o).heap[z.a]? = some (.cells (sfCells id t z) 97 (0, 0)) := (Below.heap_alloc w.drew o _ hlt).trans h.blk
  have hne : some z.a ≠ z.pe.d.ownBlock := fun e => (h.d_ne e.symm).1 rfl
  have hb1 : w1.heap[z.a]? = some (.cells (sfCells id t z) 97 (0, 0)) := (hg.block z.a (lt_of_block h2) hne).trans h2
  have hc1 : Chg (fun b => b = z.a ∨ z.pe.d.ownBlock = some b ∨ z.pe.f.ownBlock = some b) w w1 := ((Chg.refl _ w).drewN 1).alloc o |>.trans (Chg.grown hg (F := fun b => b = z.a ∨ z.pe.d.ownBlock = some b ∨ z.pe.f.ownBlock = some b) (fun b hb => .inr (.inl hb))) (Ext.refl _ _)
  have hc2 := hc1.trans (chg1 w1 z.a 5 (.slice (some ⟨g, 0, none⟩) (t.pe.damage.length + 1) cap) (F := fun b => b = z.a ∨ z.pe.d.ownBlock = some b ∨ z.pe.f.ownBlock = some b) (.inl rfl)) (Ext.refl _ _)
  have hgz : g ≠ z.a := by
    obtain ⟨cur, hcur⟩ := own_typeF hown rfl
    exact ne_of_typesF hcur hb1 (by simp)
  have hown2 : (w1.setCell ⟨z.a, 5, none⟩ (.slice (some ⟨g, 0, none⟩) (t.pe.damage.length + 1) cap)).ownsRow 0 30 4 (.slice (some ⟨g, 0, none⟩) (t.pe.damage.length + 1) cap) (t.pe.damage ++ [c]).length ((t.pe.damage ++ [c]).flatMap R4.enc) := by
    have := own_keepF hown (w' := w1.setCell ⟨z.a, 5, none⟩ (.slice (some ⟨g, 0, none⟩) (t.pe.damage.length + 1) cap)) fun b hb => heap_setCell_other w1 _ b _ (by cases hb; exact hgz)
    simpa using this
  have hfk : (w1.setCell ⟨z.a, 5, none⟩ (.slice (some ⟨g, 0, none⟩) (t.pe.damage.length + 1) cap)).ownsRow 0 3 1 z.pe.f t.pe.frames.length (t.pe.frames.map (Value.int .i64)) := by
    refine own_keepF h.fOwn fun b hb => ?_
    have hbl := h.lt b (.inr (.inr (.inl hb)))
    have hfn := h.f_ne hb
    have hfd : some b ≠ z.pe.d.ownBlock := fun e => (h.d_ne e.symm).2 hb
    exact (heap_setCell_other w1 _ b _ hfn).trans ((hg.block b (by simp; exact Nat.lt_succ_of_lt hbl) hfd).trans (Below.heap_alloc w.drew o b hbl))
  refine ⟨{ z with pe := { z.pe with d := .slice (some ⟨g, 0, none⟩) (t.pe.damage.length + 1) cap } }, rfl, hc2.mono (fun b _ hb => ?_), ?_⟩
  · rcases hb with hb | hb | hb
    · exact .inl hb
    · exact .inr (.inl hb)
    · exact .inr (.inr (.inl hb))
  · refine h.more hc2 rfl rfl ?_ hown2 (fun b hb => by cases hb; exact hat) hfk (fun b hb => .inl hb) ⟨rfl, rfl, rfl, rfl, rfl, rfl⟩ ⟨rfl, rfl⟩ ⟨rfl, rfl⟩
    rw [heap_setCell_same w1 z.a 5 _ _ _ hb1]; rfl
theorem Tryz.infoRectD : (Tryz.prog.info? 30).map (fun i => (i.zero, i.size, i.bytes)) = some (some (.agg #[.int .i64 0, .int .i64 0, .int .i64 0, .int .i64 0]), 4, 32) := by kernel_rfl
set_option maxRecDepth 100000 in
set_option maxHeartbeats 1000000 in
theorem damage1_any (w : World) {id : Int} {t : Sf} {z : SfV} (h : SurfAt w id t z) (cb : Nat) (c : R4) (hb : w.heap[cb]? = some (.cells #[.int .i64 c.x, .int .i64 c.y, .int .i64 c.w, .int .i64 c.h] 30 (0, 0))) (hlen : t.pe.damage.length ≤ 100000) :
    Calls Tryz.prog 63 #[.pointer (some ⟨z.a, 3, none⟩), .pointer (some ⟨cb, 0, none⟩)] w fun e w' => e = .returned (.tuple #[]) ∧ ∃ z', z'.a = z.a ∧ Chg z.F w w' ∧ SurfAt w' id { t with pe := damageT c t.pe } z' ∧ ∀ b, z'.F b → z.F b ∨ w.heap.size ≤ b := by
  obtain ⟨i0, hi, hz0, hz1, hz2⟩ := info_parts Tryz.infoRectD
  have c5 : w.cell? ⟨z.a, 5, none⟩ = some z.pe.d := h.cell 5
  have f5 := h.free 5
  have hlt := h.lt z.a (.inl rfl)
  have hrow := h.dOwn
  have hblk := h.blk
  have b0 := cell_of_row w cb 0 _ _ _ hb
  have b1 := cell_of_row w cb 1 _ _ _ hb
  have b2 := cell_of_row w cb 2 _ _ _ hb
  have b3 := cell_of_row w cb 3 _ _ _ hb
  simp at b0 b1 b2 b3
  have hcl := lt_of_block hb
  have hfn := hide (fun (o : Obj) (w1 : World) (hg : (w.drew.alloc o).grownBy w1 z.pe.d.ownBlock) => (hg.block z.a (by simp; exact Nat.lt_succ_of_lt hlt) (fun e => (h.d_ne e.symm).1 rfl)).trans ((Below.heap_alloc w.drew o _ hlt).trans hblk))
  have hout := hide (fun o g cap w1 hg hown hat => h.damaged c (o := o) (w1 := w1) (g := g) (cap := cap) hg hown hat)
  obtain ⟨A1, c1, hf1, hcc⟩ := own_form hrow
  have hw6 : ∀ w1 : World, w1.heap[z.a]? = some (.cells (sfCells id t z) 97 (0, 0)) → w1.cell? ⟨z.a, 5, none⟩ = some z.pe.d ∧ w1.frozen? ⟨z.a, 5, none⟩ = false := fun w1 h1 => ⟨cell_of_row w1 z.a 5 _ _ _ h1, frozen_of_row w1 z.a 5 _ _ h1⟩
  replace hw6 := hide hw6
  obtain ⟨fl, hfl⟩ : ∃ fl, fl = t.pe.damage := ⟨_, rfl⟩
  rw [← hfl] at hrow hf1 hlen hcc hout
  rw [hf1] at c5 hrow hfn hout hw6
  have hca := fun o => (World.cell?_alloc_past (w := w) o z.a 5 hlt).trans c5
  have hrowd : w.drew.ownsRow 0 30 4 (.slice A1 fl.length c1) fl.length (fl.flatMap R4.enc) := hrow
  replace hf1 := hide hf1
  replace hfl := hide hfl
  clear h hblk hb
  obtain ⟨cx, cy, cw, ch⟩ := c
  dsimp only at b0 b1 b2 b3
  go_enter Tryz.func63, Tryz.ntmps63
  go_wp2
  go_region_law (first | (refine step_append_lies _ rfl _ _ 31 rfl 0 30 i0 (.agg #[.int .i64 0, .int .i64 0, .int .i64 0, .int .i64 0]) 4 32 Tryz.underlying31 hi hz0 hz1 hz2 rfl (by decide) _ _ _ (by simp [Act.eval]) (hrowd.alloc _) ⟨w.heap.size, 0, none⟩ 1 1 [.int .i64 cx, .int .i64 cy, .int .i64 cw, .int .i64 ch] (by simp [Act.eval]) rfl (cells_newD _ _ _) (by intro u hu; simp at hu; rcases hu with rfl | rfl | rfl | rfl <;> rfl) (by omega) (by unfold maxLen; omega) (by omega) (by omega) _ rfl ?_; intro g cap w1 hown hgrow hat hlt2; have k0 := hide (hfn.out _ _ hgrow); have k2 := (hw6.out w1 k0.out).1; have k3 := (hw6.out w1 k0.out).2) | fail)
  all_goals
    go_wp2
    go_end0
    have hf := hout.out _ _ _ _ hgrow hown (hat.imp (fun h => h) (fun h => by rw [h]; show w.heap.size ≤ (w.alloc _).heap.size; simp))
    exact ⟨rfl, hf⟩

set_option maxRecDepth 100000 in
theorem fDamage_any {B : Nat} (w : World) {ae : Nat → Addr} (hE : ErrF B w ae) (h : ForZ w p mb F n Z M) (id : Int) (c : R4) (hid : I64 id) (hlen : ∀ t, M id = some t → t.pe.damage.length ≤ 100000) :
    Calls Tryz.prog 16 #[.pointer (some ⟨p, 0, none⟩), .int .i64 id, .agg #[.int .i64 c.x, .int .i64 c.y, .int .i64 c.w, .int .i64 c.h]] w fun e w' => e = .returned (errV ae (thereK M id)) ∧ FOut w p n F (turnS M id (damageT c)) w' := by
  have hE1 := fun o => hE.alloc o
  have hB : ∀ o, Below w.heap.size w (w.alloc o) := fun o => (Below.refl _ w).alloc (Nat.le_refl _) o
  have h1 := fun o => h.below (hB o)
  cases hs : M id with
  | none =>
    have e1 : thereK M id = 5 := by simp [thereK, hs]
    have e2 : turnS M id (damageT c) = M := by simp [turnS, hs]
    rw [e1, e2]
    have cT := hide (fun o caps => turn_damage_none (w.alloc o) (hE1 o) (h1 o) id hid caps hs)
    have hout := hide (fun o => h.out.stayB (hB o))
    clear h h1 hE hE1 e1 e2 hs hB hlen
    go_enter Tryz.func16, Tryz.ntmps16
    go_wp2_with fail
    refine (cT.out _ _).mono ?_
    rintro e w' ⟨rfl, rfl⟩
    go_wp2
    go_ret
    exact ⟨rfl, hout.out _⟩
  | some t =>
    obtain ⟨z, hz, ht⟩ := h.find hs
    have e1 : thereK M id = 0 := by simp [thereK, hs]
    have e2 : turnS M id (damageT c) = setM M id (some { t with pe := damageT c t.pe }) := by simp [turnS, hs]
    rw [e1, e2]
    have cA := damage1_any (w.alloc (.cells #[.int .i64 c.x, .int .i64 c.y, .int .i64 c.w, .int .i64 c.h] 30)) ((h1 _).surf id z t hz hs) w.heap.size c (heap_alloc_new _ _) (hlen t hs)
    have cT := hide (turn_damage_some (w.alloc (.cells #[.int .i64 c.x, .int .i64 c.y, .int .i64 c.w, .int .i64 c.h] 30)) (h1 _) id hid (.pointer (some ⟨w.heap.size, 0, none⟩)) hz cA)
    have hh := hide h
    have hz' := hide hz
    have hb1 := hide (hB (.cells #[.int .i64 c.x, .int .i64 c.y, .int .i64 c.w, .int .i64 c.h] 30))
    clear h h1 hE hE1 e1 e2 hs hB hz ht cA hlen
    go_enter Tryz.func16, Tryz.ntmps16
    go_wp2_with fail
    refine cT.out.mono ?_
    rintro e w' ⟨rfl, z', ha, hc, hs', hF⟩
    replace ha := hide ha
    go_wp2
    go_ret
    refine ⟨rfl, hh.out.turnOut (z' := z') hz'.out ((Chg.of_below hb1.out _).trans hc (Ext.refl _ _)) ha.out ⟨hs', fun b hb => (hF b hb).imp (fun h => h) fun h => ?_⟩⟩
    have := hb1.out.size
    omega

theorem own_none0R (w : World) : (w.alloc (.cells #[] 30)).ownsRow w.heap.size 30 4 (.slice (some ⟨w.heap.size, 0, none⟩) 0 0) 0 [] :=
  ⟨rfl, .inr ⟨w.heap.size, 0, #[], rfl, Nat.le_refl _, heap_alloc_new _ _, Nat.le_refl _, by unfold maxLen; omega, rfl, rfl⟩⟩
theorem oneR15 (L : List R4) : ∀ u ∈ L.flatMap R4.enc, u.oneCell' = true := by
  intro u hu
  obtain ⟨r, _, hr⟩ := List.mem_flatMap.1 hu
  simp [R4.enc] at hr
  rcases hr with rfl | rfl | rfl | rfl <;> rfl
set_option maxRecDepth 100000 in
set_option maxHeartbeats 1000000 in
theorem cloneR_any (w : World) (v : Value) (L : List R4) (hL : Rd w v 4 L.length (L.flatMap R4.enc)) (hl : L.length ≤ 1000000) :
    Calls Tryz.prog 72 #[v] w fun e w' => ∃ v', e = .returned v' ∧ w'.ownsRow w.heap.size 30 4 v' L.length (L.flatMap R4.enc) ∧ Below w.heap.size w w' := by
  obtain ⟨i0, hi, hz0, hz1, hz2⟩ := info_parts Tryz.infoRectD
  obtain ⟨A, c, rfl, hcc⟩ := hL.form
  obtain ⟨n, hn⟩ : ∃ n, n = L.length := ⟨_, rfl⟩
  rw [← hn] at hL hl hcc ⊢
  have hone := hide (oneR15 L)
  have heq := fun w => Lib.run_eql_slice_nil w 31 30 A n c 0 0 Tryz.underlying31
  cases A with
  | none =>
    have hn0 : n = 0 := by
      obtain ⟨_, A', c', hv, _, h2⟩ := hL
      simp only [Value.slice.injEq] at hv
      obtain ⟨rfl, _, rfl⟩ := hv
      rcases Nat.eq_zero_or_pos n with h | h
      · exact h
      · obtain ⟨b, off, hb, _⟩ := h2 h; cases hb
    have hL0 : L = [] := List.eq_nil_of_length_eq_zero (by omega)
    subst hL0
    have hn0h := hide hn0
    clear hn hn0 hL
    go_enter Tryz.func72, Tryz.ntmps72
    go_wp2
    go_ret
    exact ⟨_, rfl, by rw [hn0h.out]; exact World.ownsRow_nil _ _ _ _, Below.refl _ _⟩
  | some a =>
    replace hn := hide hn
    replace hL := hide hL
    go_enter Tryz.func72, Tryz.ntmps72
    go_wp2_with (at_builtin; refine wpList_append_rd rfl _ _ 31 rfl w.heap.size 30 i0 _ 4 32 Tryz.underlying31 hi hz0 hz1 hz2 rfl (by decide) _ 0 [] rfl (own_none0R w) (some a) n c _ rfl (hL.out.alloc _) hone.out (by unfold maxLen; omega) (by omega) (by simp) ?_; intro v2 w2 o2 hg2; rw [Nat.zero_add, List.nil_append] at o2; have b2 : Below w.heap.size w w2 := ((Below.refl _ w).alloc (Nat.le_refl _) _).grown hg2 (by simp) (fun k e => by cases e; exact Nat.le_refl _); obtain ⟨A2, c2, rfl, _⟩ := own_form o2)
    go_ret
    exact ⟨_, rfl, o2, b2⟩

theorem set_cells3 {w : World} {id : Int} {t : Sf} {z : SfV} (hb : w.heap[z.a]? = some (.cells (sfCells id t z) 97 (0, 0))) (k k' k'' : Nat) (u u' u'' : Value) {t' : Sf} {z' : SfV} (e : (((sfCells id t z).setIfInBounds k u).setIfInBounds k' u').setIfInBounds k'' u'' = sfCells id t' z') :
    (((w.setCell ⟨z.a, k, none⟩ u).setCell ⟨z.a, k', none⟩ u').setCell ⟨z.a, k'', none⟩ u'').heap[z.a]? = some (.cells (sfCells id t' z') 97 (0, 0)) := by
  rw [← e]; exact heap_setCell_same _ z.a k'' _ _ u'' (heap_setCell_same _ z.a k' _ _ u' (heap_setCell_same w z.a k _ _ u hb))
theorem chg3e (w : World) (a k k' k'' : Nat) (u u' u'' : Value) : Chg (fun b => b = a) w (((w.setCell ⟨a, k, none⟩ u).setCell ⟨a, k', none⟩ u').setCell ⟨a, k'', none⟩ u'') := (chg2e w a k k' u u').trans (chg1e _ a k'' u'') (Ext.refl _ _)
set_option maxRecDepth 100000 in
set_option maxHeartbeats 2000000 in
theorem input1_any (w : World) {id : Int} {t : Sf} {z : SfV} (h : SurfAt w id t z) (ca cr : Nat) (al : Bool) (v : Value) (l : List R4) (ha : w.cell? ⟨ca, 0, none⟩ = some (.bool al)) (hr : w.cell? ⟨cr, 0, none⟩ = some v) (hca : ca ≠ z.a) (hcr : cr ≠ z.a)
    (hv : Rd w v 4 l.length (l.flatMap R4.enc)) (hvz : ∀ b, v.ownBlock = some b → b ≠ z.a) (hl : l.length ≤ 100000) :
    Calls Tryz.prog 71 #[.pointer (some ⟨z.a, 3, none⟩), .pointer (some ⟨ca, 0, none⟩), .pointer (some ⟨cr, 0, none⟩)] w fun e w' => e = .returned (.tuple #[]) ∧ ∃ z', z'.a = z.a ∧ Chg z.F w w' ∧ SurfAt w' id { t with pe := inputT al l t.pe } z' ∧ ∀ b, z'.F b → z.F b ∨ w.heap.size ≤ b := by
  have c7 : w.cell? ⟨z.a, 7, none⟩ = some (.bool t.pe.input) := h.cell 7
  have c8 : w.cell? ⟨z.a, 8, none⟩ = some (.bool t.pe.all) := h.cell 8
  have c9 : w.cell? ⟨z.a, 9, none⟩ = some z.pe.r := h.cell 9
  have f7 := h.free 7
  have f8 := h.free 8
  have f9 := h.free 9
  obtain ⟨W3, hW3⟩ : ∃ W3, W3 = (((w.setCell ⟨z.a, 7, none⟩ (.bool true)).setCell ⟨z.a, 8, none⟩ (.bool al)).setCell ⟨z.a, 9, none⟩ (.slice none 0 0)) := ⟨_, rfl⟩
  have hc3 : Chg (fun b => b = z.a) w W3 := by rw [hW3]; exact chg3e _ _ _ _ _ _ _ _
  have hb3 : W3.heap[z.a]? = some (.cells (sfCells id { t with pe := { t.pe with input := true, all := al, region := [] } } { z with pe := { z.pe with r := .slice none 0 0 } }) 97 (0, 0)) := by
    rw [hW3]; exact set_cells3 (t := t) h.blk 7 8 9 _ _ _ rfl
  have hlt := h.lt z.a (.inl rfl)
  have ha3 : W3.cell? ⟨ca, 0, none⟩ = some (.bool al) := (World.cell?_of_block (a := ⟨ca, 0, none⟩) (hc3.block ca (block_lt_of_cell ha) hca)).trans ha
  have hr3 : W3.cell? ⟨cr, 0, none⟩ = some v := (World.cell?_of_block (a := ⟨cr, 0, none⟩) (hc3.block cr (block_lt_of_cell hr) hcr)).trans hr
  have hv3 : Rd W3 v 4 l.length (l.flatMap R4.enc) := hv.keepIn (G := fun b => b ≠ z.a) (fun _ b hb => hvz b hb) hc3.size fun b hb hlt => hc3.block b hlt hb
  have s1 : ∀ k u, (w.setCell ⟨z.a, k, none⟩ u).cell? ⟨ca, 0, none⟩ = some (.bool al) := fun k u => (World.cell?_setCell_other _ _ _ _ (fun e => hca (congrArg Addr.block e).symm)).trans ha
  have s2 : ∀ k u k' u', ((w.setCell ⟨z.a, k, none⟩ u).setCell ⟨z.a, k', none⟩ u').cell? ⟨ca, 0, none⟩ = some (.bool al) := fun k u k' u' => (World.cell?_setCell_other _ _ _ _ (fun e => hca (congrArg Addr.block e).symm)).trans (s1 k u)
  have s3 : ∀ k u k' u' k'' u'', (((w.setCell ⟨z.a, k, none⟩ u).setCell ⟨z.a, k', none⟩ u').setCell ⟨z.a, k'', none⟩ u'').cell? ⟨ca, 0, none⟩ = some (.bool al) := fun k u k' u' k'' u'' => (World.cell?_setCell_other _ _ _ _ (fun e => hca (congrArg Addr.block e).symm)).trans (s2 k u k' u')
  have hh := hide h
  have hck := hide hc3
  have hbk := hide hb3
  have hlt3 : z.a < (W3.drewN 1).heap.size := Nat.lt_of_lt_of_le hlt hc3.size
  have hfk := hide (fun (w4 : World) (hb : Below (W3.drewN 1).heap.size (W3.drewN 1) w4) => (⟨frozen_of_row w4 z.a 9 _ _ ((hb.block z.a hlt3).trans hb3), cell_of_row w4 z.a 9 _ _ _ ((hb.block z.a hlt3).trans hb3)⟩ : w4.frozen? ⟨z.a, 9, none⟩ = false ∧ w4.cell? ⟨z.a, 9, none⟩ = some (.slice none 0 0)))
  cases al with
  | true =>
    replace hW3 := hide hW3
    clear h hv hv3 hb3 hc3
    go_enter Tryz.func71, Tryz.ntmps71
    go_wp2
    go_region_held3 (fun w' => w'.cell? ⟨ca, 0, none⟩ = some (.bool true)) (first | go_keep | exact s1 _ _ | exact s2 _ _ _ _ | exact s3 _ _ _ _ _ _) (fail)
    all_goals
      clear s1 s2 s3
      rw [← hW3.out]
      go_wp2
      go_end0
      refine ⟨rfl, { z with pe := { z.pe with r := .slice none 0 0 }, G := grownG w W3.drew z.G }, rfl, ?_, ?_⟩
      · exact (hck.out.mono fun b _ hb => .inl hb).drewN 1
      · exact hh.out.froz (hck.out.drewN 1) rfl rfl hbk.out (.inl ⟨rfl, rfl⟩) (.inl ⟨rfl, rfl⟩) .nil .same .same .same .same
  | false =>
    obtain ⟨A, c, rfl, _⟩ := hv3.form
    have cC := hide (fun q => cloneR_any (W3.drewN q) _ l (hv3.below (below_drewN (Below.refl _ _) q) (Nat.le_refl _)) (by omega))
    replace hW3 := hide hW3
    clear h hv hv3 hb3 hc3
    go_enter Tryz.func71, Tryz.ntmps71
    go_wp2
    go_region_held3 (fun w' => w'.cell? ⟨ca, 0, none⟩ = some (.bool false)) (first | go_keep | exact s1 _ _ | exact s2 _ _ _ _ | exact s3 _ _ _ _ _ _) (fail)
    all_goals
      clear s1 s2 s3
      rw [← hW3.out]
      go_wp2_with (go_at_call 72; refine (cC.out 1).mono ?_; rintro e w4 ⟨v4, rfl, o4, b4⟩; obtain ⟨A4, c4, rfl, _⟩ := own_form o4; obtain ⟨f9, k9⟩ := hfk.out w4 b4)
      go_end0
      refine ⟨rfl, { z with pe := { z.pe with r := .slice A4 l.length c4 }, G := grownG w (w4.setCell ⟨z.a, 9, none⟩ (.slice A4 l.length c4)) z.G }, rfl, ?_, ?_⟩
      · exact (((hck.out.drewN 1).trans (Chg.of_below b4 _) (Ext.refl _ _)).trans (chg1e w4 z.a 9 _) (Ext.refl _ _)).mono fun b _ hb => .inl hb
      · refine hh.out.froz (((hck.out.drewN 1).trans (Chg.of_below b4 _) (Ext.refl _ _)).trans (chg1e w4 z.a 9 _) (Ext.refl _ _)) rfl rfl ?_ (.inl ⟨rfl, rfl⟩) (.inl ⟨rfl, rfl⟩) (.own (base := (W3.drewN 1).heap.size) (own_setOther o4 hlt3 _) hck.out.size) .same .same .same .same
        rw [heap_setCell_same w4 z.a 9 _ _ _ ((b4.block z.a hlt3).trans hbk.out)]; rfl

set_option maxRecDepth 100000 in
theorem fInput_any {B : Nat} (w : World) {ae : Nat → Addr} (hE : ErrF B w ae) (h : ForZ w p mb F n Z M) (id : Int) (al : Bool) (v : Value) (l : List R4) (hid : I64 id) (hv : Rd w v 4 l.length (l.flatMap R4.enc)) (hvF : ∀ b, v.ownBlock = some b → ¬ F b) (hl : l.length ≤ 100000) :
    Calls Tryz.prog 21 #[.pointer (some ⟨p, 0, none⟩), .int .i64 id, .bool al, v] w fun e w' => e = .returned (errV ae (thereK M id)) ∧ FOut w p n F (turnS M id (inputT al l)) w' := by
  have hB : ∀ o o', Below w.heap.size w ((w.alloc o).alloc o') := fun o o' => ((Below.refl _ w).alloc (Nat.le_refl _) o).alloc (by simp) o'
  have hE1 := fun o o' => hE.alloc o |>.alloc o'
  have h1 := fun o o' => h.below (hB o o')
  obtain ⟨A, c, rfl, _⟩ := hv.form
  cases hs : M id with
  | none =>
    have e1 : thereK M id = 5 := by simp [thereK, hs]
    have e2 : turnS M id (inputT al l) = M := by simp [turnS, hs]
    rw [e1, e2]
    have cT := hide (fun o o' caps => turn_input_none ((w.alloc o).alloc o') (hE1 o o') (h1 o o') id hid caps hs)
    have hout := hide (fun o o' => h.out.stayB (hB o o'))
    clear h h1 hE hE1 e1 e2 hs hB hv hvF
    go_enter Tryz.func21, Tryz.ntmps21
    go_wp2_with fail
    refine (cT.out _ _ _).mono ?_
    rintro e w' ⟨rfl, rfl⟩
    go_wp2
    go_ret
    exact ⟨rfl, hout.out _ _⟩
  | some t =>
    obtain ⟨z, hz, ht⟩ := h.find hs
    have e1 : thereK M id = 0 := by simp [thereK, hs]
    have e2 : turnS M id (inputT al l) = setM M id (some { t with pe := inputT al l t.pe }) := by simp [turnS, hs]
    rw [e1, e2]
    obtain ⟨W, hW⟩ : ∃ W, W = (w.alloc (.cells #[.bool al] 4)).alloc (.cells #[.slice A l.length c] 31) := ⟨_, rfl⟩
    have hlt := ht.lt z.a (.inl rfl)
    have hBW : Below w.heap.size w W := by rw [hW]; exact hB _ _
    have hca : W.cell? ⟨w.heap.size, 0, none⟩ = some (.bool al) := by
      rw [hW, cell_of_row _ w.heap.size 0 _ _ _ ((Below.heap_alloc _ _ _ (by simp)).trans (heap_alloc_new _ _))]; rfl
    have hcr : W.cell? ⟨w.heap.size + 1, 0, none⟩ = some (.slice A l.length c) := by
      have := heap_alloc_new (w.alloc (.cells #[.bool al] 4)) (.cells #[.slice A l.length c] 31)
      rw [show (w.alloc (.cells #[.bool al] 4)).heap.size = w.heap.size + 1 by simp] at this
      rw [hW, cell_of_row _ (w.heap.size + 1) 0 _ _ _ this]; rfl
    have cA := input1_any W ((h.below hBW).surf id z t hz hs) w.heap.size (w.heap.size + 1) al (.slice A l.length c) l hca hcr (by omega) (by omega) (hv.below hBW (Nat.le_refl _)) (fun b hb e => hvF b hb (by rw [e]; exact h.inF id z hz _ (.inl rfl))) hl
    have cT := hide (turn_input_some W (h.below hBW) id hid (.pointer (some ⟨w.heap.size, 0, none⟩)) (.pointer (some ⟨w.heap.size + 1, 0, none⟩)) hz cA)
    have hh := hide h
    have hz' := hide hz
    have hb1 := hide hBW
    replace hW := hide hW
    clear h h1 hE hE1 e1 e2 hs hB hz ht cA hca hcr hBW hv hvF
    go_enter Tryz.func21, Tryz.ntmps21
    go_wp2_with fail
    rw [← hW.out]
    refine cT.out.mono ?_
    rintro e w' ⟨rfl, z', ha, hc, hs', hF⟩
    replace ha := hide ha
    go_wp2
    go_ret
    refine ⟨rfl, hh.out.turnOut (z' := z') hz'.out ((Chg.of_below hb1.out _).trans hc (Ext.refl _ _)) ha.out ⟨hs', fun b hb => (hF b hb).imp (fun h => h) fun h => ?_⟩⟩
    have := hb1.out.size
    omega

def takeS (M : Fo) (id : Int) : Fo := match M id with
  | none => M
  | some s => setM M id (some { s with cu := { s.cu with frames := [] } })
def takeL (M : Fo) (id : Int) : List Int := match M id with
  | none => []
  | some s => s.cu.frames
set_option maxRecDepth 100000 in
theorem fTake_any (w : World) (h : ForZ w p mb F n Z M) (id : Int) (hid : I64 id) :
    Calls Tryz.prog 51 #[.pointer (some ⟨p, 0, none⟩), .int .i64 id] w fun e w' => ∃ A c, e = .returned (.slice A (takeL M id).length c) ∧ Rd w' (.slice A (takeL M id).length c) 1 (takeL M id).length ((takeL M id).map (Value.int .i64)) ∧ FOut w p n F (takeS M id) w' := by
  have hc := h.cellP
  cases hs : M id with
  | none =>
    have e1 : takeL M id = [] := by simp [takeL, hs]
    have e2 : takeS M id = M := by simp [takeS, hs]
    rw [e1, e2]
    have hl := h.look_none hid (h.zNone hs)
    have hout := hide h.out.stay
    clear h hs e1 e2
    go_enter Tryz.func51, Tryz.ntmps51
    go_wp2
    go_ret
    exact ⟨none, 0, rfl, Rd.nil _ _, hout.out⟩
  | some t =>
    obtain ⟨z, hz, ht⟩ := h.find hs
    have e1 : takeL M id = t.cu.frames := by simp [takeL, hs]
    have e2 : takeS M id = setM M id (some { t with cu := { t.cu with frames := [] } }) := by simp [takeS, hs]
    rw [e1, e2]
    have hl := h.look_some hid hz
    obtain ⟨A, c, hf, _⟩ := ht.cu.f.form
    have c26 : w.cell? ⟨z.a, 26, none⟩ = some z.cu.f := ht.cell 26
    rw [hf] at c26
    have f26 := ht.free 26
    have hh := hide h
    have hz' := hide hz
    have ht' := hide ht
    have hfr := hide (show Rd (w.setCell ⟨z.a, 26, none⟩ (.slice none 0 0)) z.cu.f 1 t.cu.frames.length (t.cu.frames.map (Value.int .i64)) from
      ht.cu.f.keepIn ht.cuI.f (by simp [World.setCell]) fun b hb _ => heap_setCell_other w _ b _ fun e => ht.aG (by rw [show z.a = b from e.symm]; exact hb))
    rw [hf] at hfr
    replace hf := hide hf
    clear h hs hz ht e1 e2
    go_enter Tryz.func51, Tryz.ntmps51
    go_wp2
    go_ret
    refine ⟨A, c, rfl, hfr.out, hh.out.turnOut (z' := { z with cu := { z.cu with f := .slice none 0 0 }, G := grownG w _ z.G }) hz'.out ?_ rfl (ht'.out.froz ?_ rfl rfl ?_ (.inl ⟨rfl, rfl⟩) (.inl ⟨rfl, rfl⟩) .same .same .same .same ⟨.same, .nil, .same, .same, .same⟩)⟩
    · exact chg1 w z.a 26 _ (.inl rfl)
    · exact chg1e w z.a 26 _
    · exact set_cells (t := t) ht'.out 26 _ rfl
end
end Go.Proofs.YthkjicnnepkghaaGreatDoor
