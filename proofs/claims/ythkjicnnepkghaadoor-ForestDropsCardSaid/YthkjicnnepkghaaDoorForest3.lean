/-
  Package forest: Synced, Frame.
-/
import Derived.Test.YthkjicnnepkghaaDoorForest2
import Derived.Deep.LoopGhost
namespace Go.Proofs.YthkjicnnepkghaaDoor
open Go.RowKit
set_option linter.unusedVariables false

open Classical in
noncomputable def synB (M : Fo) (id : Int) : Bool := decide (Syn M id)
theorem Syn.some {M : Fo} {id : Int} (h : Syn M id) : ∃ s, M id = some s ∧ s.parent ≠ 0 ∧ (s.sync = true ∨ Syn M s.parent) := by
  cases h with
  | here h1 h2 h3 => exact ⟨_, h1, h2, .inl h3⟩
  | up h1 h2 h3 => exact ⟨_, h1, h2, .inr h3⟩
open Classical in
theorem synB_none {M : Fo} {id : Int} (h : M id = none) : synB M id = false := by
  unfold synB
  refine decide_eq_false fun hs => ?_
  obtain ⟨s, h1, _⟩ := hs.some
  rw [h] at h1; cases h1
open Classical in
theorem synB_top {M : Fo} {id : Int} {t : Sf} (h : M id = some t) (hp : t.parent = 0) : synB M id = false := by
  unfold synB
  refine decide_eq_false fun hs => ?_
  obtain ⟨s, h1, h2, _⟩ := hs.some
  rw [h] at h1; cases h1
  exact h2 hp
open Classical in
theorem synB_sync {M : Fo} {id : Int} {t : Sf} (h : M id = some t) (hp : t.parent ≠ 0) (hs : t.sync = true) : synB M id = true := by
  unfold synB
  exact decide_eq_true (.here h hp hs)
theorem synB_up {M : Fo} {id : Int} {t : Sf} (h : M id = some t) (hp : t.parent ≠ 0) (hs : t.sync = false) : synB M id = synB M t.parent := by
  unfold synB
  have : Syn M id ↔ Syn M t.parent := ⟨fun hy => by
    obtain ⟨s, h1, _, h3⟩ := hy.some
    rw [h] at h1; cases h1
    rcases h3 with h3 | h3
    · rw [hs] at h3; cases h3
    · exact h3, fun hy => .up h hp hy⟩
  simp [this]

section
variable {p mb n : Nat} {F : Nat → Prop} {Z : Int → Option SfV} {M : Fo}
set_option maxRecDepth 100000 in
set_option maxHeartbeats 1000000 in
theorem fSynced_any (w : World) (h : ForZ w p mb F n Z M) (hG : GoodM M) (id : Int) (hid : I64 id) :
    Calls Tryd.prog 23 #[.pointer (some ⟨p, 0, none⟩), .int .i64 id] w fun e w' => e = .returned (.bool (synB M id)) ∧ ∃ q, w' = w.drewN q := by
  obtain ⟨rk, B, hr⟩ := hG.rank
  have hc := h.cellP
  have hl := h.look hid
  have hh := hide h
  have hg := hide hG
  have hrr := hide hr
  obtain ⟨m, hm⟩ : ∃ m : Int → Nat, ∀ x, m x = if (M x).isSome then rk x + 1 else 0 := ⟨_, fun x => rfl⟩
  replace hm := hide hm
  obtain ⟨v0, hv0⟩ : ∃ v0, v0 = ((Z id).map SfV.ptr).getD (.pointer none) := ⟨_, rfl⟩
  rw [← hv0] at hl
  replace hv0 := hide hv0
  clear h hG hr
  go_enter Tryd.func23, Tryd.ntmps23
  go_wp2
  go_loopg [5] (m id) (fun k s wr => ∃ x : Int, Hid (synB M id = synB M x) ∧ s = ((Z x).map SfV.ptr).getD (.pointer none) ∧ k = m x ∧ I64 x ∧ ∃ q, wr = w.drewN q)
  case atStart => exact ⟨id, hide rfl, hv0.out, rfl, hid, 0, rfl⟩
  case round =>
    obtain ⟨x, hx, rfl, rfl, hxi, q, rfl⟩ := hrel
    cases hs : M x with
    | none =>
      have hn := synB_none hs
      rw [hh.out.zNone hs]
      simp only [Option.map_none, Option.getD_none]
      have hx2 := hide (hx.out.trans hn)
      clear hs hn hx
      go_wp2
      go_ret
      exact ⟨by rw [hx2.out] <;> rfl, _, rfl⟩
    | some t =>
      obtain ⟨z, hz, ht⟩ := hh.out.find hs
      rw [hz]
      simp only [Option.map_some, Option.getD_some, SfV.ptr]
      have c1 : w.cell? ⟨z.a, 1, none⟩ = some (.int .i64 t.parent) := ht.cell 1
      have c2 : w.cell? ⟨z.a, 2, none⟩ = some (.bool t.sync) := ht.cell 2
      have hpn := hg.out.par_nn hs
      by_cases hp : t.parent = 0
      · have hx2 := hide (hx.out.trans (synB_top hs hp))
        rw [hp] at c1
        clear hs hx hz ht hp hpn
        go_wp2
        go_ret
        exact ⟨by rw [hx2.out] <;> rfl, _, rfl⟩
      · have h0 : (0 : Int) < t.parent := by omega
        cases hy : t.sync with
        | true =>
          have hx2 := hide (hx.out.trans (synB_sync hs hp hy))
          rw [hy] at c2
          clear hs hx hz ht hp hpn hy
          go_wp2
          go_ret
          exact ⟨by rw [hx2.out] <;> rfl, _, rfl⟩
        | false =>
          have hx2 := hide (hx.out.trans (synB_up hs hp hy))
          rw [hy] at c2
          have hl2 := fun q => (hh.out.drewN q).look hpn.2
          have hlt := hide ((hrr.out _ _ hs).2 hp)
          have hmx := hide (hm.out x)
          rw [hs] at hmx
          have hmp := hide (hm.out t.parent)
          obtain ⟨v1, hv1⟩ : ∃ v1, v1 = ((Z t.parent).map SfV.ptr).getD (.pointer none) := ⟨_, rfl⟩
          rw [← hv1] at hl2
          replace hv1 := hide hv1
          have hi := hpn.2
          obtain ⟨tp, htp⟩ : ∃ tp, tp = t.parent := ⟨_, rfl⟩
          rw [← htp] at c1 h0 hl2 hv1 hx2 hlt hmp hi
          clear hs hx hz ht hp hpn hy hl htp
          go_wp2
          go_quiet (fail)
          go_wp2
          go_roundg (m tp)
          case measure =>
            have h1 := hlt.out
            have h2 := hmx.out
            have h3 := hmp.out
            simp only [Option.isSome_some, if_true] at h2
            rw [h2, h3]
            split <;> omega
          case rel => exact ⟨tp, hx2, hv1.out, rfl, hi, _, World.drewN_drewN ..⟩

/-- A surface's frames have grown by one. -/
theorem SurfAt.framed {w w1 : World} {id : Int} {t : Sf} {z : SfV} (h : SurfAt w id t z) (c : Int) {o : Obj} {g cap : Nat} (hg : (w.drew.alloc o).grownBy w1 z.pe.f.ownBlock)
    (hown : w1.ownsRow 0 3 1 (.slice (some ⟨g, 0, none⟩) (t.pe.frames.length + 1) cap) (t.pe.frames.length + 1) (t.pe.frames.map (Value.int .i64) ++ [.int .i64 c])) (hat : z.pe.f.ownBlock = some g ∨ w.heap.size ≤ g) :
    ∃ z', z'.a = z.a ∧ Chg z.F w (w1.setCell ⟨z.a, 6, none⟩ (.slice (some ⟨g, 0, none⟩) (t.pe.frames.length + 1) cap)) ∧ SurfAt (w1.setCell ⟨z.a, 6, none⟩ (.slice (some ⟨g, 0, none⟩) (t.pe.frames.length + 1) cap)) id { t with pe := frameT c t.pe } z' ∧ ∀ b, z'.F b → z.F b ∨ w.heap.size ≤ b := by
  have hlt := h.lt z.a (.inl rfl)
  have h2 : (w.drew.alloc o).heap[z.a]? = some (.cells (sfCells id t z) 60 (0, 0)) := (Below.heap_alloc w.drew o _ hlt).trans h.blk
  have hne : some z.a ≠ z.pe.f.ownBlock := fun e => h.f_ne e.symm rfl
  have hb1 : w1.heap[z.a]? = some (.cells (sfCells id t z) 60 (0, 0)) := (hg.block z.a (lt_of_block h2) hne).trans h2
  have hc1 : Chg (fun b => b = z.a ∨ z.pe.d.ownBlock = some b ∨ z.pe.f.ownBlock = some b) w w1 := ((Chg.refl _ w).drewN 1).alloc o |>.trans (Chg.grown hg (F := fun b => b = z.a ∨ z.pe.d.ownBlock = some b ∨ z.pe.f.ownBlock = some b) (fun b hb => .inr (.inr hb))) (Ext.refl _ _)
  have hc2 := hc1.trans (chg1 w1 z.a 6 (.slice (some ⟨g, 0, none⟩) (t.pe.frames.length + 1) cap) (F := fun b => b = z.a ∨ z.pe.d.ownBlock = some b ∨ z.pe.f.ownBlock = some b) (.inl rfl)) (Ext.refl _ _)
  have hgz : g ≠ z.a := by
    obtain ⟨cur, hcur⟩ := own_typeF hown rfl
    exact ne_of_typesF hcur hb1 (by simp)
  have hown2 : (w1.setCell ⟨z.a, 6, none⟩ (.slice (some ⟨g, 0, none⟩) (t.pe.frames.length + 1) cap)).ownsRow 0 3 1 (.slice (some ⟨g, 0, none⟩) (t.pe.frames.length + 1) cap) (t.pe.frames ++ [c]).length ((t.pe.frames ++ [c]).map (Value.int .i64)) := by
    have := own_keepF hown (w' := w1.setCell ⟨z.a, 6, none⟩ (.slice (some ⟨g, 0, none⟩) (t.pe.frames.length + 1) cap)) fun b hb => heap_setCell_other w1 _ b _ (by cases hb; exact hgz)
    simpa using this
  have hdk : (w1.setCell ⟨z.a, 6, none⟩ (.slice (some ⟨g, 0, none⟩) (t.pe.frames.length + 1) cap)).ownsRow 0 90 4 z.pe.d t.pe.damage.length (t.pe.damage.flatMap R4.enc) := by
    refine own_keepF h.dOwn fun b hb => ?_
    have hbl := h.lt b (.inr (.inl hb))
    have hdn := h.d_ne hb
    refine (heap_setCell_other w1 _ b _ hdn.1).trans ((hg.block b (by simp; exact Nat.lt_succ_of_lt hbl) (fun e => hdn.2 e.symm)).trans (Below.heap_alloc w.drew o b hbl))
  refine ⟨{ z with pe := { z.pe with f := .slice (some ⟨g, 0, none⟩) (t.pe.frames.length + 1) cap } }, rfl, hc2.mono (fun b _ hb => ?_), ?_⟩
  · rcases hb with hb | hb | hb
    · exact .inl hb
    · exact .inr (.inl hb)
    · exact .inr (.inr (.inl hb))
  · refine h.more hc2 rfl rfl ?_ hdk (fun b hb => .inl hb) hown2 (fun b hb => by cases hb; exact hat) ⟨rfl, rfl, rfl, rfl, rfl, rfl⟩ ⟨rfl, rfl⟩ ⟨rfl, rfl⟩
    rw [heap_setCell_same w1 z.a 6 _ _ _ hb1]; rfl

theorem Tryd.infoIntF : (Tryd.prog.info? 3).map (fun i => (i.zero, i.size, i.bytes)) = some (some (.int .i64 0), 1, 8) := by kernel_rfl
set_option maxRecDepth 100000 in
set_option maxHeartbeats 1000000 in
theorem frame1_any (w : World) {id : Int} {t : Sf} {z : SfV} (h : SurfAt w id t z) (cb : Nat) (c : Int) (hb : w.cell? ⟨cb, 0, none⟩ = some (.int .i64 c)) (hlen : t.pe.frames.length ≤ 100000) :
    Calls Tryd.prog 64 #[.pointer (some ⟨z.a, 3, none⟩), .pointer (some ⟨cb, 0, none⟩)] w fun e w' => e = .returned (.tuple #[]) ∧ ∃ z', z'.a = z.a ∧ Chg z.F w w' ∧ SurfAt w' id { t with pe := frameT c t.pe } z' ∧ ∀ b, z'.F b → z.F b ∨ w.heap.size ≤ b := by
  obtain ⟨i0, hi, hz0, hz1, hz2⟩ := info_parts Tryd.infoIntF
  have c6 : w.cell? ⟨z.a, 6, none⟩ = some z.pe.f := h.cell 6
  have f6 := h.free 6
  have hlt := h.lt z.a (.inl rfl)
  have hrow := h.fOwn
  have hblk := h.blk
  have hfn := hide (fun (o : Obj) (w1 : World) (hg : (w.drew.alloc o).grownBy w1 z.pe.f.ownBlock) => (hg.block z.a (by simp; exact Nat.lt_succ_of_lt hlt) (fun e => h.f_ne e.symm rfl)).trans ((Below.heap_alloc w.drew o _ hlt).trans hblk))
  have hout := hide (fun o g cap w1 hg hown hat => h.framed c (o := o) (w1 := w1) (g := g) (cap := cap) hg hown hat)
  obtain ⟨A1, c1, hf1, hcc⟩ := own_form hrow
  have hw6 : ∀ w1 : World, w1.heap[z.a]? = some (.cells (sfCells id t z) 60 (0, 0)) → w1.cell? ⟨z.a, 6, none⟩ = some z.pe.f ∧ w1.frozen? ⟨z.a, 6, none⟩ = false := fun w1 h1 => ⟨cell_of_row w1 z.a 6 _ _ _ h1, frozen_of_row w1 z.a 6 _ _ h1⟩
  replace hw6 := hide hw6
  obtain ⟨fl, hfl⟩ : ∃ fl, fl = t.pe.frames := ⟨_, rfl⟩
  rw [← hfl] at hrow hf1 hlen hcc hout
  rw [hf1] at c6 hrow hfn hout hw6
  have hca := fun o => (World.cell?_alloc_past (w := w) o z.a 6 hlt).trans c6
  have hrowd : w.drew.ownsRow 0 3 1 (.slice A1 fl.length c1) fl.length (fl.map (Value.int .i64)) := hrow
  replace hf1 := hide hf1
  replace hfl := hide hfl
  clear h hblk
  go_enter Tryd.func64, Tryd.ntmps64
  go_wp2
  go_region_law (first | (refine step_append_lies _ rfl _ _ 29 rfl 0 3 i0 (.int .i64 0) 1 8 Tryd.underlying29 hi hz0 hz1 hz2 rfl (by decide) _ _ _ (by simp [Act.eval]) (hrowd.alloc _) ⟨w.heap.size, 0, none⟩ 1 1 [.int .i64 c] (by simp [Act.eval]) rfl (cell_one_new _ _ _) (by intro u hu; simp at hu; subst hu; rfl) (by omega) (by unfold maxLen; omega) (by omega) (by omega) _ rfl ?_; intro g cap w1 hown hgrow hat hlt2; have k0 := hide (hfn.out _ _ hgrow); have k2 := (hw6.out w1 k0.out).1; have k3 := (hw6.out w1 k0.out).2))
  all_goals
    go_wp2
    go_end0
    have hf := hout.out _ _ _ _ hgrow hown (hat.imp (fun h => h) (fun h => by rw [h]; show w.heap.size ≤ (w.alloc _).heap.size; simp))
    exact ⟨rfl, hf⟩
end
end Go.Proofs.YthkjicnnepkghaaDoor
