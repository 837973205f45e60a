/-
  Package state: Apply, None, First; forest.own.
-/
import Derived.Test.YthkjicnnepkghaaDoorFMerge
namespace Go.Proofs.YthkjicnnepkghaaDoor
open Go.RowKit
set_option linter.unusedVariables false

theorem mergeT_zero (s : St) : mergeT s St.zero = s := by
  obtain ⟨⟩ := s
  simp [mergeT, St.zero, putsP]
theorem StOwn.rd {w : World} {base : Nat} {v : StV} {s : St} (h : StOwn w base v s) : StRd w v s := ⟨Rd.of_own h.d, Rd.of_own h.f, Rd.of_own h.r, Rd.of_own h.o, Rd.of_own h.p⟩
theorem StOwn.below {w w' : World} {base B : Nat} {v : StV} {s : St} (h : StOwn w base v s) (hb : Below B w w') (hB : w.heap.size ≤ B) : StOwn w' base v s :=
  ⟨own_belowF h.d hb hB, own_belowF h.f hb hB, own_belowF h.r hb hB, own_belowF h.o hb hB, own_belowF h.p hb hB⟩
theorem StOwn.le {w : World} {base base' : Nat} {v : StV} {s : St} (h : StOwn w base v s) (hB : base' ≤ base) : StOwn w base' v s :=
  ⟨own_le h.d hB, own_le h.f hB, own_le h.r hB, own_le h.o hB, own_le h.p hB⟩
theorem StOwn.forms {w : World} {base : Nat} {v : StV} {s : St} (h : StOwn w base v s) : ∃ A1 c1 A2 c2 A3 c3 A4 c4 A5 c5, v = ⟨.slice A1 s.damage.length c1, .slice A2 s.frames.length c2, .slice A3 s.region.length c3, .slice A4 s.order.length c4, .slice A5 s.places.length c5⟩ := by
  obtain ⟨d, f, r, o, p⟩ := v
  obtain ⟨A1, c1, rfl, _⟩ := own_form h.d
  obtain ⟨A2, c2, rfl, _⟩ := own_form h.f
  obtain ⟨A3, c3, rfl, _⟩ := own_form h.r
  obtain ⟨A4, c4, rfl, _⟩ := own_form h.o
  obtain ⟨A5, c5, rfl, _⟩ := own_form h.p
  exact ⟨_, _, _, _, _, _, _, _, _, _, rfl⟩
theorem StRd.forms {w : World} {v : StV} {s : St} (h : StRd w v s) : ∃ A1 c1 A2 c2 A3 c3 A4 c4 A5 c5, v = ⟨.slice A1 s.damage.length c1, .slice A2 s.frames.length c2, .slice A3 s.region.length c3, .slice A4 s.order.length c4, .slice A5 s.places.length c5⟩ := by
  obtain ⟨d, f, r, o, p⟩ := v
  obtain ⟨A1, c1, rfl, _⟩ := h.d.form
  obtain ⟨A2, c2, rfl, _⟩ := h.f.form
  obtain ⟨A3, c3, rfl, _⟩ := h.r.form
  obtain ⟨A4, c4, rfl, _⟩ := h.o.form
  obtain ⟨A5, c5, rfl, _⟩ := h.p.form
  exact ⟨_, _, _, _, _, _, _, _, _, _, rfl⟩
theorem own_setOther {w : World} {base sz n g c : Nat} {e : TypeId} {v : Value} {cs : List Value} (h : w.ownsRow base e sz v n cs) (hg : g < base) (u : Value) : (w.setCell ⟨g, c, none⟩ u).ownsRow base e sz v n cs :=
  own_keepF h fun b hb => heap_setCell_other w _ b _ (by have := (h.lt b hb).1; show b ≠ g; omega)

set_option maxRecDepth 100000 in
set_option maxHeartbeats 2000000 in
theorem first_any (w : World) : Calls Tryd.prog 29 #[] w (BigP w St.first) := by
  have hR := hide (heap_alloc2_old w (.cells #[.bool false, .int .i64 0, .slice none 0 0, .slice none 0 0, .bool false, .bool true, .slice none 0 0, .bool false, .slice (some ⟨w.heap.size + 1, 0, none⟩) 1 1, .slice none 0 0] 37) (.cells #[.int .i64 0] 3))
  go_enter Tryd.func29, Tryd.ntmps29
  go_wp2
  try simp only [Exit.inBlock, Exit.then]
  refine bodyPost_ret (results_cell_row rfl _ _ w.heap.size 37 #[.bool false, .int .i64 0, .slice none 0 0, .slice none 0 0, .bool false, .bool true, .slice none 0 0, .bool false, .slice (some ⟨w.heap.size + 1, 0, none⟩) 1 1, .slice none 0 0] (0, 0) _ rfl hR.out Tryd.underlying37 rfl (by kernel_rfl)) rfl ?_
  refine ⟨⟨_, _, _, _, _⟩, rfl, ⟨World.ownsRow_nil _ _ _ _, World.ownsRow_nil _ _ _ _, World.ownsRow_nil _ _ _ _, ?_, World.ownsRow_nil _ _ _ _⟩, ((Below.refl _ w).alloc (Nat.le_refl _) _).alloc (by simp) _⟩
  have := World.ownsRow_lit (base := w.heap.size) (e := 3) (size := 1) (w.alloc (.cells #[.bool false, .int .i64 0, .slice none 0 0, .slice none 0 0, .bool false, .bool true, .slice none 0 0, .bool false, .slice (some ⟨w.heap.size + 1, 0, none⟩) 1 1, .slice none 0 0] 37)) #[.int .i64 0] 1 (by simp) (by unfold maxLen; omega) (by simp)
  simpa [St.first] using this

set_option maxRecDepth 100000 in
set_option maxHeartbeats 2000000 in
theorem own_any (w : World) (va : StV) (a : St) (ha : StRd w va a) (hf : MergeFits a St.zero) : Calls Tryd.prog 63 #[stVal a va] w (BigP w a) := by
  obtain ⟨A1, c1, A2, c2, A3, c3, A4, c4, A5, c5, rfl⟩ := ha.forms
  unfold stVal
  dsimp only
  have hb2 : ∀ o o', Below w.heap.size w ((w.alloc o).alloc o') := fun o o' => ((Below.refl _ w).alloc (Nat.le_refl _) o).alloc (by simp) o'
  have cM := hide (fun o o' => merge_any ((w.alloc o).alloc o') _ StV.nil a St.zero (ha.below (hb2 o o') (Nat.le_refl _)) (StRd.zero _) hf)
  rw [mergeT_zero] at cM
  unfold stVal StV.nil at cM
  dsimp only [St.zero] at cM
  have hR := fun o o' => heap_alloc2_new w o o'
  replace hb2 := hide hb2
  replace hR := hide hR
  clear ha hf
  go_enter Tryd.func63, Tryd.ntmps63
  go_wp2_with fail
  refine (cM.out _ _).mono ?_
  rintro e w1 ⟨v1, rfl, o1, b1⟩
  have h4 := hide ((b1.block (w.heap.size + 1) (by simp)).trans (hR.out _ _))
  obtain ⟨r0, r1, r2, r3, r4, r5, r6, r7, r8, r9⟩ := cells10 h4.out
  have g0 := frozen_of_row _ _ 0 _ _ h4.out
  have g1 := frozen_of_row _ _ 1 _ _ h4.out
  have g2 := frozen_of_row _ _ 2 _ _ h4.out
  have g3 := frozen_of_row _ _ 3 _ _ h4.out
  have g4 := frozen_of_row _ _ 4 _ _ h4.out
  have g5 := frozen_of_row _ _ 5 _ _ h4.out
  have g6 := frozen_of_row _ _ 6 _ _ h4.out
  have g7 := frozen_of_row _ _ 7 _ _ h4.out
  have g8 := frozen_of_row _ _ 8 _ _ h4.out
  have g9 := frozen_of_row _ _ 9 _ _ h4.out
  obtain ⟨B1, d1, B2, d2, B3, d3, B4, d4, B5, d5, rfl⟩ := o1.forms
  replace o1 := hide o1
  replace b1 := hide b1
  unfold stVal
  dsimp only
  have hRR := hide (set10 h4.out (.bool a.attach) (.int .i64 a.buffer) (.slice B1 a.damage.length d1) (.slice B2 a.frames.length d2) (.bool a.input) (.bool a.all) (.slice B3 a.region.length d3) (.bool a.ordered) (.slice B4 a.order.length d4) (.slice B5 a.places.length d5))
  go_wp2
  try simp only [Exit.inBlock, Exit.then]
  refine bodyPost_ret (results_cell_row rfl _ _ (w.heap.size + 1) 37 #[.bool a.attach, .int .i64 a.buffer, .slice B1 a.damage.length d1, .slice B2 a.frames.length d2, .bool a.input, .bool a.all, .slice B3 a.region.length d3, .bool a.ordered, .slice B4 a.order.length d4, .slice B5 a.places.length d5] (0, 0) _ rfl hRR.out Tryd.underlying37 rfl (by kernel_rfl)) rfl ?_
  have hbb := b1.out
  have hoo := o1.out
  simp only [World.size_alloc] at hbb hoo
  refine ⟨⟨_, _, _, _, _⟩, rfl, ⟨own_le ?_ (Nat.le_add_right w.heap.size 2), own_le ?_ (Nat.le_add_right w.heap.size 2), own_le ?_ (Nat.le_add_right w.heap.size 2), own_le ?_ (Nat.le_add_right w.heap.size 2), own_le ?_ (Nat.le_add_right w.heap.size 2)⟩, below10 ((hb2.out _ _).trans (hbb.mono (by omega))) (Nat.le_add_right w.heap.size 1) _ _ _ _ _ _ _ _ _ _⟩
  all_goals
    dsimp only
    iterate 10 refine own_setOther ?_ (Nat.lt_succ_self _) _
  · exact hoo.d
  · exact hoo.f
  · exact hoo.r
  · exact hoo.o
  · exact hoo.p
theorem isEmpty_len {α : Type} (l : List α) : l.isEmpty = ((l.length : Int) == 0) := by
  cases l with
  | nil => rfl
  | cons x l => 
    rw [Bool.eq_iff_iff]
    simp
    omega
theorem noneT_eq (s : St) : noneT s = (!s.attach && ((s.damage.length : Int) == 0) && ((s.frames.length : Int) == 0) && !s.input && !s.ordered && ((s.places.length : Int) == 0)) := by
  unfold noneT
  rw [isEmpty_len, isEmpty_len, isEmpty_len]
set_option maxRecDepth 100000 in
set_option maxHeartbeats 2000000 in
theorem none_any (w : World) (v : StV) (s : St) (h : StRd w v s) : Calls Tryd.prog 37 #[stVal s v] w fun e w' => e = .returned (.bool (noneT s)) ∧ Below w.heap.size w w' := by
  obtain ⟨A1, c1, A2, c2, A3, c3, A4, c4, A5, c5, rfl⟩ := h.forms
  rw [noneT_eq]
  unfold stVal
  dsimp only
  have hb : ∀ o, Below w.heap.size w (w.alloc o) := fun o => (Below.refl _ w).alloc (Nat.le_refl _) o
  replace hb := hide hb
  clear h
  generalize s.attach = sa
  generalize s.buffer = sb
  generalize s.damage.length = sd
  generalize s.frames.length = sf
  generalize s.input = si
  generalize s.all = sl
  generalize s.region.length = sr
  generalize s.ordered = so
  generalize s.order.length = sq
  generalize s.places.length = sp
  cases sa
  · cases h1 : ((sd : Int) == 0)
    · go_enter Tryd.func37, Tryd.ntmps37
      go_wp2
      go_ret
      exact ⟨rfl, hb.out _⟩
    · cases h2 : ((sf : Int) == 0)
      · go_enter Tryd.func37, Tryd.ntmps37
        go_wp2
        go_ret
        exact ⟨rfl, hb.out _⟩
      · cases si
        · cases so
          · cases h3 : ((sp : Int) == 0)
            all_goals
              go_enter Tryd.func37, Tryd.ntmps37
              go_wp2
              go_ret
              exact ⟨rfl, hb.out _⟩
          · go_enter Tryd.func37, Tryd.ntmps37
            go_wp2
            go_ret
            exact ⟨rfl, hb.out _⟩
        · go_enter Tryd.func37, Tryd.ntmps37
          go_wp2
          go_ret
          exact ⟨rfl, hb.out _⟩
  · go_enter Tryd.func37, Tryd.ntmps37
    go_wp2
    go_ret
    exact ⟨rfl, hb.out _⟩

set_option maxRecDepth 100000 in
set_option maxHeartbeats 4000000 in
theorem apply_any (w : World) (va vb : StV) (a b : St) (ha : StRd w va a) (hb : StRd w vb b) (hf : MergeFits a b) : Calls Tryd.prog 36 #[stVal a va, stVal b vb] w (BigP w (applyT a b)) := by
  obtain ⟨A1, c1, A2, c2, A3, c3, A4, c4, A5, c5, rfl⟩ := ha.forms
  obtain ⟨B1, d1, B2, d2, B3, d3, B4, d4, B5, d5, rfl⟩ := hb.forms
  unfold stVal
  dsimp only
  have hb3 : ∀ o o' o'', Below w.heap.size w (((w.alloc o).alloc o').alloc o'') := fun o o' o'' => (((Below.refl _ w).alloc (Nat.le_refl _) o).alloc (by simp) o').alloc (by simp; omega) o''
  have cM := hide (fun o o' o'' => merge_any (((w.alloc o).alloc o').alloc o'') _ _ a b (ha.below (hb3 o o' o'') (Nat.le_refl _)) (hb.below (hb3 o o' o'') (Nat.le_refl _)) hf)
  unfold stVal at cM
  dsimp only at cM
  have hR := fun o o' o'' => heap_alloc_new ((w.alloc o).alloc o') o''
  simp only [World.size_alloc] at hR
  replace hb3 := hide hb3
  replace hR := hide hR
  obtain ⟨S, hS⟩ : ∃ S, S = mergeT a b := ⟨_, rfl⟩
  have hA : applyT a b = { S with attach := false, damage := [], input := false, ordered := false } := by rw [hS]; rfl
  rw [← hS] at cM
  rw [hA]
  clear ha hb hf hS hA
  go_enter Tryd.func36, Tryd.ntmps36
  go_wp2_with fail
  refine (cM.out _ _ _).mono ?_
  rintro e w1 ⟨v1, rfl, o1, b1⟩
  have h4 := hide ((b1.block (w.heap.size + 1 + 1) (by simp)).trans (hR.out _ _ _))
  obtain ⟨r0, r1, r2, r3, r4, r5, r6, r7, r8, r9⟩ := cells10 h4.out
  have g0 := frozen_of_row _ _ 0 _ _ h4.out
  have g1 := frozen_of_row _ _ 1 _ _ h4.out
  have g2 := frozen_of_row _ _ 2 _ _ h4.out
  have g3 := frozen_of_row _ _ 3 _ _ h4.out
  have g4 := frozen_of_row _ _ 4 _ _ h4.out
  have g5 := frozen_of_row _ _ 5 _ _ h4.out
  have g6 := frozen_of_row _ _ 6 _ _ h4.out
  have g7 := frozen_of_row _ _ 7 _ _ h4.out
  have g8 := frozen_of_row _ _ 8 _ _ h4.out
  have g9 := frozen_of_row _ _ 9 _ _ h4.out
  obtain ⟨E1, e1, E2, e2, E3, e3, E4, e4, E5, e5, rfl⟩ := o1.forms
  have hz := b1.size
  simp only [World.size_alloc] at hz
  have hne : w.heap.size + 1 + 1 < w1.heap.size := by omega
  replace o1 := hide o1
  replace b1 := hide b1
  unfold stVal
  dsimp only
  have hRR := hide (set10 h4.out (.bool false) (.int .i64 S.buffer) (.slice none 0 0) (.slice E2 S.frames.length e2) (.bool false) (.bool S.all) (.slice E3 S.region.length e3) (.bool false) (.slice E4 S.order.length e4) (.slice E5 S.places.length e5))
  go_wp2
  try simp only [Exit.inBlock, Exit.then]
  refine bodyPost_ret (results_cell_row rfl _ _ (w.heap.size + 2) 37 #[.bool false, .int .i64 S.buffer, .slice none 0 0, .slice E2 S.frames.length e2, .bool false, .bool S.all, .slice E3 S.region.length e3, .bool false, .slice E4 S.order.length e4, .slice E5 S.places.length e5] (0, 0) _ rfl ((Below.heap_alloc _ _ _ (lt_of_block hRR.out)).trans hRR.out) Tryd.underlying37 rfl (by kernel_rfl)) rfl ?_
  have hbb := b1.out
  have hoo := o1.out
  simp only [World.size_alloc] at hbb hoo
  refine ⟨⟨_, _, _, _, _⟩, rfl, ⟨World.ownsRow_nil _ _ _ _, ?_, ?_, ?_, ?_⟩, Below.alloc (below10 ((hb3.out _ _ _).trans (hbb.mono (by omega))) (Nat.le_add_right w.heap.size 2) _ _ _ _ _ _ _ _ _ _) ?_ _⟩
  iterate 4
    refine World.ownsRow.alloc ?_ _
    refine own_le ?_ (Nat.le_add_right w.heap.size 3)
    iterate 10 refine own_setOther ?_ (Nat.lt_succ_self _) _
    first
      | exact hoo.f
      | exact hoo.r
      | exact hoo.o
      | exact hoo.p
  simp [World.setCell]
  omega
end Go.Proofs.YthkjicnnepkghaaDoor
