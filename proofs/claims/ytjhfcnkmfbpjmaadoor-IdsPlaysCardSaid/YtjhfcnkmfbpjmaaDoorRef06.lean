/-
  tableauref06: the reference's table, told by the same function as the program's.
-/
import Derived.Test.YtjhfcnkmfbpjmaaDoorTab
import Derived.Deep.QuietTactic
import Derived.BigQuiet
namespace Go.Proofs.YtjhfcnkmfbpjmaaDoor
open Go.RowKit

/-- What every object of a table is. -/
def GoodM (M : Int → Option (Int × Int)) : Prop := ∀ j x, M j = some x → 1 ≤ j ∧ j ≤ 255 ∧ 1 ≤ x.1 ∧ x.1 ≤ 17 ∧ 1 ≤ x.2

def atM (M : Int → Option (Int × Int)) (j : Int) : Int × Int := (M j).getD (0, 0)

/-- The reference's table at q: 256 objects of two numbers. -/
def RefM (w : World) (q : Nat) (M : Int → Option (Int × Int)) : Prop :=
  ∃ cs : Array Value, w.heap[q]? = some (.cells cs 85 (0, 0)) ∧ cs.size = 512 ∧ ∀ i : Nat, i < 256 → cs[i * 2]? = some (.int .i64 (atM M i).1) ∧ cs[i * 2 + 1]? = some (.int .i64 (atM M i).2)

theorem Tryd.zeroRef : Tryd.zeroCells85 = Array.replicate 512 (Value.int .i64 0) := by kernel_rfl

theorem GoodM.start : GoodM tab0 := fun j x h => by
  unfold tab0 at h
  by_cases h1 : j = 1
  · rw [if_pos h1] at h; cases h; exact ⟨by omega, by omega, by decide, by decide, by decide⟩
  · rw [if_neg h1] at h; cases h
theorem GoodM.add {M : Int → Option (Int × Int)} (h : GoodM M) (id f v : Int) : GoodM (addIS M id f v) := by
  unfold addIS
  split
  · rename_i h0
    intro j x hx
    unfold setT at hx
    by_cases hj : j = id
    · rw [if_pos hj] at hx; cases hx
      unfold addIK at h0
      by_cases h1 : f < 1 ∨ 17 < f ∨ v < 1
      · rw [if_pos h1] at h0; cases h0
      · rw [if_neg h1] at h0
        by_cases h2 : (M id).isSome ∨ id < 2 ∨ 255 < id
        · rw [if_pos h2] at h0; cases h0
        · have : ¬ (id < 2 ∨ 255 < id) := fun e => h2 (.inr e)
          exact ⟨by omega, by omega, by omega, by omega, by omega⟩
    · rw [if_neg hj] at hx; exact h j x hx
  · exact h
theorem GoodM.drop {M : Int → Option (Int × Int)} (h : GoodM M) (id : Int) : GoodM (dropIS M id) := by
  unfold dropIS
  split
  · intro j x hx
    unfold setT at hx
    by_cases hj : j = id
    · rw [if_pos hj] at hx; cases hx
    · rw [if_neg hj] at hx; exact h j x hx
  · exact h

section
variable {w w' : World} {q : Nat} {M : Int → Option (Int × Int)}
theorem RefM.keep (h : RefM w q M) (hb : w'.heap[q]? = w.heap[q]?) : RefM w' q M := by
  obtain ⟨cs, h1, h2⟩ := h
  exact ⟨cs, hb.trans h1, h2⟩
theorem RefM.lt (h : RefM w q M) : q < w.heap.size := by
  obtain ⟨cs, h1, _⟩ := h
  exact lt_of_block h1
theorem RefM.cells (h : RefM w q M) {i : Nat} (hi : i < 256) : w.cell? ⟨q, i * 2, none⟩ = some (.int .i64 (atM M i).1) ∧ w.cell? ⟨q, i * 2 + 1, none⟩ = some (.int .i64 (atM M i).2) := by
  obtain ⟨cs, h1, h2, h3⟩ := h
  rw [cell_of_row w q (i * 2) _ _ _ h1, cell_of_row w q (i * 2 + 1) _ _ _ h1]
  exact h3 i hi
/-- What a store of two cells asks. -/
theorem RefM.room (h : RefM w q M) {i : Nat} (hi : i < 256) : (∃ v, w.cell? ⟨q, i * 2, none⟩ = some v) ∧ w.frozen? ⟨q, i * 2, none⟩ = false ∧
    ∀ u, (∃ v, (w.setCell ⟨q, i * 2, none⟩ u).cell? ⟨q, i * 2 + 1, none⟩ = some v) ∧ (w.setCell ⟨q, i * 2, none⟩ u).frozen? ⟨q, i * 2 + 1, none⟩ = false := by
  obtain ⟨c0, c1⟩ := h.cells hi
  obtain ⟨cs, h1, h2, h3⟩ := h
  refine ⟨⟨_, c0⟩, by simp [World.frozen?, h1], fun u => ⟨⟨.int .i64 (atM M i).2, ?_⟩, by rw [World.frozen?_setCell]; simp [World.frozen?, h1]⟩⟩
  have e1 := heap_setCell_same w q (i * 2) _ _ u h1
  rw [cell_of_row _ q (i * 2 + 1) _ _ _ e1, Array.getElem?_setIfInBounds_ne (by omega)]
  exact (h3 i hi).2
/-- Two cells stored. -/
theorem RefM.store (h : RefM w q M) {i : Nat} (hi : i < 256) (v : Option (Int × Int)) :
    RefM ((w.setCell ⟨q, i * 2, none⟩ (.int .i64 (v.getD (0, 0)).1)).setCell ⟨q, i * 2 + 1, none⟩ (.int .i64 (v.getD (0, 0)).2)) q (setT M i v) := by
  obtain ⟨cs, h1, h2, h3⟩ := h
  have e1 := heap_setCell_same w q (i * 2) _ _ (.int .i64 (v.getD (0, 0)).1) h1
  have e2 := heap_setCell_same _ q (i * 2 + 1) _ _ (.int .i64 (v.getD (0, 0)).2) e1
  refine ⟨_, e2, by simpa using h2, fun k hk => ?_⟩
  by_cases hki : k = i
  · subst hki
    constructor
    · rw [Array.getElem?_setIfInBounds_ne (by omega), Array.getElem?_setIfInBounds_self_of_lt (by omega)]
      unfold atM setT; rw [if_pos rfl]
    · rw [Array.getElem?_setIfInBounds_self_of_lt (by simp; omega)]
      unfold atM setT; rw [if_pos rfl]
  · have e3 : atM (setT M i v) k = atM M k := by unfold atM setT; rw [if_neg (by omega)]
    rw [e3, Array.getElem?_setIfInBounds_ne (by omega), Array.getElem?_setIfInBounds_ne (by omega), Array.getElem?_setIfInBounds_ne (by omega), Array.getElem?_setIfInBounds_ne (by omega)]
    exact h3 k hk
end

set_option maxRecDepth 100000 in
theorem rNew_any (w : World) : Calls Tryd.prog 20 #[] w fun e w' => e = .returned (.pointer (some ⟨w.heap.size, 0, none⟩)) ∧ RefM w' w.heap.size tab0 ∧ Below w.heap.size w w' := by
  go_enter Tryd.func20, Tryd.ntmps20
  go_wp2
  go_ret
  refine ⟨rfl, ⟨_, heap_alloc_new _ _, ?_, fun i hi => ?_⟩, (Below.refl _ _).alloc (Nat.le_refl _) _⟩
  · rw [Tryd.zeroRef]; simp
  · rw [Tryd.zeroRef]
    unfold atM tab0
    by_cases h1 : i = 1
    · subst h1
      exact ⟨rfl, rfl⟩
    · rw [if_neg (by omega), Array.getElem?_setIfInBounds_ne (by omega), Array.getElem?_setIfInBounds_ne (by omega), Array.getElem?_setIfInBounds_ne (by omega), Array.getElem?_setIfInBounds_ne (by omega)]
      constructor
      · rw [Array.getElem?_replicate, if_pos (by omega)]; rfl
      · rw [Array.getElem?_replicate, if_pos (by omega)]; rfl

set_option maxRecDepth 100000 in
theorem rAt_any (w : World) (q : Nat) (M : Int → Option (Int × Int)) (hG : GoodM M) (id : Int) (h : RefM w q M) :
    Calls Tryd.prog 25 #[.pointer (some ⟨q, 0, none⟩), .int .i64 id] w fun e w' => e = .returned (obV (atM M id)) ∧ Below w.heap.size w w' := by
  by_cases h0 : id < 0 ∨ 255 < id
  · have hM : M id = none := by
      cases hx : M id with
      | none => rfl
      | some x => have := hG id x hx; omega
    have e1 : atM M id = (0, 0) := by unfold atM; rw [hM]; rfl
    rw [e1]
    clear h e1 hM hG
    rcases (show id < 0 ∨ (0 ≤ id ∧ 255 < id) by omega) with h1 | ⟨h1, h2⟩
    · clear h0
      go_enter Tryd.func25, Tryd.ntmps25
      go_wp2
      try simp only [Exit.inBlock, Exit.then]
      refine bodyPost_ret (results_cell_row rfl _ _ w.heap.size 41 #[.int .i64 0, .int .i64 0] (0, 0) _ rfl (heap_alloc_new _ _) Tryd.underlying41 rfl (by kernel_rfl)) rfl ?_
      exact ⟨rfl, (Below.refl _ _).alloc (Nat.le_refl _) _⟩
    · clear h0
      go_enter Tryd.func25, Tryd.ntmps25
      go_wp2
      try simp only [Exit.inBlock, Exit.then]
      refine bodyPost_ret (results_cell_row rfl _ _ w.heap.size 41 #[.int .i64 0, .int .i64 0] (0, 0) _ rfl (heap_alloc_new _ _) Tryd.underlying41 rfl (by kernel_rfl)) rfl ?_
      exact ⟨rfl, (Below.refl _ _).alloc (Nat.le_refl _) _⟩
  · obtain ⟨i, rfl⟩ : ∃ i : Nat, id = i := ⟨id.toNat, by omega⟩
    have hi : i < 256 := by omega
    obtain ⟨c0, c1⟩ := h.cells hi
    obtain ⟨b0, b1⟩ := (h.keep (w' := w.alloc (.cells #[.int .i64 0, .int .i64 0] 41)) (Below.heap_alloc _ _ _ h.lt)).cells hi
    have h1 : (0 : Int) ≤ i := by omega
    have h2 : (i : Int) ≤ 255 := by omega
    generalize atM M i = x at c0 c1 b0 b1 ⊢
    obtain ⟨x0, x1⟩ := x
    clear h hG h0
    go_enter Tryd.func25, Tryd.ntmps25
    go_wp2
    try simp only [Exit.inBlock, Exit.then]
    refine bodyPost_ret (results_cell_row rfl _ _ w.heap.size 41 #[.int .i64 x0, .int .i64 x1] (0, 0) _ rfl (heap_alloc_new _ _) Tryd.underlying41 rfl (by kernel_rfl)) rfl ?_
    exact ⟨rfl, (Below.refl _ _).alloc (Nat.le_refl _) _⟩

theorem Tryd.rfFace (a b : Int) (w : World) : (Instr.field 41 (.agg #[.int .i64 a, .int .i64 b]) 0).run Tryd.prog w = .ok (.int .i64 a) w := by kernel_rfl
theorem Tryd.rfVersion (a b : Int) (w : World) : (Instr.field 41 (.agg #[.int .i64 a, .int .i64 b]) 1).run Tryd.prog w = .ok (.int .i64 b) w := by kernel_rfl

theorem atM_none {M : Int → Option (Int × Int)} {j : Int} (h : M j = none) : atM M j = (0, 0) := by unfold atM; rw [h]; rfl
theorem atM_some {M : Int → Option (Int × Int)} {j : Int} {x : Int × Int} (h : M j = some x) : atM M j = x := by unfold atM; rw [h]; rfl

set_option maxRecDepth 100000 in
theorem rWant_any (w : World) (q : Nat) (M : Int → Option (Int × Int)) (hG : GoodM M) (id f : Int) (h : RefM w q M) :
    Calls Tryd.prog 23 #[.pointer (some ⟨q, 0, none⟩), .int .i64 id, .int .i64 f] w fun e w' => e = .returned (.int .i64 (wantIK M id f)) ∧ Below w.heap.size w w' := by
  have cA := rAt_any w q M hG id h
  have ob0 := Tryd.rfFace
  cases hM : M id with
  | none =>
    have e1 : wantIK M id f = 5 := by simp [wantIK, hM]
    rw [atM_none hM] at cA
    rw [e1]
    replace cA := hide cA
    clear e1 hM h hG
    by_cases hf : f = 0
    · subst hf
      go_enter Tryd.func23, Tryd.ntmps23
      go_wp2_with fail
      refine (cA.out).mono ?_
      rintro e w2 ⟨rfl, hb⟩
      unfold obV
      go_wp2
      go_ret
      exact ⟨rfl, hb⟩
    · have hf' : ((0 : Int) != f) = true := by simp; omega
      go_enter Tryd.func23, Tryd.ntmps23
      go_wp2_with fail
      refine (cA.out).mono ?_
      rintro e w2 ⟨rfl, hb⟩
      unfold obV
      go_wp2
      go_ret
      exact ⟨rfl, hb⟩
  | some x =>
    obtain ⟨hx1, hx2, hx3, hx4, hx5⟩ := hG id x hM
    obtain ⟨x0, x1⟩ := x
    rw [atM_some hM] at cA
    dsimp only at hx3
    replace cA := hide cA
    by_cases hf : x0 = f
    · subst hf
      have e1 : wantIK M id x0 = 0 := by simp [wantIK, hM]
      rw [e1]
      have hn : (x0 == 0) = false := by simp; omega
      clear e1 hM h hG
      go_enter Tryd.func23, Tryd.ntmps23
      go_wp2_with fail
      refine (cA.out).mono ?_
      rintro e w2 ⟨rfl, hb⟩
      unfold obV
      go_wp2
      go_ret
      exact ⟨rfl, hb⟩
    · have e1 : wantIK M id f = 5 := by simp [wantIK, hM, hf]
      rw [e1]
      have hn : (x0 != f) = true := by simpa using hf
      clear e1 hM h hG
      go_enter Tryd.func23, Tryd.ntmps23
      go_wp2_with fail
      refine (cA.out).mono ?_
      rintro e w2 ⟨rfl, hb⟩
      unfold obV
      go_wp2
      go_ret
      exact ⟨rfl, hb⟩

/-- What a call of the reference has left. -/
def RefOut (w : World) (q : Nat) (M : Int → Option (Int × Int)) (w' : World) : Prop := RefM w' q M ∧ Chg (fun b => b = q) w w'
theorem RefM.stay {w : World} {q : Nat} {M : Int → Option (Int × Int)} (h : RefM w q M) : RefOut w q M w := ⟨h, Chg.refl _ _⟩
theorem RefM.stayB {w w' : World} {q : Nat} {M : Int → Option (Int × Int)} (h : RefM w q M) (hb : Below w.heap.size w w') : RefOut w q M w' := ⟨h.keep (hb.block q h.lt), Chg.of_below hb _⟩
theorem RefM.storeOut {w : World} {q : Nat} {M : Int → Option (Int × Int)} (h : RefM w q M) {i : Nat} (hi : i < 256) (v : Option (Int × Int)) :
    RefOut w q (setT M i v) ((w.setCell ⟨q, i * 2, none⟩ (.int .i64 (v.getD (0, 0)).1)).setCell ⟨q, i * 2 + 1, none⟩ (.int .i64 (v.getD (0, 0)).2)) :=
  ⟨h.store hi v, (Chg.setCell (F := fun b => b = q) w (a := ⟨q, i * 2, none⟩) rfl _).trans (Chg.setCell (F := fun b => b = q) _ (a := ⟨q, i * 2 + 1, none⟩) rfl _) (Ext.refl _ _)⟩

theorem RefOut.after {w w2 w' : World} {q : Nat} {M : Int → Option (Int × Int)} (h : RefOut w2 q M w') (hb : Below w.heap.size w w2) (_ : q < w.heap.size) : RefOut w q M w' :=
  ⟨h.1, (Chg.of_below hb _).trans h.2 (Ext.refl _ _)⟩

theorem GoodM.out {M : Int → Option (Int × Int)} (hG : GoodM M) {id : Int} (h : id < 1 ∨ 255 < id) : M id = none := by
  cases hx : M id with
  | none => rfl
  | some x => have := hG id x hx; omega

set_option maxRecDepth 100000 in
theorem rDrop_any (w : World) (q : Nat) (M : Int → Option (Int × Int)) (hG : GoodM M) (id : Int) (h : RefM w q M) :
    Calls Tryd.prog 22 #[.pointer (some ⟨q, 0, none⟩), .int .i64 id] w fun e w' => e = .returned (.int .i64 (dropIK M id)) ∧ RefOut w q (dropIS M id) w' := by
  have cA := rAt_any w q M hG id h
  have ob0 := Tryd.rfFace
  have hst := hide h.stay
  have hsb := hide (fun w' hb => h.stayB (w' := w') hb)
  by_cases h2 : id < 2
  · have e1 : dropIK M id = 5 := by
      unfold dropIK
      rw [if_neg]
      rintro ⟨a, b⟩
      rw [hG.out (by omega)] at a
      cases a
    rw [show dropIS M id = M by unfold dropIS; rw [if_neg (by rw [e1]; decide)], e1]
    clear cA e1 hG h
    go_enter Tryd.func22, Tryd.ntmps22
    go_wp2
    go_ret
    exact ⟨rfl, hst.out⟩
  · cases hM : M id with
    | none =>
      have e1 : dropIK M id = 5 := by simp [dropIK, hM]
      rw [show dropIS M id = M by unfold dropIS; rw [if_neg (by rw [e1]; decide)], e1]
      rw [atM_none hM] at cA
      replace cA := hide cA
      have h3 : 2 ≤ id := by omega
      clear e1 hG h hM h2
      go_enter Tryd.func22, Tryd.ntmps22
      go_wp2_with fail
      refine (cA.out).mono ?_
      rintro e w2 ⟨rfl, hb⟩
      unfold obV
      go_wp2
      go_ret
      exact ⟨rfl, hsb.out _ hb⟩
    | some x =>
      obtain ⟨hx1, hx2, hx3, hx4, hx5⟩ := hG id x hM
      have e1 : dropIK M id = 0 := by unfold dropIK; rw [if_pos ⟨by rw [hM]; rfl, by omega⟩]
      rw [show dropIS M id = setT M id none by unfold dropIS; rw [if_pos e1], e1]
      obtain ⟨x0, x1⟩ := x
      rw [atM_some hM] at cA
      replace cA := hide cA
      obtain ⟨i, rfl⟩ : ∃ i : Nat, id = i := ⟨id.toNat, by omega⟩
      have h3 : (2 : Int) ≤ i := by omega
      have h4 : (0 : Int) ≤ i := by omega
      have hn : (x0 == 0) = false := by simp; dsimp only at hx3; omega
      have Hh := hide (show RefM w q M from h)
      have HG := hide hG
      clear e1 hG hM h2 hx3 hx4 hx5 hst hsb h
      go_enter Tryd.func22, Tryd.ntmps22
      go_wp2_with fail
      refine (cA.out).mono ?_
      rintro e w2 ⟨rfl, hb⟩
      unfold obV
      have R2 := hide (Hh.out.keep (hb.block q Hh.out.lt))
      have Hb := hide hb
      have hi : i < 256 := by omega
      obtain ⟨⟨s0, t0⟩, t1, t2⟩ := R2.out.room hi
      obtain ⟨⟨s1, t3⟩, t4⟩ := t2 (.int .i64 0)
      clear hb t2
      go_wp2
      go_ret
      exact ⟨rfl, (R2.out.storeOut hi none).after Hb.out Hh.out.lt⟩

set_option maxRecDepth 100000 in
theorem rAdd_any (w : World) (q : Nat) (M : Int → Option (Int × Int)) (hG : GoodM M) (id f v : Int) (h : RefM w q M) :
    Calls Tryd.prog 24 #[.pointer (some ⟨q, 0, none⟩), .int .i64 id, .int .i64 f, .int .i64 v] w fun e w' => e = .returned (.int .i64 (addIK M id f v)) ∧ RefOut w q (addIS M id f v) w' := by
  have hst := hide h.stay
  by_cases hf : f < 1 ∨ 17 < f ∨ v < 1
  · have e1 : addIK M id f v = 1 := addIK_bad hf
    rw [addIS_same (by rw [e1]; decide), e1]
    clear e1 h hG
    rcases (show f < 1 ∨ (1 ≤ f ∧ 17 < f) ∨ (1 ≤ f ∧ f ≤ 17 ∧ v < 1) by omega) with h1 | ⟨h1, h2⟩ | ⟨h1, h2, h3⟩
    · clear hf
      go_enter Tryd.func24, Tryd.ntmps24
      go_wp2
      go_ret
      exact ⟨rfl, hst.out⟩
    · clear hf
      go_enter Tryd.func24, Tryd.ntmps24
      go_wp2
      go_ret
      exact ⟨rfl, hst.out⟩
    · clear hf
      go_enter Tryd.func24, Tryd.ntmps24
      go_wp2
      go_ret
      exact ⟨rfl, hst.out⟩
  · obtain ⟨hf1, hf2, hf3⟩ : 1 ≤ f ∧ f ≤ 17 ∧ 1 ≤ v := by omega
    clear hf
    rcases (show id < 2 ∨ (2 ≤ id ∧ 255 < id) ∨ (2 ≤ id ∧ id ≤ 255) by omega) with h1 | ⟨h1, h2⟩ | ⟨h1, h2⟩
    · have e1 : addIK M id f v = 5 := addIK_obj ⟨hf1, hf2, hf3⟩ (.inr (.inl h1))
      rw [addIS_same (by rw [e1]; decide), e1]
      clear e1 h hG
      go_enter Tryd.func24, Tryd.ntmps24
      go_wp2
      go_ret
      exact ⟨rfl, hst.out⟩
    · have e1 : addIK M id f v = 5 := addIK_obj ⟨hf1, hf2, hf3⟩ (.inr (.inr h2))
      rw [addIS_same (by rw [e1]; decide), e1]
      clear e1 h hG
      go_enter Tryd.func24, Tryd.ntmps24
      go_wp2
      go_ret
      exact ⟨rfl, hst.out⟩
    · obtain ⟨i, rfl⟩ : ∃ i : Nat, id = i := ⟨id.toNat, by omega⟩
      have hi : i < 256 := by omega
      have h4 : (0 : Int) ≤ i := by omega
      obtain ⟨c0, c1⟩ := h.cells hi
      clear c1
      cases hM : M i with
      | some x =>
        obtain ⟨hx1, hx2, hx3, hx4, hx5⟩ := hG i x hM
        have e1 : addIK M i f v = 5 := addIK_obj ⟨hf1, hf2, hf3⟩ (.inl (by simp [hM]))
        rw [addIS_same (by rw [e1]; decide), e1]
        rw [atM_some hM] at c0
        obtain ⟨x0, x1⟩ := x
        dsimp only at hx3 c0
        have hn : 0 < x0 := by omega
        clear e1 h hG hM hx1 hx2 hx4 hx5
        go_enter Tryd.func24, Tryd.ntmps24
        go_wp2
        go_ret
        exact ⟨rfl, hst.out⟩
      | none =>
        have e1 : addIK M i f v = 0 := addIK_ok ⟨hf1, hf2, hf3⟩ hM h1 h2
        rw [addIS_put e1, e1]
        rw [atM_none hM] at c0
        dsimp only at c0
        obtain ⟨⟨s0, t0⟩, t1, t2⟩ := h.room hi
        obtain ⟨⟨s1, t3⟩, t4⟩ := t2 (.int .i64 f)
        have Hh := hide h
        clear e1 h hG hM t2 t0
        go_enter Tryd.func24, Tryd.ntmps24
        go_wp2
        go_ret
        exact ⟨rfl, Hh.out.storeOut hi (some (f, v))⟩
end Go.Proofs.YtjhfcnkmfbpjmaaDoor
