/-
  A commit in memory: the forest, and the three cells that the closure captured.
-/
import Derived.Test.YthkjicnnepkghaaDoorFSet
import Derived.Test.YthkjicnnepkghaaDoorFCom
namespace Go.Proofs.YthkjicnnepkghaaDoor
open Go.RowKit
set_option linter.unusedVariables false

structure ComSt (w : World) (p mb n tb lb fb B0 : Nat) (F : Nat → Prop) (Z : Int → Option SfV) (M : Fo) (l : List Int) (lv : Value) : Prop where
  fz : ForZ w p mb F n Z M
  tC : w.heap[tb]? = some (.cells #[.pointer (some ⟨p, 0, none⟩)] 23 (0, 0))
  lC : w.heap[lb]? = some (.cells #[lv] 29 (0, 0))
  fC : w.heap[fb]? = some (.cells #[.func (.func 35) #[] #[.pointer (some ⟨tb, 0, none⟩), .pointer (some ⟨lb, 0, none⟩), .pointer (some ⟨fb, 0, none⟩)]] 65 (0, 0))
  tF : ¬ F tb
  lF : ¬ F lb
  fF : ¬ F fb
  tl : tb ≠ lb
  fl : fb ≠ lb
  row : w.ownsRow B0 3 1 lv l.length (l.map (Value.int .i64))
  rowF : ∀ b, lv.ownBlock = some b → ¬ F b
  bs : B0 ≤ w.heap.size
section
variable {w w' w1 : World} {p mb n tb lb fb B0 : Nat} {F F' : Nat → Prop} {Z Z' : Int → Option SfV} {M M' : Fo} {l : List Int} {lv : Value}
theorem ComSt.tS (h : ComSt w p mb n tb lb fb B0 F Z M l lv) : tb < w.heap.size := lt_of_block h.tC
theorem ComSt.lS (h : ComSt w p mb n tb lb fb B0 F Z M l lv) : lb < w.heap.size := lt_of_block h.lC
theorem ComSt.fS (h : ComSt w p mb n tb lb fb B0 F Z M l lv) : fb < w.heap.size := lt_of_block h.fC
theorem ComSt.cells (h : ComSt w p mb n tb lb fb B0 F Z M l lv) : w.cell? ⟨tb, 0, none⟩ = some (.pointer (some ⟨p, 0, none⟩)) ∧ w.cell? ⟨lb, 0, none⟩ = some lv ∧ w.frozen? ⟨lb, 0, none⟩ = false ∧
    w.cell? ⟨fb, 0, none⟩ = some (.func (.func 35) #[] #[.pointer (some ⟨tb, 0, none⟩), .pointer (some ⟨lb, 0, none⟩), .pointer (some ⟨fb, 0, none⟩)]) ∧ w.cell? ⟨p, 0, none⟩ = some (.map (some mb)) := by
  exact ⟨cell_of_row w tb 0 _ _ _ h.tC, cell_of_row w lb 0 _ _ _ h.lC, frozen_of_row w lb 0 _ _ h.lC, cell_of_row w fb 0 _ _ _ h.fC, h.fz.cellP⟩
/-- No cell of the closure's is turned. -/
theorem ComSt.turn (h : ComSt w p mb n tb lb fb B0 F Z M l lv) (hf : ForZ w' p mb F' n Z' M') (hc : Chg F w w') (he : Ext F F' w.heap.size) : ComSt w' p mb n tb lb fb B0 F' Z' M' l lv := by
  have hn : ∀ b, b < w.heap.size → ¬ F b → ¬ F' b := fun b hb hf hf' => by rcases he b hf' with h1 | h1; exact hf h1; omega
  exact ⟨hf, (hc.block tb h.tS h.tF).trans h.tC, (hc.block lb h.lS h.lF).trans h.lC, (hc.block fb h.fS h.fF).trans h.fC, hn _ h.tS h.tF, hn _ h.lS h.lF, hn _ h.fS h.fF, h.tl, h.fl,
    own_keepF h.row fun b hb => hc.block b (h.row.lt b hb).2 (h.rowF b hb), fun b hb => hn b (h.row.lt b hb).2 (h.rowF b hb), Nat.le_trans h.bs hc.size⟩
theorem ComSt.below (h : ComSt w p mb n tb lb fb B0 F Z M l lv) (hb : Below w.heap.size w w') : ComSt w' p mb n tb lb fb B0 F Z M l lv :=
  h.turn (h.fz.below hb) (Chg.of_below hb F) (Ext.refl _ _)
theorem ComSt.out (h : ComSt w p mb n tb lb fb B0 F Z M l lv) (hf : FZOut w p mb n F Z' M' w') : ∃ F', ComSt w' p mb n tb lb fb B0 F' Z' M' l lv ∧ Chg F w w' ∧ Ext F F' w.heap.size := by
  obtain ⟨F', h1, h2, h3⟩ := hf
  exact ⟨F', h.turn h1 h2 h3, h2, h3⟩
/-- One more name. -/
theorem ComSt.push (h : ComSt w p mb n tb lb fb B0 F Z M l lv) (x : Int) {o : Obj} {g cap : Nat} (ho : w1.ownsRow B0 3 1 (.slice (some ⟨g, 0, none⟩) (l.length + 1) cap) (l.length + 1) (l.map (Value.int .i64) ++ [.int .i64 x]))
    (hg : (w.alloc o).grownBy w1 lv.ownBlock) (hat : lv.ownBlock = some g ∨ g = (w.alloc o).heap.size) :
    ComSt (w1.setCell ⟨lb, 0, none⟩ (.slice (some ⟨g, 0, none⟩) (l.length + 1) cap)) p mb n tb lb fb B0 F Z M (l ++ [x]) (.slice (some ⟨g, 0, none⟩) (l.length + 1) cap) ∧
      Chg (fun b => F b ∨ b = lb ∨ B0 ≤ b) w (w1.setCell ⟨lb, 0, none⟩ (.slice (some ⟨g, 0, none⟩) (l.length + 1) cap)) := by
  have hr : ∀ b v ty, w.heap[b]? = some (.cells v ty (0, 0)) → ty ≠ 3 → lv.ownBlock ≠ some b := fun b v ty hb hn e => by
    obtain ⟨cur, h1⟩ := own_typeF h.row e
    rw [hb] at h1
    cases h1
    exact hn rfl
  have hrl := hr _ _ _ h.lC (by decide)
  have hrt := hr _ _ _ h.tC (by decide)
  have hrf := hr _ _ _ h.fC (by decide)
  have hsz : (w.alloc o).heap.size = w.heap.size + 1 := by simp
  have hgl : g ≠ lb := fun e => by
    rcases hat with h1 | h1
    · rw [e] at h1; exact hrl h1
    · have := h.lS; omega
  have hgF : ¬ F g := by
    rcases hat with h1 | h1
    · exact h.rowF g h1
    · intro hF; have := h.fz.lt g hF; omega
  have hblk : ∀ b, b < w.heap.size → b ≠ lb → lv.ownBlock ≠ some b → (w1.setCell ⟨lb, 0, none⟩ (.slice (some ⟨g, 0, none⟩) (l.length + 1) cap)).heap[b]? = w.heap[b]? := fun b hb h1 h2 =>
    (heap_setCell_other w1 _ b _ h1).trans ((hg.block b (by omega) (fun e => h2 e.symm)).trans (Below.heap_alloc w o b hb))
  have hl1 : w1.heap[lb]? = some (.cells #[lv] 29 (0, 0)) := ((hg.block lb (by have := h.lS; omega) (fun e => hrl e.symm)).trans (Below.heap_alloc w o lb h.lS)).trans h.lC
  have hlt : w1.heap.size ≤ (w1.setCell ⟨lb, 0, none⟩ (.slice (some ⟨g, 0, none⟩) (l.length + 1) cap)).heap.size := (Chg.setCell (F := fun b => b = lb) w1 rfl _).size
  have hcg : Chg (fun b => b = lb ∨ lv.ownBlock = some b) w (w1.setCell ⟨lb, 0, none⟩ (.slice (some ⟨g, 0, none⟩) (l.length + 1) cap)) :=
    ((Chg.of_below ((Below.refl _ w).alloc (Nat.le_refl _) o) _).trans (Chg.grown hg fun b e => .inr e) (Ext.refl _ _)).trans (Chg.setCell w1 (.inl rfl) _) (Ext.refl _ _)
  have hfz : ForZ (w1.setCell ⟨lb, 0, none⟩ (.slice (some ⟨g, 0, none⟩) (l.length + 1) cap)) p mb F n Z M := h.fz.chg hcg fun b hb hb2 => by
    rcases hb2 with rfl | hb2
    · exact h.lF hb
    · exact h.rowF b hb2 hb
  have hown := own_keepF (w' := w1.setCell ⟨lb, 0, none⟩ (.slice (some ⟨g, 0, none⟩) (l.length + 1) cap)) ho fun b hb => heap_setCell_other w1 _ b _ (by cases hb; exact hgl)
  refine ⟨⟨hfz, (hblk tb h.tS h.tl hrt).trans h.tC, ?_, (hblk fb h.fS h.fl hrf).trans h.fC, h.tF, h.lF, h.fF, h.tl, h.fl, ?_, fun b hb => by cases hb; exact hgF, Nat.le_trans h.bs hcg.size⟩, hcg.mono fun b _ hb => ?_⟩
  · rw [heap_setCell_same w1 lb 0 _ _ _ hl1]; rfl
  · simpa using hown
  · rcases hb with hb | hb
    · exact .inr (.inl hb)
    · exact .inr (.inr (h.row.lt b hb).1)
end
end Go.Proofs.YthkjicnnepkghaaDoor
