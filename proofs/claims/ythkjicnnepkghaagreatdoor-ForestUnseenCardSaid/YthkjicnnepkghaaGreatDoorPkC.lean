/-
  Package state: Apply, None, First; forest.own.
  Package forest in memory: what a call leaves of a surface; look-ups.
  Package forest: New, Has, Parent, latest, order, child.
  Package forest: turn, Attach, Frame, Sync, Synced.
  Package forest: Synced, Frame.
  Contracts of order.Has, Above, Below.
-/
import Derived.Test.YthkjicnnepkghaaGreatDoorPkFMerge
import Derived.Test.YthkjicnnepkghaaGreatDoorPkD
import Derived.Deep.AppendLies
import Derived.Deep.RegionLaw
import Derived.Deep.LoopGhost
import Derived.Test.YthkjicnnepkghaaGreatDoorPkA
import Derived.Test.YthkjicnnepkghaaGreatDoorPkInts
import Derived.Deep.QuietTactic
import Derived.BigQuiet
namespace Go.Proofs.YthkjicnnepkghaaGreatDoor
open Go.RowKit
set_option linter.unusedVariables false

theorem mergeT_zero (s : St) : mergeT s St.zero = s := by
  obtain ⟨⟩ := s
  simp [mergeT, St.zero, putsP]
theorem StOwn.rd {w : World} {base : Nat} {v : StV} {s : St} (h : StOwn w base v s) : StRd w v s := ⟨Rd.of_own h.d, Rd.of_own h.f, Rd.of_own h.r, Rd.of_own h.o, Rd.of_own h.p⟩
theorem StOwn.below {w w' : World} {base B : Nat} {v : StV} {s : St} (h : StOwn w base v s) (hb : Below B w w') (hB : w.heap.size ≤ B) : StOwn w' base v s :=
  ⟨own_belowF h.d hb hB, own_belowF h.f hb hB, own_belowF h.r hb hB, own_belowF h.o hb hB, own_belowF h.p hb hB⟩
theorem StOwn.le {w : World} {base base' : Nat} {v : StV} {s : St} (h : StOwn w base v s) (hB : base' ≤ base) : StOwn w base' v s :=
  ⟨own_le h.d hB, own_le h.f hB, own_le h.r hB, own_le h.o hB, own_le h.p hB⟩
theorem StOwn.forms {w : World} {base : Nat} {v : StV} {s : St} (h : StOwn w base v s) : ∃ A1 c1 A2 c2 A3 c3 A4 c4 A5 c5, v = ⟨.slice A1 s.damage.length c1, .slice A2 s.frames.length c2, .slice A3 s.region.length c3, .slice A4 s.order.length c4, .slice A5 s.places.length c5⟩ := by
  obtain ⟨d, f, r, o, p⟩ := v
  obtain ⟨A1, c1, rfl, _⟩ := own_form h.d
  obtain ⟨A2, c2, rfl, _⟩ := own_form h.f
  obtain ⟨A3, c3, rfl, _⟩ := own_form h.r
  obtain ⟨A4, c4, rfl, _⟩ := own_form h.o
  obtain ⟨A5, c5, rfl, _⟩ := own_form h.p
  exact ⟨_, _, _, _, _, _, _, _, _, _, rfl⟩
theorem StRd.forms {w : World} {v : StV} {s : St} (h : StRd w v s) : ∃ A1 c1 A2 c2 A3 c3 A4 c4 A5 c5, v = ⟨.slice A1 s.damage.length c1, .slice A2 s.frames.length c2, .slice A3 s.region.length c3, .slice A4 s.order.length c4, .slice A5 s.places.length c5⟩ := by
  obtain ⟨d, f, r, o, p⟩ := v
  obtain ⟨A1, c1, rfl, _⟩ := h.d.form
  obtain ⟨A2, c2, rfl, _⟩ := h.f.form
  obtain ⟨A3, c3, rfl, _⟩ := h.r.form
  obtain ⟨A4, c4, rfl, _⟩ := h.o.form
  obtain ⟨A5, c5, rfl, _⟩ := h.p.form
  exact ⟨_, _, _, _, _, _, _, _, _, _, rfl⟩
theorem own_setOther {w : World} {base sz n g c : Nat} {e : TypeId} {v : Value} {cs : List Value} (h : w.ownsRow base e sz v n cs) (hg : g < base) (u : Value) : (w.setCell ⟨g, c, none⟩ u).ownsRow base e sz v n cs :=
  own_keepF h fun b hb => heap_setCell_other w _ b _ (by have := (h.lt b hb).1; show b ≠ g; omega)

set_option maxRecDepth 100000 in
set_option maxHeartbeats 2000000 in
theorem first_any (w : World) : Calls Tryz.prog 89 #[] w (BigP w St.first) := by
  have hR := hide (heap_alloc2_old w (.cells #[.bool false, .int .i64 0, .slice none 0 0, .slice none 0 0, .bool false, .bool true, .slice none 0 0, .bool false, .slice (some ⟨w.heap.size + 1, 0, none⟩) 1 1, .slice none 0 0] 41) (.cells #[.int .i64 0] 3))
  go_enter Tryz.func89, Tryz.ntmps89
  go_wp2
  try simp only [Exit.inBlock, Exit.then]
  refine bodyPost_ret (results_cell_row rfl _ _ w.heap.size 41 #[.bool false, .int .i64 0, .slice none 0 0, .slice none 0 0, .bool false, .bool true, .slice none 0 0, .bool false, .slice (some ⟨w.heap.size + 1, 0, none⟩) 1 1, .slice none 0 0] (0, 0) _ rfl hR.out Tryz.underlying41 rfl (by kernel_rfl)) rfl ?_
  refine ⟨⟨_, _, _, _, _⟩, rfl, ⟨World.ownsRow_nil _ _ _ _, World.ownsRow_nil _ _ _ _, World.ownsRow_nil _ _ _ _, ?_, World.ownsRow_nil _ _ _ _⟩, ((Below.refl _ w).alloc (Nat.le_refl _) _).alloc (by simp) _⟩
  have := World.ownsRow_lit (base := w.heap.size) (e := 3) (size := 1) (w.alloc (.cells #[.bool false, .int .i64 0, .slice none 0 0, .slice none 0 0, .bool false, .bool true, .slice none 0 0, .bool false, .slice (some ⟨w.heap.size + 1, 0, none⟩) 1 1, .slice none 0 0] 41)) #[.int .i64 0] 1 (by simp) (by unfold maxLen; omega) (by simp)
  simpa [St.first] using this

set_option maxRecDepth 100000 in
set_option maxHeartbeats 2000000 in
theorem own_any (w : World) (va : StV) (a : St) (ha : StRd w va a) (hf : MergeFits a St.zero) : Calls Tryz.prog 117 #[stVal a va] w (BigP w a) := by
  obtain ⟨A1, c1, A2, c2, A3, c3, A4, c4, A5, c5, rfl⟩ := ha.forms
  unfold stVal
  dsimp only
  have hb2 : ∀ o o', Below w.heap.size w ((w.alloc o).alloc o') := fun o o' => ((Below.refl _ w).alloc (Nat.le_refl _) o).alloc (by simp) o'
  have cM := hide (fun o o' => merge_any ((w.alloc o).alloc o') _ StV.nil a St.zero (ha.below (hb2 o o') (Nat.le_refl _)) (StRd.zero _) hf)
  rw [mergeT_zero] at cM
  unfold stVal StV.nil at cM
  dsimp only [St.zero] at cM
  have hR := fun o o' => heap_alloc2_new w o o'
  replace hb2 := hide hb2
  replace hR := hide hR
  clear ha hf
  go_enter Tryz.func117, Tryz.ntmps117
  go_wp2_with fail
  refine (cM.out _ _).mono ?_
  rintro e w1 ⟨v1, rfl, o1, b1⟩
  have h4 := hide ((b1.block (w.heap.size + 1) (by simp)).trans (hR.out _ _))
  obtain ⟨r0, r1, r2, r3, r4, r5, r6, r7, r8, r9⟩ := cells10 h4.out
  have g0 := frozen_of_row _ _ 0 _ _ h4.out
  have g1 := frozen_of_row _ _ 1 _ _ h4.out
  have g2 := frozen_of_row _ _ 2 _ _ h4.out
  have g3 := frozen_of_row _ _ 3 _ _ h4.out
  have g4 := frozen_of_row _ _ 4 _ _ h4.out
  have g5 := frozen_of_row _ _ 5 _ _ h4.out
  have g6 := frozen_of_row _ _ 6 _ _ h4.out
  have g7 := frozen_of_row _ _ 7 _ _ h4.out
  have g8 := frozen_of_row _ _ 8 _ _ h4.out
  have g9 := frozen_of_row _ _ 9 _ _ h4.out
  obtain ⟨B1, d1, B2, d2, B3, d3, B4, d4, B5, d5, rfl⟩ := o1.forms
  replace o1 := hide o1
  replace b1 := hide b1
  unfold stVal
  dsimp only
  have hRR := hide (set10 h4.out (.bool a.attach) (.int .i64 a.buffer) (.slice B1 a.damage.length d1) (.slice B2 a.frames.length d2) (.bool a.input) (.bool a.all) (.slice B3 a.region.length d3) (.bool a.ordered) (.slice B4 a.order.length d4) (.slice B5 a.places.length d5))
  go_wp2
  try simp only [Exit.inBlock, Exit.then]
  refine bodyPost_ret (results_cell_row rfl _ _ (w.heap.size + 1) 41 #[.bool a.attach, .int .i64 a.buffer, .slice B1 a.damage.length d1, .slice B2 a.frames.length d2, .bool a.input, .bool a.all, .slice B3 a.region.length d3, .bool a.ordered, .slice B4 a.order.length d4, .slice B5 a.places.length d5] (0, 0) _ rfl hRR.out Tryz.underlying41 rfl (by kernel_rfl)) rfl ?_
  have hbb := b1.out
  have hoo := o1.out
  simp only [World.size_alloc] at hbb hoo
  refine ⟨⟨_, _, _, _, _⟩, rfl, ⟨own_le ?_ (Nat.le_add_right w.heap.size 2), own_le ?_ (Nat.le_add_right w.heap.size 2), own_le ?_ (Nat.le_add_right w.heap.size 2), own_le ?_ (Nat.le_add_right w.heap.size 2), own_le ?_ (Nat.le_add_right w.heap.size 2)⟩, below10 ((hb2.out _ _).trans (hbb.mono (by omega))) (Nat.le_add_right w.heap.size 1) _ _ _ _ _ _ _ _ _ _⟩
  all_goals
    dsimp only
    iterate 10 refine own_setOther ?_ (Nat.lt_succ_self _) _
  · exact hoo.d
  · exact hoo.f
  · exact hoo.r
  · exact hoo.o
  · exact hoo.p
theorem isEmpty_len {α : Type} (l : List α) : l.isEmpty = ((l.length : Int) == 0) := by
  cases l with
  | nil => rfl
  | cons x l => 
    rw [Bool.eq_iff_iff]
    simp
    omega
theorem noneT_eq (s : St) : noneT s = (!s.attach && ((s.damage.length : Int) == 0) && ((s.frames.length : Int) == 0) && !s.input && !s.ordered && ((s.places.length : Int) == 0)) := by
  unfold noneT
  rw [isEmpty_len, isEmpty_len, isEmpty_len]
set_option maxRecDepth 100000 in
set_option maxHeartbeats 2000000 in
theorem none_any (w : World) (v : StV) (s : St) (h : StRd w v s) : Calls Tryz.prog 110 #[stVal s v] w fun e w' => e = .returned (.bool (noneT s)) ∧ Below w.heap.size w w' := by
  obtain ⟨A1, c1, A2, c2, A3, c3, A4, c4, A5, c5, rfl⟩ := h.forms
  rw [noneT_eq]
  unfold stVal
  dsimp only
  have hb : ∀ o, Below w.heap.size w (w.alloc o) := fun o => (Below.refl _ w).alloc (Nat.le_refl _) o
  replace hb := hide hb
  clear h
  generalize s.attach = sa
  generalize s.buffer = sb
  generalize s.damage.length = sd
  generalize s.frames.length = sf
  generalize s.input = si
  generalize s.all = sl
  generalize s.region.length = sr
  generalize s.ordered = so
  generalize s.order.length = sq
  generalize s.places.length = sp
  cases sa
  · cases h1 : ((sd : Int) == 0)
    · go_enter Tryz.func110, Tryz.ntmps110
      go_wp2
      go_ret
      exact ⟨rfl, hb.out _⟩
    · cases h2 : ((sf : Int) == 0)
      · go_enter Tryz.func110, Tryz.ntmps110
        go_wp2
        go_ret
        exact ⟨rfl, hb.out _⟩
      · cases si
        · cases so
          · cases h3 : ((sp : Int) == 0)
            all_goals
              go_enter Tryz.func110, Tryz.ntmps110
              go_wp2
              go_ret
              exact ⟨rfl, hb.out _⟩
          · go_enter Tryz.func110, Tryz.ntmps110
            go_wp2
            go_ret
            exact ⟨rfl, hb.out _⟩
        · go_enter Tryz.func110, Tryz.ntmps110
          go_wp2
          go_ret
          exact ⟨rfl, hb.out _⟩
  · go_enter Tryz.func110, Tryz.ntmps110
    go_wp2
    go_ret
    exact ⟨rfl, hb.out _⟩

set_option maxRecDepth 100000 in
set_option maxHeartbeats 4000000 in
theorem apply_any (w : World) (va vb : StV) (a b : St) (ha : StRd w va a) (hb : StRd w vb b) (hf : MergeFits a b) : Calls Tryz.prog 109 #[stVal a va, stVal b vb] w (BigP w (applyT a b)) := by
  obtain ⟨A1, c1, A2, c2, A3, c3, A4, c4, A5, c5, rfl⟩ := ha.forms
  obtain ⟨B1, d1, B2, d2, B3, d3, B4, d4, B5, d5, rfl⟩ := hb.forms
  unfold stVal
  dsimp only
  have hb3 : ∀ o o' o'', Below w.heap.size w (((w.alloc o).alloc o').alloc o'') := fun o o' o'' => (((Below.refl _ w).alloc (Nat.le_refl _) o).alloc (by simp) o').alloc (by simp; omega) o''
  have cM := hide (fun o o' o'' => merge_any (((w.alloc o).alloc o').alloc o'') _ _ a b (ha.below (hb3 o o' o'') (Nat.le_refl _)) (hb.below (hb3 o o' o'') (Nat.le_refl _)) hf)
  unfold stVal at cM
  dsimp only at cM
  have hR := fun o o' o'' => heap_alloc_new ((w.alloc o).alloc o') o''
  simp only [World.size_alloc] at hR
  replace hb3 := hide hb3
  replace hR := hide hR
  obtain ⟨S, hS⟩ : ∃ S, S = mergeT a b := ⟨_, rfl⟩
  have hA : applyT a b = { S with attach := false, damage := [], input := false, ordered := false } := by rw [hS]; rfl
  rw [← hS] at cM
  rw [hA]
  clear ha hb hf hS hA
  go_enter Tryz.func109, Tryz.ntmps109
  go_wp2_with fail
  refine (cM.out _ _ _).mono ?_
  rintro e w1 ⟨v1, rfl, o1, b1⟩
  have h4 := hide ((b1.block (w.heap.size + 1 + 1) (by simp)).trans (hR.out _ _ _))
  obtain ⟨r0, r1, r2, r3, r4, r5, r6, r7, r8, r9⟩ := cells10 h4.out
  have g0 := frozen_of_row _ _ 0 _ _ h4.out
  have g1 := frozen_of_row _ _ 1 _ _ h4.out
  have g2 := frozen_of_row _ _ 2 _ _ h4.out
  have g3 := frozen_of_row _ _ 3 _ _ h4.out
  have g4 := frozen_of_row _ _ 4 _ _ h4.out
  have g5 := frozen_of_row _ _ 5 _ _ h4.out
  have g6 := frozen_of_row _ _ 6 _ _ h4.out
  have g7 := frozen_of_row _ _ 7 _ _ h4.out
  have g8 := frozen_of_row _ _ 8 _ _ h4.out
  have g9 := frozen_of_row _ _ 9 _ _ h4.out
  obtain ⟨E1, e1, E2, e2, E3, e3, E4, e4, E5, e5, rfl⟩ := o1.forms
  have hz := b1.size
  simp only [World.size_alloc] at hz
  have hne : w.heap.size + 1 + 1 < w1.heap.size := by omega
  replace o1 := hide o1
  replace b1 := hide b1
  unfold stVal
  dsimp only
  have hRR := hide (set10 h4.out (.bool false) (.int .i64 S.buffer) (.slice none 0 0) (.slice E2 S.frames.length e2) (.bool false) (.bool S.all) (.slice E3 S.region.length e3) (.bool false) (.slice E4 S.order.length e4) (.slice E5 S.places.length e5))
  go_wp2
  try simp only [Exit.inBlock, Exit.then]
  refine bodyPost_ret (results_cell_row rfl _ _ (w.heap.size + 2) 41 #[.bool false, .int .i64 S.buffer, .slice none 0 0, .slice E2 S.frames.length e2, .bool false, .bool S.all, .slice E3 S.region.length e3, .bool false, .slice E4 S.order.length e4, .slice E5 S.places.length e5] (0, 0) _ rfl ((Below.heap_alloc _ _ _ (lt_of_block hRR.out)).trans hRR.out) Tryz.underlying41 rfl (by kernel_rfl)) rfl ?_
  have hbb := b1.out
  have hoo := o1.out
  simp only [World.size_alloc] at hbb hoo
  refine ⟨⟨_, _, _, _, _⟩, rfl, ⟨World.ownsRow_nil _ _ _ _, ?_, ?_, ?_, ?_⟩, Below.alloc (below10 ((hb3.out _ _ _).trans (hbb.mono (by omega))) (Nat.le_add_right w.heap.size 2) _ _ _ _ _ _ _ _ _ _) ?_ _⟩
  iterate 4
    refine World.ownsRow.alloc ?_ _
    refine own_le ?_ (Nat.le_add_right w.heap.size 3)
    iterate 10 refine own_setOther ?_ (Nat.lt_succ_self _) _
    first
      | exact hoo.f
      | exact hoo.r
      | exact hoo.o
      | exact hoo.p
  simp [World.setCell]
  omega
end Go.Proofs.YthkjicnnepkghaaGreatDoor
namespace Go.Proofs.YthkjicnnepkghaaGreatDoor
open Go.RowKit
set_option linter.unusedSectionVars false
set_option linter.unusedVariables false

def RowOk (w w' : World) (sz : Nat) (v' : Value) (n' : Nat) (cs' : List Value) (v : Value) (n : Nat) (cs : List Value) : Prop :=
  (v' = v ∧ n' = n ∧ cs' = cs) ∨ (Rd w' v' sz n' cs' ∧ BlkIn (fun b => w.heap.size ≤ b) v' n')
structure StOk (w w' : World) (v' : StV) (s' : St) (v : StV) (s : St) : Prop where
  d : RowOk w w' 4 v'.d s'.damage.length (s'.damage.flatMap R4.enc) v.d s.damage.length (s.damage.flatMap R4.enc)
  f : RowOk w w' 1 v'.f s'.frames.length (s'.frames.map (Value.int .i64)) v.f s.frames.length (s.frames.map (Value.int .i64))
  r : RowOk w w' 4 v'.r s'.region.length (s'.region.flatMap R4.enc) v.r s.region.length (s.region.flatMap R4.enc)
  o : RowOk w w' 1 v'.o s'.order.length (s'.order.map (Value.int .i64)) v.o s.order.length (s.order.map (Value.int .i64))
  p : RowOk w w' 3 v'.p s'.places.length (s'.places.flatMap Ch.enc) v.p s.places.length (s.places.flatMap Ch.enc)

section
variable {w w' : World}
theorem RowOk.same {sz n : Nat} {v : Value} {cs : List Value} : RowOk w w' sz v n cs v n cs := .inl ⟨rfl, rfl, rfl⟩
theorem RowOk.nil {sz n : Nat} {v : Value} {cs : List Value} : RowOk w w' sz (.slice none 0 0) 0 [] v n cs := .inr ⟨Rd.nil _ _, BlkIn.nil _ _⟩
theorem RowOk.own {base sz n n' : Nat} {e : TypeId} {v v' : Value} {cs cs' : List Value} (h : w'.ownsRow base e sz v' n' cs') (hb : w.heap.size ≤ base) : RowOk w w' sz v' n' cs' v n cs :=
  .inr ⟨Rd.of_own h, fun _ b hb' => Nat.le_trans hb (h.lt b hb').1⟩
theorem StOk.same {v : StV} {s : St} : StOk w w' v s v s := ⟨.same, .same, .same, .same, .same⟩
theorem StOk.zero {v : StV} {s : St} : StOk w w' StV.nil St.zero v s := ⟨.nil, .nil, .nil, .nil, .nil⟩
theorem StOk.own {base : Nat} {v v' : StV} {s s' : St} (h : StOwn w' base v' s') (hb : w.heap.size ≤ base) : StOk w w' v' s' v s :=
  ⟨.own h.d hb, .own h.f hb, .own h.r hb, .own h.o hb, .own h.p hb⟩

theorem RowOk.rd {sz n n' : Nat} {v v' : Value} {cs cs' : List Value} (h : RowOk w w' sz v' n' cs' v n cs) {G : Nat → Prop} (hr : Rd w v sz n cs) (hi : BlkIn G v n) (hz : w.heap.size ≤ w'.heap.size) (hk : ∀ b, G b → b < w.heap.size → w'.heap[b]? = w.heap[b]?) :
    Rd w' v' sz n' cs' ∧ BlkIn (fun b => G b ∨ (w.heap.size ≤ b ∧ b < w'.heap.size)) v' n' := by
  rcases h with ⟨rfl, rfl, rfl⟩ | ⟨h1, h2⟩
  · exact ⟨hr.keepIn hi hz hk, hi.mono fun b hb => .inl hb⟩
  · exact ⟨h1, fun hn b hb => .inr ⟨h2 hn b hb, h1.inSize hn b hb⟩⟩
theorem StOk.rd {v v' : StV} {s s' : St} (h : StOk w w' v' s' v s) {G : Nat → Prop} (hr : StRd w v s) (hi : StIn G v s) (hz : w.heap.size ≤ w'.heap.size) (hk : ∀ b, G b → b < w.heap.size → w'.heap[b]? = w.heap[b]?) :
    StRd w' v' s' ∧ StIn (fun b => G b ∨ (w.heap.size ≤ b ∧ b < w'.heap.size)) v' s' := by
  obtain ⟨d1, d2⟩ := h.d.rd hr.d hi.d hz hk
  obtain ⟨f1, f2⟩ := h.f.rd hr.f hi.f hz hk
  obtain ⟨r1, r2⟩ := h.r.rd hr.r hi.r hz hk
  obtain ⟨o1, o2⟩ := h.o.rd hr.o hi.o hz hk
  obtain ⟨p1, p2⟩ := h.p.rd hr.p hi.p hz hk
  exact ⟨⟨d1, f1, r1, o1, p1⟩, ⟨d2, f2, r2, o2, p2⟩⟩

def grownG (w w' : World) (G : Nat → Prop) : Nat → Prop := fun b => G b ∨ (w.heap.size ≤ b ∧ b < w'.heap.size)
theorem SurfAt.froz {id : Int} {t t' : Sf} {z z' : SfV} (h : SurfAt w id t z) (hc : Chg (fun b => b = z.a) w w') (ha : z'.a = z.a) (hG : z'.G = grownG w w' z.G) (hblk : w'.heap[z.a]? = some (.cells (sfCells id t' z') 97 (0, 0)))
    (hd : (z'.pe.d = z.pe.d ∧ t'.pe.damage = t.pe.damage) ∨ (z'.pe.d = .slice none 0 0 ∧ t'.pe.damage = [])) (hf : (z'.pe.f = z.pe.f ∧ t'.pe.frames = t.pe.frames) ∨ (z'.pe.f = .slice none 0 0 ∧ t'.pe.frames = []))
    (hr : RowOk w w' 4 z'.pe.r t'.pe.region.length (t'.pe.region.flatMap R4.enc) z.pe.r t.pe.region.length (t.pe.region.flatMap R4.enc))
    (ho : RowOk w w' 1 z'.pe.o t'.pe.order.length (t'.pe.order.map (Value.int .i64)) z.pe.o t.pe.order.length (t.pe.order.map (Value.int .i64)))
    (hp : RowOk w w' 3 z'.pe.p t'.pe.places.length (t'.pe.places.flatMap Ch.enc) z.pe.p t.pe.places.length (t.pe.places.flatMap Ch.enc))
    (hca : StOk w w' z'.ca t'.ca z.ca t.ca) (hcu : StOk w w' z'.cu t'.cu z.cu t.cu) :
    SurfAt w' id t' z' ∧ (∀ b, z'.F b → z.F b ∨ w.heap.size ≤ b) := by
  have hk : ∀ b, b ≠ z.a → b < w.heap.size → w'.heap[b]? = w.heap[b]? := fun b hb hlt => hc.block b hlt hb
  have hkG : ∀ b, z.G b → b < w.heap.size → w'.heap[b]? = w.heap[b]? := fun b hb hlt => hk b (fun e => h.aG (e ▸ hb)) hlt
  have hz := hc.size
  obtain ⟨r1, r2⟩ := hr.rd h.peR h.peRi hz hkG
  obtain ⟨o1, o2⟩ := ho.rd h.peO h.peOi hz hkG
  obtain ⟨p1, p2⟩ := hp.rd h.peP h.pePi hz hkG
  obtain ⟨ca1, ca2⟩ := hca.rd h.ca h.caI hz hkG
  obtain ⟨cu1, cu2⟩ := hcu.rd h.cu h.cuI hz hkG
  have hdO : w'.ownsRow 0 30 4 z'.pe.d t'.pe.damage.length (t'.pe.damage.flatMap R4.enc) ∧ ∀ b, z'.pe.d.ownBlock = some b → z.pe.d.ownBlock = some b := by
    rcases hd with ⟨e1, e2⟩ | ⟨e1, e2⟩
    · rw [e1, e2]
      exact ⟨own_keepF h.dOwn fun b hb => hk b (h.d_ne hb).1 (h.lt b (.inr (.inl hb))), fun b hb => hb⟩
    · rw [e1, e2]
      exact ⟨World.ownsRow_nil _ _ _ _, fun b hb => by cases hb⟩
  have hfO : w'.ownsRow 0 3 1 z'.pe.f t'.pe.frames.length (t'.pe.frames.map (Value.int .i64)) ∧ ∀ b, z'.pe.f.ownBlock = some b → z.pe.f.ownBlock = some b := by
    rcases hf with ⟨e1, e2⟩ | ⟨e1, e2⟩
    · rw [e1, e2]
      exact ⟨own_keepF h.fOwn fun b hb => hk b (h.f_ne hb) (h.lt b (.inr (.inr (.inl hb)))), fun b hb => hb⟩
    · rw [e1, e2]
      exact ⟨World.ownsRow_nil _ _ _ _, fun b hb => by cases hb⟩
  have hlt : ∀ b, z'.F b → b < w'.heap.size := fun b hb => by
    rcases hb with rfl | hb | hb | hb
    · rw [ha]; exact Nat.lt_of_lt_of_le (h.lt _ (.inl rfl)) hz
    · exact Nat.lt_of_lt_of_le (h.lt b (.inr (.inl (hdO.2 b hb)))) hz
    · exact Nat.lt_of_lt_of_le (h.lt b (.inr (.inr (.inl (hfO.2 b hb))))) hz
    · rw [hG] at hb
      rcases hb with hb | hb
      · exact Nat.lt_of_lt_of_le (h.lt b (.inr (.inr (.inr hb)))) hz
      · exact hb.2
  refine ⟨⟨by rw [ha]; exact hblk, hdO.1, hfO.1, r1, o1, p1, ca1, cu1, by rw [hG]; exact r2, by rw [hG]; exact o2, by rw [hG]; exact p2, by rw [hG]; exact ca2, by rw [hG]; exact cu2, ?_, ?_, ?_, hlt, h.id64⟩, ?_⟩
  · rw [hG, ha]
    rintro (hb | hb)
    · exact h.aG hb
    · have := h.lt z.a (.inl rfl); omega
  · intro b hb
    rw [hG]
    rintro (hb2 | hb2)
    · exact h.dG b (hdO.2 b hb) hb2
    · have := h.lt b (.inr (.inl (hdO.2 b hb))); omega
  · intro b hb
    rw [hG]
    rintro (hb2 | hb2)
    · exact h.fG b (hfO.2 b hb) hb2
    · have := h.lt b (.inr (.inr (.inl (hfO.2 b hb)))); omega
  · intro b hb
    rcases hb with rfl | hb | hb | hb
    · exact .inl (.inl ha)
    · exact .inl (.inr (.inl (hdO.2 b hb)))
    · exact .inl (.inr (.inr (.inl (hfO.2 b hb))))
    · rw [hG] at hb
      rcases hb with hb | hb
      · exact .inl (.inr (.inr (.inr hb)))
      · exact .inr hb.1

theorem SurfAt.more {id : Int} {t t' : Sf} {z z' : SfV} (h : SurfAt w id t z) (hc : Chg (fun b => b = z.a ∨ z.pe.d.ownBlock = some b ∨ z.pe.f.ownBlock = some b) w w') (ha : z'.a = z.a) (hG : z'.G = z.G) (hblk : w'.heap[z.a]? = some (.cells (sfCells id t' z') 97 (0, 0)))
    (hdO : w'.ownsRow 0 30 4 z'.pe.d t'.pe.damage.length (t'.pe.damage.flatMap R4.enc)) (hd : ∀ b, z'.pe.d.ownBlock = some b → z.pe.d.ownBlock = some b ∨ w.heap.size ≤ b)
    (hfO : w'.ownsRow 0 3 1 z'.pe.f t'.pe.frames.length (t'.pe.frames.map (Value.int .i64))) (hf : ∀ b, z'.pe.f.ownBlock = some b → z.pe.f.ownBlock = some b ∨ w.heap.size ≤ b)
    (hpe : z'.pe.r = z.pe.r ∧ z'.pe.o = z.pe.o ∧ z'.pe.p = z.pe.p ∧ t'.pe.region = t.pe.region ∧ t'.pe.order = t.pe.order ∧ t'.pe.places = t.pe.places)
    (hca : z'.ca = z.ca ∧ t'.ca = t.ca) (hcu : z'.cu = z.cu ∧ t'.cu = t.cu) :
    SurfAt w' id t' z' ∧ (∀ b, z'.F b → z.F b ∨ w.heap.size ≤ b) := by
  have hkG : ∀ b, z.G b → b < w.heap.size → w'.heap[b]? = w.heap[b]? := fun b hb hlt => hc.block b hlt fun e => by
    rcases e with rfl | e | e
    · exact h.aG hb
    · exact h.dG b e hb
    · exact h.fG b e hb
  have hz := hc.size
  obtain ⟨e1, e2, e3, e4, e5, e6⟩ := hpe
  have hltd : ∀ b, z'.pe.d.ownBlock = some b → b < w'.heap.size := fun b hb => (hdO.lt b hb).2
  have hltf : ∀ b, z'.pe.f.ownBlock = some b → b < w'.heap.size := fun b hb => (hfO.lt b hb).2
  refine ⟨⟨by rw [ha]; exact hblk, hdO, hfO, ?_, ?_, ?_, ?_, ?_, ?_, ?_, ?_, ?_, ?_, ?_, ?_, ?_, ?_, h.id64⟩, ?_⟩
  · rw [e1, e4]; exact h.peR.keepIn h.peRi hz hkG
  · rw [e2, e5]; exact h.peO.keepIn h.peOi hz hkG
  · rw [e3, e6]; exact h.peP.keepIn h.pePi hz hkG
  · rw [hca.1, hca.2]; exact h.ca.keep h.caI hz hkG
  · rw [hcu.1, hcu.2]; exact h.cu.keep h.cuI hz hkG
  · rw [hG, e1, e4]; exact h.peRi
  · rw [hG, e2, e5]; exact h.peOi
  · rw [hG, e3, e6]; exact h.pePi
  · rw [hG, hca.1, hca.2]; exact h.caI
  · rw [hG, hcu.1, hcu.2]; exact h.cuI
  · rw [hG, ha]; exact h.aG
  · intro b hb
    rw [hG]
    intro hb2
    rcases hd b hb with e | e
    · exact h.dG b e hb2
    · have := h.lt b (.inr (.inr (.inr hb2))); omega
  · intro b hb
    rw [hG]
    intro hb2
    rcases hf b hb with e | e
    · exact h.fG b e hb2
    · have := h.lt b (.inr (.inr (.inr hb2))); omega
  · intro b hb
    rcases hb with rfl | hb | hb | hb
    · rw [ha]; exact Nat.lt_of_lt_of_le (h.lt _ (.inl rfl)) hz
    · exact hltd b hb
    · exact hltf b hb
    · rw [hG] at hb; exact Nat.lt_of_lt_of_le (h.lt b (.inr (.inr (.inr hb)))) hz
  · intro b hb
    rcases hb with rfl | hb | hb | hb
    · exact .inl (.inl ha)
    · exact (hd b hb).imp (fun e => .inr (.inl e)) (fun e => e)
    · exact (hf b hb).imp (fun e => .inr (.inr (.inl e))) (fun e => e)
    · rw [hG] at hb; exact .inl (.inr (.inr (.inr hb)))
end

theorem Tryz.zeroSurfP (w : World) : (zeroValue 95).run Tryz.prog w = .ok (.pointer none) w := by kernel_rfl
section
variable {w : World} {p mb n : Nat} {F : Nat → Prop} {Z : Int → Option SfV} {M : Fo}
theorem ForZ.look (h : ForZ w p mb F n Z M) {id : Int} (hid : I64 id) : (Instr.lookup 77 (.map (some mb)) (.int .i64 id) false).run Tryz.prog w = .ok (((Z id).map SfV.ptr).getD (.pointer none)) w :=
  h.map.look Tryz.underlying3 Tryz.underlying77 (Tryz.zeroSurfP w) hid
theorem ForZ.look_some (h : ForZ w p mb F n Z M) {id : Int} (hid : I64 id) {z : SfV} (hz : Z id = some z) : (Instr.lookup 77 (.map (some mb)) (.int .i64 id) false).run Tryz.prog w = .ok (.pointer (some ⟨z.a, 0, none⟩)) w := by
  rw [h.look hid, hz]; rfl
theorem ForZ.look_none (h : ForZ w p mb F n Z M) {id : Int} (hid : I64 id) (hz : Z id = none) : (Instr.lookup 77 (.map (some mb)) (.int .i64 id) false).run Tryz.prog w = .ok (.pointer none) w := by
  rw [h.look hid, hz]; rfl
theorem ForZ.cellP (h : ForZ w p mb F n Z M) : w.cell? ⟨p, 0, none⟩ = some (.map (some mb)) := cell_of_one h.cell
theorem ForZ.drewN (h : ForZ w p mb F n Z M) (q : Nat) : ForZ (w.drewN q) p mb F n Z M := h.below (below_drewN (Below.refl _ _) q)
theorem SurfAt.cell {id : Int} {t : Sf} {z : SfV} (h : SurfAt w id t z) (k : Nat) : w.cell? ⟨z.a, k, none⟩ = (sfCells id t z)[k]? := cell_of_row w z.a k _ _ _ h.blk
theorem SurfAt.free {id : Int} {t : Sf} {z : SfV} (h : SurfAt w id t z) (k : Nat) : w.frozen? ⟨z.a, k, none⟩ = false := frozen_of_row w z.a k _ _ h.blk
end
end Go.Proofs.YthkjicnnepkghaaGreatDoor
namespace Go.Proofs.YthkjicnnepkghaaGreatDoor
open Go.RowKit
set_option linter.unusedVariables false

theorem fNew_any (w : World) : Calls Tryz.prog 8 #[] w fun e w' => ∃ p F, e = .returned (.pointer (some ⟨p, 0, none⟩)) ∧ ForAt w' p F 0 (fun _ => none) ∧ Below w.heap.size w w' ∧ ∀ b, F b → w.heap.size ≤ b := by
  have hmm := @run_makeMap Tryz.prog
  go_enter Tryz.func8, Tryz.ntmps8
  go_wp2
  go_ret
  have h1 : ((w.alloc (.map #[] 0)).alloc (.cells #[.map (some w.heap.size)] 79)).heap[w.heap.size + 1]? = some (.cells #[.map (some w.heap.size)] 79 (0, 0)) := heap_alloc2_new _ _ _
  refine ⟨w.heap.size + 1, fun b => b = w.heap.size ∨ b = w.heap.size + 1, rfl, ⟨w.heap.size, fun _ => none, ⟨h1, (MapAt.made w Tryz.prog 3).kept (World.grownBy_alloc _ _ none) (by simp), .inr rfl, .inl rfl, by simp, by simp, by simp, by simp, by simp, ?_⟩⟩, ((Below.refl _ _).alloc (Nat.le_refl _) _).alloc (by simp) _, ?_⟩
  · intro b hb
    simp
    omega
  · intro b hb
    omega

section
variable {p mb n : Nat} {F : Nat → Prop} {Z : Int → Option SfV} {M : Fo}
set_option maxRecDepth 100000 in
theorem fHas_any (w : World) (h : ForZ w p mb F n Z M) (id : Int) (hid : I64 id) :
    Calls Tryz.prog 76 #[.pointer (some ⟨p, 0, none⟩), .int .i64 id] w fun e w' => e = .returned (.bool (M id).isSome) ∧ w = w' := by
  have hc := h.cellP
  cases hs : M id with
  | none =>
    have hl := h.look_none hid (h.zNone hs)
    clear h hs
    go_enter Tryz.func76, Tryz.ntmps76
    go_wp2
    go_ret
    exact ⟨rfl, rfl⟩
  | some t =>
    obtain ⟨z, hz, _⟩ := h.find hs
    have hl := h.look_some hid hz
    clear h hs hz
    go_enter Tryz.func76, Tryz.ntmps76
    go_wp2
    go_ret
    exact ⟨rfl, rfl⟩

set_option maxRecDepth 100000 in
theorem fParent_any (w : World) (h : ForZ w p mb F n Z M) (id : Int) (hid : I64 id) :
    Calls Tryz.prog 77 #[.pointer (some ⟨p, 0, none⟩), .int .i64 id] w fun e w' => e = .returned (.int .i64 (parM M id)) ∧ w = w' := by
  have hc := h.cellP
  cases hs : M id with
  | none =>
    have hl := h.look_none hid (h.zNone hs)
    have e : parM M id = 0 := by simp [parM, hs]
    rw [e]
    clear h hs e
    go_enter Tryz.func77, Tryz.ntmps77
    go_wp2
    go_ret
    exact ⟨rfl, rfl⟩
  | some t =>
    obtain ⟨z, hz, ht⟩ := h.find hs
    have hl := h.look_some hid hz
    have c1 : w.cell? ⟨z.a, 1, none⟩ = some (.int .i64 t.parent) := ht.cell 1
    rw [parM_some hs]
    clear h hs hz ht
    go_enter Tryz.func77, Tryz.ntmps77
    go_wp2
    go_ret
    exact ⟨rfl, rfl⟩

def latV (t : Sf) (z : SfV) : Value := if t.pe.ordered then z.pe.o else if t.ca.ordered then z.ca.o else z.cu.o
theorem latV_rd {w : World} {id : Int} {t : Sf} {z : SfV} (h : SurfAt w id t z) : Rd w (latV t z) 1 t.latest.length (t.latest.map (Value.int .i64)) := by
  unfold latV Sf.latest
  cases t.pe.ordered
  · cases t.ca.ordered
    · exact h.cu.o
    · exact h.ca.o
  · exact h.peO
set_option maxRecDepth 100000 in
theorem sLatest_any (w : World) {id : Int} {t : Sf} {z : SfV} (h : SurfAt w id t z) :
    Calls Tryz.prog 93 #[.pointer (some ⟨z.a, 0, none⟩)] w fun e w' => e = .returned (latV t z) ∧ w = w' := by
  have c10 : w.cell? ⟨z.a, 10, none⟩ = some (.bool t.pe.ordered) := h.cell 10
  have c11 : w.cell? ⟨z.a, 11, none⟩ = some z.pe.o := h.cell 11
  have c20 : w.cell? ⟨z.a, 20, none⟩ = some (.bool t.ca.ordered) := h.cell 20
  have c21 : w.cell? ⟨z.a, 21, none⟩ = some z.ca.o := h.cell 21
  have c31 : w.cell? ⟨z.a, 31, none⟩ = some z.cu.o := h.cell 31
  clear h
  unfold latV
  generalize t.pe.ordered = x at c10 ⊢
  generalize t.ca.ordered = y at c20 ⊢
  cases x
  · cases y
    all_goals
      go_enter Tryz.func93, Tryz.ntmps93
      go_wp2
      go_ret
      exact ⟨rfl, rfl⟩
  · go_enter Tryz.func93, Tryz.ntmps93
    go_wp2
    go_ret
    exact ⟨rfl, rfl⟩

set_option maxRecDepth 100000 in
theorem sOrder_any (w : World) {id : Int} {t : Sf} {z : SfV} (h : SurfAt w id t z) (A : Option Addr) (l c : Nat) :
    Calls Tryz.prog 91 #[.pointer (some ⟨z.a, 0, none⟩), .slice A l c] w fun e w' => e = .returned (.tuple #[]) ∧ (w.setCell ⟨z.a, 10, none⟩ (.bool true)).setCell ⟨z.a, 11, none⟩ (.slice A l c) = w' := by
  have c10 : w.cell? ⟨z.a, 10, none⟩ = some (.bool t.pe.ordered) := h.cell 10
  obtain ⟨Ao, co, ho, _⟩ := h.peO.form
  have c11 : w.cell? ⟨z.a, 11, none⟩ = some z.pe.o := h.cell 11
  have f10 := h.free 10
  have f11 := h.free 11
  clear h
  go_enter Tryz.func91, Tryz.ntmps91
  go_wp2
  go_end0
  exact ⟨rfl, rfl⟩

def childV (Z : Int → Option SfV) (M : Fo) (id : Int) : Value × Value := match M id with
  | none => (.pointer none, .pointer none)
  | some t => if t.parent = 0 then (.pointer none, .pointer none) else (((Z id).map SfV.ptr).getD (.pointer none), ((Z t.parent).map SfV.ptr).getD (.pointer none))
set_option maxRecDepth 100000 in
set_option maxHeartbeats 1000000 in
theorem fChild_any {B : Nat} (w : World) {ae : Nat → Addr} (hE : ErrF B w ae) (h : ForZ w p mb F n Z M) (hG : GoodM M) (id : Int) (hid : I64 id) :
    Calls Tryz.prog 65 #[.pointer (some ⟨p, 0, none⟩), .int .i64 id] w fun e w' => e = .returned (.tuple #[(childV Z M id).1, (childV Z M id).2, errV ae (childK M id)]) ∧ ∃ q, w' = w.drewN q := by
  have hc := h.cellP
  have g4 : w.cell? ⟨4, 0, none⟩ = _ := hE.glob 4 (by decide)
  have g9 : w.cell? ⟨9, 0, none⟩ = _ := hE.glob 9 (by decide)
  cases hs : M id with
  | none =>
    have hl := h.look_none hid (h.zNone hs)
    have e1 : childK M id = 5 := by simp [childK, hs]
    have e2 : childV Z M id = (.pointer none, .pointer none) := by simp [childV, hs]
    rw [e1, e2]
    clear h hs e1 e2 g9
    go_enter Tryz.func65, Tryz.ntmps65
    go_wp2
    go_quiet (fail)
    all_goals
      go_wp2
      go_ret3
      exact ⟨rfl, _, rfl⟩
  | some t =>
    obtain ⟨z, hz, ht⟩ := h.find hs
    have hl := h.look_some hid hz
    have c1 : w.cell? ⟨z.a, 1, none⟩ = some (.int .i64 t.parent) := ht.cell 1
    by_cases hp : t.parent = 0
    · have e1 : childK M id = 10 := by simp [childK, hs, hp]
      have e2 : childV Z M id = (.pointer none, .pointer none) := by simp [childV, hs, hp]
      rw [e1, e2]
      rw [hp] at c1
      clear h hs e1 e2 g4 hz ht hp
      go_enter Tryz.func65, Tryz.ntmps65
      go_wp2
      go_quiet (fail)
      all_goals
        go_wp2
        go_ret3
        exact ⟨rfl, _, rfl⟩
    · have hpp := hG.par_pos hs hp
      obtain ⟨t2, ht2⟩ := hG.par id t hs hp
      obtain ⟨z2, hz2, ht2'⟩ := h.find ht2
      have hl2 := fun q => (h.drewN q).look_some hpp.2 hz2
      have e1 : childK M id = 0 := by simp [childK, hs, hp]
      have e2 : childV Z M id = (.pointer (some ⟨z.a, 0, none⟩), .pointer (some ⟨z2.a, 0, none⟩)) := by simp [childV, hs, hp, hz, hz2, SfV.ptr]
      have hq : (t.parent == 0) = false := by simpa using hp
      rw [e1, e2]
      generalize t.parent = tp at *
      clear h hs e1 e2 g4 g9 hz ht hp hpp ht2 ht2' hz2 hG
      go_enter Tryz.func65, Tryz.ntmps65
      go_wp2
      go_quiet (fail)
      all_goals
        go_wp2
        go_ret3
        exact ⟨rfl, _, rfl⟩
end
end Go.Proofs.YthkjicnnepkghaaGreatDoor
namespace Go.Proofs.YthkjicnnepkghaaGreatDoor
open Go.RowKit
set_option linter.unusedVariables false

section
variable {p mb n : Nat} {F : Nat → Prop} {Z : Int → Option SfV} {M : Fo}
theorem ForZ.turnOut {w w' : World} {id : Int} {t' : Sf} {z z' : SfV} (h : ForZ w p mb F n Z M) (hz : Z id = some z) (hc : Chg z.F w w') (ha : z'.a = z.a) (hs' : SurfAt w' id t' z' ∧ (∀ b, z'.F b → z.F b ∨ w.heap.size ≤ b)) :
    FOut w p n F (setM M id (some t')) w' :=
  ⟨_, ⟨mb, _, (h.turn hz hc ha hs'.1 hs'.2).mono (Nat.le_succ n)⟩, hc.mono (fun b _ hb => h.inF id z hz b hb), fun b hb => by
    rcases hb with hb | hb
    · exact .inl hb
    · rcases hs'.2 b hb with h1 | h1
      · exact .inl (h.inF id z hz b h1)
      · exact .inr h1⟩
theorem ForZ.out {w : World} (h : ForZ w p mb F n Z M) : ForAt w p F n M := ⟨mb, Z, h⟩

set_option maxRecDepth 100000 in
theorem turn_attach_none {B : Nat} (w : World) {ae : Nat → Addr} (hE : ErrF B w ae) (h : ForZ w p mb F n Z M) (id : Int) (hid : I64 id) (caps : Array Value) (hs : M id = none) :
    Calls Tryz.prog 61 #[.pointer (some ⟨p, 0, none⟩), .int .i64 id, .func (.func 62) #[] caps] w fun e w' => e = .returned (errV ae 5) ∧ w = w' := by
  have hc := h.cellP
  have g4 : w.cell? ⟨4, 0, none⟩ = _ := hE.glob 4 (by decide)
  have hl := h.look_none hid (h.zNone hs)
  clear h hs
  go_enter Tryz.func61, Tryz.ntmps61
  go_wp2
  go_ret
  exact ⟨rfl, rfl⟩
set_option maxRecDepth 100000 in
theorem turn_attach_some (w : World) (h : ForZ w p mb F n Z M) (id : Int) (hid : I64 id) (b : Value) {z : SfV} (hz : Z id = some z) {R : World → Prop}
    (hcall : Calls Tryz.prog 62 #[.pointer (some ⟨z.a, 3, none⟩), b] w fun e w' => e = .returned (.tuple #[]) ∧ R w') :
    Calls Tryz.prog 61 #[.pointer (some ⟨p, 0, none⟩), .int .i64 id, .func (.func 62) #[] #[b]] w fun e w' => e = .returned .nilIface ∧ R w' := by
  have hc := h.cellP
  have hl := h.look_some hid hz
  replace hcall := hide hcall
  clear h hz
  go_enter Tryz.func61, Tryz.ntmps61
  go_wp2_with fail
  refine hcall.out.mono ?_
  rintro e w' ⟨rfl, hR⟩
  replace hR := hide hR
  go_wp2
  go_ret
  exact ⟨rfl, hR.out⟩
set_option maxRecDepth 100000 in
theorem turn_frame_none {B : Nat} (w : World) {ae : Nat → Addr} (hE : ErrF B w ae) (h : ForZ w p mb F n Z M) (id : Int) (hid : I64 id) (caps : Array Value) (hs : M id = none) :
    Calls Tryz.prog 61 #[.pointer (some ⟨p, 0, none⟩), .int .i64 id, .func (.func 64) #[] caps] w fun e w' => e = .returned (errV ae 5) ∧ w = w' := by
  have hc := h.cellP
  have g4 : w.cell? ⟨4, 0, none⟩ = _ := hE.glob 4 (by decide)
  have hl := h.look_none hid (h.zNone hs)
  clear h hs
  go_enter Tryz.func61, Tryz.ntmps61
  go_wp2
  go_ret
  exact ⟨rfl, rfl⟩
set_option maxRecDepth 100000 in
theorem turn_frame_some (w : World) (h : ForZ w p mb F n Z M) (id : Int) (hid : I64 id) (b : Value) {z : SfV} (hz : Z id = some z) {R : World → Prop}
    (hcall : Calls Tryz.prog 64 #[.pointer (some ⟨z.a, 3, none⟩), b] w fun e w' => e = .returned (.tuple #[]) ∧ R w') :
    Calls Tryz.prog 61 #[.pointer (some ⟨p, 0, none⟩), .int .i64 id, .func (.func 64) #[] #[b]] w fun e w' => e = .returned .nilIface ∧ R w' := by
  have hc := h.cellP
  have hl := h.look_some hid hz
  replace hcall := hide hcall
  clear h hz
  go_enter Tryz.func61, Tryz.ntmps61
  go_wp2_with fail
  refine hcall.out.mono ?_
  rintro e w' ⟨rfl, hR⟩
  replace hR := hide hR
  go_wp2
  go_ret
  exact ⟨rfl, hR.out⟩

set_option maxRecDepth 100000 in
theorem attach1_any (w : World) {id : Int} {t : Sf} {z : SfV} (h : SurfAt w id t z) (cb : Nat) (b : Int) (hb : w.cell? ⟨cb, 0, none⟩ = some (.int .i64 b)) (hne : cb ≠ z.a) :
    Calls Tryz.prog 62 #[.pointer (some ⟨z.a, 3, none⟩), .pointer (some ⟨cb, 0, none⟩)] w fun e w' => e = .returned (.tuple #[]) ∧ w' = ((w.setCell ⟨z.a, 3, none⟩ (.bool true)).setCell ⟨z.a, 4, none⟩ (.int .i64 b)).drew := by
  have c3 : w.cell? ⟨z.a, 3, none⟩ = some (.bool t.pe.attach) := h.cell 3
  have c4 : w.cell? ⟨z.a, 4, none⟩ = some (.int .i64 t.pe.buffer) := h.cell 4
  have f3 := h.free 3
  have f4 := h.free 4
  have s1 : ∀ k u, (w.setCell ⟨z.a, k, none⟩ u).cell? ⟨cb, 0, none⟩ = some (.int .i64 b) := fun k u => (World.cell?_setCell_other _ _ _ _ (fun e => hne (congrArg Addr.block e).symm)).trans hb
  have s2 : ∀ k u k' u', ((w.setCell ⟨z.a, k, none⟩ u).setCell ⟨z.a, k', none⟩ u').cell? ⟨cb, 0, none⟩ = some (.int .i64 b) := fun k u k' u' => (World.cell?_setCell_other _ _ _ _ (fun e => hne (congrArg Addr.block e).symm)).trans (s1 k u)
  clear h
  go_enter Tryz.func62, Tryz.ntmps62
  go_wp2
  go_region_held3 (fun w' => w'.cell? ⟨cb, 0, none⟩ = some (.int .i64 b)) (first | go_keep | exact s1 _ _ | exact s2 _ _ _ _) (fail)
  all_goals
    go_wp2
    go_end0
    exact ⟨rfl, rfl⟩

theorem chg1 (w : World) (a k : Nat) (u : Value) {F : Nat → Prop} (hF : F a) : Chg F w (w.setCell ⟨a, k, none⟩ u) := Chg.setCell w (a := ⟨a, k, none⟩) hF u
theorem chg2 (w : World) (a k k' : Nat) (u u' : Value) {F : Nat → Prop} (hF : F a) : Chg F w ((w.setCell ⟨a, k, none⟩ u).setCell ⟨a, k', none⟩ u') :=
  (chg1 w a k u hF).trans (chg1 _ a k' u' hF) (Ext.refl _ _)
theorem chg1e (w : World) (a k : Nat) (u : Value) : Chg (fun b => b = a) w (w.setCell ⟨a, k, none⟩ u) := chg1 w a k u rfl
theorem chg2e (w : World) (a k k' : Nat) (u u' : Value) : Chg (fun b => b = a) w ((w.setCell ⟨a, k, none⟩ u).setCell ⟨a, k', none⟩ u') := chg2 w a k k' u u' rfl
theorem set_cells {w : World} {id : Int} {t : Sf} {z : SfV} (h : SurfAt w id t z) (k : Nat) (u : Value) {t' : Sf} {z' : SfV} (e : (sfCells id t z).setIfInBounds k u = sfCells id t' z') : (w.setCell ⟨z.a, k, none⟩ u).heap[z.a]? = some (.cells (sfCells id t' z') 97 (0, 0)) := by
  rw [← e]; exact heap_setCell_same w z.a k _ _ u h.blk
theorem set_cells2 {w : World} {id : Int} {t : Sf} {z : SfV} (hb : w.heap[z.a]? = some (.cells (sfCells id t z) 97 (0, 0))) (k k' : Nat) (u u' : Value) {t' : Sf} {z' : SfV} (e : ((sfCells id t z).setIfInBounds k u).setIfInBounds k' u' = sfCells id t' z') :
    ((w.setCell ⟨z.a, k, none⟩ u).setCell ⟨z.a, k', none⟩ u').heap[z.a]? = some (.cells (sfCells id t' z') 97 (0, 0)) := by
  rw [← e]; exact heap_setCell_same _ z.a k' _ _ u' (heap_setCell_same w z.a k _ _ u hb)

set_option maxRecDepth 100000 in
theorem fAttach_any {B : Nat} (w : World) {ae : Nat → Addr} (hE : ErrF B w ae) (h : ForZ w p mb F n Z M) (id b : Int) (hid : I64 id) :
    Calls Tryz.prog 15 #[.pointer (some ⟨p, 0, none⟩), .int .i64 id, .int .i64 b] w fun e w' => e = .returned (errV ae (thereK M id)) ∧ FOut w p n F (turnS M id (attachT b)) w' := by
  have hE1 := fun o => hE.alloc o
  have hB : ∀ o, Below w.heap.size w (w.alloc o) := fun o => (Below.refl _ w).alloc (Nat.le_refl _) o
  have h1 := fun o => h.below (hB o)
  cases hs : M id with
  | none =>
    have e1 : thereK M id = 5 := by simp [thereK, hs]
    have e2 : turnS M id (attachT b) = M := by simp [turnS, hs]
    rw [e1, e2]
    have cT := hide (fun o caps => turn_attach_none (w.alloc o) (hE1 o) (h1 o) id hid caps hs)
    have hout := hide (fun o => h.out.stayB (hB o))
    clear h h1 hE hE1 e1 e2 hs hB
    go_enter Tryz.func15, Tryz.ntmps15
    go_wp2_with fail
    refine (cT.out _ _).mono ?_
    rintro e w' ⟨rfl, rfl⟩
    go_wp2
    go_ret
    exact ⟨rfl, hout.out _⟩
  | some t =>
    obtain ⟨z, hz, ht⟩ := h.find hs
    have e1 : thereK M id = 0 := by simp [thereK, hs]
    have e2 : turnS M id (attachT b) = setM M id (some { t with pe := attachT b t.pe }) := by simp [turnS, hs]
    rw [e1, e2]
    have hlt := ht.lt z.a (.inl rfl)
    have hcc := cell_one_new w (.int .i64 b) 3 0 _ rfl
    rw [addr_add] at hcc
    have cA := attach1_any (w.alloc (.cells #[.int .i64 b] 3)) ((h1 _).surf id z t hz hs) w.heap.size b hcc (by omega)
    have cT := hide (turn_attach_some (w.alloc (.cells #[.int .i64 b] 3)) (h1 _) id hid (.pointer (some ⟨w.heap.size, 0, none⟩)) hz cA)
    have hh := hide h
    have hz' := hide hz
    have hs' := hide hs
    have ht' := hide ht
    clear h h1 hE hE1 e1 e2 hs hB hz ht cA hcc
    go_enter Tryz.func15, Tryz.ntmps15
    go_wp2_with fail
    refine cT.out.mono ?_
    rintro e w' ⟨rfl, rfl⟩
    go_wp2
    go_ret
    refine ⟨rfl, hh.out.turnOut (z' := { z with G := grownG w _ z.G }) hz'.out ?_ rfl (ht'.out.froz ?_ rfl rfl ?_ (.inl ⟨rfl, rfl⟩) (.inl ⟨rfl, rfl⟩) .same .same .same .same .same)⟩
    · exact ((chg2 w z.a 3 4 _ _ (.inl rfl)).alloc _).drewN 1
    · exact ((chg2e w z.a 3 4 _ _).alloc _).drewN 1
    · exact (Below.heap_alloc _ _ _ (by simpa [World.setCell] using hlt)).trans (set_cells2 (t := t) ht'.out.blk 3 4 _ _ rfl)

set_option maxRecDepth 100000 in
theorem fSync_any {B : Nat} (w : World) {ae : Nat → Addr} (hE : ErrF B w ae) (h : ForZ w p mb F n Z M) (hG : GoodM M) (id : Int) (on : Bool) (hid : I64 id) :
    Calls Tryz.prog 106 #[.pointer (some ⟨p, 0, none⟩), .int .i64 id, .bool on] w fun e w' => e = .returned (errV ae (childK M id)) ∧ FOut w p n F (fsyncS M id on) w' := by
  have cC := fChild_any w hE h hG id hid
  cases hs : M id with
  | none =>
    have e1 : childK M id = 5 := by simp [childK, hs]
    have e2 : fsyncS M id on = M := by simp [fsyncS, hs]
    have e3 : childV Z M id = (.pointer none, .pointer none) := by simp [childV, hs]
    rw [e1, e3, show errV ae 5 = .iface 205 (.pointer (some (ae 4))) from rfl] at cC
    rw [e1, e2]
    have hout := hide (fun q => h.out.stayN q)
    replace cC := hide cC
    clear h hG hE hs e1 e2 e3
    go_enter Tryz.func106, Tryz.ntmps106
    go_wp2_with fail
    refine cC.out.mono ?_
    rintro e w' ⟨rfl, q, rfl⟩
    go_wp2
    go_ret
    exact ⟨rfl, hout.out _⟩
  | some t =>
    by_cases hp : t.parent = 0
    · have e1 : childK M id = 10 := by simp [childK, hs, hp]
      have e2 : fsyncS M id on = M := by unfold fsyncS; rw [hs]; dsimp only; rw [if_pos hp]
      have e3 : childV Z M id = (.pointer none, .pointer none) := by simp [childV, hs, hp]
      rw [e1, e3, show errV ae 10 = .iface 205 (.pointer (some (ae 9))) from rfl] at cC
      rw [e1, e2]
      have hout := hide (fun q => h.out.stayN q)
      replace cC := hide cC
      clear h hG hE hs e1 e2 e3 hp
      go_enter Tryz.func106, Tryz.ntmps106
      go_wp2_with fail
      refine cC.out.mono ?_
      rintro e w' ⟨rfl, q, rfl⟩
      go_wp2
      go_ret
      exact ⟨rfl, hout.out _⟩
    · obtain ⟨z, hz, ht⟩ := h.find hs
      obtain ⟨t2, ht2⟩ := hG.par id t hs hp
      obtain ⟨z2, hz2, _⟩ := h.find ht2
      have e1 : childK M id = 0 := by simp [childK, hs, hp]
      have e2 : fsyncS M id on = setM M id (some { t with sync := on }) := by unfold fsyncS; rw [hs]; dsimp only; rw [if_neg hp]
      have e3 : childV Z M id = (.pointer (some ⟨z.a, 0, none⟩), .pointer (some ⟨z2.a, 0, none⟩)) := by simp [childV, hs, hp, hz, hz2, SfV.ptr]
      rw [e1, e3, show errV ae 0 = .nilIface from rfl] at cC
      rw [e1, e2]
      replace cC := hide cC
      have c2 : w.cell? ⟨z.a, 2, none⟩ = some (.bool t.sync) := ht.cell 2
      have f2 := ht.free 2
      have hh := hide h
      have hz' := hide hz
      have ht' := hide ht
      clear h hG hE hs e1 e2 e3 hp hz ht hz2 ht2
      go_enter Tryz.func106, Tryz.ntmps106
      go_wp2_with fail
      refine cC.out.mono ?_
      rintro e w' ⟨rfl, q, rfl⟩
      go_wp2
      go_ret
      refine ⟨rfl, hh.out.turnOut (z' := { z with G := grownG w _ z.G }) hz'.out ?_ rfl (ht'.out.froz ?_ rfl rfl ?_ (.inl ⟨rfl, rfl⟩) (.inl ⟨rfl, rfl⟩) .same .same .same .same .same)⟩
      · exact (chg1 w z.a 2 _ (.inl rfl)).drewN q
      · exact (chg1e w z.a 2 _).drewN q
      · exact set_cells (t := t) ht'.out 2 _ rfl
end
end Go.Proofs.YthkjicnnepkghaaGreatDoor
namespace Go.Proofs.YthkjicnnepkghaaGreatDoor
open Go.RowKit
set_option linter.unusedVariables false

open Classical in
noncomputable def synB (M : Fo) (id : Int) : Bool := decide (Syn M id)
theorem Syn.some {M : Fo} {id : Int} (h : Syn M id) : ∃ s, M id = some s ∧ s.parent ≠ 0 ∧ (s.sync = true ∨ Syn M s.parent) := by
  cases h with
  | here h1 h2 h3 => exact ⟨_, h1, h2, .inl h3⟩
  | up h1 h2 h3 => exact ⟨_, h1, h2, .inr h3⟩
open Classical in
theorem synB_none {M : Fo} {id : Int} (h : M id = none) : synB M id = false := by
  unfold synB
  refine decide_eq_false fun hs => ?_
  obtain ⟨s, h1, _⟩ := hs.some
  rw [h] at h1; cases h1
open Classical in
theorem synB_top {M : Fo} {id : Int} {t : Sf} (h : M id = some t) (hp : t.parent = 0) : synB M id = false := by
  unfold synB
  refine decide_eq_false fun hs => ?_
  obtain ⟨s, h1, h2, _⟩ := hs.some
  rw [h] at h1; cases h1
  exact h2 hp
open Classical in
theorem synB_sync {M : Fo} {id : Int} {t : Sf} (h : M id = some t) (hp : t.parent ≠ 0) (hs : t.sync = true) : synB M id = true := by
  unfold synB
  exact decide_eq_true (.here h hp hs)
theorem synB_up {M : Fo} {id : Int} {t : Sf} (h : M id = some t) (hp : t.parent ≠ 0) (hs : t.sync = false) : synB M id = synB M t.parent := by
  unfold synB
  have : Syn M id ↔ Syn M t.parent := ⟨fun hy => by
    obtain ⟨s, h1, _, h3⟩ := hy.some
    rw [h] at h1; cases h1
    rcases h3 with h3 | h3
    · rw [hs] at h3; cases h3
    · exact h3, fun hy => .up h hp hy⟩
  simp [this]

section
variable {p mb n : Nat} {F : Nat → Prop} {Z : Int → Option SfV} {M : Fo}
set_option maxRecDepth 100000 in
set_option maxHeartbeats 1000000 in
theorem fSynced_any (w : World) (h : ForZ w p mb F n Z M) (hG : GoodM M) (id : Int) (hid : I64 id) :
    Calls Tryz.prog 78 #[.pointer (some ⟨p, 0, none⟩), .int .i64 id] w fun e w' => e = .returned (.bool (synB M id)) ∧ ∃ q, w' = w.drewN q := by
  obtain ⟨rk, B, hr⟩ := hG.rank
  have hc := h.cellP
  have hl := h.look hid
  have hh := hide h
  have hg := hide hG
  have hrr := hide hr
  obtain ⟨m, hm⟩ : ∃ m : Int → Nat, ∀ x, m x = if (M x).isSome then rk x + 1 else 0 := ⟨_, fun x => rfl⟩
  replace hm := hide hm
  obtain ⟨v0, hv0⟩ : ∃ v0, v0 = ((Z id).map SfV.ptr).getD (.pointer none) := ⟨_, rfl⟩
  rw [← hv0] at hl
  replace hv0 := hide hv0
  clear h hG hr
  go_enter Tryz.func78, Tryz.ntmps78
  go_wp2
  go_loopg [5] (m id) (fun k s wr => ∃ x : Int, Hid (synB M id = synB M x) ∧ s = ((Z x).map SfV.ptr).getD (.pointer none) ∧ k = m x ∧ I64 x ∧ ∃ q, wr = w.drewN q)
  case atStart => exact ⟨id, hide rfl, hv0.out, rfl, hid, 0, rfl⟩
  case round =>
    obtain ⟨x, hx, rfl, rfl, hxi, q, rfl⟩ := hrel
    cases hs : M x with
    | none =>
      have hn := synB_none hs
      rw [hh.out.zNone hs]
      simp only [Option.map_none, Option.getD_none]
      have hx2 := hide (hx.out.trans hn)
      clear hs hn hx
      go_wp2
      go_ret
      exact ⟨by rw [hx2.out] <;> rfl, _, rfl⟩
    | some t =>
      obtain ⟨z, hz, ht⟩ := hh.out.find hs
      rw [hz]
      simp only [Option.map_some, Option.getD_some, SfV.ptr]
      have c1 : w.cell? ⟨z.a, 1, none⟩ = some (.int .i64 t.parent) := ht.cell 1
      have c2 : w.cell? ⟨z.a, 2, none⟩ = some (.bool t.sync) := ht.cell 2
      have hpn := hg.out.par_nn hs
      by_cases hp : t.parent = 0
      · have hx2 := hide (hx.out.trans (synB_top hs hp))
        rw [hp] at c1
        clear hs hx hz ht hp hpn
        go_wp2
        go_ret
        exact ⟨by rw [hx2.out] <;> rfl, _, rfl⟩
      · have h0 : (0 : Int) < t.parent := by omega
        cases hy : t.sync with
        | true =>
          have hx2 := hide (hx.out.trans (synB_sync hs hp hy))
          rw [hy] at c2
          clear hs hx hz ht hp hpn hy
          go_wp2
          go_ret
          exact ⟨by rw [hx2.out] <;> rfl, _, rfl⟩
        | false =>
          have hx2 := hide (hx.out.trans (synB_up hs hp hy))
          rw [hy] at c2
          have hl2 := fun q => (hh.out.drewN q).look hpn.2
          have hlt := hide ((hrr.out _ _ hs).2 hp)
          have hmx := hide (hm.out x)
          rw [hs] at hmx
          have hmp := hide (hm.out t.parent)
          obtain ⟨v1, hv1⟩ : ∃ v1, v1 = ((Z t.parent).map SfV.ptr).getD (.pointer none) := ⟨_, rfl⟩
          rw [← hv1] at hl2
          replace hv1 := hide hv1
          have hi := hpn.2
          obtain ⟨tp, htp⟩ : ∃ tp, tp = t.parent := ⟨_, rfl⟩
          rw [← htp] at c1 h0 hl2 hv1 hx2 hlt hmp hi
          clear hs hx hz ht hp hpn hy hl htp
          go_wp2
          go_quiet (fail)
          go_wp2
          go_roundg (m tp)
          case measure =>
            have h1 := hlt.out
            have h2 := hmx.out
            have h3 := hmp.out
            simp only [Option.isSome_some, if_true] at h2
            rw [h2, h3]
            split <;> omega
          case rel => exact ⟨tp, hx2, hv1.out, rfl, hi, _, World.drewN_drewN ..⟩

theorem SurfAt.framed {w w1 : World} {id : Int} {t : Sf} {z : SfV} (h : SurfAt w id t z) (c : Int) {o : Obj} {g cap : Nat} (hg : (w.drew.alloc o).grownBy w1 z.pe.f.ownBlock)
    (hown : w1.ownsRow 0 3 1 (.slice (some ⟨g, 0, none⟩) (t.pe.frames.length + 1) cap) (t.pe.frames.length + 1) (t.pe.frames.map (Value.int .i64) ++ [.int .i64 c])) (hat : z.pe.f.ownBlock = some g ∨ w.heap.size ≤ g) :
    ∃ z', z'.a = z.a ∧ Chg z.F w (w1.setCell ⟨z.a, 6, none⟩ (.slice (some ⟨g, 0, none⟩) (t.pe.frames.length + 1) cap)) ∧ SurfAt (w1.setCell ⟨z.a, 6, none⟩ (.slice (some ⟨g, 0, none⟩) (t.pe.frames.length + 1) cap)) id { t with pe := frameT c t.pe } z' ∧ ∀ b, z'.F b → z.F b ∨ w.heap.size ≤ b := by
  have hlt := h.lt z.a (.inl rfl)
  have h2 : (w.drew.alloc o).heap[z.a]? = some (.cells (sfCells id t z) 97 (0, 0)) := (Below.heap_alloc w.drew o _ hlt).trans h.blk
  have hne : some z.a ≠ z.pe.f.ownBlock := fun e => h.f_ne e.symm rfl
  have hb1 : w1.heap[z.a]? = some (.cells (sfCells id t z) 97 (0, 0)) := (hg.block z.a (lt_of_block h2) hne).trans h2
  have hc1 : Chg (fun b => b = z.a ∨ z.pe.d.ownBlock = some b ∨ z.pe.f.ownBlock = some b) w w1 := ((Chg.refl _ w).drewN 1).alloc o |>.trans (Chg.grown hg (F := fun b => b = z.a ∨ z.pe.d.ownBlock = some b ∨ z.pe.f.ownBlock = some b) (fun b hb => .inr (.inr hb))) (Ext.refl _ _)
  have hc2 := hc1.trans (chg1 w1 z.a 6 (.slice (some ⟨g, 0, none⟩) (t.pe.frames.length + 1) cap) (F := fun b => b = z.a ∨ z.pe.d.ownBlock = some b ∨ z.pe.f.ownBlock = some b) (.inl rfl)) (Ext.refl _ _)
  have hgz : g ≠ z.a := by
    obtain ⟨cur, hcur⟩ := own_typeF hown rfl
    exact ne_of_typesF hcur hb1 (by simp)
  have hown2 : (w1.setCell ⟨z.a, 6, none⟩ (.slice (some ⟨g, 0, none⟩) (t.pe.frames.length + 1) cap)).ownsRow 0 3 1 (.slice (some ⟨g, 0, none⟩) (t.pe.frames.length + 1) cap) (t.pe.frames ++ [c]).length ((t.pe.frames ++ [c]).map (Value.int .i64)) := by
    have := own_keepF hown (w' := w1.setCell ⟨z.a, 6, none⟩ (.slice (some ⟨g, 0, none⟩) (t.pe.frames.length + 1) cap)) fun b hb => heap_setCell_other w1 _ b _ (by cases hb; exact hgz)
    simpa using this
  have hdk : (w1.setCell ⟨z.a, 6, none⟩ (.slice (some ⟨g, 0, none⟩) (t.pe.frames.length + 1) cap)).ownsRow 0 30 4 z.pe.d t.pe.damage.length (t.pe.damage.flatMap R4.enc) := by
    refine own_keepF h.dOwn fun b hb => ?_
    have hbl := h.lt b (.inr (.inl hb))
    have hdn := h.d_ne hb
    refine (heap_setCell_other w1 _ b _ hdn.1).trans ((hg.block b (by simp; exact Nat.lt_succ_of_lt hbl) (fun e => hdn.2 e.symm)).trans (Below.heap_alloc w.drew o b hbl))
  refine ⟨{ z with pe := { z.pe with f := .slice (some ⟨g, 0, none⟩) (t.pe.frames.length + 1) cap } }, rfl, hc2.mono (fun b _ hb => ?_), ?_⟩
  · rcases hb with hb | hb | hb
    · exact .inl hb
    · exact .inr (.inl hb)
    · exact .inr (.inr (.inl hb))
  · refine h.more hc2 rfl rfl ?_ hdk (fun b hb => .inl hb) hown2 (fun b hb => by cases hb; exact hat) ⟨rfl, rfl, rfl, rfl, rfl, rfl⟩ ⟨rfl, rfl⟩ ⟨rfl, rfl⟩
    rw [heap_setCell_same w1 z.a 6 _ _ _ hb1]; rfl

theorem Tryz.infoIntF : (Tryz.prog.info? 3).map (fun i => (i.zero, i.size, i.bytes)) = some (some (.int .i64 0), 1, 8) := by kernel_rfl
set_option maxRecDepth 100000 in
set_option maxHeartbeats 1000000 in
theorem frame1_any (w : World) {id : Int} {t : Sf} {z : SfV} (h : SurfAt w id t z) (cb : Nat) (c : Int) (hb : w.cell? ⟨cb, 0, none⟩ = some (.int .i64 c)) (hlen : t.pe.frames.length ≤ 100000) :
    Calls Tryz.prog 64 #[.pointer (some ⟨z.a, 3, none⟩), .pointer (some ⟨cb, 0, none⟩)] w fun e w' => e = .returned (.tuple #[]) ∧ ∃ z', z'.a = z.a ∧ Chg z.F w w' ∧ SurfAt w' id { t with pe := frameT c t.pe } z' ∧ ∀ b, z'.F b → z.F b ∨ w.heap.size ≤ b := by
  obtain ⟨i0, hi, hz0, hz1, hz2⟩ := info_parts Tryz.infoIntF
  have c6 : w.cell? ⟨z.a, 6, none⟩ = some z.pe.f := h.cell 6
  have f6 := h.free 6
  have hlt := h.lt z.a (.inl rfl)
  have hrow := h.fOwn
  have hblk := h.blk
  have hfn := hide (fun (o : Obj) (w1 : World) (hg : (w.drew.alloc o).grownBy w1 z.pe.f.ownBlock) => (hg.block z.a (by simp; exact Nat.lt_succ_of_lt hlt) (fun e => h.f_ne e.symm rfl)).trans ((Below.heap_alloc w.drew o _ hlt).trans hblk))
  have hout := hide (fun o g cap w1 hg hown hat => h.framed c (o := o) (w1 := w1) (g := g) (cap := cap) hg hown hat)
  obtain ⟨A1, c1, hf1, hcc⟩ := own_form hrow
  have hw6 : ∀ w1 : World, w1.heap[z.a]? = some (.cells (sfCells id t z) 97 (0, 0)) → w1.cell? ⟨z.a, 6, none⟩ = some z.pe.f ∧ w1.frozen? ⟨z.a, 6, none⟩ = false := fun w1 h1 => ⟨cell_of_row w1 z.a 6 _ _ _ h1, frozen_of_row w1 z.a 6 _ _ h1⟩
  replace hw6 := hide hw6
  obtain ⟨fl, hfl⟩ : ∃ fl, fl = t.pe.frames := ⟨_, rfl⟩
  rw [← hfl] at hrow hf1 hlen hcc hout
  rw [hf1] at c6 hrow hfn hout hw6
  have hca := fun o => (World.cell?_alloc_past (w := w) o z.a 6 hlt).trans c6
  have hrowd : w.drew.ownsRow 0 3 1 (.slice A1 fl.length c1) fl.length (fl.map (Value.int .i64)) := hrow
  replace hf1 := hide hf1
  replace hfl := hide hfl
  clear h hblk
  go_enter Tryz.func64, Tryz.ntmps64
  go_wp2
  go_region_law (first | (refine step_append_lies _ rfl _ _ 38 rfl 0 3 i0 (.int .i64 0) 1 8 Tryz.underlying38 hi hz0 hz1 hz2 rfl (by decide) _ _ _ (by simp [Act.eval]) (hrowd.alloc _) ⟨w.heap.size, 0, none⟩ 1 1 [.int .i64 c] (by simp [Act.eval]) rfl (cell_one_new _ _ _) (by intro u hu; simp at hu; subst hu; rfl) (by omega) (by unfold maxLen; omega) (by omega) (by omega) _ rfl ?_; intro g cap w1 hown hgrow hat hlt2; have k0 := hide (hfn.out _ _ hgrow); have k2 := (hw6.out w1 k0.out).1; have k3 := (hw6.out w1 k0.out).2))
  all_goals
    go_wp2
    go_end0
    have hf := hout.out _ _ _ _ hgrow hown (hat.imp (fun h => h) (fun h => by rw [h]; show w.heap.size ≤ (w.alloc _).heap.size; simp))
    exact ⟨rfl, hf⟩
end
end Go.Proofs.YthkjicnnepkghaaGreatDoor
namespace Go.Proofs.YthkjicnnepkghaaGreatDoor
open Go.RowKit

def putL (xs : List Int) (id by' : Int) (k : Nat) : List Int :=
  (without xs id).take ((Lib.idxOf (without xs id) by').toNat + k) ++ id :: (without xs id).drop ((Lib.idxOf (without xs id) by').toNat + k)

theorem putL_eq (xs : List Int) (id by' : Int) (k : Nat) : putL xs id by' k = (without xs id).take ((Lib.idxOf (without xs id) by').toNat + k) ++ id :: (without xs id).drop ((Lib.idxOf (without xs id) by').toNat + k) := rfl
theorem mem_without {xs : List Int} {id x : Int} : x ∈ without xs id ↔ x ∈ xs ∧ x ≠ id := by simp [without]
theorem without_lt {xs : List Int} {id : Int} (h : id ∈ xs) : (without xs id).length + 1 ≤ xs.length := by
  unfold without
  have h1 : (xs.filter (· != id)).length ≤ xs.length := List.length_filter_le _ _
  rcases Nat.lt_or_ge (xs.filter (· != id)).length xs.length with h2 | h2
  · omega
  · have h3 := List.length_filter_eq_length_iff.1 (show (xs.filter (· != id)).length = xs.length by omega) id h
    simp at h3
theorem idx_mem {xs : List Int} {d : Int} (h : d ∈ xs) : 0 ≤ Lib.idxOf xs d ∧ (Lib.idxOf xs d).toNat < xs.length := by
  rcases idx_cases xs d with ⟨_, h2⟩ | ⟨k, hk, h1, _⟩
  · exact absurd h h2
  · omega

theorem oHas_any (w : World) (v : Value) (xs : List Int) (id : Int) (hr : Rd w v 1 xs.length (xs.map (Value.int .i64))) (hlen : xs.length ≤ 1000000) :
    Calls Tryz.prog 153 #[v, .int .i64 id] w fun e w' => e = .returned (.bool (decide (id ∈ xs))) ∧ w = w' := by
  have hr0 := hr
  obtain ⟨_, A, c, rfl, hc, _⟩ := hr0
  go_enter Tryz.func153, Tryz.ntmps153
  go_wp2_with fail
  refine (containsInts w _ xs id hr hlen).mono ?_
  rintro e w1 ⟨rfl, rfl⟩
  go_wp2
  go_ret
  exact ⟨rfl, rfl⟩

set_option maxRecDepth 100000 in
theorem beside_bad {B : Nat} (w : World) {ae : Nat → Addr} (hE : ErrF B w ae) (v : Value) (xs : List Int) (id by' k : Int) (hr : Rd w v 1 xs.length (xs.map (Value.int .i64))) (hlen : xs.length ≤ 1000000) (hb : id ∉ xs ∨ by' ∉ xs ∨ id = by') :
    Calls Tryz.prog 119 #[v, .int .i64 id, .int .i64 by', .int .i64 k] w fun e w' => e = .returned (.tuple #[.slice none 0 0, errV ae 11]) ∧ ∃ q, w' = w.drewN q := by
  have g10 : w.cell? ⟨10, 0, none⟩ = _ := hE.glob 10 (by decide)
  have H1 := oHas_any w v xs id hr hlen
  have H2 := oHas_any w v xs by' hr hlen
  have hr0 := hr
  obtain ⟨_, A, c, rfl, hc, _⟩ := hr0
  clear hr
  by_cases h1 : id ∈ xs
  · rw [decide_eq_true h1] at H1
    by_cases h2 : by' ∈ xs
    · rw [decide_eq_true h2] at H2
      have h3 : id = by' := by rcases hb with h | h | h; exact absurd h1 h; exact absurd h2 h; exact h
      have H1 := hide H1
      have H2 := hide H2
      clear hb h1 h2
      subst h3
      go_enter Tryz.func119, Tryz.ntmps119
      go_wp2_with fail
      refine H1.out.mono ?_
      rintro e w1 ⟨rfl, rfl⟩
      go_wp2_with fail
      refine H2.out.mono ?_
      rintro e w1 ⟨rfl, rfl⟩
      go_wp2
      go_quiet (fail)
      go_wp2
      go_ret2
      exact ⟨rfl, _, rfl⟩
    · rw [decide_eq_false h2] at H2
      have H1 := hide H1
      have H2 := hide H2
      clear hb h1 h2
      go_enter Tryz.func119, Tryz.ntmps119
      go_wp2_with fail
      refine H1.out.mono ?_
      rintro e w1 ⟨rfl, rfl⟩
      go_wp2_with fail
      refine H2.out.mono ?_
      rintro e w1 ⟨rfl, rfl⟩
      go_wp2
      go_quiet (fail)
      go_wp2
      go_ret2
      exact ⟨rfl, _, rfl⟩
  · rw [decide_eq_false h1] at H1
    have H1 := hide H1
    clear hb h1 H2
    go_enter Tryz.func119, Tryz.ntmps119
    go_wp2_with fail
    refine H1.out.mono ?_
    rintro e w1 ⟨rfl, rfl⟩
    go_wp2
    go_quiet (fail)
    go_wp2
    go_ret2
    exact ⟨rfl, _, rfl⟩

set_option maxRecDepth 100000 in
theorem beside_ok (w : World) (v : Value) (xs : List Int) (id by' : Int) (k : Nat) (hr : Rd w v 1 xs.length (xs.map (Value.int .i64))) (hlen : xs.length ≤ 1000000) (h1 : id ∈ xs) (h2 : by' ∈ xs) (h3 : id ≠ by') (hk : k ≤ 1) :
    Calls Tryz.prog 119 #[v, .int .i64 id, .int .i64 by', .int .i64 ((1 - k : Nat) : Int)] w fun e w' => ∃ v', e = .returned (.tuple #[v', .nilIface]) ∧ w'.ownsRow w.heap.size 3 1 v' (putL xs id by' k).length ((putL xs id by' k).map (Value.int .i64)) ∧ Below w.heap.size w w' := by
  obtain ⟨q, hq, hq1⟩ : ∃ q : Int, q = ((1 - k : Nat) : Int) ∧ q = 1 - (k : Int) := ⟨_, rfl, by omega⟩
  rw [← hq]
  clear hq
  have H1 := oHas_any w v xs id hr hlen
  have H2 := oHas_any w v xs by' hr hlen
  have H3 := drop_at w v xs id hr hlen
  have hm : by' ∈ without xs id := mem_without.2 ⟨h2, fun e => h3 e.symm⟩
  obtain ⟨i1, i2⟩ := idx_mem hm
  have hlt := without_lt h1
  have hP := putL_eq xs id by' k
  have hr0 := hr
  obtain ⟨_, A, c, rfl, hc, _⟩ := hr0
  rw [decide_eq_true h1] at H1
  rw [decide_eq_true h2] at H2
  obtain ⟨n, hn⟩ : ∃ n, n = xs.length := ⟨_, rfl⟩
  rw [← hn] at H1 H2 H3 hc hlt hlen ⊢
  obtain ⟨R, hR⟩ : ∃ R, R = putL xs id by' k := ⟨_, rfl⟩
  rw [← hR] at hP ⊢
  clear hR hn hr
  obtain ⟨ys, hys⟩ : ∃ ys, ys = without xs id := ⟨_, rfl⟩
  rw [← hys] at H3 hm i1 i2 hlt hP
  clear hys h1 h2
  obtain ⟨i, hi⟩ : ∃ i : Nat, Lib.idxOf ys by' = (i : Int) := ⟨_, (Int.toNat_of_nonneg i1).symm⟩
  rw [hi] at hP i2
  have i2 : i < ys.length := by simpa using i2
  have hb3 : (id == by') = false := by simpa using h3
  clear i1 hm
  simp only [Int.toNat_natCast] at hP
  have H1 := hide H1
  have H2 := hide H2
  have H3 := hide H3
  have Hi := hide hi
  have HP := hide hP
  clear hi hP
  go_enter Tryz.func119, Tryz.ntmps119
  go_wp2_with fail
  refine H1.out.mono ?_
  rintro e w1 ⟨rfl, rfl⟩
  go_wp2_with fail
  refine H2.out.mono ?_
  rintro e w1 ⟨rfl, rfl⟩
  go_wp2_with fail
  refine H3.out.mono ?_
  rintro e w1 ⟨rfl, P, hB⟩
  have hgs : w.heap.size < w1.heap.size := by obtain ⟨cur, _, h, _⟩ := P.ex; exact lt_of_block h
  have hown := P.own (base := w.heap.size) (Nat.le_refl _) (by omega) (by unfold maxLen; omega)
  have HI := indexInts w1 _ ys by' (Rd.of_own hown) (by omega)
  rw [Hi.out] at HI
  have HI := hide HI
  have P0 := hide P
  clear hown P
  go_wp2_with fail
  refine HI.out.mono ?_
  rintro e w2 ⟨rfl, rfl⟩
  have P1 : Part (w1.alloc (.cells #[.int .i64 id] 3)) w.heap.size n ys := by
    obtain ⟨cur, a1, a2, a3⟩ := P0.out.ex
    exact ⟨cur, a1, (Below.heap_alloc _ _ _ hgs).trans a2, a3⟩
  have HN := insertInts (w1.alloc (.cells #[.int .i64 id] 3)) w.heap.size n ys id (i + k) w1.heap.size P1 (by omega) hlt hlen (by omega) (heap_alloc_new _ _)
  have HN := hide HN
  clear P1 P0
  go_wp2_with fail
  rw [show (i : Int) + 1 - (1 - (k : Int)) = ((i + k : Nat) : Int) by omega]
  refine HN.out.mono ?_
  rintro e w3 ⟨rfl, P3, hB3⟩
  rw [← HP.out] at P3
  have hRl : R.length = ys.length + 1 := by rw [HP.out]; simp; omega
  have hown := P3.own (base := w.heap.size) (Nat.le_refl _) (by omega) (by unfold maxLen; omega)
  rw [hRl] at hown
  have hown := hide hown
  have hB4 := (hB.alloc hB.size (.cells #[.int .i64 id] 3)).trans hB3
  clear P3 hB3
  go_wp2
  go_ret2
  exact ⟨_, rfl, by rw [hRl]; exact hown.out, hB4⟩

set_option maxRecDepth 100000 in
theorem above_bad {B : Nat} (w : World) {ae : Nat → Addr} (hE : ErrF B w ae) (v : Value) (xs : List Int) (id by' : Int) (hr : Rd w v 1 xs.length (xs.map (Value.int .i64))) (hlen : xs.length ≤ 1000000) (hb : id ∉ xs ∨ by' ∉ xs ∨ id = by') :
    Calls Tryz.prog 69 #[v, .int .i64 id, .int .i64 by'] w fun e w' => e = .returned (.tuple #[.slice none 0 0, errV ae 11]) ∧ ∃ q, w' = w.drewN q := by
  have H := hide (beside_bad w hE v xs id by' 0 hr hlen hb)
  obtain ⟨_, A, c, rfl, hc, _⟩ := hr
  go_enter Tryz.func69, Tryz.ntmps69
  go_wp2_with fail
  refine H.out.mono ?_
  rintro e w1 ⟨rfl, q, rfl⟩
  have g10 : (w.drewN q).cell? ⟨10, 0, none⟩ = _ := (hE.drewN q).glob 10 (by decide)
  have HS := hide (is_same (ae 10) (w.drewN q))
  go_wp2_with fail
  refine HS.out.mono ?_
  rintro e w1 ⟨rfl, rfl⟩
  go_wp2
  go_ret2
  exact ⟨rfl, _, rfl⟩

set_option maxRecDepth 100000 in
theorem above_ok {B : Nat} (w : World) {ae : Nat → Addr} (hE : ErrF B w ae) (hBs : B ≤ w.heap.size) (v : Value) (xs : List Int) (id by' : Int) (hr : Rd w v 1 xs.length (xs.map (Value.int .i64))) (hlen : xs.length ≤ 1000000) (h1 : id ∈ xs) (h2 : by' ∈ xs) (h3 : id ≠ by') :
    Calls Tryz.prog 69 #[v, .int .i64 id, .int .i64 by'] w fun e w' => ∃ v', e = .returned (.tuple #[v', .nilIface]) ∧ w'.ownsRow w.heap.size 3 1 v' (putL xs id by' 1).length ((putL xs id by' 1).map (Value.int .i64)) ∧ Below w.heap.size w w' := by
  have H := hide (beside_ok w v xs id by' 1 hr hlen h1 h2 h3 (by omega))
  obtain ⟨_, A, c, rfl, hc, _⟩ := hr
  go_enter Tryz.func69, Tryz.ntmps69
  go_wp2_with fail
  refine H.out.mono ?_
  rintro e w1 ⟨v1, rfl, hown, hB⟩
  have hE1 := hE.below (hB.mono hBs)
  have g10 : w1.cell? ⟨10, 0, none⟩ = _ := hE1.glob 10 (by decide)
  have HS := hide (is_nil (ae 10) w1)
  obtain ⟨A1, c1, rfl, hc1⟩ := own_form hown
  have hown := hide hown
  go_wp2_with fail
  refine HS.out.mono ?_
  rintro e w1 ⟨rfl, rfl⟩
  go_wp2
  go_ret2
  exact ⟨_, rfl, hown.out, hB⟩

theorem below_bad {B : Nat} (w : World) {ae : Nat → Addr} (hE : ErrF B w ae) (v : Value) (xs : List Int) (id by' : Int) (hr : Rd w v 1 xs.length (xs.map (Value.int .i64))) (hlen : xs.length ≤ 1000000) (hb : id ∉ xs ∨ by' ∉ xs ∨ id = by') :
    Calls Tryz.prog 70 #[v, .int .i64 id, .int .i64 by'] w fun e w' => e = .returned (.tuple #[.slice none 0 0, errV ae 11]) ∧ ∃ q, w' = w.drewN q := by
  have H := hide (beside_bad w hE v xs id by' 1 hr hlen hb)
  obtain ⟨_, A, c, rfl, hc, _⟩ := hr
  go_enter Tryz.func70, Tryz.ntmps70
  go_wp2_with fail
  refine H.out.mono ?_
  rintro e w1 ⟨rfl, q, rfl⟩
  go_wp2
  go_ret2
  exact ⟨rfl, _, rfl⟩

theorem below_ok (w : World) (v : Value) (xs : List Int) (id by' : Int) (hr : Rd w v 1 xs.length (xs.map (Value.int .i64))) (hlen : xs.length ≤ 1000000) (h1 : id ∈ xs) (h2 : by' ∈ xs) (h3 : id ≠ by') :
    Calls Tryz.prog 70 #[v, .int .i64 id, .int .i64 by'] w fun e w' => ∃ v', e = .returned (.tuple #[v', .nilIface]) ∧ w'.ownsRow w.heap.size 3 1 v' (putL xs id by' 0).length ((putL xs id by' 0).map (Value.int .i64)) ∧ Below w.heap.size w w' := by
  have H := hide (beside_ok w v xs id by' 0 hr hlen h1 h2 h3 (by omega))
  obtain ⟨_, A, c, rfl, hc, _⟩ := hr
  go_enter Tryz.func70, Tryz.ntmps70
  go_wp2_with fail
  refine H.out.mono ?_
  rintro e w1 ⟨v1, rfl, hown, hB⟩
  obtain ⟨A1, c1, rfl, hc1⟩ := own_form hown
  have hown := hide hown
  go_wp2
  go_ret2
  exact ⟨_, rfl, hown.out, hB⟩
end Go.Proofs.YthkjicnnepkghaaGreatDoor
