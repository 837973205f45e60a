/-
  Layer 20's own answer: the seat; the same notes.
-/
import Derived.Test.YtfekldcpjoiipaaRef20
namespace Go.Proofs.Ytfekldcpjoiipaa
open Go.RowKit Go.Shelf
set_option linter.unusedVariables false

theorem hitB_core (h : Hit) (x y : Int) : hitB h.core x y = hitB h x y := rfl
theorem atH_map (L : List Hit) (x y : Int) : atH (L.map Hit.core) x y = atH L x y := by
  unfold atH
  rw [← List.map_reverse, List.find?_map]
  have e : ((fun h => hitB h x y) ∘ Hit.core) = fun h => hitB h x y := by funext h; rfl
  rw [e]
  cases List.find? (fun h => hitB h x y) L.reverse <;> rfl
theorem atH_core {L M : List Hit} (h : L.map Hit.core = M.map Hit.core) (x y : Int) : atH L x y = atH M x y := by
  rw [← atH_map L, h, atH_map]

theorem Try.infoNoteR : (Try.prog.info? 81).map (fun i => (i.zero, i.size, i.bytes)) = some (some (.agg #[.int .i64 0, .int .i64 0, .int .i64 0, .int .i64 0]), 4, 32) := by kernel_rfl

set_option maxRecDepth 100000 in
theorem rChange_any (w : World) (fr tg x y : Int) :
    Calls Try.prog 34 #[.int .i64 fr, .int .i64 tg, .int .i64 x, .int .i64 y] w fun e w' => ∃ v, e = .returned v ∧ w'.ownsRow w.heap.size 81 4 v (turnN fr tg x y).length ((turnN fr tg x y).flatMap Note.enc) ∧ Below w.heap.size w w' := by
  obtain ⟨i0, hi, hz0, hz1, hz2⟩ := info_partsN Try.infoNoteR
  have own0 : w.ownsRow w.heap.size 81 4 (.slice none 0 0) 0 [] := World.ownsRow_nil _ _ _ _
  have hB0 := Below.refl w.heap.size w
  by_cases hfr : fr = 0
  · by_cases hto : tg = 0
    · subst hfr hto
      go_enter Try.func34, Try.ntmps34
      go_wp2
      go_ret
      exact ⟨_, rfl, World.ownsRow_nil _ _ _ _, hB0⟩
    · subst hfr
      have hq : (tg == 0) = false := by simpa using hto
      have ht : turnN 0 tg x y = [⟨1, tg, x, y⟩] := by unfold turnN; simp [hto]
      rw [ht]
      clear hto ht
      go_enter Try.func34, Try.ntmps34
      go_wp2_with (at_builtin; refine wpList_append_own _ rfl _ _ 62 rfl w.heap.size 81 i0 _ 4 32 Try.underlying62 hi hz0 hz1 hz2 rfl (by decide) _ _ _ rfl ((own0).alloc _) ⟨w.heap.size, 0, none⟩ 1 1 [.int .i64 1, .int .i64 tg, .int .i64 x, .int .i64 y] rfl rfl (cells_newN _ _ _) (by intro u hu; simp at hu; rcases hu with rfl | rfl | rfl | rfl <;> rfl) (by unfold maxLen; omega) (by omega) (by have := hB0.size; simp <;> omega) ?_; intro v3 w3 o3 hg3 _; have hB3 := (hB0.alloc hB0.size _).grown hg3 (by have := hB0.size; simp <;> omega) (fun k hk => ((own0).lt k hk).1); obtain ⟨A3, c3, rfl, _⟩ := own_form o3)
      go_wp2
      go_ret
      exact ⟨_, rfl, by simpa [Note.enc] using o3, hB3⟩
  · have hq : (fr == 0) = false := by simpa using hfr
    by_cases hto : tg = 0
    · subst hto
      have ht : turnN fr 0 x y = [⟨2, fr, 0, 0⟩] := by unfold turnN; simp [hfr]
      rw [ht]
      clear hfr ht
      go_enter Try.func34, Try.ntmps34
      go_wp2_with (at_builtin; refine wpList_append_own _ rfl _ _ 62 rfl w.heap.size 81 i0 _ 4 32 Try.underlying62 hi hz0 hz1 hz2 rfl (by decide) _ _ _ rfl ((own0).alloc _) ⟨w.heap.size, 0, none⟩ 1 1 [.int .i64 2, .int .i64 fr, .int .i64 0, .int .i64 0] rfl rfl (cells_newN _ _ _) (by intro u hu; simp at hu; rcases hu with rfl | rfl | rfl | rfl <;> rfl) (by unfold maxLen; omega) (by omega) (by have := hB0.size; simp <;> omega) ?_; intro v3 w3 o3 hg3 _; have hB3 := (hB0.alloc hB0.size _).grown hg3 (by have := hB0.size; simp <;> omega) (fun k hk => ((own0).lt k hk).1); obtain ⟨A3, c3, rfl, _⟩ := own_form o3)
      go_wp2
      go_ret
      exact ⟨_, rfl, by simpa [Note.enc] using o3, hB3⟩
    · have hq2 : (tg == 0) = false := by simpa using hto
      have ht : turnN fr tg x y = [⟨2, fr, 0, 0⟩, ⟨1, tg, x, y⟩] := by unfold turnN; simp [hfr, hto]
      rw [ht]
      clear hfr hto ht
      go_enter Try.func34, Try.ntmps34
      go_upto_region 4 with (at_builtin; refine wpList_append_own _ rfl _ _ 62 rfl w.heap.size 81 i0 _ 4 32 Try.underlying62 hi hz0 hz1 hz2 rfl (by decide) _ _ _ rfl ((own0).alloc _) ⟨w.heap.size, 0, none⟩ 1 1 [.int .i64 2, .int .i64 fr, .int .i64 0, .int .i64 0] rfl rfl (cells_newN _ _ _) (by intro u hu; simp at hu; rcases hu with rfl | rfl | rfl | rfl <;> rfl) (by unfold maxLen; omega) (by omega) (by simp) ?_; intro v2 w2 o2 hg2 _; have hB2 := (hB0.alloc hB0.size _).grown hg2 (by simp) (fun k hk => ((own0).lt k hk).1); obtain ⟨A2, c2, rfl, _⟩ := own_form o2)
      clear hg2
      go_wp2_with (at_builtin; refine wpList_append_own _ rfl _ _ 62 rfl w.heap.size 81 i0 _ 4 32 Try.underlying62 hi hz0 hz1 hz2 rfl (by decide) _ _ _ rfl ((o2).alloc _) ⟨w2.heap.size, 0, none⟩ 1 1 [.int .i64 1, .int .i64 tg, .int .i64 x, .int .i64 y] rfl rfl (cells_newN _ _ _) (by intro u hu; simp at hu; rcases hu with rfl | rfl | rfl | rfl <;> rfl) (by unfold maxLen; omega) (by omega) (by have := hB2.size; simp <;> omega) ?_; intro v3 w3 o3 hg3 _; have hB3 := (hB2.alloc hB2.size _).grown hg3 (by have := hB2.size; simp <;> omega) (fun k hk => ((o2).lt k hk).1); obtain ⟨A3, c3, rfl, _⟩ := own_form o3)
      go_wp2
      go_ret
      exact ⟨_, rfl, by simpa [Note.enc] using o3, hB3⟩

/-- The reference's seat in memory. -/
def RefAt (w : World) (q : Nat) (x y k f : Int) : Prop := w.heap[q]? = some (.cells #[.int .i64 x, .int .i64 y, .int .i64 k, .int .i64 f] 58 (0, 0))
theorem RefAt.lt {w : World} {p : Nat} {x y k f : Int} (h : RefAt w p x y k f) : p < w.heap.size := lt_of_block h
theorem RefAt.below {w w' : World} {p : Nat} {x y k f : Int} (h : RefAt w p x y k f) (hb : Below w.heap.size w w') : RefAt w' p x y k f := (hb.block p h.lt).trans h
theorem RefAt.cells {w : World} {p : Nat} {x y k f : Int} (h : RefAt w p x y k f) :
    w.cell? ⟨p, 0, none⟩ = some (.int .i64 x) ∧ w.cell? ⟨p, 1, none⟩ = some (.int .i64 y) ∧ w.cell? ⟨p, 2, none⟩ = some (.int .i64 k) ∧ w.cell? ⟨p, 3, none⟩ = some (.int .i64 f) :=
  ⟨by rw [cell_of_row w p 0 _ _ _ h]; rfl, by rw [cell_of_row w p 1 _ _ _ h]; rfl, by rw [cell_of_row w p 2 _ _ _ h]; rfl, by rw [cell_of_row w p 3 _ _ _ h]; rfl⟩
/-- Notes that the reference's call has laid. -/
def RNotesOut (w : World) (p : Nat) (x y k f : Int) (N : List Note) (e : Ending) (w' : World) : Prop :=
  ∃ v, e = .returned v ∧ w'.ownsRow w.heap.size 81 4 v N.length (N.flatMap Note.enc) ∧ RefAt w' p x y k f ∧ Chg (fun b => b = p) w w'
theorem own_setCell {w : World} {base n sz p : Nat} {e : TypeId} {v : Value} {cs : List Value} {u : Value} (h : w.ownsRow base e sz v n cs) (hp : p < base) : (w.setCell ⟨p, 0, none⟩ u).ownsRow base e sz v n cs ∧ (w.setCell ⟨p, 1, none⟩ u).ownsRow base e sz v n cs ∧ (w.setCell ⟨p, 2, none⟩ u).ownsRow base e sz v n cs ∧ (w.setCell ⟨p, 3, none⟩ u).ownsRow base e sz v n cs := by
  have key : ∀ o, (w.setCell ⟨p, o, none⟩ u).ownsRow base e sz v n cs := fun o => by
    refine ⟨h.1, ?_⟩
    rcases h.2 with h2 | ⟨g, cap, cur, rfl, hb, hgg, r⟩
    · exact .inl h2
    · exact .inr ⟨g, cap, cur, rfl, hb, (Below.heap_setCell w ⟨p, o, none⟩ u g (by show g ≠ p; omega)).trans hgg, r⟩
  exact ⟨key 0, key 1, key 2, key 3⟩

set_option maxRecDepth 100000 in
theorem rKeys_any (w : World) (p : Nat) (x y k f s : Int) (h : RefAt w p x y k f) :
    Calls Try.prog 21 #[.pointer (some ⟨p, 0, none⟩), .int .i64 s] w (RNotesOut w p x y k s (if s = f then [] else turnN f s 0 0)) := by
  obtain ⟨c0, c1, c2, c3⟩ := h.cells
  by_cases hs : s = f
  · subst hs
    rw [if_pos rfl]
    replace h := hide h
    go_enter Try.func21, Try.ntmps21
    go_wp2
    go_ret
    exact ⟨_, rfl, World.ownsRow_nil _ _ _ _, h.out, Chg.refl _ _⟩
  · rw [if_neg hs]
    have hq : (s == f) = false := by simpa using hs
    have cT := hide (rChange_any w f s 0 0)
    have hfr := frozen_of_row w p 3 _ _ h
    have H := hide h
    have hlt := h.lt
    clear h c0 c1 c2 hs
    go_enter Try.func21, Try.ntmps21
    go_wp2_with (go_at_call 34; refine cT.out.mono ?_; rintro e w2 ⟨v, rfl, o2, hB⟩; have hfr2 := (hB.frozen (p := ⟨p, 3, none⟩) hlt).trans hfr; have k3 := (hB.cell (p := ⟨p, 3, none⟩) hlt).trans c3)
    go_ret
    exact ⟨_, rfl, (own_setCell o2 hlt).2.2.2, heap_setCell_same _ _ _ _ _ _ (H.out.below hB), (Chg.of_below hB (fun b => b = p)).trans (Chg.setCell (F := fun b => b = p) _ rfl _) (Ext.refl _ _)⟩

set_option maxRecDepth 100000 in
theorem rGone_any (w : World) (p : Nat) (x y k f s : Int) (h : RefAt w p x y k f) :
    Calls Try.prog 22 #[.pointer (some ⟨p, 0, none⟩), .int .i64 s] w fun e w' => (∃ v, e = .returned v) ∧ RefAt w' p x y (if k = s then 0 else k) (if f = s then 0 else f) ∧ Chg (fun b => b = p) w w' := by
  obtain ⟨c0, c1, c2, c3⟩ := h.cells
  have f2 := frozen_of_row w p 2 _ _ h
  have f3 := frozen_of_row w p 3 _ _ h
  have H := hide h
  clear h
  by_cases h1 : k = s
  · by_cases h2 : f = s
    · subst h1 h2
      rw [if_pos rfl]
      go_enter Try.func22, Try.ntmps22
      go_wp2
      go_end0
      exact ⟨⟨_, rfl⟩, heap_setCell_same _ _ _ _ _ _ (heap_setCell_same _ _ _ _ _ _ H.out), (Chg.setCell (F := fun b => b = p) w rfl _).trans (Chg.setCell (F := fun b => b = p) _ rfl _) (Ext.refl _ _)⟩
    · have hq : (f == s) = false := by simpa using h2
      subst h1
      rw [if_pos rfl, if_neg h2]
      clear h2
      go_enter Try.func22, Try.ntmps22
      go_wp2
      go_end0
      exact ⟨⟨_, rfl⟩, heap_setCell_same _ _ _ _ _ _ H.out, Chg.setCell (F := fun b => b = p) w rfl _⟩
  · have hq : (k == s) = false := by simpa using h1
    rw [if_neg h1]
    by_cases h2 : f = s
    · subst h2
      rw [if_pos rfl]
      clear h1
      go_enter Try.func22, Try.ntmps22
      go_wp2
      go_end0
      exact ⟨⟨_, rfl⟩, heap_setCell_same _ _ _ _ _ _ H.out, Chg.setCell (F := fun b => b = p) w rfl _⟩
    · have hq2 : (f == s) = false := by simpa using h2
      rw [if_neg h2]
      clear h1 h2
      go_enter Try.func22, Try.ntmps22
      go_wp2
      go_end0
      exact ⟨⟨_, rfl⟩, H.out, Chg.refl _ _⟩

def refN (mo : Bool) (L : List Hit) (x y k : Int) : List Note := if (atH L x y).1 = k then (if k = 0 ∨ mo = false then [] else [⟨3, k, (atH L x y).2.1, (atH L x y).2.2⟩]) else turnN k (atH L x y).1 (atH L x y).2.1 (atH L x y).2.2
theorem refN_move (L : List Hit) (x y k : Int) : refN true L x y k = moveN L x y k := by unfold refN moveN; simp
theorem refN_look (L : List Hit) (x y k : Int) : refN false L x y k = lookN L x y k := by unfold refN lookN; simp
theorem notes_core {L M : List Hit} (h : L.map Hit.core = M.map Hit.core) (x y k : Int) : moveN L x y k = moveN M x y k ∧ lookN L x y k = lookN M x y k := by
  unfold moveN lookN
  rw [atH_core h]
  exact ⟨rfl, rfl⟩

set_option maxRecDepth 100000 in
set_option maxHeartbeats 1000000 in
theorem rLook_any (w : World) (p : Nat) (x y k f : Int) (v : Value) (L : List Hit) (mo : Bool) (h : RefAt w p x y k f) (hL : RdH w v L) (hg : ∀ h ∈ L, h.good) (hx : I64 x) (hy : I64 y) (hl : L.length ≤ 1000000) :
    Calls Try.prog 20 #[.pointer (some ⟨p, 0, none⟩), v, .bool mo] w (RNotesOut w p x y (atH L x y).1 f (refN mo L x y k)) := by
  have cA := fun m => rAt_any (w.drewN m) v L x y (hL.below (below_drewN (Below.refl _ w) m) (Nat.le_refl _)) hg hx hy hl
  unfold refN
  generalize (atH L x y).1 = id at cA ⊢
  generalize (atH L x y).2.1 = ax at cA ⊢
  generalize (atH L x y).2.2 = ay at cA ⊢
  obtain ⟨c0, c1, c2, c3⟩ := h.cells
  have f2 := frozen_of_row w p 2 _ _ h
  have hd := h.below (below_drewN (Below.refl _ w) 1)
  replace cA := hide cA
  have hBd : Below w.heap.size w w.drew := below_drewN (Below.refl _ w) 1
  have H := hide hd
  have HB := hide hBd
  clear hd hBd h hL hg
  by_cases hik : id = k
  · subst hik
    rw [if_pos rfl]
    by_cases hk0 : id = 0
    · subst hk0
      rw [if_pos (.inl rfl)]
      go_enter Try.func20, Try.ntmps20
      go_wp2
      go_region_held3 (fun w' => w'.cell? ⟨p, 0, none⟩ = some (.int .i64 x) ∧ w'.cell? ⟨p, 1, none⟩ = some (.int .i64 y)) (first | go_keep | exact ⟨(hb2.cell (p := ⟨p, 0, none⟩) H.out.lt).trans c0, (hb2.cell (p := ⟨p, 1, none⟩) H.out.lt).trans c1⟩)
        (first | (go_at_call 18; refine (cA.out 1).mono ?_; rintro e w2 ⟨rfl, hb2⟩; have k2 := (hb2.cell (p := ⟨p, 2, none⟩) H.out.lt).trans c2; have g2 := (hb2.frozen (p := ⟨p, 2, none⟩) H.out.lt).trans f2))
      go_wp2
      go_ret
      exact ⟨_, rfl, World.ownsRow_nil _ _ _ _, H.out.below (hb2.mono (by simp)), Chg.of_below (HB.out.trans (hb2.mono (by simp))) _⟩
    · have hq2 : (id == 0) = false := by simpa using hk0
      have hq3 : (id != 0) = true := by simpa using hk0
      cases mo with
      | false =>
        rw [if_pos (.inr rfl)]
        clear hk0
        go_enter Try.func20, Try.ntmps20
        go_wp2
        go_region_held3 (fun w' => w'.cell? ⟨p, 0, none⟩ = some (.int .i64 x) ∧ w'.cell? ⟨p, 1, none⟩ = some (.int .i64 y)) (first | go_keep | exact ⟨(hb2.cell (p := ⟨p, 0, none⟩) H.out.lt).trans c0, (hb2.cell (p := ⟨p, 1, none⟩) H.out.lt).trans c1⟩)
          (first | (go_at_call 18; refine (cA.out 1).mono ?_; rintro e w2 ⟨rfl, hb2⟩; have k2 := (hb2.cell (p := ⟨p, 2, none⟩) H.out.lt).trans c2; have g2 := (hb2.frozen (p := ⟨p, 2, none⟩) H.out.lt).trans f2))
        go_wp2
        go_ret
        exact ⟨_, rfl, World.ownsRow_nil _ _ _ _, H.out.below (hb2.mono (by simp)), Chg.of_below (HB.out.trans (hb2.mono (by simp))) _⟩
      | true =>
        rw [if_neg (by simp [hk0])]
        clear hk0
        go_enter Try.func20, Try.ntmps20
        go_wp2
        go_region_held3 (fun w' => w'.cell? ⟨p, 0, none⟩ = some (.int .i64 x) ∧ w'.cell? ⟨p, 1, none⟩ = some (.int .i64 y)) (first | go_keep | exact ⟨(hb2.cell (p := ⟨p, 0, none⟩) H.out.lt).trans c0, (hb2.cell (p := ⟨p, 1, none⟩) H.out.lt).trans c1⟩)
          (first | (go_at_call 18; refine (cA.out 1).mono ?_; rintro e w2 ⟨rfl, hb2⟩; have k2 := (hb2.cell (p := ⟨p, 2, none⟩) H.out.lt).trans c2; have g2 := (hb2.frozen (p := ⟨p, 2, none⟩) H.out.lt).trans f2))
        go_wp2
        go_ret
        have hBn := HB.out.trans (hb2.mono (by simp))
        have hBo := hBn.alloc hBn.size (.cells #[.int .i64 3, .int .i64 id, .int .i64 ax, .int .i64 ay] 81)
        exact ⟨_, rfl, own_le (World.ownsRow_lit (base := w2.heap.size) (e := 81) (size := 4) w2 #[.int .i64 3, .int .i64 id, .int .i64 ax, .int .i64 ay] 1 (Nat.le_refl _) (by unfold maxLen; omega) rfl) hBn.size, (H.out.below (hb2.mono (by simp))).below ((Below.refl _ _).alloc (Nat.le_refl _) _), Chg.of_below hBo _⟩
  · have hq : (id == k) = false := by simpa using hik
    rw [if_neg hik]
    have cT := hide (fun w2 => rChange_any w2 k id ax ay)
    clear hik
    go_enter Try.func20, Try.ntmps20
    go_wp2
    go_region_held3 (fun w' => w'.cell? ⟨p, 0, none⟩ = some (.int .i64 x) ∧ w'.cell? ⟨p, 1, none⟩ = some (.int .i64 y)) (first | go_keep | exact ⟨(hb2.cell (p := ⟨p, 0, none⟩) H.out.lt).trans c0, (hb2.cell (p := ⟨p, 1, none⟩) H.out.lt).trans c1⟩)
      (first | (go_at_call 18; refine (cA.out 1).mono ?_; rintro e w2 ⟨rfl, hb2⟩; have k2 := (hb2.cell (p := ⟨p, 2, none⟩) H.out.lt).trans c2; have g2 := (hb2.frozen (p := ⟨p, 2, none⟩) H.out.lt).trans f2))
    go_wp2_with (go_at_call 34; refine (cT.out _).mono ?_; rintro e w3 ⟨v3, rfl, o3, hB3⟩; have g3 := (hB3.frozen (p := ⟨p, 2, none⟩) (Nat.lt_of_lt_of_le H.out.lt hb2.size)).trans g2; have k3 := (hB3.cell (p := ⟨p, 2, none⟩) (Nat.lt_of_lt_of_le H.out.lt hb2.size)).trans k2)
    go_ret
    have hBn := HB.out.trans (hb2.mono (by simp))
    have hlt := H.out.lt
    exact ⟨_, rfl, own_le (own_setCell o3 (Nat.lt_of_lt_of_le hlt hb2.size)).2.2.1 hBn.size, heap_setCell_same _ _ _ _ _ _ ((H.out.below hb2).below hB3), (Chg.of_below (hBn.trans (hB3.mono hBn.size)) (fun b => b = p)).trans (Chg.setCell (F := fun b => b = p) _ rfl _) (Ext.refl _ _)⟩

theorem cut_ways (n : Int) : (n < -16777216 ∧ cutE n = -16777216) ∨ ((¬ n < -16777216 ∧ ¬ 16777216 < n) ∧ cutE n = n) ∨ ((¬ n < -16777216 ∧ 16777216 < n) ∧ cutE n = 16777216) := by unfold cutE; omega
set_option maxRecDepth 100000 in
set_option maxHeartbeats 1000000 in
theorem rMove_any (w : World) (p : Nat) (x y k f mx my : Int) (v : Value) (L : List Hit) (h : RefAt w p x y k f) (hL : ∀ w', Chg (fun b => b = p) w w' → RdH w' v L) (hg : ∀ h ∈ L, h.good) (hl : L.length ≤ 1000000) :
    Calls Try.prog 23 #[.pointer (some ⟨p, 0, none⟩), .int .i64 mx, .int .i64 my, v] w (RNotesOut w p (cutE mx) (cutE my) (atH L (cutE mx) (cutE my)).1 f (moveN L (cutE mx) (cutE my) k)) := by
  have hf0 := frozen_of_row w p 0 _ _ h
  have hf1 := frozen_of_row w p 1 _ _ h
  have hs1 : RefAt (w.setCell ⟨p, 0, none⟩ (.int .i64 (cutE mx))) p (cutE mx) y k f := heap_setCell_same _ _ _ _ _ _ h
  have hs2 : RefAt ((w.setCell ⟨p, 0, none⟩ (.int .i64 (cutE mx))).setCell ⟨p, 1, none⟩ (.int .i64 (cutE my))) p (cutE mx) (cutE my) k f := heap_setCell_same _ _ _ _ _ _ hs1
  have hC2 : Chg (fun b => b = p) w ((w.setCell ⟨p, 0, none⟩ (.int .i64 (cutE mx))).setCell ⟨p, 1, none⟩ (.int .i64 (cutE my))) := (Chg.setCell (F := fun b => b = p) w rfl _).trans (Chg.setCell (F := fun b => b = p) _ rfl _) (Ext.refl _ _)
  have hL2 := hL _ hC2
  have hx : I64 (cutE mx) := by unfold cutE I64; omega
  have hy : I64 (cutE my) := by unfold cutE I64; omega
  have cA := rLook_any _ p _ _ k f v L true hs2 hL2 hg hx hy hl
  rw [refN_move] at cA
  have hszw : w.heap.size = ((w.setCell ⟨p, 0, none⟩ (.int .i64 (cutE mx))).setCell ⟨p, 1, none⟩ (.int .i64 (cutE my))).heap.size := by simp [World.setCell]
  have fin : Hid (∀ e w', RNotesOut ((w.setCell ⟨p, 0, none⟩ (.int .i64 (cutE mx))).setCell ⟨p, 1, none⟩ (.int .i64 (cutE my))) p (cutE mx) (cutE my) (atH L (cutE mx) (cutE my)).1 f (moveN L (cutE mx) (cutE my) k) e w' → RNotesOut w p (cutE mx) (cutE my) (atH L (cutE mx) (cutE my)).1 f (moveN L (cutE mx) (cutE my) k) e w') :=
    hide fun e w' ⟨v, h1, h2, h3, h4⟩ => ⟨v, h1, own_le h2 (by rw [← hszw]; exact Nat.le_refl _), h3, hC2.trans h4 (Ext.refl _ _)⟩
  replace cA := hide (cA.mono fin.out)
  obtain ⟨c0, c1, c2, c3⟩ := h.cells
  clear fin hC2 hL2 hs2 hs1 h hL hg hszw hx hy
  unfold RNotesOut at cA ⊢
  generalize (atH L (cutE mx) (cutE my)).1 = id at cA ⊢
  generalize moveN L (cutE mx) (cutE my) k = N at cA ⊢
  rcases cut_ways mx with ⟨h1, e1⟩ | ⟨⟨h1, h2⟩, e1⟩ | ⟨⟨h1, h2⟩, e1⟩ <;> rcases cut_ways my with ⟨h3, e3⟩ | ⟨⟨h3, h4⟩, e3⟩ | ⟨⟨h3, h4⟩, e3⟩
  all_goals
    rw [e1, e3] at cA ⊢
    clear e1 e3
    go_enter Try.func23, Try.ntmps23
    go_wp2_with (go_at_call 20; refine cA.out.mono ?_; rintro e w2 ⟨v2, rfl, hPO⟩; replace hPO := hide hPO)
    go_ret
    exact ⟨_, rfl, hPO.out⟩

set_option maxRecDepth 100000 in
theorem sameN_any (w : World) (v1 v2 : Value) (N : List Note) (h1 : Rd w v1 4 N.length (N.flatMap Note.enc)) (h2 : Rd w v2 4 N.length (N.flatMap Note.enc)) (hl : N.length ≤ 2) :
    Calls Try.prog 19 #[v1, v2] w fun e w' => e = .returned (.bool true) ∧ ∃ m, w' = w.drewN m := by
  have f1 := h1
  have f2 := h2
  obtain ⟨_, A, c, rfl, hc, _⟩ := f1
  obtain ⟨_, A2, c2, rfl, hc2, _⟩ := f2
  obtain ⟨n, hn⟩ : ∃ n, n = N.length := ⟨_, rfl⟩
  rw [← hn] at h1 h2 hl hc hc2 ⊢
  have k1 := hide (fun h0 => note_cells h1 hn h0)
  have k2 := hide (fun h0 => note_cells h2 hn h0)
  clear h1 h2
  replace hn := hide hn
  go_enter Try.func19, Try.ntmps19
  go_wp2
  go_loopw [5] (fun i wr => ∃ z : Nat, z ≤ n ∧ i = .int .i64 z ∧ ∃ m, wr = w.drewN m)
    (fun i _ => n - (intOf i).toNat)
  case atStart => exact ⟨0, Nat.zero_le _, rfl, 0, rfl⟩
  case round =>
    obtain ⟨z, hz, rfl, m, rfl⟩ := hrel
    by_cases hlt : z < n
    · obtain ⟨b, off, rfl, hb, kk⟩ := k1.out (by omega)
      obtain ⟨b2, off2, rfl, hb2, kk2⟩ := k2.out (by omega)
      obtain ⟨a0, a1, a2, a3⟩ := kk z hlt
      obtain ⟨d0, d1, d2, d3⟩ := kk2 z hlt
      clear kk kk2
      generalize N.getD z default = nt at a0 a1 a2 a3 d0 d1 d2 d3
      obtain ⟨t0, t1, t2, t3⟩ := nt
      dsimp only at a0 a1 a2 a3 d0 d1 d2 d3
      go_wp2
      go_quiet (fail)
      go_wp2
      go_roundw
      case rel => exact ⟨z + 1, by omega, by go_num, _, rfl⟩
      case measure => simp [intOf]; omega
    · obtain rfl : z = n := by omega
      go_wp2
      go_ret
      exact ⟨rfl, m, rfl⟩
end Go.Proofs.Ytfekldcpjoiipaa
