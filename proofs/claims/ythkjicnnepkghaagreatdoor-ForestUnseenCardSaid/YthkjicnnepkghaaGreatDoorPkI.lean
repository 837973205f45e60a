/-
  slices.Clone and slices.DeleteFunc at children: those of one number go. slices.Clone at children; Unsub.
  A surface whose k-th state's order, or places, is stored anew (Unsub's rounds). Package forest: Unsub.
  A surface that is gone (Drop). Package forest: Drop.
-/
import Derived.Test.YthkjicnnepkghaaGreatDoorPkC
import Derived.Test.YthkjicnnepkghaaGreatDoorPkFState
import Derived.Test.YthkjicnnepkghaaGreatDoorPkInts
import Derived.Lib.SliceRun
import Derived.Deep.Upon
import Derived.WalkSpells
import Derived.Test.YthkjicnnepkghaaGreatDoorPkE
import Derived.Test.YthkjicnnepkghaaGreatDoorPkH
namespace Go.Proofs.YthkjicnnepkghaaGreatDoor
open Go.RowKit
set_option linter.unusedVariables false

theorem uns1_any (w : World) (x y z : Int) (b : Nat) (id : Int) (h : w.cell? ⟨b, 0, none⟩ = some (.int .i64 id)) :
    Calls Tryz.prog 101 #[.agg #[.int .i64 x, .int .i64 y, .int .i64 z], .pointer (some ⟨b, 0, none⟩)] w fun e w' => e = .returned (.bool (x == id)) ∧ w' = w.alloc (.cells #[.int .i64 x, .int .i64 y, .int .i64 z] 62) := by
  have h1 : ∀ o, (w.alloc o).cell? ⟨b, 0, none⟩ = some (.int .i64 id) := fun o => (World.cell?_alloc_past _ _ _ (block_lt_of_cell h)).trans h
  go_enter Tryz.func101, Tryz.ntmps101
  go_wp2
  go_ret
  exact ⟨rfl, rfl⟩

def IdxP (L : List Ch) (id : Int) (w : World) (e : Ending) (w' : World) : Prop :=
  ((e = .returned (.int .i64 (-1)) ∧ ∀ j, j < L.length → (L.getD j default).id ≠ id) ∨ ∃ k : Nat, k < L.length ∧ e = .returned (.int .i64 k) ∧ (L.getD k default).id = id ∧ ∀ j, j < k → (L.getD j default).id ≠ id) ∧ Below w.heap.size w w'
set_option maxRecDepth 100000 in
set_option maxHeartbeats 1000000 in
theorem idxC_any (w : World) (v : Value) (L : List Ch) (b : Nat) (id : Int) (hL : Rd w v 3 L.length (L.flatMap Ch.enc)) (hl : L.length ≤ 1000000) (hb : w.cell? ⟨b, 0, none⟩ = some (.int .i64 id)) :
    Calls Tryz.prog 132 #[v, .func (.func 101) #[] #[.pointer (some ⟨b, 0, none⟩)]] w (IdxP L id w) := by
  obtain ⟨A, c, rfl, _⟩ := hL.form
  obtain ⟨n, hn⟩ : ∃ n, n = L.length := ⟨_, rfl⟩
  rw [← hn] at hL hl ⊢
  replace hn := hide hn
  replace hL := hide hL
  replace hb := hide hb
  go_enter Tryz.func132, Tryz.ntmps132
  go_wp2
  go_loopw [8] (fun i wr => ∃ k : Nat, k ≤ n ∧ i = .int .i64 k ∧ Hid (∀ j, j < k → (L.getD j default).id ≠ id) ∧ Hid (Below w.heap.size w wr)) (fun i _ => n - (intOf i).toNat)
  case atStart => exact ⟨0, Nat.zero_le _, rfl, hide (fun j hj => absurd hj (by omega)), hide (Below.refl _ _)⟩
  case round =>
    obtain ⟨k, hk, rfl, hT, hB⟩ := hrel
    obtain ⟨wC, hC⟩ : ∃ wC, wC = wr := ⟨_, rfl⟩
    subst hC
    by_cases hlt : k < n
    · obtain ⟨g, off, rfl, hbl, hcell⟩ := (hL.out.below hB.out (Nat.le_refl _)).chCells hn.out (by omega)
      obtain ⟨k0, k1, k2⟩ := hcell k hlt
      obtain ⟨y, hy⟩ : ∃ y, y = L.getD k default := ⟨_, rfl⟩
      have hTk := hide (fun (hne : y.id ≠ id) => (fun (j : Nat) (hj : j < k + 1) => (by
        rcases (show j = k ∨ j < k by omega) with e | h
        · rw [e, ← hy]; exact hne
        · exact hT.out j h : (L.getD j default).id ≠ id)))
      have hyh := hide hy
      rw [← hy] at k0 k1 k2
      have hbC : wC.cell? ⟨b, 0, none⟩ = some (.int .i64 id) := (hB.out.cell (p := ⟨b, 0, none⟩) (block_lt_of_cell hb.out)).trans hb.out
      obtain ⟨y0, y1, y2⟩ := y
      dsimp only at k0 k1 k2 hTk
      have cU := hide (uns1_any wC y0 y1 y2 b id hbC)
      have hB2 := hide (fun o => hB.out.alloc hB.out.size o)
      clear hcell hbl hy hbC
      by_cases he : y0 = id
      · have hq : (y0 == id) = true := by simpa using he
        replace he := hide he
        go_wp2_with (go_at_call 101; refine cU.out.mono ?_; rintro e w' ⟨rfl, rfl⟩)
        go_ret
        exact ⟨.inr ⟨k, by rw [← hn.out]; exact hlt, rfl, by rw [← hyh.out]; exact he.out, hT.out⟩, hB2.out _⟩
      · have hq : (y0 == id) = false := by simpa using he
        go_wp2_with (go_at_call 101; refine cU.out.mono ?_; rintro e w' ⟨rfl, rfl⟩)
        go_roundw
        case rel => exact ⟨k + 1, by omega, by go_num, hide (hTk.out he), hide (hB2.out _)⟩
        case measure => simp [intOf]; omega
    · obtain rfl : k = n := by omega
      go_wp2
      go_ret
      exact ⟨.inl ⟨rfl, by rw [← hn.out]; exact hT.out⟩, hB.out⟩

theorem clear_ch (w : World) (ty : TypeId) (g o n c : Nat) (hn : 0 < n) (hc : ∀ j, j < n * 3 → (w.cell? ⟨g, o + j, none⟩).isSome = true) (hf : ∀ j, j < n * 3 → w.frozen? ⟨g, o + j, none⟩ = false) :
    ∃ vs : List Value, vs.length = n * 3 ∧ (Builtin.clear_ #[36] ty #[.slice (some ⟨g, o, none⟩) n c]).run Tryz.prog w = .ok (.tuple #[]) (w.setCells g o vs) := by
  have hv : ∀ w, (zeroValue 62).run Tryz.prog w = .ok (.agg #[.int .i64 0, .int .i64 0, .int .i64 0]) w := fun w => by kernel_rfl
  obtain ⟨vs, hvs⟩ : ∃ vs, vs = (Builtin.zeroCells (Value.agg #[.int .i64 0, .int .i64 0, .int .i64 0]).cells n).toList := ⟨_, rfl⟩
  have hl : vs.length = n * 3 := by rw [hvs]; simp [Builtin.zeroCells, Value.cells]
  have h1 : ∀ v ∈ vs, v.oneCell' = true := fun v hv' => by
    rw [hvs] at hv'
    simp [Builtin.zeroCells, Value.cells] at hv'
    obtain ⟨i, hi, rfl⟩ := hv'
    have : i % 3 = 0 ∨ i % 3 = 1 ∨ i % 3 = 2 := by omega
    rcases this with h | h | h <;> (simp [h]; rfl)
  have hst := run_storeCells_cells (P := Tryz.prog) g o vs 0 w (by simpa [hl] using hc) (by simpa [hl] using hf) h1
  simp only [Nat.add_zero] at hst
  refine ⟨vs, hl, ?_⟩
  rw [hvs] at hst ⊢
  obtain ⟨m, rfl⟩ : ∃ m, n = m + 1 := ⟨n - 1, by omega⟩
  simp [Builtin.clear_, run_underlying Tryz.underlying36, hv, hst]

theorem frozen_setCell (w : World) (a : Addr) (u : Value) (b : Addr) : (w.setCell a u).frozen? b = w.frozen? b := by simp
theorem chg3 (w : World) (g k : Nat) (u u' u'' : Value) {F : Nat → Prop} (hF : F g) : Chg F w (((w.setCell ⟨g, k, none⟩ u).setCell ⟨g, k + 1, none⟩ u').setCell ⟨g, k + 2, none⟩ u'') :=
  ((Chg.setCell w (a := ⟨g, k, none⟩) hF u).trans (Chg.setCell _ (a := ⟨g, k + 1, none⟩) hF u') (Ext.refl _ _)).trans (Chg.setCell _ (a := ⟨g, k + 2, none⟩) hF u'') (Ext.refl _ _)
theorem chgCells (w : World) (g o : Nat) (vs : List Value) {F : Nat → Prop} (hF : F g) : Chg F w (w.setCells g o vs) := by
  induction vs generalizing o w with
  | nil => exact Chg.refl _ _
  | cons v vs ih => exact (Chg.setCell w (a := ⟨g, o, none⟩) hF v).trans (ih _ _) (Ext.refl _ _)
theorem dropP_take {L : List Ch} {id : Int} {j : Nat} (hj : j < L.length) : dropP (L.take (j + 1)) id = dropP (L.take j) id ++ (if (L.getD j default).id = id then [] else [L.getD j default]) := by
  unfold dropP
  rw [List.take_add_one, List.getElem?_eq_getElem hj, List.filter_append]
  congr 1
  have e : L.getD j default = L[j] := by simp [List.getD, hj]
  rw [e]
  by_cases h : L[j].id = id <;> simp [h]
theorem dropP_le (L : List Ch) (id : Int) : (dropP L id).length ≤ L.length := by unfold dropP; exact List.length_filter_le _ _
theorem dropP_all {L : List Ch} {id : Int} (h : ∀ j, j < L.length → (L.getD j default).id ≠ id) : dropP L id = L := by
  unfold dropP
  refine List.filter_eq_self.2 fun c hc => ?_
  obtain ⟨j, hj, rfl⟩ := List.getElem_of_mem hc
  have := h j hj
  simpa [List.getD, hj] using this
theorem dropP_head {L : List Ch} {id : Int} : ∀ {k : Nat}, k ≤ L.length → (∀ j, j < k → (L.getD j default).id ≠ id) → dropP (L.take k) id = L.take k
  | 0, _, _ => rfl
  | k + 1, hk, h => by
    rw [dropP_take (by omega), dropP_head (by omega) (fun j hj => h j (by omega)), if_neg (h k (by omega))]
    rw [List.take_add_one, List.getElem?_eq_getElem (show k < L.length by omega)]
    simp [List.getD, show k < L.length by omega]
structure DelAt (L arr : List Ch) (id : Int) (i j : Nat) : Prop where
  len : arr.length = L.length
  head : arr.take i = dropP (L.take j) id
  tail : ∀ t, j ≤ t → t < L.length → arr.getD t default = L.getD t default
  lt : i < j
  le : j ≤ L.length
theorem DelAt.keepIt {L arr : List Ch} {id : Int} {i j : Nat} (h : DelAt L arr id i j) (hj : j < L.length) (hn : (L.getD j default).id ≠ id) : DelAt L (arr.set i (L.getD j default)) id (i + 1) (j + 1) := by
  have hl := h.len
  have hlt := h.lt
  refine ⟨by simp [hl], ?_, fun t h1 h2 => ?_, by omega, by omega⟩
  · rw [dropP_take hj, if_neg hn, ← h.head, List.take_succ_eq_append_getElem (by simp; omega), List.getElem_set_self, List.take_set, List.set_eq_of_length_le (by rw [List.length_take]; omega)]
  · rw [← h.tail t (by omega) h2]
    simp [List.getD, show i ≠ t by omega]
theorem DelAt.dropIt {L arr : List Ch} {id : Int} {i j : Nat} (h : DelAt L arr id i j) (hj : j < L.length) (hn : (L.getD j default).id = id) : DelAt L arr id i (j + 1) := by
  have hlt := h.lt
  refine ⟨h.len, ?_, fun t h1 h2 => h.tail t (by omega) h2, by omega, by omega⟩
  rw [dropP_take hj, if_pos hn, List.append_nil]; exact h.head
theorem DelAt.start {L : List Ch} {id : Int} {k : Nat} (hk : k < L.length) (he : (L.getD k default).id = id) (h : ∀ j, j < k → (L.getD j default).id ≠ id) : DelAt L L id k (k + 1) := by
  refine ⟨rfl, ?_, fun _ _ _ => rfl, by omega, by omega⟩
  rw [dropP_take hk, if_pos he, List.append_nil, dropP_head (by omega) h]

set_option maxRecDepth 100000 in
set_option maxHeartbeats 2000000 in
theorem delC_any (w : World) (base : Nat) (v : Value) (L : List Ch) (b : Nat) (id : Int) (hO : w.ownsRow base 62 3 v L.length (L.flatMap Ch.enc)) (hl : L.length ≤ 1000000) (hb : w.cell? ⟨b, 0, none⟩ = some (.int .i64 id)) (hbv : v.ownBlock ≠ some b) :
    Calls Tryz.prog 99 #[v, .func (.func 101) #[] #[.pointer (some ⟨b, 0, none⟩)]] w fun e w' => ∃ A c, e = .returned (.slice A (dropP L id).length c) ∧ Rd w' (.slice A (dropP L id).length c) 3 (dropP L id).length ((dropP L id).flatMap Ch.enc) ∧
      (∀ g, A = some g → v.ownBlock = some g.block) ∧ Chg (fun k => v.ownBlock = some k) w w' := by
  have cI := idxC_any w v L b id (Rd.of_own hO) hl hb
  obtain ⟨A, c, rfl, hcc⟩ := own_form hO
  obtain ⟨n, hn⟩ : ∃ n, n = L.length := ⟨_, rfl⟩
  rw [← hn] at hO hl hcc cI ⊢
  replace hn := hide hn
  replace hO := hide hO
  replace hb := hide hb
  replace cI := hide cI
  replace hbv := hide hbv
  go_enter Tryz.func99, Tryz.ntmps99
  go_wp2_with fail
  refine cI.out.mono ?_
  rintro e w1 ⟨(⟨rfl, hno⟩ | ⟨k, hk, rfl, hke, hkn⟩), hb1⟩
  · have hq := dropP_all hno
    have ho1 := own_belowF hO.out hb1 (Nat.le_refl _)
    have hfin : Hid (Rd w1 (.slice A (dropP L id).length c) 3 (dropP L id).length ((dropP L id).flatMap Ch.enc)) := hide (by rw [hq, ← hn.out]; exact Rd.of_own ho1)
    have hlen := hide (show n = (dropP L id).length by rw [hq]; exact hn.out)
    replace hb1 := hide hb1
    clear hno hq ho1
    go_wp2
    go_ret
    refine ⟨A, c, by rw [← hlen.out]; rfl, hfin.out, fun g e => ?_, Chg.of_below hb1.out _⟩
    subst e; rfl
  · have ho1 := hide (own_belowF hO.out hb1 (Nat.le_refl _))
    have hkn' : k < n := by rw [hn.out]; exact hk
    obtain ⟨g, hg⟩ : ∃ g, A = some ⟨g, 0, none⟩ := by
      obtain ⟨g, c', he, _⟩ := own_at hO.out (by omega)
      simp only [Value.slice.injEq] at he
      exact ⟨g, he.1⟩
    subst hg
    have hst := hide (DelAt.start hk hke hkn)
    have hch := hide (Chg.of_below (F := fun q => (Value.slice (some ⟨g, 0, none⟩) n c).ownBlock = some q) hb1)
    have hkm : ((k : Int) == -1) = false := by simp
    clear hke hkn hk hb1
    go_wp2
    go_loopw [5, 6] (fun x y wr => ∃ (i j : Nat) (arr : List Ch), j ≤ n ∧ i < j ∧ x = .int .i64 i ∧ y = .int .i64 j ∧ Hid (DelAt L arr id i j) ∧ Hid (wr.ownsRow base 62 3 (.slice (some ⟨g, 0, none⟩) n c) n (arr.flatMap Ch.enc)) ∧ Hid (Chg (fun q => (Value.slice (some ⟨g, 0, none⟩) n c).ownBlock = some q) w wr)) (fun _ y _ => n - (intOf y).toNat)
    case atStart => exact ⟨k, k + 1, L, by omega, by omega, rfl, by go_num, hst, ho1, hch⟩
    clear hst ho1 hch hkn'
    case round =>
      obtain ⟨i, j, arr, hj, hij, rfl, rfl, hD, ho, hch⟩ := hrel
      obtain ⟨wC, hC⟩ : ∃ wC, wC = wr := ⟨_, rfl⟩
      subst hC
      have hbC : wC.cell? ⟨b, 0, none⟩ = some (.int .i64 id) := (World.cell?_of_block (a := ⟨b, 0, none⟩) (hch.out.block b (block_lt_of_cell hb.out) hbv.out)).trans hb.out
      by_cases hlt : j < n
      · have han : n = arr.length := by rw [hD.out.len]; exact hn.out
        obtain ⟨g', off, he, hbl, hcell⟩ := (Rd.of_own ho.out).chCells han (by omega)
        simp only [Option.some.injEq, Addr.mk.injEq, and_true] at he
        obtain ⟨rfl, rfl⟩ := he
        obtain ⟨k0, k1, k2⟩ := hcell j hlt
        simp only [Nat.zero_add] at k0 k1 k2
        have hjl : j < L.length := by rw [← hn.out]; exact hlt
        rw [hD.out.tail j (Nat.le_refl _) hjl] at k0 k1 k2
        have hset := hide (fun hne => hD.out.keepIt hjl hne)
        have hdr := hide (fun he => hD.out.dropIt hjl he)
        have hown := hide (fun x => own_setCh (k := i) ho.out han (by omega) x)
        have f0 := own_frozen ho.out (i * 3)
        have f1 := own_frozen ho.out (i * 3 + 1)
        have f2 := own_frozen ho.out (i * 3 + 2)
        have ci0 := (hcell i (by omega)).1
        have ci1 := (hcell i (by omega)).2.1
        have ci2 := (hcell i (by omega)).2.2
        simp only [Nat.zero_add] at ci0 ci1 ci2
        have hgl : g < wC.heap.size := block_lt_of_cell ci0
        have hbb : ∀ (w0 : World) (o o' : Obj), Below w0.heap.size w0 ((w0.alloc o).alloc o') := fun w0 o o' => ((Below.refl w0.heap.size w0).alloc (Nat.le_refl _) o).alloc (by simp) o'
        have hgs : ∀ u, g < (wC.setCell ⟨g, i * 3, none⟩ u).heap.size := fun u => Nat.lt_of_lt_of_le hgl (Chg.setCell (F := fun _ => True) wC (a := ⟨g, i * 3, none⟩) trivial u).size
        have hgs2 : ∀ u u', g < ((wC.setCell ⟨g, i * 3, none⟩ u).setCell ⟨g, i * 3 + 1, none⟩ u').heap.size := fun u u' => Nat.lt_of_lt_of_le (hgs u) (Chg.setCell (F := fun _ => True) _ (a := ⟨g, i * 3 + 1, none⟩) trivial u').size
        have di0 := fun o o' => ((hbb wC o o').cell (p := ⟨g, i * 3, none⟩) hgl).trans ci0
        have df0 := fun o o' => ((hbb wC o o').frozen (p := ⟨g, i * 3, none⟩) hgl).trans f0
        have di1 := fun u o o' => ((hbb _ o o').cell (p := ⟨g, i * 3 + 1, none⟩) (hgs u)).trans ((World.cell?_setCell_other wC ⟨g, i * 3, none⟩ ⟨g, i * 3 + 1, none⟩ u (by simp)).trans ci1)
        have df1 := fun u o o' => ((hbb _ o o').frozen (p := ⟨g, i * 3 + 1, none⟩) (hgs u)).trans ((frozen_setCell wC ⟨g, i * 3, none⟩ u ⟨g, i * 3 + 1, none⟩).trans f1)
        have di2 := fun u u' o o' => ((hbb _ o o').cell (p := ⟨g, i * 3 + 2, none⟩) (hgs2 u u')).trans ((World.cell?_setCell_other _ ⟨g, i * 3 + 1, none⟩ ⟨g, i * 3 + 2, none⟩ u' (by simp)).trans ((World.cell?_setCell_other wC ⟨g, i * 3, none⟩ ⟨g, i * 3 + 2, none⟩ u (by simp)).trans ci2))
        have df2 := fun u u' o o' => ((hbb _ o o').frozen (p := ⟨g, i * 3 + 2, none⟩) (hgs2 u u')).trans ((frozen_setCell _ ⟨g, i * 3 + 1, none⟩ u' ⟨g, i * 3 + 2, none⟩).trans ((frozen_setCell wC ⟨g, i * 3, none⟩ u ⟨g, i * 3 + 2, none⟩).trans f2))
        obtain ⟨y, hy⟩ : ∃ y, y = L.getD j default := ⟨_, rfl⟩
        rw [← hy] at k0 k1 k2 hset hdr
        obtain ⟨y0, y1, y2⟩ := y
        dsimp only at k0 k1 k2
        have cU := hide (fun o => uns1_any (wC.alloc o) y0 y1 y2 b id ((World.cell?_alloc_past _ _ _ (block_lt_of_cell hbC)).trans hbC))
        replace hbb := hide hbb
        clear hcell hy hbC han hbl ci0 ci1 ci2 f0 f1 f2 hgs hgs2
        by_cases he : y0 = id
        · have hq : (y0 == id) = true := by simpa using he
          replace he := hide he
          go_wp2_with (go_at_call 101; refine (cU.out _).mono ?_; rintro e w' ⟨rfl, rfl⟩)
          go_roundw
          case rel => exact ⟨i, j + 1, arr, by omega, by omega, rfl, by go_num, hide (hdr.out he.out), hide (own_belowF ho.out (hbb.out wC _ _) (Nat.le_refl _)), hide (hch.out.trans (Chg.of_below (hbb.out wC _ _) _) (Ext.refl _ _))⟩
          case measure => simp [intOf]; omega
        · have hq : (y0 == id) = false := by simpa using he
          go_wp2_with (go_at_call 101; refine (cU.out _).mono ?_; rintro e w' ⟨rfl, rfl⟩)
          have hch2 := hide (fun o o' => hch.out.trans ((chg3 wC g (i * 3) (.int .i64 y0) (.int .i64 y1) (.int .i64 y2) (F := fun q => (Value.slice (some ⟨g, 0, none⟩) n c).ownBlock = some q) rfl).trans (Chg.of_below (hbb.out _ o o') _) (Ext.refl _ _)) (Ext.refl _ _))
          go_roundw
          case rel => exact ⟨i + 1, j + 1, _, by omega, by omega, by go_num, by go_num, hide (hset.out he), hide (own_belowF (hown.out ⟨y0, y1, y2⟩) (hbb.out _ _ _) (Nat.le_refl _)), hide (hch2.out _ _)⟩
          case measure => simp [intOf]; omega
      · obtain rfl : j = n := by omega
        have han : j = arr.length := by rw [hD.out.len]; exact hn.out
        have hhead : arr.take i = dropP L id := by rw [hD.out.head, hn.out, List.take_length]
        have hil : (dropP L id).length = i := by rw [← hhead, List.length_take]; omega
        have hrd := Rd.of_own ho.out
        obtain ⟨_, A', c', hv, _, h2⟩ := hrd
        simp only [Value.slice.injEq] at hv
        obtain ⟨rfl, _, rfl⟩ := hv
        obtain ⟨g', off', hg', hgl, hcell⟩ := h2 (by omega)
        simp only [Option.some.injEq, Addr.mk.injEq, and_true] at hg'
        obtain ⟨rfl, rfl⟩ := hg'
        have hfl : (arr.flatMap Ch.enc).length = j * 3 := by rw [flat_len Ch.len, ← han]
        obtain ⟨vs, hvl, hcl⟩ : ∃ vs : List Value, vs.length = (j - i) * 3 ∧ ∀ ty, (Builtin.clear_ #[36] ty #[.slice (some ⟨g, i * 3, none⟩) (j - i) (c - i)]).run Tryz.prog wC = .ok (.tuple #[]) (wC.setCells g (i * 3) vs) := by
          obtain ⟨vs, h1, h2⟩ := clear_ch wC 0 g (i * 3) (j - i) (c - i) (by omega) (fun t ht => by
            have : i * 3 + t < (arr.flatMap Ch.enc).length := by omega
            have := hcell (i * 3 + t) _ (List.getElem?_eq_getElem this)
            rw [Nat.zero_add] at this
            rw [this]; rfl) (fun t ht => own_frozen ho.out _)
          exact ⟨vs, h1, fun ty => h2⟩
        have hfin : Hid (Rd (wC.setCells g (i * 3) vs) (.slice (some ⟨g, 0, none⟩) i c) 3 i ((dropP L id).flatMap Ch.enc)) := hide (by
          refine ⟨by rw [flat_len Ch.len, hil], _, c, rfl, by omega, fun h0 => ⟨g, 0, rfl, ?_, fun t u hu => ?_⟩⟩
          · exact Nat.lt_of_lt_of_le hgl (Chg.size (F := fun _ => True) (chgCells wC g (i * 3) vs trivial))
          · rw [← hhead, ← flat_take Ch.len, List.getElem?_take] at hu
            split at hu
            · rename_i ht
              rw [World.cell?_setCells_out g vs (i * 3) wC ⟨g, 0 + t, none⟩ (fun _ _ => .inl (by simp; omega))]
              exact hcell t u hu
            · cases hu)
        have hch3 := hide (hch.out.trans (chgCells wC g (i * 3) vs (F := fun q => (Value.slice (some ⟨g, 0, none⟩) j c).ownBlock = some q) rfl) (Ext.refl _ _))
        have z1 : (i : Int) ≤ (j : Int) := by omega
        have z2 : (i : Int) ≤ (c : Int) := by omega
        have z3 : (j : Int) ≤ (c : Int) := by omega
        have z4 : decide ((i : Int) < 0) = false := decide_eq_false (by omega)
        have z5 : ¬ c = i := by omega
        have hil' := hide hil
        clear hhead hil h2 hcell hfl hvl hgl han hlt
        go_wp2
        go_ret
        refine ⟨some ⟨g, 0, none⟩, c, by rw [hil'.out]; rfl, by rw [hil'.out]; exact hfin.out, fun q e => by cases e; rfl, hch3.out⟩


set_option linter.unusedVariables false

theorem own_none0 (w : World) : (w.alloc (.cells #[] 62)).ownsRow w.heap.size 62 3 (.slice (some ⟨w.heap.size, 0, none⟩) 0 0) 0 [] :=
  ⟨rfl, .inr ⟨w.heap.size, 0, #[], rfl, Nat.le_refl _, heap_alloc_new _ _, Nat.le_refl _, by unfold maxLen; omega, rfl, rfl⟩⟩
theorem Tryz.infoChildD : (Tryz.prog.info? 62).map (fun i => (i.zero, i.size, i.bytes)) = some (some (.agg #[.int .i64 0, .int .i64 0, .int .i64 0]), 3, 24) := by kernel_rfl
set_option maxRecDepth 100000 in
set_option maxHeartbeats 1000000 in
theorem cloneC_any (w : World) (v : Value) (L : List Ch) (hL : Rd w v 3 L.length (L.flatMap Ch.enc)) (hl : L.length ≤ 1000000) :
    Calls Tryz.prog 100 #[v] w fun e w' => ∃ v', e = .returned v' ∧ w'.ownsRow w.heap.size 62 3 v' L.length (L.flatMap Ch.enc) ∧ Below w.heap.size w w' := by
  obtain ⟨i0, hi, hz0, hz1, hz2⟩ := info_parts Tryz.infoChildD
  obtain ⟨A, c, rfl, hcc⟩ := hL.form
  obtain ⟨n, hn⟩ : ∃ n, n = L.length := ⟨_, rfl⟩
  rw [← hn] at hL hl hcc ⊢
  have hone := hide (oneC L)
  have heq := fun w => Lib.run_eql_slice_nil w 36 62 A n c 0 0 Tryz.underlying36
  cases A with
  | none =>
    have hn0 : n = 0 := by
      obtain ⟨_, A', c', hv, _, h2⟩ := hL
      simp only [Value.slice.injEq] at hv
      obtain ⟨rfl, _, rfl⟩ := hv
      rcases Nat.eq_zero_or_pos n with h | h
      · exact h
      · obtain ⟨b, off, hb, _⟩ := h2 h; cases hb
    have hL0 : L = [] := List.eq_nil_of_length_eq_zero (by omega)
    subst hL0
    have hn0h := hide hn0
    clear hn hn0 hL
    go_enter Tryz.func100, Tryz.ntmps100
    go_wp2
    go_ret
    exact ⟨_, rfl, by rw [hn0h.out]; exact World.ownsRow_nil _ _ _ _, Below.refl _ _⟩
  | some a =>
    replace hn := hide hn
    replace hL := hide hL
    go_enter Tryz.func100, Tryz.ntmps100
    go_wp2_with (at_builtin; refine wpList_append_rd rfl _ _ 36 rfl w.heap.size 62 i0 _ 3 24 Tryz.underlying36 hi hz0 hz1 hz2 rfl (by decide) _ 0 [] rfl (own_none0 w) (some a) n c _ rfl (hL.out.alloc _) hone.out (by unfold maxLen; omega) (by omega) (by simp) ?_; intro v2 w2 o2 hg2; rw [Nat.zero_add, List.nil_append] at o2; have b2 : Below w.heap.size w w2 := ((Below.refl _ w).alloc (Nat.le_refl _) _).grown hg2 (by simp) (fun k e => by cases e; exact Nat.le_refl _); obtain ⟨A2, c2, rfl, _⟩ := own_form o2)
    go_ret
    exact ⟨_, rfl, o2, b2⟩
end Go.Proofs.YthkjicnnepkghaaGreatDoor
namespace Go.Proofs.YthkjicnnepkghaaGreatDoor
open Go.RowKit
set_option linter.unusedVariables false

def upS (k : Nat) (f : St → St) (t : Sf) : Sf := if k = 0 then { t with pe := f t.pe } else if k = 1 then { t with ca := f t.ca } else { t with cu := f t.cu }
def stS (k : Nat) (t : Sf) : St := if k = 0 then t.pe else if k = 1 then t.ca else t.cu
def upV (k : Nat) (f : StV → StV) (z : SfV) : SfV := if k = 0 then { z with pe := f z.pe } else if k = 1 then { z with ca := f z.ca } else { z with cu := f z.cu }
def stV (k : Nat) (z : SfV) : StV := if k = 0 then z.pe else if k = 1 then z.ca else z.cu
theorem cut3 (t : Sf) (id : Int) : upS 2 (cutT · id) (upS 1 (cutT · id) (upS 0 (cutT · id) t)) = cutSf t id := rfl

section
variable {w w' w1 : World} {p mb n : Nat} {F : Nat → Prop} {Z : Int → Option SfV} {M : Fo} {id : Int} {t t' : Sf} {z z' : SfV}
theorem rd_setOther {v : Value} {sz m : Nat} {cs : List Value} {base a k : Nat} {u : Value} (h : Rd w v sz m cs) (hi : BlkIn (fun b => base ≤ b) v m) (ha : a < base) : Rd (w.setCell ⟨a, k, none⟩ u) v sz m cs :=
  h.keepIn hi (Chg.size (chg1e w a k u)) fun b hb hl => (chg1e w a k u).block b hl (by intro e; omega)
theorem cells_o (k : Nat) (hk : k < 3) (id : Int) (t : Sf) (z : SfV) (v : Value) (xs : List Int) (G : Nat → Prop) :
    (sfCells id t z).setIfInBounds (3 + k * 10 + 8) v = sfCells id (upS k (fun s => { s with order := xs }) t) { upV k (fun s => { s with o := v }) z with G := G } := by
  rcases (by omega : k = 0 ∨ k = 1 ∨ k = 2) with rfl | rfl | rfl <;> rfl
theorem cells_p (k : Nat) (hk : k < 3) (id : Int) (t : Sf) (z : SfV) (v : Value) (xs : List Ch) (G : Nat → Prop) :
    (sfCells id t z).setIfInBounds (3 + k * 10 + 9) v = sfCells id (upS k (fun s => { s with places := xs }) t) { upV k (fun s => { s with p := v }) z with G := G } := by
  rcases (by omega : k = 0 ∨ k = 1 ∨ k = 2) with rfl | rfl | rfl <;> rfl
theorem ForZ.cutO (h : ForZ w p mb F n Z M) (hz : Z id = some z) (ht : SurfAt w id t z) (k : Nat) (hk : k < 3) (xs : List Int) {v : Value} (b1 : Below w.heap.size w w1)
    (r1 : Rd w1 v 1 xs.length (xs.map (Value.int .i64))) (i1 : BlkIn (fun b => w.heap.size ≤ b) v xs.length) :
    ∃ z', z'.a = z.a ∧ (∀ j, (stV j z').p = (stV j z).p) ∧ (∀ j, j ≠ k → j < 3 → (stV j z').o = (stV j z).o) ∧
      FZOut w p mb n F (setZ Z id (some z')) (setM M id (some (upS k (fun s => { s with order := xs }) t))) (w1.setCell ⟨z.a, 3 + k * 10 + 8, none⟩ v) := by
  have hlt := ht.lt z.a (.inl rfl)
  have hb1 : w1.heap[z.a]? = some (.cells (sfCells id t z) 97 (0, 0)) := (b1.block z.a hlt).trans ht.blk
  have hr := rd_setOther (k := 3 + k * 10 + 8) (u := v) r1 i1 hlt
  have hbl : (w1.setCell ⟨z.a, 3 + k * 10 + 8, none⟩ v).heap[z.a]? = _ := (heap_setCell_same w1 z.a (3 + k * 10 + 8) _ _ v hb1).trans (by rw [cells_o k hk id t z v xs (grownG w (w1.setCell ⟨z.a, 3 + k * 10 + 8, none⟩ v) z.G)])
  have c1 := (Chg.of_below b1 z.F).trans (chg1 w1 z.a (3 + k * 10 + 8) v (.inl rfl)) (Ext.refl _ _)
  have c2 := (Chg.of_below b1 (fun b => b = z.a)).trans (chg1e w1 z.a (3 + k * 10 + 8) v) (Ext.refl _ _)
  refine ⟨{ upV k (fun s => { s with o := v }) z with G := grownG w (w1.setCell ⟨z.a, 3 + k * 10 + 8, none⟩ v) z.G }, ?_, ?_, ?_, h.turnZ hz c1 ?_ (ht.froz c2 ?_ ?_ hbl ?_ ?_ ?_ ?_ ?_ ?_ ?_)⟩
  all_goals rcases (by omega : k = 0 ∨ k = 1 ∨ k = 2) with rfl | rfl | rfl
  all_goals first
    | exact rfl
    | exact .inl ⟨rfl, rfl⟩
    | exact .same
    | exact .inr ⟨hr, i1⟩
    | exact ⟨.same, .same, .same, .inr ⟨hr, i1⟩, .same⟩
    | (intro j; simp only [stV, upV]; split <;> first | rfl | (split <;> rfl))
    | (intro j h1 h2; rcases (by omega : j = 0 ∨ j = 1 ∨ j = 2) with rfl | rfl | rfl <;> first | rfl | exact absurd rfl h1)
theorem ForZ.cutP (h : ForZ w p mb F n Z M) (hz : Z id = some z) (ht : SurfAt w id t z) (k : Nat) (hk : k < 3) (xs : List Ch) {v : Value} (b1 : Below w.heap.size w w1)
    (r1 : Rd w1 v 3 xs.length (xs.flatMap Ch.enc)) (i1 : BlkIn (fun b => w.heap.size ≤ b) v xs.length) :
    ∃ z', z'.a = z.a ∧ (∀ j, (stV j z').o = (stV j z).o) ∧ (∀ j, j ≠ k → j < 3 → (stV j z').p = (stV j z).p) ∧
      FZOut w p mb n F (setZ Z id (some z')) (setM M id (some (upS k (fun s => { s with places := xs }) t))) (w1.setCell ⟨z.a, 3 + k * 10 + 9, none⟩ v) := by
  have hlt := ht.lt z.a (.inl rfl)
  have hb1 : w1.heap[z.a]? = some (.cells (sfCells id t z) 97 (0, 0)) := (b1.block z.a hlt).trans ht.blk
  have hr := rd_setOther (k := 3 + k * 10 + 9) (u := v) r1 i1 hlt
  have hbl : (w1.setCell ⟨z.a, 3 + k * 10 + 9, none⟩ v).heap[z.a]? = _ := (heap_setCell_same w1 z.a (3 + k * 10 + 9) _ _ v hb1).trans (by rw [cells_p k hk id t z v xs (grownG w (w1.setCell ⟨z.a, 3 + k * 10 + 9, none⟩ v) z.G)])
  have c1 := (Chg.of_below b1 z.F).trans (chg1 w1 z.a (3 + k * 10 + 9) v (.inl rfl)) (Ext.refl _ _)
  have c2 := (Chg.of_below b1 (fun b => b = z.a)).trans (chg1e w1 z.a (3 + k * 10 + 9) v) (Ext.refl _ _)
  refine ⟨{ upV k (fun s => { s with p := v }) z with G := grownG w (w1.setCell ⟨z.a, 3 + k * 10 + 9, none⟩ v) z.G }, ?_, ?_, ?_, h.turnZ hz c1 ?_ (ht.froz c2 ?_ ?_ hbl ?_ ?_ ?_ ?_ ?_ ?_ ?_)⟩
  all_goals rcases (by omega : k = 0 ∨ k = 1 ∨ k = 2) with rfl | rfl | rfl
  all_goals first
    | exact rfl
    | exact .inl ⟨rfl, rfl⟩
    | exact .same
    | exact .inr ⟨hr, i1⟩
    | exact ⟨.same, .same, .same, .same, .inr ⟨hr, i1⟩⟩
    | (intro j; simp only [stV, upV]; split <;> first | rfl | (split <;> rfl))
    | (intro j h1 h2; rcases (by omega : j = 0 ∨ j = 1 ∨ j = 2) with rfl | rfl | rfl <;> first | rfl | exact absurd rfl h1)

def CutAt (wB : World) (p mb n a2 : Nat) (F : Nat → Prop) (par : Int) (M1 : Fo) (T : Sf) (wr : World) : Prop :=
  ∃ F' Z' z', ForZ wr p mb F' n Z' (setM M1 par (some T)) ∧ Z' par = some z' ∧ z'.a = a2 ∧ Chg F wB wr ∧ Ext F F' wB.heap.size
variable {wB wr : World} {a2 : Nat} {par : Int} {M1 : Fo} {T : Sf}
theorem CutAt.surf (h : CutAt wB p mb n a2 F par M1 T wr) : ∃ z', z'.a = a2 ∧ SurfAt wr par T z' := by
  obtain ⟨F', Z', z', h1, h2, h3, _⟩ := h
  obtain ⟨z'', h4, h5⟩ := h1.find (setM_same _ _ _)
  rw [h2] at h4; cases h4
  exact ⟨z', h3, h5⟩
theorem CutAt.keep (h : CutAt wB p mb n a2 F par M1 T wr) (hb : Below wr.heap.size wr w1) : CutAt wB p mb n a2 F par M1 T w1 := by
  obtain ⟨F', Z', z', h1, h2, h3, h4, h5⟩ := h
  exact ⟨F', Z', z', h1.below hb, h2, h3, h4.trans (Chg.of_below hb F') h5, h5⟩
theorem CutAt.box (h : CutAt wB p mb n a2 F par M1 T wr) {b : Nat} (hb : b < wB.heap.size) (hF : ¬ F b) : wr.heap[b]? = wB.heap[b]? := by
  obtain ⟨F', Z', z', h1, h2, h3, h4, h5⟩ := h
  exact h4.block b hb hF
theorem CutAt.orderAt (h : CutAt wB p mb n a2 F par M1 T wr) (k : Nat) (hk : k < 3) : ∃ v, wr.cell? ⟨a2, 3 + k * 10 + 8, none⟩ = some v ∧ Rd wr v 1 (stS k T).order.length ((stS k T).order.map (Value.int .i64)) := by
  obtain ⟨z', rfl, hs⟩ := h.surf
  rcases (by omega : k = 0 ∨ k = 1 ∨ k = 2) with rfl | rfl | rfl
  · exact ⟨_, cell_of_row _ z'.a 11 _ _ _ hs.blk, hs.peO⟩
  · exact ⟨_, cell_of_row _ z'.a 21 _ _ _ hs.blk, hs.ca.o⟩
  · exact ⟨_, cell_of_row _ z'.a 31 _ _ _ hs.blk, hs.cu.o⟩
theorem CutAt.placesAt (h : CutAt wB p mb n a2 F par M1 T wr) (k : Nat) (hk : k < 3) : ∃ v, wr.cell? ⟨a2, 3 + k * 10 + 9, none⟩ = some v ∧ Rd wr v 3 (stS k T).places.length ((stS k T).places.flatMap Ch.enc) := by
  obtain ⟨z', rfl, hs⟩ := h.surf
  rcases (by omega : k = 0 ∨ k = 1 ∨ k = 2) with rfl | rfl | rfl
  · exact ⟨_, cell_of_row _ z'.a 12 _ _ _ hs.blk, hs.peP⟩
  · exact ⟨_, cell_of_row _ z'.a 22 _ _ _ hs.blk, hs.ca.p⟩
  · exact ⟨_, cell_of_row _ z'.a 32 _ _ _ hs.blk, hs.cu.p⟩
theorem CutAt.free (h : CutAt wB p mb n a2 F par M1 T wr) (k : Nat) : wr.frozen? ⟨a2, k, none⟩ = false := by
  obtain ⟨z', rfl, hs⟩ := h.surf
  exact hs.free k
theorem CutAt.setO (h : CutAt wB p mb n a2 F par M1 T wr) (k : Nat) (hk : k < 3) (xs : List Int) {v : Value} (b1 : Below wr.heap.size wr w1)
    (r1 : Rd w1 v 1 xs.length (xs.map (Value.int .i64))) (i1 : BlkIn (fun b => wr.heap.size ≤ b) v xs.length) :
    CutAt wB p mb n a2 F par M1 (upS k (fun s => { s with order := xs }) T) (w1.setCell ⟨a2, 3 + k * 10 + 8, none⟩ v) := by
  obtain ⟨F', Z', z', h1, h2, h3, h4, h5⟩ := h
  obtain ⟨z'', h6, h7⟩ := h1.find (setM_same _ _ _)
  rw [h2] at h6; cases h6
  subst h3
  obtain ⟨z3, e1, _, _, F3, f1, f2, f3⟩ := h1.cutO h2 h7 k hk xs b1 r1 i1
  rw [setM_setM] at f1
  exact ⟨F3, _, z3, f1, setZ_same _ _ _, e1, h4.trans f2 h5, h5.trans f3 h4.size⟩
theorem CutAt.setP (h : CutAt wB p mb n a2 F par M1 T wr) (k : Nat) (hk : k < 3) (xs : List Ch) {v : Value} (b1 : Below wr.heap.size wr w1)
    (r1 : Rd w1 v 3 xs.length (xs.flatMap Ch.enc)) (i1 : BlkIn (fun b => wr.heap.size ≤ b) v xs.length) :
    CutAt wB p mb n a2 F par M1 (upS k (fun s => { s with places := xs }) T) (w1.setCell ⟨a2, 3 + k * 10 + 9, none⟩ v) := by
  obtain ⟨F', Z', z', h1, h2, h3, h4, h5⟩ := h
  obtain ⟨z'', h6, h7⟩ := h1.find (setM_same _ _ _)
  rw [h2] at h6; cases h6
  subst h3
  obtain ⟨z3, e1, _, _, F3, f1, f2, f3⟩ := h1.cutP h2 h7 k hk xs b1 r1 i1
  rw [setM_setM] at f1
  exact ⟨F3, _, z3, f1, setZ_same _ _ _, e1, h4.trans f2 h5, h5.trans f3 h4.size⟩
theorem CutAt.out (h : CutAt wB p mb n a2 F par M1 T wr) (c0 : Chg F w wB) (hB : w.heap.size ≤ wB.heap.size) : FOutN w p n F (setM M1 par (some T)) wr := by
  obtain ⟨F', Z', z', h1, h2, h3, h4, h5⟩ := h
  exact ⟨F', ⟨mb, Z', h1⟩, c0.trans h4 (Ext.refl _ _), fun b hb => (h5 b hb).imp id fun h => Nat.le_trans hB h⟩
def cuts (t : Sf) (id : Int) : Nat → Sf
  | 0 => t
  | k + 1 => upS k (fun s => { s with places := dropP (stS k t).places id }) (upS k (fun s => { s with order := without (stS k t).order id }) (cuts t id k))
theorem cuts_all (t : Sf) (id : Int) : cuts t id 3 = cutSf t id := rfl
theorem cuts_o (t : Sf) (id : Int) (k : Nat) (hk : k < 3) : stS k (cuts t id k) = stS k t := by rcases (by omega : k = 0 ∨ k = 1 ∨ k = 2) with rfl | rfl | rfl <;> rfl
theorem cuts_p (t : Sf) (id : Int) (k : Nat) (hk : k < 3) (xs : List Int) : (stS k (upS k (fun s => { s with order := xs }) (cuts t id k))).places = (stS k t).places := by rcases (by omega : k = 0 ∨ k = 1 ∨ k = 2) with rfl | rfl | rfl <;> rfl
end

set_option linter.unusedVariables false

theorem Tryz.arr3_0 (x y z : Value) (w : World) : (Instr.index 132 (.agg #[x, y, z]) (.int .i64 0)).run Tryz.prog w = .ok x w := by kernel_rfl
theorem Tryz.arr3_1 (x y z : Value) (w : World) : (Instr.index 132 (.agg #[x, y, z]) (.int .i64 1)).run Tryz.prog w = .ok y w := by kernel_rfl
theorem Tryz.arr3_2 (x y z : Value) (w : World) : (Instr.index 132 (.agg #[x, y, z]) (.int .i64 2)).run Tryz.prog w = .ok z w := by kernel_rfl
section
variable {w w' w1 : World} {p mb n : Nat} {F : Nat → Prop} {Z : Int → Option SfV} {M : Fo} {id : Int} {t t' : Sf} {z z' : SfV}
set_option maxRecDepth 100000 in
set_option maxHeartbeats 2000000 in
theorem fUnsub_any {B : Nat} (w : World) {ae : Nat → Addr} (hE : ErrF B w ae) (hBs : B ≤ w.heap.size) (h : ForZ w p mb F n Z M) (hG : GoodM M) (id : Int) (hid : I64 id)
    (hlen : ∀ i t, M i = some t → ∀ j, j < 3 → (stS j t).order.length ≤ 1000000 ∧ (stS j t).places.length ≤ 1000000) :
    Calls Tryz.prog 44 #[.pointer (some ⟨p, 0, none⟩), .int .i64 id] w fun e w' => e = .returned (errV ae (childK M id)) ∧ FOutN w p n F (funsubS M id) w' := by
  have cC := fun o => fChild_any (w.alloc o) (hE.below ((Below.refl _ w).alloc hBs o)) (h.below ((Below.refl _ w).alloc (Nat.le_refl _) o)) hG id hid
  have hout := hide (fun o q => FOutN.stayB h.out (below_drewN ((Below.refl w.heap.size w).alloc (Nat.le_refl _) o) q))
  cases hs : M id with
  | none =>
    have e1 : childK M id = 5 := by simp [childK, hs]
    have e2 : funsubS M id = M := by simp [funsubS, hs]
    have e3 : childV Z M id = (.pointer none, .pointer none) := by simp [childV, hs]
    rw [e1, e3, show errV ae 5 = .iface 205 (.pointer (some (ae 4))) from rfl] at cC
    rw [e1, e2]
    replace cC := hide cC
    clear h hG hE hs e1 e2 e3 hlen
    go_enter Tryz.func44, Tryz.ntmps44
    go_wp2_with (go_at_call 65; refine (cC.out _).mono ?_; rintro e w' ⟨rfl, q, rfl⟩)
    go_ret
    exact ⟨rfl, hout.out _ _⟩
  | some t =>
    by_cases hp : t.parent = 0
    · have e1 : childK M id = 10 := by simp [childK, hs, hp]
      have e2 : funsubS M id = M := by unfold funsubS; rw [hs]; dsimp only; split <;> simp [hp]
      have e3 : childV Z M id = (.pointer none, .pointer none) := by simp [childV, hs, hp]
      rw [e1, e3, show errV ae 10 = .iface 205 (.pointer (some (ae 9))) from rfl] at cC
      rw [e1, e2]
      replace cC := hide cC
      clear h hG hE hs e1 e2 e3 hlen hp
      go_enter Tryz.func44, Tryz.ntmps44
      go_wp2_with (go_at_call 65; refine (cC.out _).mono ?_; rintro e w' ⟨rfl, q, rfl⟩)
      go_ret
      exact ⟨rfl, hout.out _ _⟩
    · obtain ⟨z, hz, ht⟩ := h.find hs
      obtain ⟨t2, ht2⟩ := hG.par id t hs hp
      obtain ⟨z2, hz2, hs2⟩ := h.find ht2
      have e1 : childK M id = 0 := by simp [childK, hs, hp]
      have e3 : childV Z M id = (.pointer (some ⟨z.a, 0, none⟩), .pointer (some ⟨z2.a, 0, none⟩)) := by simp [childV, hs, hp, hz, hz2, SfV.ptr]
      rw [e1, e3, show errV ae 0 = .nilIface from rfl] at cC
      rw [e1]
      replace cC := hide cC
      have hne : t.parent ≠ id := hG.par_ne hs hp
      have hb1 : ∀ o, (w.alloc o).heap[z.a]? = some (.cells (sfCells id t z) 97 (0, 0)) := fun o => (((Below.refl w.heap.size w).alloc (Nat.le_refl _) o).block z.a (ht.lt z.a (.inl rfl))).trans ht.blk
      have c1 : ∀ o, (w.alloc o).cell? ⟨z.a, 1, none⟩ = some (.int .i64 t.parent) := fun o => cell_of_row _ z.a 1 _ _ _ (hb1 o)
      have f1 : ∀ o, (w.alloc o).frozen? ⟨z.a, 1, none⟩ = false := fun o => frozen_of_row _ z.a 1 _ _ (hb1 o)
      have e2 : funsubS M id = setM (setM M id (some { t with parent := 0 })) t.parent (some (cutSf t2 id)) := by unfold funsubS; rw [hs]; dsimp only; rw [ht2]; dsimp only; rw [if_neg hp]
      rw [e2]
      clear e1 e2 e3 hE
      go_enter Tryz.func44, Tryz.ntmps44
      go_wp2_with (go_at_call 65; refine (cC.out _).mono ?_; rintro e w' ⟨rfl, q, rfl⟩)
      go_wp2
      go_quiet (fail)
      go_wp2
      obtain ⟨wA, hwA⟩ : ∃ wA, wA = (w.alloc (.cells #[.int .i64 id] 3)).drewN q := ⟨_, rfl⟩
      rw [← hwA]
      have bA : Below w.heap.size w wA := by rw [hwA]; exact below_drewN ((Below.refl _ w).alloc (Nat.le_refl _) _) q
      have boxA : wA.heap[w.heap.size]? = some (.cells #[.int .i64 id] 3 (0, 0)) := by rw [hwA]; exact heap_alloc_new _ _
      have boxlt : w.heap.size < wA.heap.size := by rw [hwA]; show w.heap.size < (w.alloc _).heap.size; simp
      have boxF : ¬ F w.heap.size := fun hf => Nat.lt_irrefl _ (h.lt _ hf)
      clear hwA c1 f1 hb1 hout cC
      have hA := h.below bA
      have htA := hA.surf _ _ _ hz hs
      obtain ⟨M1, hM1⟩ : ∃ M1, M1 = setM M id (some { t with parent := 0 }) := ⟨_, rfl⟩
      have hM1' := hide hM1
      have st0 : CutAt wA p mb n z2.a F t.parent M1 (cuts t2 id 0) ((wA.setCell ⟨z.a, 1, none⟩ (.int .i64 0)).drewN nq) := by
        obtain ⟨F1, k1, q1, x1⟩ := hA.turnZ (t' := { t with parent := 0 }) (z' := { z with G := grownG wA (wA.setCell ⟨z.a, 1, none⟩ (.int .i64 0)) z.G }) hz (chg1 wA z.a 1 (.int .i64 0) (.inl rfl)) rfl
          (htA.froz (chg1e wA z.a 1 (.int .i64 0)) rfl rfl (set_cells htA 1 _ rfl) (.inl ⟨rfl, rfl⟩) (.inl ⟨rfl, rfl⟩) .same .same .same .same .same)
        have e : setM M1 t.parent (some t2) = M1 := by
          funext j; unfold setM; split
          · rename_i h; rw [h, hM1, setM_other _ _ hne, ht2]
          · rfl
        rw [← hM1, ← e] at k1
        exact CutAt.keep ⟨F1, _, z2, k1, (setZ_other _ _ hne).trans hz2, rfl, q1, x1⟩ (below_drewN (Below.refl _ _) nq)
      have hl0 := hide (hlen _ _ ht2)
      have cO := hide (fun w v xs => drop_any w v xs id)
      have boxA' := hide boxA
      have bA' := hide bA
      clear h hG hs hp hz ht ht2 hz2 hs2 hA htA hM1 hlen hne boxA bA
      replace st0 := hide st0
      go_loopw [33] (fun i wr => ∃ (k : Nat) (x : Int), (k = 0 ∧ x = 0 ∨ k = 1 ∧ x = 1 ∨ k = 2 ∧ x = 2 ∨ k = 3 ∧ x = 3) ∧ i = .int .i64 x ∧ Hid (CutAt wA p mb n z2.a F t.parent M1 (cuts t2 id k) wr)) (fun i _ => 3 - (intOf i).toNat)
      case atStart => exact ⟨0, 0, by omega, rfl, st0⟩
      case round =>
        obtain ⟨k, x, hkx, rfl, hC⟩ := hrel
        obtain ⟨wC, hwC⟩ : ∃ wC, wC = wr := ⟨_, rfl⟩
        subst hwC
        clear st0
        rcases hkx with ⟨rfl, rfl⟩ | ⟨rfl, rfl⟩ | ⟨rfl, rfl⟩ | ⟨rfl, rfl⟩
        · skip
          obtain ⟨vo, co, ro⟩ : ∃ v, wC.cell? ⟨z2.a, 11, none⟩ = some v ∧ Rd wC v 1 (stS 0 t2).order.length ((stS 0 t2).order.map (Value.int .i64)) := by
            have := hC.out.orderAt 0 (by decide)
            rw [cuts_o t2 id 0 (by decide)] at this
            exact this
          have fo := hC.out.free 11
          have bx : wC.cell? ⟨w.heap.size, 0, none⟩ = some (.int .i64 id) := cell_of_one ((hC.out.box boxlt boxF).trans boxA'.out)
          obtain ⟨Ao, lc, rfl, _⟩ := ro.form
          have cD := hide (fun q => drop_any (wC.drewN q) _ _ id (ro.below (below_drewN (Below.refl _ wC) q) (Nat.le_refl _)) (hl0.out 0 (by decide)).1)
          clear ro
          have ix := Tryz.arr3_0
          go_wp2
          go_region_law (first
            | (go_simp; go_at_call 98; refine (cD.out _).mono ?_; rintro e w1 ⟨v1, rfl, o1, b1⟩; have hC1 := hide (hC.out.keep ((below_drewN (Below.refl wC.heap.size wC) _).trans b1)); obtain ⟨vx, k2⟩ : ∃ v, w1.cell? ⟨z2.a, 11, none⟩ = some v := (hC1.out.orderAt 0 (by decide)).imp fun _ e => e.1; have k3 := hC1.out.free 11; obtain ⟨A1, c1, rfl, _⟩ := own_form o1; replace o1 := hide o1; replace b1 := hide b1)
            | fail)
          all_goals
            have b0 := (below_drewN (Below.refl wC.heap.size wC) 1).trans b1.out
            have hC2 : CutAt wA p mb n z2.a F t.parent M1 (upS 0 (fun s => { s with order := without (stS 0 t2).order id }) (cuts t2 id 0)) (w1.setCell ⟨z2.a, 11, none⟩ (.slice A1 (without (stS 0 t2).order id).length c1)) :=
              CutAt.setO hC.out 0 (by decide) _ b0 (Rd.of_own o1.out) (fun _ b hb => (o1.out.lt b hb).1)
            generalize hwD : w1.setCell ⟨z2.a, 11, none⟩ (.slice A1 (without (stS 0 t2).order id).length c1) = wD at hC2 ⊢
            clear hwD b0 b1 o1 k2 k3 hC1 bx co fo cD hC
            obtain ⟨vp, cp, rp⟩ : ∃ v, wD.cell? ⟨z2.a, 12, none⟩ = some v ∧ Rd wD v 3 (stS 0 t2).places.length ((stS 0 t2).places.flatMap Ch.enc) := by
              have := hC2.placesAt 0 (by decide)
              rw [cuts_p t2 id 0 (by decide)] at this
              exact this
            have bx : wD.cell? ⟨w.heap.size, 0, none⟩ = some (.int .i64 id) := cell_of_one ((hC2.box boxlt boxF).trans boxA'.out)
            have bxl : w.heap.size < wD.heap.size := block_lt_of_cell bx
            obtain ⟨Ap, lp, rfl, _⟩ := rp.form
            have cK := hide (cloneC_any wD _ _ rp (hl0.out 0 (by decide)).2)
            have hll := (hl0.out 0 (by decide)).2
            replace hC2 := hide hC2
            clear rp
            go_wp2_with (first
              | (go_at_call 100; refine cK.out.mono ?_; rintro e w2 ⟨v2, rfl, o2, b2⟩; have bx2 : w2.cell? ⟨w.heap.size, 0, none⟩ = some (.int .i64 id) := (b2.cell (p := ⟨w.heap.size, 0, none⟩) bxl).trans bx; obtain ⟨A2, c2, rfl, _⟩ := own_form o2; have cE := hide (delC_any w2 _ _ _ w.heap.size id o2 hll bx2 (fun e => Nat.lt_irrefl _ (Nat.lt_of_lt_of_le bxl (o2.lt _ e).1))); replace o2 := hide o2; replace b2 := hide b2)
              | (go_at_call 99; refine cE.out.mono ?_; rintro e w3 ⟨A3, c3, rfl, r3, g3, h3⟩; have b3 : Below wD.heap.size wD w3 := b2.out.trans (h3.below b2.out.size (fun b hb => (o2.out.lt b hb).1)); have hC3 := hide (hC2.out.keep b3); obtain ⟨vx, k2⟩ : ∃ v, w3.cell? ⟨z2.a, 12, none⟩ = some v := (hC3.out.placesAt 0 (by decide)).imp fun _ e => e.1; have k3 := hC3.out.free 12; have i3 := hide (fun (_ : 0 < (dropP (stS 0 t2).places id).length) b (hb : (Value.slice A3 (dropP (stS 0 t2).places id).length c3).ownBlock = some b) => (by cases A3 with | none => cases hb | some g => exact (by simpa [Value.ownBlock] using hb : g.block = b) ▸ (o2.out.lt _ (g3 g rfl)).1 : wD.heap.size ≤ b)); replace r3 := hide r3; replace b3 := hide b3; clear g3 h3))
            all_goals
              go_roundw
              case rel => exact ⟨0 + 1, 0 + 1, by omega, by go_num, hide (by first | exact CutAt.setP hC2.out 0 (by decide) _ b3.out r3.out i3.out | exact (CutAt.setP hC2.out 0 (by decide) _ b3.out r3.out i3.out).keep (below_drewN (Below.refl _ _) _))⟩
              case measure => simp [intOf]
        · skip
          obtain ⟨vo, co, ro⟩ : ∃ v, wC.cell? ⟨z2.a, 21, none⟩ = some v ∧ Rd wC v 1 (stS 1 t2).order.length ((stS 1 t2).order.map (Value.int .i64)) := by
            have := hC.out.orderAt 1 (by decide)
            rw [cuts_o t2 id 1 (by decide)] at this
            exact this
          have fo := hC.out.free 21
          have bx : wC.cell? ⟨w.heap.size, 0, none⟩ = some (.int .i64 id) := cell_of_one ((hC.out.box boxlt boxF).trans boxA'.out)
          obtain ⟨Ao, lc, rfl, _⟩ := ro.form
          have cD := hide (fun q => drop_any (wC.drewN q) _ _ id (ro.below (below_drewN (Below.refl _ wC) q) (Nat.le_refl _)) (hl0.out 1 (by decide)).1)
          clear ro
          have ix := Tryz.arr3_1
          go_wp2
          go_region_law (first
            | (go_simp; go_at_call 98; refine (cD.out _).mono ?_; rintro e w1 ⟨v1, rfl, o1, b1⟩; have hC1 := hide (hC.out.keep ((below_drewN (Below.refl wC.heap.size wC) _).trans b1)); obtain ⟨vx, k2⟩ : ∃ v, w1.cell? ⟨z2.a, 21, none⟩ = some v := (hC1.out.orderAt 1 (by decide)).imp fun _ e => e.1; have k3 := hC1.out.free 21; obtain ⟨A1, c1, rfl, _⟩ := own_form o1; replace o1 := hide o1; replace b1 := hide b1)
            | fail)
          all_goals
            have b0 := (below_drewN (Below.refl wC.heap.size wC) 1).trans b1.out
            have hC2 : CutAt wA p mb n z2.a F t.parent M1 (upS 1 (fun s => { s with order := without (stS 1 t2).order id }) (cuts t2 id 1)) (w1.setCell ⟨z2.a, 21, none⟩ (.slice A1 (without (stS 1 t2).order id).length c1)) :=
              CutAt.setO hC.out 1 (by decide) _ b0 (Rd.of_own o1.out) (fun _ b hb => (o1.out.lt b hb).1)
            generalize hwD : w1.setCell ⟨z2.a, 21, none⟩ (.slice A1 (without (stS 1 t2).order id).length c1) = wD at hC2 ⊢
            clear hwD b0 b1 o1 k2 k3 hC1 bx co fo cD hC
            obtain ⟨vp, cp, rp⟩ : ∃ v, wD.cell? ⟨z2.a, 22, none⟩ = some v ∧ Rd wD v 3 (stS 1 t2).places.length ((stS 1 t2).places.flatMap Ch.enc) := by
              have := hC2.placesAt 1 (by decide)
              rw [cuts_p t2 id 1 (by decide)] at this
              exact this
            have bx : wD.cell? ⟨w.heap.size, 0, none⟩ = some (.int .i64 id) := cell_of_one ((hC2.box boxlt boxF).trans boxA'.out)
            have bxl : w.heap.size < wD.heap.size := block_lt_of_cell bx
            obtain ⟨Ap, lp, rfl, _⟩ := rp.form
            have cK := hide (cloneC_any wD _ _ rp (hl0.out 1 (by decide)).2)
            have hll := (hl0.out 1 (by decide)).2
            replace hC2 := hide hC2
            clear rp
            go_wp2_with (first
              | (go_at_call 100; refine cK.out.mono ?_; rintro e w2 ⟨v2, rfl, o2, b2⟩; have bx2 : w2.cell? ⟨w.heap.size, 0, none⟩ = some (.int .i64 id) := (b2.cell (p := ⟨w.heap.size, 0, none⟩) bxl).trans bx; obtain ⟨A2, c2, rfl, _⟩ := own_form o2; have cE := hide (delC_any w2 _ _ _ w.heap.size id o2 hll bx2 (fun e => Nat.lt_irrefl _ (Nat.lt_of_lt_of_le bxl (o2.lt _ e).1))); replace o2 := hide o2; replace b2 := hide b2)
              | (go_at_call 99; refine cE.out.mono ?_; rintro e w3 ⟨A3, c3, rfl, r3, g3, h3⟩; have b3 : Below wD.heap.size wD w3 := b2.out.trans (h3.below b2.out.size (fun b hb => (o2.out.lt b hb).1)); have hC3 := hide (hC2.out.keep b3); obtain ⟨vx, k2⟩ : ∃ v, w3.cell? ⟨z2.a, 22, none⟩ = some v := (hC3.out.placesAt 1 (by decide)).imp fun _ e => e.1; have k3 := hC3.out.free 22; have i3 := hide (fun (_ : 0 < (dropP (stS 1 t2).places id).length) b (hb : (Value.slice A3 (dropP (stS 1 t2).places id).length c3).ownBlock = some b) => (by cases A3 with | none => cases hb | some g => exact (by simpa [Value.ownBlock] using hb : g.block = b) ▸ (o2.out.lt _ (g3 g rfl)).1 : wD.heap.size ≤ b)); replace r3 := hide r3; replace b3 := hide b3; clear g3 h3))
            all_goals
              go_roundw
              case rel => exact ⟨1 + 1, 1 + 1, by omega, by go_num, hide (by first | exact CutAt.setP hC2.out 1 (by decide) _ b3.out r3.out i3.out | exact (CutAt.setP hC2.out 1 (by decide) _ b3.out r3.out i3.out).keep (below_drewN (Below.refl _ _) _))⟩
              case measure => simp [intOf]
        · skip
          obtain ⟨vo, co, ro⟩ : ∃ v, wC.cell? ⟨z2.a, 31, none⟩ = some v ∧ Rd wC v 1 (stS 2 t2).order.length ((stS 2 t2).order.map (Value.int .i64)) := by
            have := hC.out.orderAt 2 (by decide)
            rw [cuts_o t2 id 2 (by decide)] at this
            exact this
          have fo := hC.out.free 31
          have bx : wC.cell? ⟨w.heap.size, 0, none⟩ = some (.int .i64 id) := cell_of_one ((hC.out.box boxlt boxF).trans boxA'.out)
          obtain ⟨Ao, lc, rfl, _⟩ := ro.form
          have cD := hide (fun q => drop_any (wC.drewN q) _ _ id (ro.below (below_drewN (Below.refl _ wC) q) (Nat.le_refl _)) (hl0.out 2 (by decide)).1)
          clear ro
          have ix := Tryz.arr3_2
          go_wp2
          go_region_law (first
            | (go_simp; go_at_call 98; refine (cD.out _).mono ?_; rintro e w1 ⟨v1, rfl, o1, b1⟩; have hC1 := hide (hC.out.keep ((below_drewN (Below.refl wC.heap.size wC) _).trans b1)); obtain ⟨vx, k2⟩ : ∃ v, w1.cell? ⟨z2.a, 31, none⟩ = some v := (hC1.out.orderAt 2 (by decide)).imp fun _ e => e.1; have k3 := hC1.out.free 31; obtain ⟨A1, c1, rfl, _⟩ := own_form o1; replace o1 := hide o1; replace b1 := hide b1)
            | fail)
          all_goals
            have b0 := (below_drewN (Below.refl wC.heap.size wC) 1).trans b1.out
            have hC2 : CutAt wA p mb n z2.a F t.parent M1 (upS 2 (fun s => { s with order := without (stS 2 t2).order id }) (cuts t2 id 2)) (w1.setCell ⟨z2.a, 31, none⟩ (.slice A1 (without (stS 2 t2).order id).length c1)) :=
              CutAt.setO hC.out 2 (by decide) _ b0 (Rd.of_own o1.out) (fun _ b hb => (o1.out.lt b hb).1)
            generalize hwD : w1.setCell ⟨z2.a, 31, none⟩ (.slice A1 (without (stS 2 t2).order id).length c1) = wD at hC2 ⊢
            clear hwD b0 b1 o1 k2 k3 hC1 bx co fo cD hC
            obtain ⟨vp, cp, rp⟩ : ∃ v, wD.cell? ⟨z2.a, 32, none⟩ = some v ∧ Rd wD v 3 (stS 2 t2).places.length ((stS 2 t2).places.flatMap Ch.enc) := by
              have := hC2.placesAt 2 (by decide)
              rw [cuts_p t2 id 2 (by decide)] at this
              exact this
            have bx : wD.cell? ⟨w.heap.size, 0, none⟩ = some (.int .i64 id) := cell_of_one ((hC2.box boxlt boxF).trans boxA'.out)
            have bxl : w.heap.size < wD.heap.size := block_lt_of_cell bx
            obtain ⟨Ap, lp, rfl, _⟩ := rp.form
            have cK := hide (cloneC_any wD _ _ rp (hl0.out 2 (by decide)).2)
            have hll := (hl0.out 2 (by decide)).2
            replace hC2 := hide hC2
            clear rp
            go_wp2_with (first
              | (go_at_call 100; refine cK.out.mono ?_; rintro e w2 ⟨v2, rfl, o2, b2⟩; have bx2 : w2.cell? ⟨w.heap.size, 0, none⟩ = some (.int .i64 id) := (b2.cell (p := ⟨w.heap.size, 0, none⟩) bxl).trans bx; obtain ⟨A2, c2, rfl, _⟩ := own_form o2; have cE := hide (delC_any w2 _ _ _ w.heap.size id o2 hll bx2 (fun e => Nat.lt_irrefl _ (Nat.lt_of_lt_of_le bxl (o2.lt _ e).1))); replace o2 := hide o2; replace b2 := hide b2)
              | (go_at_call 99; refine cE.out.mono ?_; rintro e w3 ⟨A3, c3, rfl, r3, g3, h3⟩; have b3 : Below wD.heap.size wD w3 := b2.out.trans (h3.below b2.out.size (fun b hb => (o2.out.lt b hb).1)); have hC3 := hide (hC2.out.keep b3); obtain ⟨vx, k2⟩ : ∃ v, w3.cell? ⟨z2.a, 32, none⟩ = some v := (hC3.out.placesAt 2 (by decide)).imp fun _ e => e.1; have k3 := hC3.out.free 32; have i3 := hide (fun (_ : 0 < (dropP (stS 2 t2).places id).length) b (hb : (Value.slice A3 (dropP (stS 2 t2).places id).length c3).ownBlock = some b) => (by cases A3 with | none => cases hb | some g => exact (by simpa [Value.ownBlock] using hb : g.block = b) ▸ (o2.out.lt _ (g3 g rfl)).1 : wD.heap.size ≤ b)); replace r3 := hide r3; replace b3 := hide b3; clear g3 h3))
            all_goals
              go_roundw
              case rel => exact ⟨2 + 1, 2 + 1, by omega, by go_num, hide (by first | exact CutAt.setP hC2.out 2 (by decide) _ b3.out r3.out i3.out | exact (CutAt.setP hC2.out 2 (by decide) _ b3.out r3.out i3.out).keep (below_drewN (Below.refl _ _) _))⟩
              case measure => simp [intOf]
        · go_wp2
          go_ret
          refine ⟨rfl, ?_⟩
          have := (hC.out.out (Chg.of_below bA'.out F) bA'.out.size)
          rw [cuts_all, hM1'.out] at this
          exact this
end
end Go.Proofs.YthkjicnnepkghaaGreatDoor
namespace Go.Proofs.YthkjicnnepkghaaGreatDoor
open Go.RowKit
set_option linter.unusedVariables false

section
variable {w w' w1 : World} {p mb n : Nat} {F : Nat → Prop} {Z : Int → Option SfV} {M : Fo} {id : Int} {t t' : Sf} {z z' : SfV}
theorem ForZ.less (h : ForZ w p mb F n Z M) (hc : Chg (fun b => b = mb) w w') (hm : MapAt Tryz.prog 3 w' mb n (delM (fun id => (Z id).map SfV.ptr) id)) :
    ForZ w' p mb F n (setZ Z id none) (setM M id none) := by
  obtain ⟨es, cl, hmb⟩ := h.map.isMapBlock
  have hpm : p ≠ mb := ne_of_typesF h.cell hmb (by simp)
  have hk : ∀ b, F b → b ≠ mb → w'.heap[b]? = w.heap[b]? := fun b hb h1 => hc.block b (h.lt b hb) h1
  have old : ∀ {j y}, setZ Z id none j = some y → j ≠ id ∧ Z j = some y := fun {j y} hy => by
    rcases setZ_eq hy with ⟨_, e⟩ | e
    · cases e
    · exact e
  refine ⟨(hk p h.pF hpm).trans h.cell, ?_, h.pF, h.mF, ?_, ?_, ?_, ?_, ?_, ?_⟩
  · refine hm.congr fun j hj => ?_
    unfold setZ delM
    by_cases e : j = id <;> simp [e]
  · intro j y s hy hs2
    obtain ⟨e1, e⟩ := old hy
    rw [setM_other _ _ e1] at hs2
    exact (h.surf j y s e hs2).keep hc.size fun b hb => hk b (h.inF j y e b hb) fun hb2 => (h.pz j y e).2 (hb2 ▸ hb)
  · intro j y hy
    exact h.inF j y (old hy).2
  · intro j
    by_cases e : j = id
    · subst e; rw [setM_same]; simp [setZ]
    · rw [setM_other _ _ e]; simp [setZ, e, h.dom j]
  · intro i j y1 y2 h1 h2 hij
    exact h.one i j y1 y2 (old h1).2 (old h2).2 hij
  · intro i y hy
    exact h.pz i y (old hy).2
  · exact fun b hb => Nat.lt_of_lt_of_le (h.lt b hb) hc.size
theorem ForZ.freed (h : ForZ w p mb F n Z M) {j : Int} (hz : Z j = some z) (hs : M j = some t) :
    ∃ z', z'.a = z.a ∧ FZOut w p mb n F (setZ Z j (some z')) (setM M j (some { t with parent := 0 })) (w.setCell ⟨z.a, 1, none⟩ (.int .i64 0)) := by
  have ht := h.surf _ _ _ hz hs
  exact ⟨{ z with G := grownG w (w.setCell ⟨z.a, 1, none⟩ (.int .i64 0)) z.G }, rfl, h.turnZ (t' := { t with parent := 0 }) hz (chg1 w z.a 1 (.int .i64 0) (.inl rfl)) rfl
    (ht.froz (chg1e w z.a 1 (.int .i64 0)) rfl rfl (set_cells ht 1 _ rfl) (.inl ⟨rfl, rfl⟩) (.inl ⟨rfl, rfl⟩) .same .same .same .same .same)⟩

def orphL (M : Fo) (id : Int) (L : Int → Bool) : Fo := fun j => (M j).map fun s => if s.parent = id ∧ L j = false then { s with parent := 0 } else s
theorem orphL_start (M : Fo) (id : Int) : orphL M id (fun j => (M j).isSome) = M := by
  funext j
  unfold orphL
  cases h : M j with
  | none => rfl
  | some s => simp [h]
theorem orphL_end {M : Fo} {id : Int} {L : Int → Bool} (h : ∀ j, (M j).isSome → L j = false) : orphL M id L = orphan M id := by
  funext j
  unfold orphL orphan
  cases e : M j with
  | none => rfl
  | some s => simp [h j (by rw [e]; rfl)]
theorem orphan_gone (M : Fo) (id : Int) : orphan (setM M id none) id = setM (orphan M id) id none := by
  funext j
  unfold orphan setM
  split <;> rfl
theorem orphL_skip {M : Fo} {id x : Int} {L : Int → Bool} {s : Sf} (hs : M x = some s) (hp : s.parent ≠ id) : orphL M id (fun z => L z && z != x) = orphL M id L := by
  funext j
  unfold orphL
  by_cases e : j = x
  · subst e; rw [hs]; simp [hp]
  · have : (j != x) = true := by simpa using e
    simp [this]
theorem orphL_take {M : Fo} {id x : Int} {L : Int → Bool} {s : Sf} (hs : M x = some s) (hp : s.parent = id) (hL : L x = true) :
    orphL M id L x = some s ∧ orphL M id (fun z => L z && z != x) = setM (orphL M id L) x (some { s with parent := 0 }) := by
  refine ⟨by unfold orphL; rw [hs]; simp [hL], ?_⟩
  funext j
  by_cases e : j = x
  · subst e; rw [setM_same]; unfold orphL; rw [hs]; simp [hp]
  · rw [setM_other _ _ e]
    unfold orphL
    have : (j != x) = true := by simpa using e
    simp [this]
theorem grown_setCellF (w : World) (a k : Nat) (u : Value) : w.grownBy (w.setCell ⟨a, k, none⟩ u) (some a) :=
  have c := chg1e w a k u
  ⟨c.os, c.tape, c.output, c.size, fun b hb hn => c.block b hb (fun e => hn (by rw [e]))⟩
theorem range_setCell {ki : TypeId} {r cnt : Nat} {N : Int → Option Value} {L : Int → Bool} (h : RangeAt Tryz.prog ki w mb r n N L cnt) {a k : Nat} {u : Value} (h1 : a ≠ mb) (h2 : a ≠ r) : RangeAt Tryz.prog ki (w.setCell ⟨a, k, none⟩ u) mb r n N L cnt :=
  h.kept (grown_setCellF w a k u) (fun e => h1 (Option.some.inj e).symm) (fun e => h2 (Option.some.inj e).symm)
end

set_option linter.unusedVariables false

theorem orphL_all {M : Fo} {id : Int} {L : Int → Bool} (h : ∀ j, (M j).isSome → L j = true) : orphL M id L = M := by
  funext j
  unfold orphL
  cases e : M j with
  | none => rfl
  | some s => simp [h j (by rw [e]; rfl)]
section
variable {w w' w1 : World} {p mb n : Nat} {F : Nat → Prop} {Z : Int → Option SfV} {M : Fo} {id : Int} {t t' : Sf} {z z' : SfV}
set_option maxRecDepth 100000 in
set_option maxHeartbeats 2000000 in
theorem fDrop_none {B : Nat} (w : World) {ae : Nat → Addr} (hE : ErrF B w ae) (h : ForZ w p mb F n Z M) (id : Int) (hid : I64 id) (hs : M id = none) :
    Calls Tryz.prog 40 #[.pointer (some ⟨p, 0, none⟩), .int .i64 id] w fun e w' => e = .returned (errV ae 5) ∧ w' = w := by
  have g4 : w.cell? ⟨4, 0, none⟩ = _ := hE.glob 4 (by decide)
  have cH := fHas_any w h id hid
  rw [hs] at cH
  simp only [Option.isSome_none] at cH
  replace cH := hide cH
  clear h hE hs
  go_enter Tryz.func40, Tryz.ntmps40
  go_wp2_with (go_at_call 76; refine cH.out.mono ?_; rintro e w' ⟨rfl, rfl⟩)
  go_ret
  exact ⟨rfl, rfl⟩

set_option maxRecDepth 100000 in
set_option maxHeartbeats 2000000 in
theorem fDrop_free (w : World) (h : ForZ w p mb F n Z M) (id : Int) (hid : I64 id) (hs : M id = some t) (h0 : t.parent = 0) :
    Calls Tryz.prog 40 #[.pointer (some ⟨p, 0, none⟩), .int .i64 id] w fun e w' => e = .returned .nilIface ∧ FOutN w p n F (setM (orphan M id) id none) w' := by
  have hc := h.cellP
  have cH := fHas_any w h id hid
  have cP := fParent_any w h id hid
  have e0 : parM M id = 0 := by simp [parM, hs, h0]
  rw [hs] at cH
  rw [e0] at cP
  simp only [Option.isSome_some] at cH
  replace cH := hide cH
  replace cP := hide cP
  have hh := hide h
  have hsh := hide hs
  clear h hs h0 e0
  go_enter Tryz.func40, Tryz.ntmps40
  go_wp2_with (first
    | (go_at_call 76; refine cH.out.mono ?_; rintro e w' ⟨rfl, rfl⟩)
    | (go_at_call 77; refine cP.out.mono ?_; rintro e w' ⟨rfl, rfl⟩)
    | (at_delete; refine wpList_del rfl _ _ 77 3 rfl 95 Tryz.underlying3 Tryz.underlying77 mb n _ rfl hh.out.map id rfl hid ?_; intro w1 hm2 hg2; have h1 := hide (hh.out.less (Chg.grown hg2 (F := fun b => b = mb) (fun b hb => (Option.some.inj hb).symm)) hm2); have hc1 := h1.out.cellP)
    | (at_range; refine wpList_rangeM rfl _ _ rfl 3 95 Tryz.underlying3 Tryz.underlying77 mb n _ rfl h1.out.map ?_; intro w2 cnt hR hgr hsz))
  have hrl : ¬ F w1.heap.size := fun hf => by have := hh.out.lt _ hf; have := hg2.size; omega
  have hF2 := hide (h1.out.below (Chg.below (Chg.grown hgr (F := fun _ => False) (fun b hb => by cases hb)) (Nat.le_refl _) (fun _ hb => hb.elim)))
  have hc2 : Hid (Chg F w w2) := hide (((Chg.grown hg2 (F := fun b => b = mb) (fun b hb => (Option.some.inj hb).symm)).mono (fun b _ hb => hb ▸ hh.out.mF)).trans (Chg.grown hgr (F := F) (fun b hb => by cases hb)) (Ext.refl _ _))
  replace hR := hide hR
  have hrs : w1.heap.size < w2.heap.size := by omega
  have hw1 := hide (hg2.size)
  clear hgr hg2 hm2 hc1 hc h1
  go_frame
  go_loopw [6] (fun _ wr => ∃ (L : Int → Bool) (cnt : Nat), Hid (RangeAt Tryz.prog 3 wr mb w1.heap.size n (fun j => (setZ Z id none j).map SfV.ptr) L cnt) ∧
      Hid (∃ Fr Zr, ForZ wr p mb Fr n Zr (orphL (setM M id none) id L) ∧ Chg F w wr ∧ Ext F Fr w2.heap.size ∧ w2.heap.size ≤ wr.heap.size ∧ ∀ j, (Zr j).map SfV.ptr = (setZ Z id none j).map SfV.ptr)) (fun _ wr => wr.rangeLeft mb w1.heap.size)
  case atStart =>
    refine ⟨_, cnt, hR, hide ⟨F, _, ?_, hc2.out, Ext.refl _ _, Nat.le_refl _, fun _ => rfl⟩⟩
    rw [orphL_all fun j hj => by have := hF2.out.dom j; rw [hj] at this; simpa using this]
    exact hF2.out
  case round =>
    obtain ⟨L, cnt, hR, hZ⟩ := hrel
    obtain ⟨wC, hwC⟩ : ∃ wC, wC = wr := ⟨_, rfl⟩
    subst hwC
    go_wp2_with (at_next; refine wpList_nextM rfl _ rfl 3 Tryz.underlying3 mb w1.heap.size n _ L cnt rfl hR.out ?_ ?_)
    · intro hDone
      have hL : ∀ j, (setM M id none j).isSome → L j = false := fun j hj => by
        obtain ⟨s, hs⟩ := Option.isSome_iff_exists.1 hj
        obtain ⟨z, hz, ht⟩ := hF2.out.find hs
        exact hDone j ht.id64
      have hfin : Hid (FOutN w p n F (setM (orphan M id) id none) wC) := hide (by
        obtain ⟨Fr, Zr, k1, k2, k3, _⟩ := hZ.out
        rw [orphL_end hL, orphan_gone] at k1
        exact ⟨Fr, ⟨mb, Zr, k1⟩, k2, fun b hb => (k3 b hb).imp (fun x => x) fun h => Nat.le_trans hc2.out.size h⟩)
      clear hDone hL hR hZ
      go_wp2
      go_ret
      exact ⟨rfl, hfin.out⟩
    · intro x v w3 cnt' hx hL z' hzz hvv hR' hlt hgr hsz hen
      obtain ⟨Fr, Zr, k1, k2, k3, k5, k4⟩ := hZ.out
      have hv := (k4 x).trans (congrArg (Option.map SfV.ptr) hzz)
      obtain ⟨z, hz, hzp⟩ := Option.map_eq_some_iff.1 hv
      rw [← hvv, ← hzp] at hen ⊢
      have hnr : ¬ Fr w1.heap.size := fun hf => by rcases k3 _ hf with h | h; exact hrl h; omega
      have k1' := k1.chg (Chg.grown hgr (F := fun b => b = w1.heap.size) (fun b hb => (Option.some.inj hb).symm)) (fun b hb e => hnr (e ▸ hb))
      have hsx : ∃ s, orphL (setM M id none) id L x = some s := Option.isSome_iff_exists.1 (by have := k1.dom x; rw [hz] at this; exact this.symm)
      obtain ⟨s, hsx⟩ := hsx
      have ht := k1'.surf _ _ _ hz hsx
      have c1 : w3.cell? ⟨z.a, 1, none⟩ = some (.int .i64 s.parent) := ht.cell 1
      have f1 := ht.free 1
      have hc3 : Chg F w w3 := k2.trans (Chg.grown hgr (F := fun b => b = w1.heap.size) (fun b hb => (Option.some.inj hb).symm)) (fun b hb => .inr (by subst hb; exact hw1.out))
      have hR3 := hide hR'
      have hlt3 : w3.rangeLeft mb w1.heap.size < wC.rangeLeft mb w1.heap.size := by rw [hR'.left_eq, hR.out.left_eq]; exact hlt
      have hsM : setM M id none x = some s := by
        unfold orphL at hsx
        cases e : setM M id none x with
        | none => rw [e] at hsx; cases hsx
        | some s' => rw [e] at hsx; simpa [hL] using hsx
      simp only [SfV.ptr] at hen
      by_cases hp : s.parent = id
      · have hq : (s.parent == id) = true := by simpa using hp
        obtain ⟨z3, e1, Fr2, a1, a2, a3⟩ := k1'.freed hz hsx
        rw [← (orphL_take hsM hp hL).2] at a1
        have hsz4 := a2.size
        have hnew : Hid (∃ Fr Zr, ForZ (w3.setCell ⟨z.a, 1, none⟩ (.int .i64 0)) p mb Fr n Zr (orphL (setM M id none) id fun z => L z && z != x) ∧ Chg F w (w3.setCell ⟨z.a, 1, none⟩ (.int .i64 0)) ∧ Ext F Fr w2.heap.size ∧ w2.heap.size ≤ (w3.setCell ⟨z.a, 1, none⟩ (.int .i64 0)).heap.size ∧ ∀ j, (Zr j).map SfV.ptr = (setZ Z id none j).map SfV.ptr) :=
          hide ⟨Fr2, _, a1, hc3.trans a2 (fun b hb => (k3 b hb).imp (fun x => x) fun h => Nat.le_trans hc2.out.size h), k3.trans a3 (by omega), by omega, fun j => by
            by_cases e : j = x
            · subst e; rw [setZ_same, ← k4 j, hz]; simp [SfV.ptr, e1]
            · rw [setZ_other _ _ e]; exact k4 j⟩
        have hpz := k1'.pz x z hz
        have hRs := hide (range_setCell (k := 1) (u := .int .i64 0) hR3.out (a := z.a) (fun e => hpz.2 (.inl e.symm)) (fun e => hnr (e ▸ k1'.inF x z hz z.a (.inl rfl))))
        have hlt4 : (w3.setCell ⟨z.a, 1, none⟩ (.int .i64 0)).rangeLeft mb w1.heap.size < wC.rangeLeft mb w1.heap.size := by rw [hRs.out.left_eq, hR.out.left_eq]; exact hlt
        clear hp hsM hsx k1' k1 hZ a1 a2 a3
        go_wp2
        go_roundw
        case rel => exact ⟨_, cnt', hRs, hnew⟩
        case measure => exact hlt4
      · have hq : (s.parent == id) = false := by simpa using hp
        have hnew : Hid (∃ Fr Zr, ForZ w3 p mb Fr n Zr (orphL (setM M id none) id fun z => L z && z != x) ∧ Chg F w w3 ∧ Ext F Fr w2.heap.size ∧ w2.heap.size ≤ w3.heap.size ∧ ∀ j, (Zr j).map SfV.ptr = (setZ Z id none j).map SfV.ptr) :=
          hide ⟨Fr, Zr, by rw [orphL_skip hsM hp]; exact k1', hc3, k3, by omega, k4⟩
        clear hp hsM hsx k1' k1 hZ
        go_wp2
        go_roundw
        case rel => exact ⟨_, cnt', hR3, hnew⟩
        case measure => exact hlt3

set_option maxRecDepth 100000 in
set_option maxHeartbeats 2000000 in
theorem fDrop_sub {B : Nat} (w0 : World) {ae : Nat → Addr} (hE : ErrF B w0 ae) (hBs : B ≤ w0.heap.size) {F0 : Nat → Prop} {Z0 : Int → Option SfV} {M0 : Fo} {mb0 : Nat} (h : ForZ w0 p mb0 F0 n Z0 M0) (hG : GoodM M0) (id : Int) (hid : I64 id) (hs : M0 id = some t) (h0 : 0 < t.parent)
    (hlen : ∀ i t, M0 i = some t → ∀ j, j < 3 → (stS j t).order.length ≤ 1000000 ∧ (stS j t).places.length ≤ 1000000) :
    Calls Tryz.prog 40 #[.pointer (some ⟨p, 0, none⟩), .int .i64 id] w0 fun e w' => e = .returned .nilIface ∧ FOutN w0 p n F0 (setM (orphan (funsubS M0 id) id) id none) w' := by
  have cU := fUnsub_any w0 hE hBs h hG id hid hlen
  have ek : childK M0 id = 0 := by unfold childK; rw [hs]; dsimp only; rw [if_neg (by omega)]
  rw [ek] at cU
  have cH := fHas_any w0 h id hid
  have cP := fParent_any w0 h id hid
  have e0 : parM M0 id = t.parent := by simp [parM, hs]
  rw [hs] at cH
  rw [e0] at cP
  simp only [Option.isSome_some] at cH
  replace cH := hide cH
  replace cP := hide cP
  replace cU := hide cU
  have hq0 : decide (0 < t.parent) = true := by simpa using h0
  obtain ⟨M, hMM⟩ : ∃ M, M = funsubS M0 id := ⟨_, rfl⟩
  clear h hs e0 ek hE hG hlen
  go_enter Tryz.func40, Tryz.ntmps40
  go_wp2_with (first
    | (go_at_call 76; refine cH.out.mono ?_; rintro e w' ⟨rfl, rfl⟩)
    | (go_at_call 77; refine cP.out.mono ?_; rintro e w' ⟨rfl, rfl⟩)
    | (go_at_call 44; refine cU.out.mono ?_; rintro e w ⟨rfl, F, ⟨mb, Z, hh⟩, hcA, hxA⟩; rw [← hMM] at hh; have hc := hh.cellP; replace hh := hide hh; replace hcA := hide hcA; replace hxA := hide hxA)
    | (at_delete; refine wpList_del rfl _ _ 77 3 rfl 95 Tryz.underlying3 Tryz.underlying77 mb n _ rfl hh.out.map id rfl hid ?_; intro w1 hm2 hg2; have h1 := hide (hh.out.less (Chg.grown hg2 (F := fun b => b = mb) (fun b hb => (Option.some.inj hb).symm)) hm2); have hc1 := h1.out.cellP)
    | (at_range; refine wpList_rangeM rfl _ _ rfl 3 95 Tryz.underlying3 Tryz.underlying77 mb n _ rfl h1.out.map ?_; intro w2 cnt hR hgr hsz))
  have hrl : ¬ F w1.heap.size := fun hf => by have := hh.out.lt _ hf; have := hg2.size; omega
  have hF2 := hide (h1.out.below (Chg.below (Chg.grown hgr (F := fun _ => False) (fun b hb => by cases hb)) (Nat.le_refl _) (fun _ hb => hb.elim)))
  have hc2 : Hid (Chg F w w2) := hide (((Chg.grown hg2 (F := fun b => b = mb) (fun b hb => (Option.some.inj hb).symm)).mono (fun b _ hb => hb ▸ hh.out.mF)).trans (Chg.grown hgr (F := F) (fun b hb => by cases hb)) (Ext.refl _ _))
  replace hR := hide hR
  have hrs : w1.heap.size < w2.heap.size := by omega
  have hw1 := hide (hg2.size)
  clear hgr hg2 hm2 hc1 hc h1
  go_frame
  go_loopw [6] (fun _ wr => ∃ (L : Int → Bool) (cnt : Nat), Hid (RangeAt Tryz.prog 3 wr mb w1.heap.size n (fun j => (setZ Z id none j).map SfV.ptr) L cnt) ∧
      Hid (∃ Fr Zr, ForZ wr p mb Fr n Zr (orphL (setM M id none) id L) ∧ Chg F w wr ∧ Ext F Fr w2.heap.size ∧ w2.heap.size ≤ wr.heap.size ∧ ∀ j, (Zr j).map SfV.ptr = (setZ Z id none j).map SfV.ptr)) (fun _ wr => wr.rangeLeft mb w1.heap.size)
  case atStart =>
    refine ⟨_, cnt, hR, hide ⟨F, _, ?_, hc2.out, Ext.refl _ _, Nat.le_refl _, fun _ => rfl⟩⟩
    rw [orphL_all fun j hj => by have := hF2.out.dom j; rw [hj] at this; simpa using this]
    exact hF2.out
  case round =>
    obtain ⟨L, cnt, hR, hZ⟩ := hrel
    obtain ⟨wC, hwC⟩ : ∃ wC, wC = wr := ⟨_, rfl⟩
    subst hwC
    go_wp2_with (at_next; refine wpList_nextM rfl _ rfl 3 Tryz.underlying3 mb w1.heap.size n _ L cnt rfl hR.out ?_ ?_)
    · intro hDone
      have hL : ∀ j, (setM M id none j).isSome → L j = false := fun j hj => by
        obtain ⟨s, hs⟩ := Option.isSome_iff_exists.1 hj
        obtain ⟨z, hz, ht⟩ := hF2.out.find hs
        exact hDone j ht.id64
      have hfin : Hid (FOutN w p n F (setM (orphan M id) id none) wC) := hide (by
        obtain ⟨Fr, Zr, k1, k2, k3, _⟩ := hZ.out
        rw [orphL_end hL, orphan_gone] at k1
        exact ⟨Fr, ⟨mb, Zr, k1⟩, k2, fun b hb => (k3 b hb).imp (fun x => x) fun h => Nat.le_trans hc2.out.size h⟩)
      clear hDone hL hR hZ
      go_wp2
      go_ret
      exact ⟨rfl, hMM ▸ hfin.out.elim fun F9 q => ⟨F9, q.1, hcA.out.trans q.2.1 hxA.out, hxA.out.trans q.2.2 hcA.out.size⟩⟩
    · intro x v w3 cnt' hx hL z' hzz hvv hR' hlt hgr hsz hen
      obtain ⟨Fr, Zr, k1, k2, k3, k5, k4⟩ := hZ.out
      have hv := (k4 x).trans (congrArg (Option.map SfV.ptr) hzz)
      obtain ⟨z, hz, hzp⟩ := Option.map_eq_some_iff.1 hv
      rw [← hvv, ← hzp] at hen ⊢
      have hnr : ¬ Fr w1.heap.size := fun hf => by rcases k3 _ hf with h | h; exact hrl h; omega
      have k1' := k1.chg (Chg.grown hgr (F := fun b => b = w1.heap.size) (fun b hb => (Option.some.inj hb).symm)) (fun b hb e => hnr (e ▸ hb))
      have hsx : ∃ s, orphL (setM M id none) id L x = some s := Option.isSome_iff_exists.1 (by have := k1.dom x; rw [hz] at this; exact this.symm)
      obtain ⟨s, hsx⟩ := hsx
      have ht := k1'.surf _ _ _ hz hsx
      have c1 : w3.cell? ⟨z.a, 1, none⟩ = some (.int .i64 s.parent) := ht.cell 1
      have f1 := ht.free 1
      have hc3 : Chg F w w3 := k2.trans (Chg.grown hgr (F := fun b => b = w1.heap.size) (fun b hb => (Option.some.inj hb).symm)) (fun b hb => .inr (by subst hb; exact hw1.out))
      have hR3 := hide hR'
      have hlt3 : w3.rangeLeft mb w1.heap.size < wC.rangeLeft mb w1.heap.size := by rw [hR'.left_eq, hR.out.left_eq]; exact hlt
      have hsM : setM M id none x = some s := by
        unfold orphL at hsx
        cases e : setM M id none x with
        | none => rw [e] at hsx; cases hsx
        | some s' => rw [e] at hsx; simpa [hL] using hsx
      simp only [SfV.ptr] at hen
      by_cases hp : s.parent = id
      · have hq : (s.parent == id) = true := by simpa using hp
        obtain ⟨z3, e1, Fr2, a1, a2, a3⟩ := k1'.freed hz hsx
        rw [← (orphL_take hsM hp hL).2] at a1
        have hsz4 := a2.size
        have hnew : Hid (∃ Fr Zr, ForZ (w3.setCell ⟨z.a, 1, none⟩ (.int .i64 0)) p mb Fr n Zr (orphL (setM M id none) id fun z => L z && z != x) ∧ Chg F w (w3.setCell ⟨z.a, 1, none⟩ (.int .i64 0)) ∧ Ext F Fr w2.heap.size ∧ w2.heap.size ≤ (w3.setCell ⟨z.a, 1, none⟩ (.int .i64 0)).heap.size ∧ ∀ j, (Zr j).map SfV.ptr = (setZ Z id none j).map SfV.ptr) :=
          hide ⟨Fr2, _, a1, hc3.trans a2 (fun b hb => (k3 b hb).imp (fun x => x) fun h => Nat.le_trans hc2.out.size h), k3.trans a3 (by omega), by omega, fun j => by
            by_cases e : j = x
            · subst e; rw [setZ_same, ← k4 j, hz]; simp [SfV.ptr, e1]
            · rw [setZ_other _ _ e]; exact k4 j⟩
        have hpz := k1'.pz x z hz
        have hRs := hide (range_setCell (k := 1) (u := .int .i64 0) hR3.out (a := z.a) (fun e => hpz.2 (.inl e.symm)) (fun e => hnr (e ▸ k1'.inF x z hz z.a (.inl rfl))))
        have hlt4 : (w3.setCell ⟨z.a, 1, none⟩ (.int .i64 0)).rangeLeft mb w1.heap.size < wC.rangeLeft mb w1.heap.size := by rw [hRs.out.left_eq, hR.out.left_eq]; exact hlt
        clear hp hsM hsx k1' k1 hZ a1 a2 a3
        go_wp2
        go_roundw
        case rel => exact ⟨_, cnt', hRs, hnew⟩
        case measure => exact hlt4
      · have hq : (s.parent == id) = false := by simpa using hp
        have hnew : Hid (∃ Fr Zr, ForZ w3 p mb Fr n Zr (orphL (setM M id none) id fun z => L z && z != x) ∧ Chg F w w3 ∧ Ext F Fr w2.heap.size ∧ w2.heap.size ≤ w3.heap.size ∧ ∀ j, (Zr j).map SfV.ptr = (setZ Z id none j).map SfV.ptr) :=
          hide ⟨Fr, Zr, by rw [orphL_skip hsM hp]; exact k1', hc3, k3, by omega, k4⟩
        clear hp hsM hsx k1' k1 hZ
        go_wp2
        go_roundw
        case rel => exact ⟨_, cnt', hR3, hnew⟩
        case measure => exact hlt3
end
end Go.Proofs.YthkjicnnepkghaaGreatDoor
