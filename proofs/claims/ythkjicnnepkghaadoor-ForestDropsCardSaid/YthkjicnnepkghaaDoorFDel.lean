/-
  slices.Clone and slices.DeleteFunc at children: those of one number go.
  slices.Clone at children; Unsub.
-/
import Derived.Test.YthkjicnnepkghaaDoorFMem2
import Derived.Test.YthkjicnnepkghaaDoorFState
import Derived.Test.YthkjicnnepkghaaDoorInts
import Derived.Lib.SliceRun
import Derived.Deep.Upon
import Derived.WalkSpells
namespace Go.Proofs.YthkjicnnepkghaaDoor
open Go.RowKit
set_option linter.unusedVariables false

theorem uns1_any (w : World) (x y z : Int) (b : Nat) (id : Int) (h : w.cell? ⟨b, 0, none⟩ = some (.int .i64 id)) :
    Calls Tryd.prog 72 #[.agg #[.int .i64 x, .int .i64 y, .int .i64 z], .pointer (some ⟨b, 0, none⟩)] w fun e w' => e = .returned (.bool (x == id)) ∧ w' = w.alloc (.cells #[.int .i64 x, .int .i64 y, .int .i64 z] 51) := by
  have h1 : ∀ o, (w.alloc o).cell? ⟨b, 0, none⟩ = some (.int .i64 id) := fun o => (World.cell?_alloc_past _ _ _ (block_lt_of_cell h)).trans h
  go_enter Tryd.func72, Tryd.ntmps72
  go_wp2
  go_ret
  exact ⟨rfl, rfl⟩

/-- Where the first one stands that goes. -/
def IdxP (L : List Ch) (id : Int) (w : World) (e : Ending) (w' : World) : Prop :=
  ((e = .returned (.int .i64 (-1)) ∧ ∀ j, j < L.length → (L.getD j default).id ≠ id) ∨ ∃ k : Nat, k < L.length ∧ e = .returned (.int .i64 k) ∧ (L.getD k default).id = id ∧ ∀ j, j < k → (L.getD j default).id ≠ id) ∧ Below w.heap.size w w'
set_option maxRecDepth 100000 in
set_option maxHeartbeats 1000000 in
theorem idxC_any (w : World) (v : Value) (L : List Ch) (b : Nat) (id : Int) (hL : Rd w v 3 L.length (L.flatMap Ch.enc)) (hl : L.length ≤ 1000000) (hb : w.cell? ⟨b, 0, none⟩ = some (.int .i64 id)) :
    Calls Tryd.prog 90 #[v, .func (.func 72) #[] #[.pointer (some ⟨b, 0, none⟩)]] w (IdxP L id w) := by
  obtain ⟨A, c, rfl, _⟩ := hL.form
  obtain ⟨n, hn⟩ : ∃ n, n = L.length := ⟨_, rfl⟩
  rw [← hn] at hL hl ⊢
  replace hn := hide hn
  replace hL := hide hL
  replace hb := hide hb
  go_enter Tryd.func90, Tryd.ntmps90
  go_wp2
  go_loopw [8] (fun i wr => ∃ k : Nat, k ≤ n ∧ i = .int .i64 k ∧ Hid (∀ j, j < k → (L.getD j default).id ≠ id) ∧ Hid (Below w.heap.size w wr)) (fun i _ => n - (intOf i).toNat)
  case atStart => exact ⟨0, Nat.zero_le _, rfl, hide (fun j hj => absurd hj (by omega)), hide (Below.refl _ _)⟩
  case round =>
    obtain ⟨k, hk, rfl, hT, hB⟩ := hrel
    obtain ⟨wC, hC⟩ : ∃ wC, wC = wr := ⟨_, rfl⟩
    subst hC
    by_cases hlt : k < n
    · obtain ⟨g, off, rfl, hbl, hcell⟩ := (hL.out.below hB.out (Nat.le_refl _)).chCells hn.out (by omega)
      obtain ⟨k0, k1, k2⟩ := hcell k hlt
      obtain ⟨y, hy⟩ : ∃ y, y = L.getD k default := ⟨_, rfl⟩
      have hTk := hide (fun (hne : y.id ≠ id) => (fun (j : Nat) (hj : j < k + 1) => (by
        rcases (show j = k ∨ j < k by omega) with e | h
        · rw [e, ← hy]; exact hne
        · exact hT.out j h : (L.getD j default).id ≠ id)))
      have hyh := hide hy
      rw [← hy] at k0 k1 k2
      have hbC : wC.cell? ⟨b, 0, none⟩ = some (.int .i64 id) := (hB.out.cell (p := ⟨b, 0, none⟩) (block_lt_of_cell hb.out)).trans hb.out
      obtain ⟨y0, y1, y2⟩ := y
      dsimp only at k0 k1 k2 hTk
      have cU := hide (uns1_any wC y0 y1 y2 b id hbC)
      have hB2 := hide (fun o => hB.out.alloc hB.out.size o)
      clear hcell hbl hy hbC
      by_cases he : y0 = id
      · have hq : (y0 == id) = true := by simpa using he
        replace he := hide he
        go_wp2_with (go_at_call 72; refine cU.out.mono ?_; rintro e w' ⟨rfl, rfl⟩)
        go_ret
        exact ⟨.inr ⟨k, by rw [← hn.out]; exact hlt, rfl, by rw [← hyh.out]; exact he.out, hT.out⟩, hB2.out _⟩
      · have hq : (y0 == id) = false := by simpa using he
        go_wp2_with (go_at_call 72; refine cU.out.mono ?_; rintro e w' ⟨rfl, rfl⟩)
        go_roundw
        case rel => exact ⟨k + 1, by omega, by go_num, hide (hTk.out he), hide (hB2.out _)⟩
        case measure => simp [intOf]; omega
    · obtain rfl : k = n := by omega
      go_wp2
      go_ret
      exact ⟨.inl ⟨rfl, by rw [← hn.out]; exact hT.out⟩, hB.out⟩

/-- 'clear(s)', s of n > 0 children. -/
theorem clear_ch (w : World) (ty : TypeId) (g o n c : Nat) (hn : 0 < n) (hc : ∀ j, j < n * 3 → (w.cell? ⟨g, o + j, none⟩).isSome = true) (hf : ∀ j, j < n * 3 → w.frozen? ⟨g, o + j, none⟩ = false) :
    ∃ vs : List Value, vs.length = n * 3 ∧ (Builtin.clear_ #[35] ty #[.slice (some ⟨g, o, none⟩) n c]).run Tryd.prog w = .ok (.tuple #[]) (w.setCells g o vs) := by
  have hv : ∀ w, (zeroValue 51).run Tryd.prog w = .ok (.agg #[.int .i64 0, .int .i64 0, .int .i64 0]) w := fun w => by kernel_rfl
  obtain ⟨vs, hvs⟩ : ∃ vs, vs = (Builtin.zeroCells (Value.agg #[.int .i64 0, .int .i64 0, .int .i64 0]).cells n).toList := ⟨_, rfl⟩
  have hl : vs.length = n * 3 := by rw [hvs]; simp [Builtin.zeroCells, Value.cells]
  have h1 : ∀ v ∈ vs, v.oneCell' = true := fun v hv' => by
    rw [hvs] at hv'
    simp [Builtin.zeroCells, Value.cells] at hv'
    obtain ⟨i, hi, rfl⟩ := hv'
    have : i % 3 = 0 ∨ i % 3 = 1 ∨ i % 3 = 2 := by omega
    rcases this with h | h | h <;> (simp [h]; rfl)
  have hst := run_storeCells_cells (P := Tryd.prog) g o vs 0 w (by simpa [hl] using hc) (by simpa [hl] using hf) h1
  simp only [Nat.add_zero] at hst
  refine ⟨vs, hl, ?_⟩
  rw [hvs] at hst ⊢
  obtain ⟨m, rfl⟩ : ∃ m, n = m + 1 := ⟨n - 1, by omega⟩
  simp [Builtin.clear_, run_underlying Tryd.underlying35, hv, hst]

theorem frozen_setCell (w : World) (a : Addr) (u : Value) (b : Addr) : (w.setCell a u).frozen? b = w.frozen? b := by simp
theorem chg3 (w : World) (g k : Nat) (u u' u'' : Value) {F : Nat → Prop} (hF : F g) : Chg F w (((w.setCell ⟨g, k, none⟩ u).setCell ⟨g, k + 1, none⟩ u').setCell ⟨g, k + 2, none⟩ u'') :=
  ((Chg.setCell w (a := ⟨g, k, none⟩) hF u).trans (Chg.setCell _ (a := ⟨g, k + 1, none⟩) hF u') (Ext.refl _ _)).trans (Chg.setCell _ (a := ⟨g, k + 2, none⟩) hF u'') (Ext.refl _ _)
theorem chgCells (w : World) (g o : Nat) (vs : List Value) {F : Nat → Prop} (hF : F g) : Chg F w (w.setCells g o vs) := by
  induction vs generalizing o w with
  | nil => exact Chg.refl _ _
  | cons v vs ih => exact (Chg.setCell w (a := ⟨g, o, none⟩) hF v).trans (ih _ _) (Ext.refl _ _)
/-- Those that stay. -/
theorem dropP_take {L : List Ch} {id : Int} {j : Nat} (hj : j < L.length) : dropP (L.take (j + 1)) id = dropP (L.take j) id ++ (if (L.getD j default).id = id then [] else [L.getD j default]) := by
  unfold dropP
  rw [List.take_add_one, List.getElem?_eq_getElem hj, List.filter_append]
  congr 1
  have e : L.getD j default = L[j] := by simp [List.getD, hj]
  rw [e]
  by_cases h : L[j].id = id <;> simp [h]
theorem dropP_le (L : List Ch) (id : Int) : (dropP L id).length ≤ L.length := by unfold dropP; exact List.length_filter_le _ _
theorem dropP_all {L : List Ch} {id : Int} (h : ∀ j, j < L.length → (L.getD j default).id ≠ id) : dropP L id = L := by
  unfold dropP
  refine List.filter_eq_self.2 fun c hc => ?_
  obtain ⟨j, hj, rfl⟩ := List.getElem_of_mem hc
  have := h j hj
  simpa [List.getD, hj] using this
theorem dropP_head {L : List Ch} {id : Int} : ∀ {k : Nat}, k ≤ L.length → (∀ j, j < k → (L.getD j default).id ≠ id) → dropP (L.take k) id = L.take k
  | 0, _, _ => rfl
  | k + 1, hk, h => by
    rw [dropP_take (by omega), dropP_head (by omega) (fun j hj => h j (by omega)), if_neg (h k (by omega))]
    rw [List.take_add_one, List.getElem?_eq_getElem (show k < L.length by omega)]
    simp [List.getD, show k < L.length by omega]
/-- The row on its way. -/
structure DelAt (L arr : List Ch) (id : Int) (i j : Nat) : Prop where
  len : arr.length = L.length
  head : arr.take i = dropP (L.take j) id
  tail : ∀ t, j ≤ t → t < L.length → arr.getD t default = L.getD t default
  lt : i < j
  le : j ≤ L.length
theorem DelAt.keepIt {L arr : List Ch} {id : Int} {i j : Nat} (h : DelAt L arr id i j) (hj : j < L.length) (hn : (L.getD j default).id ≠ id) : DelAt L (arr.set i (L.getD j default)) id (i + 1) (j + 1) := by
  have hl := h.len
  have hlt := h.lt
  refine ⟨by simp [hl], ?_, fun t h1 h2 => ?_, by omega, by omega⟩
  · rw [dropP_take hj, if_neg hn, ← h.head, List.take_succ_eq_append_getElem (by simp; omega), List.getElem_set_self, List.take_set, List.set_eq_of_length_le (by rw [List.length_take]; omega)]
  · rw [← h.tail t (by omega) h2]
    simp [List.getD, show i ≠ t by omega]
theorem DelAt.dropIt {L arr : List Ch} {id : Int} {i j : Nat} (h : DelAt L arr id i j) (hj : j < L.length) (hn : (L.getD j default).id = id) : DelAt L arr id i (j + 1) := by
  have hlt := h.lt
  refine ⟨h.len, ?_, fun t h1 h2 => h.tail t (by omega) h2, by omega, by omega⟩
  rw [dropP_take hj, if_pos hn, List.append_nil]; exact h.head
theorem DelAt.start {L : List Ch} {id : Int} {k : Nat} (hk : k < L.length) (he : (L.getD k default).id = id) (h : ∀ j, j < k → (L.getD j default).id ≠ id) : DelAt L L id k (k + 1) := by
  refine ⟨rfl, ?_, fun _ _ _ => rfl, by omega, by omega⟩
  rw [dropP_take hk, if_pos he, List.append_nil, dropP_head (by omega) h]

set_option maxRecDepth 100000 in
set_option maxHeartbeats 2000000 in
theorem delC_any (w : World) (base : Nat) (v : Value) (L : List Ch) (b : Nat) (id : Int) (hO : w.ownsRow base 51 3 v L.length (L.flatMap Ch.enc)) (hl : L.length ≤ 1000000) (hb : w.cell? ⟨b, 0, none⟩ = some (.int .i64 id)) (hbv : v.ownBlock ≠ some b) :
    Calls Tryd.prog 70 #[v, .func (.func 72) #[] #[.pointer (some ⟨b, 0, none⟩)]] w fun e w' => ∃ A c, e = .returned (.slice A (dropP L id).length c) ∧ Rd w' (.slice A (dropP L id).length c) 3 (dropP L id).length ((dropP L id).flatMap Ch.enc) ∧
      (∀ g, A = some g → v.ownBlock = some g.block) ∧ Chg (fun k => v.ownBlock = some k) w w' := by
  have cI := idxC_any w v L b id (Rd.of_own hO) hl hb
  obtain ⟨A, c, rfl, hcc⟩ := own_form hO
  obtain ⟨n, hn⟩ : ∃ n, n = L.length := ⟨_, rfl⟩
  rw [← hn] at hO hl hcc cI ⊢
  replace hn := hide hn
  replace hO := hide hO
  replace hb := hide hb
  replace cI := hide cI
  replace hbv := hide hbv
  go_enter Tryd.func70, Tryd.ntmps70
  go_wp2_with fail
  refine cI.out.mono ?_
  rintro e w1 ⟨(⟨rfl, hno⟩ | ⟨k, hk, rfl, hke, hkn⟩), hb1⟩
  · have hq := dropP_all hno
    have ho1 := own_belowF hO.out hb1 (Nat.le_refl _)
    have hfin : Hid (Rd w1 (.slice A (dropP L id).length c) 3 (dropP L id).length ((dropP L id).flatMap Ch.enc)) := hide (by rw [hq, ← hn.out]; exact Rd.of_own ho1)
    have hlen := hide (show n = (dropP L id).length by rw [hq]; exact hn.out)
    replace hb1 := hide hb1
    clear hno hq ho1
    go_wp2
    go_ret
    refine ⟨A, c, by rw [← hlen.out]; rfl, hfin.out, fun g e => ?_, Chg.of_below hb1.out _⟩
    subst e; rfl
  · have ho1 := hide (own_belowF hO.out hb1 (Nat.le_refl _))
    have hkn' : k < n := by rw [hn.out]; exact hk
    obtain ⟨g, hg⟩ : ∃ g, A = some ⟨g, 0, none⟩ := by
      obtain ⟨g, c', he, _⟩ := own_at hO.out (by omega)
      simp only [Value.slice.injEq] at he
      exact ⟨g, he.1⟩
    subst hg
    have hst := hide (DelAt.start hk hke hkn)
    have hch := hide (Chg.of_below (F := fun q => (Value.slice (some ⟨g, 0, none⟩) n c).ownBlock = some q) hb1)
    have hkm : ((k : Int) == -1) = false := by simp
    clear hke hkn hk hb1
    go_wp2
    go_loopw [5, 6] (fun x y wr => ∃ (i j : Nat) (arr : List Ch), j ≤ n ∧ i < j ∧ x = .int .i64 i ∧ y = .int .i64 j ∧ Hid (DelAt L arr id i j) ∧ Hid (wr.ownsRow base 51 3 (.slice (some ⟨g, 0, none⟩) n c) n (arr.flatMap Ch.enc)) ∧ Hid (Chg (fun q => (Value.slice (some ⟨g, 0, none⟩) n c).ownBlock = some q) w wr)) (fun _ y _ => n - (intOf y).toNat)
    case atStart => exact ⟨k, k + 1, L, by omega, by omega, rfl, by go_num, hst, ho1, hch⟩
    clear hst ho1 hch hkn'
    case round =>
      obtain ⟨i, j, arr, hj, hij, rfl, rfl, hD, ho, hch⟩ := hrel
      obtain ⟨wC, hC⟩ : ∃ wC, wC = wr := ⟨_, rfl⟩
      subst hC
      have hbC : wC.cell? ⟨b, 0, none⟩ = some (.int .i64 id) := (World.cell?_of_block (a := ⟨b, 0, none⟩) (hch.out.block b (block_lt_of_cell hb.out) hbv.out)).trans hb.out
      by_cases hlt : j < n
      · have han : n = arr.length := by rw [hD.out.len]; exact hn.out
        obtain ⟨g', off, he, hbl, hcell⟩ := (Rd.of_own ho.out).chCells han (by omega)
        simp only [Option.some.injEq, Addr.mk.injEq, and_true] at he
        obtain ⟨rfl, rfl⟩ := he
        obtain ⟨k0, k1, k2⟩ := hcell j hlt
        simp only [Nat.zero_add] at k0 k1 k2
        have hjl : j < L.length := by rw [← hn.out]; exact hlt
        rw [hD.out.tail j (Nat.le_refl _) hjl] at k0 k1 k2
        have hset := hide (fun hne => hD.out.keepIt hjl hne)
        have hdr := hide (fun he => hD.out.dropIt hjl he)
        have hown := hide (fun x => own_setCh (k := i) ho.out han (by omega) x)
        have f0 := own_frozen ho.out (i * 3)
        have f1 := own_frozen ho.out (i * 3 + 1)
        have f2 := own_frozen ho.out (i * 3 + 2)
        have ci0 := (hcell i (by omega)).1
        have ci1 := (hcell i (by omega)).2.1
        have ci2 := (hcell i (by omega)).2.2
        simp only [Nat.zero_add] at ci0 ci1 ci2
        have hgl : g < wC.heap.size := block_lt_of_cell ci0
        have hbb : ∀ (w0 : World) (o o' : Obj), Below w0.heap.size w0 ((w0.alloc o).alloc o') := fun w0 o o' => ((Below.refl w0.heap.size w0).alloc (Nat.le_refl _) o).alloc (by simp) o'
        have hgs : ∀ u, g < (wC.setCell ⟨g, i * 3, none⟩ u).heap.size := fun u => Nat.lt_of_lt_of_le hgl (Chg.setCell (F := fun _ => True) wC (a := ⟨g, i * 3, none⟩) trivial u).size
        have hgs2 : ∀ u u', g < ((wC.setCell ⟨g, i * 3, none⟩ u).setCell ⟨g, i * 3 + 1, none⟩ u').heap.size := fun u u' => Nat.lt_of_lt_of_le (hgs u) (Chg.setCell (F := fun _ => True) _ (a := ⟨g, i * 3 + 1, none⟩) trivial u').size
        have di0 := fun o o' => ((hbb wC o o').cell (p := ⟨g, i * 3, none⟩) hgl).trans ci0
        have df0 := fun o o' => ((hbb wC o o').frozen (p := ⟨g, i * 3, none⟩) hgl).trans f0
        have di1 := fun u o o' => ((hbb _ o o').cell (p := ⟨g, i * 3 + 1, none⟩) (hgs u)).trans ((World.cell?_setCell_other wC ⟨g, i * 3, none⟩ ⟨g, i * 3 + 1, none⟩ u (by simp)).trans ci1)
        have df1 := fun u o o' => ((hbb _ o o').frozen (p := ⟨g, i * 3 + 1, none⟩) (hgs u)).trans ((frozen_setCell wC ⟨g, i * 3, none⟩ u ⟨g, i * 3 + 1, none⟩).trans f1)
        have di2 := fun u u' o o' => ((hbb _ o o').cell (p := ⟨g, i * 3 + 2, none⟩) (hgs2 u u')).trans ((World.cell?_setCell_other _ ⟨g, i * 3 + 1, none⟩ ⟨g, i * 3 + 2, none⟩ u' (by simp)).trans ((World.cell?_setCell_other wC ⟨g, i * 3, none⟩ ⟨g, i * 3 + 2, none⟩ u (by simp)).trans ci2))
        have df2 := fun u u' o o' => ((hbb _ o o').frozen (p := ⟨g, i * 3 + 2, none⟩) (hgs2 u u')).trans ((frozen_setCell _ ⟨g, i * 3 + 1, none⟩ u' ⟨g, i * 3 + 2, none⟩).trans ((frozen_setCell wC ⟨g, i * 3, none⟩ u ⟨g, i * 3 + 2, none⟩).trans f2))
        obtain ⟨y, hy⟩ : ∃ y, y = L.getD j default := ⟨_, rfl⟩
        rw [← hy] at k0 k1 k2 hset hdr
        obtain ⟨y0, y1, y2⟩ := y
        dsimp only at k0 k1 k2
        have cU := hide (fun o => uns1_any (wC.alloc o) y0 y1 y2 b id ((World.cell?_alloc_past _ _ _ (block_lt_of_cell hbC)).trans hbC))
        replace hbb := hide hbb
        clear hcell hy hbC han hbl ci0 ci1 ci2 f0 f1 f2 hgs hgs2
        by_cases he : y0 = id
        · have hq : (y0 == id) = true := by simpa using he
          replace he := hide he
          go_wp2_with (go_at_call 72; refine (cU.out _).mono ?_; rintro e w' ⟨rfl, rfl⟩)
          go_roundw
          case rel => exact ⟨i, j + 1, arr, by omega, by omega, rfl, by go_num, hide (hdr.out he.out), hide (own_belowF ho.out (hbb.out wC _ _) (Nat.le_refl _)), hide (hch.out.trans (Chg.of_below (hbb.out wC _ _) _) (Ext.refl _ _))⟩
          case measure => simp [intOf]; omega
        · have hq : (y0 == id) = false := by simpa using he
          go_wp2_with (go_at_call 72; refine (cU.out _).mono ?_; rintro e w' ⟨rfl, rfl⟩)
          have hch2 := hide (fun o o' => hch.out.trans ((chg3 wC g (i * 3) (.int .i64 y0) (.int .i64 y1) (.int .i64 y2) (F := fun q => (Value.slice (some ⟨g, 0, none⟩) n c).ownBlock = some q) rfl).trans (Chg.of_below (hbb.out _ o o') _) (Ext.refl _ _)) (Ext.refl _ _))
          go_roundw
          case rel => exact ⟨i + 1, j + 1, _, by omega, by omega, by go_num, by go_num, hide (hset.out he), hide (own_belowF (hown.out ⟨y0, y1, y2⟩) (hbb.out _ _ _) (Nat.le_refl _)), hide (hch2.out _ _)⟩
          case measure => simp [intOf]; omega
      · obtain rfl : j = n := by omega
        have han : j = arr.length := by rw [hD.out.len]; exact hn.out
        have hhead : arr.take i = dropP L id := by rw [hD.out.head, hn.out, List.take_length]
        have hil : (dropP L id).length = i := by rw [← hhead, List.length_take]; omega
        have hrd := Rd.of_own ho.out
        obtain ⟨_, A', c', hv, _, h2⟩ := hrd
        simp only [Value.slice.injEq] at hv
        obtain ⟨rfl, _, rfl⟩ := hv
        obtain ⟨g', off', hg', hgl, hcell⟩ := h2 (by omega)
        simp only [Option.some.injEq, Addr.mk.injEq, and_true] at hg'
        obtain ⟨rfl, rfl⟩ := hg'
        have hfl : (arr.flatMap Ch.enc).length = j * 3 := by rw [flat_len Ch.len, ← han]
        obtain ⟨vs, hvl, hcl⟩ : ∃ vs : List Value, vs.length = (j - i) * 3 ∧ ∀ ty, (Builtin.clear_ #[35] ty #[.slice (some ⟨g, i * 3, none⟩) (j - i) (c - i)]).run Tryd.prog wC = .ok (.tuple #[]) (wC.setCells g (i * 3) vs) := by
          obtain ⟨vs, h1, h2⟩ := clear_ch wC 0 g (i * 3) (j - i) (c - i) (by omega) (fun t ht => by
            have : i * 3 + t < (arr.flatMap Ch.enc).length := by omega
            have := hcell (i * 3 + t) _ (List.getElem?_eq_getElem this)
            rw [Nat.zero_add] at this
            rw [this]; rfl) (fun t ht => own_frozen ho.out _)
          exact ⟨vs, h1, fun ty => h2⟩
        have hfin : Hid (Rd (wC.setCells g (i * 3) vs) (.slice (some ⟨g, 0, none⟩) i c) 3 i ((dropP L id).flatMap Ch.enc)) := hide (by
          refine ⟨by rw [flat_len Ch.len, hil], _, c, rfl, by omega, fun h0 => ⟨g, 0, rfl, ?_, fun t u hu => ?_⟩⟩
          · exact Nat.lt_of_lt_of_le hgl (Chg.size (F := fun _ => True) (chgCells wC g (i * 3) vs trivial))
          · rw [← hhead, ← flat_take Ch.len, List.getElem?_take] at hu
            split at hu
            · rename_i ht
              rw [World.cell?_setCells_out g vs (i * 3) wC ⟨g, 0 + t, none⟩ (fun _ _ => .inl (by simp; omega))]
              exact hcell t u hu
            · cases hu)
        have hch3 := hide (hch.out.trans (chgCells wC g (i * 3) vs (F := fun q => (Value.slice (some ⟨g, 0, none⟩) j c).ownBlock = some q) rfl) (Ext.refl _ _))
        have z1 : (i : Int) ≤ (j : Int) := by omega
        have z2 : (i : Int) ≤ (c : Int) := by omega
        have z3 : (j : Int) ≤ (c : Int) := by omega
        have z4 : decide ((i : Int) < 0) = false := decide_eq_false (by omega)
        have z5 : ¬ c = i := by omega
        have hil' := hide hil
        clear hhead hil h2 hcell hfl hvl hgl han hlt
        go_wp2
        go_ret
        refine ⟨some ⟨g, 0, none⟩, c, by rw [hil'.out]; rfl, by rw [hil'.out]; exact hfin.out, fun q e => by cases e; rfl, hch3.out⟩


set_option linter.unusedVariables false

theorem own_none0 (w : World) : (w.alloc (.cells #[] 51)).ownsRow w.heap.size 51 3 (.slice (some ⟨w.heap.size, 0, none⟩) 0 0) 0 [] :=
  ⟨rfl, .inr ⟨w.heap.size, 0, #[], rfl, Nat.le_refl _, heap_alloc_new _ _, Nat.le_refl _, by unfold maxLen; omega, rfl, rfl⟩⟩
theorem Tryd.infoChildD : (Tryd.prog.info? 51).map (fun i => (i.zero, i.size, i.bytes)) = some (some (.agg #[.int .i64 0, .int .i64 0, .int .i64 0]), 3, 24) := by kernel_rfl
set_option maxRecDepth 100000 in
set_option maxHeartbeats 1000000 in
theorem cloneC_any (w : World) (v : Value) (L : List Ch) (hL : Rd w v 3 L.length (L.flatMap Ch.enc)) (hl : L.length ≤ 1000000) :
    Calls Tryd.prog 71 #[v] w fun e w' => ∃ v', e = .returned v' ∧ w'.ownsRow w.heap.size 51 3 v' L.length (L.flatMap Ch.enc) ∧ Below w.heap.size w w' := by
  obtain ⟨i0, hi, hz0, hz1, hz2⟩ := info_parts Tryd.infoChildD
  obtain ⟨A, c, rfl, hcc⟩ := hL.form
  obtain ⟨n, hn⟩ : ∃ n, n = L.length := ⟨_, rfl⟩
  rw [← hn] at hL hl hcc ⊢
  have hone := hide (oneC L)
  have heq := fun w => Lib.run_eql_slice_nil w 35 51 A n c 0 0 Tryd.underlying35
  cases A with
  | none =>
    have hn0 : n = 0 := by
      obtain ⟨_, A', c', hv, _, h2⟩ := hL
      simp only [Value.slice.injEq] at hv
      obtain ⟨rfl, _, rfl⟩ := hv
      rcases Nat.eq_zero_or_pos n with h | h
      · exact h
      · obtain ⟨b, off, hb, _⟩ := h2 h; cases hb
    have hL0 : L = [] := List.eq_nil_of_length_eq_zero (by omega)
    subst hL0
    have hn0h := hide hn0
    clear hn hn0 hL
    go_enter Tryd.func71, Tryd.ntmps71
    go_wp2
    go_ret
    exact ⟨_, rfl, by rw [hn0h.out]; exact World.ownsRow_nil _ _ _ _, Below.refl _ _⟩
  | some a =>
    replace hn := hide hn
    replace hL := hide hL
    go_enter Tryd.func71, Tryd.ntmps71
    go_wp2_with (at_builtin; refine wpList_append_rd rfl _ _ 35 rfl w.heap.size 51 i0 _ 3 24 Tryd.underlying35 hi hz0 hz1 hz2 rfl (by decide) _ 0 [] rfl (own_none0 w) (some a) n c _ rfl (hL.out.alloc _) hone.out (by unfold maxLen; omega) (by omega) (by simp) ?_; intro v2 w2 o2 hg2; rw [Nat.zero_add, List.nil_append] at o2; have b2 : Below w.heap.size w w2 := ((Below.refl _ w).alloc (Nat.le_refl _) _).grown hg2 (by simp) (fun k e => by cases e; exact Nat.le_refl _); obtain ⟨A2, c2, rfl, _⟩ := own_form o2)
    go_ret
    exact ⟨_, rfl, o2, b2⟩
end Go.Proofs.YthkjicnnepkghaaDoor
