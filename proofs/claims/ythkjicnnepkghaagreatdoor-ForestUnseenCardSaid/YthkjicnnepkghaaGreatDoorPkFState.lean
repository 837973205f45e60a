/-
  Package state: First, Find, Put, places.
-/
import Derived.Test.YthkjicnnepkghaaGreatDoorPkB
import Derived.Test.YthkjicnnepkghaaGreatDoorPkA
import Derived.Deep.QuietTactic
import Derived.BigQuiet
namespace Go.Proofs.YthkjicnnepkghaaGreatDoor
open Go.RowKit
set_option linter.unusedVariables false

set_option maxRecDepth 100000 in
set_option maxHeartbeats 1000000 in
theorem find_any (w : World) (v : Value) (L : List Ch) (id : Int) (hL : Rd w v 3 L.length (L.flatMap Ch.enc)) (hl : L.length ≤ 1000000) :
    Calls Tryz.prog 54 #[v, .int .i64 id] w fun e w' => e = .returned (.tuple #[((findP L id).getD default).val, .bool (findP L id).isSome]) ∧ Below w.heap.size w w' := by
  obtain ⟨A, c, rfl, hcc⟩ := hL.form
  obtain ⟨n, hn⟩ : ∃ n, n = L.length := ⟨_, rfl⟩
  rw [← hn] at hL hcc hl ⊢
  replace hn := hide hn
  replace hL := hide hL
  have hs0 : Hid ((w.alloc (.cells #[.int .i64 0, .int .i64 0, .int .i64 0] 62)).heap[w.heap.size]? = some (.cells #[.int .i64 0, .int .i64 0, .int .i64 0] 62 (0, 0))) := hide (heap_alloc_new _ _)
  go_enter Tryz.func54, Tryz.ntmps54
  go_wp2
  go_loopw [10] (fun i wr => ∃ k : Nat, k ≤ n ∧ i = .int .i64 k ∧ Hid (∀ j, j < k → (L.getD j default).id ≠ id) ∧ Hid (wr.heap[w.heap.size]? = some (.cells #[.int .i64 0, .int .i64 0, .int .i64 0] 62 (0, 0))) ∧ Hid (Below w.heap.size w wr))
    (fun i _ => n - (intOf i).toNat)
  case atStart => exact ⟨0, Nat.zero_le _, rfl, hide (fun j hj => absurd hj (by omega)), hs0, hide ((Below.refl _ _).alloc (Nat.le_refl _) _)⟩
  clear hs0
  case round =>
    obtain ⟨k, hk, rfl, hT, hR, hB⟩ := hrel
    obtain ⟨wC, hC⟩ : ∃ wC, wC = wr := ⟨_, rfl⟩
    subst hC
    have hlt0 := lt_of_block hR.out
    by_cases hlt : k < n
    · obtain ⟨b, off, rfl, hbl, hcell⟩ := (hL.out.below hB.out (Nat.le_refl _)).chCells hn.out (by omega)
      obtain ⟨k0, k1, k2⟩ := hcell k hlt
      have hkl : k < L.length := by rw [← hn.out]; exact hlt
      have c0 : wC.cell? ⟨w.heap.size, 0, none⟩ = some (.int .i64 0) := by rw [cell_of_row wC _ 0 _ _ _ hR.out]; rfl
      have c1 : wC.cell? ⟨w.heap.size, 1, none⟩ = some (.int .i64 0) := by rw [cell_of_row wC _ 1 _ _ _ hR.out]; rfl
      have c2 : wC.cell? ⟨w.heap.size, 2, none⟩ = some (.int .i64 0) := by rw [cell_of_row wC _ 2 _ _ _ hR.out]; rfl
      have f0 := frozen_of_row wC _ 0 _ _ hR.out
      have f1 := frozen_of_row wC _ 1 _ _ hR.out
      have f2 := frozen_of_row wC _ 2 _ _ hR.out
      have hR2 := fun o => hide ((Below.heap_alloc wC o w.heap.size hlt0).trans hR.out)
      have hB2 := fun o => hide (hB.out.alloc hB.out.size o)
      have hsz := hB.out.size
      have hfa := hide (find_at (id := id) hkl)
      obtain ⟨x, hx⟩ : ∃ x, x = (L.getD k default) := ⟨_, rfl⟩
      have hTk := hide (fun (hne : x.id ≠ id) => (fun (j : Nat) (hj : j < k + 1) => (by
        rcases (show j = k ∨ j < k by omega) with e | h
        · rw [e, ← hx]; exact hne
        · exact hT.out j h : (L.getD j default).id ≠ id)))
      rw [← hx] at k0 k1 k2 hfa
      clear hcell hbl hx
      obtain ⟨x0, x1, x2⟩ := x
      dsimp only at k0 k1 k2 hTk
      by_cases he : x0 = id
      · subst he
        have hF := hide (hfa.out rfl hT.out)
        clear hfa hTk
        have hR3 := hide (set3 wC _ _ _ _ _ (.int .i64 x0) (.int .i64 x1) (.int .i64 x2) hR.out)
        have hB3 := hide (below_set3 hB.out (Nat.le_refl _) (.int .i64 x0) (.int .i64 x1) (.int .i64 x2))
        clear hR2 hB2
        go_wp2
        try simp only [Exit.inBlock, Exit.then]
        refine bodyPost_ret (results_cell_tmp_row rfl _ _ w.heap.size 62 #[.int .i64 x0, .int .i64 x1, .int .i64 x2] (0, 0) _ rfl ((Below.heap_alloc _ _ _ (lt_of_block hR3.out)).trans hR3.out) Tryz.underlying62 rfl (by kernel_rfl)) rfl ?_
        exact ⟨by rw [hF.out]; rfl, hB3.out.alloc (by simpa using hsz) _⟩
      · have hne : (x0 == id) = false := by simpa using he
        clear hfa
        go_wp2
        go_roundw
        case rel => exact ⟨k + 1, by omega, by go_num, hide (hTk.out he), hR2 _, hB2 _⟩
        case measure => simp [intOf]; omega
    · obtain rfl : k = n := by omega
      have hF := hide (find_none (l := L) (id := id) (by rw [← hn.out]; exact hT.out))
      have c0 : wC.cell? ⟨w.heap.size, 0, none⟩ = some (.int .i64 0) := by rw [cell_of_row wC _ 0 _ _ _ hR.out]; rfl
      have c1 : wC.cell? ⟨w.heap.size, 1, none⟩ = some (.int .i64 0) := by rw [cell_of_row wC _ 1 _ _ _ hR.out]; rfl
      have c2 : wC.cell? ⟨w.heap.size, 2, none⟩ = some (.int .i64 0) := by rw [cell_of_row wC _ 2 _ _ _ hR.out]; rfl
      have f0 := frozen_of_row wC _ 0 _ _ hR.out
      have f1 := frozen_of_row wC _ 1 _ _ hR.out
      have f2 := frozen_of_row wC _ 2 _ _ hR.out
      have hR3 := hide (set3 wC _ _ _ _ _ (.int .i64 0) (.int .i64 0) (.int .i64 0) hR.out)
      have hB3 := hide (below_set3 hB.out (Nat.le_refl _) (.int .i64 0) (.int .i64 0) (.int .i64 0))
      go_wp2
      try simp only [Exit.inBlock, Exit.then]
      refine bodyPost_ret (results_cell_tmp_row rfl _ _ w.heap.size 62 #[.int .i64 0, .int .i64 0, .int .i64 0] (0, 0) _ rfl hR3.out Tryz.underlying62 rfl (by kernel_rfl)) rfl ?_
      exact ⟨by rw [hF.out]; rfl, hB3.out⟩
theorem cells_newR (w : World) (cs : List Value) (t : TypeId) : ∀ j u, cs[j]? = some u → (w.alloc (.cells cs.toArray t)).cell? ((⟨w.heap.size, 0, none⟩ : Addr).add j) = some u := by
  intro j u hj
  have h := heap_alloc_new w (.cells cs.toArray t)
  rw [addr_add, cell_of_row _ w.heap.size (0 + j) _ _ _ h]
  simpa using hj
theorem rd_one {w : World} {v : Value} {sz n : Nat} {cs : List Value} (t : TypeId) (h : Rd w v sz n cs) (h1 : ∀ u ∈ cs, u.oneCell' = true) (o : Obj) :
    Rd ((w.alloc o).alloc (.cells #[v] t)) (.slice (some ⟨w.heap.size + 1, 0, none⟩) 1 1) 1 [(⟨v, n, cs⟩ : Src)].length ([(⟨v, n, cs⟩ : Src)].map Src.v) ∧ RdSrc ((w.alloc o).alloc (.cells #[v] t)) sz [⟨v, n, cs⟩] := by
  have := Rd.lit (sz := 1) (w.alloc o) [v] t 1 rfl (by unfold maxLen; omega)
  rw [World.size_alloc] at this
  refine ⟨this, fun x hx => ?_⟩
  obtain rfl : x = ⟨v, n, cs⟩ := by simpa using hx
  exact ⟨(h.alloc _).alloc _, h1⟩
theorem rd_one0 {w : World} {v : Value} {sz n : Nat} {cs : List Value} (t : TypeId) (h : Rd w v sz n cs) (h1 : ∀ u ∈ cs, u.oneCell' = true) :
    Rd (w.alloc (.cells #[v] t)) (.slice (some ⟨w.heap.size, 0, none⟩) 1 1) 1 [(⟨v, n, cs⟩ : Src)].length ([(⟨v, n, cs⟩ : Src)].map Src.v) ∧ RdSrc (w.alloc (.cells #[v] t)) sz [⟨v, n, cs⟩] := by
  refine ⟨Rd.lit (sz := 1) w [v] t 1 rfl (by unfold maxLen; omega), fun x hx => ?_⟩
  obtain rfl : x = ⟨v, n, cs⟩ := by simpa using hx
  exact ⟨h.alloc _, h1⟩
theorem sum_one (v : Value) (n : Nat) (cs : List Value) : sumSrc [⟨v, n, cs⟩] = n := by simp [sumSrc]
theorem cat_one (v : Value) (n : Nat) (cs : List Value) : catSrc [⟨v, n, cs⟩] = cs := by simp [catSrc]

set_option maxRecDepth 100000 in
set_option maxHeartbeats 2000000 in
theorem put_any (w : World) (v : Value) (L : List Ch) (x : Ch) (hL : Rd w v 3 L.length (L.flatMap Ch.enc)) (hl : L.length ≤ 100000) :
    Calls Tryz.prog 66 #[v, x.val] w fun e w' => ∃ v', e = .returned v' ∧ w'.ownsRow w.heap.size 62 3 v' (putP L x).length ((putP L x).flatMap Ch.enc) ∧ Below w.heap.size w w' := by
  obtain ⟨i0, hi, hz0, hz1, hz2⟩ := info_parts Tryz.infoCchild
  obtain ⟨A, c, rfl, hcc⟩ := hL.form
  obtain ⟨n, hn⟩ : ∃ n, n = L.length := ⟨_, rfl⟩
  rw [← hn] at hL hcc hl ⊢
  obtain ⟨x0, x1, x2⟩ := x
  unfold Ch.val
  dsimp only
  obtain ⟨r1, r2⟩ := rd_one 36 hL (oneC L) (.cells #[.int .i64 x0, .int .i64 x1, .int .i64 x2] 62)
  have cA := all_child _ _ _ r1 r2 (by simp) (by rw [sum_one]; omega)
  rw [sum_one, cat_one] at cA
  replace cA := hide cA
  have hbx := hide (((Below.refl _ w).alloc (Nat.le_refl _) (.cells #[.int .i64 x0, .int .i64 x1, .int .i64 x2] 62)).alloc (by simp) (.cells #[.slice A n c] 36))
  have hx0 := hide (heap_alloc2_old w (.cells #[.int .i64 x0, .int .i64 x1, .int .i64 x2] 62) (.cells #[.slice A n c] 36))
  replace hn := hide hn
  clear hL r1 r2
  go_enter Tryz.func66, Tryz.ntmps66
  go_wp2_with fail
  refine cA.out.mono ?_
  rintro e w1 ⟨v1, rfl, ho1, hb1⟩
  have hB1 := hide (hbx.out.trans (hb1.mono (by simp; omega)))
  have hX1 := hide ((hb1.block w.heap.size (by simp; omega)).trans hx0.out)
  have ho1 := hide (own_le (base' := w.heap.size) ho1 (by simp; omega))
  obtain ⟨A1, c1, rfl, hc1⟩ := own_form ho1.out
  clear hb1 hx0 hbx cA
  go_wp2
  go_loopw [11] (fun i wr => ∃ k : Nat, k ≤ n ∧ i = .int .i64 k ∧ Hid (∀ j, j < k → (L.getD j default).id ≠ x0) ∧ Hid (wr.heap[w.heap.size]? = some (.cells #[.int .i64 x0, .int .i64 x1, .int .i64 x2] 62 (0, 0))) ∧ Hid (wr.ownsRow w.heap.size 62 3 (.slice A1 n c1) n (L.flatMap Ch.enc)) ∧ Hid (Below w.heap.size w wr))
    (fun i _ => n - (intOf i).toNat)
  case atStart => exact ⟨0, Nat.zero_le _, rfl, hide (fun j hj => absurd hj (by omega)), hX1, ho1, hB1⟩
  clear hX1 ho1 hB1
  case round =>
    obtain ⟨k, hk, rfl, hT, hX, hO, hB⟩ := hrel
    obtain ⟨wC, hC⟩ : ∃ wC, wC = wr := ⟨_, rfl⟩
    subst hC
    have cX0 : wC.cell? ⟨w.heap.size, 0, none⟩ = some (.int .i64 x0) := by rw [cell_of_row wC _ 0 _ _ _ hX.out]; rfl
    have cX1 : wC.cell? ⟨w.heap.size, 1, none⟩ = some (.int .i64 x1) := by rw [cell_of_row wC _ 1 _ _ _ hX.out]; rfl
    have cX2 : wC.cell? ⟨w.heap.size, 2, none⟩ = some (.int .i64 x2) := by rw [cell_of_row wC _ 2 _ _ _ hX.out]; rfl
    by_cases hlt : k < n
    · obtain ⟨g, c', he, hg1, hg2, hg3⟩ := own_at hO.out (by omega)
      simp only [Value.slice.injEq, true_and] at he
      obtain ⟨rfl, rfl⟩ := he
      obtain ⟨b, off, he, hbl, hcell⟩ := (Rd.of_own hO.out).chCells hn.out (by omega)
      simp only [Option.some.injEq, Addr.mk.injEq, and_true] at he
      obtain ⟨rfl, rfl⟩ := he
      obtain ⟨k0, k1, k2⟩ := hcell k hlt
      simp only [Nat.zero_add] at k0 k1 k2
      have hkl : k < L.length := by rw [← hn.out]; exact hlt
      have hfa := hide (putP_at (l := L) (c := ⟨x0, x1, x2⟩) hkl)
      obtain ⟨y, hy⟩ : ∃ y, y = (L.getD k default) := ⟨_, rfl⟩
      have hTk := hide (fun (hne : y.id ≠ x0) => (fun (j : Nat) (hj : j < k + 1) => (by
        rcases (show j = k ∨ j < k by omega) with e | h
        · rw [e, ← hy]; exact hne
        · exact hT.out j h : (L.getD j default).id ≠ x0)))
      rw [← hy] at k0 k1 k2 hfa
      have f0 := own_frozen hO.out (k * 3)
      have f1 := own_frozen hO.out (k * 3 + 1)
      have f2 := own_frozen hO.out (k * 3 + 2)
      have hsz := hB.out.size
      have hset2 := fun q => hide (below_drewN hB.out q)
      clear hcell hbl hy
      obtain ⟨y0, y1, y2⟩ := y
      dsimp only at k0 k1 k2 hTk
      by_cases he : y0 = x0
      · subst he
        have hF := hide (hfa.out rfl hT.out)
        clear hfa hTk
        go_wp2
        go_quiet (fail)
        go_wp2
        go_ret
        have hO2 : (wC.drewN nq).ownsRow w.heap.size 62 3 (.slice (some ⟨g, 0, none⟩) n c1) n (L.flatMap Ch.enc) := hO.out
        have h5 := own_setCh hO2 hn.out hlt ⟨y0, x1, x2⟩
        have h6 := (((hset2 nq).out.setCell (p := ⟨g, k * 3, none⟩) hg1 (.int .i64 y0)).setCell (p := ⟨g, k * 3 + 1, none⟩) hg1 (.int .i64 x1)).setCell (p := ⟨g, k * 3 + 2, none⟩) hg1 (.int .i64 x2)
        dsimp only at h5
        refine ⟨_, rfl, ?_, h6⟩
        rw [hF.out, List.length_set, ← hn.out]
        exact h5
      · have hne : (y0 == x0) = false := by simpa using he
        clear hfa
        go_wp2
        go_quiet (fail)
        go_wp2
        go_roundw
        case rel => exact ⟨k + 1, by omega, by go_num, hide (hTk.out he), hX, hO, hset2 _⟩
        case measure => simp [intOf]; omega
    · obtain rfl : k = n := by omega
      have hF := hide (putP_none (l := L) (c := ⟨x0, x1, x2⟩) (fun y hy => by
        obtain ⟨j, hj, rfl⟩ := List.getElem_of_mem hy
        have := hT.out j (by rw [hn.out]; exact hj)
        simpa [List.getD, hj] using this))
      have hsz := hB.out.size
      go_wp2_with (at_builtin; refine wpList_append_own _ rfl _ _ 36 rfl w.heap.size 62 i0 _ 3 24 Tryz.underlying36 hi hz0 hz1 hz2 rfl (by decide) _ _ _ rfl (hO.out.alloc _) ⟨wC.heap.size, 0, none⟩ 1 1 [.int .i64 x0, .int .i64 x1, .int .i64 x2] rfl rfl (cells_newR _ _ _) (by intro u hu; simp at hu; rcases hu with rfl | rfl | rfl <;> rfl) (by unfold maxLen; omega) (by omega) (by simp; omega) ?_; intro v3 w3 o3 hg3 _)
      obtain ⟨A3, c3, rfl, _⟩ := own_form o3
      go_ret
      refine ⟨_, rfl, ?_, (hB.out.alloc hB.out.size _).grown hg3 (by simp; omega) (fun q hq => (hO.out.lt q hq).1)⟩
      rw [hF.out, List.length_append, List.flatMap_append, ← hn.out]
      simpa [Ch.enc] using o3
theorem putsP_take {a b : List Ch} {k : Nat} (hk : k < b.length) : putsP a (b.take (k + 1)) = putP (putsP a (b.take k)) (b.getD k default) := by
  rw [List.take_succ_eq_append_getElem hk, putsP_snoc]
  simp [List.getD, hk]
set_option maxRecDepth 100000 in
set_option maxHeartbeats 2000000 in
theorem places_any (w : World) (v u : Value) (L K : List Ch) (hL : Rd w v 3 L.length (L.flatMap Ch.enc)) (hK : Rd w u 3 K.length (K.flatMap Ch.enc)) (hl : L.length + K.length ≤ 100000) :
    Calls Tryz.prog 136 #[v, u] w fun e w' => ∃ v', e = .returned v' ∧ w'.ownsRow w.heap.size 62 3 v' (putsP L K).length ((putsP L K).flatMap Ch.enc) ∧ Below w.heap.size w w' := by
  obtain ⟨A, c, rfl, hcc⟩ := hL.form
  obtain ⟨A2, c2, rfl, hcc2⟩ := hK.form
  obtain ⟨n, hn⟩ : ∃ n, n = L.length := ⟨_, rfl⟩
  obtain ⟨m, hm⟩ : ∃ m, m = K.length := ⟨_, rfl⟩
  rw [← hn] at hL hcc hl ⊢
  rw [← hm] at hK hcc2 hl ⊢
  obtain ⟨r1, r2⟩ := rd_one0 36 hL (oneC L)
  have cA := all_child _ _ _ r1 r2 (by simp) (by rw [sum_one]; omega)
  rw [sum_one, cat_one] at cA
  replace cA := hide cA
  have hbx := hide ((Below.refl _ w).alloc (Nat.le_refl _) (.cells #[.slice A n c] 36))
  replace hn := hide hn
  replace hm := hide hm
  replace hK := hide hK
  clear hL r1 r2
  go_enter Tryz.func136, Tryz.ntmps136
  go_wp2_with fail
  refine cA.out.mono ?_
  rintro e w1 ⟨v1, rfl, ho1, hb1⟩
  have hB1 := hide (hbx.out.trans (hb1.mono (by simp)))
  have ho1 := hide (own_le (base' := w.heap.size) ho1 (by simp))
  obtain ⟨A1, c1, rfl, hc1⟩ := own_form ho1.out
  clear hb1 hbx cA
  go_wp2
  go_loopw [5, 13] (fun l i wr => ∃ k : Nat, k ≤ m ∧ i = .int .i64 k ∧ Hid (wr.ownsRow w.heap.size 62 3 l (putsP L (K.take k)).length ((putsP L (K.take k)).flatMap Ch.enc)) ∧ Hid (Below w.heap.size w wr))
    (fun _ i _ => m - (intOf i).toNat)
  case atStart => exact ⟨0, Nat.zero_le _, rfl, hide (by have e := hn.out; subst e; exact ho1.out), hB1⟩
  clear ho1 hB1
  case round =>
    obtain ⟨k, hk, rfl, hO, hB⟩ := hrel
    obtain ⟨wC, hC⟩ : ∃ wC, wC = wr := ⟨_, rfl⟩
    subst hC
    obtain ⟨A4, c4, rfl, hc4⟩ := own_form hO.out
    by_cases hlt : k < m
    · obtain ⟨b, off, rfl, hbl, hcell⟩ := (hK.out.below hB.out (Nat.le_refl _)).chCells hm.out (by omega)
      obtain ⟨k0, k1, k2⟩ := hcell k hlt
      have hkl : k < K.length := by rw [← hm.out]; exact hlt
      have hT := hide (putsP_take (a := L) hkl)
      have hle := putsP_len (K.take k) L
      rw [List.length_take, ← hn.out] at hle
      have cP := hide (fun o => put_any (wC.alloc o) _ _ (K.getD k default) ((Rd.of_own hO.out).alloc o) (by omega))
      obtain ⟨y, hy⟩ : ∃ y, y = K.getD k default := ⟨_, rfl⟩
      rw [← hy] at k0 k1 k2 hT cP
      have hsz := hB.out.size
      obtain ⟨q, hq⟩ : ∃ q, q = (putsP L (K.take k)).length := ⟨_, rfl⟩
      rw [← hq] at cP hc4 ⊢
      clear hcell hbl hy hle hq
      obtain ⟨y0, y1, y2⟩ := y
      unfold Ch.val at cP
      dsimp only at k0 k1 k2 cP
      go_wp2_with fail
      refine (cP.out _).mono ?_
      rintro e w2 ⟨v2, rfl, ho2, hb2⟩
      have hB2 : Hid (Below w.heap.size w w2) := (hB.out.alloc hsz _).trans (hb2.mono (by simp; omega))
      have ho2 := hide (own_le (base' := w.heap.size) ho2 (by simp; omega))
      go_wp2
      go_roundw
      case rel => exact ⟨k + 1, by omega, by go_num, hide (by rw [hT.out]; exact ho2.out), hB2⟩
      case measure => simp [intOf]; omega
    · obtain rfl : k = m := by omega
      have ht : K.take k = K := by rw [hm.out]; exact List.take_length
      rw [ht] at hO ⊢
      clear ht
      go_wp2
      go_ret
      exact ⟨_, rfl, hO.out, hB.out⟩
end Go.Proofs.YthkjicnnepkghaaGreatDoor
