/-
  slices.Grow, slices.Concat and state.all, at rectangles, numbers, children: lists one behind the other, in new memory.
  Rows of structs as lists: where each element's cells stand.
  Package forest in memory: surfaces behind a map of pointers, over a footprint; how they turn.
  A region that draws its order, by an invariant: what each operation leaves in its slot, whenever it comes up.
  A region that draws, by a plan: guarded operations; slices whose place is not told.
  append(v, x...) at a step of a region that draws: v our own, x any row.
  A region that draws its order and stores three times, by an invariant: what each operation leaves in its slot; the memory ahead of the stores, behind the first, behind the second.
-/
import Derived.Test.YthkjicnnepkghaaGreatDoorPkA
import Derived.Lib.AppendZeros
import Derived.LoopTactic
import Derived.Laws.Rows
import Derived.Orders
import Derived.Deep.RegionLaw
import Derived.Deep.AppendLies
namespace Go.Proofs.YthkjicnnepkghaaGreatDoor
open Go.RowKit

structure Src where
  v : Value
  n : Nat
  cs : List Value
def RdSrc (w : World) (sz : Nat) (L : List Src) : Prop := ∀ x ∈ L, Rd w x.v sz x.n x.cs ∧ (∀ u ∈ x.cs, u.oneCell' = true)
def sumSrc (L : List Src) : Nat := (L.map Src.n).sum
def catSrc (L : List Src) : List Value := L.flatMap Src.cs
instance : Inhabited Src := ⟨⟨.slice none 0 0, 0, []⟩⟩
theorem sumSrc_take {L : List Src} {k : Nat} (hk : k < L.length) : sumSrc (L.take (k + 1)) = sumSrc (L.take k) + (L.getD k default).n := by
  unfold sumSrc
  rw [List.take_succ_eq_append_getElem hk, List.map_append, List.sum_append]
  simp [List.getD, hk]
theorem catSrc_take {L : List Src} {k : Nat} (hk : k < L.length) : catSrc (L.take (k + 1)) = catSrc (L.take k) ++ (L.getD k default).cs := by
  unfold catSrc
  rw [List.take_succ_eq_append_getElem hk, List.flatMap_append]
  simp [List.getD, hk]
theorem sumSrc_le (L : List Src) (k : Nat) : sumSrc (L.take k) ≤ sumSrc L := by
  unfold sumSrc
  conv => rhs; rw [← List.take_append_drop k L, List.map_append, List.sum_append]
  exact Nat.le_add_right _ _
theorem RdSrc.at {w : World} {sz : Nat} {L : List Src} (h : RdSrc w sz L) {k : Nat} (hk : k < L.length) : Rd w (L.getD k default).v sz (L.getD k default).n (L.getD k default).cs ∧ (∀ u ∈ (L.getD k default).cs, u.oneCell' = true) := by
  refine h _ ?_
  have e : L.getD k default = L[k] := by simp [List.getD, hk]
  rw [e]; exact List.getElem_mem hk

theorem Tryz.infoCrect : (Tryz.prog.info? 30).map (fun i => (i.zero, i.size, i.bytes)) = some (some (Value.agg #[.int .i64 0, .int .i64 0, .int .i64 0, .int .i64 0]), 4, 32) := by kernel_rfl
set_option maxRecDepth 100000 in
set_option maxHeartbeats 1000000 in
theorem grow_rect (w : World) (n : Nat) (hn : n ≤ 1000000) :
    Calls Tryz.prog 173 #[.slice none 0 0, .int .i64 n] w fun e w' => ∃ v, e = .returned v ∧ w'.ownsRow w.heap.size 30 4 v 0 [] ∧ Below w.heap.size w w' := by
  obtain ⟨i0, hi, hz0, hz1, hz2⟩ := info_parts Tryz.infoCrect
  rcases Nat.eq_zero_or_pos n with rfl | h0
  · go_enter Tryz.func173, Tryz.ntmps173
    go_wp2
    go_ret
    exact ⟨_, rfl, World.ownsRow_nil _ _ _ _, Below.refl _ _⟩
  · have hr := Lib.run_append_nil_zeros (P := Tryz.prog) w 31 3 31 30 i0 _ .i64 .i64 Tryz.underlying31 Tryz.underlying3 hi hz0 n h0 (by rw [hz1]; decide) (by omega) (by rw [hz2]; omega)
    have hge := grownCap_ge w n 0 30
    have hle := grownCap_le_maxLen w n 0 30 (by unfold maxLen; omega)
    have hown := World.ownsRow_made (base := w.heap.size) (e := 30) (size := 4) w.drew (Builtin.zeroCells (Value.agg #[.int .i64 0, .int .i64 0, .int .i64 0, .int .i64 0] : Value).cells n ++ Builtin.zeroCells (Value.agg #[.int .i64 0, .int .i64 0, .int .i64 0, .int .i64 0] : Value).cells (grownCap w n 0 30 - n)) (grownCap w n 0 30) (Nat.le_refl _) hle (by
      rw [Array.size_append, size_zeroCells, size_zeroCells]
      have : (Value.agg #[.int .i64 0, .int .i64 0, .int .i64 0, .int .i64 0] : Value).cells.size = 4 := by rfl
      rw [this, ← Nat.add_mul, Nat.add_sub_cancel' hge])
    obtain ⟨c, hc⟩ : ∃ c, c = grownCap w n 0 30 := ⟨_, rfl⟩
    rw [← hc] at hr hge hown
    replace hr := hide hr
    replace hown := hide hown
    clear hc hle
    go_enter Tryz.func173, Tryz.ntmps173
    go_wp2_with (at_builtin; refine Lib.wpList_append_run _ rfl _ _ _ _ rfl _ _ rfl rfl _ _ hr.out ?_)
    go_ret
    exact ⟨_, rfl, hown.out, (below_drewN (Below.refl _ w) 1).alloc (by simp) _⟩

set_option maxRecDepth 100000 in
set_option maxHeartbeats 2000000 in
theorem concat_rect (w : World) (v : Value) (L : List Src) (hv : Rd w v 1 L.length (L.map Src.v)) (hL : RdSrc w 4 L) (hm : L.length ≤ 1000) (hn : sumSrc L ≤ 1000000) :
    Calls Tryz.prog 160 #[v] w fun e w' => ∃ v', e = .returned v' ∧ w'.ownsRow w.heap.size 30 4 v' (sumSrc L) (catSrc L) ∧ Below w.heap.size w w' := by
  obtain ⟨i0, hi, hz0, hz1, hz2⟩ := info_parts Tryz.infoCrect
  obtain ⟨m, hmm⟩ : ∃ m, m = L.length := ⟨_, rfl⟩
  rw [← hmm] at hv hm
  obtain ⟨A, c, rfl, hcc⟩ : ∃ A c, v = .slice A m c ∧ m ≤ c := by
    obtain ⟨_, A, c, rfl, hc, _⟩ := hv
    exact ⟨A, c, rfl, hc⟩
  have cG := hide (grow_rect w (sumSrc L) hn)
  replace hmm := hide hmm
  replace hv := hide hv
  replace hL := hide hL
  go_enter Tryz.func160, Tryz.ntmps160
  go_wp2
  go_loop [3, 11] (fun s i => ∃ k : Nat, k ≤ m ∧ i = .int .i64 k ∧ s = .int .i64 (sumSrc (L.take k) : Nat)) (fun _ i => m - (intOf i).toNat)
  case atStart => exact ⟨0, Nat.zero_le _, rfl, rfl⟩
  case round =>
    obtain ⟨k, hk, rfl, rfl⟩ := hrel
    by_cases hlt : k < m
    · have hkl : k < L.length := by rw [← hmm.out]; exact hlt
      obtain ⟨b, off, u, rfl, hb, hu, hc⟩ := hv.out.cell1 hlt
      obtain ⟨_, A2, c2, he, hc2, _⟩ := (hL.out.at hkl).1
      have hu2 : u = (L.getD k default).v := by
        rw [List.getElem?_map, List.getElem?_eq_getElem hkl] at hu
        simp at hu
        rw [← hu]; simp [List.getD, hkl]
      rw [hu2, he] at hc
      have hs := sumSrc_take hkl
      have hle := sumSrc_le L (k + 1)
      have h0 : ¬ ((sumSrc (L.take k) : Int) + ((L.getD k default).n : Int) < 0) := by omega
      have H1 : Hid ((sumSrc (L.take (k + 1)) : Nat) = sumSrc (L.take k) + (L.getD k default).n) := hide hs
      obtain ⟨q, hq⟩ : ∃ q, q = (L.getD k default).n := ⟨_, rfl⟩
      obtain ⟨t, ht⟩ : ∃ t, t = sumSrc (L.take k) := ⟨_, rfl⟩
      rw [← hq] at H1 hc h0
      rw [← ht] at H1 h0
      have hqt : t + q ≤ 1000000 := by rw [hq, ht]; omega
      rw [← ht]
      clear hs hle hu hu2 he hq ht
      go_wp2
      go_round
      case rel => exact ⟨k + 1, by omega, by go_num, by rw [H1.out]; go_num⟩
      case measure => simp [intOf]; omega
    · obtain rfl : k = m := by omega
      have ht : L.take k = L := by rw [hmm.out]; exact List.take_length
      rw [ht]
      clear hk hlt ht
      go_wp2_with fail
      refine cG.out.mono ?_
      rintro e w1 ⟨v1, rfl, ho1, hb1⟩
      clear cG
      obtain ⟨A1, c1, rfl, hc1⟩ := own_form ho1
      have hv1 := hide (hv.out.below hb1 (Nat.le_refl _))
      have hL1 : Hid (RdSrc w1 4 L) := hide fun x hx => ⟨(hL.out x hx).1.below hb1 (Nat.le_refl _), (hL.out x hx).2⟩
      replace ho1 := hide ho1
      replace hb1 := hide hb1
      go_wp2
      go_loopw [6, 27] (fun s i wr => ∃ j : Nat, j ≤ k ∧ i = .int .i64 j ∧ Hid (wr.ownsRow w.heap.size 30 4 s (sumSrc (L.take j)) (catSrc (L.take j))) ∧ Hid (Below w.heap.size w wr)) (fun _ i _ => k - (intOf i).toNat)
      case atStart => exact ⟨0, Nat.zero_le _, rfl, hide (by simpa [sumSrc, catSrc] using ho1.out), hb1⟩
      clear ho1 hb1 hv1 hL1
      case round =>
        obtain ⟨j, hj, rfl, ho, hb⟩ := hrel
        obtain ⟨wC, hC⟩ : ∃ wC, wC = wr := ⟨_, rfl⟩
        subst hC
        by_cases hlt : j < k
        · have hjl : j < L.length := by rw [← hmm.out]; exact hlt
          obtain ⟨b, off, u, rfl, hbb, hu, hc⟩ := (hv.out.below hb.out (Nat.le_refl _)).cell1 hlt
          have hRd := (hL.out.at hjl).1.below hb.out (Nat.le_refl _)
          have hOne := hide (hL.out.at hjl).2
          obtain ⟨_, A2, c2, he, hc2, _⟩ := (hL.out.at hjl).1
          have hu2 : u = (L.getD j default).v := by
            rw [List.getElem?_map, List.getElem?_eq_getElem hjl] at hu
            simp at hu
            rw [← hu]; simp [List.getD, hjl]
          rw [hu2, he] at hc
          rw [he] at hRd
          have H1 := hide (sumSrc_take hjl)
          have H2 := hide (catSrc_take hjl)
          have hle := sumSrc_le L (j + 1)
          have hle2 := sumSrc_take hjl
          have hsz := hb.out.size
          obtain ⟨A3, c3, rfl, hc3⟩ := own_form ho.out
          have hadd : sumSrc (L.take j) + (L.getD j default).n ≤ 1000000 := by omega
          obtain ⟨q, hq⟩ : ∃ q, q = (L.getD j default).n := ⟨_, rfl⟩
          obtain ⟨qs, hqs⟩ : ∃ q, q = (L.getD j default).cs := ⟨_, rfl⟩
          rw [← hq] at hRd hadd hc H1
          rw [← hqs] at hRd hOne H2
          have hRd' := hide hRd
          clear hu hu2 he hRd hle hle2 hq hqs
          go_wp2_with (at_builtin; refine wpList_append_rd rfl _ _ 31 rfl w.heap.size 30 i0 _ 4 32 Tryz.underlying31 hi hz0 hz1 hz2 rfl (by decide) _ _ _ rfl ho.out A2 _ c2 _ rfl hRd'.out hOne.out (by unfold maxLen; omega) (by omega) hsz ?_; intro v2 w2 o2 hg2)
          have hb2 : Hid (Below w.heap.size w w2) := hb.out.grown hg2 hsz (fun q hq => (ho.out.lt q hq).1)
          replace o2 := hide o2
          clear hg2
          go_roundw
          case rel => exact ⟨j + 1, by omega, by go_num, by rw [H1.out, H2.out]; exact o2, hb2⟩
          case measure => simp [intOf]; omega
        · obtain rfl : j = k := by omega
          have ht : L.take j = L := by rw [hmm.out]; exact List.take_length
          rw [ht] at ho
          obtain ⟨A3, c3, rfl, hc3⟩ := own_form ho.out
          clear ht
          go_wp2
          go_ret
          exact ⟨_, rfl, ho.out, hb.out⟩

theorem all_rect (w : World) (v : Value) (L : List Src) (hv : Rd w v 1 L.length (L.map Src.v)) (hL : RdSrc w 4 L) (hm : L.length ≤ 1000) (hn : sumSrc L ≤ 1000000) :
    Calls Tryz.prog 134 #[v] w fun e w' => ∃ v', e = .returned v' ∧ w'.ownsRow w.heap.size 30 4 v' (sumSrc L) (catSrc L) ∧ Below w.heap.size w w' := by
  obtain ⟨A, c, rfl, hcc⟩ : ∃ A c, v = .slice A L.length c ∧ L.length ≤ c := by
    obtain ⟨_, A, c, rfl, hc, _⟩ := hv
    exact ⟨A, c, rfl, hc⟩
  have cC := hide (concat_rect w _ L hv hL hm hn)
  clear hv hL
  go_enter Tryz.func134, Tryz.ntmps134
  go_wp2_with fail
  refine cC.out.mono ?_
  rintro e w1 ⟨v1, rfl, ho1, hb1⟩
  obtain ⟨A1, c1, rfl, hc1⟩ := own_form ho1
  replace ho1 := hide ho1
  go_wp2
  go_ret
  exact ⟨_, rfl, ho1.out, hb1⟩
theorem Tryz.infoCint : (Tryz.prog.info? 3).map (fun i => (i.zero, i.size, i.bytes)) = some (some (Value.int .i64 0), 1, 8) := by kernel_rfl
set_option maxRecDepth 100000 in
set_option maxHeartbeats 1000000 in
theorem grow_int (w : World) (n : Nat) (hn : n ≤ 1000000) :
    Calls Tryz.prog 174 #[.slice none 0 0, .int .i64 n] w fun e w' => ∃ v, e = .returned v ∧ w'.ownsRow w.heap.size 3 1 v 0 [] ∧ Below w.heap.size w w' := by
  obtain ⟨i0, hi, hz0, hz1, hz2⟩ := info_parts Tryz.infoCint
  rcases Nat.eq_zero_or_pos n with rfl | h0
  · go_enter Tryz.func174, Tryz.ntmps174
    go_wp2
    go_ret
    exact ⟨_, rfl, World.ownsRow_nil _ _ _ _, Below.refl _ _⟩
  · have hr := Lib.run_append_nil_zeros (P := Tryz.prog) w 38 3 38 3 i0 _ .i64 .i64 Tryz.underlying38 Tryz.underlying3 hi hz0 n h0 (by rw [hz1]; decide) (by omega) (by rw [hz2]; omega)
    have hge := grownCap_ge w n 0 3
    have hle := grownCap_le_maxLen w n 0 3 (by unfold maxLen; omega)
    have hown := World.ownsRow_made (base := w.heap.size) (e := 3) (size := 1) w.drew (Builtin.zeroCells (Value.int .i64 0 : Value).cells n ++ Builtin.zeroCells (Value.int .i64 0 : Value).cells (grownCap w n 0 3 - n)) (grownCap w n 0 3) (Nat.le_refl _) hle (by
      rw [Array.size_append, size_zeroCells, size_zeroCells]
      have : (Value.int .i64 0 : Value).cells.size = 1 := by rfl
      rw [this, ← Nat.add_mul, Nat.add_sub_cancel' hge])
    obtain ⟨c, hc⟩ : ∃ c, c = grownCap w n 0 3 := ⟨_, rfl⟩
    rw [← hc] at hr hge hown
    replace hr := hide hr
    replace hown := hide hown
    clear hc hle
    go_enter Tryz.func174, Tryz.ntmps174
    go_wp2_with (at_builtin; refine Lib.wpList_append_run _ rfl _ _ _ _ rfl _ _ rfl rfl _ _ hr.out ?_)
    go_ret
    exact ⟨_, rfl, hown.out, (below_drewN (Below.refl _ w) 1).alloc (by simp) _⟩

set_option maxRecDepth 100000 in
set_option maxHeartbeats 2000000 in
theorem concat_int (w : World) (v : Value) (L : List Src) (hv : Rd w v 1 L.length (L.map Src.v)) (hL : RdSrc w 1 L) (hm : L.length ≤ 1000) (hn : sumSrc L ≤ 1000000) :
    Calls Tryz.prog 161 #[v] w fun e w' => ∃ v', e = .returned v' ∧ w'.ownsRow w.heap.size 3 1 v' (sumSrc L) (catSrc L) ∧ Below w.heap.size w w' := by
  obtain ⟨i0, hi, hz0, hz1, hz2⟩ := info_parts Tryz.infoCint
  obtain ⟨m, hmm⟩ : ∃ m, m = L.length := ⟨_, rfl⟩
  rw [← hmm] at hv hm
  obtain ⟨A, c, rfl, hcc⟩ : ∃ A c, v = .slice A m c ∧ m ≤ c := by
    obtain ⟨_, A, c, rfl, hc, _⟩ := hv
    exact ⟨A, c, rfl, hc⟩
  have cG := hide (grow_int w (sumSrc L) hn)
  replace hmm := hide hmm
  replace hv := hide hv
  replace hL := hide hL
  go_enter Tryz.func161, Tryz.ntmps161
  go_wp2
  go_loop [3, 11] (fun s i => ∃ k : Nat, k ≤ m ∧ i = .int .i64 k ∧ s = .int .i64 (sumSrc (L.take k) : Nat)) (fun _ i => m - (intOf i).toNat)
  case atStart => exact ⟨0, Nat.zero_le _, rfl, rfl⟩
  case round =>
    obtain ⟨k, hk, rfl, rfl⟩ := hrel
    by_cases hlt : k < m
    · have hkl : k < L.length := by rw [← hmm.out]; exact hlt
      obtain ⟨b, off, u, rfl, hb, hu, hc⟩ := hv.out.cell1 hlt
      obtain ⟨_, A2, c2, he, hc2, _⟩ := (hL.out.at hkl).1
      have hu2 : u = (L.getD k default).v := by
        rw [List.getElem?_map, List.getElem?_eq_getElem hkl] at hu
        simp at hu
        rw [← hu]; simp [List.getD, hkl]
      rw [hu2, he] at hc
      have hs := sumSrc_take hkl
      have hle := sumSrc_le L (k + 1)
      have h0 : ¬ ((sumSrc (L.take k) : Int) + ((L.getD k default).n : Int) < 0) := by omega
      have H1 : Hid ((sumSrc (L.take (k + 1)) : Nat) = sumSrc (L.take k) + (L.getD k default).n) := hide hs
      obtain ⟨q, hq⟩ : ∃ q, q = (L.getD k default).n := ⟨_, rfl⟩
      obtain ⟨t, ht⟩ : ∃ t, t = sumSrc (L.take k) := ⟨_, rfl⟩
      rw [← hq] at H1 hc h0
      rw [← ht] at H1 h0
      have hqt : t + q ≤ 1000000 := by rw [hq, ht]; omega
      rw [← ht]
      clear hs hle hu hu2 he hq ht
      go_wp2
      go_round
      case rel => exact ⟨k + 1, by omega, by go_num, by rw [H1.out]; go_num⟩
      case measure => simp [intOf]; omega
    · obtain rfl : k = m := by omega
      have ht : L.take k = L := by rw [hmm.out]; exact List.take_length
      rw [ht]
      clear hk hlt ht
      go_wp2_with fail
      refine cG.out.mono ?_
      rintro e w1 ⟨v1, rfl, ho1, hb1⟩
      clear cG
      obtain ⟨A1, c1, rfl, hc1⟩ := own_form ho1
      have hv1 := hide (hv.out.below hb1 (Nat.le_refl _))
      have hL1 : Hid (RdSrc w1 1 L) := hide fun x hx => ⟨(hL.out x hx).1.below hb1 (Nat.le_refl _), (hL.out x hx).2⟩
      replace ho1 := hide ho1
      replace hb1 := hide hb1
      go_wp2
      go_loopw [6, 27] (fun s i wr => ∃ j : Nat, j ≤ k ∧ i = .int .i64 j ∧ Hid (wr.ownsRow w.heap.size 3 1 s (sumSrc (L.take j)) (catSrc (L.take j))) ∧ Hid (Below w.heap.size w wr)) (fun _ i _ => k - (intOf i).toNat)
      case atStart => exact ⟨0, Nat.zero_le _, rfl, hide (by simpa [sumSrc, catSrc] using ho1.out), hb1⟩
      clear ho1 hb1 hv1 hL1
      case round =>
        obtain ⟨j, hj, rfl, ho, hb⟩ := hrel
        obtain ⟨wC, hC⟩ : ∃ wC, wC = wr := ⟨_, rfl⟩
        subst hC
        by_cases hlt : j < k
        · have hjl : j < L.length := by rw [← hmm.out]; exact hlt
          obtain ⟨b, off, u, rfl, hbb, hu, hc⟩ := (hv.out.below hb.out (Nat.le_refl _)).cell1 hlt
          have hRd := (hL.out.at hjl).1.below hb.out (Nat.le_refl _)
          have hOne := hide (hL.out.at hjl).2
          obtain ⟨_, A2, c2, he, hc2, _⟩ := (hL.out.at hjl).1
          have hu2 : u = (L.getD j default).v := by
            rw [List.getElem?_map, List.getElem?_eq_getElem hjl] at hu
            simp at hu
            rw [← hu]; simp [List.getD, hjl]
          rw [hu2, he] at hc
          rw [he] at hRd
          have H1 := hide (sumSrc_take hjl)
          have H2 := hide (catSrc_take hjl)
          have hle := sumSrc_le L (j + 1)
          have hle2 := sumSrc_take hjl
          have hsz := hb.out.size
          obtain ⟨A3, c3, rfl, hc3⟩ := own_form ho.out
          have hadd : sumSrc (L.take j) + (L.getD j default).n ≤ 1000000 := by omega
          obtain ⟨q, hq⟩ : ∃ q, q = (L.getD j default).n := ⟨_, rfl⟩
          obtain ⟨qs, hqs⟩ : ∃ q, q = (L.getD j default).cs := ⟨_, rfl⟩
          rw [← hq] at hRd hadd hc H1
          rw [← hqs] at hRd hOne H2
          have hRd' := hide hRd
          clear hu hu2 he hRd hle hle2 hq hqs
          go_wp2_with (at_builtin; refine wpList_append_rd rfl _ _ 38 rfl w.heap.size 3 i0 _ 1 8 Tryz.underlying38 hi hz0 hz1 hz2 rfl (by decide) _ _ _ rfl ho.out A2 _ c2 _ rfl hRd'.out hOne.out (by unfold maxLen; omega) (by omega) hsz ?_; intro v2 w2 o2 hg2)
          have hb2 : Hid (Below w.heap.size w w2) := hb.out.grown hg2 hsz (fun q hq => (ho.out.lt q hq).1)
          replace o2 := hide o2
          clear hg2
          go_roundw
          case rel => exact ⟨j + 1, by omega, by go_num, by rw [H1.out, H2.out]; exact o2, hb2⟩
          case measure => simp [intOf]; omega
        · obtain rfl : j = k := by omega
          have ht : L.take j = L := by rw [hmm.out]; exact List.take_length
          rw [ht] at ho
          obtain ⟨A3, c3, rfl, hc3⟩ := own_form ho.out
          clear ht
          go_wp2
          go_ret
          exact ⟨_, rfl, ho.out, hb.out⟩

theorem all_int (w : World) (v : Value) (L : List Src) (hv : Rd w v 1 L.length (L.map Src.v)) (hL : RdSrc w 1 L) (hm : L.length ≤ 1000) (hn : sumSrc L ≤ 1000000) :
    Calls Tryz.prog 135 #[v] w fun e w' => ∃ v', e = .returned v' ∧ w'.ownsRow w.heap.size 3 1 v' (sumSrc L) (catSrc L) ∧ Below w.heap.size w w' := by
  obtain ⟨A, c, rfl, hcc⟩ : ∃ A c, v = .slice A L.length c ∧ L.length ≤ c := by
    obtain ⟨_, A, c, rfl, hc, _⟩ := hv
    exact ⟨A, c, rfl, hc⟩
  have cC := hide (concat_int w _ L hv hL hm hn)
  clear hv hL
  go_enter Tryz.func135, Tryz.ntmps135
  go_wp2_with fail
  refine cC.out.mono ?_
  rintro e w1 ⟨v1, rfl, ho1, hb1⟩
  obtain ⟨A1, c1, rfl, hc1⟩ := own_form ho1
  replace ho1 := hide ho1
  go_wp2
  go_ret
  exact ⟨_, rfl, ho1.out, hb1⟩
theorem Tryz.infoCchild : (Tryz.prog.info? 62).map (fun i => (i.zero, i.size, i.bytes)) = some (some (Value.agg #[.int .i64 0, .int .i64 0, .int .i64 0]), 3, 24) := by kernel_rfl
set_option maxRecDepth 100000 in
set_option maxHeartbeats 1000000 in
theorem grow_child (w : World) (n : Nat) (hn : n ≤ 1000000) :
    Calls Tryz.prog 168 #[.slice none 0 0, .int .i64 n] w fun e w' => ∃ v, e = .returned v ∧ w'.ownsRow w.heap.size 62 3 v 0 [] ∧ Below w.heap.size w w' := by
  obtain ⟨i0, hi, hz0, hz1, hz2⟩ := info_parts Tryz.infoCchild
  rcases Nat.eq_zero_or_pos n with rfl | h0
  · go_enter Tryz.func168, Tryz.ntmps168
    go_wp2
    go_ret
    exact ⟨_, rfl, World.ownsRow_nil _ _ _ _, Below.refl _ _⟩
  · have hr := Lib.run_append_nil_zeros (P := Tryz.prog) w 36 3 36 62 i0 _ .i64 .i64 Tryz.underlying36 Tryz.underlying3 hi hz0 n h0 (by rw [hz1]; decide) (by omega) (by rw [hz2]; omega)
    have hge := grownCap_ge w n 0 62
    have hle := grownCap_le_maxLen w n 0 62 (by unfold maxLen; omega)
    have hown := World.ownsRow_made (base := w.heap.size) (e := 62) (size := 3) w.drew (Builtin.zeroCells (Value.agg #[.int .i64 0, .int .i64 0, .int .i64 0] : Value).cells n ++ Builtin.zeroCells (Value.agg #[.int .i64 0, .int .i64 0, .int .i64 0] : Value).cells (grownCap w n 0 62 - n)) (grownCap w n 0 62) (Nat.le_refl _) hle (by
      rw [Array.size_append, size_zeroCells, size_zeroCells]
      have : (Value.agg #[.int .i64 0, .int .i64 0, .int .i64 0] : Value).cells.size = 3 := by rfl
      rw [this, ← Nat.add_mul, Nat.add_sub_cancel' hge])
    obtain ⟨c, hc⟩ : ∃ c, c = grownCap w n 0 62 := ⟨_, rfl⟩
    rw [← hc] at hr hge hown
    replace hr := hide hr
    replace hown := hide hown
    clear hc hle
    go_enter Tryz.func168, Tryz.ntmps168
    go_wp2_with (at_builtin; refine Lib.wpList_append_run _ rfl _ _ _ _ rfl _ _ rfl rfl _ _ hr.out ?_)
    go_ret
    exact ⟨_, rfl, hown.out, (below_drewN (Below.refl _ w) 1).alloc (by simp) _⟩

set_option maxRecDepth 100000 in
set_option maxHeartbeats 2000000 in
theorem concat_child (w : World) (v : Value) (L : List Src) (hv : Rd w v 1 L.length (L.map Src.v)) (hL : RdSrc w 3 L) (hm : L.length ≤ 1000) (hn : sumSrc L ≤ 1000000) :
    Calls Tryz.prog 152 #[v] w fun e w' => ∃ v', e = .returned v' ∧ w'.ownsRow w.heap.size 62 3 v' (sumSrc L) (catSrc L) ∧ Below w.heap.size w w' := by
  obtain ⟨i0, hi, hz0, hz1, hz2⟩ := info_parts Tryz.infoCchild
  obtain ⟨m, hmm⟩ : ∃ m, m = L.length := ⟨_, rfl⟩
  rw [← hmm] at hv hm
  obtain ⟨A, c, rfl, hcc⟩ : ∃ A c, v = .slice A m c ∧ m ≤ c := by
    obtain ⟨_, A, c, rfl, hc, _⟩ := hv
    exact ⟨A, c, rfl, hc⟩
  have cG := hide (grow_child w (sumSrc L) hn)
  replace hmm := hide hmm
  replace hv := hide hv
  replace hL := hide hL
  go_enter Tryz.func152, Tryz.ntmps152
  go_wp2
  go_loop [3, 11] (fun s i => ∃ k : Nat, k ≤ m ∧ i = .int .i64 k ∧ s = .int .i64 (sumSrc (L.take k) : Nat)) (fun _ i => m - (intOf i).toNat)
  case atStart => exact ⟨0, Nat.zero_le _, rfl, rfl⟩
  case round =>
    obtain ⟨k, hk, rfl, rfl⟩ := hrel
    by_cases hlt : k < m
    · have hkl : k < L.length := by rw [← hmm.out]; exact hlt
      obtain ⟨b, off, u, rfl, hb, hu, hc⟩ := hv.out.cell1 hlt
      obtain ⟨_, A2, c2, he, hc2, _⟩ := (hL.out.at hkl).1
      have hu2 : u = (L.getD k default).v := by
        rw [List.getElem?_map, List.getElem?_eq_getElem hkl] at hu
        simp at hu
        rw [← hu]; simp [List.getD, hkl]
      rw [hu2, he] at hc
      have hs := sumSrc_take hkl
      have hle := sumSrc_le L (k + 1)
      have h0 : ¬ ((sumSrc (L.take k) : Int) + ((L.getD k default).n : Int) < 0) := by omega
      have H1 : Hid ((sumSrc (L.take (k + 1)) : Nat) = sumSrc (L.take k) + (L.getD k default).n) := hide hs
      obtain ⟨q, hq⟩ : ∃ q, q = (L.getD k default).n := ⟨_, rfl⟩
      obtain ⟨t, ht⟩ : ∃ t, t = sumSrc (L.take k) := ⟨_, rfl⟩
      rw [← hq] at H1 hc h0
      rw [← ht] at H1 h0
      have hqt : t + q ≤ 1000000 := by rw [hq, ht]; omega
      rw [← ht]
      clear hs hle hu hu2 he hq ht
      go_wp2
      go_round
      case rel => exact ⟨k + 1, by omega, by go_num, by rw [H1.out]; go_num⟩
      case measure => simp [intOf]; omega
    · obtain rfl : k = m := by omega
      have ht : L.take k = L := by rw [hmm.out]; exact List.take_length
      rw [ht]
      clear hk hlt ht
      go_wp2_with fail
      refine cG.out.mono ?_
      rintro e w1 ⟨v1, rfl, ho1, hb1⟩
      clear cG
      obtain ⟨A1, c1, rfl, hc1⟩ := own_form ho1
      have hv1 := hide (hv.out.below hb1 (Nat.le_refl _))
      have hL1 : Hid (RdSrc w1 3 L) := hide fun x hx => ⟨(hL.out x hx).1.below hb1 (Nat.le_refl _), (hL.out x hx).2⟩
      replace ho1 := hide ho1
      replace hb1 := hide hb1
      go_wp2
      go_loopw [6, 27] (fun s i wr => ∃ j : Nat, j ≤ k ∧ i = .int .i64 j ∧ Hid (wr.ownsRow w.heap.size 62 3 s (sumSrc (L.take j)) (catSrc (L.take j))) ∧ Hid (Below w.heap.size w wr)) (fun _ i _ => k - (intOf i).toNat)
      case atStart => exact ⟨0, Nat.zero_le _, rfl, hide (by simpa [sumSrc, catSrc] using ho1.out), hb1⟩
      clear ho1 hb1 hv1 hL1
      case round =>
        obtain ⟨j, hj, rfl, ho, hb⟩ := hrel
        obtain ⟨wC, hC⟩ : ∃ wC, wC = wr := ⟨_, rfl⟩
        subst hC
        by_cases hlt : j < k
        · have hjl : j < L.length := by rw [← hmm.out]; exact hlt
          obtain ⟨b, off, u, rfl, hbb, hu, hc⟩ := (hv.out.below hb.out (Nat.le_refl _)).cell1 hlt
          have hRd := (hL.out.at hjl).1.below hb.out (Nat.le_refl _)
          have hOne := hide (hL.out.at hjl).2
          obtain ⟨_, A2, c2, he, hc2, _⟩ := (hL.out.at hjl).1
          have hu2 : u = (L.getD j default).v := by
            rw [List.getElem?_map, List.getElem?_eq_getElem hjl] at hu
            simp at hu
            rw [← hu]; simp [List.getD, hjl]
          rw [hu2, he] at hc
          rw [he] at hRd
          have H1 := hide (sumSrc_take hjl)
          have H2 := hide (catSrc_take hjl)
          have hle := sumSrc_le L (j + 1)
          have hle2 := sumSrc_take hjl
          have hsz := hb.out.size
          obtain ⟨A3, c3, rfl, hc3⟩ := own_form ho.out
          have hadd : sumSrc (L.take j) + (L.getD j default).n ≤ 1000000 := by omega
          obtain ⟨q, hq⟩ : ∃ q, q = (L.getD j default).n := ⟨_, rfl⟩
          obtain ⟨qs, hqs⟩ : ∃ q, q = (L.getD j default).cs := ⟨_, rfl⟩
          rw [← hq] at hRd hadd hc H1
          rw [← hqs] at hRd hOne H2
          have hRd' := hide hRd
          clear hu hu2 he hRd hle hle2 hq hqs
          go_wp2_with (at_builtin; refine wpList_append_rd rfl _ _ 36 rfl w.heap.size 62 i0 _ 3 24 Tryz.underlying36 hi hz0 hz1 hz2 rfl (by decide) _ _ _ rfl ho.out A2 _ c2 _ rfl hRd'.out hOne.out (by unfold maxLen; omega) (by omega) hsz ?_; intro v2 w2 o2 hg2)
          have hb2 : Hid (Below w.heap.size w w2) := hb.out.grown hg2 hsz (fun q hq => (ho.out.lt q hq).1)
          replace o2 := hide o2
          clear hg2
          go_roundw
          case rel => exact ⟨j + 1, by omega, by go_num, by rw [H1.out, H2.out]; exact o2, hb2⟩
          case measure => simp [intOf]; omega
        · obtain rfl : j = k := by omega
          have ht : L.take j = L := by rw [hmm.out]; exact List.take_length
          rw [ht] at ho
          obtain ⟨A3, c3, rfl, hc3⟩ := own_form ho.out
          clear ht
          go_wp2
          go_ret
          exact ⟨_, rfl, ho.out, hb.out⟩

theorem all_child (w : World) (v : Value) (L : List Src) (hv : Rd w v 1 L.length (L.map Src.v)) (hL : RdSrc w 3 L) (hm : L.length ≤ 1000) (hn : sumSrc L ≤ 1000000) :
    Calls Tryz.prog 118 #[v] w fun e w' => ∃ v', e = .returned v' ∧ w'.ownsRow w.heap.size 62 3 v' (sumSrc L) (catSrc L) ∧ Below w.heap.size w w' := by
  obtain ⟨A, c, rfl, hcc⟩ : ∃ A c, v = .slice A L.length c ∧ L.length ≤ c := by
    obtain ⟨_, A, c, rfl, hc, _⟩ := hv
    exact ⟨A, c, rfl, hc⟩
  have cC := hide (concat_child w _ L hv hL hm hn)
  clear hv hL
  go_enter Tryz.func118, Tryz.ntmps118
  go_wp2_with fail
  refine cC.out.mono ?_
  rintro e w1 ⟨v1, rfl, ho1, hb1⟩
  obtain ⟨A1, c1, rfl, hc1⟩ := own_form ho1
  replace ho1 := hide ho1
  go_wp2
  go_ret
  exact ⟨_, rfl, ho1.out, hb1⟩
end Go.Proofs.YthkjicnnepkghaaGreatDoor
namespace Go.Proofs.YthkjicnnepkghaaGreatDoor
open Go.RowKit
set_option linter.unusedSectionVars false

section
variable {α : Type} [Inhabited α] {enc : α → List Value} {sz : Nat}
theorem getD_memR {L : List α} {k : Nat} (hk : k < L.length) : L.getD k default ∈ L := by
  have e : L.getD k default = L[k] := by simp [List.getD, hk]
  rw [e]; exact List.getElem_mem hk
theorem flat_len (hs : ∀ r, (enc r).length = sz) (L : List α) : (L.flatMap enc).length = L.length * sz := by
  induction L with
  | nil => simp
  | cons r L ih => rw [List.flatMap_cons, List.length_append, ih, hs, List.length_cons, Nat.succ_mul]; omega
theorem flat_row (hs : ∀ r, (enc r).length = sz) : ∀ {L : List α} {k : Nat} (_ : k < L.length) (j : Nat) (_ : j < sz), (L.flatMap enc)[k * sz + j]? = (enc (L.getD k default))[j]?
  | [], k, hk, _, _ => by simp at hk
  | r :: L, 0, _, j, hj => by
    rw [List.flatMap_cons, List.getElem?_append_left (by rw [hs]; omega)]
    simp
  | r :: L, k + 1, hk, j, hj => by
    rw [List.flatMap_cons, List.getElem?_append_right (by rw [hs, Nat.succ_mul]; omega), hs, show (k + 1) * sz + j - sz = k * sz + j by rw [Nat.succ_mul]; omega, flat_row hs (by simpa using hk) j hj]
    simp
theorem flat_set (hs : ∀ r, (enc r).length = sz) : ∀ {L : List α} {k : Nat} (_ : k < L.length) (j : Nat) (_ : j < sz) (u : Value) (r' : α) (_ : (enc (L.getD k default)).set j u = enc r'), (L.flatMap enc).set (k * sz + j) u = (L.set k r').flatMap enc
  | [], k, hk, _, _, _, _, _ => by simp at hk
  | r :: L, 0, _, j, hj, u, r', hr => by
    have hr : (enc r).set j u = enc r' := hr
    rw [List.flatMap_cons, List.set_append_left _ _ (by rw [hs]; omega), List.set_cons_zero, List.flatMap_cons]
    simp [hr]
  | r :: L, k + 1, hk, j, hj, u, r', hr => by
    have ih := flat_set hs (L := L) (k := k) (by simpa using hk) j hj u r' hr
    rw [List.flatMap_cons, List.set_append_right _ _ (by rw [hs, Nat.succ_mul]; omega), hs, show (k + 1) * sz + j - sz = k * sz + j by rw [Nat.succ_mul]; omega, ih]
    rfl
theorem flat_take (hs : ∀ r, (enc r).length = sz) : ∀ (L : List α) (k : Nat), (L.flatMap enc).take (k * sz) = (L.take k).flatMap enc
  | [], k => by simp
  | r :: L, 0 => by simp
  | r :: L, k + 1 => by
    rw [List.flatMap_cons, List.take_succ_cons, List.flatMap_cons, List.take_append, hs, show (k + 1) * sz - sz = k * sz by rw [Nat.succ_mul]; omega, flat_take hs L k, List.take_of_length_le (by rw [hs, Nat.succ_mul]; omega)]
theorem flat_drop (hs : ∀ r, (enc r).length = sz) : ∀ (L : List α) (k : Nat), (L.flatMap enc).drop (k * sz) = (L.drop k).flatMap enc
  | [], k => by simp
  | r :: L, 0 => by simp
  | r :: L, k + 1 => by
    rw [List.flatMap_cons, List.drop_succ_cons, List.drop_append, hs, show (k + 1) * sz - sz = k * sz by rw [Nat.succ_mul]; omega, flat_drop hs L k, List.drop_eq_nil_of_le (by rw [hs, Nat.succ_mul]; omega), List.nil_append]
end

theorem Rd.chCells {w : World} {A : Option Addr} {c n : Nat} {L : List Ch} (h : Rd w (.slice A n c) 3 n (L.flatMap Ch.enc)) (hn : n = L.length) (h0 : 0 < n) :
    ∃ b off, A = some ⟨b, off, none⟩ ∧ b < w.heap.size ∧ ∀ k, k < n → w.cell? ⟨b, off + k * 3, none⟩ = some (.int .i64 (L.getD k default).id) ∧ w.cell? ⟨b, off + k * 3 + 1, none⟩ = some (.int .i64 (L.getD k default).x) ∧
      w.cell? ⟨b, off + k * 3 + 2, none⟩ = some (.int .i64 (L.getD k default).y) := by
  obtain ⟨h1, A', c', hv, hc, h2⟩ := h
  simp only [Value.slice.injEq] at hv
  obtain ⟨rfl, _, rfl⟩ := hv
  obtain ⟨b, off, rfl, hb, hcell⟩ := h2 h0
  refine ⟨b, off, rfl, hb, fun k hk => ?_⟩
  have H := fun j hj u (e : ((L.getD k default).enc)[j]? = some u) => hcell (k * 3 + j) u (by rw [flat_row Ch.len (by omega) j hj]; exact e)
  exact ⟨H 0 (by decide) _ rfl, by rw [show off + k * 3 + 1 = off + (k * 3 + 1) by omega]; exact H 1 (by decide) _ rfl, by rw [show off + k * 3 + 2 = off + (k * 3 + 2) by omega]; exact H 2 (by decide) _ rfl⟩
theorem oneR (L : List R4) : ∀ u ∈ L.flatMap R4.enc, u.oneCell' = true := by
  intro u hu
  obtain ⟨r, _, hr⟩ := List.mem_flatMap.1 hu
  simp [R4.enc] at hr
  rcases hr with rfl | rfl | rfl | rfl <;> rfl
theorem oneC (L : List Ch) : ∀ u ∈ L.flatMap Ch.enc, u.oneCell' = true := by
  intro u hu
  obtain ⟨r, _, hr⟩ := List.mem_flatMap.1 hu
  simp [Ch.enc] at hr
  rcases hr with rfl | rfl | rfl <;> rfl
theorem oneI (L : List Int) : ∀ u ∈ L.map (Value.int .i64), u.oneCell' = true := by
  intro u hu
  obtain ⟨r, _, rfl⟩ := List.mem_map.1 hu
  rfl
theorem find_at {l : List Ch} {id : Int} : ∀ {k : Nat}, k < l.length → (l.getD k default).id = id → (∀ j, j < k → (l.getD j default).id ≠ id) → findP l id = some (l.getD k default) := by
  induction l with
  | nil => intro k hk; simp at hk
  | cons x l ih =>
    intro k hk he hf
    unfold findP at ih ⊢
    cases k with
    | zero =>
      have he : x.id = id := he
      rw [List.find?_cons_of_pos (by simpa using he)]; rfl
    | succ k =>
      have h0 : x.id ≠ id := hf 0 (by omega)
      rw [List.find?_cons_of_neg (by simpa using h0)]
      exact ih (by simpa using hk) he fun j hj => hf (j + 1) (by omega)
theorem find_none {l : List Ch} {id : Int} (h : ∀ j, j < l.length → (l.getD j default).id ≠ id) : findP l id = none := by
  unfold findP
  rw [List.find?_eq_none]
  intro x hx
  obtain ⟨k, hk, rfl⟩ := List.getElem_of_mem hx
  have := h k hk
  simpa [List.getD, hk] using this
theorem set3 (w : World) (g : Nat) (t : TypeId) (a0 a1 a2 x0 x1 x2 : Value) (h : w.heap[g]? = some (.cells #[a0, a1, a2] t (0, 0))) :
    (((w.setCell ⟨g, 0, none⟩ x0).setCell ⟨g, 1, none⟩ x1).setCell ⟨g, 2, none⟩ x2).heap[g]? = some (.cells #[x0, x1, x2] t (0, 0)) := by
  have h1 := heap_setCell_same w g 0 _ _ x0 h
  have h2 := heap_setCell_same _ g 1 _ _ x1 h1
  have h3 := heap_setCell_same _ g 2 _ _ x2 h2
  exact h3
theorem below_set3 {B : Nat} {W w : World} (hb : Below B W w) {g : Nat} (hg : B ≤ g) (x0 x1 x2 : Value) : Below B W (((w.setCell ⟨g, 0, none⟩ x0).setCell ⟨g, 1, none⟩ x1).setCell ⟨g, 2, none⟩ x2) :=
  ((hb.setCell (p := ⟨g, 0, none⟩) hg x0).setCell (p := ⟨g, 1, none⟩) hg x1).setCell (p := ⟨g, 2, none⟩) hg x2
theorem own_set {w : World} {base g n c i sz : Nat} {e : TypeId} {cs : List Value} (h : w.ownsRow base e sz (.slice (some ⟨g, 0, none⟩) n c) n cs) (u : Value) :
    (w.setCell ⟨g, i, none⟩ u).ownsRow base e sz (.slice (some ⟨g, 0, none⟩) n c) n (cs.set i u) := by
  refine ⟨by rw [List.length_set]; exact h.1, ?_⟩
  rcases h.2 with ⟨h2, _⟩ | ⟨g', cap, cur, hv, hb, hg, hnc, hm, hs, ht⟩
  · cases h2
  · simp only [Value.slice.injEq, Option.some.injEq, Addr.mk.injEq] at hv
    obtain ⟨⟨rfl, _⟩, _, rfl⟩ := hv
    refine .inr ⟨g, c, cur.setIfInBounds i u, rfl, hb, heap_setCell_same w g i cur e u hg, hnc, hm, by simpa using hs, ?_⟩
    rw [Array.toList_setIfInBounds, List.take_set, ht]
theorem own_frozen {w : World} {base g n c sz : Nat} {e : TypeId} {cs : List Value} (h : w.ownsRow base e sz (.slice (some ⟨g, 0, none⟩) n c) n cs) (i : Nat) : w.frozen? ⟨g, i, none⟩ = false := by
  rcases h.2 with ⟨h2, _⟩ | ⟨g', cap, cur, hv, hb, hg, _⟩
  · cases h2
  · simp only [Value.slice.injEq, Option.some.injEq, Addr.mk.injEq] at hv
    obtain ⟨⟨rfl, _⟩, _, rfl⟩ := hv
    simp [World.frozen?, hg]
theorem own_at {w : World} {base n sz : Nat} {e : TypeId} {v : Value} {cs : List Value} (h : w.ownsRow base e sz v n cs) (h0 : 0 < n) : ∃ g c, v = .slice (some ⟨g, 0, none⟩) n c ∧ base ≤ g ∧ n ≤ c ∧ g < w.heap.size := by
  rcases h.2 with ⟨_, h2⟩ | ⟨g, cap, cur, hv, hb, hg, hnc, _⟩
  · omega
  · exact ⟨g, cap, hv, hb, hnc, lt_of_block hg⟩
theorem own_setCh {w : World} {base g n c k : Nat} {e : TypeId} {L : List Ch} (h : w.ownsRow base e 3 (.slice (some ⟨g, 0, none⟩) n c) n (L.flatMap Ch.enc)) (hn : n = L.length) (hk : k < n) (x : Ch) :
    (((w.setCell ⟨g, k * 3, none⟩ (.int .i64 x.id)).setCell ⟨g, k * 3 + 1, none⟩ (.int .i64 x.x)).setCell ⟨g, k * 3 + 2, none⟩ (.int .i64 x.y)).ownsRow base e 3 (.slice (some ⟨g, 0, none⟩) n c) n ((L.set k x).flatMap Ch.enc) := by
  have hk0 : k < L.length := by omega
  have h1 := own_set (i := k * 3) h (.int .i64 x.id)
  have e1 := flat_set Ch.len hk0 0 (by decide) (.int .i64 x.id) { L.getD k default with id := x.id } rfl
  rw [show k * 3 = k * 3 + 0 by rfl, e1] at h1
  have hk1 : k < (L.set k { L.getD k default with id := x.id }).length := by rw [List.length_set]; omega
  have g1 : (L.set k { L.getD k default with id := x.id }).getD k default = { L.getD k default with id := x.id } := by simp [List.getD, hk0]
  have h2 := own_set (i := k * 3 + 1) h1 (.int .i64 x.x)
  have e2 := flat_set Ch.len hk1 1 (by decide) (.int .i64 x.x) { L.getD k default with id := x.id, x := x.x } (by rw [g1]; rfl)
  rw [e2, List.set_set] at h2
  have hk2 : k < (L.set k { L.getD k default with id := x.id, x := x.x }).length := by rw [List.length_set]; omega
  have g2 : (L.set k { L.getD k default with id := x.id, x := x.x }).getD k default = { L.getD k default with id := x.id, x := x.x } := by simp [List.getD, hk0]
  have h3 := own_set (i := k * 3 + 2) h2 (.int .i64 x.y)
  have e3 := flat_set Ch.len hk2 2 (by decide) (.int .i64 x.y) x (by rw [g2]; rfl)
  rw [e3, List.set_set] at h3
  exact h3
end Go.Proofs.YthkjicnnepkghaaGreatDoor
namespace Go.Proofs.YthkjicnnepkghaaGreatDoor
open Go.RowKit
set_option linter.unusedSectionVars false

structure StV where
  d : Value
  f : Value
  r : Value
  o : Value
  p : Value
def StV.nil : StV := ⟨.slice none 0 0, .slice none 0 0, .slice none 0 0, .slice none 0 0, .slice none 0 0⟩
def stVal (s : St) (v : StV) : Value := .agg #[.bool s.attach, .int .i64 s.buffer, v.d, v.f, .bool s.input, .bool s.all, v.r, .bool s.ordered, v.o, v.p]
def encI (x : Int) : List Value := [.int .i64 x]

structure StRd (w : World) (v : StV) (s : St) : Prop where
  d : Rd w v.d 4 s.damage.length (s.damage.flatMap R4.enc)
  f : Rd w v.f 1 s.frames.length (s.frames.map (Value.int .i64))
  r : Rd w v.r 4 s.region.length (s.region.flatMap R4.enc)
  o : Rd w v.o 1 s.order.length (s.order.map (Value.int .i64))
  p : Rd w v.p 3 s.places.length (s.places.flatMap Ch.enc)
def BlkIn (G : Nat → Prop) (v : Value) (n : Nat) : Prop := 0 < n → ∀ b, v.ownBlock = some b → G b
structure StIn (G : Nat → Prop) (v : StV) (s : St) : Prop where
  d : BlkIn G v.d s.damage.length
  f : BlkIn G v.f s.frames.length
  r : BlkIn G v.r s.region.length
  o : BlkIn G v.o s.order.length
  p : BlkIn G v.p s.places.length

section
variable {w w' : World} {G G' : Nat → Prop} {v : StV} {s : St}
theorem Rd.keepIn {u : Value} {sz n : Nat} {cs : List Value} (h : Rd w u sz n cs) (hi : BlkIn G u n) (hz : w.heap.size ≤ w'.heap.size) (hk : ∀ b, G b → b < w.heap.size → w'.heap[b]? = w.heap[b]?) : Rd w' u sz n cs := by
  obtain ⟨h1, A, c, rfl, hc, h2⟩ := h
  refine ⟨h1, A, c, rfl, hc, fun hn => ?_⟩
  obtain ⟨b, off, rfl, hb, hcell⟩ := h2 hn
  exact ⟨b, off, rfl, by omega, fun j u hu => (World.cell?_of_block (a := ⟨b, off + j, none⟩) (hk b (hi hn b rfl) hb)).trans (hcell j u hu)⟩
theorem BlkIn.mono {u : Value} {n : Nat} (h : BlkIn G u n) (hG : ∀ b, G b → G' b) : BlkIn G' u n := fun hn b hb => hG b (h hn b hb)
theorem BlkIn.nil (G : Nat → Prop) (n : Nat) : BlkIn G (.slice none 0 0) n := fun _ b hb => by cases hb
theorem StRd.keep (h : StRd w v s) (hi : StIn G v s) (hz : w.heap.size ≤ w'.heap.size) (hk : ∀ b, G b → b < w.heap.size → w'.heap[b]? = w.heap[b]?) : StRd w' v s :=
  ⟨h.d.keepIn hi.d hz hk, h.f.keepIn hi.f hz hk, h.r.keepIn hi.r hz hk, h.o.keepIn hi.o hz hk, h.p.keepIn hi.p hz hk⟩
theorem StRd.below {B : Nat} (h : StRd w v s) (hb : Below B w w') (hB : w.heap.size ≤ B) : StRd w' v s :=
  ⟨h.d.below hb hB, h.f.below hb hB, h.r.below hb hB, h.o.below hb hB, h.p.below hb hB⟩
theorem StRd.zero (w : World) : StRd w StV.nil St.zero := ⟨Rd.nil _ _, Rd.nil _ _, Rd.nil _ _, Rd.nil _ _, Rd.nil _ _⟩
theorem StIn.mono (h : StIn G v s) (hG : ∀ b, G b → G' b) : StIn G' v s := ⟨h.d.mono hG, h.f.mono hG, h.r.mono hG, h.o.mono hG, h.p.mono hG⟩
theorem StIn.zero (G : Nat → Prop) (s : St) : StIn G StV.nil s := ⟨BlkIn.nil _ _, BlkIn.nil _ _, BlkIn.nil _ _, BlkIn.nil _ _, BlkIn.nil _ _⟩
theorem Rd.form {u : Value} {sz n : Nat} {cs : List Value} (h : Rd w u sz n cs) : ∃ A c, u = .slice A n c ∧ n ≤ c := by
  obtain ⟨_, A, c, rfl, hc, _⟩ := h
  exact ⟨A, c, rfl, hc⟩
theorem Rd.inSize {u : Value} {sz n : Nat} {cs : List Value} (h : Rd w u sz n cs) : BlkIn (fun b => b < w.heap.size) u n := by
  obtain ⟨_, A, c, rfl, hc, h2⟩ := h
  intro hn b hb
  obtain ⟨b', off, rfl, hlt, _⟩ := h2 hn
  cases hb; exact hlt

structure SfV where
  a : Nat
  pe : StV
  ca : StV
  cu : StV
  G : Nat → Prop
def SfV.ptr (z : SfV) : Value := .pointer (some ⟨z.a, 0, none⟩)
def SfV.F (z : SfV) : Nat → Prop := fun b => b = z.a ∨ z.pe.d.ownBlock = some b ∨ z.pe.f.ownBlock = some b ∨ z.G b
def sfCells (id : Int) (s : Sf) (z : SfV) : Array Value := #[.int .i64 id, .int .i64 s.parent, .bool s.sync,
  .bool s.pe.attach, .int .i64 s.pe.buffer, z.pe.d, z.pe.f, .bool s.pe.input, .bool s.pe.all, z.pe.r, .bool s.pe.ordered, z.pe.o, z.pe.p,
  .bool s.ca.attach, .int .i64 s.ca.buffer, z.ca.d, z.ca.f, .bool s.ca.input, .bool s.ca.all, z.ca.r, .bool s.ca.ordered, z.ca.o, z.ca.p,
  .bool s.cu.attach, .int .i64 s.cu.buffer, z.cu.d, z.cu.f, .bool s.cu.input, .bool s.cu.all, z.cu.r, .bool s.cu.ordered, z.cu.o, z.cu.p]

structure SurfAt (w : World) (id : Int) (s : Sf) (z : SfV) : Prop where
  blk : w.heap[z.a]? = some (.cells (sfCells id s z) 97 (0, 0))
  dOwn : w.ownsRow 0 30 4 z.pe.d s.pe.damage.length (s.pe.damage.flatMap R4.enc)
  fOwn : w.ownsRow 0 3 1 z.pe.f s.pe.frames.length (s.pe.frames.map (Value.int .i64))
  peR : Rd w z.pe.r 4 s.pe.region.length (s.pe.region.flatMap R4.enc)
  peO : Rd w z.pe.o 1 s.pe.order.length (s.pe.order.map (Value.int .i64))
  peP : Rd w z.pe.p 3 s.pe.places.length (s.pe.places.flatMap Ch.enc)
  ca : StRd w z.ca s.ca
  cu : StRd w z.cu s.cu
  peRi : BlkIn z.G z.pe.r s.pe.region.length
  peOi : BlkIn z.G z.pe.o s.pe.order.length
  pePi : BlkIn z.G z.pe.p s.pe.places.length
  caI : StIn z.G z.ca s.ca
  cuI : StIn z.G z.cu s.cu
  aG : ¬ z.G z.a
  dG : ∀ b, z.pe.d.ownBlock = some b → ¬ z.G b
  fG : ∀ b, z.pe.f.ownBlock = some b → ¬ z.G b
  lt : ∀ b, z.F b → b < w.heap.size
  id64 : I64 id

theorem SurfAt.pe {id : Int} {t : Sf} {z : SfV} (h : SurfAt w id t z) : StRd w z.pe t.pe := ⟨Rd.of_own h.dOwn, Rd.of_own h.fOwn, h.peR, h.peO, h.peP⟩

theorem own_keepF {base : Nat} {e : TypeId} {sz n : Nat} {v : Value} {cs : List Value} (h : w.ownsRow base e sz v n cs) (hk : ∀ b, v.ownBlock = some b → w'.heap[b]? = w.heap[b]?) : w'.ownsRow base e sz v n cs := by
  refine ⟨h.1, ?_⟩
  rcases h.2 with h2 | ⟨g, cap, cur, rfl, hb, hg, r⟩
  · exact .inl h2
  · exact .inr ⟨g, cap, cur, rfl, hb, (hk g rfl).trans hg, r⟩
theorem own_typeF {base : Nat} {e : TypeId} {sz n : Nat} {v : Value} {cs : List Value} (h : w.ownsRow base e sz v n cs) {g : Nat} (hg : v.ownBlock = some g) : ∃ cur, w.heap[g]? = some (.cells cur e (0, 0)) := by
  rcases h.2 with ⟨rfl, _⟩ | ⟨g', cap, cur, rfl, _, h2, _⟩
  · cases hg
  · cases hg; exact ⟨cur, h2⟩
theorem ne_of_typesF {w : World} {a b : Nat} {o o' : Obj} (ha : w.heap[a]? = some o) (hb : w.heap[b]? = some o') (hne : o ≠ o') : a ≠ b := fun e => by
  subst e; rw [ha] at hb; exact hne (Option.some.inj hb)

theorem SurfAt.keep {id : Int} {t : Sf} {z : SfV} (h : SurfAt w id t z) (hz : w.heap.size ≤ w'.heap.size) (hk : ∀ b, z.F b → w'.heap[b]? = w.heap[b]?) : SurfAt w' id t z := by
  have hG : ∀ b, z.G b → b < w.heap.size → w'.heap[b]? = w.heap[b]? := fun b hb _ => hk b (.inr (.inr (.inr hb)))
  exact ⟨(hk z.a (.inl rfl)).trans h.blk, own_keepF h.dOwn fun b hb => hk b (.inr (.inl hb)), own_keepF h.fOwn fun b hb => hk b (.inr (.inr (.inl hb))),
    h.peR.keepIn h.peRi hz hG, h.peO.keepIn h.peOi hz hG, h.peP.keepIn h.pePi hz hG, h.ca.keep h.caI hz hG, h.cu.keep h.cuI hz hG, h.peRi, h.peOi, h.pePi, h.caI, h.cuI,
    h.aG, h.dG, h.fG, fun b hb => Nat.lt_of_lt_of_le (h.lt b hb) hz, h.id64⟩

theorem SurfAt.d_ne {id : Int} {t : Sf} {z : SfV} (h : SurfAt w id t z) {b : Nat} (hb : z.pe.d.ownBlock = some b) : b ≠ z.a ∧ z.pe.f.ownBlock ≠ some b := by
  obtain ⟨cur, hc⟩ := own_typeF h.dOwn hb
  refine ⟨ne_of_typesF hc h.blk (by simp), fun e => ?_⟩
  obtain ⟨cur', hc'⟩ := own_typeF h.fOwn e
  rw [hc] at hc'; simp at hc'
theorem SurfAt.f_ne {id : Int} {t : Sf} {z : SfV} (h : SurfAt w id t z) {b : Nat} (hb : z.pe.f.ownBlock = some b) : b ≠ z.a := by
  obtain ⟨cur, hc⟩ := own_typeF h.fOwn hb
  exact ne_of_typesF hc h.blk (by simp)

structure ForZ (w : World) (p mb : Nat) (F : Nat → Prop) (n : Nat) (Z : Int → Option SfV) (M : Fo) : Prop where
  cell : w.heap[p]? = some (.cells #[.map (some mb)] 79 (0, 0))
  map : MapAt Tryz.prog 3 w mb n (fun id => (Z id).map SfV.ptr)
  pF : F p
  mF : F mb
  surf : ∀ id z s, Z id = some z → M id = some s → SurfAt w id s z
  inF : ∀ id z, Z id = some z → ∀ b, z.F b → F b
  dom : ∀ id, (Z id).isSome = (M id).isSome
  one : ∀ i j y z, Z i = some y → Z j = some z → i ≠ j → ∀ b, y.F b → ¬ z.F b
  pz : ∀ i z, Z i = some z → ¬ z.F p ∧ ¬ z.F mb
  lt : ∀ b, F b → b < w.heap.size
def ForAt (w : World) (p : Nat) (F : Nat → Prop) (n : Nat) (M : Fo) : Prop := ∃ mb Z, ForZ w p mb F n Z M
def FOut (w : World) (p n : Nat) (F : Nat → Prop) (M' : Fo) (w' : World) : Prop := ∃ F', ForAt w' p F' (n + 1) M' ∧ Chg F w w' ∧ Ext F F' w.heap.size

variable {p mb n : Nat} {F : Nat → Prop} {Z : Int → Option SfV} {M : Fo}
theorem ForZ.find {id : Int} {t : Sf} (h : ForZ w p mb F n Z M) (hs : M id = some t) : ∃ z, Z id = some z ∧ SurfAt w id t z := by
  have := h.dom id
  rw [hs] at this
  cases hz : Z id with
  | none => rw [hz] at this; cases this
  | some z => exact ⟨z, rfl, h.surf id z t hz hs⟩
theorem ForZ.zNone {id : Int} (h : ForZ w p mb F n Z M) (hs : M id = none) : Z id = none := by
  have := h.dom id
  rw [hs] at this
  cases hz : Z id with
  | none => rfl
  | some z => rw [hz] at this; cases this
theorem ForZ.chg (h : ForZ w p mb F n Z M) (hc : Chg G w w') (hd : ∀ b, F b → ¬ G b) : ForZ w' p mb F n Z M := by
  have hk : ∀ b, F b → w'.heap[b]? = w.heap[b]? := fun b hb => hc.block b (h.lt b hb) (hd b hb)
  exact ⟨(hk p h.pF).trans h.cell, h.map.block (hk mb h.mF), h.pF, h.mF, fun id z s hz hs => (h.surf id z s hz hs).keep hc.size fun b hb => hk b (h.inF id z hz b hb),
    h.inF, h.dom, h.one, h.pz, fun b hb => Nat.lt_of_lt_of_le (h.lt b hb) hc.size⟩
theorem ForZ.below (h : ForZ w p mb F n Z M) (hb : Below w.heap.size w w') : ForZ w' p mb F n Z M := h.chg (Chg.of_below hb fun _ => False) fun _ _ h => h
theorem ForZ.mono {m : Nat} (h : ForZ w p mb F n Z M) (hn : n ≤ m) : ForZ w p mb F m Z M := ⟨h.cell, h.map.mono hn, h.pF, h.mF, h.surf, h.inF, h.dom, h.one, h.pz, h.lt⟩
theorem ForAt.chg (h : ForAt w p F n M) (hc : Chg G w w') (hd : ∀ b, F b → ¬ G b) : ForAt w' p F n M := by
  obtain ⟨mb, Z, h1⟩ := h
  exact ⟨mb, Z, h1.chg hc hd⟩
theorem ForAt.below (h : ForAt w p F n M) (hb : Below w.heap.size w w') : ForAt w' p F n M := h.chg (Chg.of_below hb fun _ => False) fun _ _ h => h
theorem ForAt.lt (h : ForAt w p F n M) : ∀ b, F b → b < w.heap.size := by obtain ⟨mb, Z, h1⟩ := h; exact h1.lt
theorem ForAt.mono {m : Nat} (h : ForAt w p F n M) (hn : n ≤ m) : ForAt w p F m M := by
  obtain ⟨mb, Z, h1⟩ := h
  exact ⟨mb, Z, h1.mono hn⟩
theorem ForAt.stay (h : ForAt w p F n M) : FOut w p n F M w := ⟨F, h.mono (Nat.le_succ n), Chg.refl _ _, Ext.refl _ _⟩
theorem ForAt.stayN (h : ForAt w p F n M) (q : Nat) : FOut w p n F M (w.drewN q) := ⟨F, (h.below (below_drewN (Below.refl _ _) q)).mono (Nat.le_succ n), (Chg.refl _ _).drewN q, Ext.refl _ _⟩
theorem ForAt.stayB (h : ForAt w p F n M) (hb : Below w.heap.size w w') : FOut w p n F M w' := ⟨F, (h.below hb).mono (Nat.le_succ n), Chg.of_below hb F, Ext.refl _ _⟩

def setZ (Z : Int → Option SfV) (id : Int) (v : Option SfV) : Int → Option SfV := fun i => if i = id then v else Z i
theorem setZ_eq {id j : Int} {v : Option SfV} {z : SfV} (h : setZ Z id v j = some z) : (j = id ∧ v = some z) ∨ (j ≠ id ∧ Z j = some z) := by
  unfold setZ at h
  by_cases e : j = id
  · rw [if_pos e] at h; exact .inl ⟨e, h⟩
  · rw [if_neg e] at h; exact .inr ⟨e, h⟩

theorem ForZ.turn {id : Int} {t' : Sf} {z z' : SfV} (h : ForZ w p mb F n Z M) (hz : Z id = some z) (hc : Chg z.F w w') (ha : z'.a = z.a) (hs' : SurfAt w' id t' z') (hF : ∀ b, z'.F b → z.F b ∨ w.heap.size ≤ b) :
    ForZ w' p mb (fun b => F b ∨ z'.F b) n (setZ Z id (some z')) (setM M id (some t')) := by
  have hp := h.pz id z hz
  have hk : ∀ b, F b → ¬ z.F b → w'.heap[b]? = w.heap[b]? := fun b hb h1 => hc.block b (h.lt b hb) h1
  refine ⟨(hk p h.pF hp.1).trans h.cell, ?_, .inl h.pF, .inl h.mF, ?_, ?_, ?_, ?_, ?_, ?_⟩
  · refine (h.map.block (hk mb h.mF hp.2)).congr fun j hj => ?_
    unfold setZ
    by_cases e : j = id
    · subst e; simp [hz, SfV.ptr, ha]
    · simp [e]
  · intro j y s hy hs
    rcases setZ_eq hy with ⟨rfl, e⟩ | ⟨e1, e⟩
    · cases e
      rw [setM_same] at hs
      cases hs
      exact hs'
    · rw [setM_other _ _ e1] at hs
      exact (h.surf j y s e hs).keep hc.size fun b hb => hk b (h.inF j y e b hb) fun hb2 => h.one j id y z e hz e1 b hb hb2
  · intro j y hy b hb
    rcases setZ_eq hy with ⟨rfl, e⟩ | ⟨e1, e⟩
    · cases e; exact .inr hb
    · exact .inl (h.inF j y e b hb)
  · intro j
    by_cases e : j = id
    · subst e; rw [setM_same]; simp [setZ]
    · rw [setM_other _ _ e]; simp [setZ, e, h.dom j]
  · intro i j y1 y2 h1 h2 hij b hb1 hb2
    rcases setZ_eq h1 with ⟨rfl, e1⟩ | ⟨n1, e1⟩ <;> rcases setZ_eq h2 with ⟨rfl, e2⟩ | ⟨n2, e2⟩
    · exact hij rfl
    · cases e1
      rcases hF b hb1 with h3 | h3
      · exact h.one _ _ _ _ hz e2 hij b h3 hb2
      · have := h.lt b (h.inF _ _ e2 b hb2); omega
    · cases e2
      rcases hF b hb2 with h3 | h3
      · exact h.one _ _ _ _ e1 hz hij b hb1 h3
      · have := h.lt b (h.inF _ _ e1 b hb1); omega
    · exact h.one _ _ _ _ e1 e2 hij b hb1 hb2
  · intro j y hy
    rcases setZ_eq hy with ⟨rfl, e⟩ | ⟨n1, e⟩
    · cases e
      have hl1 := h.lt p h.pF
      have hl2 := h.lt mb h.mF
      exact ⟨fun hb => by rcases hF _ hb with h3 | h3; exact hp.1 h3; omega, fun hb => by rcases hF _ hb with h3 | h3; exact hp.2 h3; omega⟩
    · exact h.pz _ _ e
  · intro b hb
    rcases hb with hb | hb
    · exact Nat.lt_of_lt_of_le (h.lt b hb) hc.size
    · exact hs'.lt b hb

theorem ForZ.fresh {id : Int} {t : Sf} {z : SfV} (h : ForZ w p mb F n Z M) (hc : Chg (fun b => b = mb) w w') (hm : MapAt Tryz.prog 3 w' mb (n + 1) (putM (fun id => (Z id).map SfV.ptr) id z.ptr)) (hs : SurfAt w' id t z) (hn : ∀ b, z.F b → w.heap.size ≤ b) (hid : Z id = none) :
    ForZ w' p mb (fun b => F b ∨ z.F b) (n + 1) (setZ Z id (some z)) (setM M id (some t)) := by
  obtain ⟨es, cl, hmb⟩ := h.map.isMapBlock
  have hpm : p ≠ mb := ne_of_typesF h.cell hmb (by simp)
  have hk : ∀ b, F b → b ≠ mb → w'.heap[b]? = w.heap[b]? := fun b hb h1 => hc.block b (h.lt b hb) h1
  refine ⟨(hk p h.pF hpm).trans h.cell, ?_, .inl h.pF, .inl h.mF, ?_, ?_, ?_, ?_, ?_, ?_⟩
  · refine hm.congr fun j hj => ?_
    unfold setZ putM
    by_cases e : j = id <;> simp [e]
  · intro j y s hy hs2
    rcases setZ_eq hy with ⟨rfl, e⟩ | ⟨e1, e⟩
    · cases e
      rw [setM_same] at hs2
      cases hs2
      exact hs
    · rw [setM_other _ _ e1] at hs2
      exact (h.surf j y s e hs2).keep hc.size fun b hb => hk b (h.inF j y e b hb) fun hb2 => (h.pz j y e).2 (hb2 ▸ hb)
  · intro j y hy b hb
    rcases setZ_eq hy with ⟨rfl, e⟩ | ⟨e1, e⟩
    · cases e; exact .inr hb
    · exact .inl (h.inF j y e b hb)
  · intro j
    by_cases e : j = id
    · subst e; rw [setM_same]; simp [setZ]
    · rw [setM_other _ _ e]; simp [setZ, e, h.dom j]
  · intro i j y1 y2 h1 h2 hij b hb1 hb2
    rcases setZ_eq h1 with ⟨rfl, e1⟩ | ⟨n1, e1⟩ <;> rcases setZ_eq h2 with ⟨rfl, e2⟩ | ⟨n2, e2⟩
    · exact hij rfl
    · cases e1
      have := hn b hb1
      have := h.lt b (h.inF _ _ e2 b hb2); omega
    · cases e2
      have := hn b hb2
      have := h.lt b (h.inF _ _ e1 b hb1); omega
    · exact h.one _ _ _ _ e1 e2 hij b hb1 hb2
  · intro j y hy
    rcases setZ_eq hy with ⟨rfl, e⟩ | ⟨n1, e⟩
    · cases e
      have hl1 := h.lt p h.pF
      have hl2 := h.lt mb h.mF
      exact ⟨fun hb => by have := hn _ hb; omega, fun hb => by have := hn _ hb; omega⟩
    · exact h.pz _ _ e
  · intro b hb
    rcases hb with hb | hb
    · exact Nat.lt_of_lt_of_le (h.lt b hb) hc.size
    · exact hs.lt b hb

theorem ForZ.gone {id : Int} (h : ForZ w p mb F n Z M) (hc : Chg (fun b => b = mb) w w') (hm : MapAt Tryz.prog 3 w' mb n (delM (fun id => (Z id).map SfV.ptr) id)) : ForZ w' p mb F n (setZ Z id none) (setM M id none) := by
  obtain ⟨es, cl, hmb⟩ := h.map.isMapBlock
  have hpm : p ≠ mb := ne_of_typesF h.cell hmb (by simp)
  have hk : ∀ b, F b → b ≠ mb → w'.heap[b]? = w.heap[b]? := fun b hb h1 => hc.block b (h.lt b hb) h1
  have hz : ∀ {j y}, setZ Z id none j = some y → j ≠ id ∧ Z j = some y := fun {j y} hy => by
    rcases setZ_eq hy with ⟨_, e⟩ | h1
    · cases e
    · exact h1
  refine ⟨(hk p h.pF hpm).trans h.cell, ?_, h.pF, h.mF, ?_, fun j y hy => h.inF j y (hz hy).2, ?_, fun i j y1 y2 h1 h2 => h.one i j y1 y2 (hz h1).2 (hz h2).2, fun j y hy => h.pz j y (hz hy).2, fun b hb => Nat.lt_of_lt_of_le (h.lt b hb) hc.size⟩
  · refine hm.congr fun j hj => ?_
    unfold setZ delM
    by_cases e : j = id <;> simp [e]
  · intro j y s hy hs2
    obtain ⟨e1, e⟩ := hz hy
    rw [setM_other _ _ e1] at hs2
    exact (h.surf j y s e hs2).keep hc.size fun b hb => hk b (h.inF j y e b hb) fun hb2 => (h.pz j y e).2 (hb2 ▸ hb)
  · intro j
    by_cases e : j = id
    · subst e; rw [setM_same]; simp [setZ]
    · rw [setM_other _ _ e]; simp [setZ, e, h.dom j]
end
end Go.Proofs.YthkjicnnepkghaaGreatDoor
namespace Go.Proofs.YthkjicnnepkghaaGreatDoor
open Go.RowKit

section
variable {P : Program} {ops : Array Oper} {Q : Exit → Act → World → Prop} {a0 : Act} {w0 : World} {Φ : Nat → Value → World → Prop} {L : Nat}

theorem wpOp_val {i : Nat} {o : Oper} {v : Value} {a : Act} {w w' : World} {K : Act → World → Prop} (ho : ops[i]? = some o) (hg : o.guard = none) (hr : (execOp a.eval o).run P w = .ok (.value v) w') (hK : K (a.put o.dst v) w') : wpOp P ops Q i K a w := by
  unfold wpOp
  rw [ho]
  simp only [Region.wanted, hg, if_true]
  left
  unfold Oper.wp
  rw [hr]
  exact hK
theorem wpOp_skip {i : Nat} {o : Oper} {a : Act} {w w' : World} {K : Act → World → Prop} (ho : ops[i]? = some o) (hg : o.guard = none) (hr : (execOp a.eval o).run P w = .ok .skip w') (hK : K (a.put o.dst undef) w') : wpOp P ops Q i K a w := by
  unfold wpOp
  rw [ho]
  simp only [Region.wanted, hg, if_true]
  left
  unfold Oper.wp
  rw [hr]
  exact hK
theorem wpOp_call {i : Nat} {o : Oper} {f : FuncId} {args : Array Value} {a : Act} {w : World} {K : Act → World → Prop} (ho : ops[i]? = some o) (hg : o.guard = none) (hr : (execOp a.eval o).run P w = .ok (.enter f args) w)
    (hc : Calls P f args w fun e w' => ∃ v, e = .returned v ∧ K (a.put o.dst v) w') : wpOp P ops Q i K a w := by
  unfold wpOp
  rw [ho]
  simp only [Region.wanted, hg, if_true]
  left
  unfold Oper.wp
  rw [hr]
  refine hc.mono fun e w' ⟨v, he, hk⟩ => ?_
  subst he
  exact hk

def slotOf (a : Act) (o : Oper) : Value := match o.dst with | some d => a.tmps.getD d undef | none => undef
structure Keeps (ops : Array Oper) (a0 a : Act) : Prop where
  defers : a.defers = a0.defers
  size : a.tmps.size = a0.tmps.size
  same : ∀ j, (∀ o ∈ ops, o.dst ≠ some j) → a.tmps.getD j undef = a0.tmps.getD j undef
theorem Keeps.refl (ops : Array Oper) (a0 : Act) : Keeps ops a0 a0 := ⟨rfl, rfl, fun _ _ => rfl⟩
theorem getD_set (t : Array Value) (d j : Nat) (v : Value) (hd : d < t.size) : (t.setIfInBounds d v).getD j undef = if j = d then v else t.getD j undef := by
  by_cases h : j = d
  · subst h; rw [if_pos rfl]; simp [Array.getD, hd]
  · rw [if_neg h]
    simp only [Array.getD]
    by_cases hj : j < t.size
    · simp [hj, Ne.symm h]
    · simp [hj]
theorem Keeps.put {a : Act} (h : Keeps ops a0 a) {o : Oper} (ho : o ∈ ops) (hb : ∀ d, o.dst = some d → d < a0.tmps.size) (v : Value) : Keeps ops a0 (a.put o.dst v) := by
  cases hd : o.dst with
  | none => exact h
  | some d =>
    have hlt := hb d hd
    refine ⟨h.defers, by simp [Act.put, h.size], fun j hj => ?_⟩
    have hne : j ≠ d := fun e => hj o ho (by rw [hd, e])
    show (a.tmps.setIfInBounds d v).getD j undef = _
    rw [getD_set _ _ _ _ (by rw [h.size]; exact hlt), if_neg hne]
    exact h.same j hj
def fillT (a : Act) : List Oper → Array Value → Array Value
  | [], t => t
  | o :: l, t => fillT a l (match o.dst with | some d => t.setIfInBounds d (a.tmps.getD d undef) | none => t)
theorem fillT_size (a : Act) : ∀ (l : List Oper) (t : Array Value), (fillT a l t).size = t.size
  | [], _ => rfl
  | o :: l, t => by
    unfold fillT
    rw [fillT_size a l]
    split <;> simp
theorem fillT_at (a : Act) : ∀ (l : List Oper) (t : Array Value) (j : Nat), (∀ o ∈ l, ∀ d, o.dst = some d → d < t.size) → ((∀ o ∈ l, o.dst ≠ some j) → t.getD j undef = a.tmps.getD j undef) → (fillT a l t).getD j undef = a.tmps.getD j undef
  | [], t, j, _, h => h (fun o ho => by cases ho)
  | o :: l, t, j, hb, h => by
    unfold fillT
    refine fillT_at a l _ j (fun o' ho' d hd => ?_) fun hl => ?_
    · have := hb o' (List.mem_cons_of_mem _ ho') d hd
      split <;> simpa using this
    · cases hd : o.dst with
      | none =>
        refine h fun o' ho' => ?_
        rcases List.mem_cons.1 ho' with rfl | ho'
        · rw [hd]; simp
        · exact hl o' ho'
      | some d =>
        dsimp only
        rw [getD_set _ _ _ _ (hb o (by simp) d hd)]
        by_cases e : j = d
        · rw [if_pos e, e]
        · rw [if_neg e]
          refine h fun o' ho' => ?_
          rcases List.mem_cons.1 ho' with rfl | ho'
          · rw [hd]; intro e2; exact e (Option.some.inj e2).symm
          · exact hl o' ho'
theorem Keeps.frame {a : Act} (h : Keeps ops a0 a) (hb : ∀ o ∈ ops, ∀ d, o.dst = some d → d < a0.tmps.size) : a = ⟨fillT a ops.toList a0.tmps, a0.defers⟩ := by
  have e : a.tmps = fillT a ops.toList a0.tmps := by
    apply Array.ext
    · rw [fillT_size, h.size]
    · intro j h1 h2
      have := fillT_at a ops.toList a0.tmps j (fun o ho => hb o (by simpa using ho)) (fun hl => (h.same j fun o ho => hl o (by simpa using ho)).symm)
      simpa [Array.getD, h1, h2] using this.symm
  obtain ⟨t, d⟩ := a
  simp only [Act.mk.injEq]
  exact ⟨e, h.defers⟩

theorem Keeps.frameB {a : Act} {n : Nat} (h : Keeps ops a0 a) (hn : a0.tmps.size = n) (hb : (ops.toList.all fun o => match o.dst with | some d => decide (d < n) | none => true) = true) : a = ⟨fillT a ops.toList a0.tmps, a0.defers⟩ :=
  h.frame fun o ho d hd => by
    have := List.all_eq_true.1 hb o (by simpa using ho)
    rw [hd] at this
    have h2 : d < n := by simpa using this
    rw [hn]; exact h2
def tabT (t : Array Value) : Nat → Nat → List Value
  | _, 0 => []
  | k, n + 1 => t.getD k undef :: tabT t (k + 1) n
theorem tabT_at (t : Array Value) : ∀ (n k j : Nat), j < n → (tabT t k n)[j]? = some (t.getD (k + j) undef)
  | 0, _, _, h => absurd h (by omega)
  | n + 1, k, 0, _ => by simp [tabT]
  | n + 1, k, j + 1, h => by
    unfold tabT
    rw [List.getElem?_cons_succ, tabT_at t n (k + 1) j (by omega), show k + 1 + j = k + (j + 1) by omega]
theorem tabT_len (t : Array Value) : ∀ (n k : Nat), (tabT t k n).length = n
  | 0, _ => rfl
  | n + 1, k => by simp [tabT, tabT_len t n (k + 1)]
theorem arr_tab (t : Array Value) (n : Nat) (h : t.size = n) : t = (tabT t 0 n).toArray := by
  apply Array.ext
  · simp [tabT_len, h]
  · intro j h1 h2
    have := tabT_at t n 0 j (by omega)
    rw [List.getElem?_eq_getElem (by simpa using h2)] at this
    simp only [Option.some.injEq, Nat.zero_add] at this
    have h3 : (tabT t 0 n).toArray[j] = (tabT t 0 n)[j]'(by simpa using h2) := by simp
    rw [h3, this]
    simp [Array.getD, h1]
theorem act_eq {a : Act} {t : Array Value} {d : List Deferred} (h : a.tmps = t) (h' : a.defers = d) : a = ⟨t, d⟩ := by
  obtain ⟨_, _⟩ := a
  simp only at h h'
  rw [h, h']
def bindsTo (o : Oper) (i : Nat) : Bool := o.after.toList.any fun e => Region.binds .any e && e.on == i
def fitsB (ops : Array Oper) (n L : Nat) : Bool :=
  ops.toList.all (fun o => match o.dst with | some d => decide (d < n) | none => true) &&
  decide ((ops.toList.filterMap fun o => o.dst).Nodup) &&
  decide (L < ops.size) &&
  (List.range ops.size).all (fun i => i == L || (ops.getD i default).dst.isSome) &&
  (List.range ops.size).all (fun i => (ops.getD i default).after.toList.all fun e => decide (e.on < i)) &&
  (List.range ops.size).all (fun i => i == L || (List.range ops.size).any fun j => decide (i < j) && bindsTo (ops.getD j default) i)
theorem nodup_dst : ∀ {l : List Oper} (_ : (l.filterMap fun o => o.dst).Nodup) {i j : Nat} {oi oj : Oper} {d : Tmp}, l[i]? = some oi → l[j]? = some oj → oi.dst = some d → oj.dst = some d → i = j
  | [], _, i, j, _, _, _, h, _, _, _ => by simp at h
  | o :: l, hn, i, j, oi, oj, d, hi, hj, di, dj => by
    have hmem : ∀ {k : Nat} {ok : Oper}, l[k]? = some ok → ok.dst = some d → d ∈ l.filterMap fun o => o.dst := fun {k ok} hk dk =>
      List.mem_filterMap.2 ⟨ok, List.mem_of_getElem? hk, dk⟩
    have hn' : (l.filterMap fun o => o.dst).Nodup := by
      cases hd : o.dst with
      | none => rw [List.filterMap_cons_none hd] at hn; exact hn
      | some d' => rw [List.filterMap_cons_some hd] at hn; exact (List.nodup_cons.1 hn).2
    cases i with
    | zero =>
      cases j with
      | zero => rfl
      | succ j =>
        exfalso
        have h0 : o = oi := by simpa using hi
        subst h0
        rw [List.filterMap_cons_some di] at hn
        exact (List.nodup_cons.1 hn).1 (hmem (by simpa using hj) dj)
    | succ i =>
      cases j with
      | zero =>
        exfalso
        have h0 : o = oj := by simpa using hj
        subst h0
        rw [List.filterMap_cons_some dj] at hn
        exact (List.nodup_cons.1 hn).1 (hmem (by simpa using hi) di)
      | succ j =>
        have ih := nodup_dst hn' (i := i) (j := j) (oi := oi) (oj := oj) (by simpa using hi) (by simpa using hj) di dj
        rw [ih]

theorem cnt_lt {p q : Nat → Bool} : ∀ (l : List Nat), (∀ x ∈ l, q x = true → p x = true) → (∃ x ∈ l, p x = true ∧ q x = false) → l.countP q < l.countP p
  | [], _, h => by obtain ⟨x, hx, _⟩ := h; cases hx
  | y :: l, h, h2 => by
    have hle : l.countP q ≤ l.countP p := List.countP_mono_left fun x hx hq => h x (by simp [hx]) hq
    rw [List.countP_cons, List.countP_cons]
    obtain ⟨x, hx, h3, h4⟩ := h2
    rcases List.mem_cons.1 hx with rfl | hx
    · rw [h3, h4]; simp; omega
    · have ih := cnt_lt l (fun x hx => h x (by simp [hx])) ⟨x, hx, h3, h4⟩
      have := h y (by simp)
      cases hq : q y
      · simp; split <;> omega
      · rw [this hq]; simp; omega
theorem wp_region_inv {id n : Nat} (hm : P.follows .mixedOrders = true) (hn : a0.tmps.size = n) (hf : fitsB ops n L = true)
    (hst : ∀ i v w w', Φ i v w → Below w.heap.size w w' → Φ i v w')
    (hstep : ∀ i o, ops[i]? = some o → i ≠ L → ∀ a w, Keeps ops a0 a → Below w0.heap.size w0 w → (∀ j oj, ops[j]? = some oj → bindsTo o j = true → Φ j (slotOf a oj) w) →
      wpOp P ops Q i (fun a' w' => ∃ v, a' = a.put o.dst v ∧ Below w.heap.size w w' ∧ Φ i v w') a w)
    (hlast : ∀ a w, Keeps ops a0 a → Below w0.heap.size w0 w → (∀ j oj, ops[j]? = some oj → j ≠ L → Φ j (slotOf a oj) w) → wpOp P ops Q L (fun a' w' => Q .normal a' w') a w) :
    (Code.region id ops true).wp P Q a0 w0 := by
  simp only [fitsB, Bool.and_eq_true] at hf
  obtain ⟨⟨⟨⟨⟨hf1, hf2⟩, hf3⟩, hf6⟩, hf5⟩, hf4⟩ := hf
  have hbd : ∀ o ∈ ops, ∀ d, o.dst = some d → d < a0.tmps.size := fun o ho d hd => by
    have := List.all_eq_true.1 hf1 o (by simpa using ho)
    rw [hd] at this
    have h2 : d < n := by simpa using this
    rw [hn]; exact h2
  have hnd := of_decide_eq_true hf2
  have hL := of_decide_eq_true hf3
  have hsucc : ∀ i, i < ops.size → i ≠ L → ∃ j, j < ops.size ∧ i < j ∧ bindsTo (ops.getD j default) i = true := fun i hi hiL => by
    have := List.all_eq_true.1 hf4 i (List.mem_range.2 hi)
    simp only [Bool.or_eq_true, beq_iff_eq, hiL, false_or] at this
    obtain ⟨j, hj, h2⟩ := List.any_eq_true.1 this
    simp only [Bool.and_eq_true, decide_eq_true_eq] at h2
    exact ⟨j, List.mem_range.1 hj, h2.1, h2.2⟩
  have hop : ∀ i, i < ops.size → ∃ o, ops[i]? = some o ∧ ops.getD i default = o := fun i hi => ⟨ops[i], by simp [hi], by simp [Array.getD, hi]⟩
  refine wp_region_any hm ?_
  have main : ∀ (fuel : Nat) (listed : Array Bool) (a : Act) (w : World), listed.size = ops.size → Keeps ops a0 a → Below w0.heap.size w0 w → listed.getD L true = false →
      (∀ i o, ops[i]? = some o → listed.getD i true = true → (∀ j, bindsTo o j = true → listed.getD j false = true) ∧ Φ i (slotOf a o) w) →
      (List.range ops.size).countP (fun i => !listed.getD i true) ≤ fuel → wpAny P .any ops Q fuel listed a w := by
    intro fuel
    induction fuel with
    | zero =>
      intro listed a w hs _ _ hLf _ hc
      exfalso
      have : 0 < (List.range ops.size).countP (fun i => !listed.getD i true) := List.countP_pos_iff.2 ⟨L, List.mem_range.2 hL, by rw [hLf]; rfl⟩
      omega
    | succ fuel ih =>
      intro listed a w hs hk hb hLf hI hc
      have hrd : ∀ i, i ∈ Region.ready .any ops listed → i < ops.size ∧ listed.getD i true = false ∧ ∀ o, ops[i]? = some o → ∀ j, bindsTo o j = true → listed.getD j false = true := fun i hi => by
        unfold Region.ready at hi
        obtain ⟨h1, h2⟩ := List.mem_filter.1 hi
        simp only [Bool.and_eq_true, Bool.not_eq_true'] at h2
        refine ⟨List.mem_range.1 h1, h2.1, fun o ho j hj => ?_⟩
        have h3 := h2.2
        rw [ho] at h3
        simp only [Option.map_some, Option.getD_some] at h3
        obtain ⟨e, he, h4⟩ := List.any_eq_true.1 hj
        simp only [Bool.and_eq_true, beq_iff_eq] at h4
        have h5 := Array.all_eq_true_iff_forall_mem.1 h3 e (by simpa using he)
        rw [h4.1] at h5
        simp only [Bool.not_true, Bool.false_or] at h5
        rw [← h4.2]; exact h5
      have hlst : ∀ j, listed.getD j false = true → listed.getD j true = true := fun j hj => by
        by_cases hlt : j < listed.size
        · simpa [Array.getD, hlt] using hj
        · simp [Array.getD, hlt] at hj
      have hbk : ∀ j, listed.getD j true = false → listed.getD j false = false := fun j hj => by
        by_cases hlt : j < listed.size
        · simpa [Array.getD, hlt] using hj
        · simp [Array.getD, hlt]
      have htf : ∀ j, j < ops.size → listed.getD j true = true → listed.getD j false = true := fun j hj h => by
        have hlt : j < listed.size := by omega
        simpa [Array.getD, hlt] using h
      have hset : ∀ i j, i < ops.size → (listed.setIfInBounds i true).getD j true = (if j = i then true else listed.getD j true) ∧ (j < ops.size → (listed.setIfInBounds i true).getD j false = (if j = i then true else listed.getD j false)) := fun i j hi => by
        by_cases hj : j < listed.size
        · by_cases e : j = i
          · subst e; simp [Array.getD, hj]
          · simp [Array.getD, hj, e, Ne.symm e]
        · have : j ≠ i := by omega
          refine ⟨by simp [Array.getD, hj, this], fun h => by omega⟩
      refine ⟨fun he => ?_, fun i hi => ?_⟩
      · exfalso
        have least : ∀ m, (∀ i, i < m → listed.getD i true = true) ∨ ∃ i, i < m ∧ listed.getD i true = false ∧ ∀ j, j < i → listed.getD j true = true := by
          intro m
          induction m with
          | zero => exact .inl fun i hi => by omega
          | succ m ihm =>
            rcases ihm with h | ⟨i, h1, h2⟩
            · cases hm : listed.getD m true with
              | true => exact .inl fun i hi => by rcases (show i = m ∨ i < m by omega) with rfl | h3; exact hm; exact h i h3
              | false => exact .inr ⟨m, by omega, hm, h⟩
            · exact .inr ⟨i, by omega, h2⟩
        rcases least (L + 1) with h | ⟨i, h1, h2, h3⟩
        · have := h L (by omega); rw [hLf] at this; cases this
        · have hi : i < ops.size := by omega
          obtain ⟨o, ho, hod⟩ := hop i hi
          have hmem : i ∈ Region.ready .any ops listed := by
            unfold Region.ready
            refine List.mem_filter.2 ⟨List.mem_range.2 hi, ?_⟩
            rw [ho, h2]
            simp only [Bool.not_false, Bool.true_and, Option.map_some, Option.getD_some]
            refine Array.all_eq_true_iff_forall_mem.2 fun e hem => ?_
            have h5 := List.all_eq_true.1 hf5 i (List.mem_range.2 hi)
            rw [hod] at h5
            have h6 := of_decide_eq_true (List.all_eq_true.1 h5 e (by simpa using hem))
            rw [htf e.on (by omega) (h3 e.on h6)]
            simp
          rw [he] at hmem
          cases hmem
      · obtain ⟨hlt, hfalse, hdeps⟩ := hrd i hi
        obtain ⟨o, ho, hod⟩ := hop i hlt
        by_cases hiL : i = L
        · subst hiL
          have hall : ∀ k j, ops.size ≤ j + k → j < ops.size → j ≠ i → listed.getD j true = true := by
            intro k
            induction k with
            | zero => intro j h1 h2; omega
            | succ k ihk =>
              intro j h1 h2 h3
              obtain ⟨j', h4, h5, h6⟩ := hsucc j h2 h3
              obtain ⟨o', ho', hod'⟩ := hop j' h4
              rw [hod'] at h6
              by_cases e : j' = i
              · subst e
                exact hlst _ (hdeps o' ho' j h6)
              · exact hlst _ ((hI j' o' ho' (ihk j' (by omega) h4 e)).1 j h6)
          refine wpOp_mono (fun a' w' hq => ?_) (hlast a w hk hb fun j oj hoj hj => ?_)
          · have hr : Region.ready .any ops (listed.setIfInBounds i true) = [] := by
              unfold Region.ready
              rw [List.filter_eq_nil_iff]
              intro j hj
              have hj' := List.mem_range.1 hj
              rw [(hset i j hlt).1]
              by_cases e : j = i
              · rw [if_pos e]; simp
              · rw [if_neg e, hall ops.size j (by omega) hj' e]; simp
            cases fuel with
            | zero => exact ⟨hr, hq⟩
            | succ fuel => exact ⟨fun _ => hq, fun j hj => by rw [hr] at hj; cases hj⟩
          · have hj' : j < ops.size := by
              rcases Nat.lt_or_ge j ops.size with h | h
              · exact h
              · rw [Array.getElem?_eq_none h] at hoj; cases hoj
            exact (hI j oj hoj (hall ops.size j (by omega) hj' hj)).2
        · refine wpOp_mono (fun a' w' hq => ?_) (hstep i o ho hiL a w hk hb fun j oj hoj hj => (hI j oj hoj (hlst j (hdeps o ho j hj))).2)
          obtain ⟨v, rfl, hb', hΦ⟩ := hq
          have hmo : o ∈ ops := by
            rw [Array.mem_iff_getElem?]; exact ⟨i, ho⟩
          refine ih (listed.setIfInBounds i true) _ w' (by simpa using hs) (hk.put hmo (hbd o hmo) v) (hb.trans (hb'.mono hb.size)) ?_ ?_ ?_
          · rw [(hset i L hlt).1, if_neg (fun e => hiL e.symm)]; exact hLf
          · intro j oj hoj hj
            have hj' : j < ops.size := by
              rcases Nat.lt_or_ge j ops.size with h | h
              · exact h
              · rw [Array.getElem?_eq_none h] at hoj; cases hoj
            rw [(hset i j hlt).1] at hj
            have hlow : ∀ k, bindsTo oj k = true → k < ops.size := fun k hk => by
              obtain ⟨e, he, h4⟩ := List.any_eq_true.1 hk
              simp only [Bool.and_eq_true, beq_iff_eq] at h4
              have h5 := List.all_eq_true.1 hf5 j (List.mem_range.2 hj')
              obtain ⟨oj', hoj', hod'⟩ := hop j hj'
              rw [hod'] at h5
              rw [hoj] at hoj'; cases hoj'
              have h6 := of_decide_eq_true (List.all_eq_true.1 h5 e he)
              rw [h4.2] at h6; omega
            by_cases e : j = i
            · subst e
              rw [ho] at hoj; cases hoj
              refine ⟨fun k hk => ?_, ?_⟩
              · rw [(hset j k hlt).2 (hlow k hk)]
                by_cases e2 : k = j
                · rw [if_pos e2]
                · rw [if_neg e2]; exact hdeps o ho k hk
              · have : slotOf (a.put o.dst v) o = v := by
                  unfold slotOf Act.put
                  cases hd : o.dst with
                  | none =>
                    have h7 := List.all_eq_true.1 hf6 j (List.mem_range.2 hj')
                    rw [hod, hd] at h7
                    simp [hiL] at h7
                  | some d =>
                    dsimp only
                    rw [getD_set _ _ _ _ (by rw [hk.size]; exact hbd o hmo d hd), if_pos rfl]
                rw [this]
                exact hΦ
            · rw [if_neg e] at hj
              obtain ⟨h1, h2⟩ := hI j oj hoj hj
              refine ⟨fun k hk => ?_, ?_⟩
              · rw [(hset i k hlt).2 (hlow k hk)]
                by_cases e2 : k = i
                · rw [if_pos e2]
                · rw [if_neg e2]; exact h1 k hk
              · have : slotOf (a.put o.dst v) oj = slotOf a oj := by
                  unfold slotOf
                  cases hdj : oj.dst with
                  | none => rfl
                  | some dj =>
                    dsimp only
                    unfold Act.put
                    cases hd : o.dst with
                    | none => rfl
                    | some d =>
                      dsimp only
                      rw [getD_set _ _ _ _ (by rw [hk.size]; exact hbd o hmo d hd), if_neg]
                      intro e3
                      subst e3
                      exact e (nodup_dst hnd (i := j) (j := i) (by simpa using hoj) (by simpa using ho) hdj hd)
                rw [this]
                exact hst j _ w w' h2 hb'
          · have hcount : (List.range ops.size).countP (fun j => !(listed.setIfInBounds i true).getD j true) < (List.range ops.size).countP (fun j => !listed.getD j true) := by
              refine cnt_lt _ (fun x _ hq => ?_) ⟨i, List.mem_range.2 hlt, by rw [hfalse]; rfl, by rw [(hset i i hlt).1, if_pos rfl]; rfl⟩
              rw [(hset i x hlt).1] at hq
              by_cases e : x = i
              · rw [e, hfalse]; rfl
              · rw [if_neg e] at hq; exact hq
            omega
  refine main ops.size (Array.replicate ops.size false) a0 w0.drew (by simp) (Keeps.refl _ _) (below_drewN (Below.refl _ _) 1) (by simp [Array.getD, hL]) (fun i o ho hl => ?_) (by have := List.countP_le_length (p := fun i => !(Array.replicate ops.size false).getD i true) (l := List.range ops.size); simpa using this)
  exfalso
  have hj' : i < ops.size := by
    rcases Nat.lt_or_ge i ops.size with h | h
    · exact h
    · rw [Array.getElem?_eq_none h] at ho; cases ho
  simp [Array.getD, hj'] at hl

def freeB (ops : Array Oper) (j : Nat) : Bool := ops.toList.all fun o => o.dst != some j
theorem Keeps.free {a : Act} (h : Keeps ops a0 a) {j : Nat} (hf : freeB ops j = true) : a.tmps.getD j undef = a0.tmps.getD j undef :=
  h.same j fun o ho => by
    have := List.all_eq_true.1 hf o (by simpa using ho)
    simpa using this
def SP := { φ : Value → World → Prop // ∀ v w w', φ v w → Below w.heap.size w w' → φ v w' }
def SP.is (x : Value) : SP := ⟨fun v _ => v = x, fun _ _ _ h _ => h⟩
def SP.top : SP := ⟨fun _ _ => True, fun _ _ _ h _ => h⟩
def SP.row (B : Nat) (t : TypeId) (cs : List Value) : SP := ⟨fun v w => ∃ g, v = .slice (some ⟨g, 0, none⟩) cs.length cs.length ∧ B ≤ g ∧ w.heap[g]? = some (.cells cs.toArray t (0, 0)),
  fun _ _ _ ⟨g, h1, h2, h3⟩ hb => ⟨g, h1, h2, (hb.block g (lt_of_block h3)).trans h3⟩⟩
def SP.box (B : Nat) (t : TypeId) (cs : Array Value) : SP := ⟨fun v w => ∃ g, v = .pointer (some ⟨g, 0, none⟩) ∧ B ≤ g ∧ w.heap[g]? = some (.cells cs t (0, 0)),
  fun _ _ _ ⟨g, h1, h2, h3⟩ hb => ⟨g, h1, h2, (hb.block g (lt_of_block h3)).trans h3⟩⟩
theorem own_below' {w w' : World} {base sz n B : Nat} {e : TypeId} {v : Value} {cs : List Value} (h : w.ownsRow base e sz v n cs) (hb : Below B w w') (hB : w.heap.size ≤ B) : w'.ownsRow base e sz v n cs := by
  refine ⟨h.1, ?_⟩
  rcases h.2 with h2 | ⟨g, cap, cur, rfl, h3, h4, r⟩
  · exact .inl h2
  · exact .inr ⟨g, cap, cur, rfl, h3, (hb.block g (by have := lt_of_block h4; omega)).trans h4, r⟩
def SP.own (B : Nat) (e : TypeId) (sz n : Nat) (cs : List Value) : SP := ⟨fun v w => w.ownsRow B e sz v n cs, fun _ _ _ h hb => own_below' h hb (Nat.le_refl _)⟩
def planOf (L : List SP) : Nat → Value → World → Prop := fun i => (L.getD i SP.top).1
def AllBelow (p : Nat → Prop) : Nat → Prop
  | 0 => True
  | n + 1 => AllBelow p n ∧ p n
theorem AllBelow.get {p : Nat → Prop} : ∀ {n : Nat}, AllBelow p n → ∀ i, i < n → p i
  | 0, _, i, h => absurd h (by omega)
  | n + 1, ⟨h1, h2⟩, i, h => by
    rcases (show i = n ∨ i < n by omega) with rfl | h3
    · exact h2
    · exact h1.get i h3
def StepOk (P : Program) (ops : Array Oper) (Q : Exit → Act → World → Prop) (a0 : Act) (w0 : World) (L : List SP) (i : Nat) : Prop :=
  ∀ o, ops[i]? = some o → ∀ a w, Keeps ops a0 a → Below w0.heap.size w0 w → (∀ j oj, ops[j]? = some oj → bindsTo o j = true → planOf L j (slotOf a oj) w) →
    wpOp P ops Q i (fun a' w' => ∃ v, a' = a.put o.dst v ∧ Below w.heap.size w w' ∧ planOf L i v w') a w
theorem wp_region_plan {id n m : Nat} {l : List SP} (hm : P.follows .mixedOrders = true) (hn : a0.tmps.size = n) (hf : fitsB ops n m = true) (hz : ops.size = m + 1)
    (hstep : AllBelow (StepOk P ops Q a0 w0 l) m)
    (hlast : ∀ a w, Keeps ops a0 a → Below w0.heap.size w0 w → (∀ j oj, ops[j]? = some oj → j < m → planOf l j (slotOf a oj) w) → wpOp P ops Q m (fun a' w' => Q .normal a' w') a w) :
    (Code.region id ops true).wp P Q a0 w0 :=
  wp_region_inv (Φ := planOf l) hm hn hf (fun i v w w' h hb => (l.getD i SP.top).2 v w w' h hb)
    (fun i o ho hi a w hk hb F => hstep.get i (by
      have : i < ops.size := by
        rcases Nat.lt_or_ge i ops.size with h | h
        · exact h
        · rw [Array.getElem?_eq_none h] at ho; cases ho
      omega) o ho a w hk hb F)
    (fun a w hk hb F => hlast a w hk hb fun j oj hj hlt => F j oj hj (by omega))
end
end Go.Proofs.YthkjicnnepkghaaGreatDoor
namespace Go.Proofs.YthkjicnnepkghaaGreatDoor
open Go.RowKit

section
variable {P : Program} {ops : Array Oper} {Q : Exit → Act → World → Prop}
theorem wanted_at {o : Oper} {a : Act} {j d : Nat} {b c : Bool} (hg : o.guard = some (j, b)) (hd : (ops[j]?).bind (·.dst) = some d) (hv : a.tmps[d]?.getD undef = .bool c) : Region.wanted o (yielded ops a.tmps) = (c == b) := by
  have h1 : a.tmps[d]? = some (.bool c) := by
    cases e : a.tmps[d]? with
    | none => rw [e] at hv; cases hv
    | some v => rw [e] at hv; exact congrArg some hv
  unfold Region.wanted
  rw [hg]
  unfold yielded
  dsimp only
  rw [hd]
  simp only [Option.bind_some, h1]
  cases b <;> cases c <;> rfl
theorem wanted_on {o : Oper} {a : Act} {j d : Nat} {b : Bool} (hg : o.guard = some (j, b)) (hd : (ops[j]?).bind (·.dst) = some d) (hv : a.tmps[d]?.getD undef = .bool b) : Region.wanted o (yielded ops a.tmps) = true :=
  (wanted_at hg hd hv).trans (by cases b <;> rfl)
theorem wanted_off {o : Oper} {a : Act} {j d : Nat} {b : Bool} (hg : o.guard = some (j, b)) (hd : (ops[j]?).bind (·.dst) = some d) (hv : a.tmps[d]?.getD undef = .bool (!b)) : Region.wanted o (yielded ops a.tmps) = false :=
  (wanted_at hg hd hv).trans (by cases b <;> rfl)
theorem wanted_un {o : Oper} {a : Act} {j d : Nat} {b : Bool} (hg : o.guard = some (j, b)) (hd : (ops[j]?).bind (·.dst) = some d) (hv : a.tmps[d]?.getD undef = undef) : Region.wanted o (yielded ops a.tmps) = false := by
  unfold Region.wanted
  rw [hg]
  unfold yielded
  dsimp only
  rw [hd]
  simp only [Option.bind_some]
  cases e : a.tmps[d]? with
  | none => cases b <;> rfl
  | some v =>
    rw [e] at hv
    have hv : v = undef := hv
    subst hv
    cases b <;> rfl
theorem wpOp_un {i : Nat} {o : Oper} {a : Act} {w : World} {K : Act → World → Prop} (ho : ops[i]? = some o) (hw : Region.wanted o (yielded ops a.tmps) = false) (hK : K (a.put o.dst undef) w) : wpOp P ops Q i K a w := by
  unfold wpOp
  rw [ho]
  simp only [hw, Bool.false_eq_true, if_false]
  exact hK
theorem wpOp_valG {i : Nat} {o : Oper} {v : Value} {a : Act} {w w' : World} {K : Act → World → Prop} (ho : ops[i]? = some o) (hw : Region.wanted o (yielded ops a.tmps) = true) (hr : (execOp a.eval o).run P w = .ok (.value v) w') (hK : K (a.put o.dst v) w') : wpOp P ops Q i K a w := by
  unfold wpOp
  rw [ho]
  simp only [hw, if_true]
  left
  unfold Oper.wp
  rw [hr]
  exact hK
theorem wpOp_callG {i : Nat} {o : Oper} {f : FuncId} {args : Array Value} {a : Act} {w : World} {K : Act → World → Prop} (ho : ops[i]? = some o) (hw : Region.wanted o (yielded ops a.tmps) = true) (hr : (execOp a.eval o).run P w = .ok (.enter f args) w)
    (hc : Calls P f args w fun e w' => ∃ v, e = .returned v ∧ K (a.put o.dst v) w') : wpOp P ops Q i K a w := by
  unfold wpOp
  rw [ho]
  simp only [hw, if_true]
  left
  unfold Oper.wp
  rw [hr]
  refine hc.mono fun e w' ⟨v, he, hk⟩ => ?_
  subst he
  exact hk
def SP.sl (n : Nat) : SP := ⟨fun v _ => ∃ A c, v = .slice A n c, fun _ _ _ h _ => h⟩
end
end Go.Proofs.YthkjicnnepkghaaGreatDoor
namespace Go.Proofs.YthkjicnnepkghaaGreatDoor
open Go.RowKit
set_option linter.unusedVariables false

section
variable {P : Program}
theorem run_append_rd (w : World) (t ty : TypeId) (base : Nat) (e : TypeId) (i : TypeInfo) (z : Value) (size bytes : Nat) (ht : P.underlying t = some (.slice e)) (hi : P.info? e = some i) (hz : i.zero = some z)
    (hsize : i.size = size) (hby : i.bytes = bytes) (hzs : z.cells.size = size) (hsz : 0 < size)
    (v : Value) (n : Nat) (xs : List Value) (hown : w.ownsRow base e size v n xs)
    (A : Option Addr) (m c : Nat) (news : List Value) (hr : Rd w (.slice A m c) size m news) (h1 : ∀ u ∈ news, u.oneCell' = true)
    (h63 : n + m ≤ maxLen) (hbytes : (n + m) * bytes ≤ 140737488355328) (hbase : base ≤ w.heap.size) :
    ∃ v' w', (Builtin.append_ #[t, t] ty #[v, .slice A m c]).run P w = .ok v' w' ∧ w'.ownsRow base e size v' (n + m) (xs ++ news) ∧ w.grownBy w' v.ownBlock := by
  obtain ⟨h1', A', c', hv, hc, h2⟩ := hr
  simp only [Value.slice.injEq] at hv
  obtain ⟨rfl, _, rfl⟩ := hv
  cases A with
  | some ad =>
    obtain ⟨v', w', hrun, a1, a2, _, _⟩ := run_append_own_at (P := P) w base t ty e i z size bytes ht hi hz hsize hby hzs hsz v n xs hown ad m c news h1' (fun j u hj => by
      by_cases hm : 0 < m
      · obtain ⟨b, off, hb, _, hc2⟩ := h2 hm
        simp only [Option.some.injEq] at hb
        subst hb
        rw [addr_add]; exact hc2 j u hj
      · obtain rfl : m = 0 := by omega
        simp at h1'; subst h1'; simp at hj) h1 h63 hbytes hbase
    exact ⟨v', w', hrun, a1, a2⟩
  | none =>
    have hm : m = 0 := by
      rcases Nat.eq_zero_or_pos m with h | h
      · exact h
      · obtain ⟨b, off, hb, _⟩ := h2 h; cases hb
    subst hm
    obtain rfl : news = [] := by simpa using h1'
    refine ⟨v, w, ?_, by simpa using hown, ⟨rfl, rfl, rfl, Nat.le_refl _, fun _ _ _ => rfl⟩⟩
    rcases hown.2 with ⟨rfl, rfl⟩ | ⟨g, cap, cur, rfl, _, _, hnc, _⟩
    · simp [Builtin.append_, run_underlying ht, sizeOf, typeInfo, hi, Builtin.lenOf, Builtin.firstCells]
    · simp [Builtin.append_, run_underlying ht, sizeOf, typeInfo, hi, Builtin.lenOf, Builtin.firstCells, hnc, storeCells]
theorem step_append_rd {w : World} {ops : Array Oper} {o : Oper} {a : Act} {K : Act → World → Prop} {Q : Exit → Act → World → Prop} {E : Prop} (hgd : o.guard = none) (s x : Operand) (t : TypeId)
    (ho : o.op = .call { callee := .builtin .append, args := #[s, x], argTypes := #[t, t] })
    (base : Nat) (e : TypeId) (i : TypeInfo) (z : Value) (size bytes : Nat) (ht : P.underlying t = some (.slice e)) (hi : P.info? e = some i) (hz : i.zero = some z)
    (hsize : i.size = size) (hby : i.bytes = bytes) (hzs : z.cells.size = size) (hsz : 0 < size)
    (v : Value) (n : Nat) (xs : List Value) (hs : a.eval s = v) (hown : w.ownsRow base e size v n xs)
    (A : Option Addr) (m c : Nat) (news : List Value) (hx : a.eval x = .slice A m c) (hr : Rd w (.slice A m c) size m news) (h1 : ∀ u ∈ news, u.oneCell' = true)
    (h63 : n + m ≤ maxLen) (hbytes : (n + m) * bytes ≤ 140737488355328) (hbase : base ≤ w.heap.size)
    (h : ∀ v' w', w'.ownsRow base e size v' (n + m) (xs ++ news) → w.grownBy w' v.ownBlock → K (a.put o.dst v') w') :
    if Region.wanted o (yielded ops a.tmps) = true then Oper.wp P o a w K Q else E := by
  have hw : Region.wanted o (yielded ops a.tmps) = true := by simp [Region.wanted, hgd]
  rw [if_pos hw]
  obtain ⟨v', w', hrun, a1, a2⟩ := run_append_rd (P := P) w t o.type base e i z size bytes ht hi hz hsize hby hzs hsz v n xs hown A m c news hr h1 h63 hbytes hbase
  unfold Oper.wp execOp
  simp only [ho, resolve, invoke, builtin, Sem.run_bind, Sem.run_pure, Result.andThen_ok, List.map_toArray, List.map_cons, List.map_nil, hs, hx, hrun]
  exact h v' w' a1 a2
end
end Go.Proofs.YthkjicnnepkghaaGreatDoor
namespace Go.Proofs.YthkjicnnepkghaaGreatDoor
open Go.RowKit

def fitsB3 (ops : Array Oper) (n s1 s2 L : Nat) : Bool :=
  ops.toList.all (fun o => match o.dst with | some d => decide (d < n) | none => true) &&
  decide ((ops.toList.filterMap fun o => o.dst).Nodup) &&
  decide (L < ops.size) &&
  (List.range ops.size).all (fun i => i == L || i == s1 || i == s2 || (ops.getD i default).dst.isSome) &&
  (List.range ops.size).all (fun i => (ops.getD i default).after.toList.all fun e => !Region.binds .any e || decide (e.on < i)) &&
  (List.range ops.size).all (fun i => i == L || (List.range ops.size).any fun j => decide (i < j) && bindsTo (ops.getD j default) i) &&
  (bindsTo (ops.getD s2 default) s1 && bindsTo (ops.getD L default) s2 && decide (s1 < s2) && decide (s2 < L))
def before2 (ops : Array Oper) (s i : Nat) : Bool := bindsTo (ops.getD s default) i || (List.range ops.size).any fun t => bindsTo (ops.getD s default) t && bindsTo (ops.getD t default) i
section
variable {P : Program} {ops : Array Oper} {Q : Exit → Act → World → Prop} {a0 : Act} {w0 : World} {Φ : Nat → Value → World → Prop} {L s1 s2 : Nat} {St : World → World → Prop} {Ω : Nat → World → Prop}
def stgOf (s1 s2 : Nat) (listed : Array Bool) : Nat := if listed.getD s2 true then 2 else if listed.getD s1 true then 1 else 0
theorem wp_region_inv3 {id n : Nat} (hm : P.follows .mixedOrders = true) (hn : a0.tmps.size = n) (hf : fitsB3 ops n s1 s2 L = true)
    (hst : ∀ i v w w', Φ i v w → St w w' → Φ i v w') (htop : ∀ v w, Φ s1 v w ∧ Φ s2 v w) (h0 : Ω 0 w0.drew)
    (hstep : ∀ i o, ops[i]? = some o → i ≠ L → ∀ s, (before2 ops s1 i = true → s = 0) → (before2 ops s2 i = true → s ≤ 1) → (i = s1 → s = 0) → (i = s2 → s = 1) → ∀ a w, Keeps ops a0 a → Ω s w → (∀ j oj, ops[j]? = some oj → bindsTo o j = true → Φ j (slotOf a oj) w) →
      wpOp P ops Q i (fun a' w' => ∃ v, a' = a.put o.dst v ∧ St w w' ∧ Ω (if i = s1 then 1 else if i = s2 then 2 else s) w' ∧ Φ i v w') a w)
    (hlast : ∀ a w, Keeps ops a0 a → Ω 2 w → (∀ j oj, ops[j]? = some oj → j ≠ L → Φ j (slotOf a oj) w) → wpOp P ops Q L (fun a' w' => Q .normal a' w') a w) :
    (Code.region id ops true).wp P Q a0 w0 := by
  simp only [fitsB3, Bool.and_eq_true, decide_eq_true_eq] at hf
  obtain ⟨⟨⟨⟨⟨⟨hf1, hf2⟩, hf3⟩, hf6⟩, hf5⟩, hf4⟩, ⟨⟨⟨hb21, hbL2⟩, hs12⟩, hs2L⟩⟩ := hf
  have hbd : ∀ o ∈ ops, ∀ d, o.dst = some d → d < a0.tmps.size := fun o ho d hd => by
    have := List.all_eq_true.1 hf1 o (by simpa using ho)
    rw [hd] at this
    have h2 : d < n := by simpa using this
    rw [hn]; exact h2
  have hnd := hf2
  have hL := hf3
  have hsucc : ∀ i, i < ops.size → i ≠ L → ∃ j, j < ops.size ∧ i < j ∧ bindsTo (ops.getD j default) i = true := fun i hi hiL => by
    have := List.all_eq_true.1 hf4 i (List.mem_range.2 hi)
    simp only [Bool.or_eq_true, beq_iff_eq, hiL, false_or] at this
    obtain ⟨j, hj, h2⟩ := List.any_eq_true.1 this
    simp only [Bool.and_eq_true, decide_eq_true_eq] at h2
    exact ⟨j, List.mem_range.1 hj, h2.1, h2.2⟩
  have hop : ∀ i, i < ops.size → ∃ o, ops[i]? = some o ∧ ops.getD i default = o := fun i hi => ⟨ops[i], by simp [hi], by simp [Array.getD, hi]⟩
  refine wp_region_any hm ?_
  have main : ∀ (fuel : Nat) (listed : Array Bool) (a : Act) (w : World), listed.size = ops.size → Keeps ops a0 a → Ω (stgOf s1 s2 listed) w → listed.getD L true = false →
      (∀ i o, ops[i]? = some o → listed.getD i true = true → (∀ j, bindsTo o j = true → listed.getD j false = true) ∧ Φ i (slotOf a o) w) →
      (List.range ops.size).countP (fun i => !listed.getD i true) ≤ fuel → wpAny P .any ops Q fuel listed a w := by
    intro fuel
    induction fuel with
    | zero =>
      intro listed a w hs _ _ hLf _ hc
      exfalso
      have : 0 < (List.range ops.size).countP (fun i => !listed.getD i true) := List.countP_pos_iff.2 ⟨L, List.mem_range.2 hL, by rw [hLf]; rfl⟩
      omega
    | succ fuel ih =>
      intro listed a w hs hk hb hLf hI hc
      have hrd : ∀ i, i ∈ Region.ready .any ops listed → i < ops.size ∧ listed.getD i true = false ∧ ∀ o, ops[i]? = some o → ∀ j, bindsTo o j = true → listed.getD j false = true := fun i hi => by
        unfold Region.ready at hi
        obtain ⟨h1, h2⟩ := List.mem_filter.1 hi
        simp only [Bool.and_eq_true, Bool.not_eq_true'] at h2
        refine ⟨List.mem_range.1 h1, h2.1, fun o ho j hj => ?_⟩
        have h3 := h2.2
        rw [ho] at h3
        simp only [Option.map_some, Option.getD_some] at h3
        obtain ⟨e, he, h4⟩ := List.any_eq_true.1 hj
        simp only [Bool.and_eq_true, beq_iff_eq] at h4
        have h5 := Array.all_eq_true_iff_forall_mem.1 h3 e (by simpa using he)
        rw [h4.1] at h5
        simp only [Bool.not_true, Bool.false_or] at h5
        rw [← h4.2]; exact h5
      have hlst : ∀ j, listed.getD j false = true → listed.getD j true = true := fun j hj => by
        by_cases hlt : j < listed.size
        · simpa [Array.getD, hlt] using hj
        · simp [Array.getD, hlt] at hj
      have hbk : ∀ j, listed.getD j true = false → listed.getD j false = false := fun j hj => by
        by_cases hlt : j < listed.size
        · simpa [Array.getD, hlt] using hj
        · simp [Array.getD, hlt]
      have htf : ∀ j, j < ops.size → listed.getD j true = true → listed.getD j false = true := fun j hj h => by
        have hlt : j < listed.size := by omega
        simpa [Array.getD, hlt] using h
      have hset : ∀ i j, i < ops.size → (listed.setIfInBounds i true).getD j true = (if j = i then true else listed.getD j true) ∧ (j < ops.size → (listed.setIfInBounds i true).getD j false = (if j = i then true else listed.getD j false)) := fun i j hi => by
        by_cases hj : j < listed.size
        · by_cases e : j = i
          · subst e; simp [Array.getD, hj]
          · simp [Array.getD, hj, e, Ne.symm e]
        · have : j ≠ i := by omega
          refine ⟨by simp [Array.getD, hj, this], fun h => by omega⟩
      refine ⟨fun he => ?_, fun i hi => ?_⟩
      · exfalso
        have least : ∀ m, (∀ i, i < m → listed.getD i true = true) ∨ ∃ i, i < m ∧ listed.getD i true = false ∧ ∀ j, j < i → listed.getD j true = true := by
          intro m
          induction m with
          | zero => exact .inl fun i hi => by omega
          | succ m ihm =>
            rcases ihm with h | ⟨i, h1, h2⟩
            · cases hm : listed.getD m true with
              | true => exact .inl fun i hi => by rcases (show i = m ∨ i < m by omega) with rfl | h3; exact hm; exact h i h3
              | false => exact .inr ⟨m, by omega, hm, h⟩
            · exact .inr ⟨i, by omega, h2⟩
        rcases least (L + 1) with h | ⟨i, h1, h2, h3⟩
        · have := h L (by omega); rw [hLf] at this; cases this
        · have hi : i < ops.size := by omega
          obtain ⟨o, ho, hod⟩ := hop i hi
          have hmem : i ∈ Region.ready .any ops listed := by
            unfold Region.ready
            refine List.mem_filter.2 ⟨List.mem_range.2 hi, ?_⟩
            rw [ho, h2]
            simp only [Bool.not_false, Bool.true_and, Option.map_some, Option.getD_some]
            refine Array.all_eq_true_iff_forall_mem.2 fun e hem => ?_
            have h5 := List.all_eq_true.1 hf5 i (List.mem_range.2 hi)
            rw [hod] at h5
            have h6 := List.all_eq_true.1 h5 e (by simpa using hem)
            cases hbd : Region.binds .any e with
            | false => rfl
            | true =>
              rw [hbd] at h6
              have h7 : e.on < i := by simpa using h6
              rw [htf e.on (by omega) (h3 e.on h7)]
              rfl
          rw [he] at hmem
          cases hmem
      · obtain ⟨hlt, hfalse, hdeps⟩ := hrd i hi
        obtain ⟨o, ho, hod⟩ := hop i hlt
        by_cases hiL : i = L
        · subst hiL
          have hall : ∀ k j, ops.size ≤ j + k → j < ops.size → j ≠ i → listed.getD j true = true := by
            intro k
            induction k with
            | zero => intro j h1 h2; omega
            | succ k ihk =>
              intro j h1 h2 h3
              obtain ⟨j', h4, h5, h6⟩ := hsucc j h2 h3
              obtain ⟨o', ho', hod'⟩ := hop j' h4
              rw [hod'] at h6
              by_cases e : j' = i
              · subst e
                exact hlst _ (hdeps o' ho' j h6)
              · exact hlst _ ((hI j' o' ho' (ihk j' (by omega) h4 e)).1 j h6)
          have hst2 : stgOf s1 s2 listed = 2 := by
            unfold stgOf
            rw [if_pos (hall ops.size s2 (by omega) (by omega) (by omega))]
          rw [hst2] at hb
          refine wpOp_mono (fun a' w' hq => ?_) (hlast a w hk hb fun j oj hoj hj => ?_)
          · have hr : Region.ready .any ops (listed.setIfInBounds i true) = [] := by
              unfold Region.ready
              rw [List.filter_eq_nil_iff]
              intro j hj
              have hj' := List.mem_range.1 hj
              rw [(hset i j hlt).1]
              by_cases e : j = i
              · rw [if_pos e]; simp
              · rw [if_neg e, hall ops.size j (by omega) hj' e]; simp
            cases fuel with
            | zero => exact ⟨hr, hq⟩
            | succ fuel => exact ⟨fun _ => hq, fun j hj => by rw [hr] at hj; cases hj⟩
          · have hj' : j < ops.size := by
              rcases Nat.lt_or_ge j ops.size with h | h
              · exact h
              · rw [Array.getElem?_eq_none h] at hoj; cases hoj
            exact (hI j oj hoj (hall ops.size j (by omega) hj' hj)).2
        · have hcl : ∀ t, t < ops.size → bindsTo (ops.getD t default) i = true → listed.getD t true = false := fun t ht hbt => by
            cases e : listed.getD t true with
            | false => rfl
            | true =>
              obtain ⟨ot, hot, hotd⟩ := hop t ht
              rw [hotd] at hbt
              have := hlst _ ((hI t ot hot e).1 i hbt)
              rw [hfalse] at this; cases this
          have hs1L : s1 < ops.size := by omega
          have hs2L' : s2 < ops.size := by omega
          have h21 : listed.getD s2 true = true → listed.getD s1 true = true := fun e => by
            obtain ⟨ot, hot, hotd⟩ := hop s2 hs2L'
            rw [hotd] at hb21
            exact hlst _ ((hI s2 ot hot e).1 s1 hb21)
          have hcl2 : ∀ t, t < ops.size → before2 ops t i = true → listed.getD t true = false := fun t ht hb2 => by
            unfold before2 at hb2
            rcases Bool.or_eq_true_iff.1 hb2 with hb2 | hb2
            · exact hcl t ht hb2
            · obtain ⟨u, hu, hb3⟩ := List.any_eq_true.1 hb2
              simp only [Bool.and_eq_true] at hb3
              have hul := List.mem_range.1 hu
              have hun := hcl u hul hb3.2
              cases e : listed.getD t true with
              | false => rfl
              | true =>
                obtain ⟨ot, hot, hotd⟩ := hop t ht
                have hb4 := hb3.1
                rw [hotd] at hb4
                have := hlst _ ((hI t ot hot e).1 u hb4)
                rw [hun] at this; cases this
          have q1 : before2 ops s1 i = true → stgOf s1 s2 listed = 0 := fun hbt => by
            have e1 := hcl2 s1 hs1L hbt
            have e2 : listed.getD s2 true = false := by
              cases e : listed.getD s2 true with
              | false => rfl
              | true => rw [h21 e] at e1; cases e1
            unfold stgOf; rw [e1, e2]; rfl
          have q2 : before2 ops s2 i = true → stgOf s1 s2 listed ≤ 1 := fun hbt => by
            have e2 := hcl2 s2 hs2L' hbt
            unfold stgOf; rw [e2, if_neg (by decide)]; split <;> omega
          have q3 : i = s1 → stgOf s1 s2 listed = 0 := fun e => by
            have e1 : listed.getD s1 true = false := by rw [← e]; exact hfalse
            have e2 : listed.getD s2 true = false := by
              cases e : listed.getD s2 true with
              | false => rfl
              | true => rw [h21 e] at e1; cases e1
            unfold stgOf; rw [e1, e2]; rfl
          have q4 : i = s2 → stgOf s1 s2 listed = 1 := fun e => by
            have e2 : listed.getD s2 true = false := by rw [← e]; exact hfalse
            have e1 : listed.getD s1 true = true := by
              rw [e, ] at hod
              rw [hod] at hb21
              exact hlst _ (hdeps o ho s1 hb21)
            unfold stgOf; rw [e1, e2]; rfl
          refine wpOp_mono (fun a' w' hq => ?_) (hstep i o ho hiL (stgOf s1 s2 listed) q1 q2 q3 q4 a w hk hb fun j oj hoj hj => (hI j oj hoj (hlst j (hdeps o ho j hj))).2)
          obtain ⟨v, rfl, hb', hΩ, hΦ⟩ := hq
          have hstg : stgOf s1 s2 (listed.setIfInBounds i true) = (if i = s1 then 1 else if i = s2 then 2 else stgOf s1 s2 listed) := by
            unfold stgOf
            rw [(hset i s1 hlt).1, (hset i s2 hlt).1]
            by_cases e1 : i = s1
            · have e2 : listed.getD s2 true = false := by
                cases e : listed.getD s2 true with
                | false => rfl
                | true => have := h21 e; rw [← e1, hfalse] at this; cases this
              have e3 : ¬ s2 = s1 := by omega
              simp [e1, e2, e3]
            · by_cases e2 : i = s2
              · have e3 : ¬ s2 = s1 := by omega
                simp [e2, e3]
              · simp [e1, e2, show ¬ s2 = i from fun e => e2 e.symm, show ¬ s1 = i from fun e => e1 e.symm]
          rw [← hstg] at hΩ
          have hmo : o ∈ ops := by
            rw [Array.mem_iff_getElem?]; exact ⟨i, ho⟩
          refine ih (listed.setIfInBounds i true) _ w' (by simpa using hs) (hk.put hmo (hbd o hmo) v) hΩ ?_ ?_ ?_
          · rw [(hset i L hlt).1, if_neg (fun e => hiL e.symm)]; exact hLf
          · intro j oj hoj hj
            have hj' : j < ops.size := by
              rcases Nat.lt_or_ge j ops.size with h | h
              · exact h
              · rw [Array.getElem?_eq_none h] at hoj; cases hoj
            rw [(hset i j hlt).1] at hj
            have hlow : ∀ k, bindsTo oj k = true → k < ops.size := fun k hk => by
              obtain ⟨e, he, h4⟩ := List.any_eq_true.1 hk
              simp only [Bool.and_eq_true, beq_iff_eq] at h4
              have h5 := List.all_eq_true.1 hf5 j (List.mem_range.2 hj')
              obtain ⟨oj', hoj', hod'⟩ := hop j hj'
              rw [hod'] at h5
              rw [hoj] at hoj'; cases hoj'
              have h6 := List.all_eq_true.1 h5 e he
              rw [h4.1] at h6
              have h7 : e.on < j := by simpa using h6
              rw [h4.2] at h7; omega
            by_cases e : j = i
            · subst e
              rw [ho] at hoj; cases hoj
              refine ⟨fun k hk => ?_, ?_⟩
              · rw [(hset j k hlt).2 (hlow k hk)]
                by_cases e2 : k = j
                · rw [if_pos e2]
                · rw [if_neg e2]; exact hdeps o ho k hk
              · by_cases hss : j = s1 ∨ j = s2
                · rcases hss with rfl | rfl
                  · exact (htop _ _).1
                  · exact (htop _ _).2
                · have : slotOf (a.put o.dst v) o = v := by
                    unfold slotOf Act.put
                    cases hd : o.dst with
                    | none =>
                      have h7 := List.all_eq_true.1 hf6 j (List.mem_range.2 hj')
                      rw [hod, hd] at h7
                      simp only [Bool.or_eq_true, beq_iff_eq, Option.isSome_none, Bool.false_eq_true, or_false] at h7
                      exact absurd h7 (by omega)
                    | some d =>
                      dsimp only
                      rw [getD_set _ _ _ _ (by rw [hk.size]; exact hbd o hmo d hd), if_pos rfl]
                  rw [this]
                  exact hΦ
            · rw [if_neg e] at hj
              obtain ⟨h1, h2⟩ := hI j oj hoj hj
              refine ⟨fun k hk => ?_, ?_⟩
              · rw [(hset i k hlt).2 (hlow k hk)]
                by_cases e2 : k = i
                · rw [if_pos e2]
                · rw [if_neg e2]; exact h1 k hk
              · have : slotOf (a.put o.dst v) oj = slotOf a oj := by
                  unfold slotOf
                  cases hdj : oj.dst with
                  | none => rfl
                  | some dj =>
                    dsimp only
                    unfold Act.put
                    cases hd : o.dst with
                    | none => rfl
                    | some d =>
                      dsimp only
                      rw [getD_set _ _ _ _ (by rw [hk.size]; exact hbd o hmo d hd), if_neg]
                      intro e3
                      subst e3
                      exact e (nodup_dst hnd (i := j) (j := i) (by simpa using hoj) (by simpa using ho) hdj hd)
                rw [this]
                exact hst j _ w w' h2 hb'
          · have hcount : (List.range ops.size).countP (fun j => !(listed.setIfInBounds i true).getD j true) < (List.range ops.size).countP (fun j => !listed.getD j true) := by
              refine cnt_lt _ (fun x _ hq => ?_) ⟨i, List.mem_range.2 hlt, by rw [hfalse]; rfl, by rw [(hset i i hlt).1, if_pos rfl]; rfl⟩
              rw [(hset i x hlt).1] at hq
              by_cases e : x = i
              · rw [e, hfalse]; rfl
              · rw [if_neg e] at hq; exact hq
            omega
  have e0 : stgOf s1 s2 (Array.replicate ops.size false) = 0 := by
    unfold stgOf
    simp [Array.getD, show s1 < ops.size by omega, show s2 < ops.size by omega]
  refine main ops.size (Array.replicate ops.size false) a0 w0.drew (by simp) (Keeps.refl _ _) (by rw [e0]; exact h0) (by simp [Array.getD, hL]) (fun i o ho hl => ?_) (by have := List.countP_le_length (p := fun i => !(Array.replicate ops.size false).getD i true) (l := List.range ops.size); simpa using this)
  exfalso
  have hj' : i < ops.size := by
    rcases Nat.lt_or_ge i ops.size with h | h
    · exact h
    · rw [Array.getElem?_eq_none h] at ho; cases ho
  simp [Array.getD, hj'] at hl


def SPC (F : Nat → Prop) := { φ : Value → World → Prop // ∀ v w w', φ v w → Chg F w w' → φ v w' }
def SPC.is {F : Nat → Prop} (x : Value) : SPC F := ⟨fun v _ => v = x, fun _ _ _ h _ => h⟩
def SPC.top {F : Nat → Prop} : SPC F := ⟨fun _ _ => True, fun _ _ _ h _ => h⟩
def planC {F : Nat → Prop} (l : List (SPC F)) : Nat → Value → World → Prop := fun i => (l.getD i SPC.top).1
def StepC {F : Nat → Prop} (P : Program) (ops : Array Oper) (Q : Exit → Act → World → Prop) (a0 : Act) (s1 s2 : Nat) (Ω : Nat → World → Prop) (l : List (SPC F)) (i : Nat) : Prop :=
  ∀ o, ops[i]? = some o → ∀ s, (before2 ops s1 i = true → s = 0) → (before2 ops s2 i = true → s ≤ 1) → (i = s1 → s = 0) → (i = s2 → s = 1) → ∀ a w, Keeps ops a0 a → Ω s w → (∀ j oj, ops[j]? = some oj → bindsTo o j = true → planC l j (slotOf a oj) w) →
    wpOp P ops Q i (fun a' w' => ∃ v, a' = a.put o.dst v ∧ Chg F w w' ∧ Ω (if i = s1 then 1 else if i = s2 then 2 else s) w' ∧ planC l i v w') a w
theorem wp_region_three {F : Nat → Prop} {id n m : Nat} {l : List (SPC F)} (hm : P.follows .mixedOrders = true) (hn : a0.tmps.size = n) (hf : fitsB3 ops n s1 s2 m = true) (hz : ops.size = m + 1)
    (htop : (l.getD s1 SPC.top).1 = (SPC.top (F := F)).1 ∧ (l.getD s2 SPC.top).1 = (SPC.top (F := F)).1) (h0 : Ω 0 w0.drew)
    (hstep : AllBelow (StepC P ops Q a0 s1 s2 Ω l) m)
    (hlast : ∀ a w, Keeps ops a0 a → Ω 2 w → (∀ j oj, ops[j]? = some oj → j < m → planC l j (slotOf a oj) w) → wpOp P ops Q m (fun a' w' => Q .normal a' w') a w) :
    (Code.region id ops true).wp P Q a0 w0 :=
  wp_region_inv3 (Φ := planC l) (St := fun w w' => Chg F w w') hm hn hf (fun i v w w' h hb => (l.getD i SPC.top).2 v w w' h hb)
    (fun v w => ⟨by unfold planC; rw [htop.1]; exact trivial, by unfold planC; rw [htop.2]; exact trivial⟩) h0
    (fun i o ho hi s c1 c2 c3 c4 a w hk hb F => hstep.get i (by
      have : i < ops.size := by
        rcases Nat.lt_or_ge i ops.size with h | h
        · exact h
        · rw [Array.getElem?_eq_none h] at ho; cases ho
      omega) o ho s c1 c2 c3 c4 a w hk hb F)
    (fun a w hk hb F => hlast a w hk hb fun j oj hj hlt => F j oj hj (by omega))
end
end Go.Proofs.YthkjicnnepkghaaGreatDoor
