/-
  slices.Grow, slices.Concat and state.all, at rectangles, numbers, children: lists one behind the other, in new memory.
-/
import Derived.Test.YthkjicnnepkghaaDoorFData
import Derived.Test.YthkjicnnepkghaaDoorAppend
import Derived.Lib.AppendZeros
import Derived.LoopTactic
namespace Go.Proofs.YthkjicnnepkghaaDoor
open Go.RowKit

/-- Lists in memory: what each value reads as. -/
structure Src where
  v : Value
  n : Nat
  cs : List Value
def RdSrc (w : World) (sz : Nat) (L : List Src) : Prop := ∀ x ∈ L, Rd w x.v sz x.n x.cs ∧ (∀ u ∈ x.cs, u.oneCell' = true)
def sumSrc (L : List Src) : Nat := (L.map Src.n).sum
def catSrc (L : List Src) : List Value := L.flatMap Src.cs
instance : Inhabited Src := ⟨⟨.slice none 0 0, 0, []⟩⟩
theorem sumSrc_take {L : List Src} {k : Nat} (hk : k < L.length) : sumSrc (L.take (k + 1)) = sumSrc (L.take k) + (L.getD k default).n := by
  unfold sumSrc
  rw [List.take_succ_eq_append_getElem hk, List.map_append, List.sum_append]
  simp [List.getD, hk]
theorem catSrc_take {L : List Src} {k : Nat} (hk : k < L.length) : catSrc (L.take (k + 1)) = catSrc (L.take k) ++ (L.getD k default).cs := by
  unfold catSrc
  rw [List.take_succ_eq_append_getElem hk, List.flatMap_append]
  simp [List.getD, hk]
theorem sumSrc_le (L : List Src) (k : Nat) : sumSrc (L.take k) ≤ sumSrc L := by
  unfold sumSrc
  conv => rhs; rw [← List.take_append_drop k L, List.map_append, List.sum_append]
  exact Nat.le_add_right _ _
theorem RdSrc.at {w : World} {sz : Nat} {L : List Src} (h : RdSrc w sz L) {k : Nat} (hk : k < L.length) : Rd w (L.getD k default).v sz (L.getD k default).n (L.getD k default).cs ∧ (∀ u ∈ (L.getD k default).cs, u.oneCell' = true) := by
  refine h _ ?_
  have e : L.getD k default = L[k] := by simp [List.getD, hk]
  rw [e]; exact List.getElem_mem hk

theorem Tryd.infoCrect : (Tryd.prog.info? 90).map (fun i => (i.zero, i.size, i.bytes)) = some (some (Value.agg #[.int .i64 0, .int .i64 0, .int .i64 0, .int .i64 0]), 4, 32) := by kernel_rfl
set_option maxRecDepth 100000 in
set_option maxHeartbeats 1000000 in
theorem grow_rect (w : World) (n : Nat) (hn : n ≤ 1000000) :
    Calls Tryd.prog 96 #[.slice none 0 0, .int .i64 n] w fun e w' => ∃ v, e = .returned v ∧ w'.ownsRow w.heap.size 90 4 v 0 [] ∧ Below w.heap.size w w' := by
  obtain ⟨i0, hi, hz0, hz1, hz2⟩ := info_parts Tryd.infoCrect
  rcases Nat.eq_zero_or_pos n with rfl | h0
  · go_enter Tryd.func96, Tryd.ntmps96
    go_wp2
    go_ret
    exact ⟨_, rfl, World.ownsRow_nil _ _ _ _, Below.refl _ _⟩
  · have hr := Lib.run_append_nil_zeros (P := Tryd.prog) w 34 3 34 90 i0 _ .i64 .i64 Tryd.underlying34 Tryd.underlying3 hi hz0 n h0 (by rw [hz1]; decide) (by omega) (by rw [hz2]; omega)
    have hge := grownCap_ge w n 0 90
    have hle := grownCap_le_maxLen w n 0 90 (by unfold maxLen; omega)
    have hown := World.ownsRow_made (base := w.heap.size) (e := 90) (size := 4) w.drew (Builtin.zeroCells (Value.agg #[.int .i64 0, .int .i64 0, .int .i64 0, .int .i64 0] : Value).cells n ++ Builtin.zeroCells (Value.agg #[.int .i64 0, .int .i64 0, .int .i64 0, .int .i64 0] : Value).cells (grownCap w n 0 90 - n)) (grownCap w n 0 90) (Nat.le_refl _) hle (by
      rw [Array.size_append, size_zeroCells, size_zeroCells]
      have : (Value.agg #[.int .i64 0, .int .i64 0, .int .i64 0, .int .i64 0] : Value).cells.size = 4 := by rfl
      rw [this, ← Nat.add_mul, Nat.add_sub_cancel' hge])
    obtain ⟨c, hc⟩ : ∃ c, c = grownCap w n 0 90 := ⟨_, rfl⟩
    rw [← hc] at hr hge hown
    replace hr := hide hr
    replace hown := hide hown
    clear hc hle
    go_enter Tryd.func96, Tryd.ntmps96
    go_wp2_with (at_builtin; refine Lib.wpList_append_run _ rfl _ _ _ _ rfl _ _ rfl rfl _ _ hr.out ?_)
    go_ret
    exact ⟨_, rfl, hown.out, (below_drewN (Below.refl _ w) 1).alloc (by simp) _⟩

set_option maxRecDepth 100000 in
set_option maxHeartbeats 2000000 in
theorem concat_rect (w : World) (v : Value) (L : List Src) (hv : Rd w v 1 L.length (L.map Src.v)) (hL : RdSrc w 4 L) (hm : L.length ≤ 1000) (hn : sumSrc L ≤ 1000000) :
    Calls Tryd.prog 77 #[v] w fun e w' => ∃ v', e = .returned v' ∧ w'.ownsRow w.heap.size 90 4 v' (sumSrc L) (catSrc L) ∧ Below w.heap.size w w' := by
  obtain ⟨i0, hi, hz0, hz1, hz2⟩ := info_parts Tryd.infoCrect
  obtain ⟨m, hmm⟩ : ∃ m, m = L.length := ⟨_, rfl⟩
  rw [← hmm] at hv hm
  obtain ⟨A, c, rfl, hcc⟩ : ∃ A c, v = .slice A m c ∧ m ≤ c := by
    obtain ⟨_, A, c, rfl, hc, _⟩ := hv
    exact ⟨A, c, rfl, hc⟩
  have cG := hide (grow_rect w (sumSrc L) hn)
  replace hmm := hide hmm
  replace hv := hide hv
  replace hL := hide hL
  go_enter Tryd.func77, Tryd.ntmps77
  go_wp2
  go_loop [3, 11] (fun s i => ∃ k : Nat, k ≤ m ∧ i = .int .i64 k ∧ s = .int .i64 (sumSrc (L.take k) : Nat)) (fun _ i => m - (intOf i).toNat)
  case atStart => exact ⟨0, Nat.zero_le _, rfl, rfl⟩
  case round =>
    obtain ⟨k, hk, rfl, rfl⟩ := hrel
    by_cases hlt : k < m
    · have hkl : k < L.length := by rw [← hmm.out]; exact hlt
      obtain ⟨b, off, u, rfl, hb, hu, hc⟩ := hv.out.cell1 hlt
      obtain ⟨_, A2, c2, he, hc2, _⟩ := (hL.out.at hkl).1
      have hu2 : u = (L.getD k default).v := by
        rw [List.getElem?_map, List.getElem?_eq_getElem hkl] at hu
        simp at hu
        rw [← hu]; simp [List.getD, hkl]
      rw [hu2, he] at hc
      have hs := sumSrc_take hkl
      have hle := sumSrc_le L (k + 1)
      have h0 : ¬ ((sumSrc (L.take k) : Int) + ((L.getD k default).n : Int) < 0) := by omega
      have H1 : Hid ((sumSrc (L.take (k + 1)) : Nat) = sumSrc (L.take k) + (L.getD k default).n) := hide hs
      obtain ⟨q, hq⟩ : ∃ q, q = (L.getD k default).n := ⟨_, rfl⟩
      obtain ⟨t, ht⟩ : ∃ t, t = sumSrc (L.take k) := ⟨_, rfl⟩
      rw [← hq] at H1 hc h0
      rw [← ht] at H1 h0
      have hqt : t + q ≤ 1000000 := by rw [hq, ht]; omega
      rw [← ht]
      clear hs hle hu hu2 he hq ht
      go_wp2
      go_round
      case rel => exact ⟨k + 1, by omega, by go_num, by rw [H1.out]; go_num⟩
      case measure => simp [intOf]; omega
    · obtain rfl : k = m := by omega
      have ht : L.take k = L := by rw [hmm.out]; exact List.take_length
      rw [ht]
      clear hk hlt ht
      go_wp2_with fail
      refine cG.out.mono ?_
      rintro e w1 ⟨v1, rfl, ho1, hb1⟩
      clear cG
      obtain ⟨A1, c1, rfl, hc1⟩ := own_form ho1
      have hv1 := hide (hv.out.below hb1 (Nat.le_refl _))
      have hL1 : Hid (RdSrc w1 4 L) := hide fun x hx => ⟨(hL.out x hx).1.below hb1 (Nat.le_refl _), (hL.out x hx).2⟩
      replace ho1 := hide ho1
      replace hb1 := hide hb1
      go_wp2
      go_loopw [6, 27] (fun s i wr => ∃ j : Nat, j ≤ k ∧ i = .int .i64 j ∧ Hid (wr.ownsRow w.heap.size 90 4 s (sumSrc (L.take j)) (catSrc (L.take j))) ∧ Hid (Below w.heap.size w wr)) (fun _ i _ => k - (intOf i).toNat)
      case atStart => exact ⟨0, Nat.zero_le _, rfl, hide (by simpa [sumSrc, catSrc] using ho1.out), hb1⟩
      clear ho1 hb1 hv1 hL1
      case round =>
        obtain ⟨j, hj, rfl, ho, hb⟩ := hrel
        obtain ⟨wC, hC⟩ : ∃ wC, wC = wr := ⟨_, rfl⟩
        subst hC
        by_cases hlt : j < k
        · have hjl : j < L.length := by rw [← hmm.out]; exact hlt
          obtain ⟨b, off, u, rfl, hbb, hu, hc⟩ := (hv.out.below hb.out (Nat.le_refl _)).cell1 hlt
          have hRd := (hL.out.at hjl).1.below hb.out (Nat.le_refl _)
          have hOne := hide (hL.out.at hjl).2
          obtain ⟨_, A2, c2, he, hc2, _⟩ := (hL.out.at hjl).1
          have hu2 : u = (L.getD j default).v := by
            rw [List.getElem?_map, List.getElem?_eq_getElem hjl] at hu
            simp at hu
            rw [← hu]; simp [List.getD, hjl]
          rw [hu2, he] at hc
          rw [he] at hRd
          have H1 := hide (sumSrc_take hjl)
          have H2 := hide (catSrc_take hjl)
          have hle := sumSrc_le L (j + 1)
          have hle2 := sumSrc_take hjl
          have hsz := hb.out.size
          obtain ⟨A3, c3, rfl, hc3⟩ := own_form ho.out
          have hadd : sumSrc (L.take j) + (L.getD j default).n ≤ 1000000 := by omega
          obtain ⟨q, hq⟩ : ∃ q, q = (L.getD j default).n := ⟨_, rfl⟩
          obtain ⟨qs, hqs⟩ : ∃ q, q = (L.getD j default).cs := ⟨_, rfl⟩
          rw [← hq] at hRd hadd hc H1
          rw [← hqs] at hRd hOne H2
          have hRd' := hide hRd
          clear hu hu2 he hRd hle hle2 hq hqs
          go_wp2_with (at_builtin; refine wpList_append_rd rfl _ _ 34 rfl w.heap.size 90 i0 _ 4 32 Tryd.underlying34 hi hz0 hz1 hz2 rfl (by decide) _ _ _ rfl ho.out A2 _ c2 _ rfl hRd'.out hOne.out (by unfold maxLen; omega) (by omega) hsz ?_; intro v2 w2 o2 hg2)
          have hb2 : Hid (Below w.heap.size w w2) := hb.out.grown hg2 hsz (fun q hq => (ho.out.lt q hq).1)
          replace o2 := hide o2
          clear hg2
          go_roundw
          case rel => exact ⟨j + 1, by omega, by go_num, by rw [H1.out, H2.out]; exact o2, hb2⟩
          case measure => simp [intOf]; omega
        · obtain rfl : j = k := by omega
          have ht : L.take j = L := by rw [hmm.out]; exact List.take_length
          rw [ht] at ho
          obtain ⟨A3, c3, rfl, hc3⟩ := own_form ho.out
          clear ht
          go_wp2
          go_ret
          exact ⟨_, rfl, ho.out, hb.out⟩

theorem all_rect (w : World) (v : Value) (L : List Src) (hv : Rd w v 1 L.length (L.map Src.v)) (hL : RdSrc w 4 L) (hm : L.length ≤ 1000) (hn : sumSrc L ≤ 1000000) :
    Calls Tryd.prog 60 #[v] w fun e w' => ∃ v', e = .returned v' ∧ w'.ownsRow w.heap.size 90 4 v' (sumSrc L) (catSrc L) ∧ Below w.heap.size w w' := by
  obtain ⟨A, c, rfl, hcc⟩ : ∃ A c, v = .slice A L.length c ∧ L.length ≤ c := by
    obtain ⟨_, A, c, rfl, hc, _⟩ := hv
    exact ⟨A, c, rfl, hc⟩
  have cC := hide (concat_rect w _ L hv hL hm hn)
  clear hv hL
  go_enter Tryd.func60, Tryd.ntmps60
  go_wp2_with fail
  refine cC.out.mono ?_
  rintro e w1 ⟨v1, rfl, ho1, hb1⟩
  obtain ⟨A1, c1, rfl, hc1⟩ := own_form ho1
  replace ho1 := hide ho1
  go_wp2
  go_ret
  exact ⟨_, rfl, ho1.out, hb1⟩
theorem Tryd.infoCint : (Tryd.prog.info? 3).map (fun i => (i.zero, i.size, i.bytes)) = some (some (Value.int .i64 0), 1, 8) := by kernel_rfl
set_option maxRecDepth 100000 in
set_option maxHeartbeats 1000000 in
theorem grow_int (w : World) (n : Nat) (hn : n ≤ 1000000) :
    Calls Tryd.prog 97 #[.slice none 0 0, .int .i64 n] w fun e w' => ∃ v, e = .returned v ∧ w'.ownsRow w.heap.size 3 1 v 0 [] ∧ Below w.heap.size w w' := by
  obtain ⟨i0, hi, hz0, hz1, hz2⟩ := info_parts Tryd.infoCint
  rcases Nat.eq_zero_or_pos n with rfl | h0
  · go_enter Tryd.func97, Tryd.ntmps97
    go_wp2
    go_ret
    exact ⟨_, rfl, World.ownsRow_nil _ _ _ _, Below.refl _ _⟩
  · have hr := Lib.run_append_nil_zeros (P := Tryd.prog) w 29 3 29 3 i0 _ .i64 .i64 Tryd.underlying29 Tryd.underlying3 hi hz0 n h0 (by rw [hz1]; decide) (by omega) (by rw [hz2]; omega)
    have hge := grownCap_ge w n 0 3
    have hle := grownCap_le_maxLen w n 0 3 (by unfold maxLen; omega)
    have hown := World.ownsRow_made (base := w.heap.size) (e := 3) (size := 1) w.drew (Builtin.zeroCells (Value.int .i64 0 : Value).cells n ++ Builtin.zeroCells (Value.int .i64 0 : Value).cells (grownCap w n 0 3 - n)) (grownCap w n 0 3) (Nat.le_refl _) hle (by
      rw [Array.size_append, size_zeroCells, size_zeroCells]
      have : (Value.int .i64 0 : Value).cells.size = 1 := by rfl
      rw [this, ← Nat.add_mul, Nat.add_sub_cancel' hge])
    obtain ⟨c, hc⟩ : ∃ c, c = grownCap w n 0 3 := ⟨_, rfl⟩
    rw [← hc] at hr hge hown
    replace hr := hide hr
    replace hown := hide hown
    clear hc hle
    go_enter Tryd.func97, Tryd.ntmps97
    go_wp2_with (at_builtin; refine Lib.wpList_append_run _ rfl _ _ _ _ rfl _ _ rfl rfl _ _ hr.out ?_)
    go_ret
    exact ⟨_, rfl, hown.out, (below_drewN (Below.refl _ w) 1).alloc (by simp) _⟩

set_option maxRecDepth 100000 in
set_option maxHeartbeats 2000000 in
theorem concat_int (w : World) (v : Value) (L : List Src) (hv : Rd w v 1 L.length (L.map Src.v)) (hL : RdSrc w 1 L) (hm : L.length ≤ 1000) (hn : sumSrc L ≤ 1000000) :
    Calls Tryd.prog 78 #[v] w fun e w' => ∃ v', e = .returned v' ∧ w'.ownsRow w.heap.size 3 1 v' (sumSrc L) (catSrc L) ∧ Below w.heap.size w w' := by
  obtain ⟨i0, hi, hz0, hz1, hz2⟩ := info_parts Tryd.infoCint
  obtain ⟨m, hmm⟩ : ∃ m, m = L.length := ⟨_, rfl⟩
  rw [← hmm] at hv hm
  obtain ⟨A, c, rfl, hcc⟩ : ∃ A c, v = .slice A m c ∧ m ≤ c := by
    obtain ⟨_, A, c, rfl, hc, _⟩ := hv
    exact ⟨A, c, rfl, hc⟩
  have cG := hide (grow_int w (sumSrc L) hn)
  replace hmm := hide hmm
  replace hv := hide hv
  replace hL := hide hL
  go_enter Tryd.func78, Tryd.ntmps78
  go_wp2
  go_loop [3, 11] (fun s i => ∃ k : Nat, k ≤ m ∧ i = .int .i64 k ∧ s = .int .i64 (sumSrc (L.take k) : Nat)) (fun _ i => m - (intOf i).toNat)
  case atStart => exact ⟨0, Nat.zero_le _, rfl, rfl⟩
  case round =>
    obtain ⟨k, hk, rfl, rfl⟩ := hrel
    by_cases hlt : k < m
    · have hkl : k < L.length := by rw [← hmm.out]; exact hlt
      obtain ⟨b, off, u, rfl, hb, hu, hc⟩ := hv.out.cell1 hlt
      obtain ⟨_, A2, c2, he, hc2, _⟩ := (hL.out.at hkl).1
      have hu2 : u = (L.getD k default).v := by
        rw [List.getElem?_map, List.getElem?_eq_getElem hkl] at hu
        simp at hu
        rw [← hu]; simp [List.getD, hkl]
      rw [hu2, he] at hc
      have hs := sumSrc_take hkl
      have hle := sumSrc_le L (k + 1)
      have h0 : ¬ ((sumSrc (L.take k) : Int) + ((L.getD k default).n : Int) < 0) := by omega
      have H1 : Hid ((sumSrc (L.take (k + 1)) : Nat) = sumSrc (L.take k) + (L.getD k default).n) := hide hs
      obtain ⟨q, hq⟩ : ∃ q, q = (L.getD k default).n := ⟨_, rfl⟩
      obtain ⟨t, ht⟩ : ∃ t, t = sumSrc (L.take k) := ⟨_, rfl⟩
      rw [← hq] at H1 hc h0
      rw [← ht] at H1 h0
      have hqt : t + q ≤ 1000000 := by rw [hq, ht]; omega
      rw [← ht]
      clear hs hle hu hu2 he hq ht
      go_wp2
      go_round
      case rel => exact ⟨k + 1, by omega, by go_num, by rw [H1.out]; go_num⟩
      case measure => simp [intOf]; omega
    · obtain rfl : k = m := by omega
      have ht : L.take k = L := by rw [hmm.out]; exact List.take_length
      rw [ht]
      clear hk hlt ht
      go_wp2_with fail
      refine cG.out.mono ?_
      rintro e w1 ⟨v1, rfl, ho1, hb1⟩
      clear cG
      obtain ⟨A1, c1, rfl, hc1⟩ := own_form ho1
      have hv1 := hide (hv.out.below hb1 (Nat.le_refl _))
      have hL1 : Hid (RdSrc w1 1 L) := hide fun x hx => ⟨(hL.out x hx).1.below hb1 (Nat.le_refl _), (hL.out x hx).2⟩
      replace ho1 := hide ho1
      replace hb1 := hide hb1
      go_wp2
      go_loopw [6, 27] (fun s i wr => ∃ j : Nat, j ≤ k ∧ i = .int .i64 j ∧ Hid (wr.ownsRow w.heap.size 3 1 s (sumSrc (L.take j)) (catSrc (L.take j))) ∧ Hid (Below w.heap.size w wr)) (fun _ i _ => k - (intOf i).toNat)
      case atStart => exact ⟨0, Nat.zero_le _, rfl, hide (by simpa [sumSrc, catSrc] using ho1.out), hb1⟩
      clear ho1 hb1 hv1 hL1
      case round =>
        obtain ⟨j, hj, rfl, ho, hb⟩ := hrel
        obtain ⟨wC, hC⟩ : ∃ wC, wC = wr := ⟨_, rfl⟩
        subst hC
        by_cases hlt : j < k
        · have hjl : j < L.length := by rw [← hmm.out]; exact hlt
          obtain ⟨b, off, u, rfl, hbb, hu, hc⟩ := (hv.out.below hb.out (Nat.le_refl _)).cell1 hlt
          have hRd := (hL.out.at hjl).1.below hb.out (Nat.le_refl _)
          have hOne := hide (hL.out.at hjl).2
          obtain ⟨_, A2, c2, he, hc2, _⟩ := (hL.out.at hjl).1
          have hu2 : u = (L.getD j default).v := by
            rw [List.getElem?_map, List.getElem?_eq_getElem hjl] at hu
            simp at hu
            rw [← hu]; simp [List.getD, hjl]
          rw [hu2, he] at hc
          rw [he] at hRd
          have H1 := hide (sumSrc_take hjl)
          have H2 := hide (catSrc_take hjl)
          have hle := sumSrc_le L (j + 1)
          have hle2 := sumSrc_take hjl
          have hsz := hb.out.size
          obtain ⟨A3, c3, rfl, hc3⟩ := own_form ho.out
          have hadd : sumSrc (L.take j) + (L.getD j default).n ≤ 1000000 := by omega
          obtain ⟨q, hq⟩ : ∃ q, q = (L.getD j default).n := ⟨_, rfl⟩
          obtain ⟨qs, hqs⟩ : ∃ q, q = (L.getD j default).cs := ⟨_, rfl⟩
          rw [← hq] at hRd hadd hc H1
          rw [← hqs] at hRd hOne H2
          have hRd' := hide hRd
          clear hu hu2 he hRd hle hle2 hq hqs
          go_wp2_with (at_builtin; refine wpList_append_rd rfl _ _ 29 rfl w.heap.size 3 i0 _ 1 8 Tryd.underlying29 hi hz0 hz1 hz2 rfl (by decide) _ _ _ rfl ho.out A2 _ c2 _ rfl hRd'.out hOne.out (by unfold maxLen; omega) (by omega) hsz ?_; intro v2 w2 o2 hg2)
          have hb2 : Hid (Below w.heap.size w w2) := hb.out.grown hg2 hsz (fun q hq => (ho.out.lt q hq).1)
          replace o2 := hide o2
          clear hg2
          go_roundw
          case rel => exact ⟨j + 1, by omega, by go_num, by rw [H1.out, H2.out]; exact o2, hb2⟩
          case measure => simp [intOf]; omega
        · obtain rfl : j = k := by omega
          have ht : L.take j = L := by rw [hmm.out]; exact List.take_length
          rw [ht] at ho
          obtain ⟨A3, c3, rfl, hc3⟩ := own_form ho.out
          clear ht
          go_wp2
          go_ret
          exact ⟨_, rfl, ho.out, hb.out⟩

theorem all_int (w : World) (v : Value) (L : List Src) (hv : Rd w v 1 L.length (L.map Src.v)) (hL : RdSrc w 1 L) (hm : L.length ≤ 1000) (hn : sumSrc L ≤ 1000000) :
    Calls Tryd.prog 61 #[v] w fun e w' => ∃ v', e = .returned v' ∧ w'.ownsRow w.heap.size 3 1 v' (sumSrc L) (catSrc L) ∧ Below w.heap.size w w' := by
  obtain ⟨A, c, rfl, hcc⟩ : ∃ A c, v = .slice A L.length c ∧ L.length ≤ c := by
    obtain ⟨_, A, c, rfl, hc, _⟩ := hv
    exact ⟨A, c, rfl, hc⟩
  have cC := hide (concat_int w _ L hv hL hm hn)
  clear hv hL
  go_enter Tryd.func61, Tryd.ntmps61
  go_wp2_with fail
  refine cC.out.mono ?_
  rintro e w1 ⟨v1, rfl, ho1, hb1⟩
  obtain ⟨A1, c1, rfl, hc1⟩ := own_form ho1
  replace ho1 := hide ho1
  go_wp2
  go_ret
  exact ⟨_, rfl, ho1.out, hb1⟩
theorem Tryd.infoCchild : (Tryd.prog.info? 51).map (fun i => (i.zero, i.size, i.bytes)) = some (some (Value.agg #[.int .i64 0, .int .i64 0, .int .i64 0]), 3, 24) := by kernel_rfl
set_option maxRecDepth 100000 in
set_option maxHeartbeats 1000000 in
theorem grow_child (w : World) (n : Nat) (hn : n ≤ 1000000) :
    Calls Tryd.prog 95 #[.slice none 0 0, .int .i64 n] w fun e w' => ∃ v, e = .returned v ∧ w'.ownsRow w.heap.size 51 3 v 0 [] ∧ Below w.heap.size w w' := by
  obtain ⟨i0, hi, hz0, hz1, hz2⟩ := info_parts Tryd.infoCchild
  rcases Nat.eq_zero_or_pos n with rfl | h0
  · go_enter Tryd.func95, Tryd.ntmps95
    go_wp2
    go_ret
    exact ⟨_, rfl, World.ownsRow_nil _ _ _ _, Below.refl _ _⟩
  · have hr := Lib.run_append_nil_zeros (P := Tryd.prog) w 35 3 35 51 i0 _ .i64 .i64 Tryd.underlying35 Tryd.underlying3 hi hz0 n h0 (by rw [hz1]; decide) (by omega) (by rw [hz2]; omega)
    have hge := grownCap_ge w n 0 51
    have hle := grownCap_le_maxLen w n 0 51 (by unfold maxLen; omega)
    have hown := World.ownsRow_made (base := w.heap.size) (e := 51) (size := 3) w.drew (Builtin.zeroCells (Value.agg #[.int .i64 0, .int .i64 0, .int .i64 0] : Value).cells n ++ Builtin.zeroCells (Value.agg #[.int .i64 0, .int .i64 0, .int .i64 0] : Value).cells (grownCap w n 0 51 - n)) (grownCap w n 0 51) (Nat.le_refl _) hle (by
      rw [Array.size_append, size_zeroCells, size_zeroCells]
      have : (Value.agg #[.int .i64 0, .int .i64 0, .int .i64 0] : Value).cells.size = 3 := by rfl
      rw [this, ← Nat.add_mul, Nat.add_sub_cancel' hge])
    obtain ⟨c, hc⟩ : ∃ c, c = grownCap w n 0 51 := ⟨_, rfl⟩
    rw [← hc] at hr hge hown
    replace hr := hide hr
    replace hown := hide hown
    clear hc hle
    go_enter Tryd.func95, Tryd.ntmps95
    go_wp2_with (at_builtin; refine Lib.wpList_append_run _ rfl _ _ _ _ rfl _ _ rfl rfl _ _ hr.out ?_)
    go_ret
    exact ⟨_, rfl, hown.out, (below_drewN (Below.refl _ w) 1).alloc (by simp) _⟩

set_option maxRecDepth 100000 in
set_option maxHeartbeats 2000000 in
theorem concat_child (w : World) (v : Value) (L : List Src) (hv : Rd w v 1 L.length (L.map Src.v)) (hL : RdSrc w 3 L) (hm : L.length ≤ 1000) (hn : sumSrc L ≤ 1000000) :
    Calls Tryd.prog 76 #[v] w fun e w' => ∃ v', e = .returned v' ∧ w'.ownsRow w.heap.size 51 3 v' (sumSrc L) (catSrc L) ∧ Below w.heap.size w w' := by
  obtain ⟨i0, hi, hz0, hz1, hz2⟩ := info_parts Tryd.infoCchild
  obtain ⟨m, hmm⟩ : ∃ m, m = L.length := ⟨_, rfl⟩
  rw [← hmm] at hv hm
  obtain ⟨A, c, rfl, hcc⟩ : ∃ A c, v = .slice A m c ∧ m ≤ c := by
    obtain ⟨_, A, c, rfl, hc, _⟩ := hv
    exact ⟨A, c, rfl, hc⟩
  have cG := hide (grow_child w (sumSrc L) hn)
  replace hmm := hide hmm
  replace hv := hide hv
  replace hL := hide hL
  go_enter Tryd.func76, Tryd.ntmps76
  go_wp2
  go_loop [3, 11] (fun s i => ∃ k : Nat, k ≤ m ∧ i = .int .i64 k ∧ s = .int .i64 (sumSrc (L.take k) : Nat)) (fun _ i => m - (intOf i).toNat)
  case atStart => exact ⟨0, Nat.zero_le _, rfl, rfl⟩
  case round =>
    obtain ⟨k, hk, rfl, rfl⟩ := hrel
    by_cases hlt : k < m
    · have hkl : k < L.length := by rw [← hmm.out]; exact hlt
      obtain ⟨b, off, u, rfl, hb, hu, hc⟩ := hv.out.cell1 hlt
      obtain ⟨_, A2, c2, he, hc2, _⟩ := (hL.out.at hkl).1
      have hu2 : u = (L.getD k default).v := by
        rw [List.getElem?_map, List.getElem?_eq_getElem hkl] at hu
        simp at hu
        rw [← hu]; simp [List.getD, hkl]
      rw [hu2, he] at hc
      have hs := sumSrc_take hkl
      have hle := sumSrc_le L (k + 1)
      have h0 : ¬ ((sumSrc (L.take k) : Int) + ((L.getD k default).n : Int) < 0) := by omega
      have H1 : Hid ((sumSrc (L.take (k + 1)) : Nat) = sumSrc (L.take k) + (L.getD k default).n) := hide hs
      obtain ⟨q, hq⟩ : ∃ q, q = (L.getD k default).n := ⟨_, rfl⟩
      obtain ⟨t, ht⟩ : ∃ t, t = sumSrc (L.take k) := ⟨_, rfl⟩
      rw [← hq] at H1 hc h0
      rw [← ht] at H1 h0
      have hqt : t + q ≤ 1000000 := by rw [hq, ht]; omega
      rw [← ht]
      clear hs hle hu hu2 he hq ht
      go_wp2
      go_round
      case rel => exact ⟨k + 1, by omega, by go_num, by rw [H1.out]; go_num⟩
      case measure => simp [intOf]; omega
    · obtain rfl : k = m := by omega
      have ht : L.take k = L := by rw [hmm.out]; exact List.take_length
      rw [ht]
      clear hk hlt ht
      go_wp2_with fail
      refine cG.out.mono ?_
      rintro e w1 ⟨v1, rfl, ho1, hb1⟩
      clear cG
      obtain ⟨A1, c1, rfl, hc1⟩ := own_form ho1
      have hv1 := hide (hv.out.below hb1 (Nat.le_refl _))
      have hL1 : Hid (RdSrc w1 3 L) := hide fun x hx => ⟨(hL.out x hx).1.below hb1 (Nat.le_refl _), (hL.out x hx).2⟩
      replace ho1 := hide ho1
      replace hb1 := hide hb1
      go_wp2
      go_loopw [6, 27] (fun s i wr => ∃ j : Nat, j ≤ k ∧ i = .int .i64 j ∧ Hid (wr.ownsRow w.heap.size 51 3 s (sumSrc (L.take j)) (catSrc (L.take j))) ∧ Hid (Below w.heap.size w wr)) (fun _ i _ => k - (intOf i).toNat)
      case atStart => exact ⟨0, Nat.zero_le _, rfl, hide (by simpa [sumSrc, catSrc] using ho1.out), hb1⟩
      clear ho1 hb1 hv1 hL1
      case round =>
        obtain ⟨j, hj, rfl, ho, hb⟩ := hrel
        obtain ⟨wC, hC⟩ : ∃ wC, wC = wr := ⟨_, rfl⟩
        subst hC
        by_cases hlt : j < k
        · have hjl : j < L.length := by rw [← hmm.out]; exact hlt
          obtain ⟨b, off, u, rfl, hbb, hu, hc⟩ := (hv.out.below hb.out (Nat.le_refl _)).cell1 hlt
          have hRd := (hL.out.at hjl).1.below hb.out (Nat.le_refl _)
          have hOne := hide (hL.out.at hjl).2
          obtain ⟨_, A2, c2, he, hc2, _⟩ := (hL.out.at hjl).1
          have hu2 : u = (L.getD j default).v := by
            rw [List.getElem?_map, List.getElem?_eq_getElem hjl] at hu
            simp at hu
            rw [← hu]; simp [List.getD, hjl]
          rw [hu2, he] at hc
          rw [he] at hRd
          have H1 := hide (sumSrc_take hjl)
          have H2 := hide (catSrc_take hjl)
          have hle := sumSrc_le L (j + 1)
          have hle2 := sumSrc_take hjl
          have hsz := hb.out.size
          obtain ⟨A3, c3, rfl, hc3⟩ := own_form ho.out
          have hadd : sumSrc (L.take j) + (L.getD j default).n ≤ 1000000 := by omega
          obtain ⟨q, hq⟩ : ∃ q, q = (L.getD j default).n := ⟨_, rfl⟩
          obtain ⟨qs, hqs⟩ : ∃ q, q = (L.getD j default).cs := ⟨_, rfl⟩
          rw [← hq] at hRd hadd hc H1
          rw [← hqs] at hRd hOne H2
          have hRd' := hide hRd
          clear hu hu2 he hRd hle hle2 hq hqs
          go_wp2_with (at_builtin; refine wpList_append_rd rfl _ _ 35 rfl w.heap.size 51 i0 _ 3 24 Tryd.underlying35 hi hz0 hz1 hz2 rfl (by decide) _ _ _ rfl ho.out A2 _ c2 _ rfl hRd'.out hOne.out (by unfold maxLen; omega) (by omega) hsz ?_; intro v2 w2 o2 hg2)
          have hb2 : Hid (Below w.heap.size w w2) := hb.out.grown hg2 hsz (fun q hq => (ho.out.lt q hq).1)
          replace o2 := hide o2
          clear hg2
          go_roundw
          case rel => exact ⟨j + 1, by omega, by go_num, by rw [H1.out, H2.out]; exact o2, hb2⟩
          case measure => simp [intOf]; omega
        · obtain rfl : j = k := by omega
          have ht : L.take j = L := by rw [hmm.out]; exact List.take_length
          rw [ht] at ho
          obtain ⟨A3, c3, rfl, hc3⟩ := own_form ho.out
          clear ht
          go_wp2
          go_ret
          exact ⟨_, rfl, ho.out, hb.out⟩

theorem all_child (w : World) (v : Value) (L : List Src) (hv : Rd w v 1 L.length (L.map Src.v)) (hL : RdSrc w 3 L) (hm : L.length ≤ 1000) (hn : sumSrc L ≤ 1000000) :
    Calls Tryd.prog 59 #[v] w fun e w' => ∃ v', e = .returned v' ∧ w'.ownsRow w.heap.size 51 3 v' (sumSrc L) (catSrc L) ∧ Below w.heap.size w w' := by
  obtain ⟨A, c, rfl, hcc⟩ : ∃ A c, v = .slice A L.length c ∧ L.length ≤ c := by
    obtain ⟨_, A, c, rfl, hc, _⟩ := hv
    exact ⟨A, c, rfl, hc⟩
  have cC := hide (concat_child w _ L hv hL hm hn)
  clear hv hL
  go_enter Tryd.func59, Tryd.ntmps59
  go_wp2_with fail
  refine cC.out.mono ?_
  rintro e w1 ⟨v1, rfl, ho1, hb1⟩
  obtain ⟨A1, c1, rfl, hc1⟩ := own_form ho1
  replace ho1 := hide ho1
  go_wp2
  go_ret
  exact ⟨_, rfl, ho1.out, hb1⟩
end Go.Proofs.YthkjicnnepkghaaDoor
