/-
  Contracts of package order and of small helpers.
-/
import Derived.Test.YthkjicnnepkghaaDoorProg
import Derived.Test.YthkjicnnepkghaaDoorBase
namespace Go.Proofs.YthkjicnnepkghaaDoor
open Go.RowKit

theorem Tryd.infoInt : (Tryd.prog.info? 3).map (fun i => (i.zero, i.size, i.bytes)) = some (some (.int .i64 0), 1, 8) := by kernel_rfl

def without (xs : List Int) (id : Int) : List Int := xs.filter (· != id)
theorem without_le (xs : List Int) (id : Int) : (without xs id).length ≤ xs.length := List.length_filter_le _ _
theorem without_take (xs : List Int) (id : Int) (k : Nat) : (without (xs.take k) id).length ≤ k := Nat.le_trans (without_le _ _) (List.length_take_le _ _)
theorem without_hit (xs : List Int) (id : Int) (k : Nat) (hk : k < xs.length) (h : xs.getD k 0 ≠ id) : without (xs.take (k + 1)) id = without (xs.take k) id ++ [xs.getD k 0] := by
  have e : xs.getD k 0 = xs[k] := by simp [List.getD, hk]
  rw [e] at h ⊢
  unfold without
  rw [List.take_succ_eq_append_getElem hk, List.filter_append]
  simp [h]
theorem without_miss (xs : List Int) (id : Int) (k : Nat) (hk : k < xs.length) (h : xs.getD k 0 = id) : without (xs.take (k + 1)) id = without (xs.take k) id := by
  have e : xs.getD k 0 = xs[k] := by simp [List.getD, hk]
  rw [e] at h
  unfold without
  rw [List.take_succ_eq_append_getElem hk, List.filter_append]
  simp [h]

/-- The row behind k elements: what was kept, then what was there. -/
structure Part (w : World) (g len : Nat) (ys : List Int) : Prop where
  ex : ∃ cur : List Value, cur.length = len ∧ w.heap[g]? = some (.cells cur.toArray 3 (0, 0)) ∧ cur.take ys.length = ys.map (Value.int .i64)

theorem Part.step {w : World} {g len : Nat} {ys : List Int} {x : Int} {cur : List Value} (h1 : cur.length = len) (h3 : cur.take ys.length = ys.map (Value.int .i64)) (hl : ys.length < len)
    (hw : w.heap[g]? = some (.cells (splice cur ys.length [.int .i64 x]).toArray 3 (0, 0))) : Part w g len (ys ++ [x]) := by
  refine ⟨_, ?_, hw, ?_⟩
  · rw [length_splice]; exact h1; simp; omega
  · simp only [splice, List.length_append, List.length_cons, List.length_nil, List.map_append, List.map_cons, List.map_nil, h3]
    rw [List.take_append]
    simp [List.take_of_length_le]

theorem Part.own {w : World} {g len base : Nat} {ys : List Int} (h : Part w g len ys) (hb : base ≤ g) (hl : ys.length ≤ len) (hm : len ≤ maxLen) :
    w.ownsRow base 3 1 (.slice (some ⟨g, 0, none⟩) ys.length len) ys.length (ys.map (Value.int .i64)) := by
  obtain ⟨cur, h1, h2, h3⟩ := h.ex
  exact ⟨by simp, .inr ⟨g, len, cur.toArray, rfl, hb, h2, hl, hm, by simp [h1], by simpa using h3⟩⟩

set_option maxRecDepth 100000 in
/-- order.Drop: a new row, of the old one's room. -/
theorem drop_at (w : World) (v : Value) (xs : List Int) (id : Int) (hr : Rd w v 1 xs.length (xs.map (Value.int .i64))) (hlen : xs.length ≤ 1000000) :
   Calls Tryd.prog 58 #[v, .int .i64 id] w fun e w' => e = .returned (.slice (some ⟨w.heap.size, 0, none⟩) (without xs id).length xs.length) ∧ Part w' w.heap.size xs.length (without xs id) ∧ Below w.heap.size w w' := by
  obtain ⟨i0, hi, hz0, hz1, hz2⟩ := info_parts Tryd.infoInt
  have hr0 := hr
  obtain ⟨_, A, c, rfl, hc, _⟩ := hr0
  obtain ⟨n, hn⟩ : ∃ n, n = xs.length := ⟨_, rfl⟩
  rw [← hn] at hr hlen hc ⊢
  have HN := hide hn
  clear hn
  go_enter Tryd.func58, Tryd.ntmps58
  go_wp2_with (at_make; refine wpList_make_full _ rfl (.tmp 10) (.tmp 10) 29 rfl w.heap.size 3 i0 (.int .i64 0) 1 Tryd.underlying29 hi hz0 hz1 .i64 .i64 n n n rfl rfl rfl rfl (by rw [hz2]; omega) (by unfold maxLen; omega) (Nat.le_refl _) ?_; intro w1 hown1 hgrow1)
  have hB1 : Below w.heap.size w w1 := (Below.refl _ _).grown hgrow1 (Nat.le_refl _) (fun k e => by cases e)
  have P0 : Part w1 w.heap.size n [] := by
    rcases hown1.2 with ⟨h, _⟩ | ⟨g, cap, cur, h, _, hg, _, _, hs, _⟩
    · simp at h
    · simp only [Value.slice.injEq, Option.some.injEq, Addr.mk.injEq, and_true, true_and] at h
      obtain ⟨rfl, rfl⟩ := h
      exact ⟨cur.toList, by simpa using hs, by simpa using hg, by simp⟩
  clear hown1 hgrow1
  go_loopw [6, 14] (fun m i wr => ∃ k : Nat, k ≤ n ∧ i = .int .i64 k ∧ m = .int .i64 (without (xs.take k) id).length ∧ Part wr w.heap.size n (without (xs.take k) id) ∧ Below w.heap.size w wr)
    (fun _ i _ => n - (intOf i).toNat)
  case atStart => exact ⟨0, Nat.zero_le _, rfl, rfl, P0, hB1⟩
  case round =>
    obtain ⟨k, hk, rfl, rfl, P, hB⟩ := hrel
    have hml := without_take xs id k
    by_cases hlt : k < n
    · obtain ⟨b, off, rfl, hb, hcell⟩ := hr.open1 (by omega)
      have hcx : wr.cell? ⟨b, off + k, none⟩ = some (.int .i64 (xs.getD k 0)) := (hB.cell (p := ⟨b, off + k, none⟩) hb).trans (hcell k hlt)
      clear hcell
      have hit := fun h => without_hit xs id k (by rw [← HN.out]; exact hlt) h
      have miss := fun h => without_miss xs id k (by rw [← HN.out]; exact hlt) h
      have Hit := hide hit
      have Miss := hide miss
      clear hit miss
      obtain ⟨x, hx⟩ : ∃ x, x = xs.getD k 0 := ⟨_, rfl⟩
      rw [← hx] at hcx Hit Miss
      obtain ⟨m, hm⟩ : ∃ m, m = (without (xs.take k) id).length := ⟨_, rfl⟩
      rw [← hm] at hml
      simp only [← hm]
      have Hm := hide hm
      clear hm hx
      obtain ⟨cur, h1, h2, h3⟩ := P.ex
      clear P
      by_cases hxd : x = id
      · go_wp2
        go_roundw
        case rel =>
          refine ⟨k + 1, by omega, by go_num, ?_, ?_, hB⟩
          · rw [Miss.out hxd, ← Hm.out]
          · rw [Miss.out hxd]; exact ⟨cur, h1, h2, h3⟩
        case measure => simp [intOf]; omega
      · have hnew := fun (W : World) => cell_one_new W (.int .i64 x) 3
        have Hnew := hide hnew
        clear hnew
        have hsz : (Tryd.prog.info? 3).map (·.size) = some 1 := by simp [hi, hz1]
        have Hsz := hide hsz
        clear hsz
        have hgs : w.heap.size < wr.heap.size := lt_of_block h2
        go_wp2_with (refine wpList_copy_splice rfl (.tmp 24) (.tmp 26) 29 29 rfl 3 Tryd.underlying29 Hsz.out _ _ _ _ _ _ rfl rfl w.heap.size m cur 3 ?c1 [.int .i64 x] ?c2 ?c3 ?c4 ?c5 w.heap.size w ?c6 (Nat.le_refl _) ?_)
        case c1 => exact (Below.heap_alloc _ _ _ hgs).trans h2
        case c2 => exact (Nat.min_eq_left (show 1 ≤ n - m by omega)).symm
        case c4 => simp; omega
        case c5 => intro u hu; simp at hu; subst hu; rfl
        case c6 => exact hB.alloc (by omega) _
        intro w2 HG hB2
        have hP := Part.step (g := w.heap.size) h1 h3 (by rw [← Hm.out]; omega) (by rw [← Hm.out]; exact HG.out)
        have HP := hide hP
        clear hP HG h2 h3 hB hcx
        go_wp2
        go_roundw
        case rel =>
          refine ⟨k + 1, by omega, by go_num, ?_, ?_, hB2⟩
          · rw [Hit.out hxd, List.length_append, ← Hm.out]; go_num
          · rw [Hit.out hxd]; exact HP.out
        case measure => simp [intOf]; omega
    · have hkn : k = n := by omega
      subst hkn
      have Htk : Hid (xs.take k = xs) := by rw [HN.out]; exact List.take_length
      go_wp2
      go_ret
      simp only [Htk.out] at P ⊢
      exact ⟨rfl, P, hB⟩

theorem drop_any (w : World) (v : Value) (xs : List Int) (id : Int) (hr : Rd w v 1 xs.length (xs.map (Value.int .i64))) (hlen : xs.length ≤ 1000000) :
   Calls Tryd.prog 58 #[v, .int .i64 id] w fun e w' => ∃ v', e = .returned v' ∧ w'.ownsRow w.heap.size 3 1 v' (without xs id).length ((without xs id).map (Value.int .i64)) ∧ Below w.heap.size w w' :=
  (drop_at w v xs id hr hlen).mono fun _ _ ⟨he, P, hB⟩ => ⟨_, he, P.own (Nat.le_refl _) (without_le _ _) (by unfold maxLen; omega), hB⟩

/-- order.Top -/
theorem top_any (w : World) (v : Value) (xs : List Int) (d : Int) (hr : Rd w v 1 xs.length (xs.map (Value.int .i64))) (hlen : xs.length ≤ 1000000) :
   Calls Tryd.prog 31 #[v, .int .i64 d] w fun e w' => ∃ v', e = .returned v' ∧ w'.ownsRow w.heap.size 3 1 v' ((without xs d).length + 1) ((without xs d ++ [d]).map (Value.int .i64)) ∧ Below w.heap.size w w' := by
  obtain ⟨i0, hi, hz0, hz1, hz2⟩ := info_parts Tryd.infoInt
  go_enter Tryd.func31, Tryd.ntmps31
  go_wp2_with fail
  refine (drop_any _ v xs d hr hlen).mono ?_
  rintro e w1 ⟨v1, rfl, hown, hB⟩
  have hle := without_le xs d
  obtain ⟨A1, c1, rfl, hc1⟩ := own_form hown
  go_wp2_with (at_builtin; refine wpList_append_own _ rfl _ _ 29 rfl w.heap.size 3 i0 (.int .i64 0) 1 8 Tryd.underlying29 hi hz0 hz1 hz2 rfl (by decide) _ _ _ rfl (hown.alloc _) ⟨w1.heap.size, 0, none⟩ 1 1 [.int .i64 d] rfl rfl (cell_one_new _ _ _) ?c2 (by unfold maxLen; omega) (by omega) (by have := hB.size; simp; omega) ?_)
  case c2 => intro u hu; simp at hu; subst hu; rfl
  intro v' w2 hown' hgrow _
  obtain ⟨A2, c2, rfl, hc2⟩ := own_form hown'
  have hB2 : Below w.heap.size w w2 := (hB.alloc hB.size _).grown hgrow (by have := hB.size; simp; omega) (fun k hk => (hown.lt k hk).1)
  go_wp2
  go_ret
  exact ⟨_, rfl, by simpa using hown', hB2⟩
end Go.Proofs.YthkjicnnepkghaaDoor
