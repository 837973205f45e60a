/-
  Contracts of tableauref16: Has, Put.
-/
import Derived.Test.YtfekldcpjoiipaaDoorOrder2
import Derived.Test.YtfekldcpjoiipaaDoorRef16
namespace Go.Proofs.YtfekldcpjoiipaaDoor
open Go.RowKit

theorem idxOf_none {xs : List Int} {d : Int} (h : d ∉ xs) : Lib.idxOf xs d = -1 := by
  rcases idx_cases xs d with ⟨h1, _⟩ | ⟨k, hk, _, h2, _⟩
  · exact h1
  · exfalso; apply h; rw [← h2]; simp [List.getD, hk]

theorem idxOf_at {xs : List Int} {d : Int} {k : Nat} (hk : k < xs.length) (he : xs.getD k 0 = d) (hf : ∀ j, j < k → xs.getD j 0 ≠ d) : Lib.idxOf xs d = (k : Int) := by
  rcases idx_cases xs d with ⟨_, h1⟩ | ⟨m, hm, h1, h2, h3⟩
  · exfalso; apply h1; rw [← he]; simp [List.getD, hk]
  · rcases Nat.lt_trichotomy k m with h | h | h
    · exact absurd he (h3 k h)
    · rw [h1, h]
    · exact absurd h2 (hf m h)

set_option maxRecDepth 100000 in
theorem place16_any (w : World) (v : Value) (xs : List Int) (d : Int) (hr : Rd w v 1 xs.length (xs.map (Value.int .i64))) (hlen : xs.length ≤ 1000000) :
    Calls Tryd.prog 48 #[v, .int .i64 d] w fun e w' => e = .returned (.int .i64 (Lib.idxOf xs d)) ∧ w = w' := by
  have hr0 := hr
  obtain ⟨_, A, c, rfl, hc, _⟩ := hr0
  obtain ⟨n, hn⟩ : ∃ n, n = xs.length := ⟨_, rfl⟩
  rw [← hn] at hr hlen hc ⊢
  have HN := hide hn
  clear hn
  go_enter Tryd.func48, Tryd.ntmps48
  go_wp2
  go_loopw [5] (fun i wr => ∃ k : Nat, k ≤ n ∧ i = .int .i64 k ∧ Hid (∀ j, j < k → xs.getD j 0 ≠ d) ∧ wr = w)
    (fun i _ => n - (intOf i).toNat)
  case atStart => exact ⟨0, Nat.zero_le _, rfl, hide (fun j hj => absurd hj (by omega)), rfl⟩
  case round =>
    obtain ⟨k, hk, rfl, E, rfl⟩ := hrel
    by_cases hlt : k < n
    · obtain ⟨b, off, rfl, hb, hcell⟩ := hr.open1 (by omega)
      have hcx := hcell k hlt
      have hat := fun h => idxOf_at (xs := xs) (d := d) (k := k) (by rw [← HN.out]; exact hlt) h E.out
      have hstep : ¬ xs.getD k 0 = d → ∀ j, j < k + 1 → xs.getD j 0 ≠ d := fun h j hj => by
        rcases Nat.lt_or_ge j k with h1 | h1
        · exact E.out j h1
        · obtain rfl : j = k := by omega
          exact h
      have Hat := hide hat
      have Hst := hide hstep
      clear hat hstep hcell hb hr E
      obtain ⟨x, hx⟩ : ∃ x, x = xs.getD k 0 := ⟨_, rfl⟩
      rw [← hx] at hcx Hat Hst
      clear hx
      by_cases hxd : x = d
      · have Hi := hide (Hat.out hxd)
        have hbb : (x == d) = true := by simpa using hxd
        clear Hat Hst hxd
        go_wp2
        go_ret
        exact ⟨by rw [Hi.out]; rfl, rfl⟩
      · have Hi := hide (Hst.out hxd)
        have hbb : (x == d) = false := by simpa using hxd
        clear Hat Hst hxd
        go_wp2
        go_roundw
        case rel => exact ⟨k + 1, by omega, by go_num, Hi.out, trivial⟩
        case measure => simp [intOf]; omega
    · obtain rfl : k = n := by omega
      have hno : Lib.idxOf xs d = -1 := idxOf_none fun hm => by
        obtain ⟨j, hj, he⟩ := List.mem_iff_getElem.1 hm
        exact E.out j (by rw [HN.out]; exact hj) (by simp [List.getD, hj, he])
      have Hno := hide hno
      clear hno
      go_wp2
      go_ret
      exact ⟨by rw [Hno.out]; rfl, rfl⟩

theorem idxOf_mem (xs : List Int) (d : Int) : (0 ≤ Lib.idxOf xs d) = (d ∈ xs) := by
  rcases idx_cases xs d with ⟨h1, h2⟩ | ⟨k, hk, h1, h2, _⟩
  · rw [h1]; simp [h2]
  · have : d ∈ xs := by rw [← h2]; simp [List.getD, hk]
    rw [h1]; simp [this]

theorem rHas_any (w : World) (v : Value) (xs : List Int) (d : Int) (hr : Rd w v 1 xs.length (xs.map (Value.int .i64))) (hlen : xs.length ≤ 1000000) :
    Calls Tryd.prog 16 #[v, .int .i64 d] w fun e w' => e = .returned (.bool (decide (d ∈ xs))) ∧ w = w' := by
  have H := place16_any w v xs d hr hlen
  have hm := idxOf_mem xs d
  obtain ⟨i, hi⟩ : ∃ i, i = Lib.idxOf xs d := ⟨_, rfl⟩
  rw [← hi] at H hm
  have H := hide H
  have Hm : Hid (decide (d ∈ xs) = decide (0 ≤ i)) := hide (by simp only [hm])
  obtain ⟨_, A, c, rfl, hc, _⟩ := hr
  clear hi hm
  go_enter Tryd.func16, Tryd.ntmps16
  go_wp2_with fail
  refine H.out.mono ?_
  rintro e w1 ⟨rfl, rfl⟩
  by_cases h0 : 0 ≤ i
  · have Hd : Hid (decide (0 ≤ i) = true) := decide_eq_true h0
    go_wp2
    go_ret
    exact ⟨by rw [Hm.out, Hd.out]; rfl, rfl⟩
  · have Hd : Hid (decide (0 ≤ i) = false) := decide_eq_false h0
    go_wp2
    go_ret
    exact ⟨by rw [Hm.out, Hd.out]; rfl, rfl⟩

set_option maxRecDepth 100000 in
theorem rPut_bad (w : World) (v : Value) (xs : List Int) (id by' k : Int) (hr : Rd w v 1 xs.length (xs.map (Value.int .i64))) (hlen : xs.length ≤ 1000000) (hb : id ∉ xs ∨ by' ∉ xs ∨ id = by') :
    Calls Tryd.prog 13 #[v, .int .i64 id, .int .i64 by', .int .i64 k] w fun e w' => e = .returned (.tuple #[.slice none 0 0, .int .i64 11]) ∧ w = w' := by
  have H1 := rHas_any w v xs id hr hlen
  have H2 := rHas_any w v xs by' hr hlen
  obtain ⟨_, A, c, rfl, hc, _⟩ := hr
  by_cases h3 : id = by'
  · have hbb : (id == by') = true := by simpa using h3
    clear H1 H2 hb h3
    go_enter Tryd.func13, Tryd.ntmps13
    go_wp2
    go_ret2
    exact ⟨rfl, rfl⟩
  · have hbb : (id == by') = false := by simpa using h3
    by_cases h1 : id ∈ xs
    · have h2 : by' ∉ xs := by rcases hb with h | h | h; exact absurd h1 h; exact h; exact absurd h h3
      rw [decide_eq_true h1] at H1
      rw [decide_eq_false h2] at H2
      have H1 := hide H1
      have H2 := hide H2
      clear hb h1 h2 h3
      go_enter Tryd.func13, Tryd.ntmps13
      go_wp2_with fail
      refine H1.out.mono ?_
      rintro e w1 ⟨rfl, rfl⟩
      go_wp2_with fail
      refine H2.out.mono ?_
      rintro e w1 ⟨rfl, rfl⟩
      go_wp2
      go_ret2
      exact ⟨rfl, rfl⟩
    · rw [decide_eq_false h1] at H1
      have H1 := hide H1
      clear hb h1 h3 H2
      go_enter Tryd.func13, Tryd.ntmps13
      go_wp2_with fail
      refine H1.out.mono ?_
      rintro e w1 ⟨rfl, rfl⟩
      go_wp2
      go_ret2
      exact ⟨rfl, rfl⟩

theorem Rd.take {w : World} {A : Option Addr} {n c sz : Nat} {cs : List Value} (h : Rd w (.slice A n c) sz n cs) (m : Nat) (hm : m ≤ n) : Rd w (.slice A m c) sz m (cs.take (m * sz)) := by
  obtain ⟨h1, A', c', hv, hc, h2⟩ := h
  simp only [Value.slice.injEq] at hv
  obtain ⟨rfl, _, rfl⟩ := hv
  have h3 : m * sz ≤ n * sz := Nat.mul_le_mul_right _ hm
  refine ⟨by simp; omega, A, c, rfl, by omega, fun h0 => ?_⟩
  obtain ⟨b, off, rfl, hb, hcell⟩ := h2 (by omega)
  refine ⟨b, off, rfl, hb, fun j u hj => hcell j u ?_⟩
  rw [List.getElem?_take] at hj
  split at hj
  · exact hj
  · cases hj

theorem Rd.drop {w : World} {b off : Nat} {n c sz : Nat} {cs : List Value} (h : Rd w (.slice (some ⟨b, off, none⟩) n c) sz n cs) (m : Nat) (hm : m ≤ n) : Rd w (.slice (some ⟨b, off + m * sz, none⟩) (n - m) (c - m)) sz (n - m) (cs.drop (m * sz)) := by
  obtain ⟨h1, A', c', hv, hc, h2⟩ := h
  simp only [Value.slice.injEq] at hv
  obtain ⟨rfl, _, rfl⟩ := hv
  refine ⟨by simp [h1, Nat.sub_mul], _, c - m, rfl, by omega, fun h0 => ?_⟩
  obtain ⟨b', off', hh, hb, hcell⟩ := h2 (by omega)
  simp only [Option.some.injEq, Addr.mk.injEq, and_true] at hh
  obtain ⟨rfl, rfl⟩ := hh
  refine ⟨b, off + m * sz, rfl, hb, fun j u hj => ?_⟩
  rw [Nat.add_assoc]
  exact hcell _ u (by rwa [List.getElem?_drop] at hj)

set_option maxRecDepth 100000 in
theorem rPut_ok (w : World) (v : Value) (xs : List Int) (id by' : Int) (k : Nat) (hr : Rd w v 1 xs.length (xs.map (Value.int .i64))) (hlen : xs.length ≤ 1000000) (h1 : id ∈ xs) (h2 : by' ∈ xs) (h3 : id ≠ by') (hk : k ≤ 1) :
    Calls Tryd.prog 13 #[v, .int .i64 id, .int .i64 by', .int .i64 k] w fun e w' => ∃ v', e = .returned (.tuple #[v', .int .i64 0]) ∧ w'.ownsRow w.heap.size 3 1 v' (putL xs id by' k).length ((putL xs id by' k).map (Value.int .i64)) ∧ Below w.heap.size w w' := by
  obtain ⟨i0, hi0, hz0, hz1, hz2⟩ := info_parts Tryd.infoInt
  have H1 := rHas_any w v xs id hr hlen
  have H2 := rHas_any w v xs by' hr hlen
  have H3 := rdrop_any w v xs id hr hlen
  have hm : by' ∈ without xs id := mem_without.2 ⟨h2, fun e => h3 e.symm⟩
  obtain ⟨i1, i2⟩ := idx_mem hm
  have hlt := without_lt h1
  have hP := putL_eq xs id by' k
  have hr0 := hr
  obtain ⟨_, A, c, rfl, hc, _⟩ := hr0
  rw [decide_eq_true h1] at H1
  rw [decide_eq_true h2] at H2
  obtain ⟨R, hR⟩ : ∃ R, R = putL xs id by' k := ⟨_, rfl⟩
  rw [← hR] at hP ⊢
  obtain ⟨n, hn⟩ : ∃ n, n = xs.length := ⟨_, rfl⟩
  rw [← hn] at H1 hc hlt hlen ⊢
  simp only [← hn] at H2 H3
  clear hR hn hr
  obtain ⟨ys, hys⟩ : ∃ ys, ys = without xs id := ⟨_, rfl⟩
  simp only [← hys] at H3 hm i1 i2 hlt hP
  clear hys h1 h2
  obtain ⟨i, hi⟩ : ∃ i : Nat, Lib.idxOf ys by' = (i : Int) := ⟨_, (Int.toNat_of_nonneg i1).symm⟩
  rw [hi] at hP i2
  have i2 : i < ys.length := by simpa using i2
  have hb3 : (id == by') = false := by simpa using h3
  clear i1 hm
  simp only [Int.toNat_natCast] at hP
  have hRl : R.length = ys.length + 1 := by rw [hP]; simp; omega
  have H1 := hide H1
  have H2 := hide H2
  have H3 := hide H3
  have Hi := hide hi
  have HP := hide hP
  clear hi hP
  go_enter Tryd.func13, Tryd.ntmps13
  go_wp2_with fail
  refine H1.out.mono ?_
  rintro e w1 ⟨rfl, rfl⟩
  go_wp2_with fail
  refine H2.out.mono ?_
  rintro e w1 ⟨rfl, rfl⟩
  go_wp2_with fail
  refine H3.out.mono ?_
  rintro e w1 ⟨v1, rfl, hown, hB⟩
  have hr1 := Rd.of_own hown
  have HI := place16_any w1 _ ys by' hr1 (by omega)
  rw [Hi.out] at HI
  have HI := hide HI
  obtain ⟨A1, c1, rfl, hc1⟩ := own_form hown
  clear hown
  go_wp2_with fail
  refine HI.out.mono ?_
  rintro e w2 ⟨rfl, rfl⟩
  clear H1 H2 H3 HI Hi
  have hml : i + k ≤ ys.length := by omega
  obtain ⟨b, off, rfl, _, _⟩ := hr1.open1 (by omega)
  have hr3 := hr1.take (i + k) hml
  have hr4 := hr1.drop (i + k) hml
  rw [Nat.mul_one] at hr3 hr4
  have hone : ∀ u ∈ (ys.map (Value.int .i64)).take (i + k), u.oneCell' = true := by
    intro u hu
    obtain ⟨x, _, rfl⟩ := List.mem_map.1 (List.mem_of_mem_take hu)
    rfl
  have hone2 : ∀ u ∈ (ys.map (Value.int .i64)).drop (i + k), u.oneCell' = true := by
    intro u hu
    obtain ⟨x, _, rfl⟩ := List.mem_map.1 (List.mem_of_mem_drop hu)
    rfl
  have Hone := hide hone
  have Hone2 := hide hone2
  have Hr3 := hide hr3
  have hend : Hid (((ys.map (Value.int .i64)).take (i + k) ++ [Value.int .i64 id] ++ (ys.map (Value.int .i64)).drop (i + k)) = R.map (Value.int .i64)) := hide (by rw [HP.out]; simp)
  have hlen2 : i + k + 1 + (ys.length - (i + k)) = R.length := by omega
  have hr5 : c1 = i + k → Rd w1 (.slice (some ⟨b, off, none⟩) (ys.length - (i + k)) (i + k - (i + k))) 1 (ys.length - (i + k)) ((ys.map (Value.int .i64)).drop (i + k)) := fun e => by
    rw [show ys.length - (i + k) = 0 by omega]
    exact ⟨by simp; omega, _, _, rfl, Nat.zero_le _, fun h => absurd h (by omega)⟩
  clear hone hone2 hr3 hr1
  rcases (show c1 = i + k ∨ ¬ c1 = i + k by omega) with hcc | hcc
  · have Hr4 := hide (hr5 hcc)
    clear hr5 hr4
    subst hcc
    go_wp2_with (at_builtin; first | (refine wpList_append_rd rfl _ _ 22 rfl w1.heap.size 3 i0 (.int .i64 0) 1 8 Tryd.underlying22 hi0 hz0 hz1 hz2 rfl (by decide) _ 0 [] rfl (World.ownsRow_nil _ _ _ _) (some ⟨b, off, none⟩) (i + k) _ _ rfl Hr3.out Hone.out (by unfold maxLen; omega) (by omega) (Nat.le_refl _) ?_; intro v2 w2 hown2 hg2; rw [Nat.zero_add, List.nil_append] at hown2; have hB2 : Below w1.heap.size w1 w2 := (Below.refl _ _).grown hg2 (Nat.le_refl _) (fun k e => by cases e); obtain ⟨A2, c2, rfl, hc2⟩ := own_form hown2) | (refine wpList_append_own _ rfl _ _ 22 rfl w1.heap.size 3 i0 (.int .i64 0) 1 8 Tryd.underlying22 hi0 hz0 hz1 hz2 rfl (by decide) _ _ _ rfl (hown2.alloc _) ⟨w2.heap.size, 0, none⟩ 1 1 [.int .i64 id] rfl rfl (cell_one_new _ _ _) (by intro u hu; simp at hu; subst hu; rfl) (by unfold maxLen; omega) (by omega) (by have := hB2.size; simp; omega) ?_; intro v3 w3 hown3 hg3 _; have hB3 : Below w1.heap.size w1 w3 := (hB2.alloc hB2.size _).grown hg3 (by have := hB2.size; simp; omega) (fun k hk => (hown2.lt k hk).1); obtain ⟨A3, c3, rfl, hc3⟩ := own_form hown3) | (refine wpList_append_rd rfl _ _ 22 rfl w1.heap.size 3 i0 (.int .i64 0) 1 8 Tryd.underlying22 hi0 hz0 hz1 hz2 rfl (by decide) _ _ _ rfl hown3 _ _ _ _ rfl (Hr4.out.below hB3 (Nat.le_refl _)) Hone2.out (by unfold maxLen; omega) (by omega) hB3.size ?_; intro v4 w4 hown4 hg4; have hB4 : Below w1.heap.size w1 w4 := hB3.grown hg4 hB3.size (fun k hk => (hown3.lt k hk).1); obtain ⟨A4, c4, rfl, hc4⟩ := own_form hown4))
    have hL : R.length = i + k + 1 := by omega
    rw [hlen2, hend.out, hL] at hown4
    go_ret2
    exact ⟨_, rfl, by rw [hL]; exact own_le hown4 hB.size, hB.trans (hB4.mono hB.size)⟩
  · have Hr4 := hide hr4
    clear hr5 hr4
    go_wp2_with (at_builtin; first | (refine wpList_append_rd rfl _ _ 22 rfl w1.heap.size 3 i0 (.int .i64 0) 1 8 Tryd.underlying22 hi0 hz0 hz1 hz2 rfl (by decide) _ 0 [] rfl (World.ownsRow_nil _ _ _ _) (some ⟨b, off, none⟩) (i + k) _ _ rfl Hr3.out Hone.out (by unfold maxLen; omega) (by omega) (Nat.le_refl _) ?_; intro v2 w2 hown2 hg2; rw [Nat.zero_add, List.nil_append] at hown2; have hB2 : Below w1.heap.size w1 w2 := (Below.refl _ _).grown hg2 (Nat.le_refl _) (fun k e => by cases e); obtain ⟨A2, c2, rfl, hc2⟩ := own_form hown2) | (refine wpList_append_own _ rfl _ _ 22 rfl w1.heap.size 3 i0 (.int .i64 0) 1 8 Tryd.underlying22 hi0 hz0 hz1 hz2 rfl (by decide) _ _ _ rfl (hown2.alloc _) ⟨w2.heap.size, 0, none⟩ 1 1 [.int .i64 id] rfl rfl (cell_one_new _ _ _) (by intro u hu; simp at hu; subst hu; rfl) (by unfold maxLen; omega) (by omega) (by have := hB2.size; simp; omega) ?_; intro v3 w3 hown3 hg3 _; have hB3 : Below w1.heap.size w1 w3 := (hB2.alloc hB2.size _).grown hg3 (by have := hB2.size; simp; omega) (fun k hk => (hown2.lt k hk).1); obtain ⟨A3, c3, rfl, hc3⟩ := own_form hown3) | (refine wpList_append_rd rfl _ _ 22 rfl w1.heap.size 3 i0 (.int .i64 0) 1 8 Tryd.underlying22 hi0 hz0 hz1 hz2 rfl (by decide) _ _ _ rfl hown3 _ _ _ _ rfl (Hr4.out.below hB3 (Nat.le_refl _)) Hone2.out (by unfold maxLen; omega) (by omega) hB3.size ?_; intro v4 w4 hown4 hg4; have hB4 : Below w1.heap.size w1 w4 := hB3.grown hg4 hB3.size (fun k hk => (hown3.lt k hk).1); obtain ⟨A4, c4, rfl, hc4⟩ := own_form hown4))
    have hL : R.length = ys.length + 1 := by omega
    rw [hlen2, hend.out, hL] at hown4
    go_ret2
    exact ⟨_, rfl, by rw [hL]; exact own_le hown4 hB.size, hB.trans (hB4.mono hB.size)⟩
end Go.Proofs.YtfekldcpjoiipaaDoor
