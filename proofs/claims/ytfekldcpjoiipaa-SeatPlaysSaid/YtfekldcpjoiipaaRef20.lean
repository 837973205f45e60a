/-
  Layer 20's own answer: where a point is (rectangles, regions, At).
-/
import Derived.Test.YtfekldcpjoiipaaFew2
namespace Go.Proofs.Ytfekldcpjoiipaa
open Go.RowKit Go.Shelf
set_option linter.unusedVariables false

set_option maxRecDepth 100000 in
theorem rE_any (w : World) (x y u v : Int) :
    Calls Try.prog 41 #[.agg #[.int .i64 x, .int .i64 y, .int .i64 u, .int .i64 v]] w fun e w' => e = .returned (.bool (decide (u < 1) || decide (v < 1))) ∧ Below w.heap.size w w' := by
  have hb : ∀ o, Below w.heap.size w (w.alloc o) := fun o => (Below.refl _ _).alloc (Nat.le_refl _) o
  by_cases h1 : u < 1
  · by_cases h2 : v < 1
    all_goals
      go_enter Try.func41, Try.ntmps41
      go_wp2
      go_ret
      exact ⟨by simp [h1, h2], hb _⟩
  · by_cases h2 : v < 1
    all_goals
      go_enter Try.func41, Try.ntmps41
      go_wp2
      go_ret
      exact ⟨by simp [h1, h2], hb _⟩

set_option maxRecDepth 100000 in
theorem rWi_any (w : World) (n a s : Int) (ha : I64 a) (hs : I64 s) (hn : I64 n) (h1 : 1 ≤ s) :
    Calls Try.prog 42 #[.int .i64 n, .int .i64 a, .int .i64 s] w fun e w' => e = .returned (.bool (hasN a s n)) ∧ w = w' := by
  unfold I64 at ha hs hn
  have h0 : 0 < s := by omega
  by_cases h2 : a ≤ n
  · go_enter Try.func42, Try.ntmps42
    go_wp2
    go_ret
    exact ⟨by rw [u64_sub h2 (by omega)]; simp [hasN, h2], rfl⟩
  · go_enter Try.func42, Try.ntmps42
    go_wp2
    go_ret
    exact ⟨by have : ¬ a ≤ n := by omega
              simp [hasN, this], rfl⟩

/-- A rectangle's has, both ways. -/
theorem rH_any (w : World) (r : Rect) (x y : Int) (hr : r.good) (hx : I64 x) (hy : I64 y) :
    Calls Try.prog 32 #[r.val, .int .i64 x, .int .i64 y] w fun e w' => e = .returned (.bool (hasR r x y)) ∧ Below w.heap.size w w' := by
  obtain ⟨a, b, u, v⟩ := r
  obtain ⟨h1, h2, h3, h4⟩ := hr
  dsimp only at h1 h2 h3 h4
  unfold Rect.val hasR emptyR
  dsimp only
  have hb : Below w.heap.size w (w.alloc (.cells #[.int .i64 a, .int .i64 b, .int .i64 u, .int .i64 v] 26)) := (Below.refl _ _).alloc (Nat.le_refl _) _
  have HB := hide hb
  have cE := hide (rE_any (w.alloc (.cells #[.int .i64 a, .int .i64 b, .int .i64 u, .int .i64 v] 26)) a b u v)
  obtain ⟨q, hq⟩ : ∃ q, q = (decide (u < 1) || decide (v < 1)) := ⟨_, rfl⟩
  rw [← hq] at cE ⊢
  have hqt : q = true ∨ (q = false ∧ 1 ≤ u ∧ 1 ≤ v) := by
    rw [hq]
    by_cases g1 : u < 1 <;> by_cases g2 : v < 1 <;> simp [g1, g2] <;> omega
  clear hq hb
  rcases hqt with rfl | ⟨rfl, hu, hv⟩
  · replace cE := hide cE
    go_enter Try.func32, Try.ntmps32
    go_wp2_with (go_at_call 41; refine cE.out.mono ?_; rintro e w2 ⟨rfl, hb2⟩)
    go_ret
    exact ⟨by simp, HB.out.trans (hb2.mono (by simp))⟩
  · have c1 := fun w => rWi_any w x a u h1 h3 hx hu
    have c2 := fun w => rWi_any w y b v h2 h4 hy hv
    obtain ⟨q1, hq1⟩ : ∃ q, q = hasN a u x := ⟨_, rfl⟩
    obtain ⟨q2, hq2⟩ : ∃ q, q = hasN b v y := ⟨_, rfl⟩
    rw [← hq1] at c1 ⊢
    rw [← hq2] at c2 ⊢
    clear hq1 hq2
    replace c1 := hide c1
    replace c2 := hide c2
    cases q1 <;> cases q2
    all_goals
      go_enter Try.func32, Try.ntmps32
      go_wp2_with (first | (go_at_call 41; refine cE.out.mono ?_; rintro e w2 ⟨rfl, hb2⟩; obtain ⟨hcw, hfw⟩ := bcell hb2) | (go_at_call 42; first | ((with_reducible refine (c1.out _).mono ?_); rintro e w3 ⟨rfl, rfl⟩) | ((with_reducible refine (c2.out _).mono ?_); rintro e w3 ⟨rfl, rfl⟩)))
      go_ret
      exact ⟨by simp, HB.out.trans (hb2.mono (by simp))⟩

set_option maxRecDepth 100000 in
theorem r8H_any (w : World) (v : Value) (L : List Rect) (x y : Int) (hL : RdR w v L) (hr : ∀ r ∈ L, r.good) (hx : I64 x) (hy : I64 y) (hl : L.length ≤ 1000000) :
    Calls Try.prog 33 #[v, .int .i64 x, .int .i64 y] w fun e w' => e = .returned (.bool (anyR L x y)) ∧ Below w.heap.size w w' := by
  obtain ⟨A, c, rfl, hcc⟩ := hL.form
  obtain ⟨n, hn⟩ : ∃ n, n = L.length := ⟨_, rfl⟩
  unfold RdR at hL
  rw [← hn] at hL hcc hl ⊢
  have hc := hide (fun h0 => RdR.cells hL hn h0)
  have hr' : Hid (∀ k, k < n → (L.getD k default).good) := hide fun k hk => hr _ (getD_mem (by omega))
  replace hn := hide hn
  clear hL hr
  go_enter Try.func33, Try.ntmps33
  go_wp2
  go_loopw [7] (fun i wr => ∃ k : Nat, k ≤ n ∧ i = .int .i64 k ∧ Hid (∀ j, j < k → hasR (L.getD j default) x y = false) ∧ Below w.heap.size w wr)
    (fun i _ => n - (intOf i).toNat)
  case atStart => exact ⟨0, Nat.zero_le _, rfl, hide (fun j hj => absurd hj (by omega)), Below.refl _ _⟩
  case round =>
    obtain ⟨k, hk, rfl, hT, hB⟩ := hrel
    by_cases hlt : k < n
    · obtain ⟨b, off, rfl, hbl, hcell⟩ := hc.out (by omega)
      obtain ⟨k0, k1, k2, k3⟩ := hcell k hlt
      have e0 := (hB.cell (p := ⟨b, off + k * 4, none⟩) hbl).trans k0
      have e1 := (hB.cell (p := ⟨b, off + k * 4 + 1, none⟩) hbl).trans k1
      have e2 := (hB.cell (p := ⟨b, off + k * 4 + 2, none⟩) hbl).trans k2
      have e3 := (hB.cell (p := ⟨b, off + k * 4 + 3, none⟩) hbl).trans k3
      have cC := rH_any wr (L.getD k default) x y (hr'.out k hlt) hx hy
      have hT2 : ∀ j, j < k + 1 → hasR (L.getD k default) x y = false → hasR (L.getD j default) x y = false := fun j hj h0 => by
        rcases (show j = k ∨ j < k by omega) with rfl | h
        · exact h0
        · exact hT.out j h
      have hT3 := hide (fun (h0 : hasR (L.getD k default) x y = true) => anyR_true (x := x) (y := y) (L := L) (k := k) (by rw [← hn.out]; exact hlt) h0)
      obtain ⟨q, hq⟩ : ∃ q, q = hasR (L.getD k default) x y := ⟨_, rfl⟩
      rw [← hq] at cC hT2 hT3
      unfold Rect.val at cC
      replace hT2 := hide hT2
      replace cC := hide cC
      replace hq := hide hq
      have hsz := hB.size
      clear hcell k0 k1 k2 k3 hT
      have hB3 := hide (fun w2 (hb2 : Below wr.heap.size wr w2) => hB.trans (hb2.mono hsz))
      cases q
      · have hT4 := hide (fun j hj => hT2.out j hj rfl)
        clear hT2 hT3
        go_wp2_with (go_at_call 32; refine cC.out.mono ?_; rintro e w2 ⟨rfl, hb2⟩)
        go_roundw
        case rel => exact ⟨k + 1, by omega, by go_num, hT4, hB3.out _ hb2⟩
        case measure => simp [intOf]; omega
      · have hT4 := hide (hT3.out rfl)
        clear hT2 hT3
        go_wp2_with (go_at_call 32; refine cC.out.mono ?_; rintro e w2 ⟨rfl, hb2⟩)
        go_ret
        exact ⟨by rw [hT4.out]; rfl, hB3.out _ hb2⟩
    · obtain rfl : k = n := by omega
      have hF := hide (anyR_false (L := L) (x := x) (y := y) (fun j hj => hT.out j (by rw [hn.out]; exact hj)))
      clear hT
      go_wp2
      go_ret
      exact ⟨by rw [hF.out]; rfl, hB⟩

set_option maxRecDepth 100000 in
set_option maxHeartbeats 1000000 in
theorem rAt_any (w : World) (v : Value) (L : List Hit) (x y : Int) (hL : RdH w v L) (hg : ∀ h ∈ L, h.good) (hx : I64 x) (hy : I64 y) (hl : L.length ≤ 1000000) :
    Calls Try.prog 18 #[v, .int .i64 x, .int .i64 y] w fun e w' => e = .returned (.tuple #[.int .i64 (atH L x y).1, .int .i64 (atH L x y).2.1, .int .i64 (atH L x y).2.2]) ∧ Below w.heap.size w w' := by
  obtain ⟨A, c, rfl, hcc⟩ := hL.form
  obtain ⟨n, hn⟩ : ∃ n, n = L.length := ⟨_, rfl⟩
  rw [← hn] at hl ⊢
  have hrow := hL.row
  rw [← hn] at hrow
  have hcell := hide (fun h0 => RdH.cells hrow hn h0)
  have hreg := hide (fun k (hk : k < n) => hL.reg (L.getD k default) (getD_mem (by omega)))
  have hgood := hide (fun k (hk : k < n) => hg (L.getD k default) (getD_mem (by omega)))
  have hnn := hide hn
  clear hn hL hrow hg
  go_enter Try.func18, Try.ntmps18
  go_wp2
  go_loopw [9] (fun i wr => ∃ r : Nat, r ≤ n ∧ i = .int .i64 ((r : Int) - 1) ∧ Hid (∀ j, r ≤ j → j < n → hitB (L.getD j default) x y = false) ∧ Hid (Below w.heap.size w wr))
    (fun i _ => (intOf i + 1).toNat)
  case atStart => exact ⟨n, Nat.le_refl _, by go_num, hide (fun j h1 h2 => absurd h1 (by omega)), hide (Below.refl _ _)⟩
  case round =>
    obtain ⟨r, hr, rfl, hN, hB⟩ := hrel
    obtain ⟨wA, hA⟩ : ∃ wA, wA = wr := ⟨_, rfl⟩
    subst hA
    rcases (show r = 0 ∨ ∃ k, r = k + 1 by cases r; exact .inl rfl; exact .inr ⟨_, rfl⟩) with rfl | ⟨k, rfl⟩
    · have hno : Hid (atH L x y = (0, 0, 0)) := hide (at_none fun j hj => hN.out j (Nat.zero_le _) (by rw [hnn.out]; exact hj))
      rw [show (((0 : Nat) : Int) - 1) = -1 by rfl]
      clear hN
      go_wp2
      go_ret3
      exact ⟨by rw [hno.out] <;> rfl, hB.out⟩
    · have hkn : k < n := by omega
      rw [show (((k + 1 : Nat) : Int) - 1) = (k : Int) by omega]
      obtain ⟨b, off, rfl, hbl, hk⟩ := hcell.out (by omega)
      obtain ⟨k0, k1, k2, k3, k4, k5, k6⟩ := (hk k hkn).below hB.out hbl
      have hG := hgood.out k hkn
      have hR := Rd.below (hreg.out k hkn) hB.out (Nat.le_refl _)
      have hN2 : Hid (∀ q, hitB (L.getD k default) x y = q → q = false → ∀ j, k ≤ j → j < n → hitB (L.getD j default) x y = false) := hide fun q h0 h1 j hj hjn => by
        rcases (show j = k ∨ k + 1 ≤ j by omega) with rfl | h
        · rw [h0, h1]
        · exact hN.out j h hjn
      have hY2 : Hid (∀ q, hitB (L.getD k default) x y = q → q = true → atH L x y = ((L.getD k default).s, x - (L.getD k default).x, y - (L.getD k default).y)) := hide fun q h0 h1 =>
        at_some (by rw [← hnn.out]; exact hkn) (by rw [h0, h1]) (fun j hj hjn => hN.out j hj (by rw [hnn.out]; exact hjn))
      obtain ⟨Ar, cr, hrg, _⟩ := RdR.form hR
      obtain ⟨h, hh⟩ : ∃ h, h = L.getD k default := ⟨_, rfl⟩
      rw [← hh] at hG hR hrg hN2 hY2 k0 k1 k2 k3 k4 k5 k6
      have hitD : hitB h x y = (hasR ⟨h.x, h.y, h.w, h.h⟩ x y && takesH h (x - h.x) (y - h.y)) := rfl
      rw [hrg] at k6
      have cH := hide (fun w2 => rH_any w2 ⟨h.x, h.y, h.w, h.h⟩ x y ⟨hG.x, hG.y, hG.w, hG.h⟩ hx hy)
      have c8 : Hid (∀ w2, Below wA.heap.size wA w2 → I64 (x - h.x) → I64 (y - h.y) → Calls Try.prog 33 #[.slice Ar h.rects.length cr, .int .i64 (x - h.x), .int .i64 (y - h.y)] w2 fun e w' => e = .returned (.bool (anyR h.rects (x - h.x) (y - h.y))) ∧ Below w2.heap.size w2 w') :=
        hide fun w2 hb2 i1 i2 => r8H_any w2 _ h.rects (x - h.x) (y - h.y) (by rw [← hrg]; exact Rd.below hR hb2 (Nat.le_refl _)) hG.r i1 i2 hG.l
      have htk : takesH h (x - h.x) (y - h.y) = (h.all || anyR h.rects (x - h.x) (y - h.y)) := rfl
      rw [htk] at hitD
      obtain ⟨aa, haa⟩ : ∃ aa, aa = anyR h.rects (x - h.x) (y - h.y) := ⟨_, rfl⟩
      rw [← haa] at c8 hitD
      have g1 := hG.w
      have g2 := hG.h
      have hin := fun e => hasR_in (r := ⟨h.x, h.y, h.w, h.h⟩) (x := x) (y := y) e
      dsimp only at hin
      obtain ⟨s, a, b', u, v, al, rg, rs⟩ := h
      dsimp only at k0 k1 k2 k3 k4 k5 k6 c8 hitD cH g1 g2 hin hY2
      unfold Rect.val at cH
      dsimp only at cH
      generalize hasR ⟨a, b', u, v⟩ x y = q at cH hitD hin
      generalize rs.length = rl at c8 k6
      replace hh := hide hh
      clear hrg hG hR htk haa hk hN
      have hbB : Below wA.heap.size wA (wA.alloc (.cells #[.int .i64 s, .int .i64 a, .int .i64 b', .int .i64 u, .int .i64 v, .bool al, .slice Ar rl cr] 71)) := (Below.refl _ _).alloc (Nat.le_refl _) _
      have hblk : (wA.alloc (.cells #[.int .i64 s, .int .i64 a, .int .i64 b', .int .i64 u, .int .i64 v, .bool al, .slice Ar rl cr] 71)).heap[wA.heap.size]? = some (.cells #[.int .i64 s, .int .i64 a, .int .i64 b', .int .i64 u, .int .i64 v, .bool al, .slice Ar rl cr] 71 (0, 0)) := heap_alloc_new _ _
      go_upto_region 5 with fail
      obtain ⟨wB, hwB⟩ : ∃ wB, wB = wA.alloc (.cells #[.int .i64 s, .int .i64 a, .int .i64 b', .int .i64 u, .int .i64 v, .bool al, .slice Ar rl cr] 71) := ⟨_, rfl⟩
      rw [← hwB] at hbB hblk ⊢
      have hlB := lt_of_block hblk
      clear hwB k0 k1 k2 k3 k4 k5 k6
      have e0 : wB.cell? ⟨wA.heap.size, 0, none⟩ = some (.int .i64 s) := by rw [cell_of_row wB _ 0 _ _ _ hblk]; rfl
      have e1 : wB.cell? ⟨wA.heap.size, 1, none⟩ = some (.int .i64 a) := by rw [cell_of_row wB _ 1 _ _ _ hblk]; rfl
      have e2 : wB.cell? ⟨wA.heap.size, 2, none⟩ = some (.int .i64 b') := by rw [cell_of_row wB _ 2 _ _ _ hblk]; rfl
      have e3 : wB.cell? ⟨wA.heap.size, 3, none⟩ = some (.int .i64 u) := by rw [cell_of_row wB _ 3 _ _ _ hblk]; rfl
      have e4 : wB.cell? ⟨wA.heap.size, 4, none⟩ = some (.int .i64 v) := by rw [cell_of_row wB _ 4 _ _ _ hblk]; rfl
      have e5 : wB.cell? ⟨wA.heap.size, 5, none⟩ = some (.bool al) := by rw [cell_of_row wB _ 5 _ _ _ hblk]; rfl
      have e6 : wB.cell? ⟨wA.heap.size, 6, none⟩ = some (.slice Ar rl cr) := by rw [cell_of_row wB _ 6 _ _ _ hblk]; rfl
      have hBB : Hid (∀ w2, Below wB.heap.size wB w2 → Below w.heap.size w w2) := hide fun w2 h2 => hB.out.trans ((hbB.trans (h2.mono hbB.size)).mono hB.out.size)
      replace hbB := hide hbB
      clear hblk
      cases q with
      | false =>
        have hn4 := hide (hN2.out _ (by rw [hitD]; simp) rfl)
        clear hN2 hY2 hin hitD c8
        go_wp2_with (go_at_call 32; refine (cH.out _).mono ?_; rintro e w2 ⟨rfl, hb2⟩)
        have hb3 := hide (hBB.out _ hb2)
        go_roundw
        case rel => exact ⟨k, by omega, by go_num, hn4, hb3⟩
        case measure => simp [intOf] <;> omega
      | true =>
        obtain ⟨i1, i2, i3, i4⟩ := hin rfl
        have hx1 : I64 (x - a) := ⟨by omega, by have := g1.2; omega⟩
        have hy1 : I64 (y - b') := ⟨by omega, by have := g2.2; omega⟩
        have c8' := hide (fun w2 hb2 => c8.out w2 hb2 hx1 hy1)
        obtain ⟨hx2, hx3⟩ := hx1
        obtain ⟨hy2, hy3⟩ := hy1
        have hwx : IntKind.i64.wrap (x - a) = x - a := IntWalk.i64_in _ (by omega)
        have hwy : IntKind.i64.wrap (y - b') = y - b' := IntWalk.i64_in _ (by omega)
        clear c8 hin i1 i2 i3 i4 g1 g2
        replace hitD := hide hitD
        cases al with
        | true =>
          have hat := hide (hY2.out _ hitD.out rfl)
          clear hN2 hY2 c8' hitD
          go_wp2_with (go_at_call 32; refine (cH.out _).mono ?_; rintro e w2 ⟨rfl, hb2⟩; have m0 := (hb2.cell (p := ⟨wA.heap.size, 0, none⟩) hlB).trans e0; have m1 := (hb2.cell (p := ⟨wA.heap.size, 1, none⟩) hlB).trans e1; have m2 := (hb2.cell (p := ⟨wA.heap.size, 2, none⟩) hlB).trans e2; have m5 := (hb2.cell (p := ⟨wA.heap.size, 5, none⟩) hlB).trans e5)
          have hb3 := hide (fun m => hBB.out _ (below_drewN hb2 m))
          go_quiet (fail)
          go_wp2
          go_ret3
          exact ⟨by rw [hat.out] <;> rfl, hb3.out _⟩
        | false =>
          cases aa with
          | true =>
            have hat := hide (hY2.out _ hitD.out rfl)
            clear hN2 hY2 hitD
            go_wp2_with (first
              | (go_at_call 32; refine (cH.out _).mono ?_; rintro e w2 ⟨rfl, hb2⟩; have m0 := (hb2.cell (p := ⟨wA.heap.size, 0, none⟩) hlB).trans e0; have m1 := (hb2.cell (p := ⟨wA.heap.size, 1, none⟩) hlB).trans e1; have m2 := (hb2.cell (p := ⟨wA.heap.size, 2, none⟩) hlB).trans e2; have m5 := (hb2.cell (p := ⟨wA.heap.size, 5, none⟩) hlB).trans e5; have m6 := (hb2.cell (p := ⟨wA.heap.size, 6, none⟩) hlB).trans e6)
              | (go_at_call 33; refine (c8'.out _ (hbB.out.trans (hb2.mono hbB.out.size))).mono ?_; rintro e w3 ⟨rfl, hb3⟩; have hl2 := Nat.lt_of_lt_of_le hlB hb2.size; have p0 := (hb3.cell (p := ⟨wA.heap.size, 0, none⟩) hl2).trans m0; have p1 := (hb3.cell (p := ⟨wA.heap.size, 1, none⟩) hl2).trans m1; have p2 := (hb3.cell (p := ⟨wA.heap.size, 2, none⟩) hl2).trans m2))
            have hb4 := hide (fun m => hBB.out _ (below_drewN (hb2.trans (hb3.mono hb2.size)) m))
            go_quiet (fail)
            go_wp2
            go_ret3
            exact ⟨by rw [hat.out] <;> rfl, hb4.out _⟩
          | false =>
            have hn4 := hide (hN2.out _ hitD.out rfl)
            clear hN2 hY2 hitD
            go_wp2_with (first
              | (go_at_call 32; refine (cH.out _).mono ?_; rintro e w2 ⟨rfl, hb2⟩; have m1 := (hb2.cell (p := ⟨wA.heap.size, 1, none⟩) hlB).trans e1; have m2 := (hb2.cell (p := ⟨wA.heap.size, 2, none⟩) hlB).trans e2; have m5 := (hb2.cell (p := ⟨wA.heap.size, 5, none⟩) hlB).trans e5; have m6 := (hb2.cell (p := ⟨wA.heap.size, 6, none⟩) hlB).trans e6)
              | (go_at_call 33; refine (c8'.out _ (hbB.out.trans (hb2.mono hbB.out.size))).mono ?_; rintro e w3 ⟨rfl, hb3⟩))
            have hb4 := hide (hBB.out _ (hb2.trans (hb3.mono hb2.size)))
            go_roundw
            case rel => exact ⟨k, by omega, by go_num, hn4, hb4⟩
            case measure => simp [intOf] <;> omega
end Go.Proofs.Ytfekldcpjoiipaa
