/-
  The law SeatTops, as a walk.
-/
import Derived.Test.YtfekldcpjoiipaaLaw20
import Derived.Test.YtfekldcpjoiipaaLaw00
namespace Go.Proofs.Ytfekldcpjoiipaa
open Go.RowKit Go.Shelf
set_option linter.unusedVariables false

theorem Try.infoHit : (Try.prog.info? 28).map (fun i => (i.zero, i.size, i.bytes)) = some (some (.agg #[.int .i64 0, .int .i64 0, .int .i64 0, .int .i64 0, .int .i64 0, .bool false, .slice none 0 0]), 7, 72) := by kernel_rfl

theorem cells_not_row {W : World} {B : Nat} {t e : TypeId} {C : Array Value} (h : W.heap[B]? = some (.cells C t (0, 0))) (hte : t ≠ e) {base size k : Nat} {v : Value} {xs : List Value} (hr : W.ownsRow base e size v k xs) : some B ≠ v.ownBlock := by
  intro he
  rcases hr.2 with ⟨rfl, _⟩ | ⟨g, cap, cur, rfl, _, hg, _⟩
  · cases he
  · obtain rfl : B = g := by simpa [Value.ownBlock] using he
    rw [h] at hg
    simp only [Option.some.injEq, Obj.cells.injEq] at hg
    exact hte hg.2.1
def topHit (l : List Rect) (i : Nat) : Hit := ⟨i + 1, (l.getD i default).x % 100, (l.getD i default).y % 100, (l.getD i default).w % 60, (l.getD i default).h % 60, true, .slice none 0 0, []⟩
def topsL (l : List Rect) (j : Nat) : List Hit := (List.range j).map (topHit l)
theorem topsL_succ (l : List Rect) (j : Nat) : topsL l (j + 1) = topsL l j ++ [topHit l j] := by simp [topsL, List.range_succ]
theorem topsL_len (l : List Rect) (j : Nat) : (topsL l j).length = j := by simp [topsL]
theorem topHit_good (l : List Rect) (i : Nat) (hi : i ≤ 12) : (topHit l i).good := by
  have e1 := Int.emod_nonneg (l.getD i default).x (show (100 : Int) ≠ 0 by decide)
  have e2 := Int.emod_lt_of_pos (l.getD i default).x (show (0 : Int) < 100 by decide)
  have e3 := Int.emod_nonneg (l.getD i default).y (show (100 : Int) ≠ 0 by decide)
  have e4 := Int.emod_lt_of_pos (l.getD i default).y (show (0 : Int) < 100 by decide)
  have e5 := Int.emod_nonneg (l.getD i default).w (show (60 : Int) ≠ 0 by decide)
  have e6 := Int.emod_lt_of_pos (l.getD i default).w (show (0 : Int) < 60 by decide)
  have e7 := Int.emod_nonneg (l.getD i default).h (show (60 : Int) ≠ 0 by decide)
  have e8 := Int.emod_lt_of_pos (l.getD i default).h (show (0 : Int) < 60 by decide)
  refine ⟨?_, ?_, ?_, ?_, ?_, by simp [topHit], by simp [topHit]⟩
  all_goals
    unfold topHit I64
    dsimp only
    omega
theorem topsL_good (l : List Rect) (j : Nat) (hj : j ≤ 12) : ∀ h ∈ topsL l j, h.good := by
  intro h hh
  unfold topsL at hh
  obtain ⟨i, hi, rfl⟩ := List.mem_map.1 hh
  exact topHit_good l i (by have := List.mem_range.1 hi; omega)
theorem topsL_reg (w : World) (l : List Rect) (j : Nat) : ∀ h ∈ topsL l j, RdR w h.reg h.rects := by
  intro h hh
  unfold topsL at hh
  obtain ⟨i, hi, rfl⟩ := List.mem_map.1 hh
  exact Rd.nil _ _
theorem atH_snoc (L : List Hit) (h : Hit) (x y : Int) : atH (L ++ [h]) x y = if hitB h x y = true then (h.s, x - h.x, y - h.y) else atH L x y := by
  unfold atH
  rw [List.reverse_append, List.reverse_singleton, List.singleton_append, List.find?_cons]
  cases hitB h x y <;> rfl
theorem topHit_hit (l : List Rect) (i : Nat) (m n : Int) : hitB (topHit l i) m n = (decide ((l.getD i default).x % 100 ≤ m) && decide (m < (l.getD i default).x % 100 + (l.getD i default).w % 60) && decide ((l.getD i default).y % 100 ≤ n) && decide (n < (l.getD i default).y % 100 + (l.getD i default).h % 60)) := by
  unfold hitB hasR emptyR hasN takesH topHit
  dsimp only
  generalize (l.getD i default).x % 100 = a
  generalize (l.getD i default).y % 100 = b
  generalize (l.getD i default).w % 60 = u
  generalize (l.getD i default).h % 60 = v
  rw [Bool.eq_iff_iff]
  simp only [Bool.and_eq_true, Bool.not_eq_true', Bool.or_eq_false_iff, decide_eq_true_eq, decide_eq_false_iff_not, Bool.true_or, and_true]
  constructor
  · rintro ⟨⟨h1, h2⟩, ⟨h3, h4⟩, h5, h6⟩; omega
  · rintro ⟨⟨⟨h1, h2⟩, h3⟩, h4⟩; omega

set_option maxRecDepth 100000 in
set_option maxHeartbeats 2000000 in
theorem seatTops_any (W : World) (A : Option Addr) (c : Nat) (l : List Rect) (hr : RdR W (.slice A l.length c) l) (x y : Int) :
    Calls Try.prog 3 #[.slice A l.length c, .int .i64 x, .int .i64 y] W fun e w' => e = .returned (.bool true) ∧ Below W.heap.size W w' := by
  obtain ⟨i0, hi, hz0, hz1, hz2⟩ := info_partsN Try.infoHit
  have e1 := Int.emod_nonneg x (show (100 : Int) ≠ 0 by decide)
  have e2 := Int.emod_lt_of_pos x (show (0 : Int) < 100 by decide)
  have e3 := Int.emod_nonneg y (show (100 : Int) ≠ 0 by decide)
  have e4 := Int.emod_lt_of_pos y (show (0 : Int) < 100 by decide)
  have cX := place_any x 100 W (by omega) (by omega)
  have cY := place_any y 100 W (by omega) (by omega)
  obtain ⟨m, hm⟩ : ∃ m, m = x % 100 := ⟨_, rfl⟩
  obtain ⟨n, hn⟩ : ∃ n, n = y % 100 := ⟨_, rfl⟩
  rw [← hm] at e1 e2 cX
  rw [← hn] at e3 e4 cY
  replace cX := hide cX
  replace cY := hide cY
  clear hm hn
  unfold RdR at hr
  obtain ⟨N, hN2⟩ : ∃ N, N = l.length := ⟨_, rfl⟩
  rw [← hN2] at hr ⊢
  replace hN2 := hide hN2
  replace hr := hide hr
  go_enter Try.func3, Try.ntmps3
  go_wp2_with (go_at_call 7; first | ((with_reducible refine cX.out.mono ?_); rintro e w' ⟨rfl, rfl⟩) | ((with_reducible refine cY.out.mono ?_); rintro e w' ⟨rfl, rfl⟩))
  go_loopw [7, 8, 9, 10, 13] (fun hv t8 t9 t10 i wr => ∃ j : Nat, j ≤ N ∧ j ≤ 12 ∧ i = .int .i64 j ∧ Hid (wr.ownsRow W.heap.size 28 7 hv (topsL l j).length ((topsL l j).flatMap Hit.enc)) ∧ Hid (Below W.heap.size W wr) ∧
      t8 = .int .i64 (atH (topsL l j) m n).1 ∧ t9 = .int .i64 (atH (topsL l j) m n).2.1 ∧ t10 = .int .i64 (atH (topsL l j) m n).2.2)
    (fun _ _ _ _ i _ => 12 - (intOf i).toNat)
  case atStart => exact ⟨0, Nat.zero_le _, Nat.zero_le _, rfl, hide (World.ownsRow_nil _ _ _ _), hide (Below.refl _ _), rfl, rfl, rfl⟩
  case round =>
    obtain ⟨j, hj, hj12, rfl, ho, hB, rfl, rfl, rfl⟩ := hrel
    obtain ⟨wA, hA⟩ : ∃ wA, wA = wr := ⟨_, rfl⟩
    subst hA
    by_cases hlt : j < N
    · by_cases hlt12 : j < 12
      · obtain ⟨b, off, rfl, hbl, hcell⟩ := RdR.cells (hr.out.below hB.out (Nat.le_refl _)) hN2.out (by omega)
        obtain ⟨k0, k1, k2, k3⟩ := hcell j hlt
        obtain ⟨Ah, ch, hav, _⟩ := own_form ho.out
        rw [hav] at ho ⊢
        rw [topsL_len] at ho ⊢
        have hsn := topsL_succ l j
        have hat := atH_snoc (topsL l j) (topHit l j) m n
        rw [topHit_hit] at hat
        unfold topHit at hat hsn
        dsimp only at hat hsn
        generalize hT : topsL l j = T at ho hat hsn ⊢
        generalize (l.getD j default).x = rx at k0 hat hsn
        generalize (l.getD j default).y = ry at k1 hat hsn
        generalize (l.getD j default).w = rw' at k2 hat hsn
        generalize (l.getD j default).h = rh at k3 hat hsn
        have g1 := Int.emod_nonneg rx (show (100 : Int) ≠ 0 by decide)
        have g2 := Int.emod_lt_of_pos rx (show (0 : Int) < 100 by decide)
        have g3 := Int.emod_nonneg ry (show (100 : Int) ≠ 0 by decide)
        have g4 := Int.emod_lt_of_pos ry (show (0 : Int) < 100 by decide)
        have g5 := Int.emod_nonneg rw' (show (60 : Int) ≠ 0 by decide)
        have g6 := Int.emod_lt_of_pos rw' (show (0 : Int) < 60 by decide)
        have g7 := Int.emod_nonneg rh (show (60 : Int) ≠ 0 by decide)
        have g8 := Int.emod_lt_of_pos rh (show (0 : Int) < 60 by decide)
        have cPx := fun w => place_any rx 100 w (by omega) (by omega)
        have cPy := fun w => place_any ry 100 w (by omega) (by omega)
        have cPw := fun w => place_any rw' 60 w (by omega) (by omega)
        have cPh := fun w => place_any rh 60 w (by omega) (by omega)
        generalize rx % 100 = ax at g1 g2 cPx hat hsn
        generalize ry % 100 = ay at g3 g4 cPy hat hsn
        generalize rw' % 60 = aw at g5 g6 cPw hat hsn
        generalize rh % 60 = ah at g7 g8 cPh hat hsn
        replace cPx := hide cPx
        replace cPy := hide cPy
        replace cPw := hide cPw
        replace cPh := hide cPh
        replace hat := hide hat
        replace hsn := hide hsn
        replace hT := hide hT
        replace hav := hide hav
        clear hcell
        go_upto_region 7 with fail
        go_cut [14] (fun u wx => ∃ Bx, u = .pointer (some ⟨Bx, 0, none⟩) ∧ Hid (wx.heap[Bx]? = some (.cells #[.int .i64 ax, .int .i64 ay, .int .i64 aw, .int .i64 ah] 26 (0, 0))) ∧ Hid (wx.ownsRow W.heap.size 28 7 (.slice Ah j ch) j (T.flatMap Hit.enc)) ∧ Hid (Below W.heap.size W wx))
        case first =>
          have hn0 := World.new_ne wA _ k0
          have hal : ∀ o, Below wA.heap.size wA (wA.alloc o).drew := fun o => below_drewN ((Below.refl _ wA).alloc (Nat.le_refl _) o) 1
          have hfin := hide (fun o => (⟨own_below ho.out (hal o), hB.out.trans ((hal o).mono hB.out.size)⟩ : (wA.alloc o).drew.ownsRow W.heap.size 28 7 (.slice Ah j ch) j (T.flatMap Hit.enc) ∧ Below W.heap.size W (wA.alloc o).drew))
          clear hal
          go_region_held3 (fun w' => w'.cell? ⟨b, off + j * 4, none⟩ = some (.int .i64 rx) ∧ w'.cell? ⟨b, off + j * 4 + 1, none⟩ = some (.int .i64 ry) ∧ w'.cell? ⟨b, off + j * 4 + 2, none⟩ = some (.int .i64 rw') ∧ w'.cell? ⟨b, off + j * 4 + 3, none⟩ = some (.int .i64 rh)) (go_keep)
            (first | (go_at_call 7; first
              | ((with_reducible refine (cPx.out _).mono ?_); rintro e w' ⟨rfl, rfl⟩)
              | ((with_reducible refine (cPy.out _).mono ?_); rintro e w' ⟨rfl, rfl⟩)
              | ((with_reducible refine (cPw.out _).mono ?_); rintro e w' ⟨rfl, rfl⟩)
              | ((with_reducible refine (cPh.out _).mono ?_); rintro e w' ⟨rfl, rfl⟩)))
          all_goals
            go_wp2_with fail
            go_meet
            exact ⟨_, rfl, hide (heap_alloc_new wA _), hide (hfin.out _).1, hide (hfin.out _).2⟩
        case rest =>
          obtain ⟨Bx, rfl, hbx, ho2, hB2⟩ := hcut
          obtain ⟨wB, hwB⟩ : ∃ wB, wB = wc := ⟨_, rfl⟩
          subst hwB
          have hBx := lt_of_block hbx.out
          have hnr := cells_not_row hbx.out (by decide) ho2.out
          have hBa := hB2.out
          have c0 : wB.cell? ⟨Bx, 0, none⟩ = some (.int .i64 ax) := by rw [cell_of_row wB Bx 0 _ _ _ hbx.out]; rfl
          have c1 : wB.cell? ⟨Bx, 1, none⟩ = some (.int .i64 ay) := by rw [cell_of_row wB Bx 1 _ _ _ hbx.out]; rfl
          have c2 : wB.cell? ⟨Bx, 2, none⟩ = some (.int .i64 aw) := by rw [cell_of_row wB Bx 2 _ _ _ hbx.out]; rfl
          have c3 : wB.cell? ⟨Bx, 3, none⟩ = some (.int .i64 ah) := by rw [cell_of_row wB Bx 3 _ _ _ hbx.out]; rfl
          obtain ⟨g, hgq⟩ : ∃ g, g = (decide (ax ≤ m) && decide (m < ax + aw) && decide (ay ≤ n) && decide (n < ay + ah)) := ⟨_, rfl⟩
          rw [← hgq] at hat
          have hsz2 := hBa.size
          replace hnr := hide hnr
          replace hgq := hide hgq
          go_upto_region 9 with (at_builtin; refine wpList_append_own _ rfl _ _ 23 rfl W.heap.size 28 i0 _ 7 72 Try.underlying23 hi hz0 hz1 hz2 rfl (by decide) _ _ _ rfl (ho2.out.alloc _) ⟨wB.heap.size, 0, none⟩ 1 1 [.int .i64 ((j : Int) + 1), .int .i64 ax, .int .i64 ay, .int .i64 aw, .int .i64 ah, .bool true, .slice none 0 0] rfl rfl (cells_newN _ _ _) (by intro u hu; simp at hu; rcases hu with rfl | rfl | rfl | rfl | rfl | rfl | rfl <;> rfl) (by unfold maxLen; omega) (by omega) (by simp; omega) ?_; intro v3 w3 own3 hg3 _; have hb3 := (hg3.block Bx (by simp; omega) hnr.out).trans ((Below.heap_alloc wB _ Bx hBx).trans hbx.out); have hB3 := (hBa.alloc hsz2 _).grown hg3 (by simp; omega) (fun k hk => (ho2.out.lt k hk).1); obtain ⟨A3, c3', rfl, _⟩ := own_form own3)
          have d0 : w3.cell? ⟨Bx, 0, none⟩ = some (.int .i64 ax) := by rw [cell_of_row w3 Bx 0 _ _ _ hb3]; rfl
          have d1 : w3.cell? ⟨Bx, 1, none⟩ = some (.int .i64 ay) := by rw [cell_of_row w3 Bx 1 _ _ _ hb3]; rfl
          have d2 : w3.cell? ⟨Bx, 2, none⟩ = some (.int .i64 aw) := by rw [cell_of_row w3 Bx 2 _ _ _ hb3]; rfl
          have d3 : w3.cell? ⟨Bx, 3, none⟩ = some (.int .i64 ah) := by rw [cell_of_row w3 Bx 3 _ _ _ hb3]; rfl
          have hrow3 : Hid (w3.ownsRow W.heap.size 28 7 (.slice A3 (j + 1) c3') (topsL l (j + 1)).length ((topsL l (j + 1)).flatMap Hit.enc)) := hide (by
            rw [topsL_len, hsn.out, List.flatMap_append]
            simpa [Hit.enc] using own3)
          have hA1 : Hid (atH (topsL l (j + 1)) m n = if g = true then ((j : Int) + 1, m - ax, n - ay) else atH T m n) := hide (by rw [hsn.out]; exact hat.out)
          replace hB3 := hide hB3
          clear c0 c1 c2 c3 own3 hg3 hb3 hBa ho2 hbx hnr
          go_cut [98] (fun u wx => u = .bool g ∧ wx = w3)
          case first =>
            by_cases q1 : ax ≤ m
            · by_cases q2 : m < ax + aw
              · by_cases q3 : ay ≤ n
                · by_cases q4 : n < ay + ah
                  all_goals
                    go_wp2
                    go_meet
                    exact ⟨by rw [hgq.out]; simp <;> omega, rfl⟩
                · go_wp2
                  go_meet
                  exact ⟨by rw [hgq.out]; simp <;> omega, rfl⟩
              · go_wp2
                go_meet
                exact ⟨by rw [hgq.out]; simp <;> omega, rfl⟩
            · go_wp2
              go_meet
              exact ⟨by rw [hgq.out]; simp <;> omega, rfl⟩
          case rest =>
            obtain ⟨rfl, rfl⟩ := hcut
            cases g with
            | true =>
              rw [if_pos rfl] at hA1
              have s1 : IntKind.i64.wrap ((j : Int) + 1) = (j : Int) + 1 := IntWalk.i64_in _ (by omega)
              have s2 : IntKind.i64.wrap (m - ax) = m - ax := IntWalk.i64_in _ (by omega)
              have s3 : IntKind.i64.wrap (n - ay) = n - ay := IntWalk.i64_in _ (by omega)
              go_wp2
              go_quiet (fail)
              all_goals go_wp2
              go_roundw
              case rel => exact ⟨j + 1, by omega, by omega, by go_num, hrow3, hide (below_drewN hB3.out nq), by rw [hA1.out], by rw [hA1.out], by rw [hA1.out]⟩
              case measure => simp [intOf]; omega
            | false =>
              rw [if_neg (by simp)] at hA1
              go_wp2
              go_roundw
              case rel => exact ⟨j + 1, by omega, by omega, by go_num, hrow3, hB3, by rw [hA1.out], by rw [hA1.out], by rw [hA1.out]⟩
              case measure => simp [intOf]; omega
      · have hx : 12 ≤ (j : Int) := by omega
        clear hlt12
        obtain ⟨Ah, ch, rfl, _⟩ := own_form ho.out
        have hL : RdH wA (.slice Ah (topsL l j).length ch) (topsL l j) := ⟨Rd.of_own ho.out, topsL_reg wA l j⟩
        have cA := hide (at_any wA _ (topsL l j) m n hL (topsL_good l j hj12) (by unfold I64; omega) (by unfold I64; omega) (by rw [topsL_len]; omega))
        generalize (atH (topsL l j) m n).1 = a1 at cA ⊢
        generalize (atH (topsL l j) m n).2.1 = a2 at cA ⊢
        generalize (atH (topsL l j) m n).2.2 = a3 at cA ⊢
        have cW := hide (fun w2 => awake20_any w2)
        clear hL ho
        go_wp2_with (first
          | (go_at_call 8; refine cA.out.mono ?_; rintro e w2 ⟨rfl, hb2⟩)
          | (go_at_call 9; refine (cW.out _).mono ?_; rintro e w3 ⟨rfl, hb3⟩))
        go_ret
        exact ⟨rfl, (hB.out.trans (hb2.mono hB.out.size)).trans (hb3.mono (Nat.le_trans hB.out.size hb2.size))⟩
    · have hx : (N : Int) ≤ j := by omega
      clear hlt
      obtain ⟨Ah, ch, rfl, _⟩ := own_form ho.out
      have hL : RdH wA (.slice Ah (topsL l j).length ch) (topsL l j) := ⟨Rd.of_own ho.out, topsL_reg wA l j⟩
      have cA := hide (at_any wA _ (topsL l j) m n hL (topsL_good l j hj12) (by unfold I64; omega) (by unfold I64; omega) (by rw [topsL_len]; omega))
      generalize (atH (topsL l j) m n).1 = a1 at cA ⊢
      generalize (atH (topsL l j) m n).2.1 = a2 at cA ⊢
      generalize (atH (topsL l j) m n).2.2 = a3 at cA ⊢
      have cW := hide (fun w2 => awake20_any w2)
      clear hL ho
      go_wp2_with (first
        | (go_at_call 8; refine cA.out.mono ?_; rintro e w2 ⟨rfl, hb2⟩)
        | (go_at_call 9; refine (cW.out _).mono ?_; rintro e w3 ⟨rfl, hb3⟩))
      go_ret
      exact ⟨rfl, (hB.out.trans (hb2.mono hB.out.size)).trans (hb3.mono (Nat.le_trans hB.out.size hb2.size))⟩
end Go.Proofs.Ytfekldcpjoiipaa
