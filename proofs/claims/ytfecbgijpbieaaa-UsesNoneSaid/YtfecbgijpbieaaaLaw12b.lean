/-
  The law UsesNone, as a walk.
-/
import Derived.Test.YtfecbgijpbieaaaLaw12
namespace Go.Proofs.Ytfecbgijpbieaaa
open Go.RowKit

theorem nowH_nil (x : Int) : nowH [] x = false := by simp [nowH]
theorem nowH_pos {l : List Int} {x : Int} (h : nowH l x = true) : 1 ≤ x := by
  unfold nowH at h
  simp at h
  omega
theorem nowT_nil (T : Int → Option Int) : nowT T [] = T := by funext x; simp [nowT]
theorem times_one {l : List Int} {x : Int} (h : x ∈ l) : (nowT (fun _ => none) l x).getD 0 = 1 := by simp [nowT, h, wrap64]


set_option maxRecDepth 100000 in
set_option maxHeartbeats 2000000 in
theorem usesNone_any (W : World) (A : Option Addr) (c : Nat) (l : List Int) (hr : Rd W (.slice A l.length c) 1 l.length (l.map (Value.int .i64))) (hi : ∀ x ∈ l, I64 x) (hl : l.length ≤ 9223372036854775807) :
    Calls Try.prog 5 #[.slice A l.length c] W fun e w' => e = .returned (.bool true) ∧ Below W.heap.size W w' := by
  have hN := hide (lNew W)
  replace hi := hide hi
  by_cases h60 : 60 < l.length
  · have h60' : (60 : Int) < l.length := by omega
    have cw := hide awake12_any
    clear hr h60
    go_enter Try.func5, Try.ntmps5
    go_wp2_with fail
    refine (hN.out).mono ?_
    rintro e w1 ⟨u, tb, hb, rfl, h1⟩
    have hbd := hide h1.below
    clear h1
    go_wp2_with fail
    refine (cw.out w1).mono ?_
    rintro e w2 ⟨rfl, hb2⟩
    go_wp2
    go_ret
    exact ⟨rfl, hbd.out.trans (hb2.mono hbd.out.size)⟩
  · have h60' : ¬ (60 : Int) < l.length := by omega
    obtain ⟨N, hN2⟩ : ∃ N, N = l.length := ⟨_, rfl⟩
    rw [← hN2] at hr hl h60 h60' ⊢
    replace hN2 := hide hN2
    replace hr := hide hr
    go_enter Try.func5, Try.ntmps5
    go_wp2_with fail
    refine (hN.out).mono ?_
    rintro e w1 ⟨u, tb, hb, rfl, h1⟩
    -- Now
    have c1 := lNow h1 (.slice A N c) l (by rw [← hN2.out]; exact hr.out.below h1.below (Nat.le_refl _)) hi.out (by omega) (by omega) (by rw [← hN2.out]; omega)
    rw [← hN2.out] at c1
    replace c1 := hide c1
    clear h1
    go_wp2_with fail
    refine (c1.out).mono ?_
    rintro e w2 ⟨hb2, A2, n2, q2, rfl, k2, _, r2, h2, _⟩
    have e2 : q2 = [] := keysOf_nil k2 (fun x _ => rfl)
    subst e2
    rw [nowT_nil] at h2
    clear k2 c1 r2
    dsimp only [List.length_nil] at h2 ⊢
    -- Held
    have lt2 : u < w2.heap.size ∧ tb < w2.heap.size := ⟨h2.at'.lt.1, h2.at'.lt.2.2⟩
    have c3 := hide (lHeld h2 (by omega))
    clear h2
    go_wp2_with fail
    refine (c3.out).mono ?_
    rintro e w3 ⟨A3, n3, q3, rfl, k3, l3, r3, h3, _⟩
    have lt2 := hide lt2
    replace r3 := hide r3
    clear c3
    have c4 := lNow h3 (.slice A N c) l (by rw [← hN2.out]; exact hr.out.below h3.below (Nat.le_refl _)) hi.out (by omega) (by simp) (by rw [← hN2.out]; omega)
    rw [← hN2.out] at c4
    replace c4 := hide c4
    clear h3
    go_wp2_with fail
    refine (c4.out).mono ?_
    rintro e w4 ⟨hb4, A4, n4, q4, rfl, k4, _, r4, h4, C4⟩
    have e4 : q4 = [] := keysOf_nil k4 (fun x _ => by unfold freeH; cases nowH l x <;> rfl)
    subst e4
    rw [nowT_nil] at h4
    replace r3 := hide (row_stays r3.out C4 lt2.out.1 lt2.out.2)
    clear k4 c4 r4 C4
    dsimp only [List.length_nil] at h4 ⊢
    have c5 := hide (lNow h4 (.slice .none 0 0) [] (Rd.nil _ _) (by simp) (by omega) (by simp) (by simp))
    have lt4 := hide h4.at'.lt
    have hz4 := h4.below.size
    clear h4
    go_wp2_with fail
    refine (c5.out).mono ?_
    rintro e w5 ⟨hb5, A5, n5, q5, rfl, k5, l5, r5, h5, C5⟩
    have e5 : q5 = q3 := (keysOf_congr (H' := nowH l) k5 (fun x _ => by unfold freeH; rw [nowH_nil]; simp)).unique k3
    subst e5
    replace r3 := hide (row_stays r3.out C5 lt2.out.1 lt2.out.2)
    replace r5 := hide r5
    have lt5 := hide (⟨lt4.out.1, lt4.out.2.2⟩ : u < w4.heap.size ∧ tb < w4.heap.size)
    clear c5 C5 k5 lt4
    have c6 := hide (lNow h5 (.slice .none 0 0) [] (Rd.nil _ _) (by simp) (by simp) (by simp; omega) (by simp))
    clear h5
    go_wp2_with fail
    refine (c6.out).mono ?_
    rintro e w6 ⟨hb6, A6, n6, q6, rfl, k6, l6, r6, h6, C6⟩
    have e6 : q6 = [] := keysOf_nil k6 (fun x _ => by unfold freeH; rw [nowH_nil]; rfl)
    subst e6
    rw [nowT_nil] at h6
    replace r3 := hide (row_stays r3.out C6 lt2.out.1 lt2.out.2)
    replace r5 := hide (row_stays r5.out C6 lt5.out.1 lt5.out.2)
    clear c6 k6 r6 C6 l6
    dsimp only [List.length_nil] at h6 ⊢
    replace h6 := hide h6
    replace k3 := hide k3
    obtain ⟨Q, hQ⟩ : ∃ Q, Q = q5.length := ⟨_, rfl⟩
    rw [← hQ] at r3 r5 l5 l3 h6 ⊢
    replace hQ := hide hQ
    go_wp2
    go_loopw [9] (fun i wr => ∃ j : Nat, j ≤ Q ∧ i = .int .i64 j ∧ ∃ m, wr = w6.drewN m)
      (fun i _ => Q - (intOf i).toNat)
    case atStart => exact ⟨0, Nat.zero_le _, rfl, 0, rfl⟩
    case round =>
      obtain ⟨j, hj, rfl, m, hm⟩ := hrel
      obtain ⟨wA, hA⟩ : ∃ wA, wA = wr := ⟨_, rfl⟩
      subst hA
      have bm : Below w6.heap.size w6 wA := by rw [hm]; exact below_drewN (Below.refl _ _) m
      have h7 := h6.out.keep bm
      have r7 := row_below r3.out bm
      by_cases hlt : j < Q
      · have hjq : j < q5.length := by rw [← hQ.out]; exact hlt
        obtain ⟨b, off, rfl, hb1, hcell⟩ := (Rd.of_own r7).open1 (by omega)
        have hcx := hcell j hlt
        have hmem : q5.getD j 0 ∈ q5 := by
          have e : q5.getD j 0 = q5[j] := by simp [List.getD, hjq]
          rw [e]; exact List.getElem_mem hjq
        have hmm := (keysOf_mem k3.out (q5.getD j 0)).1 hmem
        have hpos : 1 ≤ q5.getD j 0 := nowH_pos hmm.2
        have cT := fun n => uTimes_any (wA.drewN n) u hb6 tb _ _ _ _ (q5.getD j 0) hmm.1 (h7.keep (below_drewN (Below.refl _ _) n)).at'
        rw [times_one hmem] at cT
        replace cT := hide cT
        have hge : (0 : Int) ≤ (j : Int) := by omega
        have hge2 : (j : Int) < (Q : Int) := by omega
        rcases (show j = 0 ∨ 1 ≤ j by omega) with h0 | h0
        · have hd : decide ((0 : Int) < (j : Int)) = false := by subst h0; rfl
          have hd2 : decide (0 < j) = false := by subst h0; rfl
          obtain ⟨x, hx⟩ : ∃ x, x = q5.getD j 0 := ⟨_, rfl⟩
          rw [← hx] at hcx hpos cT
          have hx1 : decide (x < 1) = false := by simp; omega
          have Hm := hide hm
          clear hcell hmem hmm hx r7 h7 hm h0 k3
          go_wp2
          go_quiet (first | (go_at_call 9; refine Calls.quiet_of_same ((cT.out _).mono fun e w' h => ⟨h.1, h.2.symm⟩)))
          all_goals go_wp2
          go_roundw
          case rel => exact ⟨j + 1, by omega, by go_num, m + nq, by rw [Hm.out, World.drewN_drewN]⟩
          case measure => simp [intOf]; omega
        · have hd : (0 : Int) < (j : Int) := by omega
          have hd2 : decide (0 < j) = true := by simp; omega
          have hcy := hcell (j - 1) (by omega)
          have hxy : q5.getD (j - 1) 0 < q5.getD j 0 := by
            have e1 : q5.getD j 0 = q5[j] := by simp [List.getD, hjq]
            have e2 : q5.getD (j - 1) 0 = q5[j - 1] := by simp [List.getD, show j - 1 < q5.length by omega]
            rw [e1, e2]
            exact (List.pairwise_iff_getElem.1 k3.out.1) (j - 1) j (by omega) hjq (by omega)
          obtain ⟨x, hx⟩ : ∃ x, x = q5.getD j 0 := ⟨_, rfl⟩
          rw [← hx] at hcx hpos cT hxy
          obtain ⟨y, hy⟩ : ∃ y, y = q5.getD (j - 1) 0 := ⟨_, rfl⟩
          rw [← hy] at hcy hxy
          have hx1 : decide (x < 1) = false := by simp; omega
          have hxy2 : decide (x ≤ y) = false := by simp; omega
          have hj1 : (0 : Int) ≤ (j : Int) - 1 := by omega
          have hj2 : (j : Int) - 1 < (Q : Int) := by omega
          have hj3 : ((j : Int) - 1).toNat = j - 1 := by omega
          have Hm := hide hm
          clear hcell hmem hmm hx hy r7 h7 hm k3
          go_wp2
          go_quiet (first | (go_at_call 9; refine Calls.quiet_of_same ((cT.out _).mono fun e w' h => ⟨h.1, h.2.symm⟩)))
          all_goals go_wp2
          go_roundw
          case rel => exact ⟨j + 1, by omega, by go_num, m + nq, by rw [Hm.out, World.drewN_drewN]⟩
          case measure => simp [intOf]; omega
      · have hge : (Q : Int) ≤ (j : Int) := by omega
        have r9 := row_below r5.out bm
        have cs := sameInts_true wA (.slice A5 Q n5) (.slice A3 Q n3) q5 (by rw [← hQ.out]; exact Rd.of_own r9) (by rw [← hQ.out]; exact Rd.of_own r7) (by rw [← hQ.out]; omega)
        replace cs := hide cs
        have h8 := hide h7
        clear r7 r9 h7 hm bm
        go_wp2_with fail
        refine cs.out.mono ?_
        rintro e w7 ⟨rfl, q7, rfl⟩
        have h9 := h8.out.keep (below_drewN (Below.refl _ _) q7)
        have ch := hide (lHeld h9 (by omega))
        clear h8 h9 cs
        go_wp2_with fail
        refine ch.out.mono ?_
        rintro e w8 ⟨A8, n8, q8, rfl, k8, _, _, h10, _⟩
        have e8 : q8 = [] := keysOf_nil k8 (fun x _ => nowH_nil x)
        subst e8
        have hbd := hide h10.below
        have ca := hide (awake12_any w8)
        clear h10 k8 ch
        dsimp only [List.length_nil]
        go_wp2_with fail
        refine ca.out.mono ?_
        rintro e w9 ⟨rfl, hb9⟩
        go_wp2
        go_ret
        exact ⟨rfl, hbd.out.trans (hb9.mono hbd.out.size)⟩
end Go.Proofs.Ytfecbgijpbieaaa
