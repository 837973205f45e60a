/-
  The law ShellApart, as a walk.
-/
import Derived.Test.YtfekldcpjoiipaaDoorLaw18d
namespace Go.Proofs.YtfekldcpjoiipaaDoor
open Go.RowKit

theorem i64_two : I64 2 := by unfold I64; omega
theorem topK_eq {S T : Int → WinO} {id : Int} (h : S id = T id) : topK S id = topK T id := by unfold topK; rw [h]
theorem sendK_eq {S T : Int → WinO} {id : Int} (h : S id = T id) : sendK S id = sendK T id := by unfold sendK; rw [h]
theorem topK_le (S : Int → WinO) (id : Int) : topK S id ≤ 16 := by unfold topK; split <;> omega
theorem sendK_le (S : Int → WinO) (id : Int) : sendK S id ≤ 16 := by unfold sendK; split <;> omega
theorem comK_le (S : Int → WinO) (id : Int) (b : Bool) : comK S id b ≤ 16 := by
  unfold comK; split
  · omega
  · unfold comK0; split <;> omega
theorem comK_eq {S T : Int → WinO} {id : Int} (b : Bool) (h : S id = T id) : comK S id b = comK T id b := by unfold comK; rw [h]
theorem comA_eq {S T : Int → WinO} {id : Int} (b : Bool) (h : S id = T id) : comA S id b = comA T id b := by unfold comA; rw [h]
theorem setS_at (S : Int → WinO) (id : Int) (v : WinO) : setS S id v id = v := by simp [setS]
theorem setS_other (S : Int → WinO) {id j : Int} (v : WinO) (h : j ≠ id) : setS S id v j = S j := by simp [setS, h]

/-- The law's two shells behind k rounds. -/
structure Inv (S T : Int → WinO) (k : Nat) : Prop where
  none1 : T 1 = none
  same2 : S 2 = T 2
  ok1 : Ok k (S 1)
  ok2 : Ok k (S 2)
theorem Inv.mono {S T : Int → WinO} {k l : Nat} (h : Inv S T k) (hk : k ≤ l) : Inv S T l := ⟨h.none1, h.same2, h.ok1.mono hk, h.ok2.mono hk⟩
theorem Inv.one {S T : Int → WinO} {k : Nat} (h : Inv S T k) {v : WinO} (hv : Ok k v) : Inv (setS S 1 v) T k :=
  ⟨h.none1, by rw [setS_other _ _ (by decide)]; exact h.same2, by rw [setS_at]; exact hv, by rw [setS_other _ _ (by decide)]; exact h.ok2⟩
theorem Inv.two {S T : Int → WinO} {k : Nat} (h : Inv S T k) {v : WinO} (hv : Ok k v) : Inv (setS S 2 v) (setS T 2 v) k :=
  ⟨by rw [setS_other _ _ (by decide)]; exact h.none1, by rw [setS_at, setS_at], by rw [setS_other _ _ (by decide)]; exact h.ok1, by rw [setS_at]; exact hv⟩

set_option maxRecDepth 100000 in
set_option maxHeartbeats 4000000 in
theorem shellApart_any {B : Nat} (W : World) {ae : Nat → Addr} (hE : Errs B W ae) (hB : B ≤ W.heap.size) (v : Value) (l : List Int) (hr : Rd W v 1 l.length (l.map (Value.int .i64))) (hl : l.length ≤ 9223372036854775807) :
    Calls Tryd.prog 7 #[v] W fun e w' => e = .returned (.bool true) ∧ Below W.heap.size W w' := by
  have hr0 := hr
  obtain ⟨_, A, c, rfl, hc, _⟩ := hr0
  obtain ⟨N, hN⟩ : ∃ N, N = l.length := ⟨_, rfl⟩
  rw [← hN] at hr hl hc ⊢
  go_enter Tryd.func7, Tryd.ntmps7
  go_wp2_with fail
  refine (lNew W).mono ?_
  rintro e w1 ⟨p, rfl, h1⟩
  go_wp2_with fail
  refine (tNew2 W h1).mono ?_
  rintro e w2 ⟨q, rfl, h2⟩
  go_wp2_with fail
  refine (tAdd h2 hE hB i64_two (by omega) rfl).mono ?_
  rintro e w3 ⟨rfl, h3⟩
  go_wp2_with fail
  refine (tAdd h3.swap hE hB i64_two (by omega) rfl).mono ?_
  rintro e w4 ⟨rfl, h4⟩
  go_wp2_with fail
  refine (tAdd h4.swap hE hB i64_one (by omega) (by simp [setS])).mono ?_
  rintro e w5 ⟨rfl, h5⟩
  have I0 : Inv (setS (setS (fun _ => none) 2 (some (0, []))) 1 (some (0, []))) (setS (fun _ => none) 2 (some (0, []))) 0 := by
    refine ⟨by simp [setS], by simp [setS], ?_, ?_⟩ <;> (intro st ws e; simp [setS] at e; rw [e.2]; simp)
  go_wp2
  go_loopw [5] (fun i wr => ∃ k nn : Nat, ∃ S T : Int → WinO, k ≤ N ∧ k ≤ 30 ∧ i = .int .i64 k ∧ ShTwo W wr p q nn S T ∧ Inv S T k)
    (fun i _ => N - (intOf i).toNat)
  case atStart => exact ⟨0, _, _, _, Nat.zero_le _, Nat.zero_le _, rfl, h5, I0⟩
  case round =>
    obtain ⟨k, nn, S, T, hkN, hk30, rfl, h, hI⟩ := hrel
    rcases (show (k < N ∧ k < 30) ∨ ¬ (k < N ∧ k < 30) by omega) with ⟨hlt, hlt30⟩ | hout
    · obtain ⟨b, off, rfl, hb, hcell⟩ := hr.open1 (by omega)
      have hcW := hcell k hlt
      have hcx := (h.be.cell (p := ⟨b, off + k, none⟩) hb).trans hcW
      obtain ⟨x, hx⟩ : ∃ x, x = l.getD k 0 := ⟨_, rfl⟩
      rw [← hx] at hcW hcx
      clear hx hcell
      have hP := hide (place_any x 6 wr (by omega) (by omega))
      have m1 := Int.emod_nonneg x (show (6 : Int) ≠ 0 by omega)
      have m2 := Int.emod_lt_of_pos x (show (0 : Int) < 6 by omega)
      generalize x % 6 = r at hP m1 m2
      obtain ⟨w1, hw1⟩ : ∃ w1, w1 = wr := ⟨_, rfl⟩
      subst hw1
      rcases (show r = 0 ∨ r = 1 ∨ r = 2 ∨ r = 3 ∨ r = 4 ∨ r = 5 by omega) with rfl | rfl | rfl | rfl | rfl | rfl
      ·
        go_wp2_with fail
        refine (hP.out).mono ?_
        rintro e w' ⟨rfl, rfl⟩
        go_wp2_with fail
        refine (tTop h hE hB i64_one).mono ?_
        rintro e w6 ⟨rfl, h6⟩
        go_wp2
        go_roundw
        case rel => exact ⟨k + 1, _, _, _, by omega, by omega, by go_num, h6, (hI.one (topF_ok hI.ok1)).mono (Nat.le_succ k)⟩
        case measure => simp [intOf]; omega
      ·
        go_wp2_with fail
        refine (hP.out).mono ?_
        rintro e w' ⟨rfl, rfl⟩
        go_wp2_with fail
        refine (tCommit false _ h hE hB i64_one).mono ?_
        rintro e w6 ⟨rfl, h6⟩
        go_wp2
        go_roundw
        case rel => exact ⟨k + 1, _, _, _, by omega, by omega, by go_num, h6, (hI.one (comF_ok _ hI.ok1)).mono (Nat.le_succ k)⟩
        case measure => simp [intOf]; omega
      ·
        go_wp2_with fail
        refine (hP.out).mono ?_
        rintro e w' ⟨rfl, rfl⟩
        go_wp2_with fail
        refine (tSend (k : Int) h hE hB i64_one hI.ok1 (by omega)).mono ?_
        rintro e w6 ⟨rfl, h6⟩
        go_wp2
        go_roundw
        case rel => exact ⟨k + 1, _, _, _, by omega, by omega, by go_num, h6, (hI.mono (Nat.le_succ k)).one (sendF_ok _ hI.ok1)⟩
        case measure => simp [intOf]; omega
      ·
        go_wp2_with fail
        refine (hP.out).mono ?_
        rintro e w' ⟨rfl, rfl⟩
        go_wp2_with fail
        refine (tAck _ h hE hB i64_one hI.ok1 (by omega)).mono ?_
        rintro e w6 ⟨rfl, h6⟩
        go_wp2
        go_roundw
        case rel => exact ⟨k + 1, _, _, _, by omega, by omega, by go_num, h6, (hI.one (ackF_ok _ hI.ok1)).mono (Nat.le_succ k)⟩
        case measure => simp [intOf]; omega
      · have hs := hide hI.same2
        have e1 := hide (topK_eq (S := S) (T := T) (id := 2) hI.same2)
        go_wp2_with fail
        refine (hP.out).mono ?_
        rintro e w' ⟨rfl, rfl⟩
        go_wp2_with fail
        refine (tTop h hE hB i64_two).mono ?_
        rintro e w6 ⟨rfl, h6⟩
        go_wp2_with fail
        refine (kind_any B w6 ae (topK S 2) (hE.below (h6.be.mono hB)) (topK_le _ _)).mono ?_
        rintro e w7 ⟨rfl, b7⟩
        have h7 := h6.below b7
        go_wp2_with fail
        refine (tTop h7.swap hE hB i64_two).mono ?_
        rintro e w8 ⟨rfl, h8⟩
        rw [← e1.out]
        rw [← hs.out] at h8
        go_wp2_with fail
        refine (kind_any B w8 ae (topK S 2) (hE.below (h8.be.mono hB)) (topK_le _ _)).mono ?_
        rintro e w9 ⟨rfl, b9⟩
        have h9 := (h8.below b9).swap
        have I1 := hI.two (topF_ok hI.ok2)
        generalize setS S 2 (topF (S 2)) = S1 at h9 I1
        generalize setS T 2 (topF (S 2)) = T1 at h9 I1
        have hs1 := hide I1.same2
        have e2 := hide (sendK_eq (S := S1) (T := T1) (id := 2) I1.same2)
        go_wp2_with fail
        refine (tSend (k : Int) h9 hE hB i64_two I1.ok2 (by omega)).mono ?_
        rintro e w10 ⟨rfl, h10⟩
        go_wp2_with fail
        refine (kind_any B w10 ae (sendK S1 2) (hE.below (h10.be.mono hB)) (sendK_le _ _)).mono ?_
        rintro e w11 ⟨rfl, b11⟩
        have h11 := h10.below b11
        go_wp2_with fail
        refine (tSend (k : Int) h11.swap hE hB i64_two (hs1.out ▸ I1.ok2) (by omega)).mono ?_
        rintro e w12 ⟨rfl, h12⟩
        rw [← e2.out]
        rw [← hs1.out] at h12
        go_wp2_with fail
        refine (kind_any B w12 ae (sendK S1 2) (hE.below (h12.be.mono hB)) (sendK_le _ _)).mono ?_
        rintro e w13 ⟨rfl, b13⟩
        have h13 := (h12.below b13).swap
        have I2 := (I1.mono (Nat.le_succ k)).two (sendF_ok (k : Int) I1.ok2)
        clear e1 e2 hs hs1
        go_wp2
        go_roundw
        case rel => exact ⟨k + 1, _, _, _, by omega, by omega, by go_num, h13, I2⟩
        case measure => simp [intOf]; omega
      · have hs := hide hI.same2
        go_wp2_with fail
        refine (hP.out).mono ?_
        rintro e w' ⟨rfl, rfl⟩
        go_wp2_with fail
        refine (tCommit false _ h hE hB i64_two).mono ?_
        rintro e w6 ⟨rfl, h6⟩
        have hcx6 := (h6.be.cell (p := ⟨b, off + k, none⟩) hb).trans hcW
        go_wp2_with fail
        refine (tCommit false _ h6.swap hE hB i64_two).mono ?_
        rintro e w8 ⟨rfl, h8⟩
        rw [← comA_eq _ hs.out, ← comK_eq _ hs.out]
        rw [← hs.out] at h8
        go_wp2_with fail
        refine (kind_any B w8 ae _ (hE.below (h8.be.mono hB)) (comK_le _ _ _)).mono ?_
        rintro e w9 ⟨rfl, b9⟩
        have h9 := h8.below b9
        go_wp2_with fail
        refine (kind_any B w9 ae _ (hE.below (h9.be.mono hB)) (comK_le _ _ _)).mono ?_
        rintro e w10 ⟨rfl, b10⟩
        have h10 := (h9.below b10).swap
        have I2 := fun b => (hI.two (comF_ok b hI.ok2)).mono (Nat.le_succ k)
        clear hs
        go_wp2
        go_roundw
        case rel => exact ⟨k + 1, _, _, _, by omega, by omega, by go_num, h10, I2 _⟩
        case measure => simp [intOf]; omega
    · have hout2 : (k < N ∧ 30 ≤ k) ∨ N ≤ k := by omega
      clear hout
      rcases hout2 with ⟨ho1, ho2⟩ | ho1
      all_goals
        have hs := hide hI.same2
        have em := hide (show mapB T 2 = mapB S 2 by unfold mapB; rw [hI.same2])
        have et := hide (show topB T 2 = topB S 2 by unfold topB; rw [hI.same2])
        have en := hide (show (T 1).isSome = false by rw [hI.none1]; rfl)
        have hlen : (((S 2).map (·.2)).getD []).length ≤ k := by
          rcases h2 : S 2 with _ | ⟨st, ws⟩
          · simp
          · simpa using hI.ok2 st ws h2
        go_wp2_with fail
        refine (tMapped h i64_two).mono ?_
        rintro e w' ⟨rfl, rfl⟩
        go_wp2_with fail
        refine (tMapped h.swap i64_two).mono ?_
        rintro e w' ⟨rfl, rfl⟩
        rw [em.out]
        go_wp2_with fail
        refine (tWaits h i64_two hI.ok2 (by omega)).mono ?_
        rintro e w6 ⟨v6, rfl, o6, b6⟩
        have h6 := h.below b6
        have hok : Ok k (T 2) := hs.out ▸ hI.ok2
        go_wp2_with fail
        refine (tWaits h6.swap i64_two hok (by omega)).mono ?_
        rintro e w7 ⟨v7, rfl, o7, b7⟩
        rw [← hs.out] at o7
        have h7 := h6.below b7
        have r6 := (Rd.of_own o6).below b7 (Nat.le_refl _)
        have r7 := Rd.of_own o7
        generalize (((S 2).map (·.2)).getD []) = ws at *
        obtain ⟨A6, c6, rfl, _⟩ := own_form o6
        obtain ⟨A7, c7, rfl, _⟩ := own_form o7
        clear o6 o7
        go_wp2_with fail
        refine (sameInts_true w7 _ _ ws r6 r7 (by omega)).mono ?_
        rintro e w8 ⟨rfl, q8, hw8⟩
        have h8 : ShTwo W w8 p q nn S T := by rw [hw8]; exact h7.below (below_drewN (Below.refl _ _) q8)
        clear hw8
        go_wp2_with fail
        refine (tIsTop h8 i64_two).mono ?_
        rintro e w' ⟨rfl, rfl⟩
        go_wp2_with fail
        refine (tIsTop h8.swap i64_two).mono ?_
        rintro e w' ⟨rfl, rfl⟩
        rw [et.out]
        go_wp2_with fail
        refine (tHas h8.swap i64_one).mono ?_
        rintro e w' ⟨rfl, rfl⟩
        rw [en.out]
        go_wp2_with fail
        refine (awake18_any w8 (hE.below (h8.be.mono hB)) (Nat.le_trans hB h8.be.size)).mono ?_
        rintro e w9 ⟨rfl, b9⟩
        go_wp2
        go_ret
        exact ⟨rfl, h8.be.trans (b9.mono h8.be.size)⟩
end Go.Proofs.YtfekldcpjoiipaaDoor
