/-
  The law ForestRoles, as a walk.
-/
import Derived.Test.YthkjicnnepkghaaDoorLaw17
namespace Go.Proofs.YthkjicnnepkghaaDoor
open Go.RowKit
set_option linter.unusedVariables false

set_option maxRecDepth 100000 in
set_option maxHeartbeats 2000000 in
theorem forestRoles_any (W : World) {ae : Nat → Addr} (hE : Errs W.heap.size W ae) (n a b : Int) :
    Calls Tryd.prog 4 #[.int .i64 n, .int .i64 a, .int .i64 b] W fun e w' => e = .returned (.bool true) ∧ Below W.heap.size W w' := by
  have cN := hide (mNew W)
  replace hE := hide hE
  obtain ⟨K, hK, hK2, hK7⟩ : ∃ K : Nat, n % 6 = (K : Int) - 2 ∧ 2 ≤ K ∧ K ≤ 7 := ⟨(n % 6 + 2).toNat, by omega, by omega, by omega⟩
  have cP := place_any n 6 W (by omega) (by omega)
  rw [hK] at cP
  replace cP := hide cP
  have e2 : (2 : Int) + ((K : Int) - 2) = K := by omega
  clear hK
  go_enter Tryd.func4, Tryd.ntmps4
  go_wp2_with fail
  refine cP.out.mono ?_
  rintro e w' ⟨rfl, rfl⟩
  go_wp2_with fail
  refine cN.out.mono ?_
  rintro e w1 ⟨p, rfl, h1⟩
  replace h1 := hide h1
  clear cP cN
  go_wp2
  go_loopw [9] (fun i wr => ∃ j : Nat, j ≤ K ∧ i = .int .i64 ((j : Int) + 1) ∧ Hid (FL W p (2 * j) j (1 + 3 * j) (lineR j) wr)) (fun i _ => K + 1 - (intOf i).toNat)
  case atStart => exact ⟨0, Nat.zero_le _, rfl, h1⟩
  clear h1
  case round =>
    obtain ⟨j, hj, rfl, h⟩ := hrel
    obtain ⟨wA, hA⟩ : ∃ wA, wA = wr := ⟨_, rfl⟩
    subst hA
    by_cases hlt : j < K
    · obtain ⟨f1, f2⟩ := line_facts j (by omega)
      have cA := hide (mAdd0 hE.out h.out ((j : Int) + 1) (i64_small (by omega) (by omega)) (by omega) (by omega) f1)
      by_cases hj0 : j = 0
      · subst hj0
        clear f1 f2 h
        go_wp2_with fail
        refine cA.out.mono ?_
        rintro e w2 ⟨rfl, h2⟩
        have h3 : Hid (FL W p (2 * 1) 1 (1 + 3 * 1) (lineR 1) w2) := hide (h2.mono (by omega) (by omega))
        clear h2
        go_wp2
        go_roundw
        case rel => exact ⟨1, by omega, by go_num, h3⟩
        case measure => simp [intOf]; omega
      · obtain ⟨f3, f4⟩ := f2 hj0
        have f5 := (fsubK_eq f3).trans f4
        have hl : lineR (j + 1) = subbed (setM (lineR j) ((j : Int) + 1) (some newSf)) ((j : Int) + 1) j := by show (if j = 0 then _ else _) = _; rw [if_neg hj0]
        replace hl := hide hl
        replace f5 := hide f5
        clear f1 f2 f3 f4 h
        go_wp2_with fail
        refine cA.out.mono ?_
        rintro e w2 ⟨rfl, h2⟩
        have cS := mSub hE.out h2 ((j : Int) + 1) j (i64_small (by omega) (by omega)) (i64_small (by omega) (by omega)) (by omega)
        rw [f5.out, fsubS_zero f5.out, errV0, ← hl.out] at cS
        replace cS := hide cS
        clear h2 cA hl f5
        go_wp2_with fail
        refine cS.out.mono ?_
        rintro e w3 ⟨rfl, h3⟩
        replace h3 := hide (h3.mono (show 2 * j + 1 + 1 ≤ 2 * (j + 1) by omega) (show 1 + 3 * j + 1 + 2 ≤ 1 + 3 * (j + 1) by omega))
        clear cS
        go_wp2
        go_roundw
        case rel => exact ⟨j + 1, by omega, by go_num, h3⟩
        case measure => simp [intOf]; omega
    · obtain rfl : j = K := by omega
      obtain ⟨I, hI, hI1, hIK⟩ : ∃ I : Nat, a % (j : Int) = (I : Int) - 1 ∧ 1 ≤ I ∧ I ≤ j := by
        have q1 := Int.emod_nonneg a (show (j : Int) ≠ 0 by omega)
        have q2 := Int.emod_lt_of_pos a (show (0 : Int) < j by omega)
        exact ⟨(a % (j : Int) + 1).toNat, by omega, by omega, by omega⟩
      obtain ⟨J, hJ, hJ1, hJK⟩ : ∃ J : Nat, b % (j : Int) = (J : Int) - 1 ∧ 1 ≤ J ∧ J ≤ j := by
        have q1 := Int.emod_nonneg b (show (j : Int) ≠ 0 by omega)
        have q2 := Int.emod_lt_of_pos b (show (0 : Int) < j by omega)
        exact ⟨(b % (j : Int) + 1).toNat, by omega, by omega, by omega⟩
      have cA := place_any a j wA (by omega) (by omega)
      have cB := place_any b j wA (by omega) (by omega)
      rw [hI] at cA
      rw [hJ] at cB
      replace cA := hide cA
      replace cB := hide cB
      have hf0 := hide (line_ends hK2 hK7 hI1 hIK hJ1 hJK)
      have hf := hide (line_ends2 hK2 hK7 hI1 hIK)
      have eI : (1 : Int) + ((I : Int) - 1) = I := by omega
      have eJ : (1 : Int) + ((J : Int) - 1) = J := by omega
      clear hlt hI hJ e2
      go_wp2_with fail
      refine cA.out.mono ?_
      rintro e w' ⟨rfl, rfl⟩
      go_wp2_with fail
      refine cB.out.mono ?_
      rintro e w' ⟨rfl, rfl⟩
      clear cA cB
      by_cases h1 : I = 1
      · have e0 := hf0.out
        rw [if_pos h1] at e0
        have h1b : ((I : Int) == 1) = true := by simp; omega
        replace e0 := hide e0
        clear hf0 h1
        have cS := mSub hE.out h.out I J (i64_small (by omega) (by omega)) (i64_small (by omega) (by omega)) (by omega)
        rw [fsubS_not (by rw [e0.out]; decide), e0.out] at cS
        replace cS := hide cS
        go_wp2_with fail
        refine (cS.out).mono ?_
        rintro e w1 ⟨rfl, h1⟩
        have cK := hide (mKind hE.out h1 11 (by decide))
        clear h1 h cS eI eJ
        go_wp2_with fail
        refine (cK.out).mono ?_
        rintro e w2 ⟨rfl, h2⟩
        have cT := mSub hE.out h2 I 99 (i64_small (by omega) (by omega)) (i64_small (by omega) (by omega)) (by omega)
        rw [fsubS_not (by rw [hf.out.1]; decide), hf.out.1] at cT
        replace cT := hide cT
        clear h2 cK
        go_wp2_with fail
        refine (cT.out).mono ?_
        rintro e w3 ⟨rfl, h3⟩
        have cK := hide (mKind hE.out h3 5 (by decide))
        clear h3 cT
        go_wp2_with fail
        refine (cK.out).mono ?_
        rintro e w4 ⟨rfl, h4⟩
        have cP := mPosition hE.out h4 1 0 0 i64_1 (by omega)
        rw [fposS_not (by rw [hf.out.2.1]; decide), hf.out.2.1] at cP
        replace cP := hide cP
        clear h4 cK
        go_wp2_with fail
        refine (cP.out).mono ?_
        rintro e w5 ⟨rfl, h5⟩
        have cK := hide (mKind hE.out h5 10 (by decide))
        clear h5 cP
        go_wp2_with fail
        refine (cK.out).mono ?_
        rintro e w6 ⟨rfl, h6⟩
        have cR := mParent h6 j (i64_small (by omega) (by omega))
        rw [hf.out.2.2] at cR
        replace cR := hide cR
        clear h6 cK
        go_wp2_with fail
        refine (cR.out).mono ?_
        rintro e w7 ⟨rfl, h7⟩
        have hb7 := hide h7.below
        have cA := hide (awake17_any w7 ((hE.out.below h7.below).wider h7.below.size))
        clear h7 cR
        go_wp2_with fail
        refine (cA.out).mono ?_
        rintro e w8 ⟨rfl, hb8⟩
        go_wp2
        go_ret
        exact ⟨rfl, hb7.out.trans (hb8.mono hb7.out.size)⟩
      · have e0 := hf0.out
        rw [if_neg h1] at e0
        have h1b : ((I : Int) == 1) = false := by simp; omega
        replace e0 := hide e0
        clear hf0 h1
        have cS := mSub hE.out h.out I J (i64_small (by omega) (by omega)) (i64_small (by omega) (by omega)) (by omega)
        rw [fsubS_not (by rw [e0.out]; decide), e0.out] at cS
        replace cS := hide cS
        go_wp2_with fail
        refine (cS.out).mono ?_
        rintro e w1 ⟨rfl, h1⟩
        have cK := hide (mKind hE.out h1 10 (by decide))
        clear h1 h cS eI eJ
        go_wp2_with fail
        refine (cK.out).mono ?_
        rintro e w2 ⟨rfl, h2⟩
        have cT := mSub hE.out h2 I 99 (i64_small (by omega) (by omega)) (i64_small (by omega) (by omega)) (by omega)
        rw [fsubS_not (by rw [hf.out.1]; decide), hf.out.1] at cT
        replace cT := hide cT
        clear h2 cK
        go_wp2_with fail
        refine (cT.out).mono ?_
        rintro e w3 ⟨rfl, h3⟩
        have cK := hide (mKind hE.out h3 5 (by decide))
        clear h3 cT
        go_wp2_with fail
        refine (cK.out).mono ?_
        rintro e w4 ⟨rfl, h4⟩
        have cP := mPosition hE.out h4 1 0 0 i64_1 (by omega)
        rw [fposS_not (by rw [hf.out.2.1]; decide), hf.out.2.1] at cP
        replace cP := hide cP
        clear h4 cK
        go_wp2_with fail
        refine (cP.out).mono ?_
        rintro e w5 ⟨rfl, h5⟩
        have cK := hide (mKind hE.out h5 10 (by decide))
        clear h5 cP
        go_wp2_with fail
        refine (cK.out).mono ?_
        rintro e w6 ⟨rfl, h6⟩
        have cR := mParent h6 j (i64_small (by omega) (by omega))
        rw [hf.out.2.2] at cR
        replace cR := hide cR
        clear h6 cK
        go_wp2_with fail
        refine (cR.out).mono ?_
        rintro e w7 ⟨rfl, h7⟩
        have hb7 := hide h7.below
        have cA := hide (awake17_any w7 ((hE.out.below h7.below).wider h7.below.size))
        clear h7 cR
        go_wp2_with fail
        refine (cA.out).mono ?_
        rintro e w8 ⟨rfl, hb8⟩
        go_wp2
        go_ret
        exact ⟨rfl, hb7.out.trans (hb8.mono hb7.out.size)⟩
end Go.Proofs.YthkjicnnepkghaaDoor
