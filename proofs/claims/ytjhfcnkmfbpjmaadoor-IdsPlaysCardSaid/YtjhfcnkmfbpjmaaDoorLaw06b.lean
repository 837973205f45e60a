/-
  The law IdsFull, as a walk.
-/
import Derived.Test.YtjhfcnkmfbpjmaaDoorLaw06
import Derived.Test.YtjhfcnkmfbpjmaaDoorTab2
import Derived.Test.YtjhfcnkmfbpjmaaDoorErrs2
namespace Go.Proofs.YtjhfcnkmfbpjmaaDoor
open Go.RowKit

section
variable {W w : World} {p mb n : Nat} {M : Int → Option (Int × Int)} {ae : Nat → Addr}
theorem mKind (hE : Errs W.heap.size W ae) (h : TabL W p mb n M w) (k : Nat) (hk : k ≤ 16) :
    Calls Tryd.prog 21 #[errV ae k] w fun e w' => e = .returned (.int .i64 k) ∧ TabL W p mb n M w' :=
  (kind_any W.heap.size w ae k (hE.below h.below) hk).mono fun _ _ ⟨he, ho⟩ => ⟨he, h.keep ho⟩
theorem mAll (h : TabL W p mb n M w) (hn : n ≤ 1000000) :
    Calls Tryd.prog 28 #[.pointer (some ⟨p, 0, none⟩)] w fun e w' => ∃ A c l, e = .returned (.slice A l.length c) ∧ NumsOf M l ∧ l.length ≤ n ∧ Rd w' (.slice A l.length c) 1 l.length (l.map (Value.int .i64)) ∧ TabL W p mb n M w' ∧ Below w.heap.size w w' := by
  refine (tAll_any w p mb n M h.tab hn).mono ?_
  rintro e w' ⟨v, l, rfl, hk, hl, hr, _, hb⟩
  obtain ⟨A, c, rfl, _⟩ := own_form hr
  exact ⟨A, c, l, rfl, hk, hl, Rd.of_own hr, h.keep hb, hb⟩
theorem mOf (h : TabL W p mb n M w) (hn : n ≤ 1000000) (h1 : (M 1).isSome = true) (f : Int) :
    Calls Tryd.prog 29 #[.pointer (some ⟨p, 0, none⟩), .int .i64 f] w fun e w' => ∃ A c l q, e = .returned (.slice A q.length c) ∧ NumsOf M l ∧ l.length ≤ n ∧ q = l.filter (fun x => !(faceI M x != f)) ∧ Rd w' (.slice A q.length c) 1 q.length (q.map (Value.int .i64)) ∧ TabL W p mb n M w' ∧ Below w.heap.size w w' := by
  refine (tOf_any w p mb n M f h.tab hn h1).mono ?_
  rintro e w' ⟨v, l, rfl, hk, hl, hr, hb⟩
  have hr2 := hr
  obtain ⟨_, A, c, rfl, _⟩ := hr2
  exact ⟨A, c, l, _, rfl, hk, hl, rfl, hr, h.keep hb, hb⟩
end

theorem dropIS_same {M : Int → Option (Int × Int)} {id : Int} (h : dropIK M id = 5) : dropIS M id = M := by unfold dropIS; rw [if_neg (by rw [h]; decide)]
theorem dropIS_gone {M : Int → Option (Int × Int)} {id : Int} (h : dropIK M id = 0) : dropIS M id = setT M id none := by unfold dropIS; rw [if_pos h]

/-- All numbers below i, of one face. -/
def fullM (f : Int) (i : Int) : Int → Option (Int × Int) := fun j => if j = 1 then some (1, 1) else if 2 ≤ j ∧ j < i then some (f, 3) else none

theorem fullM_start (f : Int) : tab0 = fullM f 2 := by
  funext j; unfold tab0 fullM
  by_cases h : j = 1
  · rw [if_pos h, if_pos h]
  · rw [if_neg h, if_neg h, if_neg (by omega)]
theorem fullM_step (f i : Int) (h1 : 2 ≤ i) : setT (fullM f i) i (some (f, 3)) = fullM f (i + 1) := by
  funext j; unfold setT fullM
  by_cases h : j = i
  · rw [if_pos h, if_neg (by omega), if_pos (by omega)]
  · rw [if_neg h]
    by_cases h2 : j = 1
    · rw [if_pos h2, if_pos h2]
    · rw [if_neg h2, if_neg h2]
      by_cases h3 : 2 ≤ j ∧ j < i
      · rw [if_pos h3, if_pos (by omega)]
      · rw [if_neg h3, if_neg (by omega)]

theorem fullM_nums {f : Int} {l : List Int} (h : NumsOf (fullM f 256) l) : l.length = 255 := by
  have e : l = (List.range 255).map fun i : Nat => (i : Int) + 1 := by
    refine rising_one h.1 ?_ fun x => (h.2 x).trans ?_
    · refine List.pairwise_map.2 ((List.pairwise_lt_range (n := 255)).imp fun {a b} hab => by omega)
    · simp only [Option.isSome_map, List.mem_map, List.mem_range]
      constructor
      · rintro ⟨_, hs⟩
        have : 1 ≤ x ∧ x ≤ 255 := by
          unfold fullM at hs
          by_cases h1 : x = 1
          · omega
          · rw [if_neg h1] at hs
            by_cases h2 : 2 ≤ x ∧ x < 256
            · omega
            · rw [if_neg h2] at hs; cases hs
        exact ⟨(x - 1).toNat, by omega, by omega⟩
      · rintro ⟨i, hi, rfl⟩
        refine ⟨by unfold I64; omega, ?_⟩
        unfold fullM
        by_cases h1 : (i : Int) + 1 = 1
        · rw [if_pos h1]; rfl
        · rw [if_neg h1, if_pos (by omega)]; rfl
  rw [e]; simp

set_option maxRecDepth 100000 in
set_option maxHeartbeats 2000000 in
theorem idsFull_any (W : World) {ae : Nat → Addr} (hE : Errs W.heap.size W ae) (a fc : Int) :
    Calls Tryd.prog 5 #[.int .i64 a, .int .i64 fc] W fun e w' => e = .returned (.bool true) ∧ Below W.heap.size W w' := by
  have hN := hide (mNew W)
  have hE2 := hide hE.two
  have a1 := Int.emod_nonneg a (show (254 : Int) ≠ 0 by decide)
  have a2 := Int.emod_lt_of_pos a (show (0 : Int) < 254 by decide)
  have hPa := fun w => place_any a 254 w (by omega) (by omega)
  obtain ⟨y, hy⟩ : ∃ y, y = a % 254 := ⟨_, rfl⟩
  rw [← hy] at a1 a2 hPa
  have f1 := Int.emod_nonneg fc (show (17 : Int) ≠ 0 by decide)
  have f2 := Int.emod_lt_of_pos fc (show (0 : Int) < 17 by decide)
  have hPf := fun w => place_any fc 17 w (by omega) (by omega)
  obtain ⟨z, hz⟩ : ∃ z, z = fc % 17 := ⟨_, rfl⟩
  rw [← hz] at f1 f2 hPf
  replace hPa := hide hPa
  replace hPf := hide hPf
  replace hE := hide hE
  clear hy hz
  go_enter Tryd.func5, Tryd.ntmps5
  go_wp2_with fail
  refine (hN.out).mono ?_
  rintro e w1 ⟨p, mb, rfl, h1⟩
  rw [fullM_start (1 + z)] at h1
  replace h1 := hide h1
  go_wp2_with fail
  refine (hPf.out w1).mono ?_
  rintro e w' ⟨rfl, rfl⟩
  go_wp2
  go_loopw [7] (fun i wr => ∃ (j n : Nat), 2 ≤ j ∧ j ≤ 256 ∧ i = .int .i64 j ∧ n ≤ 2 * j ∧ Hid (TabL W p mb n (fullM (1 + z) j) wr))
    (fun i _ => 256 - (intOf i).toNat)
  case atStart => exact ⟨2, 1, Nat.le_refl _, by omega, rfl, by omega, h1⟩
  clear h1
  case round =>
    obtain ⟨j, n, hj2, hj, rfl, hn, h1⟩ := hrel
    obtain ⟨wA, hA⟩ : ∃ wA, wA = wr := ⟨_, rfl⟩
    subst hA
    by_cases hlt : j < 256
    · have hlt' : (j : Int) ≤ 255 := by omega
      have c1 := mAdd hE2.out h1.out j (1 + z) 3 (by unfold I64; omega) (by omega)
      have k1 : addIK (fullM (1 + z) j) j (1 + z) 3 = 0 := addIK_ok (by omega) (by unfold fullM; rw [if_neg (by omega), if_neg (by omega)]) (by omega) (by omega)
      rw [addIS_put k1, k1, fullM_step _ _ (by omega)] at c1
      dsimp only [errV] at c1
      replace c1 := hide c1
      clear k1
      go_wp2_with fail
      refine (c1.out).mono ?_
      rintro e w2 ⟨rfl, h2⟩
      have c2 := mAdd hE2.out h2 j (1 + z) 3 (by unfold I64; omega) (by omega)
      have k2 : addIK (fullM (1 + z) (j + 1)) j (1 + z) 3 = 5 := addIK_obj (by omega) (.inl (by unfold fullM; rw [if_neg (by omega), if_pos (by omega)]; rfl))
      rw [addIS_same (by rw [k2]; decide), k2] at c2
      replace c2 := hide c2
      clear k2 h2
      go_wp2_with fail
      refine (c2.out).mono ?_
      rintro e w3 ⟨rfl, h3⟩
      have c3 := hide (mKind hE.out h3 5 (by decide))
      clear h3
      go_wp2_with fail
      refine (c3.out).mono ?_
      rintro e w4 ⟨rfl, h4⟩
      replace h4 := hide h4
      go_wp2
      go_roundw
      case rel => exact ⟨j + 1, n + 1 + 1, by omega, by omega, by go_num, by omega, h4⟩
      case measure => simp [intOf]; omega
    · obtain rfl : j = 256 := by omega
      have h2 := h1.out
      rw [show ((256 : Nat) : Int) = 256 by rfl] at h2
      replace h2 := hide h2
      clear h1 hlt
      go_wp2_with fail
      refine (hPa.out wA).mono ?_
      rintro e w' ⟨rfl, rfl⟩
      have c1 := hide (mAll h2.out (by omega))
      clear h2
      go_wp2_with fail
      refine (c1.out).mono ?_
      rintro e w2 ⟨A, c, l, rfl, hk, _, _, h3, _⟩
      have hl := fullM_nums hk
      rw [hl]
      clear hk hl
      have c2 := mAdd hE2.out h3 256 (1 + z) 1 (by unfold I64; omega) (by omega)
      have k2 : addIK (fullM (1 + z) 256) 256 (1 + z) 1 = 5 := addIK_obj (by omega) (.inr (.inr (by omega)))
      rw [addIS_same (by rw [k2]; decide), k2] at c2
      dsimp only [errV] at c2
      replace c2 := hide c2
      clear k2 h3
      go_wp2_with fail
      refine (c2.out).mono ?_
      rintro e w3 ⟨rfl, h4⟩
      have c3 := mDrop hE2.out h4 1 (by unfold I64; omega)
      have k3 : dropIK (fullM (1 + z) 256) 1 = 5 := by simp [dropIK]
      rw [dropIS_same k3, k3] at c3
      dsimp only [errV] at c3
      replace c3 := hide c3
      clear k3 h4
      go_wp2_with fail
      refine (c3.out).mono ?_
      rintro e w4 ⟨rfl, h5⟩
      have c4 := mDrop hE2.out h5 (2 + y) (by unfold I64; omega)
      have m4 : fullM (1 + z) 256 (2 + y) = some (1 + z, 3) := by unfold fullM; rw [if_neg (by omega), if_pos (by omega)]
      have k4 : dropIK (fullM (1 + z) 256) (2 + y) = 0 := by unfold dropIK; rw [m4, if_pos ⟨rfl, by omega⟩]
      rw [dropIS_gone k4, k4] at c4
      have m1 : (setT (fullM (1 + z) 256) (2 + y) none) 1 = some (1, 1) := by unfold setT fullM; rw [if_neg (by omega), if_pos rfl]
      have m5 : (setT (fullM (1 + z) 256) (2 + y) none) (2 + y) = none := by unfold setT; rw [if_pos rfl]
      generalize setT (fullM (1 + z) 256) (2 + y) none = M1 at c4 m1 m5
      dsimp only [errV] at c4
      replace c4 := hide c4
      clear k4 m4 h5
      go_wp2_with fail
      refine (c4.out).mono ?_
      rintro e w5 ⟨rfl, h6⟩
      have c5 := mDrop hE2.out h6 (2 + y) (by unfold I64; omega)
      have k5 : dropIK M1 (2 + y) = 5 := by simp [dropIK, m5]
      rw [dropIS_same k5, k5] at c5
      dsimp only [errV] at c5
      replace c5 := hide c5
      clear k5 h6
      go_wp2_with fail
      refine (c5.out).mono ?_
      rintro e w6 ⟨rfl, h7⟩
      have c6 := mFace h7 (2 + y) (by unfold I64; omega)
      rw [show faceI M1 (2 + y) = 0 by simp [faceI, m5]] at c6
      replace c6 := hide c6
      clear h7
      go_wp2_with fail
      refine (c6.out).mono ?_
      rintro e w7 ⟨rfl, h8⟩
      have q0 : (1 + z).tmod 17 = (1 + z) % 17 := Int.tmod_eq_emod_of_nonneg (by omega)
      have q1 := Int.emod_nonneg (1 + z) (show (17 : Int) ≠ 0 by decide)
      have q2 := Int.emod_lt_of_pos (1 + z) (show (0 : Int) < 17 by decide)
      obtain ⟨u, hu⟩ : ∃ u, u = (1 + z) % 17 := ⟨_, rfl⟩
      rw [← hu] at q0 q1 q2
      clear hu
      have c7 := mAdd hE2.out h8 (2 + y) (1 + u) 2 (by unfold I64; omega) (by omega)
      have k7 : addIK M1 (2 + y) (1 + u) 2 = 0 := addIK_ok (by omega) m5 (by omega) (by omega)
      rw [addIS_put k7, k7] at c7
      have n1 : (setT M1 (2 + y) (some (1 + u, 2))) 1 = some (1, 1) := by unfold setT; rw [if_neg (by omega)]; exact m1
      have n2 : (setT M1 (2 + y) (some (1 + u, 2))) (2 + y) = some (1 + u, 2) := by unfold setT; rw [if_pos rfl]
      generalize setT M1 (2 + y) (some (1 + u, 2)) = M2 at c7 n1 n2
      dsimp only [errV] at c7
      replace c7 := hide c7
      replace n1 := hide n1
      replace n2 := hide n2
      clear k7 h8 m1 m5
      go_wp2_with fail
      refine (c7.out).mono ?_
      rintro e w8 ⟨rfl, h9⟩
      have c8 := mVersion h9 (2 + y) (by unfold I64; omega)
      rw [show versI M2 (2 + y) = 2 by simp [versI, n2.out]] at c8
      replace c8 := hide c8
      clear h9
      go_wp2_with fail
      refine (c8.out).mono ?_
      rintro e w9 ⟨rfl, h10⟩
      have c9 := hide (mOf h10 (by omega) (by rw [n1.out]; rfl) (1 + u))
      clear h10
      go_wp2_with fail
      refine (c9.out).mono ?_
      rintro e w10 ⟨A, c, l, q, rfl, hk, hll, hq, _, h11, _⟩
      have hql : 1 ≤ q.length := by
        have hm : (2 + y) ∈ q := by
          rw [hq]
          refine List.mem_filter.2 ⟨(hk.2 _).2 ⟨by unfold I64; omega, by simp [n2.out]⟩, by simp [faceI, n2.out]⟩
        exact List.length_pos_of_mem hm
      generalize q.length = ql at hql
      clear hq hk hll
      have hbd := hide h11.below
      have ca := hide (awake06_any w10 ((hE2.out.below h11.below).wider h11.below.size))
      clear h11
      go_wp2_with fail
      refine (ca.out).mono ?_
      rintro e w11 ⟨rfl, hb12⟩
      go_wp2
      go_ret
      exact ⟨rfl, hbd.out.trans (hb12.mono hbd.out.size)⟩
end Go.Proofs.YtjhfcnkmfbpjmaaDoor
