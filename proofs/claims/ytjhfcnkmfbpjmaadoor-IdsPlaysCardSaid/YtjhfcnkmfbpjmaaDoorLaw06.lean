/-
  The law IdsOthers, as a walk; layer 6's awake.
-/
import Derived.Test.YtjhfcnkmfbpjmaaDoorTab
import Derived.Test.YtjhfcnkmfbpjmaaDoorOps06
import Derived.Test.YtjhfcnkmfbpjmaaDoorLaw00
namespace Go.Proofs.YtjhfcnkmfbpjmaaDoor
open Go.RowKit

/-- A table that a call has laid since W. -/
structure TabL (W : World) (p mb n : Nat) (M : Int → Option (Int × Int)) (w : World) : Prop where
  tab : TabAt w p mb n M
  below : Below W.heap.size W w
  pge : W.heap.size ≤ p
  mge : W.heap.size ≤ mb

theorem TabL.out {W w w' : World} {p mb n : Nat} {M M' : Int → Option (Int × Int)} (h : TabL W p mb n M w) (ho : TabOut w p mb n M' w') : TabL W p mb (n + 1) M' w' :=
  ⟨ho.1, h.below.trans (ho.2.below h.below.size fun b hb => by subst hb; exact h.mge), h.pge, h.mge⟩
theorem TabL.keep {W w w' : World} {p mb n : Nat} {M : Int → Option (Int × Int)} (h : TabL W p mb n M w) (hb : Below w.heap.size w w') : TabL W p mb n M w' :=
  ⟨h.tab.below hb h.tab.lt.1 h.tab.lt.2, h.below.trans (hb.mono h.below.size), h.pge, h.mge⟩

section
variable {W w : World} {p mb n : Nat} {M : Int → Option (Int × Int)} {B : Nat} {ae : Nat → Addr}
theorem mNew (W : World) : Calls Tryd.prog 12 #[] W fun e w' => ∃ p mb, e = .returned (.pointer (some ⟨p, 0, none⟩)) ∧ TabL W p mb 1 tab0 w' := by
  refine (tNew_any W).mono ?_
  rintro e w' ⟨p, mb, rfl, ht, hb, hp, hm⟩
  exact ⟨p, mb, rfl, ht, hb, hp, hm⟩
theorem mAdd (hE : Err2 W.heap.size W ae) (h : TabL W p mb n M w) (id f v : Int) (hid : I64 id) (hn : n ≤ 1000000) :
    Calls Tryd.prog 14 #[.pointer (some ⟨p, 0, none⟩), .int .i64 id, .int .i64 f, .int .i64 v] w fun e w' => e = .returned (errV ae (addIK M id f v)) ∧ TabL W p mb (n + 1) (addIS M id f v) w' :=
  (tAdd_any w (hE.below h.below) p mb n M id f v hid h.tab hn).mono fun _ _ ⟨he, ho⟩ => ⟨he, h.out ho⟩
theorem mDrop (hE : Err2 W.heap.size W ae) (h : TabL W p mb n M w) (id : Int) (hid : I64 id) :
    Calls Tryd.prog 15 #[.pointer (some ⟨p, 0, none⟩), .int .i64 id] w fun e w' => e = .returned (errV ae (dropIK M id)) ∧ TabL W p mb (n + 1) (dropIS M id) w' :=
  (tDrop_any w (hE.below h.below) p mb n M id hid h.tab).mono fun _ _ ⟨he, ho⟩ => ⟨he, h.out ho⟩
theorem mWant (hE : Err2 W.heap.size W ae) (h : TabL W p mb n M w) (id f : Int) (hid : I64 id) :
    Calls Tryd.prog 18 #[.pointer (some ⟨p, 0, none⟩), .int .i64 id, .int .i64 f] w fun e w' => e = .returned (errV ae (wantIK M id f)) ∧ TabL W p mb n M w' :=
  (tWant_any w (hE.below h.below) p mb n M id f hid h.tab).mono fun _ _ ⟨he, ho⟩ => ⟨he, h.keep ho⟩
theorem mFace (h : TabL W p mb n M w) (id : Int) (hid : I64 id) :
    Calls Tryd.prog 16 #[.pointer (some ⟨p, 0, none⟩), .int .i64 id] w fun e w' => e = .returned (.int .i64 (faceI M id)) ∧ TabL W p mb n M w' :=
  (tFace_any w p mb n M id hid h.tab).mono fun _ _ ⟨he, ho⟩ => ⟨he, h.keep ho⟩
theorem mVersion (h : TabL W p mb n M w) (id : Int) (hid : I64 id) :
    Calls Tryd.prog 17 #[.pointer (some ⟨p, 0, none⟩), .int .i64 id] w fun e w' => e = .returned (.int .i64 (versI M id)) ∧ TabL W p mb n M w' :=
  (tVersion_any w p mb n M id hid h.tab).mono fun _ _ ⟨he, ho⟩ => ⟨he, h.keep ho⟩
end

set_option maxRecDepth 100000 in
theorem awake06_any (W : World) {ae : Nat → Addr} (hE : Err2 W.heap.size W ae) :
    Calls Tryd.prog 19 #[] W fun e w' => e = .returned (.bool true) ∧ Below W.heap.size W w' := by
  have hN := hide (mNew W)
  replace hE := hide hE
  go_enter Tryd.func19, Tryd.ntmps19
  go_wp2_with fail
  refine (hN.out).mono ?_
  rintro e w1 ⟨p, mb, rfl, h1⟩
  have c1 := mAdd hE.out h1 2 8 1 (by unfold I64; omega) (by omega)
  have k1 : addIK tab0 2 8 1 = 0 := by decide
  rw [k1] at c1
  dsimp only [errV] at c1
  replace c1 := hide c1
  clear h1 k1
  go_wp2_with fail
  refine (c1.out).mono ?_
  rintro e w2 ⟨rfl, h2⟩
  have c2 := mWant hE.out h2 2 9 (by unfold I64; omega)
  have k2 : wantIK (addIS tab0 2 8 1) 2 9 = 5 := by decide
  rw [k2] at c2
  dsimp only [errV] at c2
  replace c2 := hide c2
  clear h2 k2
  go_wp2_with fail
  refine (c2.out).mono ?_
  rintro e w3 ⟨rfl, h3⟩
  have c3 := mWant hE.out h3 2 8 (by unfold I64; omega)
  have k3 : wantIK (addIS tab0 2 8 1) 2 8 = 0 := by decide
  rw [k3] at c3
  dsimp only [errV] at c3
  replace c3 := hide c3
  clear h3 k3
  go_wp2_with fail
  refine (c3.out).mono ?_
  rintro e w4 ⟨rfl, h4⟩
  have c4 := mFace h4 1 (by unfold I64; omega)
  have k4 : faceI (addIS tab0 2 8 1) 1 = 1 := by decide
  rw [k4] at c4
  replace c4 := hide c4
  clear h4 k4
  go_wp2_with fail
  refine (c4.out).mono ?_
  rintro e w5 ⟨rfl, h5⟩
  have hb := h5.below
  clear h5
  go_wp2
  go_ret
  exact ⟨rfl, hb⟩

theorem addIS_other {M : Int → Option (Int × Int)} {id f v k : Int} (h : k ≠ id) : addIS M id f v k = M k := by
  unfold addIS; split
  · unfold setT; rw [if_neg h]
  · rfl
theorem dropIS_other {M : Int → Option (Int × Int)} {id k : Int} (h : k ≠ id) : dropIS M id k = M k := by
  unfold dropIS; split
  · unfold setT; rw [if_neg h]
  · rfl


set_option maxRecDepth 100000 in
set_option maxHeartbeats 1000000 in
theorem idsOthers_any (W : World) {ae : Nat → Addr} (hE : Err2 W.heap.size W ae) (A : Option Addr) (c : Nat) (l : List Op06) (idx : Int) (hr : Rd W (.slice A l.length c) 4 l.length (l.flatMap Op06.enc)) (hg : ∀ o ∈ l, o.good) :
    Calls Tryd.prog 3 #[.slice A l.length c, .int .i64 idx] W fun e w' => e = .returned (.bool true) ∧ Below W.heap.size W w' := by
  have hN := hide (mNew W)
  have h1 := Int.emod_nonneg idx (show (254 : Int) ≠ 0 by decide)
  have h2 := Int.emod_lt_of_pos idx (show (0 : Int) < 254 by decide)
  have hP := fun w => place_any idx 254 w (by omega) (by omega)
  obtain ⟨y, hy⟩ : ∃ y, y = idx % 254 := ⟨_, rfl⟩
  rw [← hy] at h1 h2 hP
  replace hP := hide hP
  replace hE := hide hE
  replace hg := hide hg
  clear hy
  obtain ⟨N, hN2⟩ : ∃ N, N = l.length := ⟨_, rfl⟩
  rw [← hN2] at hr ⊢
  replace hN2 := hide hN2
  replace hr := hide hr
  go_enter Tryd.func3, Tryd.ntmps3
  go_wp2_with fail
  refine (hN.out).mono ?_
  rintro e w1 ⟨p, mb, rfl, h1⟩
  go_wp2_with fail
  refine (hP.out w1).mono ?_
  rintro e w' ⟨rfl, rfl⟩
  have c1 := mAdd hE.out h1 (2 + y) 9 7 (by unfold I64; omega) (by omega)
  have k1 : addIK tab0 (2 + y) 9 7 = 0 := addIK_ok (by omega) (by unfold tab0; rw [if_neg (by omega)]) (by omega) (by omega)
  have k2 : addIS tab0 (2 + y) 9 7 (2 + y) = some (9, 7) := by rw [addIS_put k1]; unfold setT; rw [if_pos rfl]
  rw [k1] at c1
  dsimp only [errV] at c1
  replace c1 := hide c1
  have K2 := hide k2
  clear h1 k1 k2
  go_wp2_with fail
  refine (c1.out).mono ?_
  rintro e w2 ⟨rfl, h3⟩
  generalize addIS tab0 (2 + y) 9 7 = M at K2 h3
  replace h3 := hide h3
  go_wp2
  go_loopw [7] (fun i wr => ∃ (j n : Nat) (M : Int → Option (Int × Int)), j ≤ N ∧ j ≤ 60 ∧ i = .int .i64 j ∧ n ≤ 2 + j ∧ Hid (TabL W p mb n M wr) ∧ Hid (M (2 + y) = some (9, 7)))
    (fun i _ => 60 - (intOf i).toNat)
  case atStart => exact ⟨0, 2, M, Nat.zero_le _, Nat.zero_le _, rfl, Nat.le_refl _, h3, K2⟩
  clear h3 K2
  case round =>
    obtain ⟨j, n, M, hj, hj60, rfl, hn, h3, K2⟩ := hrel
    obtain ⟨wA, hA⟩ : ∃ wA, wA = wr := ⟨_, rfl⟩
    subst hA
    by_cases hlt : j < N
    · by_cases hlt60 : j < 60
      · have hgo := Op06.good_at hg.out (k := j) (by rw [← hN2.out]; exact hlt)
        have hr2 := hr.out.below h3.out.below (Nat.le_refl _)
        obtain ⟨b, off, rfl, hbl, hc0, hc1, hc2, hc3⟩ := Op06.cells hr2 hN2.out.symm hlt
        obtain ⟨o, ho⟩ : ∃ o, o = l.getD j default := ⟨_, rfl⟩
        rw [← ho] at hgo hc0 hc1 hc2 hc3
        obtain ⟨kd, id, fa, ve⟩ := o
        dsimp only at hc0 hc1 hc2 hc3
        obtain ⟨g0, g1, g2, g3⟩ := hgo
        dsimp only at g0 g1 g2 g3
        clear ho hr2
        go_wp2_with fail
        · have e1 : id = 2 + y := by
            have hq : (id == 2 + y) = true := by assumption
            simpa using hq
          refine (mDrop hE.out (h3.out.keep ((Below.refl _ _).alloc (Nat.le_refl _) _)) (wrap64 (id + 1)) (i64_of_wf (wrap64_wf _))).mono ?_
          rintro e w5 ⟨rfl, h5⟩
          have K5 := K2.out
          rw [← dropIS_other (M := M) (id := wrap64 (id + 1)) (k := 2 + y) (by unfold wrap64; omega)] at K5
          replace K5 := hide K5
          go_wp2
          go_roundw
          case rel => exact ⟨j + 1, n + 1, _, by omega, by omega, by go_num, by omega, h5, K5⟩
          case measure => simp [intOf]; omega
        · have e1 : id = 2 + y := by
            have hq : (id == 2 + y) = true := by assumption
            simpa using hq
          refine (mAdd hE.out (h3.out.keep ((Below.refl _ _).alloc (Nat.le_refl _) _)) (wrap64 (id + 1)) fa ve (i64_of_wf (wrap64_wf _)) (by omega)).mono ?_
          rintro e w5 ⟨rfl, h5⟩
          have K5 := K2.out
          rw [← addIS_other (M := M) (id := wrap64 (id + 1)) (f := fa) (v := ve) (k := 2 + y) (by unfold wrap64; omega)] at K5
          replace K5 := hide K5
          go_wp2
          go_roundw
          case rel => exact ⟨j + 1, n + 1, _, by omega, by omega, by go_num, by omega, h5, K5⟩
          case measure => simp [intOf]; omega
        · have e1 : id ≠ 2 + y := by
            have hq : (id == 2 + y) = false := by assumption
            simpa using hq
          refine (mDrop hE.out (h3.out.keep ((Below.refl _ _).alloc (Nat.le_refl _) _)) id g1).mono ?_
          rintro e w5 ⟨rfl, h5⟩
          have K5 := K2.out
          rw [← dropIS_other (M := M) (id := id) (k := 2 + y) (by omega)] at K5
          replace K5 := hide K5
          go_wp2
          go_roundw
          case rel => exact ⟨j + 1, n + 1, _, by omega, by omega, by go_num, by omega, h5, K5⟩
          case measure => simp [intOf]; omega
        · have e1 : id ≠ 2 + y := by
            have hq : (id == 2 + y) = false := by assumption
            simpa using hq
          refine (mAdd hE.out (h3.out.keep ((Below.refl _ _).alloc (Nat.le_refl _) _)) id fa ve g1 (by omega)).mono ?_
          rintro e w5 ⟨rfl, h5⟩
          have K5 := K2.out
          rw [← addIS_other (M := M) (id := id) (f := fa) (v := ve) (k := 2 + y) (by omega)] at K5
          replace K5 := hide K5
          go_wp2
          go_roundw
          case rel => exact ⟨j + 1, n + 1, _, by omega, by omega, by go_num, by omega, h5, K5⟩
          case measure => simp [intOf]; omega
      · have hx : 60 ≤ (j : Int) := by omega
        have d1 := mFace h3.out (2 + y) (by unfold I64; omega)
        rw [show faceI M (2 + y) = 9 by simp [faceI, K2.out]] at d1
        replace d1 := hide d1
        go_wp2_with fail
        refine (d1.out).mono ?_
        rintro e w5 ⟨rfl, h5⟩
        have d2 := mVersion h5 (2 + y) (by unfold I64; omega)
        rw [show versI M (2 + y) = 7 by simp [versI, K2.out]] at d2
        replace d2 := hide d2
        clear h5
        go_wp2_with fail
        refine (d2.out).mono ?_
        rintro e w6 ⟨rfl, h6⟩
        have d3 := mWant hE.out h6 (2 + y) 9 (by unfold I64; omega)
        rw [show wantIK M (2 + y) 9 = 0 by simp [wantIK, K2.out]] at d3
        dsimp only [errV] at d3
        replace d3 := hide d3
        clear h6
        go_wp2_with fail
        refine (d3.out).mono ?_
        rintro e w7 ⟨rfl, h7⟩
        have hb7 := hide h7.below
        clear h7
        have d4 := awake06_any w7 ((hE.out.below hb7.out).wider hb7.out.size)
        replace d4 := hide d4
        go_wp2_with fail
        refine (d4.out).mono ?_
        rintro e w8 ⟨rfl, hb8⟩
        go_wp2
        go_ret
        exact ⟨rfl, hb7.out.trans (hb8.mono hb7.out.size)⟩
    · have hx : (N : Int) ≤ j := by omega
      have d1 := mFace h3.out (2 + y) (by unfold I64; omega)
      rw [show faceI M (2 + y) = 9 by simp [faceI, K2.out]] at d1
      replace d1 := hide d1
      go_wp2_with fail
      refine (d1.out).mono ?_
      rintro e w5 ⟨rfl, h5⟩
      have d2 := mVersion h5 (2 + y) (by unfold I64; omega)
      rw [show versI M (2 + y) = 7 by simp [versI, K2.out]] at d2
      replace d2 := hide d2
      clear h5
      go_wp2_with fail
      refine (d2.out).mono ?_
      rintro e w6 ⟨rfl, h6⟩
      have d3 := mWant hE.out h6 (2 + y) 9 (by unfold I64; omega)
      rw [show wantIK M (2 + y) 9 = 0 by simp [wantIK, K2.out]] at d3
      dsimp only [errV] at d3
      replace d3 := hide d3
      clear h6
      go_wp2_with fail
      refine (d3.out).mono ?_
      rintro e w7 ⟨rfl, h7⟩
      have hb7 := hide h7.below
      clear h7
      have d4 := awake06_any w7 ((hE.out.below hb7.out).wider hb7.out.size)
      replace d4 := hide d4
      go_wp2_with fail
      refine (d4.out).mono ?_
      rintro e w8 ⟨rfl, hb8⟩
      go_wp2
      go_ret
      exact ⟨rfl, hb7.out.trans (hb8.mono hb7.out.size)⟩
end Go.Proofs.YtjhfcnkmfbpjmaaDoor
