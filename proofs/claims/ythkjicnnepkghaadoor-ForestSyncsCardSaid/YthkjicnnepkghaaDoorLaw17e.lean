/-
  The law ForestSyncs, as a walk.
-/
import Derived.Test.YthkjicnnepkghaaDoorLaw17
import Derived.Test.YthkjicnnepkghaaDoorLaw17d
import Derived.Test.YthkjicnnepkghaaDoorFLaw
namespace Go.Proofs.YthkjicnnepkghaaDoor
open Go.RowKit
set_option linter.unusedVariables false

set_option maxRecDepth 100000 in
set_option maxHeartbeats 4000000 in
theorem forestSyncs_any (W : World) {ae : Nat → Addr} (hE : ErrF W.heap.size W ae) (n : Int) (A : Option Addr) (cp : Nat) (l : List Int) (hr : Rd W (.slice A l.length cp) 1 l.length (l.map (Value.int .i64))) (hl : l.length ≤ 9223372036854775807) :
    Calls Tryd.prog 5 #[.int .i64 n, .slice A l.length cp] W fun e w' => e = .returned (.bool true) ∧ Below W.heap.size W w' := by
  have cN := hide (mNew W)
  have hfld := Tryd.stBuffer
  have hb0 : Hid (OldCells W) := hide ⟨fun hb a v hc => (hb.cell (block_lt_of_cell hc)).trans hc⟩
  replace hE := hide hE
  obtain ⟨L, hL⟩ : ∃ L, L = l.length := ⟨_, rfl⟩
  rw [← hL] at hr hl ⊢
  replace hL := hide hL
  replace hr := hide hr
  obtain ⟨K, hK, hK2, hK7⟩ : ∃ K : Nat, n % 6 = (K : Int) - 2 ∧ 2 ≤ K ∧ K ≤ 7 := ⟨(n % 6 + 2).toNat, by omega, by omega, by omega⟩
  have cP := place_any n 6 W (by omega) (by omega)
  rw [hK] at cP
  replace cP := hide cP
  have e2 : (2 : Int) + ((K : Int) - 2) = K := by omega
  have hS := hide (syncFacts hK2 hK7)
  clear hK
  go_enter Tryd.func5, Tryd.ntmps5
  go_wp2_with fail
  refine cP.out.mono ?_
  rintro e w' ⟨rfl, rfl⟩
  go_wp2_with fail
  refine cN.out.mono ?_
  rintro e w1 ⟨p, rfl, h1⟩
  replace h1 := hide h1
  clear cP cN
  go_wp2
  go_loopw [7] (fun i wr => ∃ j : Nat, j ≤ K ∧ i = .int .i64 ((j : Int) + 1) ∧ Hid (FL W p (3 * j) j (1 + 3 * j) (lineA j) wr)) (fun i _ => K + 1 - (intOf i).toNat)
  case atStart => exact ⟨0, Nat.zero_le _, rfl, h1⟩
  clear h1
  case round =>
    obtain ⟨j, hj, rfl, h⟩ := hrel
    obtain ⟨wA, hA⟩ : ∃ wA, wA = wr := ⟨_, rfl⟩
    subst hA
    by_cases hlt : j < K
    · obtain ⟨f1, f2, f3⟩ := lineA_facts (show j < 7 by omega)
      have cA := hide (mAdd0 hE.out h.out ((j : Int) + 1) (i64_small (by omega) (by omega)) (by omega) (by omega) f1)
      replace f3 := hide f3
      by_cases hj0 : j = 0
      · subst hj0
        clear f1 f2 h
        go_wp2_with fail
        refine cA.out.mono ?_
        rintro e w2 ⟨rfl, h2⟩
        have cT := mAttach hE.out h2 (((0 : Nat) : Int) + 1) (10 * (((0 : Nat) : Int) + 1)) (i64_small (by omega) (by omega))
        rw [← lineB_zero, show thereK (lineB 0) (((0 : Nat) : Int) + 1) = 0 from f3.out, errV0] at cT
        replace cT := hide cT
        clear h2 cA f3
        go_wp2_with fail
        refine cT.out.mono ?_
        rintro e w3 ⟨rfl, h3⟩
        have h3 : Hid (FL W p (3 * 1) 1 (1 + 3 * 1) (lineA 1) w3) := hide (h3.mono (by omega) (by omega))
        go_wp2
        go_roundw
        case rel => exact ⟨1, by omega, by go_num, h3⟩
        case measure => simp [intOf]; omega
      · have f5 := hide (f2 hj0)
        have hlB := hide (lineB_pos hj0)
        clear f1 f2 h
        go_wp2_with fail
        refine cA.out.mono ?_
        rintro e w2 ⟨rfl, h2⟩
        have cS := mSub hE.out h2 ((j : Int) + 1) j (i64_small (by omega) (by omega)) (i64_small (by omega) (by omega)) (by omega)
        rw [f5.out, fsubS_zero f5.out, errV0, ← hlB.out] at cS
        replace cS := hide cS
        clear h2 cA f5
        go_wp2_with fail
        refine cS.out.mono ?_
        rintro e w3 ⟨rfl, h3⟩
        have cT := mAttach hE.out h3 ((j : Int) + 1) (10 * ((j : Int) + 1)) (i64_small (by omega) (by omega))
        rw [f3.out, errV0] at cT
        replace cT := hide cT
        clear h3 cS f3
        go_wp2_with fail
        refine cT.out.mono ?_
        rintro e w4 ⟨rfl, h4⟩
        have h4 : Hid (FL W p (3 * (j + 1)) (j + 1) (1 + 3 * (j + 1)) (lineA (j + 1)) w4) := hide (h4.mono (by omega) (by omega))
        clear cT
        go_wp2
        go_roundw
        case rel => exact ⟨j + 1, by omega, by go_num, h4⟩
        case measure => simp [intOf]; omega
    · obtain rfl : j = K := by omega
      have h : Hid (FL W p 100 j 30 (lineF j (fun _ => false)) wA) := hide (by rw [lineF_none]; exact h.out.mono (by omega) (by omega))
      clear hlt e2
      go_wp2
      go_loopw [8] (fun i wr => ∃ (t : Nat) (f : Int → Bool), t ≤ L ∧ t ≤ 20 ∧ i = .int .i64 t ∧ Hid (f 1 = false) ∧ Hid (FL W p 100 j 30 (lineF j f) wr)) (fun i _ => 20 - (intOf i).toNat)
      case atStart => exact ⟨0, fun _ => false, Nat.zero_le _, Nat.zero_le _, rfl, hide rfl, h⟩
      clear h
      case round =>
        obtain ⟨t, f, ht, ht20, rfl, hf1, h⟩ := hrel
        obtain ⟨wB, hB⟩ : ∃ wB, wB = wr := ⟨_, rfl⟩
        subst hB
        by_cases hlt : t < L
        · by_cases hlt2 : t < 20
          · have htl : t < l.length := by rw [← hL.out]; exact hlt
            obtain ⟨bb, off, u, rfl, hbb, hu, hcx⟩ := hr.out.cell1 hlt
            obtain ⟨v, hv⟩ : ∃ v, v = l.getD t 0 := ⟨_, rfl⟩
            have hu2 : u = .int .i64 v := by
              rw [List.getElem?_map, List.getElem?_eq_getElem htl] at hu
              simp at hu
              rw [← hu, hv]; simp [List.getD, htl]
            rw [hu2] at hcx
            have hcB := hb0.out.keep h.out.below _ _ hcx
            have cP := fun w => place_any v ((j : Int) - 1) w (by omega) (by omega)
            obtain ⟨r, hrr⟩ : ∃ r, r = v % ((j : Int) - 1) := ⟨_, rfl⟩
            have hr0 : 0 ≤ r := by rw [hrr]; exact Int.emod_nonneg _ (by omega)
            have hr1 : r < (j : Int) - 1 := by rw [hrr]; exact Int.emod_lt_of_pos _ (by omega)
            rw [← hrr] at cP
            replace cP := hide cP
            obtain ⟨p1, s0, p2, p3⟩ := hS.out.low (r + 1).toNat (by omega) (by omega)
            rw [show (((r + 1).toNat : Nat) : Int) + 1 = 2 + r by omega] at p1 p2
            have cC := mCommit hE.out h.out (2 + r) (i64_small (by omega) (by omega)) (by omega) (by omega) 8 (rk := Int.toNat) (Bk := 7) (fun i s hi => lineF_rk j hK7 f i s hi) (fun s hs => by omega)
            rw [lineF_syn j hK7, lineF_commit j f (2 + r) _ 8 p2 p1, lineF_there p2, errV0] at cC
            simp only [List.length_nil] at cC
            have hbuf := lineF_tell (f := fun x => f x || x == 2 + r) p2
            rw [p3] at hbuf
            have hf2 := hide (show (f 1 || (1 : Int) == 2 + r) = false by rw [hf1.out]; simp; omega)
            replace cC := hide cC
            replace hbuf := hide hbuf
            clear hrr hu hu2 hv hcx hbb p1 p2 p3 h hf1
            go_wp2_with fail
            refine (cP.out _).mono ?_
            rintro e w' ⟨rfl, rfl⟩
            go_wp2_with fail
            refine cC.out.mono ?_
            rintro e w4 ⟨A4, n4, rfl, r4, h4⟩
            have cU := mNow h4 (2 + r) (i64_small (by omega) (by omega)) (by omega)
            rw [hbuf.out] at cU
            replace cU := hide cU
            clear r4 cC h4
            go_wp2_with fail
            refine cU.out.mono ?_
            rintro e w5 ⟨y0, y2, y3, y4, y5, y6, y7, y8, y9, rfl, h5⟩
            replace h5 := hide h5
            clear cU hbuf
            go_wp2
            go_roundw
            case rel => exact ⟨t + 1, _, by omega, by omega, by go_num, hf2, h5⟩
            case measure => simp [intOf]; omega
          · have hx : 20 ≤ (t : Int) := by omega
            clear hlt2
            go_wp2
            go_loopw [12] (fun i wr => ∃ (m : Nat) (f : Int → Bool), m ≤ j - 1 ∧ i = .int .i64 ((j : Int) - m) ∧ Hid (f 1 = false ∧ ∀ x : Int, (j : Int) - m < x → x ≤ j → f x = true) ∧ Hid (FL W p 100 j 30 (lineF j f) wr)) (fun i _ => (intOf i).toNat)
            case atStart => exact ⟨0, f, Nat.zero_le _, by go_num, hide ⟨hf1.out, fun x h1 h2 => by omega⟩, h⟩
            clear h hf1 hx
            case round =>
              obtain ⟨m, f, hm, rfl, hf, h⟩ := hrel
              obtain ⟨wD, hD⟩ : ∃ wD, wD = wr := ⟨_, rfl⟩
              subst hD
              by_cases hm2 : m < j - 1
              · obtain ⟨p1, s0, p2, p3⟩ := hS.out.low (j - m - 1) (by omega) (by omega)
                rw [show (((j - m - 1 : Nat)) : Int) + 1 = (j : Int) - m by omega] at p1 p2
                have cC := mCommit hE.out h.out ((j : Int) - m) (i64_small (by omega) (by omega)) (by omega) (by omega) 8 (rk := Int.toNat) (Bk := 7) (fun i s hi => lineF_rk j hK7 f i s hi) (fun s hs => by omega)
                rw [lineF_syn j hK7, lineF_commit j f _ _ 8 p2 p1, lineF_there p2, errV0] at cC
                simp only [List.length_nil] at cC
                have hf2 : Hid ((f 1 || (1 : Int) == (j : Int) - m) = false ∧ ∀ x : Int, (j : Int) - ((m + 1 : Nat) : Int) < x → x ≤ j → (f x || x == (j : Int) - m) = true) := hide ⟨by rw [hf.out.1]; simp; omega, fun x h1 h2 => by
                  by_cases e : x = (j : Int) - m
                  · simp [e]
                  · rw [hf.out.2 x (by omega) h2]; rfl⟩
                replace cC := hide cC
                clear p1 p2 p3 h hf
                go_wp2_with fail
                refine cC.out.mono ?_
                rintro e w4 ⟨A4, n4, rfl, r4, h4⟩
                replace h4 := hide h4
                clear r4 cC
                go_wp2
                go_roundw
                case rel => exact ⟨m + 1, _, by omega, by go_num, hf2, h4⟩
                case measure => simp [intOf]; omega
              · have hG := lineF_all (k := j) hf.out.1 (fun x h1 h2 => hf.out.2 x (by omega) h2)
                have hsyG := lineF_syn j hK7 f
                have hrkG := lineF_rk j hK7 f
                have hdG := fun x hx => lineF_dom (k := j) (f := f) x hx
                rw [hG] at hsyG hrkG hdG
                have h : FL W p 100 j 30 (lineG j) wD := by rw [← hG]; exact h.out
                have cW := mWalkR h 1 i64_1 (by omega) hrkG hS.out.walk (by simp)
                simp only [List.length_nil] at cW
                replace cW := hide cW
                replace hsyG := hide hsyG
                replace hrkG := hide hrkG
                replace hdG := hide hdG
                have em1 : (j : Int) - (m : Int) = 1 := by omega
                clear h hf hG hm2
                go_wp2_with fail
                clear em1
                refine cW.out.mono ?_
                rintro e w4 ⟨A4, n4, rfl, r4, h4, -⟩
                have cH := mHeld h4 (by omega) (heldC_ok hdG.out hS.out.inc)
                obtain ⟨hq, hqe⟩ : ∃ hq, hq = heldC (lineG j) j := ⟨_, rfl⟩
                have hql : (hq.length : Int) = (j : Int) - 1 := by rw [hqe, hS.out.len]; omega
                rw [← hqe] at cH
                replace cH := hide cH
                clear h4 r4 cW hqe hdG
                go_wp2_with fail
                refine cH.out.mono ?_
                rintro e w5 ⟨A5, n5, rfl, r5, h5, -⟩
                have cC := mCommit hE.out h5 1 i64_1 (by omega) (by omega) 8 (rk := Int.toNat) (Bk := 7) (fun i s hi => hrkG.out i s hi) (fun s hs => by omega)
                rw [hsyG.out, hS.out.list, hS.out.there, errV0] at cC
                simp only [List.length_map, List.length_range] at cC
                replace cC := hide cC
                clear h5 r5 cH
                go_wp2_with fail
                refine cC.out.mono ?_
                rintro e w6 ⟨A6, n6, rfl, r6, h6⟩
                change FL W p 100 j 30 (lineH j) w6 at h6
                have hrkH : RkOk (lineH j) 7 := hrkG.out.par (com_par _ _)
                have hsyH := syC_eq hrkH (by omega)
                have cW := mWalkR h6 1 i64_1 (by omega) hrkH rfl (by rw [hS.out.seen]; omega)
                rw [hS.out.seen] at cW
                replace cW := hide cW
                replace r6 := hide r6
                replace hsyH := hide hsyH
                clear h6 cC hql hsyG hrkG hrkH
                go_wp2_with fail
                refine cW.out.mono ?_
                rintro e w7 ⟨A7, n7, rfl, r7, h7, b7⟩
                have r6 := hide (r6.out.below b7 (Nat.le_refl _))
                replace h7 := hide h7
                clear r7 cW b7
                go_wp2
                go_loopw [17] (fun i wr => ∃ q : Nat, q ≤ j ∧ i = .int .i64 q ∧ Hid (Rd wr (.slice A6 j n6) 1 j (((List.range j).map fun (i : Nat) => (i : Int) + 1).map (Value.int .i64))) ∧ Hid (FL W p 100 j 30 (lineH j) wr)) (fun i _ => j - (intOf i).toNat)
                case atStart => exact ⟨0, Nat.zero_le _, rfl, r6, h7⟩
                clear r6 h7
                case round =>
                  obtain ⟨q, hq, rfl, r6, h⟩ := hrel
                  obtain ⟨wF, hF⟩ : ∃ wF, wF = wr := ⟨_, rfl⟩
                  subst hF
                  by_cases hq2 : q < j
                  · obtain ⟨bb, off, u, rfl, hbb, hu, hcx⟩ := r6.out.cell1 hq2
                    have hu2 : u = .int .i64 ((q : Int) + 1) := by
                      have : ((((List.range j).map fun (i : Nat) => (i : Int) + 1).map (Value.int .i64))[q]?) = some (.int .i64 ((q : Int) + 1)) := by simp [hq2]
                      rw [this] at hu
                      exact (Option.some.inj hu).symm
                    rw [hu2] at hcx
                    have cU := mCurrent h.out ((q : Int) + 1) (i64_small (by omega) (by omega)) (by omega)
                    have hbf := hS.out.buf q hq2
                    have hsq := hS.out.syn q hq2
                    replace cU := hide cU
                    replace hbf := hide hbf
                    replace hsq := hide hsq
                    clear hu hu2 hbb
                    by_cases hq0 : q = 0
                    · have hsv : Hid (synB (lineH j) ((q : Int) + 1) = false) := hide (by rw [hsyH.out, hsq.out]; simpa using hq0)
                      subst hq0
                      rw [Nat.add_zero] at hcx
                      go_wp2_with fail
                      refine cU.out.mono ?_
                      rintro e w8 ⟨A1, n1, A2, n2, A3, n3, A5, n5, A7, n7, he, _, h8, b8⟩
                      unfold stVal at he
                      rw [hbf.out] at he
                      subst he
                      have cS := mSyncedB h8 (((0 : Nat) : Int) + 1) (i64_small (by omega) (by omega))
                      rw [hsv.out] at cS
                      replace cS := hide cS
                      have r8 := hide (r6.out.below b8 (Nat.le_refl _))
                      clear h8 cU r6 b8 hcx
                      go_wp2_with fail
                      refine cS.out.mono ?_
                      rintro e w9 ⟨rfl, h9, b9⟩
                      have r9 := hide (r8.out.below b9 (Nat.le_refl _))
                      replace h9 := hide h9
                      clear cS r8 b9 h hbf hsv hsq
                      go_wp2
                      go_roundw
                      case rel => exact ⟨1, by omega, by go_num, r9, h9⟩
                      case measure => simp [intOf]; omega
                    · have hsv : Hid (synB (lineH j) ((q : Int) + 1) = true) := hide (by rw [hsyH.out, hsq.out]; simpa using hq0)
                      have hqb : ((q : Int) == 0) = false := by simp; omega
                      go_wp2_with fail
                      refine cU.out.mono ?_
                      rintro e w8 ⟨A1, n1, A2, n2, A3, n3, A5, n5, A7, n7, he, _, h8, b8⟩
                      unfold stVal at he
                      rw [hbf.out] at he
                      subst he
                      have cS := mSyncedB h8 ((q : Int) + 1) (i64_small (by omega) (by omega))
                      rw [hsv.out] at cS
                      replace cS := hide cS
                      have r8 := hide (r6.out.below b8 (Nat.le_refl _))
                      clear h8 cU r6 b8 hcx
                      go_wp2_with fail
                      refine cS.out.mono ?_
                      rintro e w9 ⟨rfl, h9, b9⟩
                      have r9 := hide (r8.out.below b9 (Nat.le_refl _))
                      replace h9 := hide h9
                      clear cS r8 b9 h hbf hsv hsq
                      go_wp2
                      go_roundw
                      case rel => exact ⟨(q + 1), by omega, by go_num, r9, h9⟩
                      case measure => simp [intOf]; omega
                  · obtain rfl : q = j := by omega
                    have hb7 := hide h.out.below
                    have cA := hide (awake17_any wF ((hE.out.below h.out.below).wider h.out.below.size))
                    clear h r6
                    go_wp2_with fail
                    refine cA.out.mono ?_
                    rintro e w8 ⟨rfl, hb8⟩
                    go_wp2
                    go_ret
                    exact ⟨rfl, hb7.out.trans (hb8.mono hb7.out.size)⟩
        · have hx : (L : Int) ≤ t := by omega
          clear hlt
          go_wp2
          go_loopw [12] (fun i wr => ∃ (m : Nat) (f : Int → Bool), m ≤ j - 1 ∧ i = .int .i64 ((j : Int) - m) ∧ Hid (f 1 = false ∧ ∀ x : Int, (j : Int) - m < x → x ≤ j → f x = true) ∧ Hid (FL W p 100 j 30 (lineF j f) wr)) (fun i _ => (intOf i).toNat)
          case atStart => exact ⟨0, f, Nat.zero_le _, by go_num, hide ⟨hf1.out, fun x h1 h2 => by omega⟩, h⟩
          clear h hf1 hx
          case round =>
            obtain ⟨m, f, hm, rfl, hf, h⟩ := hrel
            obtain ⟨wD, hD⟩ : ∃ wD, wD = wr := ⟨_, rfl⟩
            subst hD
            by_cases hm2 : m < j - 1
            · obtain ⟨p1, s0, p2, p3⟩ := hS.out.low (j - m - 1) (by omega) (by omega)
              rw [show (((j - m - 1 : Nat)) : Int) + 1 = (j : Int) - m by omega] at p1 p2
              have cC := mCommit hE.out h.out ((j : Int) - m) (i64_small (by omega) (by omega)) (by omega) (by omega) 8 (rk := Int.toNat) (Bk := 7) (fun i s hi => lineF_rk j hK7 f i s hi) (fun s hs => by omega)
              rw [lineF_syn j hK7, lineF_commit j f _ _ 8 p2 p1, lineF_there p2, errV0] at cC
              simp only [List.length_nil] at cC
              have hf2 : Hid ((f 1 || (1 : Int) == (j : Int) - m) = false ∧ ∀ x : Int, (j : Int) - ((m + 1 : Nat) : Int) < x → x ≤ j → (f x || x == (j : Int) - m) = true) := hide ⟨by rw [hf.out.1]; simp; omega, fun x h1 h2 => by
                by_cases e : x = (j : Int) - m
                · simp [e]
                · rw [hf.out.2 x (by omega) h2]; rfl⟩
              replace cC := hide cC
              clear p1 p2 p3 h hf
              go_wp2_with fail
              refine cC.out.mono ?_
              rintro e w4 ⟨A4, n4, rfl, r4, h4⟩
              replace h4 := hide h4
              clear r4 cC
              go_wp2
              go_roundw
              case rel => exact ⟨m + 1, _, by omega, by go_num, hf2, h4⟩
              case measure => simp [intOf]; omega
            · have hG := lineF_all (k := j) hf.out.1 (fun x h1 h2 => hf.out.2 x (by omega) h2)
              have hsyG := lineF_syn j hK7 f
              have hrkG := lineF_rk j hK7 f
              have hdG := fun x hx => lineF_dom (k := j) (f := f) x hx
              rw [hG] at hsyG hrkG hdG
              have h : FL W p 100 j 30 (lineG j) wD := by rw [← hG]; exact h.out
              have cW := mWalkR h 1 i64_1 (by omega) hrkG hS.out.walk (by simp)
              simp only [List.length_nil] at cW
              replace cW := hide cW
              replace hsyG := hide hsyG
              replace hrkG := hide hrkG
              replace hdG := hide hdG
              have em1 : (j : Int) - (m : Int) = 1 := by omega
              clear h hf hG hm2
              go_wp2_with fail
              clear em1
              refine cW.out.mono ?_
              rintro e w4 ⟨A4, n4, rfl, r4, h4, -⟩
              have cH := mHeld h4 (by omega) (heldC_ok hdG.out hS.out.inc)
              obtain ⟨hq, hqe⟩ : ∃ hq, hq = heldC (lineG j) j := ⟨_, rfl⟩
              have hql : (hq.length : Int) = (j : Int) - 1 := by rw [hqe, hS.out.len]; omega
              rw [← hqe] at cH
              replace cH := hide cH
              clear h4 r4 cW hqe hdG
              go_wp2_with fail
              refine cH.out.mono ?_
              rintro e w5 ⟨A5, n5, rfl, r5, h5, -⟩
              have cC := mCommit hE.out h5 1 i64_1 (by omega) (by omega) 8 (rk := Int.toNat) (Bk := 7) (fun i s hi => hrkG.out i s hi) (fun s hs => by omega)
              rw [hsyG.out, hS.out.list, hS.out.there, errV0] at cC
              simp only [List.length_map, List.length_range] at cC
              replace cC := hide cC
              clear h5 r5 cH
              go_wp2_with fail
              refine cC.out.mono ?_
              rintro e w6 ⟨A6, n6, rfl, r6, h6⟩
              change FL W p 100 j 30 (lineH j) w6 at h6
              have hrkH : RkOk (lineH j) 7 := hrkG.out.par (com_par _ _)
              have hsyH := syC_eq hrkH (by omega)
              have cW := mWalkR h6 1 i64_1 (by omega) hrkH rfl (by rw [hS.out.seen]; omega)
              rw [hS.out.seen] at cW
              replace cW := hide cW
              replace r6 := hide r6
              replace hsyH := hide hsyH
              clear h6 cC hql hsyG hrkG hrkH
              go_wp2_with fail
              refine cW.out.mono ?_
              rintro e w7 ⟨A7, n7, rfl, r7, h7, b7⟩
              have r6 := hide (r6.out.below b7 (Nat.le_refl _))
              replace h7 := hide h7
              clear r7 cW b7
              go_wp2
              go_loopw [17] (fun i wr => ∃ q : Nat, q ≤ j ∧ i = .int .i64 q ∧ Hid (Rd wr (.slice A6 j n6) 1 j (((List.range j).map fun (i : Nat) => (i : Int) + 1).map (Value.int .i64))) ∧ Hid (FL W p 100 j 30 (lineH j) wr)) (fun i _ => j - (intOf i).toNat)
              case atStart => exact ⟨0, Nat.zero_le _, rfl, r6, h7⟩
              clear r6 h7
              case round =>
                obtain ⟨q, hq, rfl, r6, h⟩ := hrel
                obtain ⟨wF, hF⟩ : ∃ wF, wF = wr := ⟨_, rfl⟩
                subst hF
                by_cases hq2 : q < j
                · obtain ⟨bb, off, u, rfl, hbb, hu, hcx⟩ := r6.out.cell1 hq2
                  have hu2 : u = .int .i64 ((q : Int) + 1) := by
                    have : ((((List.range j).map fun (i : Nat) => (i : Int) + 1).map (Value.int .i64))[q]?) = some (.int .i64 ((q : Int) + 1)) := by simp [hq2]
                    rw [this] at hu
                    exact (Option.some.inj hu).symm
                  rw [hu2] at hcx
                  have cU := mCurrent h.out ((q : Int) + 1) (i64_small (by omega) (by omega)) (by omega)
                  have hbf := hS.out.buf q hq2
                  have hsq := hS.out.syn q hq2
                  replace cU := hide cU
                  replace hbf := hide hbf
                  replace hsq := hide hsq
                  clear hu hu2 hbb
                  by_cases hq0 : q = 0
                  · have hsv : Hid (synB (lineH j) ((q : Int) + 1) = false) := hide (by rw [hsyH.out, hsq.out]; simpa using hq0)
                    subst hq0
                    rw [Nat.add_zero] at hcx
                    go_wp2_with fail
                    refine cU.out.mono ?_
                    rintro e w8 ⟨A1, n1, A2, n2, A3, n3, A5, n5, A7, n7, he, _, h8, b8⟩
                    unfold stVal at he
                    rw [hbf.out] at he
                    subst he
                    have cS := mSyncedB h8 (((0 : Nat) : Int) + 1) (i64_small (by omega) (by omega))
                    rw [hsv.out] at cS
                    replace cS := hide cS
                    have r8 := hide (r6.out.below b8 (Nat.le_refl _))
                    clear h8 cU r6 b8 hcx
                    go_wp2_with fail
                    refine cS.out.mono ?_
                    rintro e w9 ⟨rfl, h9, b9⟩
                    have r9 := hide (r8.out.below b9 (Nat.le_refl _))
                    replace h9 := hide h9
                    clear cS r8 b9 h hbf hsv hsq
                    go_wp2
                    go_roundw
                    case rel => exact ⟨1, by omega, by go_num, r9, h9⟩
                    case measure => simp [intOf]; omega
                  · have hsv : Hid (synB (lineH j) ((q : Int) + 1) = true) := hide (by rw [hsyH.out, hsq.out]; simpa using hq0)
                    have hqb : ((q : Int) == 0) = false := by simp; omega
                    go_wp2_with fail
                    refine cU.out.mono ?_
                    rintro e w8 ⟨A1, n1, A2, n2, A3, n3, A5, n5, A7, n7, he, _, h8, b8⟩
                    unfold stVal at he
                    rw [hbf.out] at he
                    subst he
                    have cS := mSyncedB h8 ((q : Int) + 1) (i64_small (by omega) (by omega))
                    rw [hsv.out] at cS
                    replace cS := hide cS
                    have r8 := hide (r6.out.below b8 (Nat.le_refl _))
                    clear h8 cU r6 b8 hcx
                    go_wp2_with fail
                    refine cS.out.mono ?_
                    rintro e w9 ⟨rfl, h9, b9⟩
                    have r9 := hide (r8.out.below b9 (Nat.le_refl _))
                    replace h9 := hide h9
                    clear cS r8 b9 h hbf hsv hsq
                    go_wp2
                    go_roundw
                    case rel => exact ⟨(q + 1), by omega, by go_num, r9, h9⟩
                    case measure => simp [intOf]; omega
                · obtain rfl : q = j := by omega
                  have hb7 := hide h.out.below
                  have cA := hide (awake17_any wF ((hE.out.below h.out.below).wider h.out.below.size))
                  clear h r6
                  go_wp2_with fail
                  refine cA.out.mono ?_
                  rintro e w8 ⟨rfl, hb8⟩
                  go_wp2
                  go_ret
                  exact ⟨rfl, hb7.out.trans (hb8.mono hb7.out.size)⟩
end Go.Proofs.YthkjicnnepkghaaDoor
