/-
  The law SeatKeys, as a walk.
-/
import Derived.Test.YtfekldcpjoiipaaLaw20
import Derived.Test.YtfekldcpjoiipaaLaw00
namespace Go.Proofs.Ytfekldcpjoiipaa
open Go.RowKit Go.Shelf
set_option linter.unusedVariables false

theorem Rd.openB {w : World} {A : Option Addr} {n c : Nat} {xs : List Bool} (h : Rd w (.slice A n c) 1 n (xs.map Value.bool)) (hn : 0 < n) :
    ∃ b off, A = some ⟨b, off, none⟩ ∧ b < w.heap.size ∧ ∀ k, k < n → w.cell? ⟨b, off + k, none⟩ = some (.bool (xs.getD k false)) := by
  obtain ⟨h1, A', c', hv, hc, h2⟩ := h
  simp only [Value.slice.injEq] at hv
  obtain ⟨rfl, _, rfl⟩ := hv
  obtain ⟨b, off, rfl, hb, hcell⟩ := h2 hn
  refine ⟨b, off, rfl, hb, fun k hk => hcell k _ ?_⟩
  have hl : k < xs.length := by simpa using (show k < (xs.map Value.bool).length by omega)
  simp [List.getD, hl]

structure KeysL (W : World) (p : Nat) (m : Int) (w : World) : Prop where
  seat : SeatAt w p 0 0 0 m
  be : Below W.heap.size W w
  ge : W.heap.size ≤ p
theorem KeysL.below {W w w' : World} {p : Nat} {m : Int} (h : KeysL W p m w) (hb : Below w.heap.size w w') : KeysL W p m w' := ⟨h.seat.below hb, h.be.trans (hb.mono h.be.size), h.ge⟩
theorem keysL_gone {W w : World} {p : Nat} {m : Int} (h : KeysL W p m w) : Calls Try.prog 16 #[.pointer (some ⟨p, 0, none⟩), .int .i64 m] w fun e w' => (∃ v, e = .returned v) ∧ KeysL W p 0 w' :=
  (gone_any w p 0 0 0 m m h.seat).mono fun e w' ⟨he, h1, h2⟩ => ⟨he, by
    have : (if (0 : Int) = m then (0 : Int) else 0) = 0 := by split <;> rfl
    rw [this, if_pos rfl] at h1; exact h1, h.be.trans (h2.below h.be.size (fun b hb => by rw [hb]; exact h.ge)), h.ge⟩
theorem keysL_keys {W w : World} {p : Nat} {m : Int} (h : KeysL W p m w) (s : Int) : Calls Try.prog 17 #[.pointer (some ⟨p, 0, none⟩), .int .i64 s] w fun e w' =>
    ∃ v, e = .returned v ∧ w'.ownsRow w.heap.size 47 4 v (if s = m then [] else turnN m s 0 0).length ((if s = m then [] else turnN m s 0 0).flatMap Note.enc) ∧ KeysL W p s w' ∧ w.heap.size ≤ w'.heap.size :=
  (keys_any w p 0 0 0 m s h.seat).mono fun e w' ⟨v, he, h1, h2, h3⟩ => ⟨v, he, h1, ⟨h2, h.be.trans (h3.below h.be.size (fun b hb => by rw [hb]; exact h.ge)), h.ge⟩, h3.size⟩

set_option maxRecDepth 100000 in
set_option maxHeartbeats 2000000 in
theorem seatKeys_any (W : World) (A : Option Addr) (c : Nat) (l : List Int) (hr : Rd W (.slice A l.length c) 1 l.length (l.map (Value.int .i64)))
    (A2 : Option Addr) (c2 : Nat) (gs : List Bool) (hr2 : Rd W (.slice A2 gs.length c2) 1 gs.length (gs.map Value.bool)) :
    Calls Try.prog 5 #[.slice A l.length c, .slice A2 gs.length c2] W fun e w' => e = .returned (.bool true) ∧ Below W.heap.size W w' := by
  obtain ⟨i0, hi, hz0, hz1, hz2⟩ := info_partsN Try.infoNote
  have cN := hide (seNew_any W)
  obtain ⟨N, hN2⟩ : ∃ N, N = l.length := ⟨_, rfl⟩
  obtain ⟨O, hO⟩ : ∃ O, O = gs.length := ⟨_, rfl⟩
  rw [← hN2] at hr ⊢
  rw [← hO] at hr2 ⊢
  replace hN2 := hide hN2
  replace hO := hide hO
  replace hr := hide hr
  replace hr2 := hide hr2
  go_enter Try.func5, Try.ntmps5
  go_wp2_with fail
  refine (cN.out).mono ?_
  rintro e w1 ⟨rfl, h1, hB1⟩
  have hK : Hid (KeysL W W.heap.size 0 w1) := hide ⟨h1, hB1, Nat.le_refl _⟩
  obtain ⟨p, hp⟩ : ∃ p, p = W.heap.size := ⟨_, rfl⟩
  rw [← hp] at hK ⊢
  replace hp := hide hp
  clear h1 hB1 cN
  go_wp2
  go_loopw [6, 7] (fun nw i wr => ∃ (j : Nat) (m : Int), j ≤ N ∧ j ≤ 30 ∧ i = .int .i64 j ∧ nw = .int .i64 m ∧ 0 ≤ m ∧ m < 4 ∧ Hid (KeysL W p m wr))
    (fun _ i _ => 30 - (intOf i).toNat)
  case atStart => exact ⟨0, 0, Nat.zero_le _, Nat.zero_le _, rfl, rfl, by omega, by omega, hK⟩
  clear hK
  case round =>
    obtain ⟨j, m, hj, hj30, rfl, rfl, hm0, hm4, hK⟩ := hrel
    obtain ⟨wA, hA⟩ : ∃ wA, wA = wr := ⟨_, rfl⟩
    subst hA
    by_cases hlt : j < N
    · by_cases hlt30 : j < 30
      · obtain ⟨g, hgq⟩ : ∃ g, g = (decide (j < O) && gs.getD j false) := ⟨_, rfl⟩
        go_upto_region 8 with fail
        go_cut [36] (fun u wx => u = .bool g ∧ wx = wA)
        case first =>
          by_cases hjO : j < O
          · obtain ⟨b2, off2, rfl, hb2, hcell2⟩ := (hr2.out.below hK.out.be (Nat.le_refl _)).openB (by omega)
            have hcy := hcell2 j hjO
            obtain ⟨y, hy⟩ : ∃ y, y = gs.getD j false := ⟨_, rfl⟩
            rw [← hy] at hcy hgq
            have hge : Hid (g = y) := hide (by rw [hgq, decide_eq_true hjO, Bool.true_and])
            clear hcell2 hy hgq
            go_wp2
            go_meet
            exact ⟨by rw [hge.out], rfl⟩
          · have hge : Hid (g = false) := hide (by rw [hgq, decide_eq_false hjO, Bool.false_and])
            have hjO2 : (O : Int) ≤ j := by omega
            clear hgq
            go_wp2
            go_meet
            exact ⟨by rw [hge.out], rfl⟩
        case rest =>
        obtain ⟨rfl, rfl⟩ := hcut
        clear hgq
        go_upto_if 36 with fail
        go_cut [6] (fun u wx => ∃ m2, u = .int .i64 m2 ∧ 0 ≤ m2 ∧ m2 < 4 ∧ Hid (KeysL W p m2 wx))
        case first =>
          have cG := hide (keysL_gone hK.out)
          cases g
          · go_wp2
            go_meet
            exact ⟨m, rfl, hm0, hm4, hK⟩
          · go_wp2_with (go_at_call 16; refine cG.out.mono ?_; rintro e w2 ⟨⟨v, rfl⟩, hK2⟩)
            go_meet
            exact ⟨0, rfl, by omega, by omega, hK2⟩
        case rest =>
        obtain ⟨m2, rfl, hn0, hn4, hK2⟩ := hcut
        clear hK hm0 hm4
        obtain ⟨wD, hD⟩ : ∃ wD, wD = wc := ⟨_, rfl⟩
        subst hD
        obtain ⟨b, off, rfl, hbl, hcell⟩ := (hr.out.below hK2.out.be (Nat.le_refl _)).open1 (by omega)
        have hcx := hcell j hlt
        clear hcell
        obtain ⟨x, hx⟩ : ∃ x, x = l.getD j 0 := ⟨_, rfl⟩
        rw [← hx] at hcx
        clear hx
        have p1 := Int.emod_nonneg x (show (4 : Int) ≠ 0 by decide)
        have p2 := Int.emod_lt_of_pos x (show (0 : Int) < 4 by decide)
        have hP := place_any x 4 wD (by omega) (by omega)
        obtain ⟨y, hy⟩ : ∃ y, y = x % 4 := ⟨_, rfl⟩
        rw [← hy] at p1 p2 hP
        replace hP := hide hP
        clear hy
        have cK := keysL_keys hK2.out y
        have hsD := hK2.out.be.size
        by_cases hym : y = m2
        · subst hym
          rw [if_pos rfl] at cK
          replace cK := hide cK
          go_wp2_with fail
          refine (hP.out).mono ?_
          rintro e w' ⟨rfl, rfl⟩
          go_wp2_with fail
          refine (cK.out).mono ?_
          rintro e w2 ⟨v9, rfl, o9, hK3, hsz⟩
          replace hK3 := hide hK3
          obtain ⟨A9, c9, rfl, _⟩ := own_form o9
          have r9 := hide (Rd.of_own o9)
          have r10 : Hid (Rd w2 (.slice none 0 0) 4 ([] : List Note).length (([] : List Note).flatMap Note.enc)) := hide (Rd.nil _ _)
          clear o9
          go_wp2
          go_loopw [11] (fun i wr => ∃ k : Nat, k ≤ 0 ∧ i = .int .i64 k ∧ ∃ q, wr = w2.drewN q)
            (fun i _ => 0 - (intOf i).toNat)
          case atStart => exact ⟨0, Nat.zero_le _, rfl, 0, rfl⟩
          case round =>
            obtain ⟨k, hk, rfl, q, hwr⟩ := hrel
            obtain ⟨wE, hE⟩ : ∃ wE, wE = wr := ⟨_, rfl⟩
            subst hE
            have hbE : Below w2.heap.size w2 wE := by rw [hwr]; exact below_drewN (Below.refl _ _) q
            by_cases hkn : k < 0
            · exact absurd hkn (by omega)
            · obtain rfl : k = 0 := by omega
              have hK5 := hK3.out.below hbE
              have cF := hide (focus_any wE p 0 0 0 y hK5.seat)
              replace hK5 := hide hK5
              clear hwr hbE
              go_wp2_with (go_at_call 15; refine cF.out.mono ?_; rintro e wF ⟨rfl, qf, rfl⟩)
              go_roundw
              case rel => exact ⟨j + 1, y, by omega, by omega, by go_num, rfl, by omega, by omega, hide (hK5.out.below (below_drewN (Below.refl _ _) qf))⟩
              case measure => simp [intOf]; omega
        · rw [if_neg hym] at cK
          have hq : (y == m2) = false := by simpa using hym
          have hqm : Hid (y ≠ m2) := hide hym
          unfold turnN at cK
          have own0 : ∀ w2 : World, w2.ownsRow w2.heap.size 47 4 (.slice none 0 0) 0 [] := fun _ => World.ownsRow_nil _ _ _ _
          by_cases h0 : m2 = 0
          · subst h0
            rw [if_pos rfl, if_neg hym, List.nil_append] at cK
            replace cK := hide cK
            clear hym
            go_wp2_with fail
            refine (hP.out).mono ?_
            rintro e w' ⟨rfl, rfl⟩
            go_wp2_with fail
            refine (cK.out).mono ?_
            rintro e w2 ⟨v9, rfl, o9, hK3, hsz⟩
            obtain ⟨A9, c9, rfl, _⟩ := own_form o9
            have r9 := hide (Rd.of_own o9)
            have hB2 := Below.refl w2.heap.size w2
            replace hK3 := hide hK3
            clear o9
            go_wp2_with (at_builtin; refine wpList_append_own _ rfl _ _ 43 rfl w2.heap.size 47 i0 _ 4 32 Try.underlying43 hi hz0 hz1 hz2 rfl (by decide) _ _ _ rfl ((own0 w2).alloc _) ⟨w2.heap.size, 0, none⟩ 1 1 [.int .i64 1, .int .i64 y, .int .i64 0, .int .i64 0] rfl rfl (cells_newN _ _ _) (by intro u hu; simp at hu; rcases hu with rfl | rfl | rfl | rfl <;> rfl) (by unfold maxLen; omega) (by omega) (by have := hB2.size; simp <;> omega) ?_; intro v3 w3 o3 hg3 _; have hB3 := (hB2.alloc hB2.size _).grown hg3 (by have := hB2.size; simp <;> omega) (fun k hk => ((own0 w2).lt k hk).1); obtain ⟨A3, c3, rfl, _⟩ := own_form o3)
            have r10 : Hid (Rd w3 _ 4 ([⟨1, y, 0, 0⟩] : List Note).length (([⟨1, y, 0, 0⟩] : List Note).flatMap Note.enc)) := hide (Rd.of_own o3)
            have hK4 := hide (hK3.out.below hB3)
            replace r9 := hide (r9.out.below hB3 (Nat.le_refl _))
            clear o3 hK3
            have hK3 := hK4
            clear hK4
            go_wp2
            go_loopw [11] (fun i wr => ∃ k : Nat, k ≤ 1 ∧ i = .int .i64 k ∧ ∃ q, wr = w3.drewN q)
              (fun i _ => 1 - (intOf i).toNat)
            case atStart => exact ⟨0, Nat.zero_le _, rfl, 0, rfl⟩
            case round =>
              obtain ⟨k, hk, rfl, q, hwr⟩ := hrel
              obtain ⟨wE, hE⟩ : ∃ wE, wE = wr := ⟨_, rfl⟩
              subst hE
              have hbE : Below w3.heap.size w3 wE := by rw [hwr]; exact below_drewN (Below.refl _ _) q
              by_cases hkn : k < 1
              · obtain ⟨b9, f9, e9, _, k9⟩ := note_cells (r9.out.below hbE (Nat.le_refl _)) rfl (by simp)
                obtain ⟨b10, f10, e10, _, k10⟩ := note_cells (r10.out.below hbE (Nat.le_refl _)) rfl (by simp)
                subst e9 e10
                obtain ⟨s0, s1, s2, s3⟩ := k9 k hkn
                obtain ⟨t0, t1, t2, t3⟩ := k10 k hkn
                generalize (List.getD ([⟨1, y, 0, 0⟩] : List Note) k default).k = z0 at s0 t0
                generalize (List.getD ([⟨1, y, 0, 0⟩] : List Note) k default).s = z1 at s1 t1
                generalize (List.getD ([⟨1, y, 0, 0⟩] : List Note) k default).x = z2 at s2 t2
                generalize (List.getD ([⟨1, y, 0, 0⟩] : List Note) k default).y = z3 at s3 t3
                replace hwr := hide hwr
                clear k9 k10 hbE
                go_wp2
                go_quiet (fail)
                all_goals go_wp2
                go_roundw
                case rel => exact ⟨k + 1, by omega, by go_num, q + nq, by rw [hwr.out, World.drewN_drewN]⟩
                case measure => simp [intOf]; omega
              · obtain rfl : k = 1 := by omega
                have hK5 := hK3.out.below hbE
                have cF := hide (focus_any wE p 0 0 0 y hK5.seat)
                replace hK5 := hide hK5
                clear hwr hbE
                go_wp2_with (go_at_call 15; refine cF.out.mono ?_; rintro e wF ⟨rfl, qf, rfl⟩)
                go_roundw
                case rel => exact ⟨j + 1, y, by omega, by omega, by go_num, rfl, by omega, by omega, hide (hK5.out.below (below_drewN (Below.refl _ _) qf))⟩
                case measure => simp [intOf]; omega
          · have hq0 : (m2 == 0) = false := by simpa using h0
            have hq0' : (m2 != 0) = true := by simpa using h0
            have hm1 : 1 ≤ m2 := by omega
            rw [if_neg h0] at cK
            by_cases hy0 : y = 0
            · subst hy0
              rw [if_pos rfl, List.append_nil] at cK
              replace cK := hide cK
              have hq2 : ((0 : Int) == m2) = false := by
                have : ¬ (0 : Int) = m2 := fun h => h0 h.symm
                simpa using this
              have hq5 : ((0 : Int) != m2) = true := by
                have : ¬ (0 : Int) = m2 := fun h => h0 h.symm
                simpa using this
              clear hym h0
              go_wp2_with fail
              refine (hP.out).mono ?_
              rintro e w' ⟨rfl, rfl⟩
              go_wp2_with fail
              refine (cK.out).mono ?_
              rintro e w2 ⟨v9, rfl, o9, hK3, hsz⟩
              obtain ⟨A9, c9, rfl, _⟩ := own_form o9
              have r9 := hide (Rd.of_own o9)
              have hB2 := Below.refl w2.heap.size w2
              replace hK3 := hide hK3
              clear o9
              go_wp2_with (at_builtin; refine wpList_append_own _ rfl _ _ 43 rfl w2.heap.size 47 i0 _ 4 32 Try.underlying43 hi hz0 hz1 hz2 rfl (by decide) _ _ _ rfl ((own0 w2).alloc _) ⟨w2.heap.size, 0, none⟩ 1 1 [.int .i64 2, .int .i64 m2, .int .i64 0, .int .i64 0] rfl rfl (cells_newN _ _ _) (by intro u hu; simp at hu; rcases hu with rfl | rfl | rfl | rfl <;> rfl) (by unfold maxLen; omega) (by omega) (by have := hB2.size; simp <;> omega) ?_; intro v3 w3 o3 hg3 _; have hB3 := (hB2.alloc hB2.size _).grown hg3 (by have := hB2.size; simp <;> omega) (fun k hk => ((own0 w2).lt k hk).1); obtain ⟨A3, c3, rfl, _⟩ := own_form o3)
              have r10 : Hid (Rd w3 _ 4 ([⟨2, m2, 0, 0⟩] : List Note).length (([⟨2, m2, 0, 0⟩] : List Note).flatMap Note.enc)) := hide (Rd.of_own o3)
              have hK4 := hide (hK3.out.below hB3)
              replace r9 := hide (r9.out.below hB3 (Nat.le_refl _))
              clear o3 hK3
              have hK3 := hK4
              clear hK4
              go_wp2
              go_loopw [11] (fun i wr => ∃ k : Nat, k ≤ 1 ∧ i = .int .i64 k ∧ ∃ q, wr = w3.drewN q)
                (fun i _ => 1 - (intOf i).toNat)
              case atStart => exact ⟨0, Nat.zero_le _, rfl, 0, rfl⟩
              case round =>
                obtain ⟨k, hk, rfl, q, hwr⟩ := hrel
                obtain ⟨wE, hE⟩ : ∃ wE, wE = wr := ⟨_, rfl⟩
                subst hE
                have hbE : Below w3.heap.size w3 wE := by rw [hwr]; exact below_drewN (Below.refl _ _) q
                by_cases hkn : k < 1
                · obtain ⟨b9, f9, e9, _, k9⟩ := note_cells (r9.out.below hbE (Nat.le_refl _)) rfl (by simp)
                  obtain ⟨b10, f10, e10, _, k10⟩ := note_cells (r10.out.below hbE (Nat.le_refl _)) rfl (by simp)
                  subst e9 e10
                  obtain ⟨s0, s1, s2, s3⟩ := k9 k hkn
                  obtain ⟨t0, t1, t2, t3⟩ := k10 k hkn
                  generalize (List.getD ([⟨2, m2, 0, 0⟩] : List Note) k default).k = z0 at s0 t0
                  generalize (List.getD ([⟨2, m2, 0, 0⟩] : List Note) k default).s = z1 at s1 t1
                  generalize (List.getD ([⟨2, m2, 0, 0⟩] : List Note) k default).x = z2 at s2 t2
                  generalize (List.getD ([⟨2, m2, 0, 0⟩] : List Note) k default).y = z3 at s3 t3
                  replace hwr := hide hwr
                  clear k9 k10 hbE
                  go_wp2
                  go_quiet (fail)
                  all_goals go_wp2
                  go_roundw
                  case rel => exact ⟨k + 1, by omega, by go_num, q + nq, by rw [hwr.out, World.drewN_drewN]⟩
                  case measure => simp [intOf]; omega
                · obtain rfl : k = 1 := by omega
                  have hK5 := hK3.out.below hbE
                  have cF := hide (focus_any wE p 0 0 0 0 hK5.seat)
                  replace hK5 := hide hK5
                  clear hwr hbE
                  go_wp2_with (go_at_call 15; refine cF.out.mono ?_; rintro e wF ⟨rfl, qf, rfl⟩)
                  go_roundw
                  case rel => exact ⟨j + 1, 0, by omega, by omega, by go_num, rfl, by omega, by omega, hide (hK5.out.below (below_drewN (Below.refl _ _) qf))⟩
                  case measure => simp [intOf]; omega
            · have hq2 : (y == 0) = false := by simpa using hy0
              have hq3 : (y != 0) = true := by simpa using hy0
              have hy1 : 1 ≤ y := by omega
              have hq4 : (y != m2) = true := by simpa using hym
              rw [if_neg hy0, List.cons_append, List.nil_append] at cK
              replace cK := hide cK
              clear hym h0 hy0
              go_wp2_with fail
              refine (hP.out).mono ?_
              rintro e w' ⟨rfl, rfl⟩
              go_wp2_with fail
              refine (cK.out).mono ?_
              rintro e w2 ⟨v9, rfl, o9, hK3, hsz⟩
              obtain ⟨A9, c9, rfl, _⟩ := own_form o9
              have r9 := hide (Rd.of_own o9)
              have hB2 := Below.refl w2.heap.size w2
              replace hK3 := hide hK3
              clear o9
              go_wp2_with (at_builtin; first
                | (refine wpList_append_own _ rfl _ _ 43 rfl w2.heap.size 47 i0 _ 4 32 Try.underlying43 hi hz0 hz1 hz2 rfl (by decide) _ _ _ rfl ((own0 w2).alloc _) ⟨w2.heap.size, 0, none⟩ 1 1 [.int .i64 2, .int .i64 m2, .int .i64 0, .int .i64 0] rfl rfl (cells_newN _ _ _) (by intro u hu; simp at hu; rcases hu with rfl | rfl | rfl | rfl <;> rfl) (by unfold maxLen; omega) (by omega) (by have := hB2.size; simp <;> omega) ?_; intro v3 w3 o3 hg3 _; have hB3 := (hB2.alloc hB2.size _).grown hg3 (by have := hB2.size; simp <;> omega) (fun k hk => ((own0 w2).lt k hk).1); obtain ⟨A3, c3, rfl, _⟩ := own_form o3)
                | (refine wpList_append_own _ rfl _ _ 43 rfl w2.heap.size 47 i0 _ 4 32 Try.underlying43 hi hz0 hz1 hz2 rfl (by decide) _ _ _ rfl ((o3).alloc _) ⟨w3.heap.size, 0, none⟩ 1 1 [.int .i64 1, .int .i64 y, .int .i64 0, .int .i64 0] rfl rfl (cells_newN _ _ _) (by intro u hu; simp at hu; rcases hu with rfl | rfl | rfl | rfl <;> rfl) (by unfold maxLen; omega) (by omega) (by have := hB3.size; simp <;> omega) ?_; intro v3 w4 o4 hg3 _; have hB4 := (hB3.alloc hB3.size _).grown hg3 (by have := hB3.size; simp <;> omega) (fun k hk => ((o3).lt k hk).1); obtain ⟨A4, c4, rfl, _⟩ := own_form o4))
              have r10 : Hid (Rd w4 _ 4 ([⟨2, m2, 0, 0⟩, ⟨1, y, 0, 0⟩] : List Note).length (([⟨2, m2, 0, 0⟩, ⟨1, y, 0, 0⟩] : List Note).flatMap Note.enc)) := hide (Rd.of_own o4)
              have hK4 := hide (hK3.out.below hB4)
              replace r9 := hide (r9.out.below hB4 (Nat.le_refl _))
              clear o3 o4 hK3
              have hK3 := hK4
              clear hK4
              go_wp2
              go_loopw [11] (fun i wr => ∃ k : Nat, k ≤ 2 ∧ i = .int .i64 k ∧ ∃ q, wr = w4.drewN q)
                (fun i _ => 2 - (intOf i).toNat)
              case atStart => exact ⟨0, Nat.zero_le _, rfl, 0, rfl⟩
              case round =>
                obtain ⟨k, hk, rfl, q, hwr⟩ := hrel
                obtain ⟨wE, hE⟩ : ∃ wE, wE = wr := ⟨_, rfl⟩
                subst hE
                have hbE : Below w4.heap.size w4 wE := by rw [hwr]; exact below_drewN (Below.refl _ _) q
                by_cases hkn : k < 2
                · obtain ⟨b9, f9, e9, _, k9⟩ := note_cells (r9.out.below hbE (Nat.le_refl _)) rfl (by simp)
                  obtain ⟨b10, f10, e10, _, k10⟩ := note_cells (r10.out.below hbE (Nat.le_refl _)) rfl (by simp)
                  subst e9 e10
                  obtain ⟨s0, s1, s2, s3⟩ := k9 k hkn
                  obtain ⟨t0, t1, t2, t3⟩ := k10 k hkn
                  generalize (List.getD ([⟨2, m2, 0, 0⟩, ⟨1, y, 0, 0⟩] : List Note) k default).k = z0 at s0 t0
                  generalize (List.getD ([⟨2, m2, 0, 0⟩, ⟨1, y, 0, 0⟩] : List Note) k default).s = z1 at s1 t1
                  generalize (List.getD ([⟨2, m2, 0, 0⟩, ⟨1, y, 0, 0⟩] : List Note) k default).x = z2 at s2 t2
                  generalize (List.getD ([⟨2, m2, 0, 0⟩, ⟨1, y, 0, 0⟩] : List Note) k default).y = z3 at s3 t3
                  replace hwr := hide hwr
                  clear k9 k10 hbE
                  go_wp2
                  go_quiet (fail)
                  all_goals go_wp2
                  go_roundw
                  case rel => exact ⟨k + 1, by omega, by go_num, q + nq, by rw [hwr.out, World.drewN_drewN]⟩
                  case measure => simp [intOf]; omega
                · obtain rfl : k = 2 := by omega
                  have hK5 := hK3.out.below hbE
                  have cF := hide (focus_any wE p 0 0 0 y hK5.seat)
                  replace hK5 := hide hK5
                  clear hwr hbE
                  go_wp2_with (go_at_call 15; refine cF.out.mono ?_; rintro e wF ⟨rfl, qf, rfl⟩)
                  go_roundw
                  case rel => exact ⟨j + 1, y, by omega, by omega, by go_num, rfl, by omega, by omega, hide (hK5.out.below (below_drewN (Below.refl _ _) qf))⟩
                  case measure => simp [intOf]; omega
      · have hx : 30 ≤ (j : Int) := by omega
        clear hlt30
        have hbd := hide hK.out.be
        have ca := hide (awake20_any wA)
        clear hK
        go_wp2_with fail
        refine (ca.out).mono ?_
        rintro e w9 ⟨rfl, hb9⟩
        go_wp2
        go_ret
        exact ⟨rfl, hbd.out.trans (hb9.mono hbd.out.size)⟩
    · have hx : (N : Int) ≤ j := by omega
      clear hlt
      have hbd := hide hK.out.be
      have ca := hide (awake20_any wA)
      clear hK
      go_wp2_with fail
      refine (ca.out).mono ?_
      rintro e w9 ⟨rfl, hb9⟩
      go_wp2
      go_ret
      exact ⟨rfl, hbd.out.trans (hb9.mono hbd.out.size)⟩
end Go.Proofs.Ytfekldcpjoiipaa
