/-
  The law SeatPlays, as a walk: the loop.
-/
import Derived.Test.YtfekldcpjoiipaaLaw20p
namespace Go.Proofs.Ytfekldcpjoiipaa
open Go.RowKit Go.Shelf
set_option linter.unusedVariables false

theorem listN {n : Nat} (hn : n ≤ 6) : n ≤ 9223372036854775807 := by omega

set_option maxRecDepth 1000000 in
set_option maxHeartbeats 4000000 in
theorem seatPlays_any (W : World) (A : Option Addr) (c : Nat) (Ls : List HRow) (hr : Rd W (.slice A Ls.length c) 1 Ls.length (Ls.map HRow.val)) (hg : ∀ r ∈ Ls, r.good W) (hlen : ∀ r ∈ Ls, r.l.length ≤ 9223372036854775807)
    (A2 : Option Addr) (c2 : Nat) (os : List Op20) (hr2 : Rd W (.slice A2 os.length c2) 4 os.length (os.flatMap Op20.enc)) (hg2 : ∀ o ∈ os, o.good) :
    Calls Try.prog 6 #[.slice A Ls.length c, .slice A2 os.length c2] W fun e w' => e = .returned (.bool true) ∧ Below W.heap.size W w' := by
  have cF := few_any W A c Ls hr hg
  obtain ⟨n, hn⟩ : ∃ n, n = Ls.length := ⟨_, rfl⟩
  obtain ⟨N, hN2⟩ : ∃ N, N = os.length := ⟨_, rfl⟩
  rw [← hN2] at hr2 ⊢
  rw [← hn] at cF hr ⊢
  have hFar : Hid (∀ w, Below W.heap.size W w → Ls.length ≤ 6 → Calls Try.prog 12 #[.slice A n c] w (FarOut w)) := hide fun w hb h6 => by
    rw [hn]
    exact far_any w A c Ls (by rw [hn] at hr; exact hr.below hb (Nat.le_refl _)) (fun r hr => HRow.good_below (hg r hr) hb) hlen h6
  have hcell := hide (fun h0 => HRow.cell hr hn h0)
  have hG := hide (fun k (hk : k < n) => hg (Ls.getD k default) (getD_mem (by omega)))
  replace hn := hide hn
  replace hN2 := hide hN2
  replace hr2 := hide hr2
  replace hg2 := hide hg2
  replace cF := hide cF
  have cN := hide (fun w => seNew_any w)
  have cW := hide (fun w => awake20_any w)
  clear hr hg hlen
  go_enter Try.func6, Try.ntmps6
  go_wp2_with fail
  refine cF.out.mono ?_
  rintro e w1 ⟨hB1, (rfl | ⟨vm, Ms, rfl, hF, h6⟩)⟩
  · have hfin := hide (fun (w2 : World) (hB2 : Below w1.heap.size w1 w2) => hB1.trans (hB2.mono hB1.size))
    go_wp2_with (first
      | (go_at_call 11; refine (cN.out _).mono ?_; rintro e w2 ⟨rfl, hs2, hB2⟩)
      | (go_at_call 9; refine (cW.out _).mono ?_; rintro e w3 ⟨rfl, hB3⟩))
    go_ret
    exact ⟨rfl, ((hfin.out _ hB2).trans (((Below.refl _ _).alloc (Nat.le_refl _) _).mono (hfin.out _ hB2).size)).trans (hB3.mono (Nat.le_trans (hfin.out _ hB2).size (by simp)))⟩
  · go_wp2_with fail
    refine (cN.out _).mono ?_
    rintro e w2' ⟨rfl, hs2', hB2'⟩
    have hB12' := hB1.trans (hB2'.mono hB1.size)
    have hal : Below w2'.heap.size w2' (w2'.alloc (.cells #[.int .i64 0, .int .i64 0, .int .i64 0, .int .i64 0] 58)) := (Below.refl _ _).alloc (Nat.le_refl _) _
    have hRef : RefAt (w2'.alloc (.cells #[.int .i64 0, .int .i64 0, .int .i64 0, .int .i64 0] 58)) w2'.heap.size 0 0 0 0 := heap_alloc_new _ _
    go_upto_region 4 with fail
    obtain ⟨q, hq⟩ : ∃ q, q = w2'.heap.size := ⟨_, rfl⟩
    obtain ⟨w2, hw2⟩ : ∃ w2, w2 = w2'.alloc (.cells #[.int .i64 0, .int .i64 0, .int .i64 0, .int .i64 0] 58) := ⟨_, rfl⟩
    rw [← hw2] at hal hRef ⊢
    have hs2 := hs2'.below hal
    have hB2 := hB2'.trans (hal.mono hB2'.size)
    have hB12 := hB12'.trans (hal.mono hB12'.size)
    have hqp : w1.heap.size < q := by rw [hq]; exact hs2'.lt
    rw [← hq] at hRef ⊢
    clear hs2' hB2' hB12' hal hw2 hq
    by_cases h0 : n = 0
    · subst h0
      go_wp2_with (go_at_call 9; refine (cW.out _).mono ?_; rintro e w3 ⟨rfl, hB3⟩)
      go_ret
      exact ⟨rfl, hB12.trans (hB3.mono hB12.size)⟩
    · have h0' : 0 < n := by omega
      have hnz : ((n : Int) == 0) = false := by simpa using h0
      have cA := hide (hFar.out w2 hB12 h6)
      unfold FarOut at cA
      have hSL : Hid (DuoS W w2 Ls Ms vm w1.heap.size q ⟨0, 0, 0, 0⟩ ⟨0, 0, 0, 0⟩ w2) := hide (by
        have key : ∀ g, w1.heap.size ≤ g → vm.ownBlock ≠ some g ∧ ∀ M ∈ Ms, M.val.ownBlock ≠ some g ∧ ∀ h ∈ M.l, h.reg.ownBlock ≠ some g := fun g hgg => by
          refine ⟨fun e => ?_, fun M hM => ?_⟩
          · obtain ⟨cur, hcur⟩ := own_typeE hF.row e
            have := lt_of_block hcur
            omega
          · obtain ⟨i, hi, rfl⟩ := List.getElem_of_mem hM
            have hi2 : i < Ls.length := by rw [← hF.len]; exact hi
            have ho := hF.each i hi2
            have e1 : Ms.getD i default = Ms[i] := by simp [List.getD, hi]
            rw [e1] at ho
            refine ⟨fun e => ?_, fun z hz e => ?_⟩
            · obtain ⟨cur, hcur⟩ := own_typeE ho.row e
              have := lt_of_block hcur
              omega
            · obtain ⟨cur, hcur⟩ := own_typeE (ho.reg z hz) e
              have := lt_of_block hcur
              omega
        have i0 : I64 0 ∧ I64 0 := by unfold I64; omega
        exact ⟨⟨hs2, hF.below hB2, ⟨hB1.size, key _ (Nat.le_refl _)⟩, i0⟩, hRef, ⟨Nat.le_trans hB1.size (Nat.le_of_lt hqp), by omega, key q (Nat.le_of_lt hqp)⟩, i0⟩)
      obtain ⟨p, hp⟩ : ∃ p, p = w1.heap.size := ⟨_, rfl⟩
      rw [← hp] at hSL ⊢
      clear hs2 hF hp hRef hqp
      go_wp2_with fail
      refine cA.out.mono ?_
      rintro e w3 ⟨⟨fb, rfl⟩, hB3⟩
      have hSL3 := hide (hSL.out.below hB3)
      cases fb with
      | true =>
        go_wp2_with (go_at_call 9; refine (cW.out _).mono ?_; rintro e w4 ⟨rfl, hB4⟩)
        go_ret
        exact ⟨rfl, hSL3.out.s.few.be.trans (hB4.mono hSL3.out.s.few.be.size)⟩
      | false =>
        clear hSL hB3 hB12 hB2 hB1
        go_wp2
        go_loopw [9] (fun i wr => ∃ (j : Nat) (s : St), j ≤ N ∧ j ≤ 60 ∧ i = .int .i64 j ∧ Hid (DuoS W w2 Ls Ms vm p q s s wr))
          (fun i _ => 60 - (intOf i).toNat)
        case atStart => exact ⟨0, _, Nat.zero_le _, Nat.zero_le _, rfl, hSL3⟩
        clear hSL3
        case round =>
          obtain ⟨j, s, hj, hj60, rfl, hK⟩ := hrel
          obtain ⟨wA, hA⟩ : ∃ wA, wA = wr := ⟨_, rfl⟩
          subst hA
          by_cases hlt : j < N
          · by_cases hlt60 : j < 60
            · have hgo := Op20.good_at hg2.out (k := j) (by rw [← hN2.out]; exact hlt)
              obtain ⟨b2, off2, rfl, hbl2, hc0, hc1, hc2, hc3⟩ := Op20.cells (hr2.out.below hK.out.s.few.be (Nat.le_refl _)) hN2.out.symm hlt
              obtain ⟨o, ho⟩ : ∃ o, o = os.getD j default := ⟨_, rfl⟩
              rw [← ho] at hgo hc0 hc1 hc2 hc3
              obtain ⟨kd, ox, oy, oat⟩ := o
              dsimp only at hc0 hc1 hc2 hc3
              obtain ⟨g0, g1, g2, g3⟩ := hgo
              dsimp only at g0 g1 g2 g3
              clear ho
              have p1 := Int.emod_nonneg oat (show (n : Int) ≠ 0 by omega)
              have p2 := Int.emod_lt_of_pos oat (show (0 : Int) < (n : Int) by omega)
              have hn6 : n ≤ 6 := by rw [hn.out]; exact h6
              have cP := fun w => place_any oat n w (by omega) (by omega)
              obtain ⟨qn, hqn0⟩ : ∃ qn : Nat, oat % (n : Int) = (qn : Int) := ⟨(oat % (n : Int)).toNat, by omega⟩
              rw [hqn0] at p1 p2 cP
              replace cP := hide cP
              clear hqn0
              have hqn : qn < n := by omega
              have hqL : qn < Ls.length := by rw [← hn.out]; exact hqn
              have y1 := Int.emod_nonneg kd (show (5 : Int) ≠ 0 by decide)
              have y2 := Int.emod_lt_of_pos kd (show (0 : Int) < 5 by decide)
              have cY := fun w => place_any kd 5 w (by omega) (by omega)
              obtain ⟨y, hy⟩ : ∃ y, y = kd % 5 := ⟨_, rfl⟩
              rw [← hy] at y1 y2 cY
              replace cY := hide cY
              clear hy
              obtain ⟨Am, cm, hvm, _⟩ := own_form hK.out.s.few.row
              have hrm := Rd.of_own hK.out.s.few.row
              rw [hvm] at hrm
              obtain ⟨bm, offm, rfl, hbm, hkm⟩ := HRow.cell hrm hK.out.s.few.len.symm (by omega)
              have hcm := hkm qn hqL
              have hbmp : bm ≠ p := fun e => hK.out.s.apart.2.1 (by rw [hvm, e]; rfl)
              have hbmq : bm ≠ q := fun e => hK.out.apart.2.2.1 (by rw [hvm, e]; rfl)
              rw [← hn.out] at hvm
              obtain ⟨bl, offl, rfl, hbl, hkl⟩ := hcell.out (by omega)
              have hcl := (hK.out.s.few.be.cell (p := ⟨bl, offl + qn, none⟩) hbl).trans (hkl qn hqn)
              have hblW := Nat.lt_of_lt_of_le hbl hK.out.s.few.be.size
              have hblp : bl ≠ p := by have := hK.out.s.apart.1; omega
              have hblq : bl ≠ q := by have := hK.out.apart.1; omega
              have hcore := (hK.out.s.few.each qn hqL).core
              have h12 := (hK.out.s.few.each qn hqL).len12
              have hgM := (hK.out.s.few.each qn hqL).good
              obtain ⟨hRd, hRg⟩ := hG.out qn hqn
              obtain ⟨MA, hMA⟩ : ∃ MA, MA = (Ms.getD qn default).A := ⟨_, rfl⟩
              obtain ⟨Mc, hMc⟩ : ∃ Mc, Mc = (Ms.getD qn default).c := ⟨_, rfl⟩
              obtain ⟨ml, hml⟩ : ∃ ml, ml = (Ms.getD qn default).l.length := ⟨_, rfl⟩
              obtain ⟨LA, hLA⟩ : ∃ LA, LA = (Ls.getD qn default).A := ⟨_, rfl⟩
              obtain ⟨Lc, hLc⟩ : ∃ Lc, Lc = (Ls.getD qn default).c := ⟨_, rfl⟩
              obtain ⟨ll, hll⟩ : ∃ ll, ll = (Ls.getD qn default).l.length := ⟨_, rfl⟩
              have hMv : (Ms.getD qn default).val = .slice MA ml Mc := by rw [hMA, hMc, hml]; rfl
              have hLv : (Ls.getD qn default).val = .slice LA ll Lc := by rw [hLA, hLc, hll]; rfl
              obtain ⟨l, hl⟩ : ∃ l, l = (Ls.getD qn default).l := ⟨_, rfl⟩
              rw [hMv] at hcm
              rw [hLv] at hcl hRd
              rw [← hl] at hRd hRg hcore
              have hX : Cx W Ls Ms qn (.slice MA ml Mc) (.slice LA ll Lc) l := by
                refine ⟨hqL, hMv, hcore, hRd, fun z hz => ?_, ?_⟩
                · have h1 : z.core ∈ (Ms.getD qn default).l.map Hit.core := by rw [hcore]; exact List.mem_map.2 ⟨z, hz, rfl⟩
                  obtain ⟨m, hm1, hm2⟩ := List.mem_map.1 h1
                  exact Hit.good_core hm2 (hgM m hm1)
                · have h2 := congrArg List.length hcore
                  simp only [List.length_map] at h2
                  omega
              clear hMA hMc hml hLA hLc hll hMv hLv hl hRd hRg hcore hgM h12 hkm hrm hkl
              subst hvm
              have hplt := hK.out.s.seat.lt
              have hqlt := hK.out.r.lt
              have hal : Below wA.heap.size wA (wA.alloc (.cells #[.int .i64 kd, .int .i64 ox, .int .i64 oy, .int .i64 oat] 42)) := (Below.refl _ _).alloc (Nat.le_refl _) _
              have hblk : (wA.alloc (.cells #[.int .i64 kd, .int .i64 ox, .int .i64 oy, .int .i64 oat] 42)).heap[wA.heap.size]? = some (.cells #[.int .i64 kd, .int .i64 ox, .int .i64 oy, .int .i64 oat] 42 (0, 0)) := heap_alloc_new _ _
              replace hX := hide hX
              go_upto_region 10 with fail
              obtain ⟨wB, hwB⟩ : ∃ wB, wB = wA.alloc (.cells #[.int .i64 kd, .int .i64 ox, .int .i64 oy, .int .i64 oat] 42) := ⟨_, rfl⟩
              rw [← hwB] at hal hblk ⊢
              obtain ⟨ob, hob⟩ : ∃ ob, ob = wA.heap.size := ⟨_, rfl⟩
              have hlo := lt_of_block hblk
              have hT : Tri W w2 Ls Ms (.slice (some ⟨bm, offm, none⟩) n cm) p q ob bm (offm + qn) bl (offl + qn) ⟨kd, ox, oy, oat⟩ (.slice MA ml Mc) (.slice LA ll Lc) s s wB := by
                rw [← hob] at hblk hlo
                exact ⟨hK.out.below hal, ⟨by rw [cell_of_row wB _ 0 _ _ _ hblk]; rfl, by rw [cell_of_row wB _ 1 _ _ _ hblk]; rfl, by rw [cell_of_row wB _ 2 _ _ _ hblk]; rfl, by rw [cell_of_row wB _ 3 _ _ _ hblk]; rfl,
                  (hal.cell (p := ⟨bm, offm + qn, none⟩) hbm).trans hcm, (hal.cell (p := ⟨bl, offl + qn, none⟩) hblW).trans hcl, ⟨hlo, Nat.lt_of_lt_of_le hbm hal.size, Nat.lt_of_lt_of_le hblW hal.size⟩, ⟨by omega, hbmp, hblp⟩, by omega, hbmq, hblq⟩⟩
              rw [← hob]
              clear hwB hal hblk hlo hob hc0 hc1 hc2 hc3 hcm hcl hbm hblW hbmp hbmq hblp hblq hplt hqlt hbl hbl2 hK
              obtain ⟨a, ha⟩ : ∃ a, a = (atH l ox oy).1 := ⟨_, rfl⟩
              obtain ⟨ax, hax⟩ : ∃ ax, ax = (atH l ox oy).2.1 := ⟨_, rfl⟩
              obtain ⟨ay, hay⟩ : ∃ ay, ay = (atH l ox oy).2.2 := ⟨_, rfl⟩
              have e0 := hT.six.c0
              have e1 := hT.six.c1
              have e2 := hT.six.c2
              have e3 := hT.six.c3
              have e4 := hT.six.ch
              dsimp only at e0 e1 e2 e3
              have cA1 := tAt hX.out hT.drew g1 g2
              rw [← ha, ← hax, ← hay] at cA1
              replace cA1 := hide cA1
              have cA2 : Hid (∀ w', Tri W w2 Ls Ms (.slice (some ⟨bm, offm, none⟩) n cm) p q ob bm (offm + qn) bl (offl + qn) ⟨kd, ox, oy, oat⟩ (.slice MA ml Mc) (.slice LA ll Lc) s s w' → Calls Try.prog 18 #[.slice LA ll Lc, .int .i64 ox, .int .i64 oy] w' fun e w'' => e = .returned (.tuple #[.int .i64 a, .int .i64 ax, .int .i64 ay]) ∧ Tri W w2 Ls Ms (.slice (some ⟨bm, offm, none⟩) n cm) p q ob bm (offm + qn) bl (offl + qn) ⟨kd, ox, oy, oat⟩ (.slice MA ml Mc) (.slice LA ll Lc) s s w'') :=
                hide fun w' hT' => by rw [ha, hax, hay]; exact tRAt hX.out hT' g1 g2
              clear ha hax hay hT
              go_upto_region 11 with (go_at_call 7; refine (cP.out _).mono ?_; rintro e w' ⟨rfl, rfl⟩)
              go_region_held3 (fun w' => w'.cell? ⟨ob, 1, none⟩ = some (.int .i64 ox) ∧ w'.cell? ⟨ob, 2, none⟩ = some (.int .i64 oy) ∧ w'.cell? ⟨bm, offm + qn, none⟩ = some (.slice MA ml Mc)) (go_keep)
                (first | (go_at_call 8; refine cA1.out.mono ?_; rintro e w5 ⟨rfl, hc⟩; have k1 := hc.six.c1; have k2 := hc.six.c2; have k4 := hc.six.ch; dsimp only at k1 k2; replace hc := hide hc))
              have l1 := hc.out.six.c1
              have l2 := hc.out.six.c2
              have l5 := hc.out.six.cl
              dsimp only at l1 l2
              have cA3 := hide (cA2.out _ hc.out.drew)
              clear cA1 cA2 e0 e1 e2 e3 e4 hc
              go_upto_region 12 with fail
              go_region_held3 (fun w' => w'.cell? ⟨ob, 1, none⟩ = some (.int .i64 ox) ∧ w'.cell? ⟨ob, 2, none⟩ = some (.int .i64 oy) ∧ w'.cell? ⟨bl, offl + qn, none⟩ = some (.slice LA ll Lc)) (go_keep)
                (first | (go_at_call 18; refine cA3.out.mono ?_; rintro e w6 ⟨rfl, hc⟩; have m1 := hc.six.c1; have m2 := hc.six.c2; have m5 := hc.six.cl; dsimp only at m1 m2; replace hc := hide hc))
              clear cA3
              go_upto_region 13 with fail
              obtain ⟨w7, hw7⟩ : ∃ w7, w7 = w6 := ⟨_, rfl⟩
              subst hw7
              go_cut [18] (fun g w => g = .bool true ∧ w = w7)
              case first =>
                by_cases ha0 : a = 0
                · subst ha0
                  go_wp2
                  go_meet
                  exact ⟨rfl, rfl⟩
                · have hq0 : (a == 0) = false := by simpa using ha0
                  clear ha0
                  go_wp2
                  go_meet
                  exact ⟨rfl, rfl⟩
              case rest =>
                obtain ⟨rfl, rfl⟩ := hcut
                have n0 := hc.out.six.c0
                dsimp only at n0
                go_upto_block 2 with (go_at_call 7; refine (cY.out _).mono ?_; rintro e w' ⟨rfl, rfl⟩)
                refine wp_code_eq (c' := sw20) (by kernel_rfl) ?_
                (with_reducible refine sw_any hX.out hc.out hqn hn6 y1 y2 ?_)
                intro a' w8 hSw
                refine hSw.elim ?_
                clear hSw hc
                intro u116 u117 u118 u119 u120 u121 u122 u123 u124 u125 u126 u127 u128 u129 u130 u131 u132 u133 u134 u135 u136 u137 u138 u139 u140 u141 u142 u143 u144 u145 u146 u147 u148 u149 u150 u151 u152 u153 u154 u155 u156 u157 u158 u159 u160 u161 u162 u163 u164 u165 u166 u167 u168 u169 u170 u171 u172 u173 u174 u175 u176 u177 u178 u179 u180 u181
                rintro ⟨s2, h4⟩ rfl
                obtain ⟨x5, y5, k5, f5⟩ := s2
                have cFo := hide (focus_any w8 p x5 y5 k5 f5 h4.out.duo.s.seat)
                have cPl := hide (fun m => place_seat (w8.drewN m) p x5 y5 k5 f5 (h4.out.below (below_drewN (Below.refl _ _) m)).duo.s.seat)
                obtain ⟨r0, r1, r2, r3⟩ := h4.out.duo.r.cells
                dsimp only at r0 r1 r2 r3
                go_wp2_with (first
                  | (go_at_call 15; refine cFo.out.mono ?_; rintro e wF ⟨rfl, qf, rfl⟩)
                  | (go_at_call 24; refine (cPl.out _).mono ?_; rintro e wF ⟨rfl, qg, rfl⟩))
                go_roundw
                case rel => exact ⟨j + 1, _, by omega, by omega, by go_num, hide ((h4.out.below (below_drewN (Below.refl _ _) (qf + qg))).duo)⟩
                case measure => simp [intOf]; omega
            · have hx : 60 ≤ (j : Int) := by omega
              clear hlt60
              have hbd := hide hK.out.s.few.be
              clear hK
              go_wp2_with (go_at_call 9; refine (cW.out _).mono ?_; rintro e w9 ⟨rfl, hb9⟩)
              go_ret
              exact ⟨rfl, hbd.out.trans (hb9.mono hbd.out.size)⟩
          · have hx : (N : Int) ≤ j := by omega
            clear hlt
            have hbd := hide hK.out.s.few.be
            clear hK
            go_wp2_with (go_at_call 9; refine (cW.out _).mono ?_; rintro e w9 ⟨rfl, hb9⟩)
            go_ret
            exact ⟨rfl, hbd.out.trans (hb9.mono hbd.out.size)⟩
end Go.Proofs.Ytfekldcpjoiipaa
