/-
  The law SeatEnters, as a walk.
-/
import Derived.Test.YtfekldcpjoiipaaFar
import Derived.Test.YtfekldcpjoiipaaNotes20
import Derived.Test.YtfekldcpjoiipaaOps20
namespace Go.Proofs.Ytfekldcpjoiipaa
open Go.RowKit Go.Shelf
set_option linter.unusedVariables false

/-- The seat and the lists, laid since W. -/
structure SeatL (W w0 : World) (Ls Ms : List HRow) (vm : Value) (p : Nat) (x y k f : Int) (w : World) : Prop where
  seat : SeatAt w p x y k f
  few : FewI Ls Ls.length vm Ms W w
  apart : W.heap.size ≤ p ∧ vm.ownBlock ≠ some p ∧ ∀ M ∈ Ms, M.val.ownBlock ≠ some p ∧ ∀ h ∈ M.l, h.reg.ownBlock ≠ some p
  i64 : I64 x ∧ I64 y
theorem SeatL.below {W w0 w w' : World} {Ls Ms : List HRow} {vm : Value} {p : Nat} {x y k f : Int} (h : SeatL W w0 Ls Ms vm p x y k f w) (hb : Below w.heap.size w w') : SeatL W w0 Ls Ms vm p x y k f w' :=
  ⟨h.seat.below hb, h.few.below hb, h.apart, h.i64⟩
theorem own_chgE {w w' : World} {base n sz p : Nat} {e : TypeId} {v : Value} {cs : List Value} (h : w.ownsRow base e sz v n cs) (hg : Chg (fun b => b = p) w w') (hn : v.ownBlock ≠ some p) : w'.ownsRow base e sz v n cs := by
  refine ⟨h.1, ?_⟩
  rcases h.2 with h2 | ⟨g, cap, cur, rfl, hb, hgg, r⟩
  · exact .inl h2
  · exact .inr ⟨g, cap, cur, rfl, hb, (hg.block g (lt_of_block hgg) (fun e => hn (by rw [← e]; rfl))).trans hgg, r⟩
theorem SeatL.turn {W w0 w w' : World} {Ls Ms : List HRow} {vm : Value} {p : Nat} {x y k f x' y' k' f' : Int} (h : SeatL W w0 Ls Ms vm p x y k f w) (hs : SeatAt w' p x' y' k' f') (hc : Chg (fun b => b = p) w w') (hi : I64 x' ∧ I64 y') : SeatL W w0 Ls Ms vm p x' y' k' f' w' :=
  ⟨hs, ⟨own_chgE h.few.row hc h.apart.2.1, h.few.len, fun i hi => by
    have ho := h.few.each i hi
    have hm : Ms.getD i default ∈ Ms := getD_mem (by rw [h.few.len]; exact hi)
    exact ⟨own_chgE ho.row hc (h.apart.2.2 _ hm).1, ho.core, fun z hz => own_chgE (ho.reg z hz) hc ((h.apart.2.2 _ hm).2 z hz), ho.good, ho.len12⟩,
    h.few.be.trans (hc.below h.few.be.size (fun b hb => by rw [hb]; exact h.apart.1))⟩, h.apart, hi⟩
/-- One of the lists. -/
theorem SeatL.list {W w0 w : World} {Ls Ms : List HRow} {vm : Value} {p : Nat} {x y k f : Int} (h : SeatL W w0 Ls Ms vm p x y k f w) {i : Nat} (hi : i < Ls.length) :
    RdH w (Ms.getD i default).val (Ms.getD i default).l ∧ (∀ z ∈ (Ms.getD i default).l, z.good) ∧ (Ms.getD i default).val.ownBlock ≠ some p ∧ (∀ z ∈ (Ms.getD i default).l, z.reg.ownBlock ≠ some p) ∧ (Ms.getD i default).l.length ≤ 1000000 := by
  have ho := h.few.each i hi
  have hm : Ms.getD i default ∈ Ms := getD_mem (by rw [h.few.len]; exact hi)
  exact ⟨ho.hits, ho.good, (h.apart.2.2 _ hm).1, (h.apart.2.2 _ hm).2, by have := ho.len12; omega⟩
theorem cutE_i64 (n : Int) : I64 (cutE n) := by unfold cutE I64; omega

theorem lMove {W w0 w : World} {Ls Ms : List HRow} {vm : Value} {p : Nat} {x y k f : Int} (h : SeatL W w0 Ls Ms vm p x y k f w) {i : Nat} (hi : i < Ls.length) (mx my : Int) :
    Calls Try.prog 13 #[.pointer (some ⟨p, 0, none⟩), .int .i64 mx, .int .i64 my, (Ms.getD i default).val] w fun e w' => ∃ N v, e = .returned v ∧ N.length ≤ 2 ∧ w'.ownsRow w.heap.size 47 4 v N.length (N.flatMap Note.enc) ∧
      okN true k N ∧ SeatL W w0 Ls Ms vm p (cutE mx) (cutE my) (inF k N) f w' ∧ Chg (fun b => b = p) w w' := by
  obtain ⟨h1, h2, h3, h4, hl⟩ := h.list hi
  refine (move_any w p x y k f mx my _ _ h.seat h1 h2 h3 h4 hl).mono ?_
  rintro e w' ⟨v, rfl, ho, hs, hc⟩
  have hk := okN_move (Ms.getD i default).l (cutE mx) (cutE my) k
  rw [← hk.2] at hs
  exact ⟨_, v, rfl, moveN_len _ _ _ _, ho, hk.1, h.turn hs hc ⟨cutE_i64 _, cutE_i64 _⟩, hc⟩
theorem lLook {W w0 w : World} {Ls Ms : List HRow} {vm : Value} {p : Nat} {x y k f : Int} (h : SeatL W w0 Ls Ms vm p x y k f w) {i : Nat} (hi : i < Ls.length) :
    Calls Try.prog 14 #[.pointer (some ⟨p, 0, none⟩), (Ms.getD i default).val] w fun e w' => ∃ N v, e = .returned v ∧ N.length ≤ 2 ∧ w'.ownsRow w.heap.size 47 4 v N.length (N.flatMap Note.enc) ∧
      okN false k N ∧ SeatL W w0 Ls Ms vm p x y (inF k N) f w' ∧ Chg (fun b => b = p) w w' := by
  obtain ⟨h1, h2, h3, h4, hl⟩ := h.list hi
  refine (look_any w p x y k f _ _ h.seat h1 h2 h.i64.1 h.i64.2 hl).mono ?_
  rintro e w' ⟨v, rfl, ho, hs, hc⟩
  have hk := okN_look (Ms.getD i default).l x y k
  rw [← hk.2] at hs
  exact ⟨_, v, rfl, lookN_len _ _ _ _, ho, hk.1, h.turn hs hc h.i64, hc⟩

theorem HRow.good_below {w w' : World} {r : HRow} (h : r.good w) (hb : Below w.heap.size w w') : r.good w' := ⟨h.1.below hb (Nat.le_refl _), h.2⟩

set_option maxRecDepth 100000 in
set_option maxHeartbeats 1000000 in
theorem seatEnters_any (W : World) (A : Option Addr) (c : Nat) (Ls : List HRow) (hr : Rd W (.slice A Ls.length c) 1 Ls.length (Ls.map HRow.val)) (hg : ∀ r ∈ Ls, r.good W) (hlen : ∀ r ∈ Ls, r.l.length ≤ 9223372036854775807)
    (A2 : Option Addr) (c2 : Nat) (os : List Op20) (hr2 : Rd W (.slice A2 os.length c2) 4 os.length (os.flatMap Op20.enc)) (hg2 : ∀ o ∈ os, o.good) :
    Calls Try.prog 4 #[.slice A Ls.length c, .slice A2 os.length c2] W fun e w' => e = .returned (.bool true) ∧ Below W.heap.size W w' := by
  have cF := few_any W A c Ls hr hg
  obtain ⟨n, hn⟩ : ∃ n, n = Ls.length := ⟨_, rfl⟩
  obtain ⟨N, hN2⟩ : ∃ N, N = os.length := ⟨_, rfl⟩
  rw [← hN2] at hr2 ⊢
  rw [← hn] at cF ⊢
  have hFar : Hid (∀ w, Below W.heap.size W w → Ls.length ≤ 6 → Calls Try.prog 12 #[.slice A n c] w (FarOut w)) := hide fun w hb h6 => by
    rw [hn]
    exact far_any w A c Ls (hr.below hb (Nat.le_refl _)) (fun r hr => HRow.good_below (hg r hr) hb) hlen h6
  replace hn := hide hn
  replace hN2 := hide hN2
  replace hr2 := hide hr2
  replace hg2 := hide hg2
  replace cF := hide cF
  have cN := hide (fun w => seNew_any w)
  have cW := hide (fun w => awake20_any w)
  clear hr hg hlen
  go_enter Try.func4, Try.ntmps4
  go_wp2_with fail
  refine cF.out.mono ?_
  rintro e w1 ⟨hB1, (rfl | ⟨vm, Ms, rfl, hF, h6⟩)⟩
  · go_wp2_with (first
      | (go_at_call 11; refine (cN.out _).mono ?_; rintro e w2 ⟨rfl, hs2, hB2⟩)
      | (go_at_call 9; refine (cW.out _).mono ?_; rintro e w3 ⟨rfl, hB3⟩))
    go_ret
    exact ⟨rfl, (hB1.trans (hB2.mono hB1.size)).trans (hB3.mono (Nat.le_trans hB1.size hB2.size))⟩
  · go_wp2_with fail
    refine (cN.out _).mono ?_
    rintro e w2 ⟨rfl, hs2, hB2⟩
    have hB12 := hB1.trans (hB2.mono hB1.size)
    by_cases h0 : n = 0
    · subst h0
      go_wp2_with (go_at_call 9; refine (cW.out _).mono ?_; rintro e w3 ⟨rfl, hB3⟩)
      go_ret
      exact ⟨rfl, hB12.trans (hB3.mono hB12.size)⟩
    · have h0' : 0 < n := by omega
      have hnz : ((n : Int) == 0) = false := by simpa using h0
      have cA := hide (hFar.out w2 hB12 h6)
      unfold FarOut at cA
      have hSL : Hid (SeatL W w2 Ls Ms vm w1.heap.size 0 0 0 0 w2) := hide ⟨hs2, hF.below hB2, ⟨hB1.size, fun e => by
          obtain ⟨cur, hcur⟩ := own_typeE hF.row e
          have := lt_of_block hcur
          omega, fun M hM => by
          obtain ⟨i, hi, rfl⟩ := List.getElem_of_mem hM
          have hi2 : i < Ls.length := by rw [← hF.len]; exact hi
          have ho := hF.each i hi2
          have e1 : Ms.getD i default = Ms[i] := by simp [List.getD, hi]
          rw [e1] at ho
          refine ⟨fun e => ?_, fun z hz e => ?_⟩
          · obtain ⟨cur, hcur⟩ := own_typeE ho.row e
            have := lt_of_block hcur
            omega
          · obtain ⟨cur, hcur⟩ := own_typeE (ho.reg z hz) e
            have := lt_of_block hcur
            omega⟩, by unfold I64; omega⟩
      obtain ⟨p, hp⟩ : ∃ p, p = w1.heap.size := ⟨_, rfl⟩
      rw [← hp] at hSL ⊢
      clear hs2 hF hp
      go_wp2_with fail
      refine cA.out.mono ?_
      rintro e w3 ⟨⟨fb, rfl⟩, hB3⟩
      have hSL3 := hide (hSL.out.below hB3)
      cases fb with
      | true =>
        go_wp2_with (go_at_call 9; refine (cW.out _).mono ?_; rintro e w4 ⟨rfl, hB4⟩)
        go_ret
        exact ⟨rfl, hSL3.out.few.be.trans (hB4.mono hSL3.out.few.be.size)⟩
      | false =>
        clear hSL hB3 hB12 hB2 hB1
        go_wp2
        go_loopw [8, 9] (fun t8 i wr => ∃ (j : Nat) (x y k : Int), j ≤ N ∧ j ≤ 60 ∧ i = .int .i64 j ∧ t8 = .int .i64 k ∧ Hid (SeatL W w2 Ls Ms vm p x y k 0 wr))
          (fun _ i _ => 60 - (intOf i).toNat)
        case atStart => exact ⟨0, 0, 0, 0, Nat.zero_le _, Nat.zero_le _, rfl, rfl, hSL3⟩
        clear hSL3
        case round =>
          obtain ⟨j, x, y, k, hj, hj60, rfl, rfl, hK⟩ := hrel
          obtain ⟨wA, hA⟩ : ∃ wA, wA = wr := ⟨_, rfl⟩
          subst hA
          by_cases hlt : j < N
          · by_cases hlt60 : j < 60
            · have hgo := Op20.good_at hg2.out (k := j) (by rw [← hN2.out]; exact hlt)
              obtain ⟨b2, off2, rfl, hbl, hc0, hc1, hc2, hc3⟩ := Op20.cells (hr2.out.below hK.out.few.be (Nat.le_refl _)) hN2.out.symm hlt
              obtain ⟨o, ho⟩ : ∃ o, o = os.getD j default := ⟨_, rfl⟩
              rw [← ho] at hgo hc0 hc1 hc2 hc3
              obtain ⟨kd, ox, oy, oat⟩ := o
              dsimp only at hc0 hc1 hc2 hc3
              obtain ⟨g0, g1, g2, g3⟩ := hgo
              dsimp only at g0 g1 g2 g3
              clear ho
              have p1 := Int.emod_nonneg oat (show (n : Int) ≠ 0 by omega)
              have p2 := Int.emod_lt_of_pos oat (show (0 : Int) < (n : Int) by omega)
              have hn6 : n ≤ 6 := by rw [hn.out]; exact h6
              have cP := fun w => place_any oat n w (by omega) (by omega)
              obtain ⟨q, hq⟩ : ∃ q : Nat, oat % (n : Int) = (q : Int) := ⟨(oat % (n : Int)).toNat, by omega⟩
              rw [hq] at p1 p2 cP
              replace cP := hide cP
              clear hq
              have hqn : q < n := by omega
              have hqL : q < Ls.length := by rw [← hn.out]; exact hqn
              obtain ⟨Am, cm, hvm, _⟩ := own_form hK.out.few.row
              have hrm := Rd.of_own hK.out.few.row
              rw [hvm] at hrm
              obtain ⟨bm, offm, rfl, hbm, hkm⟩ := HRow.cell hrm hK.out.few.len.symm (by omega)
              have hcm := hkm q hqL
              have hbmp : bm ≠ p := fun e => hK.out.apart.2.1 (by rw [hvm, e]; rfl)
              rw [← hn.out] at hvm
              have cMv := fun w (hb : Below wA.heap.size wA w) => lMove (hK.out.below hb) hqL ox oy
              have cLk := fun w (hb : Below wA.heap.size wA w) => lLook (hK.out.below hb) hqL
              obtain ⟨MA, hMA⟩ : ∃ MA, MA = (Ms.getD q default).A := ⟨_, rfl⟩
              obtain ⟨Mc, hMc⟩ : ∃ Mc, Mc = (Ms.getD q default).c := ⟨_, rfl⟩
              obtain ⟨Ml, hMl⟩ : ∃ Ml, Ml = (Ms.getD q default).l.length := ⟨_, rfl⟩
              have hMv : (Ms.getD q default).val = .slice MA Ml Mc := by rw [hMA, hMc, hMl]; rfl
              rw [hMv] at hcm cMv cLk
              replace cMv := hide cMv
              replace cLk := hide cLk
              clear hMA hMc hMl hMv hkm hrm
              subst hvm
              have hplt := hK.out.seat.lt
              have hbB : Below wA.heap.size wA (wA.alloc (.cells #[.int .i64 kd, .int .i64 ox, .int .i64 oy, .int .i64 oat] 42)) := (Below.refl _ _).alloc (Nat.le_refl _) _
              have hblk : (wA.alloc (.cells #[.int .i64 kd, .int .i64 ox, .int .i64 oy, .int .i64 oat] 42)).heap[wA.heap.size]? = some (.cells #[.int .i64 kd, .int .i64 ox, .int .i64 oy, .int .i64 oat] 42 (0, 0)) := heap_alloc_new _ _
              go_upto_if 58 with fail
              obtain ⟨wB, hwB⟩ : ∃ wB, wB = wA.alloc (.cells #[.int .i64 kd, .int .i64 ox, .int .i64 oy, .int .i64 oat] 42) := ⟨_, rfl⟩
              rw [← hwB] at hbB hblk ⊢
              clear hwB
              have e0 : wB.cell? ⟨wA.heap.size, 0, none⟩ = some (.int .i64 kd) := by rw [cell_of_row wB _ 0 _ _ _ hblk]; rfl
              have e1 : wB.cell? ⟨wA.heap.size, 1, none⟩ = some (.int .i64 ox) := by rw [cell_of_row wB _ 1 _ _ _ hblk]; rfl
              have e2 : wB.cell? ⟨wA.heap.size, 2, none⟩ = some (.int .i64 oy) := by rw [cell_of_row wB _ 2 _ _ _ hblk]; rfl
              have e3 : wB.cell? ⟨wA.heap.size, 3, none⟩ = some (.int .i64 oat) := by rw [cell_of_row wB _ 3 _ _ _ hblk]; rfl
              have e4 := (hbB.cell (p := ⟨bm, offm + q, none⟩) hbm).trans hcm
              have hlBl := hide (lt_of_block hblk)
              have hlbm := hide (Nat.lt_of_lt_of_le hbm hbB.size)
              have hneB : Hid (wA.heap.size ≠ p) := hide (by omega)
              replace hbB := hide hbB
              clear hblk hc0 hc1 hc2 hc3 hcm
              go_cut [11] (fun u wx => ∃ (x' y' : Int) (N' : List Note) (A9 : Option Addr) (c9 : Nat), u = .slice A9 N'.length c9 ∧ N'.length ≤ 2 ∧ Hid (Rd wx (.slice A9 N'.length c9) 4 N'.length (N'.flatMap Note.enc)) ∧ Hid (okN (bits BinOp.and IntKind.i64 kd 1 == 0) k N') ∧
                Hid (SeatL W w2 Ls Ms (.slice (some ⟨bm, offm, none⟩) n cm) p x' y' (inF k N') 0 wx) ∧ Hid (wx.cell? ⟨wA.heap.size, 0, none⟩ = some (.int .i64 kd)))
              case first =>
                by_cases hbit : bits BinOp.and IntKind.i64 kd 1 = 0
                · have hb1 : (bits BinOp.and IntKind.i64 kd 1 == 0) = true := by simpa using hbit
                  have hM := hide (cMv.out wB.drew (below_drewN hbB.out 1))
                  have hb1' := hide hb1
                  clear hbit
                  go_wp2_with fail
                  go_region_held3 (fun w' => w'.cell? ⟨wA.heap.size, 1, none⟩ = some (.int .i64 ox) ∧ w'.cell? ⟨wA.heap.size, 2, none⟩ = some (.int .i64 oy) ∧ w'.cell? ⟨wA.heap.size, 3, none⟩ = some (.int .i64 oat) ∧ w'.cell? ⟨bm, offm + q, none⟩ = some (.slice MA Ml Mc)) (first | go_keep | exact ⟨s1, s2, s3, s4⟩)
                    (first
                    | (go_at_call 7; refine (cP.out _).mono ?_; rintro e w' ⟨rfl, rfl⟩)
                    | (go_at_call 13; refine hM.out.mono ?_; rintro e w5 ⟨N', v9, rfl, hl2, oN, hok, hSL5, hC5⟩; obtain ⟨A9, c9, rfl, _⟩ := own_form oN; have s0 : w5.cell? ⟨wA.heap.size, 0, none⟩ = _ := (World.cell?_of_block (a := ⟨wA.heap.size, 0, none⟩) (hC5.block _ hlBl.out hneB.out)).trans e0; have s1 : w5.cell? ⟨wA.heap.size, 1, none⟩ = _ := (World.cell?_of_block (a := ⟨wA.heap.size, 1, none⟩) (hC5.block _ hlBl.out hneB.out)).trans e1; have s2 : w5.cell? ⟨wA.heap.size, 2, none⟩ = _ := (World.cell?_of_block (a := ⟨wA.heap.size, 2, none⟩) (hC5.block _ hlBl.out hneB.out)).trans e2; have s3 : w5.cell? ⟨wA.heap.size, 3, none⟩ = _ := (World.cell?_of_block (a := ⟨wA.heap.size, 3, none⟩) (hC5.block _ hlBl.out hneB.out)).trans e3; have s4 : w5.cell? ⟨bm, offm + q, none⟩ = _ := (World.cell?_of_block (a := ⟨bm, offm + q, none⟩) (hC5.block _ hlbm.out hbmp)).trans e4))
                  replace hok := hide hok
                  replace oN := hide oN
                  replace hSL5 := hide hSL5
                  replace s0 := hide s0
                  go_wp2
                  go_meet
                  exact ⟨_, _, N', A9, c9, rfl, hl2, hide (Rd.of_own oN.out), by rw [hb1'.out]; exact hok, hSL5, s0⟩
                · have hb1 : (bits BinOp.and IntKind.i64 kd 1 == 0) = false := by simpa using hbit
                  have hM := hide (cLk.out wB hbB.out)
                  have hb1' := hide hb1
                  clear hbit
                  go_wp2_with (first
                    | (go_at_call 7; refine (cP.out _).mono ?_; rintro e w' ⟨rfl, rfl⟩)
                    | (go_at_call 14; refine hM.out.mono ?_; rintro e w5 ⟨N', v9, rfl, hl2, oN, hok, hSL5, hC5⟩; obtain ⟨A9, c9, rfl, _⟩ := own_form oN))
                  have s0 : Hid (w5.cell? ⟨wA.heap.size, 0, none⟩ = _) := hide ((World.cell?_of_block (a := ⟨wA.heap.size, 0, none⟩) (hC5.block _ hlBl.out hneB.out)).trans e0)
                  go_meet
                  exact ⟨_, _, N', A9, c9, rfl, hl2, hide (Rd.of_own oN), by rw [hb1'.out]; exact hide hok, hide hSL5, s0⟩
              case rest =>
                obtain ⟨x', y', N', A9, c9, rfl, hl2, hR9, hok, hSL, hbx⟩ := hcut
                obtain ⟨wD, hD⟩ : ∃ wD, wD = wc := ⟨_, rfl⟩
                subst hD
                obtain ⟨m2, hm2⟩ : ∃ m2, m2 = N'.length := ⟨_, rfl⟩
                rw [← hm2] at hl2 hR9 ⊢
                have hbx0 := hbx.out
                replace hm2 := hide hm2
                clear e0 e1 e2 e3 e4
                go_wp2
                go_loopw [8, 12] (fun t8 i wr => ∃ z : Nat, z ≤ m2 ∧ i = .int .i64 z ∧ t8 = .int .i64 (inF k (N'.take z)) ∧ wr = wD)
                  (fun _ i _ => m2 - (intOf i).toNat)
                case atStart => exact ⟨0, Nat.zero_le _, rfl, rfl, rfl⟩
                case round =>
                  obtain ⟨z, hz, rfl, rfl, rfl⟩ := hrel
                  by_cases hzl : z < m2
                  · obtain ⟨b9, f9, rfl, _, k9⟩ := note_cells hR9.out hm2.out (by omega)
                    obtain ⟨s0, s1, _, _⟩ := k9 z hzl
                    have hzN : z < N'.length := by rw [← hm2.out]; exact hzl
                    have hq1 := okN_at hok.out hzN
                    have hst := inF_take (c := k) hzN
                    generalize inF k (N'.take z) = cz at hq1 hst ⊢
                    obtain ⟨nt, hnt⟩ : ∃ nt, nt = N'.getD z default := ⟨_, rfl⟩
                    rw [← hnt] at s0 s1 hq1 hst
                    obtain ⟨zk, zs, zx, zy⟩ := nt
                    unfold okStep at hq1
                    unfold inStep at hst
                    dsimp only at s0 s1 hq1 hst
                    clear k9 hnt
                    replace hst := hide hst
                    rcases hq1 with ⟨rfl, rfl, hz0⟩ | ⟨rfl, rfl, hz0⟩ | ⟨rfl, rfl, hb0⟩
                    · have hz1 : (zs == 0) = false := by simpa using hz0
                      have hst2 : Hid (inF k (N'.take (z + 1)) = zs) := hide (by rw [hst.out]; rfl)
                      clear hst hz0
                      go_wp2
                      go_roundw
                      case rel => exact ⟨z + 1, by omega, by go_num, by rw [hst2.out], by first | trivial | rfl⟩
                      case measure => simp [intOf]; omega
                    · have hz1 : (cz == 0) = false := by simpa using hz0
                      have hst2 : Hid (inF k (N'.take (z + 1)) = 0) := hide (by rw [hst.out]; rfl)
                      clear hst hz0
                      go_wp2
                      go_roundw
                      case rel => exact ⟨z + 1, by omega, by go_num, by rw [hst2.out], by first | trivial | rfl⟩
                      case measure => simp [intOf]; omega
                    · have hb1 : bits BinOp.and IntKind.i64 kd 1 = 0 := by simpa using hb0
                      have hb2 : (bits BinOp.and IntKind.i64 kd 1 != 0) = false := by simpa using hb1
                      have hst2 : Hid (inF k (N'.take (z + 1)) = cz) := hide (by rw [hst.out]; rfl)
                      clear hst hb1
                      go_wp2
                      go_roundw
                      case rel => exact ⟨z + 1, by omega, by go_num, by rw [hst2.out], by first | trivial | rfl⟩
                      case measure => simp [intOf]; omega
                  · obtain rfl : z = m2 := by omega
                    have hall : inF k (N'.take z) = inF k N' := by rw [hm2.out]; exact inF_all
                    rw [hall]
                    clear hall
                    have cFo := hide (focus_any wr p x' y' (inF k N') 0 hSL.out.seat)
                    generalize inF k N' = kn at cFo hSL ⊢
                    go_wp2_with (go_at_call 15; refine cFo.out.mono ?_; rintro e wF ⟨rfl, qf, rfl⟩)
                    go_roundw
                    case rel => exact ⟨j + 1, x', y', kn, by omega, by omega, by go_num, rfl, hide (hSL.out.below (below_drewN (Below.refl _ _) qf))⟩
                    case measure => simp [intOf]; omega
            · have hx : 60 ≤ (j : Int) := by omega
              clear hlt60
              have hbd := hide hK.out.few.be
              clear hK
              go_wp2_with (go_at_call 9; refine (cW.out _).mono ?_; rintro e w9 ⟨rfl, hb9⟩)
              go_ret
              exact ⟨rfl, hbd.out.trans (hb9.mono hbd.out.size)⟩
          · have hx : (N : Int) ≤ j := by omega
            clear hlt
            have hbd := hide hK.out.few.be
            clear hK
            go_wp2_with (go_at_call 9; refine (cW.out _).mono ?_; rintro e w9 ⟨rfl, hb9⟩)
            go_ret
            exact ⟨rfl, hbd.out.trans (hb9.mono hbd.out.size)⟩
end Go.Proofs.Ytfekldcpjoiipaa
