/-
  Layer 20: few, far, walked.
-/
import Derived.Test.YtfekldcpjoiipaaFew
import Derived.Deep.RegionHeld3
import Derived.Deep.DeepCutAuto
namespace Go.Proofs.Ytfekldcpjoiipaa
open Go.RowKit Go.Shelf
set_option linter.unusedVariables false

def FewOut (w : World) (Ls : List HRow) (e : Ending) (w' : World) : Prop :=
  Below w.heap.size w w' ∧ (e = .returned (.tuple #[.slice none 0 0, .bool false]) ∨ ∃ vm Ms, e = .returned (.tuple #[vm, .bool true]) ∧ FewI Ls Ls.length vm Ms w w' ∧ Ls.length ≤ 6)

theorem HRow.cell {w : World} {A : Option Addr} {n c : Nat} {Ls : List HRow} (h : Rd w (.slice A n c) 1 n (Ls.map HRow.val)) (hn : n = Ls.length) (h0 : 0 < n) :
    ∃ b off, A = some ⟨b, off, none⟩ ∧ b < w.heap.size ∧ ∀ k, k < n → w.cell? ⟨b, off + k, none⟩ = some (Ls.getD k default).val := by
  obtain ⟨h1, A', c', hv, hc, h2⟩ := h
  simp only [Value.slice.injEq] at hv
  obtain ⟨rfl, _, rfl⟩ := hv
  obtain ⟨b, off, rfl, hb, hcell⟩ := h2 h0
  refine ⟨b, off, rfl, hb, fun k hk => hcell k _ ?_⟩
  have hl : k < Ls.length := by omega
  simp [List.getD, hl]

theorem blk_kept {wD w2 w3 : World} {B base s n : Nat} {C : Array Value} {t e : TypeId} {v : Value} {cs : List Value} {o : Obj} (h : wD.heap[B]? = some (.cells C t (0, 0))) (hb : Below wD.heap.size wD w2)
    (row : w2.ownsRow base e s v n cs) (hte : t ≠ e) (hg : (w2.alloc o).grownBy w3 v.ownBlock) : w3.heap[B]? = some (.cells C t (0, 0)) := by
  have h2 := (hb.block B (lt_of_block h)).trans h
  have h3 := (Below.heap_alloc w2 o B (lt_of_block h2)).trans h2
  exact (hg.block B (lt_of_block h3) (cells_not_row h3 hte (row.alloc o))).trans h3

set_option maxRecDepth 100000 in
set_option maxHeartbeats 4000000 in
theorem few_any (w : World) (A : Option Addr) (c : Nat) (Ls : List HRow) (hr : Rd w (.slice A Ls.length c) 1 Ls.length (Ls.map HRow.val)) (hg : ∀ r ∈ Ls, r.good w) :
    Calls Try.prog 10 #[.slice A Ls.length c] w (FewOut w Ls) := by
  obtain ⟨i0, hi, hz0, hz1, hz2⟩ := info_partsN Try.infoHit
  obtain ⟨i1, hj, hy0, hy1, hy2⟩ := info_partsN Try.infoHits
  obtain ⟨n, hn⟩ : ∃ n, n = Ls.length := ⟨_, rfl⟩
  rw [← hn] at hr ⊢
  have hcell := hide (fun h0 => HRow.cell hr hn h0)
  have hG := hide (fun k (hk : k < n) => hg (Ls.getD k default) (getD_mem (by omega)))
  have hnn := hide hn
  clear hr hg hn
  by_cases h6 : n ≤ 6
  · go_enter Try.func10, Try.ntmps10
    go_wp2
    go_loopw [4, 5] (fun vm i wr => ∃ (k : Nat) (Ms : List HRow), k ≤ n ∧ i = .int .i64 k ∧ Hid (FewI Ls k vm Ms w wr))
      (fun _ i _ => n - (intOf i).toNat)
    case atStart => exact ⟨0, [], Nat.zero_le _, rfl, hide ⟨World.ownsRow_nil _ _ _ _, rfl, fun k hk => absurd hk (by omega), Below.refl _ _⟩⟩
    case round =>
      obtain ⟨i, Ms, hile, rfl, hI⟩ := hrel
      obtain ⟨wA, hA⟩ : ∃ wA, wA = wr := ⟨_, rfl⟩
      subst hA
      by_cases hlt : i < n
      · obtain ⟨b, off, rfl, hbl, hk⟩ := hcell.out (by omega)
        have hbA := hI.out.be
        have hcx := (hbA.cell (p := ⟨b, off + i, none⟩) hbl).trans (hk i hlt)
        obtain ⟨hRd, hRg⟩ := hG.out i hlt
        obtain ⟨R, hR⟩ : ∃ R, R = Ls.getD i default := ⟨_, rfl⟩
        rw [← hR] at hcx hRd hRg
        unfold HRow.val at hcx
        obtain ⟨m, hm⟩ : ∃ m, m = R.l.length := ⟨_, rfl⟩
        rw [← hm] at hcx
        replace hm := hide hm
        replace hR := hide hR
        replace hRd := hide (hRd.below hbA (Nat.le_refl _))
        replace hRg := hide hRg
        clear hk
        obtain ⟨RA, hRA⟩ : ∃ RA, RA = R.A := ⟨_, rfl⟩
        obtain ⟨Rc, hRc⟩ : ∃ Rc, Rc = R.c := ⟨_, rfl⟩
        rw [← hRA, ← hRc] at hcx
        replace hRA := hide hRA
        replace hRc := hide hRc
        have hBA := hide hbA
        obtain ⟨vm, hvm⟩ : ∃ vm, vm = u4 := ⟨_, rfl⟩
        by_cases h12 : m ≤ 12
        · go_wp2
          go_loopw [6, 7] (fun vh kk wr => ∃ (k : Nat) (Hs : List Hit), k ≤ m ∧ kk = .int .i64 k ∧ Hid (FewH wA.heap.size R k vh Hs wA wr))
            (fun _ kk _ => m - (intOf kk).toNat)
          case atStart => exact ⟨0, [], Nat.zero_le _, rfl, hide ⟨World.ownsRow_nil _ _ _ _, rfl, rfl, by simp, by simp, Below.refl _ _⟩⟩
          case round =>
            obtain ⟨k, Hs, hkm, rfl, hH⟩ := hrel
            obtain ⟨wB, hB⟩ : ∃ wB, wB = wr := ⟨_, rfl⟩
            subst hB
            have hbB := hH.out.be
            have hcxB := (hbB.cell (p := ⟨b, off + i, none⟩) (Nat.lt_of_lt_of_le hbl hBA.out.size)).trans hcx
            by_cases hkl : k < m
            · have hrowR := hRd.out.row
              unfold HRow.val at hrowR
              rw [← hm.out, ← hRA.out, ← hRc.out] at hrowR
              obtain ⟨b2, off2, rfl, hb2, hk2⟩ := RdH.cells hrowR hm.out (by omega)
              have hxg := hRg.out (R.l.getD k default) (getD_mem (by rw [← hm.out]; exact hkl))
              have hxr := hRd.out.reg (R.l.getD k default) (getD_mem (by rw [← hm.out]; exact hkl))
              obtain ⟨k0, k1, k2, k3, k4, k5, k6⟩ := (hk2 k hkl).below hbB hb2
              obtain ⟨x, hx⟩ : ∃ x, x = R.l.getD k default := ⟨_, rfl⟩
              rw [← hx] at hxg hxr k0 k1 k2 k3 k4 k5 k6
              obtain ⟨Ar, cr, hrg, _⟩ := hxr.form
              rw [hrg] at k6
              obtain ⟨q, hq⟩ : ∃ q, q = x.rects.length := ⟨_, rfl⟩
              rw [← hq] at k6 hrg
              replace hx := hide hx
              replace hq := hide hq
              replace hrg := hide hrg
              replace hxr := hide hxr
              replace hxg := hide hxg
              clear hk2 hrowR
              by_cases hq12 : q ≤ 12
              · obtain ⟨Av, cv, hav, _⟩ := own_form hH.out.row
                have hHl := hH.out.len
                rw [hHl] at hav
                subst hav
                have hrow := hH.out.row
                rw [hHl] at hrow
                have hbC : Below wB.heap.size wB (wB.alloc (.cells #[.int .i64 x.s, .int .i64 x.x, .int .i64 x.y, .int .i64 x.w, .int .i64 x.h, .bool x.all, .slice Ar q cr] 71)) := (Below.refl _ _).alloc (Nat.le_refl _) _
                have hblk : (wB.alloc (.cells #[.int .i64 x.s, .int .i64 x.x, .int .i64 x.y, .int .i64 x.w, .int .i64 x.h, .bool x.all, .slice Ar q cr] 71)).heap[wB.heap.size]? = some (.cells #[.int .i64 x.s, .int .i64 x.x, .int .i64 x.y, .int .i64 x.w, .int .i64 x.h, .bool x.all, .slice Ar q cr] 71 (0, 0)) := heap_alloc_new _ _
                go_upto_region 14 with fail
                obtain ⟨wC, hwC⟩ : ∃ wC, wC = wB.alloc (.cells #[.int .i64 x.s, .int .i64 x.x, .int .i64 x.y, .int .i64 x.w, .int .i64 x.h, .bool x.all, .slice Ar q cr] 71) := ⟨_, rfl⟩
                rw [← hwC] at hbC hblk ⊢
                replace hwC := hide hwC
                have hbD : Below wB.heap.size wB wC.drew := below_drewN hbC 1
                have hltB : wB.heap.size < wC.drew.heap.size := lt_of_block hblk
                have cR := rects0_any wC.drew (.slice Ar q cr) x.rects (by rw [← hrg.out]; exact Rd.below (Rd.below hxr.out hbB (Nat.le_refl _)) hbD (Nat.le_refl _)) (by rw [← hq.out]; omega)
                rw [← hq.out] at cR
                replace cR := hide cR
                have s0 : wC.cell? ⟨wB.heap.size, 0, none⟩ = some (.int .i64 x.s) := by rw [cell_of_row wC _ 0 _ _ _ hblk]; rfl
                have s1 : wC.cell? ⟨wB.heap.size, 1, none⟩ = some (.int .i64 x.x) := by rw [cell_of_row wC _ 1 _ _ _ hblk]; rfl
                have s2 : wC.cell? ⟨wB.heap.size, 2, none⟩ = some (.int .i64 x.y) := by rw [cell_of_row wC _ 2 _ _ _ hblk]; rfl
                have s3 : wC.cell? ⟨wB.heap.size, 3, none⟩ = some (.int .i64 x.w) := by rw [cell_of_row wC _ 3 _ _ _ hblk]; rfl
                have s4 : wC.cell? ⟨wB.heap.size, 4, none⟩ = some (.int .i64 x.h) := by rw [cell_of_row wC _ 4 _ _ _ hblk]; rfl
                have s5 : wC.cell? ⟨wB.heap.size, 5, none⟩ = some (.bool x.all) := by rw [cell_of_row wC _ 5 _ _ _ hblk]; rfl
                have s6 : wC.cell? ⟨wB.heap.size, 6, none⟩ = some (.slice Ar q cr) := by rw [cell_of_row wC _ 6 _ _ _ hblk]; rfl
                have hsAB := hbB.size
                have hblkD : wC.drew.heap[wB.heap.size]? = _ := hblk
                replace hblkD := hide hblkD
                replace hbD := hide hbD
                replace hrow := hide hrow
                clear hblk hbC
                go_region_held3 (fun w' => w'.cell? ⟨wB.heap.size, 0, none⟩ = some (.int .i64 x.s) ∧ w'.cell? ⟨wB.heap.size, 1, none⟩ = some (.int .i64 x.x) ∧ w'.cell? ⟨wB.heap.size, 2, none⟩ = some (.int .i64 x.y) ∧ w'.cell? ⟨wB.heap.size, 3, none⟩ = some (.int .i64 x.w) ∧ w'.cell? ⟨wB.heap.size, 4, none⟩ = some (.int .i64 x.h) ∧ w'.cell? ⟨wB.heap.size, 5, none⟩ = some (.bool x.all) ∧ w'.cell? ⟨wB.heap.size, 6, none⟩ = some (.slice Ar q cr)) (first | go_keep | exact ⟨t0, t1, t2, t3, t4, t5, t6⟩ | exact ⟨r0, r1, r2, r3, r4, r5, r6⟩)
                  (first
                  | (go_at_call 28; refine cR.out.mono ?_; rintro e w2 ⟨vR, rfl, oR, hbR⟩; obtain ⟨AR, cRr, rfl, _⟩ := own_form oR; have t0 : w2.cell? ⟨wB.heap.size, 0, none⟩ = _ := (hbR.cell (p := ⟨wB.heap.size, 0, none⟩) hltB).trans s0; have t1 : w2.cell? ⟨wB.heap.size, 1, none⟩ = _ := (hbR.cell (p := ⟨wB.heap.size, 1, none⟩) hltB).trans s1; have t2 : w2.cell? ⟨wB.heap.size, 2, none⟩ = _ := (hbR.cell (p := ⟨wB.heap.size, 2, none⟩) hltB).trans s2; have t3 : w2.cell? ⟨wB.heap.size, 3, none⟩ = _ := (hbR.cell (p := ⟨wB.heap.size, 3, none⟩) hltB).trans s3; have t4 : w2.cell? ⟨wB.heap.size, 4, none⟩ = _ := (hbR.cell (p := ⟨wB.heap.size, 4, none⟩) hltB).trans s4; have t5 : w2.cell? ⟨wB.heap.size, 5, none⟩ = _ := (hbR.cell (p := ⟨wB.heap.size, 5, none⟩) hltB).trans s5; have t6 : w2.cell? ⟨wB.heap.size, 6, none⟩ = _ := (hbR.cell (p := ⟨wB.heap.size, 6, none⟩) hltB).trans s6; have hb2 := hide (hbD.out.trans (hbR.mono (by have := hltB; simp at this ⊢; omega))); have row2 := own_below hrow.out hb2.out; have hsz2 := hb2.out.size)
                  | (refine step_append_lies _ rfl _ _ 23 rfl wA.heap.size 28 i0 _ 7 72 Try.underlying23 hi hz0 hz1 hz2 rfl (by decide) _ _ _ (by simp [Act.eval]) (row2.alloc _) ⟨w2.heap.size, 0, none⟩ 1 1 [.int .i64 x.s, .int .i64 x.x, .int .i64 x.y, .int .i64 x.w, .int .i64 x.h, .bool x.all, .slice AR q cRr] (by simp [Act.eval]) rfl (cells_newN _ _ _) (by intro u hu; simp at hu; rcases hu with rfl | rfl | rfl | rfl | rfl | rfl | rfl <;> rfl) (by omega) (by unfold maxLen; omega) (by omega) (by simp; omega) _ rfl ?_; intro g3 cap3 w3 own3 hg3 hat hlt3; have hblk3 := blk_kept hblkD.out hbR row2 (by decide) hg3; have r0 : w3.cell? ⟨wB.heap.size, 0, none⟩ = some (.int .i64 x.s) := (by rw [cell_of_row w3 _ 0 _ _ _ hblk3]; rfl); have r1 : w3.cell? ⟨wB.heap.size, 1, none⟩ = some (.int .i64 x.x) := (by rw [cell_of_row w3 _ 1 _ _ _ hblk3]; rfl); have r2 : w3.cell? ⟨wB.heap.size, 2, none⟩ = some (.int .i64 x.y) := (by rw [cell_of_row w3 _ 2 _ _ _ hblk3]; rfl); have r3 : w3.cell? ⟨wB.heap.size, 3, none⟩ = some (.int .i64 x.w) := (by rw [cell_of_row w3 _ 3 _ _ _ hblk3]; rfl); have r4 : w3.cell? ⟨wB.heap.size, 4, none⟩ = some (.int .i64 x.h) := (by rw [cell_of_row w3 _ 4 _ _ _ hblk3]; rfl); have r5 : w3.cell? ⟨wB.heap.size, 5, none⟩ = some (.bool x.all) := (by rw [cell_of_row w3 _ 5 _ _ _ hblk3]; rfl); have r6 : w3.cell? ⟨wB.heap.size, 6, none⟩ = some (.slice Ar q cr) := (by rw [cell_of_row w3 _ 6 _ _ _ hblk3]; rfl)))
                have hpush := hide (FewH.push (x := { x with reg := .slice AR q cRr }) (vR := .slice AR q cRr) hH.out (by rw [← hm.out]; exact hkl) hbB.size (by rw [← hx.out])
                  ⟨hxg.out.1.1, hxg.out.1.2.1, hxg.out.1.2.2.1, hxg.out.1.2.2.2.1, hxg.out.1.2.2.2.2, hxg.out.2, by show x.rects.length ≤ 1000000; rw [← hq.out]; omega⟩
                  hb2.out (own_le (by show w2.ownsRow wC.drew.heap.size 26 4 (.slice AR q cRr) x.rects.length _; rw [← hq.out]; exact oR) (by have := hltB; omega)) hg3 (by rw [hHl]; exact own3))
                go_wp2
                go_roundw
                case rel => exact ⟨k + 1, _, by omega, by go_num, hpush⟩
                case measure => simp [intOf]; omega
              · have hq12' : 12 < (q : Int) := by omega
                have hfin := hide (fun o => hBA.out.trans ((hbB.mono hBA.out.size).trans (((Below.refl _ wB).alloc (Nat.le_refl _) o).mono (Nat.le_trans hBA.out.size hbB.size))))
                go_wp2
                go_ret2
                exact ⟨hfin.out _, .inl rfl⟩
            · obtain rfl : k = m := by omega
              have hIB := hI.out.below hbB
              obtain ⟨Av, cv, hav, _⟩ := own_form hH.out.row
              rw [hH.out.len] at hav
              subst hav
              have hM : HOut w.heap.size (Ls.getD i default) ⟨Av, cv, Hs⟩ wB := by
                have h1 := hH.out
                rw [hm.out] at h1
                have h2 := h1.done (by rw [← hm.out]; exact h12)
                rw [hR.out] at h2
                exact ⟨own_le h2.row hBA.out.size, h2.core, fun y hy => own_le (h2.reg y hy) hBA.out.size, h2.good, h2.len12⟩
              have hMv : HRow.val ⟨Av, cv, Hs⟩ = .slice Av k cv := by unfold HRow.val; dsimp only; rw [hH.out.len]
              obtain ⟨Am, cm, ham, _⟩ := own_form hIB.row
              subst ham
              have hrowm := hIB.row
              have hszw := hIB.be.size
              replace hIB := hide hIB
              replace hM := hide hM
              replace hMv := hide hMv
              go_wp2_with (at_builtin; refine wpList_append_own _ rfl _ _ 35 rfl w.heap.size 23 i1 _ 1 24 Try.underlying35 hj hy0 hy1 hy2 rfl (by decide) _ _ _ rfl (hrowm.alloc _) ⟨wB.heap.size, 0, none⟩ 1 1 [.slice Av k cv] rfl rfl (cell_one_new _ _ _) (by intro u hu; simp at hu; subst hu; rfl) (by unfold maxLen; omega) (by omega) (by simp; omega) ?_; intro v3 w3 own3 hg3 _; obtain ⟨A3, c3, rfl, _⟩ := own_form own3)
              go_roundw
              case rel => exact ⟨i + 1, _, by omega, by go_num, hide (FewI.push hIB.out hM.out hg3 (by rw [hMv.out]; exact own3))⟩
              case measure => simp [intOf]; omega
        · have h12' : 12 < (m : Int) := by omega
          go_wp2
          go_ret2
          exact ⟨hBA.out, .inl rfl⟩
      · obtain rfl : i = n := by omega
        go_wp2
        go_ret2
        exact ⟨hI.out.be, .inr ⟨_, _, rfl, by rw [← hnn.out]; exact hI.out, by rw [← hnn.out]; exact h6⟩⟩
  · have h6' : 6 < (n : Int) := by omega
    go_enter Try.func10, Try.ntmps10
    go_wp2
    go_loopw [4, 5] (fun vm i wr => i = .int .i64 0 ∧ wr = w) (fun _ _ _ => 0)
    case atStart => exact ⟨rfl, rfl⟩
    case round =>
      obtain ⟨rfl, rfl⟩ := hrel
      have h0 : 0 < n := by omega
      go_wp2
      go_ret2
      exact ⟨Below.refl _ _, .inl rfl⟩
end Go.Proofs.Ytfekldcpjoiipaa
