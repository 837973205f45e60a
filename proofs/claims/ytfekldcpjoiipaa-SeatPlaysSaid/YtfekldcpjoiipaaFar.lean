/-
  Layer 20: far, walked.
-/
import Derived.Test.YtfekldcpjoiipaaFew2
namespace Go.Proofs.Ytfekldcpjoiipaa
open Go.RowKit Go.Shelf
set_option linter.unusedVariables false

def FarOut (w : World) (e : Ending) (w' : World) : Prop := (∃ b, e = .returned (.bool b)) ∧ Below w.heap.size w w'

set_option maxRecDepth 100000 in
set_option maxHeartbeats 4000000 in
theorem far_any (w : World) (A : Option Addr) (c : Nat) (Ls : List HRow) (hr : Rd w (.slice A Ls.length c) 1 Ls.length (Ls.map HRow.val)) (hg : ∀ r ∈ Ls, r.good w) (hlen : ∀ r ∈ Ls, r.l.length ≤ 9223372036854775807) (hl6 : Ls.length ≤ 6) :
    Calls Try.prog 12 #[.slice A Ls.length c] w (FarOut w) := by
  obtain ⟨n, hn⟩ : ∃ n, n = Ls.length := ⟨_, rfl⟩
  rw [← hn] at hr hl6 ⊢
  have hlen2 := hide (fun k (hk : k < n) => hlen (Ls.getD k default) (getD_mem (by omega)))
  have hcell := hide (fun h0 => HRow.cell hr hn h0)
  have hG := hide (fun k (hk : k < n) => hg (Ls.getD k default) (getD_mem (by omega)))
  have hnn := hide hn
  clear hr hg hn hlen
  go_enter Try.func12, Try.ntmps12
  go_wp2
  go_loopw [3] (fun i wr => ∃ (k : Nat), k ≤ n ∧ i = .int .i64 k ∧ Hid (Below w.heap.size w wr))
    (fun i _ => n - (intOf i).toNat)
  case atStart => exact ⟨0, Nat.zero_le _, rfl, hide (Below.refl _ _)⟩
  case round =>
    obtain ⟨i, hile, rfl, hI⟩ := hrel
    obtain ⟨wA, hA⟩ : ∃ wA, wA = wr := ⟨_, rfl⟩
    subst hA
    by_cases hlt : i < n
    · obtain ⟨b, off, rfl, hbl, hk⟩ := hcell.out (by omega)
      have hcx := (hI.out.cell (p := ⟨b, off + i, none⟩) hbl).trans (hk i hlt)
      obtain ⟨hRd, hRg⟩ := hG.out i hlt
      have hm63 := hlen2.out i hlt
      obtain ⟨R, hR⟩ : ∃ R, R = Ls.getD i default := ⟨_, rfl⟩
      rw [← hR] at hcx hRd hRg hm63
      unfold HRow.val at hcx
      obtain ⟨m, hm⟩ : ∃ m, m = R.l.length := ⟨_, rfl⟩
      rw [← hm] at hcx hm63
      replace hm := hide hm
      replace hRd := hide (hRd.below hI.out (Nat.le_refl _))
      clear hk hR
      obtain ⟨RA, hRA⟩ : ∃ RA, RA = R.A := ⟨_, rfl⟩
      obtain ⟨Rc, hRc⟩ : ∃ Rc, Rc = R.c := ⟨_, rfl⟩
      rw [← hRA, ← hRc] at hcx
      replace hRA := hide hRA
      replace hRc := hide hRc
      go_wp2
      go_loopw [4] (fun kk wr => ∃ (k : Nat), k ≤ m ∧ kk = .int .i64 k ∧ Hid (Below wA.heap.size wA wr))
        (fun kk _ => m - (intOf kk).toNat)
      case atStart => exact ⟨0, Nat.zero_le _, rfl, hide (Below.refl _ _)⟩
      case round =>
        obtain ⟨k, hkm, rfl, hH⟩ := hrel
        obtain ⟨wB, hB⟩ : ∃ wB, wB = wr := ⟨_, rfl⟩
        subst hB
        have hcxB := (hH.out.cell (p := ⟨b, off + i, none⟩) (Nat.lt_of_lt_of_le hbl hI.out.size)).trans hcx
        have hBB := hide (hI.out.trans (hH.out.mono hI.out.size))
        have hAl := hide (fun o => (Below.refl wB.heap.size wB).alloc (Nat.le_refl _) o)
        by_cases hkl : k < m
        · have hrowR := hRd.out.row
          unfold HRow.val at hrowR
          rw [← hm.out, ← hRA.out, ← hRc.out] at hrowR
          obtain ⟨b2, off2, rfl, hb2, hk2⟩ := RdH.cells hrowR hm.out (by omega)
          have hxr := hRd.out.reg (R.l.getD k default) (getD_mem (by rw [← hm.out]; exact hkl))
          obtain ⟨k0, k1, k2, k3, k4, k5, k6⟩ := (hk2 k hkl).below hH.out hb2
          obtain ⟨x, hx⟩ : ∃ x, x = R.l.getD k default := ⟨_, rfl⟩
          rw [← hx] at hxr k0 k1 k2 k3 k4 k5 k6
          obtain ⟨Ar, cr, hrg, _⟩ := hxr.form
          rw [hrg] at k6
          obtain ⟨q, hq⟩ : ∃ q, q = x.rects.length := ⟨_, rfl⟩
          rw [← hq] at k6
          generalize x.s = x0 at k0
          generalize x.x = x1 at k1
          generalize x.y = x2 at k2
          generalize x.w = x3 at k3
          generalize x.h = x4 at k4
          generalize x.all = x5 at k5
          clear hk2 hrowR hxr hrg hx hq
          have fin1 := hide (fun o => hBB.out.trans ((hAl.out o).mono (Nat.le_trans hI.out.size hH.out.size)))
          have fin2 := hide (fun o => hH.out.trans ((hAl.out o).mono hH.out.size))
          rcases (show (1099511627776 < x1 ∨ 1099511627776 < x2) ∨ (x1 ≤ 1099511627776 ∧ x2 ≤ 1099511627776 ∧ (x1 < -1099511627776 ∨ x2 < -1099511627776)) ∨ (x1 ≤ 1099511627776 ∧ x2 ≤ 1099511627776 ∧ -1099511627776 ≤ x1 ∧ -1099511627776 ≤ x2) by omega) with h1 | ⟨h1, h2, h3⟩ | ⟨h1, h2, h3, h4⟩
          · by_cases hc : x1 ≤ x2
            all_goals
              go_wp2
              all_goals
                first
                | (go_ret
                   exact ⟨⟨_, rfl⟩, fin1.out _⟩)
                | (go_roundw
                   case rel => exact ⟨k + 1, by omega, by go_num, hide (fin2.out _)⟩
                   case measure => simp [intOf]; omega)
          · by_cases hc : x1 ≤ x2
            all_goals
              go_wp2
              all_goals
                first
                | (go_ret
                   exact ⟨⟨_, rfl⟩, fin1.out _⟩)
                | (go_roundw
                   case rel => exact ⟨k + 1, by omega, by go_num, hide (fin2.out _)⟩
                   case measure => simp [intOf]; omega)
          · by_cases hc : x1 ≤ x2
            all_goals
              go_wp2
              all_goals
                first
                | (go_ret
                   exact ⟨⟨_, rfl⟩, fin1.out _⟩)
                | (go_roundw
                   case rel => exact ⟨k + 1, by omega, by go_num, hide (fin2.out _)⟩
                   case measure => simp [intOf]; omega)
        · obtain rfl : k = m := by omega
          go_wp2
          go_roundw
          case rel => exact ⟨i + 1, by omega, by go_num, hBB⟩
          case measure => simp [intOf]; omega
    · obtain rfl : i = n := by omega
      go_wp2
      go_ret
      exact ⟨⟨_, rfl⟩, hI.out⟩
end Go.Proofs.Ytfekldcpjoiipaa
