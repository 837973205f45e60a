/-
  The law ShellAcks, as a walk.
-/
import Derived.Test.YtfekldcpjoiipaaDoorLaw18b
import Derived.Deep.DeepCutAuto
namespace Go.Proofs.YtfekldcpjoiipaaDoor
open Go.RowKit

def tens (k : Nat) : List Int := (List.range k).map fun i : Nat => 10 * ((i : Int) + 1)
theorem tens_len (k : Nat) : (tens k).length = k := by simp [tens]
theorem tens_succ (k : Nat) : tens (k + 1) = tens k ++ [10 * ((k : Int) + 1)] := by simp [tens, List.range_succ]
theorem tens_at {k i : Nat} (h : i < k) : (tens k).getD i 0 = 10 * ((i : Int) + 1) := by simp [tens, List.getD, h]
theorem tens_idx {k i : Nat} (h : i < k) : Lib.idxOf (tens k) (10 * (1 + (i : Int))) = (i : Int) := by
  rcases idx_cases (tens k) (10 * (1 + (i : Int))) with ⟨_, h2⟩ | ⟨j, hj, h1, h2, _⟩
  · exfalso; apply h2
    refine List.mem_iff_getElem.2 ⟨i, by simpa [tens] using h, ?_⟩
    simp [tens]; omega
  · rw [tens_len] at hj
    rw [tens_at hj] at h2
    rw [h1]; omega
theorem tens_no {k : Nat} {x : Int} (h : x % 10 ≠ 0) : Lib.idxOf (tens k) x < 0 := by
  rcases idx_cases (tens k) x with ⟨h1, _⟩ | ⟨j, hj, h1, h2, _⟩
  · rw [h1]; decide
  · exfalso
    rw [tens_len] at hj
    rw [tens_at hj] at h2
    omega
theorem tens_drop_at {k i j : Nat} (h : i + 1 + j < k) : ((tens k).drop (i + 1)).getD j 0 = 10 * ((i : Int) + 2 + j) := by
  have : ((tens k).drop (i + 1)).getD j 0 = (tens k).getD (i + 1 + j) 0 := by simp [List.getD]
  rw [this, tens_at h]; omega
theorem tens_drop_no {k i : Nat} : Lib.idxOf ((tens k).drop (i + 1)) (10 * (1 + (i : Int))) < 0 := by
  rcases idx_cases ((tens k).drop (i + 1)) (10 * (1 + (i : Int))) with ⟨h1, _⟩ | ⟨j, hj, h1, h2, _⟩
  · rw [h1]; decide
  · exfalso
    simp [tens_len] at hj
    rw [tens_drop_at (by omega)] at h2
    omega

theorem lWaits {W w : World} {p n : Nat} {id : Int} {st : Nat} {ws : List Int} (hL : ShL W w p n (on id (st, ws))) (hid : I64 id) (hl : ws.length ≤ 1000000) :
    Calls Tryd.prog 29 #[.pointer (some ⟨p, 0, none⟩), .int .i64 id] w fun e w' => ∃ v, e = .returned v ∧ w'.ownsRow w.heap.size 3 1 v ws.length (ws.map (Value.int .i64)) ∧ Below w.heap.size w w' := by
  obtain ⟨F, h, hF, hb⟩ := hL
  have := shWaits_any w p n F _ id hid h (fun s v hs => by rw [on_at] at hs; simp only [Option.some.injEq, Prod.mk.injEq] at hs; rw [← hs.2]; exact hl)
  rw [on_at] at this
  exact this

set_option maxRecDepth 100000 in
set_option maxHeartbeats 2000000 in
theorem shellAcks_any {B : Nat} (W : World) {ae : Nat → Addr} (hE : Errs B W ae) (hB : B ≤ W.heap.size) (n at' other : Int) (ho : I64 other) :
    Calls Tryd.prog 6 #[.int .i64 n, .int .i64 at', .int .i64 other] W fun e w' => e = .returned (.bool true) ∧ Below W.heap.size W w' := by
  have h1m := Int.emod_nonneg n (show ((12) : Int) ≠ 0 by omega)
  have h2m := Int.emod_lt_of_pos n (show (0 : Int) < (12) by omega)
  have hPm := fun W => place_any n (12) W (by omega) (by omega)
  obtain ⟨m, hym⟩ : ∃ y, y = n % (12) := ⟨_, rfl⟩
  rw [← hym] at h1m h2m hPm
  replace hPm := hide hPm
  clear hym
  obtain ⟨K, rfl⟩ : ∃ K : Nat, m = K := ⟨m.toNat, by omega⟩
  have h1i := Int.emod_nonneg at' (show ((1 + (K : Int)) : Int) ≠ 0 by omega)
  have h2i := Int.emod_lt_of_pos at' (show (0 : Int) < (1 + (K : Int)) by omega)
  have hPi := fun W => place_any at' (1 + (K : Int)) W (by omega) (by omega)
  obtain ⟨i, hyi⟩ : ∃ y, y = at' % (1 + (K : Int)) := ⟨_, rfl⟩
  rw [← hyi] at h1i h2i hPi
  replace hPi := hide hPi
  clear hyi
  obtain ⟨I, rfl⟩ : ∃ I : Nat, i = I := ⟨i.toNat, by omega⟩
  obtain ⟨ho1, ho2⟩ := ho
  obtain ⟨x, hx, hx10⟩ : ∃ x : Int, x = (if other.tmod 10 = 0 then other + 1 else other) ∧ x % 10 ≠ 0 := by
    refine ⟨_, rfl, ?_⟩
    split
    · next h => have := Int.dvd_of_tmod_eq_zero h; omega
    · next h => intro h2; exact h (Int.tmod_eq_zero_of_dvd (Int.dvd_of_emod_eq_zero h2))
  go_enter Tryd.func6, Tryd.ntmps6
  go_wp2_with fail
  refine (hPm.out W).mono ?_
  rintro e w1 ⟨rfl, rfl⟩
  go_wp2_with fail
  refine (lNew W).mono ?_
  rintro e w1 ⟨p, rfl, h1⟩
  go_wp2_with fail
  refine (lAdd h1 hE hB i64_five (by omega)).mono ?_
  rintro e w2 ⟨rfl, h2⟩
  go_wp2_with fail
  refine (lTop h2 hE hB i64_five).mono ?_
  rintro e w3 ⟨rfl, h3⟩
  go_wp2
  go_loopw [9] (fun i wr => ∃ j : Nat, ∃ T : List Int, j ≤ K + 1 ∧ i = .int .i64 ((j : Int) + 1) ∧ Hid (T = tens j) ∧ T.length ≤ 30 ∧ ShL W wr p (2 + j) (on 5 (0 + 1, T)))
    (fun i _ => K + 3 - (intOf i).toNat)
  case atStart => exact ⟨0, [], Nat.zero_le _, rfl, hide rfl, Nat.zero_le _, h3⟩
  case round =>
    obtain ⟨j, T, hj, rfl, hT, hT30, hL⟩ := hrel
    by_cases hlt : j < K + 1
    · have HS := hide (lSend (10 * ((j : Int) + 1)) hL hE hB i64_five (by omega))
      go_wp2_with fail
      refine HS.out.mono ?_
      rintro e w5 ⟨rfl, h5⟩
      have hT2 : Hid (T ++ [10 * ((j : Int) + 1)] = tens (j + 1)) := hide (by rw [hT.out, tens_succ])
      have hT3 : (tens (j + 1)).length ≤ 30 := by rw [tens_len]; omega
      rw [hT2.out] at h5
      replace h5 := hide h5
      replace hT3 := hide hT3
      go_wp2
      go_roundw
      case rel => exact ⟨j + 1, tens (j + 1), by omega, by go_num, hide rfl, hT3.out, h5.out⟩
      case measure => simp [intOf]; omega
    · obtain rfl : j = K + 1 := by omega
      have hIl : I < K + 1 := by omega
      have i1 := tens_idx hIl
      have i2 := tens_no (k := K + 1) hx10
      have i3 := tens_drop_no (k := K + 1) (i := I)
      rw [hT.out] at hL
      have hKl : (tens (K + 1)).length = K + 1 := tens_len _
      have hdl : ((tens (K + 1)).drop (I + 1)).length = K + 1 - (I + 1) := by simp [tens_len]
      have hat := hide (fun q (h : I + 1 + q < K + 1) => tens_drop_at h)
      have hX := hide hx
      replace i1 := hide i1
      replace i2 := hide i2
      replace i3 := hide i3
      obtain ⟨L, hLe⟩ : ∃ L, L = tens (K + 1) := ⟨_, rfl⟩
      rw [← hLe] at hL i1 i2 i3 hKl hdl hat
      obtain ⟨D, hD⟩ : ∃ D, D = L.drop (I + 1) := ⟨_, rfl⟩
      rw [← hD] at i3 hdl hat
      replace hD := hide hD
      have hL30 : L.length ≤ 30 := by omega
      have hD30 : D.length ≤ 30 := by omega
      replace hKl := hide hKl
      clear hx hx10 hT hLe
      go_wp2_with fail
      refine (hPi.out wr).mono ?_
      rintro e w' ⟨rfl, rfl⟩
      go_upto_if 47 with fail
      go_cut [11] (fun u wx => u = .int .i64 x ∧ wx = wr)
      case first =>
        by_cases h0 : other.tmod 10 = 0
        · have hb : (other.tmod 10 == 0) = true := by simpa using h0
          have hxe : Hid (x = other + 1) := hide (by rw [hX.out, if_pos h0])
          have hne : other < 9223372036854775807 := by
            rcases (show other = 9223372036854775807 ∨ other < 9223372036854775807 by omega) with h | h
            · subst h; exact absurd h0 (by decide)
            · exact h
          go_wp2
          go_meet
          exact ⟨by rw [hxe.out], rfl⟩
        · have hb : (other.tmod 10 == 0) = false := by simpa using h0
          have hxe : Hid (x = other) := hide (by rw [hX.out, if_neg h0])
          go_wp2
          go_meet
          exact ⟨by rw [hxe.out], rfl⟩
      case rest =>
      obtain ⟨rfl, hwc⟩ := hcut
      obtain rfl : wr = wc := hwc.symm
      have bL : ((L.length : Int) != 1 + (K : Int)) = false := by rw [hKl.out]; simp; omega
      have bD : ((D.length : Int) == 1 + (K : Int) - (1 + (I : Int))) = true := by rw [hdl]; simp; omega
      have hDl := hide (show D.length = K + 1 - (I + 1) from hdl)
      clear hdl
      go_wp2_with fail
      refine (lAckNo x hL hE hB i64_five (by omega) i2.out).mono ?_
      rintro e w5 ⟨rfl, h5⟩
      go_wp2_with fail
      refine (kind_at18 w5 12 (h5.errs hE hB) (by decide)).mono ?_
      rintro e w6 ⟨rfl, b6⟩
      have h6 := h5.below b6
      go_wp2_with fail
      refine (lWaits h6 i64_five (by omega)).mono ?_
      rintro e w7 ⟨v7, rfl, own7, b7⟩
      obtain ⟨A7, c7, rfl, hc7⟩ := own_form own7
      have h7 := h6.below b7
      clear own7
      go_wp2_with fail
      refine (lAck (10 * (1 + (I : Int))) I h7 hE hB i64_five (by omega) i1.out).mono ?_
      rintro e w8 ⟨rfl, h8⟩
      rw [if_neg (by decide), ← hD.out] at h8
      go_wp2_with fail
      refine (lAckNo (10 * (1 + (I : Int))) h8 hE hB i64_five (by omega) i3.out).mono ?_
      rintro e w9 ⟨rfl, h9⟩
      go_wp2_with fail
      refine (kind_at18 w9 12 (h9.errs hE hB) (by decide)).mono ?_
      rintro e w10 ⟨rfl, b10⟩
      have h10 := h9.below b10
      go_wp2_with fail
      refine (lWaits h10 i64_five (by omega)).mono ?_
      rintro e w11 ⟨v11, rfl, own11, b11⟩
      obtain ⟨A11, c11, rfl, hc11⟩ := own_form own11
      have h11 := h10.below b11
      have hr := Rd.of_own own11
      have HA := hide (awake18_any w11 (h11.errs hE hB) (Nat.le_trans hB h11.be.size))
      have hbe := h11.be
      clear own11
      go_wp2
      go_loopw [13] (fun i wr => ∃ q : Nat, q ≤ D.length ∧ i = .int .i64 q ∧ wr = w11)
        (fun i _ => D.length - (intOf i).toNat)
      case atStart => exact ⟨0, Nat.zero_le _, rfl, rfl⟩
      case round =>
        obtain ⟨q, hq, rfl, hwr⟩ := hrel
        subst hwr
        by_cases hlt : q < D.length
        · obtain ⟨b, off, rfl, hb, hcell⟩ := hr.open1 (by omega)
          have hcx := hcell q hlt
          have hy := hat.out q (by have := hDl.out; omega)
          generalize D.getD q 0 = y at hcx hy
          have bq : (y != 10 * (1 + (I : Int) + 1 + (q : Int))) = false := by rw [hy]; simp; omega
          clear hy hcell
          go_wp2
          go_roundw
          case rel => exact ⟨q + 1, by omega, by go_num, trivial⟩
          case measure => simp [intOf]; omega
        · obtain rfl : q = D.length := by omega
          go_wp2_with fail
          refine HA.out.mono ?_
          rintro e w12 ⟨rfl, b12⟩
          go_wp2
          go_ret
          exact ⟨rfl, hbe.trans (b12.mono hbe.size)⟩
end Go.Proofs.YtfekldcpjoiipaaDoor
