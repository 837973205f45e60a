/-
  The laws of layer 19 (stack) as walks.
-/
import Derived.Test.YtjhfcnkmfbpjmaaStack2
import Derived.Test.YtjhfcnkmfbpjmaaLaw00
import Derived.Test.YtjhfcnkmfbpjmaaRef16
import Derived.Deep.DeepCutAuto
namespace Go.Proofs.Ytjhfcnkmfbpjmaa
open Go.RowKit

theorem StackAt.grown {w w' : World} {B : Nat} {xs : List Int} (h : StackAt w B xs) (hg : Below w.heap.size w w') : StackAt w' B xs := by
  obtain ⟨v, hb, hr, hne⟩ := h
  exact ⟨v, (hg.block B (lt_of_block hb)).trans hb, hr.below hg (Nat.le_refl _), hne⟩
theorem StackAt.drewN {w : World} {B : Nat} {xs : List Int} (h : StackAt w B xs) (n : Nat) : StackAt (w.drewN n) B xs := h

theorem awake_any (w : World) : Calls Try.prog 12 #[] w fun e w' => e = .returned (.bool true) ∧ Below w.heap.size w w' := by
  go_enter Try.func12, Try.ntmps12
  go_wp2_with fail
  refine (new_any w).mono ?_
  rintro e w1 ⟨rfl, hS, hB⟩
  go_wp2_with fail
  refine (raise_any w1 _ _ _ hS (by simp)).mono ?_
  rintro e w2 ⟨rfl, hS2, hG2⟩
  go_wp2_with fail
  refine (raise_any w2 _ _ _ hS2 (by decide)).mono ?_
  rintro e w3 ⟨rfl, hS3, hG3⟩
  go_wp2_with fail
  refine (raise_any w3 _ _ _ hS3 (by decide)).mono ?_
  rintro e w4 ⟨rfl, hS4, hG4⟩
  rw [show topL (topL (topL [] 1) 2) 1 = [2, 1] by decide] at hS4
  go_wp2_with fail
  refine (all_any w4 _ _ hS4 (by decide)).mono ?_
  rintro e w5 ⟨v5, rfl, hown5, hB5⟩
  obtain ⟨A5, c5, rfl, hc5⟩ := own_form hown5
  go_wp2_with fail
  refine (sameInts_any _ _ _ [2, 1] [2, 1] (Rd.of_own (hown5.alloc _)) (Rd.lit w5 [.int .i64 2, .int .i64 1] 3 2 rfl (by decide)) (by decide)).mono ?_
  rintro e w6 ⟨rfl, q, rfl⟩
  have hS5 : StackAt (w5.alloc (.cells #[.int .i64 2, .int .i64 1] 3)) w.heap.size [2, 1] :=
    (hS4.grown hB5).grown ((Below.refl _ _).alloc (Nat.le_refl _) _)
  go_wp2_with fail
  refine (stop_any _ _ _ (hS5.drewN q) (by decide)).mono ?_
  rintro e w7 ⟨rfl, q2, rfl⟩
  go_wp2_with fail
  refine (next_any _ _ _ 1 (hS5.drewN _) (by decide)).mono ?_
  rintro e w8 ⟨rfl, q3, rfl⟩
  rw [show nextL [2, 1] 1 = 2 by decide]
  go_wp2
  go_ret
  refine ⟨rfl, ?_⟩
  have hz2 := hB.size
  have hz3 := Nat.le_trans hz2 hG2.size
  have hz4 := Nat.le_trans hz3 hG3.size
  have h1 : Below w.heap.size w w4 := ((hB.trans (grown_below hG2 (Nat.le_refl _) hz2)).trans (grown_below hG3 (Nat.le_refl _) hz3)).trans (grown_below hG4 (Nat.le_refl _) hz4)
  have h2 : Below w.heap.size w w5 := h1.trans (hB5.mono h1.size)
  exact below_drewN (h2.alloc h2.size _) _

theorem nextL_hit (xs : List Int) (d : Int) (k : Nat) (hn : xs.Nodup) (hk : k + 1 < xs.length) (h : xs.getD (k + 1) 0 = d) : nextL xs d = xs.getD k 0 := by
  rcases idx_cases xs d with ⟨_, h2⟩ | ⟨m, hm, h1, h2, _⟩
  · exact absurd (by rw [← h]; simp [List.getD, hk]) h2
  · have : m = k + 1 := by
      have e1 : xs.getD m 0 = xs[m] := by simp [List.getD, hm]
      have e2 : xs.getD (k + 1) 0 = xs[k + 1] := by simp [List.getD, hk]
      exact (List.getElem?_inj hm hn).1 (by rw [List.getElem?_eq_getElem hm, List.getElem?_eq_getElem hk, ← e1, ← e2, h2, h])
    subst this
    unfold nextL
    rw [h1, if_pos (by omega)]
    congr 1

theorem nextL_miss (xs : List Int) (d : Int) (h : ∀ j, 1 ≤ j → j < xs.length → xs.getD j 0 ≠ d) : nextL xs d = xs.getLastD 0 := by
  unfold nextL
  rw [if_neg]
  rcases idx_cases xs d with ⟨h1, _⟩ | ⟨m, hm, h1, h2, _⟩
  · omega
  · intro h0
    exact h m (by omega) hm h2

theorem getD_last (xs : List Int) : xs.getD (xs.length - 1) 0 = xs.getLastD 0 := by
  rw [List.getLastD_eq_getLast?, List.getLast?_eq_getElem?, List.getD]

/-- the laws' below, of a list that holds each once -/
theorem below_any (w : World) (v : Value) (xs : List Int) (d : Int) (hr : Rd w v 1 xs.length (xs.map (Value.int .i64))) (hlen : xs.length ≤ 1000000) (hnd : xs.Nodup) :
    Calls Try.prog 17 #[v, .int .i64 d] w fun e w' => e = .returned (.int .i64 (nextL xs d)) ∧ ∃ q, w' = w.drewN q := by
  have hr0 := hr
  obtain ⟨_, A, c, rfl, hc, _⟩ := hr0
  by_cases h0 : xs.length = 0
  · obtain rfl := List.eq_nil_of_length_eq_zero h0
    have hN : nextL [] d = 0 := by simp [nextL, Lib.idxOf, Lib.idxFrom]
    rw [hN]
    go_enter Try.func17, Try.ntmps17
    go_wp2
    go_ret
    exact ⟨rfl, 0, rfl⟩
  · obtain ⟨b, off, rfl, hb, hcell⟩ := hr.open1 (by omega)
    obtain ⟨n, hn⟩ : ∃ n, n = xs.length := ⟨_, rfl⟩
    have hlast := hcell (xs.length - 1) (by omega)
    rw [getD_last xs, ← hn] at hlast
    rw [← hn] at hlen hc h0 hcell ⊢
    have hz : ((n : Int) == 0) = false := by simpa using h0
    have hhit := fun k (hk : k + 1 < n) h => nextL_hit xs d k hnd (by omega) h
    have hmiss := nextL_miss xs d
    rw [← hn] at hmiss
    obtain ⟨N, hN⟩ : ∃ N, N = nextL xs d := ⟨_, rfl⟩
    obtain ⟨L, hL⟩ : ∃ L, L = xs.getLastD 0 := ⟨_, rfl⟩
    rw [← hN] at hhit hmiss ⊢
    rw [← hL] at hlast hmiss
    have Hhit := hide hhit
    have Hmiss := hide hmiss
    have Hcell := hide hcell
    clear hhit hmiss hcell hr hnd hN hL hn hb
    go_enter Try.func17, Try.ntmps17
    go_wp2
    go_loopw [5] (fun i wr => ∃ k : Nat, 1 ≤ k ∧ k ≤ n ∧ i = .int .i64 k ∧ Hid (∀ j, 1 ≤ j → j < k → xs.getD j 0 ≠ d) ∧ ∃ q, wr = w.drewN q)
      (fun i _ => n - (intOf i).toNat)
    case atStart => exact ⟨1, Nat.le_refl _, by omega, rfl, fun j h1 h2 => by omega, 0, rfl⟩
    case round =>
      obtain ⟨k, h1k, hk, rfl, E, q, rfl⟩ := hrel
      by_cases hlt : k < n
      · have kx := Hcell.out k hlt
        obtain ⟨x, hxe⟩ : ∃ x, x = xs.getD k 0 := ⟨_, rfl⟩
        rw [← hxe] at kx
        obtain ⟨m, rfl⟩ : ∃ m, k = m + 1 := ⟨k - 1, by omega⟩
        have ky := Hcell.out m (by omega)
        obtain ⟨y, hye⟩ : ∃ y, y = xs.getD m 0 := ⟨_, rfl⟩
        rw [← hye] at ky
        by_cases hxy : x = d
        · have hbb : (x == d) = true := by simpa using hxy
          have hy := Hhit.out m hlt (by rw [← hxe]; exact hxy)
          rw [← hye] at hy
          have Hy := hide hy
          clear hy hxe hye hxy
          go_wp2
          go_ret
          exact ⟨ret_int Hy.out.symm, _, rfl⟩
        · have hbb : (x == d) = false := by simpa using hxy
          have E2 : Hid (∀ j, 1 ≤ j → j < m + 1 + 1 → xs.getD j 0 ≠ d) := fun j h1 h2 => by
            rcases Nat.lt_or_ge j (m + 1) with h3 | h3
            · exact E.out j h1 h3
            · obtain rfl : j = m + 1 := by omega
              rw [← hxe]; exact hxy
          clear hxe hye hxy E
          go_wp2
          go_roundw
          case rel => exact ⟨m + 1 + 1, by omega, by omega, by go_num, E2, _, rfl⟩
          case measure => simp [intOf]; omega
      · obtain rfl : k = n := by omega
        have hN := hide (Hmiss.out E.out)
        clear Hmiss E
        go_wp2
        go_ret
        exact ⟨ret_int hN.out.symm, _, rfl⟩

theorem topL_le (xs : List Int) (d : Int) : (topL xs d).length ≤ xs.length + 1 := by
  have := without_le xs d; simp [topL]; omega
theorem without_nodup {xs : List Int} (h : xs.Nodup) (d : Int) : (without xs d).Nodup := List.Nodup.sublist List.filter_sublist h
theorem topL_nodup {xs : List Int} (h : xs.Nodup) (d : Int) : (topL xs d).Nodup := by
  unfold topL
  rw [List.nodup_append]
  refine ⟨without_nodup h d, by simp, fun a ha b hb => ?_⟩
  simp only [List.mem_singleton] at hb
  subst hb
  simp [without] at ha
  exact ha.2

/-- What is known of the program's stack and the reference's list between two rounds. -/
structure Both (w wr : World) (B : Nat) (u : Value) (xs : List Int) : Prop where
  st : StackAt wr B xs
  rd : Rd wr u 1 xs.length (xs.map (Value.int .i64))
  ne : u.ownBlock ≠ some B
  be : Below w.heap.size w wr
  nd : xs.Nodup

theorem Both.drewN {w wr : World} {B : Nat} {u : Value} {xs : List Int} (h : Both w wr B u xs) (n : Nat) : Both w (wr.drewN n) B u xs := ⟨h.st, h.rd, h.ne, below_drewN h.be n, h.nd⟩

set_option maxRecDepth 100000 in
set_option maxHeartbeats 1000000 in
theorem plays_any (w : World) (v : Value) (l : List Int) (d : Int) (hr : Rd w v 1 l.length (l.map (Value.int .i64))) (hlen : l.length ≤ 9223372036854775807) (hwf : ∀ x ∈ l, I64 x) :
    Calls Try.prog 4 #[v, .int .i64 d] w fun e w' => e = .returned (.bool true) ∧ Below w.heap.size w w' := by
  have hr0 := hr
  obtain ⟨_, A, c, rfl, hc, _⟩ := hr0
  obtain ⟨n, hn⟩ : ∃ n, n = l.length := ⟨_, rfl⟩
  rw [← hn] at hr hlen hc ⊢
  clear hn
  go_enter Try.func4, Try.ntmps4
  go_wp2_with fail
  refine (new_any w).mono ?_
  rintro e w1 ⟨rfl, hS, hB⟩
  have hz1 := stack_lt hS
  go_wp2
  go_loopw [6, 7] (fun u i wr => ∃ (k : Nat) (xs : List Int), k ≤ n ∧ k ≤ 80 ∧ i = .int .i64 k ∧ xs.length ≤ k ∧ Both w wr w.heap.size u xs)
    (fun _ i _ => n - (intOf i).toNat)
  case atStart => exact ⟨0, [], Nat.zero_le _, by omega, rfl, by simp, hS, Rd.nil _ _, by simp [Value.ownBlock], hB, by simp⟩
  case round =>
    obtain ⟨k, xs, hk, hk80, rfl, hxl, hb⟩ := hrel
    clear hS hB hz1
    by_cases hlt : k < n ∧ k < 80
    · obtain ⟨hlt, hlt80⟩ := hlt
      obtain ⟨b, off, rfl, hb', hcell⟩ := hr.open1 (by omega)
      have hcx : wr.cell? ⟨b, off + k, none⟩ = some (.int .i64 (l.getD k 0)) := (hb.be.cell (p := ⟨b, off + k, none⟩) hb').trans (hcell k hlt)
      obtain ⟨x, hx⟩ : ∃ x, x = l.getD k 0 := ⟨_, rfl⟩
      have hxw := i64_getD hwf k
      rw [← hx] at hcx hxw
      obtain ⟨hxlo, hxhi⟩ := hxw
      clear hcell hx hr hwf
      go_upto_if 28 with fail
      go_cut [6] (fun u wx => ∃ ys : List Int, ys.length ≤ k + 1 ∧ Both w wx w.heap.size u ys)
      case first =>
        obtain ⟨hS, hrd, hne, hbe, hnd⟩ := hb
        have hrd0 := hrd
        obtain ⟨_, A2, c2, rfl, hc2, _⟩ := hrd0
        by_cases hx : 0 ≤ x
        · go_wp2_with fail
          refine (raise_any wr _ xs x hS (by omega)).mono ?_
          rintro e w2 ⟨rfl, hS2, hG2⟩
          have hrd2 := hrd.grown hG2 (fun B hB => by cases hB; exact hne)
          go_wp2_with fail
          refine (rtop_any w2 _ xs x hrd2 (by omega)).mono ?_
          rintro e w3 ⟨v3, rfl, hown3, hB3⟩
          have hB2 : Below w.heap.size w w2 := hbe.trans (grown_below hG2 (Nat.le_refl _) hbe.size)
          have R : Both w w3 w.heap.size v3 (topL xs x) :=
            ⟨hS2.grown hB3, by have := Rd.of_own hown3; simpa [topL] using this, own_base hown3 (by have := stack_lt hS2; omega), hB2.trans (hB3.mono hB2.size), topL_nodup hnd x⟩
          have HR := hide R
          have hle := topL_le xs x
          obtain ⟨A3, c3, rfl, hc3⟩ := own_form hown3
          clear hown3 R hS2 hS hrd2 hrd
          go_wp2_with fail
          go_meet
          exact ⟨_, by omega, HR.out⟩
        · go_wp2_with fail
          refine (sdrop_any wr _ xs (-1 - x) hS (by omega)).mono ?_
          rintro e w2 ⟨rfl, hS2, hG2⟩
          have hrd2 := hrd.grown hG2 (fun B hB => by cases hB; exact hne)
          go_wp2_with fail
          refine (rdrop_any w2 _ xs (-1 - x) hrd2 (by omega)).mono ?_
          rintro e w3 ⟨v3, rfl, hown3, hB3⟩
          have hB2 : Below w.heap.size w w2 := hbe.trans (grown_below hG2 (Nat.le_refl _) hbe.size)
          have R : Both w w3 w.heap.size v3 (without xs (-1 - x)) :=
            ⟨hS2.grown hB3, Rd.of_own hown3, own_base hown3 (by have := stack_lt hS2; omega), hB2.trans (hB3.mono hB2.size), without_nodup hnd _⟩
          have HR := hide R
          have hle := without_le xs (-1 - x)
          obtain ⟨A3, c3, rfl, hc3⟩ := own_form hown3
          clear hown3 R hS2 hS hrd2 hrd
          go_wp2_with fail
          go_meet
          exact ⟨_, by omega, HR.out⟩
      case rest =>
        obtain ⟨ys, hyl, hS, hrd, hne, hbe, hnd⟩ := hcut
        have hrd0 := hrd
        obtain ⟨_, A2, c2, rfl, hc2, _⟩ := hrd0
        obtain ⟨y, hy⟩ : ∃ y, y = ys.getLastD 0 := ⟨_, rfl⟩
        obtain ⟨m, hm⟩ : ∃ m, m = ys.length := ⟨_, rfl⟩
        have hcs : 0 < m → ∃ b off, A2 = some ⟨b, off, none⟩ ∧ wc.cell? ⟨b, off + (m - 1), none⟩ = some (.int .i64 y) := fun h => by
          obtain ⟨b, off, rfl, _, hcell⟩ := hrd.open1 (by omega)
          have := hcell (ys.length - 1) (by omega)
          rw [getD_last, ← hy, ← hm] at this
          exact ⟨b, off, rfl, this⟩
        have Hcs := hide hcs
        have hm80 : m ≤ 81 := by omega
        have Hrd := hide hrd
        rw [← hm]
        have Hm := hide hm
        have Hy := hide hy
        clear hcs hrd hm hy
        go_upto_if 45 with fail
        go_cut [9] (fun t wx => t = .int .i64 y ∧ wx = wc)
        case first =>
          by_cases h0 : 0 < m
          · obtain ⟨b2, off2, rfl, hcl⟩ := Hcs.out h0
            go_wp2
            all_goals go_meet
            all_goals exact ⟨rfl, rfl⟩
          · go_wp2
            all_goals go_meet
            have : ys = [] := List.eq_nil_of_length_eq_zero (by rw [← Hm.out]; omega)
            exact ⟨by rw [Hy.out, this]; rfl, rfl⟩
        case rest =>
        obtain ⟨rfl, rfl⟩ := hcut
        have HA := hide (all_any wc _ ys hS (by omega))
        clear Hcs
        go_wp2_with fail
        refine HA.out.mono ?_
        rintro e w5 ⟨v5, rfl, hown5, hB5⟩
        have hrd5 : Rd w5 (.slice A2 m c2) 1 ys.length (ys.map (Value.int .i64)) := by
          have := Hrd.out.below hB5 (Nat.le_refl _)
          rwa [← Hm.out] at this ⊢
        have HE := hide (sameInts_true w5 v5 (.slice A2 m c2) ys (Rd.of_own hown5) hrd5 (by omega))
        have hS5 := hS.grown hB5
        have hN := hide (fun q => next_any (w5.drewN q) _ ys d (hS5.drewN q) (by omega))
        have hL := hide (fun q => below_any (w5.drewN q) _ ys d (show Rd (w5.drewN q) _ 1 _ _ from hrd5) (by omega) hnd)
        have hT := hide (fun q => stop_any (w5.drewN q) _ ys (hS5.drewN q) (by omega))
        rw [← Hy.out] at hT
        have hres : Both w w5 w.heap.size (.slice A2 m c2) ys := ⟨hS5, hrd5, by rw [Hm.out]; exact hne, hbe.trans (hB5.mono hbe.size), hnd⟩
        have Hres := hide hres
        obtain ⟨A5, c5, rfl, hc5⟩ := own_form hown5
        obtain ⟨N, hNd⟩ : ∃ N, N = nextL ys d := ⟨_, rfl⟩
        rw [← hNd] at hN hL
        clear hres hrd5 hS5 hown5 hS hB5 hbe hnd hne hNd HA
        go_wp2_with fail
        refine HE.out.mono ?_
        rintro e w6 ⟨rfl, q6, rfl⟩
        go_wp2_with fail
        refine (hT.out q6).mono ?_
        rintro e w7 ⟨rfl, q7, rfl⟩
        go_wp2_with fail
        refine (hN.out _).mono ?_
        rintro e w8 ⟨rfl, q8, rfl⟩
        go_wp2_with fail
        refine (hL.out _).mono ?_
        rintro e w9 ⟨rfl, q9, rfl⟩
        go_wp2
        go_roundw
        case rel => exact ⟨k + 1, ys, by omega, by omega, by go_num, hyl, Hres.out.drewN _⟩
        case measure => simp [intOf]; omega
    · have hbe := hb.be
      clear hr hb
      by_cases hlt1 : k < n
      · have hk8 : 80 ≤ k := by omega
        clear hlt
        go_wp2_with fail
        refine (awake_any wr).mono ?_
        rintro e w2 ⟨rfl, hB2⟩
        go_wp2
        go_ret
        exact ⟨rfl, hbe.trans (hB2.mono hbe.size)⟩
      · clear hlt
        go_wp2_with fail
        refine (awake_any wr).mono ?_
        rintro e w2 ⟨rfl, hB2⟩
        go_wp2
        go_ret
        exact ⟨rfl, hbe.trans (hB2.mono hbe.size)⟩
end Go.Proofs.Ytjhfcnkmfbpjmaa
