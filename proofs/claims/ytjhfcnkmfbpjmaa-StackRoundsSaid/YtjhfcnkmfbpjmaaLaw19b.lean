/-
  The laws of layer 19 (stack) as walks: StackRounds, StackDrops.
-/
import Derived.Test.YtjhfcnkmfbpjmaaLaw19
namespace Go.Proofs.Ytjhfcnkmfbpjmaa
open Go.RowKit

/-- The stack between two rounds of raising numbers from 1 on. -/
structure Raised (w wr : World) (B : Nat) (xs : List Int) : Prop where
  st : StackAt wr B xs
  be : Below w.heap.size w wr
  nd : xs.Nodup
  po : ∀ x ∈ xs, 1 ≤ x

theorem Raised.step {w wr w2 : World} {B : Nat} {xs : List Int} {x : Int} (h : Raised w wr B xs) (hx : 1 ≤ x) (hB : w.heap.size ≤ B) (h1 : StackAt w2 B (topL xs x)) (h2 : wr.grownBy w2 (some B)) : Raised w w2 B (topL xs x) :=
  ⟨h1, h.be.trans (grown_below h2 hB h.be.size), topL_nodup h.nd x, fun y hy => by
    simp [topL, without] at hy
    rcases hy with hy | rfl
    · exact h.po y hy.1
    · exact hx⟩

/-- What stands p places from the head, the last one ahead of it. -/
def upTo (xs : List Int) (p : Nat) : Int := if p = 0 then xs.getLastD 0 else xs.getD (p - 1) 0
theorem upTo_last (xs : List Int) : upTo xs xs.length = xs.getLastD 0 := by
  unfold upTo; split
  · rfl
  · exact getD_last xs
theorem upTo_succ (xs : List Int) (p : Nat) : upTo xs (p + 1) = xs.getD p 0 := by unfold upTo; rw [if_neg (by omega)]; rfl
theorem upTo_next {xs : List Int} (h : xs.Nodup) (p : Nat) (hp : p < xs.length) : nextL xs (xs.getD p 0) = upTo xs p := by
  cases p with
  | zero =>
    unfold upTo
    rw [if_pos rfl]
    refine nextL_miss xs _ fun j h1 h2 => ?_
    have e1 : xs.getD j 0 = xs[j] := by simp [List.getD, h2]
    have e2 : xs.getD 0 0 = xs[0] := by simp [List.getD, hp]
    rw [e1, e2]
    intro e
    have := (List.getElem?_inj (i := j) (j := 0) h2 h).1 (by rw [List.getElem?_eq_getElem h2, List.getElem?_eq_getElem hp, e])
    omega
  | succ p => rw [nextL_hit xs _ p h hp rfl, upTo_succ]


set_option maxRecDepth 100000 in
set_option maxHeartbeats 1000000 in
theorem rounds_any (w : World) (v : Value) (l : List Int) (hr : Rd w v 1 l.length (l.map (Value.int .i64))) (hlen : l.length ≤ 9223372036854775807) :
    Calls Try.prog 3 #[v] w fun e w' => e = .returned (.bool true) ∧ Below w.heap.size w w' := by
  have hr0 := hr
  obtain ⟨_, A, c, rfl, hc, _⟩ := hr0
  obtain ⟨n, hn⟩ : ∃ n, n = l.length := ⟨_, rfl⟩
  rw [← hn] at hr hlen hc ⊢
  clear hn
  go_enter Try.func3, Try.ntmps3
  go_wp2_with fail
  refine (new_any w).mono ?_
  rintro e w1 ⟨rfl, hS, hB⟩
  have hz1 := stack_lt hS
  go_wp2
  go_loopw [4] (fun i wr => ∃ (k : Nat) (xs : List Int), k ≤ n ∧ k ≤ 40 ∧ i = .int .i64 k ∧ xs.length ≤ k ∧ Raised w wr w.heap.size xs)
    (fun i _ => n - (intOf i).toNat)
  case atStart => exact ⟨0, [], Nat.zero_le _, by omega, rfl, by simp, hS, hB, by simp, by simp⟩
  case round =>
    obtain ⟨k, xs, hk, hk80, rfl, hxl, hb⟩ := hrel
    clear hS hB hz1
    by_cases hlt : k < n ∧ k < 40
    · obtain ⟨hlt, hlt80⟩ := hlt
      obtain ⟨b, off, rfl, hb', hcell⟩ := hr.open1 (by omega)
      have hcx : wr.cell? ⟨b, off + k, none⟩ = some (.int .i64 (l.getD k 0)) := (hb.be.cell (p := ⟨b, off + k, none⟩) hb').trans (hcell k hlt)
      obtain ⟨x, hx⟩ : ∃ x, x = l.getD k 0 := ⟨_, rfl⟩
      rw [← hx] at hcx
      clear hcell hx hr
      have h1 := Int.emod_nonneg x (show (20 : Int) ≠ 0 by omega)
      have h2 := Int.emod_lt_of_pos x (show (0 : Int) < 20 by omega)
      obtain ⟨y, hy⟩ : ∃ y, y = x % 20 := ⟨_, rfl⟩
      have HP := place_any x 20 wr (by omega) (by omega)
      rw [← hy] at h1 h2 HP
      have HP := hide HP
      clear hy
      go_wp2_with fail
      refine HP.out.mono ?_
      rintro e w2 ⟨rfl, rfl⟩
      have HR := hide (raise_any wr _ xs (1 + y) hb.st (by omega))
      go_wp2_with fail
      refine HR.out.mono ?_
      rintro e w3 ⟨rfl, hS3, hG3⟩
      have hR := hide (hb.step (x := 1 + y) (by omega) (Nat.le_refl _) hS3 hG3)
      have hle := topL_le xs (1 + y)
      clear hS3 hG3 hb
      go_wp2
      go_roundw
      case rel => exact ⟨k + 1, _, by omega, by omega, by go_num, by omega, hR.out⟩
      case measure => simp [intOf]; omega
    · clear hr
      have hx40 : xs.length ≤ 40 := by omega
      rcases (show (k < n ∧ 40 ≤ k) ∨ n ≤ k by omega) with ⟨h1, h2⟩ | h1
      all_goals clear hlt
      all_goals
        obtain ⟨hS, hbe, hnd, hpo⟩ := hb
        go_wp2_with fail
        refine (all_any wr _ xs hS (by omega)).mono ?_
        rintro e w5 ⟨v5, rfl, hown5, hB5⟩
        have hrd5 := Rd.of_own hown5
        have hS5 := hS.grown hB5
        have hbe5 := hbe.trans (hB5.mono hbe.size)
        obtain ⟨A5, c5, rfl, hc5⟩ := own_form hown5
        obtain ⟨y, hy⟩ : ∃ y, y = xs.getLastD 0 := ⟨_, rfl⟩
        have HT := fun q => stop_any (w5.drewN q) _ xs (hS5.drewN q) (by omega)
        have HN := fun q d => next_any (w5.drewN q) _ xs d (hS5.drewN q) (by omega)
        rw [← hy] at HT
        have HT := hide HT
        have HN := hide HN
        have Hy := hide hy
        obtain ⟨m, hm⟩ : ∃ m, m = xs.length := ⟨_, rfl⟩
        rw [← hm] at hrd5 hc5 hx40 ⊢
        have Hm := hide hm
        have Hst : Hid (y = upTo xs m) := by rw [Hm.out, upTo_last]; exact Hy.out
        clear hown5 hS5 hS hB5 hbe hy hm
        go_wp2_with fail
        refine (HT.out 0).mono ?_
        rintro e w6 ⟨rfl, q6, rfl⟩
        go_wp2
        go_loopw [6, 7] (fun x i wx => ∃ (p : Nat), p ≤ m ∧ i = .int .i64 ((p : Int) - 1) ∧ x = .int .i64 (upTo xs p) ∧ ∃ q, wx = w5.drewN q)
          (fun _ i _ => (intOf i + 1).toNat)
        case atStart => exact ⟨m, Nat.le_refl _, rfl, by rw [← Hst.out], _, rfl⟩
        case round =>
          obtain ⟨p, hp, rfl, rfl, q, rfl⟩ := hrel
          cases p with
          | zero =>
            have e0 : upTo xs 0 = y := by rw [Hy.out]; rfl
            rw [e0]
            go_wp2_with fail
            refine (HT.out q).mono ?_
            rintro e w6 ⟨rfl, q6, rfl⟩
            go_wp2_with fail
            refine (awake_any _).mono ?_
            rintro e w7 ⟨rfl, hB7⟩
            go_wp2
            go_ret
            exact ⟨rfl, (below_drewN hbe5 _).trans (hB7.mono hbe5.size)⟩
          | succ p =>
            obtain ⟨b, off, rfl, _, hcell⟩ := hrd5.open1 (by omega)
            have hcx := hcell p (by omega)
            have e1 := upTo_succ xs p
            have e2 := upTo_next hnd p (by rw [← Hm.out]; omega)
            rw [← e1] at hcx e2
            have HN1 := HN.out q (upTo xs (p + 1))
            rw [e2] at HN1
            have HN1 := hide HN1
            obtain ⟨x, hx⟩ : ∃ x, x = upTo xs (p + 1) := ⟨_, rfl⟩
            rw [← hx] at hcx HN1 ⊢
            have ei : ((p + 1 : Nat) : Int) - 1 = (p : Int) := by omega
            rw [ei]
            clear hcell e1 e2 hx ei hrd5
            go_wp2_with fail
            refine HN1.out.mono ?_
            rintro e w6 ⟨rfl, q6, rfl⟩
            go_wp2
            go_roundw
            case rel => exact ⟨p, by omega, rfl, rfl, _, rfl⟩
            case measure => simp [intOf]

set_option maxRecDepth 100000 in
set_option maxHeartbeats 1000000 in
theorem drops_any (w : World) (v : Value) (l : List Int) (d : Int) (hr : Rd w v 1 l.length (l.map (Value.int .i64))) (hlen : l.length ≤ 9223372036854775807) :
    Calls Try.prog 5 #[v, .int .i64 d] w fun e w' => e = .returned (.bool true) ∧ Below w.heap.size w w' := by
  have hr0 := hr
  obtain ⟨_, A, c, rfl, hc, _⟩ := hr0
  obtain ⟨n, hn⟩ : ∃ n, n = l.length := ⟨_, rfl⟩
  rw [← hn] at hr hlen hc ⊢
  clear hn
  go_enter Try.func5, Try.ntmps5
  go_wp2_with fail
  refine (new_any w).mono ?_
  rintro e w1 ⟨rfl, hS, hB⟩
  have hz1 := stack_lt hS
  go_wp2
  go_loopw [6] (fun i wr => ∃ (k : Nat) (xs : List Int), k ≤ n ∧ k ≤ 40 ∧ i = .int .i64 k ∧ xs.length ≤ k ∧ Raised w wr w.heap.size xs)
    (fun i _ => n - (intOf i).toNat)
  case atStart => exact ⟨0, [], Nat.zero_le _, by omega, rfl, by simp, hS, hB, by simp, by simp⟩
  case round =>
    obtain ⟨k, xs, hk, hk80, rfl, hxl, hb⟩ := hrel
    clear hS hB hz1
    by_cases hlt : k < n ∧ k < 40
    · obtain ⟨hlt, hlt80⟩ := hlt
      obtain ⟨b, off, rfl, hb', hcell⟩ := hr.open1 (by omega)
      have hcx : wr.cell? ⟨b, off + k, none⟩ = some (.int .i64 (l.getD k 0)) := (hb.be.cell (p := ⟨b, off + k, none⟩) hb').trans (hcell k hlt)
      obtain ⟨x, hx⟩ : ∃ x, x = l.getD k 0 := ⟨_, rfl⟩
      rw [← hx] at hcx
      clear hcell hx hr
      have h1 := Int.emod_nonneg x (show (12 : Int) ≠ 0 by omega)
      have h2 := Int.emod_lt_of_pos x (show (0 : Int) < 12 by omega)
      obtain ⟨y, hy⟩ : ∃ y, y = x % 12 := ⟨_, rfl⟩
      have HP := place_any x 12 wr (by omega) (by omega)
      rw [← hy] at h1 h2 HP
      have HP := hide HP
      clear hy
      go_wp2_with fail
      refine HP.out.mono ?_
      rintro e w2 ⟨rfl, rfl⟩
      have HR := hide (raise_any wr _ xs (1 + y) hb.st (by omega))
      go_wp2_with fail
      refine HR.out.mono ?_
      rintro e w3 ⟨rfl, hS3, hG3⟩
      have hR := hide (hb.step (x := 1 + y) (by omega) (Nat.le_refl _) hS3 hG3)
      have hle := topL_le xs (1 + y)
      clear hS3 hG3 hb
      go_wp2
      go_roundw
      case rel => exact ⟨k + 1, _, by omega, by omega, by go_num, by omega, hR.out⟩
      case measure => simp [intOf]; omega
    · clear hr
      have hx40 : xs.length ≤ 40 := by omega
      rcases (show (k < n ∧ 40 ≤ k) ∨ n ≤ k by omega) with ⟨h1, h2⟩ | h1
      all_goals clear hlt
      all_goals
        obtain ⟨hS, hbe, hnd, hpo⟩ := hb
        have h1 := Int.emod_nonneg d (show (12 : Int) ≠ 0 by omega)
        have h2 := Int.emod_lt_of_pos d (show (0 : Int) < 12 by omega)
        obtain ⟨y, hy⟩ : ∃ y, y = d % 12 := ⟨_, rfl⟩
        have HP := place_any d 12 wr (by omega) (by omega)
        rw [← hy] at h1 h2 HP
        have HP := hide HP
        clear hy
        go_wp2_with fail
        refine HP.out.mono ?_
        rintro e w2 ⟨rfl, rfl⟩
        go_wp2_with fail
        refine (all_any wr _ xs hS (by omega)).mono ?_
        rintro e w5 ⟨v5, rfl, hown5, hB5⟩
        obtain ⟨A5, c5, rfl, hc5⟩ := own_form hown5
        have hS5 := hS.grown hB5
        have hbe5 := hbe.trans (hB5.mono hbe.size)
        have hgt := stack_lt hS
        go_wp2_with fail
        refine (sdrop_any w5 _ xs (1 + y) hS5 (by omega)).mono ?_
        rintro e w6 ⟨rfl, hS6, hG6⟩
        have hB6 : Below w.heap.size w w6 := hbe5.trans (grown_below hG6 (Nat.le_refl _) hbe5.size)
        have hne5 := own_base hown5 hgt
        have hrd6 := (Rd.of_own hown5).grown hG6 (fun B hB => by cases hB; exact hne5)
        have hwl := without_le xs (1 + y)
        go_wp2_with fail
        refine (all_any w6 _ _ hS6 (by omega)).mono ?_
        rintro e w7 ⟨v7, rfl, hown7, hB7⟩
        obtain ⟨A7, c7, rfl, hc7⟩ := own_form hown7
        have hS7 := hS6.grown hB7
        have hrd7 := hrd6.below hB7 (Nat.le_refl _)
        have hgt6 := stack_lt hS6
        have hB7' := hB6.trans (hB7.mono hB6.size)
        go_wp2_with fail
        refine (sdrop_any w7 _ _ (1 + y) hS7 (by omega)).mono ?_
        rintro e w8 ⟨rfl, hS8, hG8⟩
        have hww : without (without xs (1 + y)) (1 + y) = without xs (1 + y) := by simp [without, List.filter_filter]
        rw [hww] at hS8
        have hne7 := own_base hown7 hgt6
        have hrdA := hrd7.grown hG8 (fun B hB => by cases hB; exact hne5)
        have hrdN := (Rd.of_own hown7).grown hG8 (fun B hB => by cases hB; exact hne7)
        have hB8 : Below w.heap.size w w8 := hB7'.trans (grown_below hG8 (Nat.le_refl _) hB7'.size)
        have hpz : ∀ x ∈ without xs (1 + y), 1 ≤ x := fun x hx => hpo x (by simp [without] at hx; exact hx.1)
        obtain ⟨i0, hi, hz0, hz1, hz2⟩ := info_parts Try.infoInt
        have Hrds := hide (And.intro hrdA (And.intro hrdN hS8))
        obtain ⟨m, hm⟩ : ∃ m, m = xs.length := ⟨_, rfl⟩
        have hxl2 : m ≤ 40 := by omega
        rw [← hm]
        have Hm := hide hm
        obtain ⟨d1, hd1⟩ : ∃ d1, d1 = 1 + y := ⟨_, rfl⟩
        rw [← hd1]
        rw [← hd1] at Hrds hpz hwl
        have Hpz := hide hpz
        have HB8 := hide hB8
        clear hww hS5 hS6 hS7 hS8 hrdA hrdN hrd6 hrd7 hown5 hown7 hne5 hne7 hB5 hB6 hB7 hB7' hG6 hG8 hS hbe hbe5 hpo hpz hnd hm hd1 hB8 HP h1 h2 hgt hgt6
        go_wp2
        go_loopw [10, 11] (fun u i wr2 => ∃ k : Nat, k ≤ m ∧ i = .int .i64 k ∧ wr2.ownsRow w8.heap.size 3 1 u (without (xs.take k) d1).length ((without (xs.take k) d1).map (Value.int .i64)) ∧ Below w8.heap.size w8 wr2)
          (fun _ i _ => m - (intOf i).toNat)
        case atStart => exact ⟨0, Nat.zero_le _, rfl, World.ownsRow_nil _ _ _ _, Below.refl _ _⟩
        case round =>
          obtain ⟨k2, hk2, rfl, hown, hB⟩ := hrel
          have hml := without_take xs d1 k2
          have hrA := Hrds.out.1
          rw [← Hm.out] at hrA
          by_cases hlt : k2 < m
          · obtain ⟨b, off, rfl, hb, hcell⟩ := hrA.open1 (by omega)
            have hcx : wr.cell? ⟨b, off + k2, none⟩ = some (.int .i64 (xs.getD k2 0)) := (hB.cell (p := ⟨b, off + k2, none⟩) hb).trans (hcell k2 hlt)
            clear hcell hrA
            have hit := fun h => without_hit xs d1 k2 (by rw [← Hm.out]; exact hlt) h
            have miss := fun h => without_miss xs d1 k2 (by rw [← Hm.out]; exact hlt) h
            have Hit := hide hit
            have Miss := hide miss
            clear hit miss
            obtain ⟨x, hx⟩ : ∃ x, x = xs.getD k2 0 := ⟨_, rfl⟩
            rw [← hx] at hcx Hit Miss
            clear hx
            by_cases hxd : x = d1
            · have hxb : (x != d1) = false := by simpa using hxd
              have hmm := Miss.out hxd
              rw [← hmm] at hown
              have Hown := hide hown
              clear hxd hown hmm Hit Miss
              go_wp2
              go_roundw
              case rel => exact ⟨k2 + 1, by omega, by go_num, Hown.out, hB⟩
              case measure => simp [intOf]; omega
            · have hxb : (x != d1) = true := by simpa using hxd
              have hmm := hide (Hit.out hxd)
              clear Hit Miss
              obtain ⟨A1, c1, rfl, hc1⟩ := own_form hown
              go_wp2_with (at_builtin; refine wpList_append_own _ rfl _ _ 22 rfl w8.heap.size 3 i0 (.int .i64 0) 1 8 Try.underlying22 hi hz0 hz1 hz2 rfl (by decide) _ _ _ rfl (hown.alloc _) ⟨wr.heap.size, 0, none⟩ 1 1 [.int .i64 x] rfl rfl (cell_one_new _ _ _) (by intro u hu; simp at hu; subst hu; rfl) (by unfold maxLen; omega) (by omega) (by have := hB.size; simp; omega) ?_; intro v9 w9 hown9 hg9 _)
              have hB9 : Below w8.heap.size w8 w9 := (hB.alloc hB.size _).grown hg9 (by have := hB.size; simp; omega) (fun k hk => (hown.lt k hk).1)
              have hown3 : w9.ownsRow w8.heap.size 3 1 v9 (without (xs.take (k2 + 1)) d1).length ((without (xs.take (k2 + 1)) d1).map (Value.int .i64)) := by
                rw [hmm.out]; simpa using hown9
              have Hown := hide hown3
              obtain ⟨A2, c2, rfl, hc2⟩ := own_form hown9
              clear hown9 hown3 hg9 hown hcx
              go_wp2
              go_roundw
              case rel => exact ⟨k2 + 1, by omega, by go_num, Hown.out, hB9⟩
              case measure => simp [intOf]; omega
          · obtain rfl : k2 = m := by omega
            have Htk : Hid (xs.take k2 = xs) := by rw [Hm.out]; exact List.take_length
            rw [Htk.out] at hown hml
            obtain ⟨A1, c1, rfl, hc1⟩ := own_form hown
            obtain ⟨zs, hzs⟩ : ∃ zs, zs = without xs d1 := ⟨_, rfl⟩
            have hrN := Hrds.out.2.1.below hB (Nat.le_refl _)
            have hS9 := Hrds.out.2.2.grown hB
            have hpz := Hpz.out
            have hbe9 := HB8.out.trans (hB.mono HB8.out.size)
            rw [← hzs] at hown hml hrN hS9 hpz hc1 ⊢
            have hrW := Rd.of_own hown
            have HE1 := hide (sameInts_true wr _ _ zs hrN hrW (by omega))
            have hgt9 := stack_lt hS9
            obtain ⟨t, ht⟩ : ∃ t, t = zs.getLastD 0 := ⟨_, rfl⟩
            have ht0 : (zs.length = 0 ∧ t = 0) ∨ (0 < zs.length ∧ 1 ≤ t) := by
              rcases List.eq_nil_or_concat zs with h | ⟨ys, z, h⟩
              · left; rw [ht, h]; simp
              · right; rw [ht, h]; simp
                exact hpz z (by rw [h]; simp)
            have ht1 : ((zs.length : Int) == 0) = (t == 0) := by
              rcases ht0 with ⟨h1, h2⟩ | ⟨h1, h2⟩
              · rw [h1, h2]; rfl
              · rw [beq_eq_false_iff_ne.2 (by omega), beq_eq_false_iff_ne.2 (by omega)]
            have Ht1 := hide ht1
            have HT := fun W hS => stop_any W w.heap.size zs hS (by omega)
            rw [← ht] at HT
            have HT := hide HT
            clear hrA ht ht0 ht1 hzs hpz Hpz Hrds Hm Htk HB8 hrN
            go_wp2_with fail
            refine HE1.out.mono ?_
            rintro e w10 ⟨rfl, q10, rfl⟩
            go_wp2_with fail
            refine (all_any (wr.drewN q10) _ zs (hS9.drewN q10) (by omega)).mono ?_
            rintro e w11 ⟨v11, rfl, hown11, hB11⟩
            have hS11 := (hS9.drewN q10).grown hB11
            have hrW11 := (show Rd (wr.drewN q10) _ 1 _ _ from hrW).below hB11 (Nat.le_refl _)
            obtain ⟨A11, c11, rfl, hc11⟩ := own_form hown11
            have hbe11 : Below w.heap.size w w11 := (below_drewN hbe9 q10).trans (hB11.mono hbe9.size)
            go_wp2_with fail
            refine (sameInts_true w11 _ _ zs (Rd.of_own hown11) hrW11 (by omega)).mono ?_
            rintro e w12 ⟨rfl, q12, rfl⟩
            go_wp2_with fail
            refine (HT.out (w11.drewN q12) (hS11.drewN q12)).mono ?_
            rintro e w13 ⟨rfl, q13, rfl⟩
            have ht1 := Ht1.out
            go_wp2_with fail
            refine (awake_any _).mono ?_
            rintro e w14 ⟨rfl, hB14⟩
            go_wp2
            go_ret
            exact ⟨rfl, (below_drewN hbe11 _).trans (hB14.mono hbe11.size)⟩
end Go.Proofs.Ytjhfcnkmfbpjmaa
