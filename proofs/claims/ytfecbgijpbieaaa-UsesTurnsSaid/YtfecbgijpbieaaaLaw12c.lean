/-
  The law UsesTurns, as a walk.
-/
import Derived.Test.YtfecbgijpbieaaaLaw12
import Derived.Deep.AppendLies
import Derived.Deep.DeepCutAuto
namespace Go.Proofs.Ytfecbgijpbieaaa
open Go.RowKit

theorem Try.infoInt12 : (Try.prog.info? 3).map (fun i => (i.zero, i.size, i.bytes)) = some (some (.int .i64 0), 1, 8) := by kernel_rfl

theorem Rd.openB {w : World} {A : Option Addr} {n c : Nat} {xs : List Bool} (h : Rd w (.slice A n c) 1 n (xs.map Value.bool)) (hn : 0 < n) :
    ∃ b off, A = some ⟨b, off, none⟩ ∧ b < w.heap.size ∧ ∀ k, k < n → w.cell? ⟨b, off + k, none⟩ = some (.bool (xs.getD k false)) := by
  obtain ⟨h1, A', c', hv, hc, h2⟩ := h
  simp only [Value.slice.injEq] at hv
  obtain ⟨rfl, _, rfl⟩ := hv
  obtain ⟨b, off, rfl, hb, hcell⟩ := h2 hn
  refine ⟨b, off, rfl, hb, fun k hk => hcell k _ ?_⟩
  have hl : k < xs.length := by simpa using (show k < (xs.map Value.bool).length by omega)
  simp [List.getD, hl]

theorem held_mem_nil {k : Int} : decide (k ∈ ([] : List Int)) = false := by simp
theorem held_mem_one {k x : Int} (h : k ≠ x) : decide (k ∈ [x]) = false := by simp [h]
theorem held_mem_two {k : Int} (L : List Int) : decide (k ∈ L ++ [k, k]) = true := by simp
theorem i64_nil : ∀ x ∈ ([] : List Int), I64 x := by simp
theorem i64_one {x : Int} (h : I64 x) : ∀ y ∈ [x], I64 y := by simpa using h
theorem free_at {H : Int → Bool} {L : List Int} {k : Int} {q t : Bool} (hk : 0 < k) (hH : H k = q) (hL : decide (k ∈ L) = t) : freeH H L k = (q && !t) := by
  unfold freeH nowH
  rw [hH, hL, decide_eq_true hk, Bool.true_and]
theorem take_mem {l : List Int} {i : Nat} (hi : i < l.length) (k : Int) : decide (k ∈ l.take (i + 1)) = (decide (k ∈ l.take i) || l.getD i 0 == k) := by
  have e : l.take (i + 1) = l.take i ++ [l.getD i 0] := by
    rw [List.take_succ_eq_append_getElem hi]
    simp [List.getD, hi]
  rw [e]
  simp only [List.mem_append, List.mem_singleton, Bool.decide_or]
  congr 1
  rw [Bool.eq_iff_iff]
  simp only [beq_iff_eq, decide_eq_true_eq]
  exact eq_comm

theorem free_mem {H : Int → Bool} {L q5 : List Int} {k : Int} {b : Bool} (h : KeysOf (boolM (freeH H L)) q5) (hk : I64 k) (hf : freeH H L k = b) : decide (k ∈ q5) = b := by
  rw [← hf, Bool.eq_iff_iff, decide_eq_true_eq, keysOf_mem h k]
  exact ⟨fun x => x.2, fun x => ⟨hk, x⟩⟩
theorem now_at {L : List Int} {k : Int} {t : Bool} (hk : 0 < k) (hL : decide (k ∈ L) = t) : nowH L k = t := by
  unfold nowH
  rw [hL, decide_eq_true hk, Bool.true_and]
theorem wrap_add_one {x : Int} (h1 : 0 ≤ x) (h2 : x ≤ 1000) : wrap64 (x + 1) = x + 1 := by unfold wrap64; omega
theorem times_at {T : Int → Option Int} {q5 : List Int} {k : Int} {b : Bool} {m : Nat} (h : decide (k ∈ q5) = b) (hT : (T k).getD 0 = m) (hm : m ≤ 1000) : (nowT T q5 k).getD 0 = ((m + (if b then 1 else 0) : Nat) : Int) := by
  have e2 : (0 : Int) ≤ (m : Int) := Int.natCast_nonneg m
  have e3 : (m : Int) ≤ 1000 := by omega
  unfold nowT
  rw [hT]
  generalize hx : (m : Int) = x at e2 e3
  cases b with
  | true =>
    rw [if_pos (of_decide_eq_true h), Option.getD_some, wrap_add_one e2 e3, if_pos rfl, ← hx]
    exact (Int.natCast_add m 1).symm
  | false =>
    rw [if_neg (of_decide_eq_false h), hT, if_neg (by decide)]
    rfl


set_option maxRecDepth 100000 in
set_option maxHeartbeats 2000000 in
theorem usesTurns_any (W : World) (A : Option Addr) (c : Nat) (l : List Bool) (hr : Rd W (.slice A l.length c) 1 l.length (l.map Value.bool)) (idx : Int)
    (A2 : Option Addr) (c2 : Nat) (os : List Int) (hr2 : Rd W (.slice A2 os.length c2) 1 os.length (os.map (Value.int .i64))) (hi2 : ∀ x ∈ os, I64 x) :
    Calls Try.prog 3 #[.slice A l.length c, .int .i64 idx, .slice A2 os.length c2] W fun e w' => e = .returned (.bool true) ∧ Below W.heap.size W w' := by
  obtain ⟨i0, hi, hz0, hz1, hz2⟩ := info_parts Try.infoInt12
  have hN := hide (lNew W)
  have a1 := Int.emod_nonneg idx (show (1000 : Int) ≠ 0 by decide)
  have a2 := Int.emod_lt_of_pos idx (show (0 : Int) < 1000 by decide)
  have hP := fun w => place_any idx 1000 w (by omega) (by omega)
  obtain ⟨y, hy⟩ : ∃ y, y = idx % 1000 := ⟨_, rfl⟩
  rw [← hy] at a1 a2 hP
  replace hP := hide hP
  replace hi2 := hide hi2
  clear hy
  obtain ⟨N, hN2⟩ : ∃ N, N = l.length := ⟨_, rfl⟩
  obtain ⟨O, hO⟩ : ∃ O, O = os.length := ⟨_, rfl⟩
  rw [← hN2] at hr ⊢
  rw [← hO] at hr2 ⊢
  replace hN2 := hide hN2
  replace hO := hide hO
  replace hr := hide hr
  replace hr2 := hide hr2
  go_enter Try.func3, Try.ntmps3
  go_wp2_with fail
  refine (hP.out _).mono ?_
  rintro e w' ⟨rfl, rfl⟩
  go_wp2_with fail
  refine (hN.out).mono ?_
  rintro e w1 ⟨u, tb, hb, rfl, h1⟩
  replace h1 := hide h1
  have hk := hide (i64_small (x := 1 + y) (by omega) : I64 (1 + y))
  go_wp2
  go_loopw [9, 10, 11] (fun n was i wr => ∃ (j m nh nt hb : Nat) (H : Int → Bool) (T : Int → Option Int) (q : Bool), j ≤ N ∧ j ≤ 60 ∧ i = .int .i64 j ∧ n = .int .i64 m ∧ m ≤ j ∧ was = .bool q ∧ nh ≤ 3 ∧ nt ≤ 3 * j ∧ Hid (UseL W u tb hb nh nt H T wr) ∧ Hid (H (1 + y) = q) ∧ Hid ((T (1 + y)).getD 0 = m))
    (fun _ _ i _ => 60 - (intOf i).toNat)
  case atStart => exact ⟨0, 0, 0, 0, hb, _, _, false, Nat.zero_le _, Nat.zero_le _, rfl, rfl, Nat.le_refl _, rfl, by omega, by omega, h1, hide rfl, hide rfl⟩
  clear h1
  case round =>
    obtain ⟨j, m, nh, nt, hb, H, T, q, hj, hj60, rfl, rfl, hmj, rfl, hnh, hnt, h1, hH, hT⟩ := hrel
    obtain ⟨wA, hA⟩ : ∃ wA, wA = wr := ⟨_, rfl⟩
    subst hA
    by_cases hlt : j < N
    · by_cases hlt60 : j < 60
      · have hb1 := h1.out.below
        have hra := hr.out.below hb1 (Nat.le_refl _)
        obtain ⟨b, off, rfl, hbl, hcell⟩ := hra.openB (by omega)
        have hcx := hcell j hlt
        obtain ⟨t, ht⟩ : ∃ t, t = l.getD j false := ⟨_, rfl⟩
        rw [← ht] at hcx
        have htj := hide ht
        clear hcell hra ht
        have hB0 : Below wA.heap.size wA wA := Below.refl _ _
        have own0 : wA.ownsRow wA.heap.size 3 1 (.slice none 0 0) ([] : List Int).length (([] : List Int).map (Value.int .i64)) := World.ownsRow_nil _ _ _ _
        have own00 : wA.ownsRow wA.heap.size 3 1 (.slice none 0 0) 0 [] := World.ownsRow_nil _ _ _ _
        by_cases hjO : j < O
        · have hrb := hr2.out.below hb1 (Nat.le_refl _)
          obtain ⟨b2, off2, rfl, hbl2, hcell2⟩ := hrb.open1 (by omega)
          have hcy := hcell2 j hjO
          have hxi : I64 (os.getD j 0) := by
            have hjo : j < os.length := by rw [← hO.out]; exact hjO
            have e : os.getD j 0 = os[j] := by simp [List.getD, hjo]
            rw [e]; exact hi2.out _ (List.getElem_mem hjo)
          obtain ⟨x, hx⟩ : ∃ x, x = os.getD j 0 := ⟨_, rfl⟩
          rw [← hx] at hcy hxi
          clear hcell2 hrb hx
          by_cases hxk : x = 1 + y
          · have hxb : (x != 1 + y) = false := by simpa using hxk
            clear hxk
            cases t with
            | false =>
              have hL := hide (held_mem_nil (k := 1 + y))
              have hLi := hide (i64_nil)
              cases q
              all_goals
                have hUB := h1.out.keep hB0
                have hLi2 : ∀ zz ∈ [], I64 zz := by first | exact hLi.out | (intro z hz; simp at hz; rcases hz with rfl | rfl | rfl <;> first | exact hk.out | exact hxi) | (intro z hz; simp at hz; subst hz; exact hk.out)
                have cN := hide (lNow hUB _ [] (Rd.of_own own0) hLi2 (by omega) (by omega) (by simp))
                have hfree := free_at (by omega) hH.out hL.out
                replace hfree := hide hfree
                have hTq := hide hT.out
                have hbB := hide hUB.below
                clear hUB h1 hH hT
                go_wp2_with fail
                refine cN.out.mono ?_
                rintro e w5 ⟨hb5, A5, n5, q5, rfl, k5, l5, r5, h5, C5⟩
                have hmq := free_mem k5 hk.out hfree.out
                have hH5 := hide (now_at (by omega) hL.out)
                have hT5 := times_at hmq hTq.out (by omega)
                simp only [Bool.not_true, Bool.not_false, Bool.and_true, Bool.and_false, Bool.true_and, Bool.false_and, if_true, if_false, Bool.false_eq_true, Nat.add_zero] at hT5 hmq
                replace hmq := hide hmq
                replace hT5 := hide hT5
                have hra5 := hide (hr.out.below h5.below (Nat.le_refl _))
                have htm := uTimes_any w5 u hb5 tb _ _ _ _ (1 + y) hk.out h5.at'
                rw [hT5.out] at htm
                replace htm := hide htm
                replace h5 := hide h5
                obtain ⟨Q, hQ⟩ : ∃ Q, Q = q5.length := ⟨_, rfl⟩
                rw [← hQ] at r5 l5 h5
                rw [← hQ]
                have hr5 := Rd.of_own r5
                replace hQ := hide hQ
                obtain ⟨bl, ol, hbo, hbl5, hcl⟩ := hra5.out.openB (by omega)
                simp only [Option.some.injEq, Addr.mk.injEq, and_true] at hbo
                obtain ⟨rfl, rfl⟩ := hbo
                have hcl5 := hcl j hlt
                rw [← htj.out] at hcl5
                clear hcl r5 k5 C5 cN hfree hTq
                go_wp2
                go_loopw [13, 64] (fun told i wr => ∃ a : Nat, a ≤ Q ∧ i = .int .i64 a ∧ told = .bool (decide (1 + y ∈ q5.take a)) ∧ wr = w5)
                  (fun _ i _ => Q - (intOf i).toNat)
                case atStart => exact ⟨0, Nat.zero_le _, rfl, by simp, rfl⟩
                case round =>
                  obtain ⟨a, ha, rfl, rfl, rfl⟩ := hrel
                  by_cases hlta : a < Q
                  · have haq : a < q5.length := by rw [← hQ.out]; exact hlta
                    obtain ⟨b6, o6, rfl, hbl6, hcell6⟩ := hr5.open1 (by omega)
                    have hcz := hcell6 a hlta
                    have htk := hide (take_mem haq (1 + y))
                    obtain ⟨z, hz⟩ : ∃ z, z = q5.getD a 0 := ⟨_, rfl⟩
                    rw [← hz] at hcz htk
                    clear hcell6 hz
                    obtain ⟨tt, htt⟩ : ∃ tt, tt = decide (1 + y ∈ q5.take a) := ⟨_, rfl⟩
                    rw [← htt] at htk ⊢
                    clear htt
                    by_cases hzk : z = 1 + y
                    · have hzb : (z == 1 + y) = true := by simpa using hzk
                      cases tt
                      all_goals
                        go_wp2
                        go_roundw
                        case rel => exact ⟨a + 1, by omega, by go_num, by rw [htk.out, hzb]; rfl, by first | trivial | rfl⟩
                        case measure => simp [intOf]; omega
                    · have hzb : (z == 1 + y) = false := by simpa using hzk
                      cases tt
                      all_goals
                        go_wp2
                        go_roundw
                        case rel => exact ⟨a + 1, by omega, by go_num, by rw [htk.out, hzb]; rfl, by first | trivial | rfl⟩
                        case measure => simp [intOf]; omega
                  · obtain rfl : a = Q := by omega
                    have htl : decide (1 + y ∈ q5.take a) = decide (1 + y ∈ q5) := by rw [show q5.take a = q5 by rw [hQ.out]; exact List.take_length]
                    rw [htl, hmq.out]
                    clear htl
                    try dsimp only [Bool.and_true, Bool.and_false, Bool.not_true, Bool.not_false, Bool.true_and, Bool.false_and]
                    go_wp2_with fail
                    refine htm.out.mono ?_
                    rintro e w9 ⟨rfl, rfl⟩
                    try simp only [if_true, Bool.false_eq_true, if_false, Nat.add_zero, Bool.and_true, Bool.and_false, Bool.not_true, Bool.not_false]
                    go_wp2
                    go_roundw
                    case rel => exact ⟨j + 1, _, _, _, hb5, _, _, _, by omega, by omega, by go_num, by first | rfl | go_num, by omega, rfl, by simp, by omega, h5, hH5, hT5⟩
                    case measure => simp [intOf]; omega
            | true =>
              go_wp2_with (at_builtin; (refine wpList_append_own _ rfl _ _ 23 rfl wA.heap.size 3 i0 (.int .i64 0) 1 8 Try.underlying23 hi hz0 hz1 hz2 rfl (by decide) _ _ _ rfl (own0.alloc _) ⟨wA.heap.size, 0, none⟩ 2 2 [.int .i64 (1 + y), .int .i64 (1 + y)] rfl rfl (World.news_of_block (heap_alloc_new _ _)) (by intro u hu; simp at hu; subst hu; rfl) (by unfold maxLen; simp) (by simp) (by have := hB0.size; simp <;> omega) ?_); intro v3 w3 own3 hg3 _)
              have hB3 : Below wA.heap.size wA w3 := (hB0.alloc hB0.size _).grown hg3 (by have := hB0.size; simp <;> omega) (fun k hk => (own0.lt k hk).1)
              have own3 : w3.ownsRow wA.heap.size 3 1 v3 ([] ++ [1 + y, 1 + y]).length (([] ++ [1 + y, 1 + y]).map (Value.int .i64)) := own3
              obtain ⟨Aw, cw, rfl, hcw⟩ := own_form own3
              have hcx3 : w3.cell? ⟨b, off + j, none⟩ = some (.bool true) := (hB3.cell (p := ⟨b, off + j, none⟩) hbl).trans (by assumption)
              have hL := hide (held_mem_two (k := 1 + y) [])
              cases q
              all_goals
                have hUB := h1.out.keep hB3
                have hLi2 : ∀ zz ∈ [1 + y, 1 + y], I64 zz := by first | exact hLi.out | (intro z hz; simp at hz; rcases hz with rfl | rfl | rfl <;> first | exact hk.out | exact hxi) | (intro z hz; simp at hz; subst hz; exact hk.out)
                have cN := hide (lNow hUB _ [1 + y, 1 + y] (Rd.of_own own3) hLi2 (by omega) (by omega) (by simp))
                have hfree := free_at (by omega) hH.out hL.out
                replace hfree := hide hfree
                have hTq := hide hT.out
                have hbB := hide hUB.below
                clear hUB h1 hH hT
                go_wp2_with fail
                refine cN.out.mono ?_
                rintro e w5 ⟨hb5, A5, n5, q5, rfl, k5, l5, r5, h5, C5⟩
                have hmq := free_mem k5 hk.out hfree.out
                have hH5 := hide (now_at (by omega) hL.out)
                have hT5 := times_at hmq hTq.out (by omega)
                simp only [Bool.not_true, Bool.not_false, Bool.and_true, Bool.and_false, Bool.true_and, Bool.false_and, if_true, if_false, Bool.false_eq_true, Nat.add_zero] at hT5 hmq
                replace hmq := hide hmq
                replace hT5 := hide hT5
                have hra5 := hide (hr.out.below h5.below (Nat.le_refl _))
                have htm := uTimes_any w5 u hb5 tb _ _ _ _ (1 + y) hk.out h5.at'
                rw [hT5.out] at htm
                replace htm := hide htm
                replace h5 := hide h5
                obtain ⟨Q, hQ⟩ : ∃ Q, Q = q5.length := ⟨_, rfl⟩
                rw [← hQ] at r5 l5 h5
                rw [← hQ]
                have hr5 := Rd.of_own r5
                replace hQ := hide hQ
                obtain ⟨bl, ol, hbo, hbl5, hcl⟩ := hra5.out.openB (by omega)
                simp only [Option.some.injEq, Addr.mk.injEq, and_true] at hbo
                obtain ⟨rfl, rfl⟩ := hbo
                have hcl5 := hcl j hlt
                rw [← htj.out] at hcl5
                clear hcl r5 k5 C5 cN hfree hTq
                go_wp2
                go_loopw [13, 64] (fun told i wr => ∃ a : Nat, a ≤ Q ∧ i = .int .i64 a ∧ told = .bool (decide (1 + y ∈ q5.take a)) ∧ wr = w5)
                  (fun _ i _ => Q - (intOf i).toNat)
                case atStart => exact ⟨0, Nat.zero_le _, rfl, by simp, rfl⟩
                case round =>
                  obtain ⟨a, ha, rfl, rfl, rfl⟩ := hrel
                  by_cases hlta : a < Q
                  · have haq : a < q5.length := by rw [← hQ.out]; exact hlta
                    obtain ⟨b6, o6, rfl, hbl6, hcell6⟩ := hr5.open1 (by omega)
                    have hcz := hcell6 a hlta
                    have htk := hide (take_mem haq (1 + y))
                    obtain ⟨z, hz⟩ : ∃ z, z = q5.getD a 0 := ⟨_, rfl⟩
                    rw [← hz] at hcz htk
                    clear hcell6 hz
                    obtain ⟨tt, htt⟩ : ∃ tt, tt = decide (1 + y ∈ q5.take a) := ⟨_, rfl⟩
                    rw [← htt] at htk ⊢
                    clear htt
                    by_cases hzk : z = 1 + y
                    · have hzb : (z == 1 + y) = true := by simpa using hzk
                      cases tt
                      all_goals
                        go_wp2
                        go_roundw
                        case rel => exact ⟨a + 1, by omega, by go_num, by rw [htk.out, hzb]; rfl, by first | trivial | rfl⟩
                        case measure => simp [intOf]; omega
                    · have hzb : (z == 1 + y) = false := by simpa using hzk
                      cases tt
                      all_goals
                        go_wp2
                        go_roundw
                        case rel => exact ⟨a + 1, by omega, by go_num, by rw [htk.out, hzb]; rfl, by first | trivial | rfl⟩
                        case measure => simp [intOf]; omega
                  · obtain rfl : a = Q := by omega
                    have htl : decide (1 + y ∈ q5.take a) = decide (1 + y ∈ q5) := by rw [show q5.take a = q5 by rw [hQ.out]; exact List.take_length]
                    rw [htl, hmq.out]
                    clear htl
                    try dsimp only [Bool.and_true, Bool.and_false, Bool.not_true, Bool.not_false, Bool.true_and, Bool.false_and]
                    go_wp2_with fail
                    refine htm.out.mono ?_
                    rintro e w9 ⟨rfl, rfl⟩
                    try simp only [if_true, Bool.false_eq_true, if_false, Nat.add_zero, Bool.and_true, Bool.and_false, Bool.not_true, Bool.not_false]
                    go_wp2
                    go_roundw
                    case rel => exact ⟨j + 1, _, _, _, hb5, _, _, _, by omega, by omega, by go_num, by first | rfl | go_num, by omega, rfl, by simp, by omega, h5, hH5, hT5⟩
                    case measure => simp [intOf]; omega
          · have hxb : (x != 1 + y) = true := by simpa using hxk
            cases t with
            | false =>
              have hL := hide (held_mem_one (k := 1 + y) (x := x) (fun e => hxk e.symm))
              have hLi := hide (i64_one hxi)
              cases q
              all_goals
                go_wp2_with (at_builtin; refine wpList_append_own _ rfl _ _ 23 rfl wA.heap.size 3 i0 (.int .i64 0) 1 8 Try.underlying23 hi hz0 hz1 hz2 rfl (by decide) _ _ _ rfl (own00.alloc _) ⟨wA.heap.size, 0, none⟩ 1 1 [.int .i64 x] rfl rfl (cell_one_new _ _ _) (by intro u hu; simp at hu; subst hu; rfl) (by unfold maxLen; omega) (by omega) (by simp) ?_; intro v2 w2 own2 hg2 _; have hB2 : Below wA.heap.size wA w2 := (hB0.alloc hB0.size _).grown hg2 (by simp) (fun k hk => (own0.lt k hk).1); have hcx2 : w2.cell? ⟨b, off + j, none⟩ = some (.bool false) := (hB2.cell (p := ⟨b, off + j, none⟩) hbl).trans hcx; have own2 : w2.ownsRow wA.heap.size 3 1 v2 [x].length ([x].map (Value.int .i64)) := own2; obtain ⟨Av, cv, rfl, hcv⟩ := own_form own2)
                have hUB := h1.out.keep hB2
                have hLi2 : ∀ zz ∈ [x], I64 zz := by first | exact hLi.out | (intro z hz; simp at hz; rcases hz with rfl | rfl | rfl <;> first | exact hk.out | exact hxi) | (intro z hz; simp at hz; subst hz; exact hk.out)
                have cN := hide (lNow hUB _ [x] (Rd.of_own own2) hLi2 (by omega) (by omega) (by simp))
                have hfree := free_at (by omega) hH.out hL.out
                replace hfree := hide hfree
                have hTq := hide hT.out
                have hbB := hide hUB.below
                clear hUB h1 hH hT
                go_wp2_with fail
                refine cN.out.mono ?_
                rintro e w5 ⟨hb5, A5, n5, q5, rfl, k5, l5, r5, h5, C5⟩
                have hmq := free_mem k5 hk.out hfree.out
                have hH5 := hide (now_at (by omega) hL.out)
                have hT5 := times_at hmq hTq.out (by omega)
                simp only [Bool.not_true, Bool.not_false, Bool.and_true, Bool.and_false, Bool.true_and, Bool.false_and, if_true, if_false, Bool.false_eq_true, Nat.add_zero] at hT5 hmq
                replace hmq := hide hmq
                replace hT5 := hide hT5
                have hra5 := hide (hr.out.below h5.below (Nat.le_refl _))
                have htm := uTimes_any w5 u hb5 tb _ _ _ _ (1 + y) hk.out h5.at'
                rw [hT5.out] at htm
                replace htm := hide htm
                replace h5 := hide h5
                obtain ⟨Q, hQ⟩ : ∃ Q, Q = q5.length := ⟨_, rfl⟩
                rw [← hQ] at r5 l5 h5
                rw [← hQ]
                have hr5 := Rd.of_own r5
                replace hQ := hide hQ
                obtain ⟨bl, ol, hbo, hbl5, hcl⟩ := hra5.out.openB (by omega)
                simp only [Option.some.injEq, Addr.mk.injEq, and_true] at hbo
                obtain ⟨rfl, rfl⟩ := hbo
                have hcl5 := hcl j hlt
                rw [← htj.out] at hcl5
                clear hcl r5 k5 C5 cN hfree hTq
                go_wp2
                go_loopw [13, 64] (fun told i wr => ∃ a : Nat, a ≤ Q ∧ i = .int .i64 a ∧ told = .bool (decide (1 + y ∈ q5.take a)) ∧ wr = w5)
                  (fun _ i _ => Q - (intOf i).toNat)
                case atStart => exact ⟨0, Nat.zero_le _, rfl, by simp, rfl⟩
                case round =>
                  obtain ⟨a, ha, rfl, rfl, rfl⟩ := hrel
                  by_cases hlta : a < Q
                  · have haq : a < q5.length := by rw [← hQ.out]; exact hlta
                    obtain ⟨b6, o6, rfl, hbl6, hcell6⟩ := hr5.open1 (by omega)
                    have hcz := hcell6 a hlta
                    have htk := hide (take_mem haq (1 + y))
                    obtain ⟨z, hz⟩ : ∃ z, z = q5.getD a 0 := ⟨_, rfl⟩
                    rw [← hz] at hcz htk
                    clear hcell6 hz
                    obtain ⟨tt, htt⟩ : ∃ tt, tt = decide (1 + y ∈ q5.take a) := ⟨_, rfl⟩
                    rw [← htt] at htk ⊢
                    clear htt
                    by_cases hzk : z = 1 + y
                    · have hzb : (z == 1 + y) = true := by simpa using hzk
                      cases tt
                      all_goals
                        go_wp2
                        go_roundw
                        case rel => exact ⟨a + 1, by omega, by go_num, by rw [htk.out, hzb]; rfl, by first | trivial | rfl⟩
                        case measure => simp [intOf]; omega
                    · have hzb : (z == 1 + y) = false := by simpa using hzk
                      cases tt
                      all_goals
                        go_wp2
                        go_roundw
                        case rel => exact ⟨a + 1, by omega, by go_num, by rw [htk.out, hzb]; rfl, by first | trivial | rfl⟩
                        case measure => simp [intOf]; omega
                  · obtain rfl : a = Q := by omega
                    have htl : decide (1 + y ∈ q5.take a) = decide (1 + y ∈ q5) := by rw [show q5.take a = q5 by rw [hQ.out]; exact List.take_length]
                    rw [htl, hmq.out]
                    clear htl
                    try dsimp only [Bool.and_true, Bool.and_false, Bool.not_true, Bool.not_false, Bool.true_and, Bool.false_and]
                    go_wp2_with fail
                    refine htm.out.mono ?_
                    rintro e w9 ⟨rfl, rfl⟩
                    try simp only [if_true, Bool.false_eq_true, if_false, Nat.add_zero, Bool.and_true, Bool.and_false, Bool.not_true, Bool.not_false]
                    go_wp2
                    go_roundw
                    case rel => exact ⟨j + 1, _, _, _, hb5, _, _, _, by omega, by omega, by go_num, by first | rfl | go_num, by omega, rfl, by simp, by omega, h5, hH5, hT5⟩
                    case measure => simp [intOf]; omega
            | true =>
              have hL := hide (held_mem_two (k := 1 + y) [x])
              cases q
              all_goals
                go_wp2_with (at_builtin; first
                  | (refine wpList_append_own _ rfl _ _ 23 rfl wA.heap.size 3 i0 (.int .i64 0) 1 8 Try.underlying23 hi hz0 hz1 hz2 rfl (by decide) _ _ _ rfl (own2.alloc _) ⟨w2.heap.size, 0, none⟩ 2 2 [.int .i64 (1 + y), .int .i64 (1 + y)] rfl rfl (World.news_of_block (heap_alloc_new _ _)) (by intro u hu; simp at hu; subst hu; rfl) (by unfold maxLen; simp) (by simp) (by have := hB2.size; simp <;> omega) ?_; intro v3 w3 own3 hg3 _)
                  | (refine wpList_append_own _ rfl _ _ 23 rfl wA.heap.size 3 i0 (.int .i64 0) 1 8 Try.underlying23 hi hz0 hz1 hz2 rfl (by decide) _ _ _ rfl (own00.alloc _) ⟨wA.heap.size, 0, none⟩ 1 1 [.int .i64 x] rfl rfl (cell_one_new _ _ _) (by intro u hu; simp at hu; subst hu; rfl) (by unfold maxLen; omega) (by omega) (by simp) ?_; intro v2 w2 own2 hg2 _; have hB2 : Below wA.heap.size wA w2 := (hB0.alloc hB0.size _).grown hg2 (by simp) (fun k hk => (own0.lt k hk).1); have hcx2 : w2.cell? ⟨b, off + j, none⟩ = some (.bool true) := (hB2.cell (p := ⟨b, off + j, none⟩) hbl).trans hcx; have own2 : w2.ownsRow wA.heap.size 3 1 v2 [x].length ([x].map (Value.int .i64)) := own2; obtain ⟨Av, cv, rfl, hcv⟩ := own_form own2))
                have hB3 : Below wA.heap.size wA w3 := (hB2.alloc hB2.size _).grown hg3 (by have := hB2.size; simp <;> omega) (fun k hk => (own2.lt k hk).1)
                have own3 : w3.ownsRow wA.heap.size 3 1 v3 ([x] ++ [1 + y, 1 + y]).length (([x] ++ [1 + y, 1 + y]).map (Value.int .i64)) := own3
                obtain ⟨Aw, cw, rfl, hcw⟩ := own_form own3
                have hcx3 : w3.cell? ⟨b, off + j, none⟩ = some (.bool true) := (hB3.cell (p := ⟨b, off + j, none⟩) hbl).trans hcx
                have hUB := h1.out.keep hB3
                have hLi2 : ∀ zz ∈ [x, 1 + y, 1 + y], I64 zz := by first | exact hLi.out | (intro z hz; simp at hz; rcases hz with rfl | rfl | rfl <;> first | exact hk.out | exact hxi) | (intro z hz; simp at hz; subst hz; exact hk.out)
                have cN := hide (lNow hUB _ [x, 1 + y, 1 + y] (Rd.of_own own3) hLi2 (by omega) (by omega) (by simp))
                have hfree := free_at (by omega) hH.out hL.out
                replace hfree := hide hfree
                have hTq := hide hT.out
                have hbB := hide hUB.below
                clear hUB h1 hH hT
                go_wp2_with fail
                refine cN.out.mono ?_
                rintro e w5 ⟨hb5, A5, n5, q5, rfl, k5, l5, r5, h5, C5⟩
                have hmq := free_mem k5 hk.out hfree.out
                have hH5 := hide (now_at (by omega) hL.out)
                have hT5 := times_at hmq hTq.out (by omega)
                simp only [Bool.not_true, Bool.not_false, Bool.and_true, Bool.and_false, Bool.true_and, Bool.false_and, if_true, if_false, Bool.false_eq_true, Nat.add_zero] at hT5 hmq
                replace hmq := hide hmq
                replace hT5 := hide hT5
                have hra5 := hide (hr.out.below h5.below (Nat.le_refl _))
                have htm := uTimes_any w5 u hb5 tb _ _ _ _ (1 + y) hk.out h5.at'
                rw [hT5.out] at htm
                replace htm := hide htm
                replace h5 := hide h5
                obtain ⟨Q, hQ⟩ : ∃ Q, Q = q5.length := ⟨_, rfl⟩
                rw [← hQ] at r5 l5 h5
                rw [← hQ]
                have hr5 := Rd.of_own r5
                replace hQ := hide hQ
                obtain ⟨bl, ol, hbo, hbl5, hcl⟩ := hra5.out.openB (by omega)
                simp only [Option.some.injEq, Addr.mk.injEq, and_true] at hbo
                obtain ⟨rfl, rfl⟩ := hbo
                have hcl5 := hcl j hlt
                rw [← htj.out] at hcl5
                clear hcl r5 k5 C5 cN hfree hTq
                go_wp2
                go_loopw [13, 64] (fun told i wr => ∃ a : Nat, a ≤ Q ∧ i = .int .i64 a ∧ told = .bool (decide (1 + y ∈ q5.take a)) ∧ wr = w5)
                  (fun _ i _ => Q - (intOf i).toNat)
                case atStart => exact ⟨0, Nat.zero_le _, rfl, by simp, rfl⟩
                case round =>
                  obtain ⟨a, ha, rfl, rfl, rfl⟩ := hrel
                  by_cases hlta : a < Q
                  · have haq : a < q5.length := by rw [← hQ.out]; exact hlta
                    obtain ⟨b6, o6, rfl, hbl6, hcell6⟩ := hr5.open1 (by omega)
                    have hcz := hcell6 a hlta
                    have htk := hide (take_mem haq (1 + y))
                    obtain ⟨z, hz⟩ : ∃ z, z = q5.getD a 0 := ⟨_, rfl⟩
                    rw [← hz] at hcz htk
                    clear hcell6 hz
                    obtain ⟨tt, htt⟩ : ∃ tt, tt = decide (1 + y ∈ q5.take a) := ⟨_, rfl⟩
                    rw [← htt] at htk ⊢
                    clear htt
                    by_cases hzk : z = 1 + y
                    · have hzb : (z == 1 + y) = true := by simpa using hzk
                      cases tt
                      all_goals
                        go_wp2
                        go_roundw
                        case rel => exact ⟨a + 1, by omega, by go_num, by rw [htk.out, hzb]; rfl, by first | trivial | rfl⟩
                        case measure => simp [intOf]; omega
                    · have hzb : (z == 1 + y) = false := by simpa using hzk
                      cases tt
                      all_goals
                        go_wp2
                        go_roundw
                        case rel => exact ⟨a + 1, by omega, by go_num, by rw [htk.out, hzb]; rfl, by first | trivial | rfl⟩
                        case measure => simp [intOf]; omega
                  · obtain rfl : a = Q := by omega
                    have htl : decide (1 + y ∈ q5.take a) = decide (1 + y ∈ q5) := by rw [show q5.take a = q5 by rw [hQ.out]; exact List.take_length]
                    rw [htl, hmq.out]
                    clear htl
                    try dsimp only [Bool.and_true, Bool.and_false, Bool.not_true, Bool.not_false, Bool.true_and, Bool.false_and]
                    go_wp2_with fail
                    refine htm.out.mono ?_
                    rintro e w9 ⟨rfl, rfl⟩
                    try simp only [if_true, Bool.false_eq_true, if_false, Nat.add_zero, Bool.and_true, Bool.and_false, Bool.not_true, Bool.not_false]
                    go_wp2
                    go_roundw
                    case rel => exact ⟨j + 1, _, _, _, hb5, _, _, _, by omega, by omega, by go_num, by first | rfl | go_num, by omega, rfl, by simp, by omega, h5, hH5, hT5⟩
                    case measure => simp [intOf]; omega
        · have hjO2 : (O : Int) ≤ (j : Int) := by omega
          cases t with
          | false =>
            have hL := hide (held_mem_nil (k := 1 + y))
            have hLi := hide (i64_nil)
            cases q
            all_goals
              have hUB := h1.out.keep hB0
              have hLi2 : ∀ zz ∈ [], I64 zz := by first | exact hLi.out | (intro z hz; simp at hz; rcases hz with rfl | rfl | rfl <;> first | exact hk.out | exact hxi) | (intro z hz; simp at hz; subst hz; exact hk.out)
              have cN := hide (lNow hUB _ [] (Rd.of_own own0) hLi2 (by omega) (by omega) (by simp))
              have hfree := free_at (by omega) hH.out hL.out
              replace hfree := hide hfree
              have hTq := hide hT.out
              have hbB := hide hUB.below
              clear hUB h1 hH hT
              go_wp2_with fail
              refine cN.out.mono ?_
              rintro e w5 ⟨hb5, A5, n5, q5, rfl, k5, l5, r5, h5, C5⟩
              have hmq := free_mem k5 hk.out hfree.out
              have hH5 := hide (now_at (by omega) hL.out)
              have hT5 := times_at hmq hTq.out (by omega)
              simp only [Bool.not_true, Bool.not_false, Bool.and_true, Bool.and_false, Bool.true_and, Bool.false_and, if_true, if_false, Bool.false_eq_true, Nat.add_zero] at hT5 hmq
              replace hmq := hide hmq
              replace hT5 := hide hT5
              have hra5 := hide (hr.out.below h5.below (Nat.le_refl _))
              have htm := uTimes_any w5 u hb5 tb _ _ _ _ (1 + y) hk.out h5.at'
              rw [hT5.out] at htm
              replace htm := hide htm
              replace h5 := hide h5
              obtain ⟨Q, hQ⟩ : ∃ Q, Q = q5.length := ⟨_, rfl⟩
              rw [← hQ] at r5 l5 h5
              rw [← hQ]
              have hr5 := Rd.of_own r5
              replace hQ := hide hQ
              obtain ⟨bl, ol, hbo, hbl5, hcl⟩ := hra5.out.openB (by omega)
              simp only [Option.some.injEq, Addr.mk.injEq, and_true] at hbo
              obtain ⟨rfl, rfl⟩ := hbo
              have hcl5 := hcl j hlt
              rw [← htj.out] at hcl5
              clear hcl r5 k5 C5 cN hfree hTq
              go_wp2
              go_loopw [13, 64] (fun told i wr => ∃ a : Nat, a ≤ Q ∧ i = .int .i64 a ∧ told = .bool (decide (1 + y ∈ q5.take a)) ∧ wr = w5)
                (fun _ i _ => Q - (intOf i).toNat)
              case atStart => exact ⟨0, Nat.zero_le _, rfl, by simp, rfl⟩
              case round =>
                obtain ⟨a, ha, rfl, rfl, rfl⟩ := hrel
                by_cases hlta : a < Q
                · have haq : a < q5.length := by rw [← hQ.out]; exact hlta
                  obtain ⟨b6, o6, rfl, hbl6, hcell6⟩ := hr5.open1 (by omega)
                  have hcz := hcell6 a hlta
                  have htk := hide (take_mem haq (1 + y))
                  obtain ⟨z, hz⟩ : ∃ z, z = q5.getD a 0 := ⟨_, rfl⟩
                  rw [← hz] at hcz htk
                  clear hcell6 hz
                  obtain ⟨tt, htt⟩ : ∃ tt, tt = decide (1 + y ∈ q5.take a) := ⟨_, rfl⟩
                  rw [← htt] at htk ⊢
                  clear htt
                  by_cases hzk : z = 1 + y
                  · have hzb : (z == 1 + y) = true := by simpa using hzk
                    cases tt
                    all_goals
                      go_wp2
                      go_roundw
                      case rel => exact ⟨a + 1, by omega, by go_num, by rw [htk.out, hzb]; rfl, by first | trivial | rfl⟩
                      case measure => simp [intOf]; omega
                  · have hzb : (z == 1 + y) = false := by simpa using hzk
                    cases tt
                    all_goals
                      go_wp2
                      go_roundw
                      case rel => exact ⟨a + 1, by omega, by go_num, by rw [htk.out, hzb]; rfl, by first | trivial | rfl⟩
                      case measure => simp [intOf]; omega
                · obtain rfl : a = Q := by omega
                  have htl : decide (1 + y ∈ q5.take a) = decide (1 + y ∈ q5) := by rw [show q5.take a = q5 by rw [hQ.out]; exact List.take_length]
                  rw [htl, hmq.out]
                  clear htl
                  try dsimp only [Bool.and_true, Bool.and_false, Bool.not_true, Bool.not_false, Bool.true_and, Bool.false_and]
                  go_wp2_with fail
                  refine htm.out.mono ?_
                  rintro e w9 ⟨rfl, rfl⟩
                  try simp only [if_true, Bool.false_eq_true, if_false, Nat.add_zero, Bool.and_true, Bool.and_false, Bool.not_true, Bool.not_false]
                  go_wp2
                  go_roundw
                  case rel => exact ⟨j + 1, _, _, _, hb5, _, _, _, by omega, by omega, by go_num, by first | rfl | go_num, by omega, rfl, by simp, by omega, h5, hH5, hT5⟩
                  case measure => simp [intOf]; omega
          | true =>
            go_wp2_with (at_builtin; (refine wpList_append_own _ rfl _ _ 23 rfl wA.heap.size 3 i0 (.int .i64 0) 1 8 Try.underlying23 hi hz0 hz1 hz2 rfl (by decide) _ _ _ rfl (own0.alloc _) ⟨wA.heap.size, 0, none⟩ 2 2 [.int .i64 (1 + y), .int .i64 (1 + y)] rfl rfl (World.news_of_block (heap_alloc_new _ _)) (by intro u hu; simp at hu; subst hu; rfl) (by unfold maxLen; simp) (by simp) (by have := hB0.size; simp <;> omega) ?_); intro v3 w3 own3 hg3 _)
            have hB3 : Below wA.heap.size wA w3 := (hB0.alloc hB0.size _).grown hg3 (by have := hB0.size; simp <;> omega) (fun k hk => (own0.lt k hk).1)
            have own3 : w3.ownsRow wA.heap.size 3 1 v3 ([] ++ [1 + y, 1 + y]).length (([] ++ [1 + y, 1 + y]).map (Value.int .i64)) := own3
            obtain ⟨Aw, cw, rfl, hcw⟩ := own_form own3
            have hcx3 : w3.cell? ⟨b, off + j, none⟩ = some (.bool true) := (hB3.cell (p := ⟨b, off + j, none⟩) hbl).trans (by assumption)
            have hL := hide (held_mem_two (k := 1 + y) [])
            cases q
            all_goals
              have hUB := h1.out.keep hB3
              have hLi2 : ∀ zz ∈ [1 + y, 1 + y], I64 zz := by first | exact hLi.out | (intro z hz; simp at hz; rcases hz with rfl | rfl | rfl <;> first | exact hk.out | exact hxi) | (intro z hz; simp at hz; subst hz; exact hk.out)
              have cN := hide (lNow hUB _ [1 + y, 1 + y] (Rd.of_own own3) hLi2 (by omega) (by omega) (by simp))
              have hfree := free_at (by omega) hH.out hL.out
              replace hfree := hide hfree
              have hTq := hide hT.out
              have hbB := hide hUB.below
              clear hUB h1 hH hT
              go_wp2_with fail
              refine cN.out.mono ?_
              rintro e w5 ⟨hb5, A5, n5, q5, rfl, k5, l5, r5, h5, C5⟩
              have hmq := free_mem k5 hk.out hfree.out
              have hH5 := hide (now_at (by omega) hL.out)
              have hT5 := times_at hmq hTq.out (by omega)
              simp only [Bool.not_true, Bool.not_false, Bool.and_true, Bool.and_false, Bool.true_and, Bool.false_and, if_true, if_false, Bool.false_eq_true, Nat.add_zero] at hT5 hmq
              replace hmq := hide hmq
              replace hT5 := hide hT5
              have hra5 := hide (hr.out.below h5.below (Nat.le_refl _))
              have htm := uTimes_any w5 u hb5 tb _ _ _ _ (1 + y) hk.out h5.at'
              rw [hT5.out] at htm
              replace htm := hide htm
              replace h5 := hide h5
              obtain ⟨Q, hQ⟩ : ∃ Q, Q = q5.length := ⟨_, rfl⟩
              rw [← hQ] at r5 l5 h5
              rw [← hQ]
              have hr5 := Rd.of_own r5
              replace hQ := hide hQ
              obtain ⟨bl, ol, hbo, hbl5, hcl⟩ := hra5.out.openB (by omega)
              simp only [Option.some.injEq, Addr.mk.injEq, and_true] at hbo
              obtain ⟨rfl, rfl⟩ := hbo
              have hcl5 := hcl j hlt
              rw [← htj.out] at hcl5
              clear hcl r5 k5 C5 cN hfree hTq
              go_wp2
              go_loopw [13, 64] (fun told i wr => ∃ a : Nat, a ≤ Q ∧ i = .int .i64 a ∧ told = .bool (decide (1 + y ∈ q5.take a)) ∧ wr = w5)
                (fun _ i _ => Q - (intOf i).toNat)
              case atStart => exact ⟨0, Nat.zero_le _, rfl, by simp, rfl⟩
              case round =>
                obtain ⟨a, ha, rfl, rfl, rfl⟩ := hrel
                by_cases hlta : a < Q
                · have haq : a < q5.length := by rw [← hQ.out]; exact hlta
                  obtain ⟨b6, o6, rfl, hbl6, hcell6⟩ := hr5.open1 (by omega)
                  have hcz := hcell6 a hlta
                  have htk := hide (take_mem haq (1 + y))
                  obtain ⟨z, hz⟩ : ∃ z, z = q5.getD a 0 := ⟨_, rfl⟩
                  rw [← hz] at hcz htk
                  clear hcell6 hz
                  obtain ⟨tt, htt⟩ : ∃ tt, tt = decide (1 + y ∈ q5.take a) := ⟨_, rfl⟩
                  rw [← htt] at htk ⊢
                  clear htt
                  by_cases hzk : z = 1 + y
                  · have hzb : (z == 1 + y) = true := by simpa using hzk
                    cases tt
                    all_goals
                      go_wp2
                      go_roundw
                      case rel => exact ⟨a + 1, by omega, by go_num, by rw [htk.out, hzb]; rfl, by first | trivial | rfl⟩
                      case measure => simp [intOf]; omega
                  · have hzb : (z == 1 + y) = false := by simpa using hzk
                    cases tt
                    all_goals
                      go_wp2
                      go_roundw
                      case rel => exact ⟨a + 1, by omega, by go_num, by rw [htk.out, hzb]; rfl, by first | trivial | rfl⟩
                      case measure => simp [intOf]; omega
                · obtain rfl : a = Q := by omega
                  have htl : decide (1 + y ∈ q5.take a) = decide (1 + y ∈ q5) := by rw [show q5.take a = q5 by rw [hQ.out]; exact List.take_length]
                  rw [htl, hmq.out]
                  clear htl
                  try dsimp only [Bool.and_true, Bool.and_false, Bool.not_true, Bool.not_false, Bool.true_and, Bool.false_and]
                  go_wp2_with fail
                  refine htm.out.mono ?_
                  rintro e w9 ⟨rfl, rfl⟩
                  try simp only [if_true, Bool.false_eq_true, if_false, Nat.add_zero, Bool.and_true, Bool.and_false, Bool.not_true, Bool.not_false]
                  go_wp2
                  go_roundw
                  case rel => exact ⟨j + 1, _, _, _, hb5, _, _, _, by omega, by omega, by go_num, by first | rfl | go_num, by omega, rfl, by simp, by omega, h5, hH5, hT5⟩
                  case measure => simp [intOf]; omega
      · have hx : 60 ≤ (j : Int) := by omega
        have hbd := hide h1.out.below
        have ca := hide (awake12_any wA)
        clear h1 hH hT
        go_wp2_with fail
        refine (ca.out).mono ?_
        rintro e w9 ⟨rfl, hb9⟩
        go_wp2
        go_ret
        exact ⟨rfl, hbd.out.trans (hb9.mono hbd.out.size)⟩
    · have hx : (N : Int) ≤ j := by omega
      have hbd := hide h1.out.below
      have ca := hide (awake12_any wA)
      clear h1 hH hT
      go_wp2_with fail
      refine (ca.out).mono ?_
      rintro e w9 ⟨rfl, hb9⟩
      go_wp2
      go_ret
      exact ⟨rfl, hbd.out.trans (hb9.mono hbd.out.size)⟩
end Go.Proofs.Ytfecbgijpbieaaa
