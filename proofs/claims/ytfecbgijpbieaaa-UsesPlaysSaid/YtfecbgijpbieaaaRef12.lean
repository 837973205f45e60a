/-
  tableauref12: Has, Set.
-/
import Derived.Test.YtfecbgijpbieaaaAppend
import Derived.Test.YtfecbgijpbieaaaSorted
import Derived.Test.YtfecbgijpbieaaaHeap
import Derived.Deep.QuietTactic
import Derived.BigQuiet
import Derived.Deep.RegionHeld3
namespace Go.Proofs.Ytfecbgijpbieaaa
open Go.RowKit

theorem rHas12_any (w : World) (v : Value) (xs : List Int) (d : Int) (hr : Rd w v 1 xs.length (xs.map (Value.int .i64))) (hl : xs.length ≤ 1000000) :
    Calls Try.prog 20 #[v, .int .i64 d] w fun e w' => e = .returned (.bool (decide (d ∈ xs))) ∧ w = w' := by
  have hr0 := hr
  obtain ⟨_, A, c, rfl, hc, _⟩ := hr0
  obtain ⟨n, hn⟩ : ∃ n, n = xs.length := ⟨_, rfl⟩
  rw [← hn] at hr hc hl ⊢
  replace hn := hide hn
  go_enter Try.func20, Try.ntmps20
  go_wp2
  go_loopw [5] (fun i wr => ∃ k : Nat, k ≤ n ∧ i = .int .i64 k ∧ Hid (decide (d ∈ xs.take k) = false) ∧ wr = w)
    (fun i _ => n - (intOf i).toNat)
  case atStart => exact ⟨0, Nat.zero_le _, rfl, by simp [hide], rfl⟩
  case round =>
    obtain ⟨k, hk, rfl, hT, rfl⟩ := hrel
    by_cases hlt : k < n
    · obtain ⟨b, off, rfl, hb1, hcell⟩ := hr.open1 (by omega)
      have hcx := hcell k hlt
      have hkl : k < xs.length := by rw [← hn.out]; exact hlt
      have e : xs.getD k 0 = xs[k] := by simp [List.getD, hkl]
      have htk := List.take_succ_eq_append_getElem hkl
      rw [← e] at htk
      have hin : xs.getD k 0 ∈ xs := by rw [e]; exact List.getElem_mem hkl
      replace htk := hide htk
      replace hin := hide hin
      obtain ⟨x, hx⟩ : ∃ x, x = xs.getD k 0 := ⟨_, rfl⟩
      rw [← hx] at hcx htk hin
      clear hx e hcell hkl hr
      by_cases hxd : x = d
      · have hb : (x == d) = true := by simpa using hxd
        subst hxd
        go_wp2
        go_ret
        have hd := decide_eq_true hin.out
        exact ⟨by rw [hd]; rfl, rfl⟩
      · have hb : (x == d) = false := by simpa using hxd
        go_wp2
        go_roundw
        case rel => exact ⟨k + 1, by omega, by go_num, by
          have := hT.out
          show Hid _
          refine hide ?_
          rw [htk.out]
          simp only [decide_eq_false_iff_not] at this ⊢
          simp [this, Ne.symm hxd], by first | trivial | rfl⟩
        case measure => simp [intOf]; omega
    · obtain rfl : k = n := by omega
      have hT2 := hT.out
      rw [show xs.take k = xs by rw [hn.out]; exact List.take_length] at hT2
      replace hT2 := hide hT2
      go_wp2
      go_ret
      exact ⟨by rw [hT2.out]; rfl, rfl⟩

/-- A cell of a row of our own is stored into. -/
theorem own_set {w : World} {base g n c i : Nat} {e : TypeId} {cs : List Value} (h : w.ownsRow base e 1 (.slice (some ⟨g, 0, none⟩) n c) n cs) (u : Value) :
    (w.setCell ⟨g, i, none⟩ u).ownsRow base e 1 (.slice (some ⟨g, 0, none⟩) n c) n (cs.set i u) := by
  refine ⟨by simpa using h.1, ?_⟩
  rcases h.2 with ⟨h2, _⟩ | ⟨g', cap, cur, hv, hb, hgb, r1, r2, r3, r4⟩
  · cases h2
  · simp only [Value.slice.injEq, Option.some.injEq, Addr.mk.injEq, and_true] at hv
    obtain ⟨rfl, _, rfl⟩ := hv
    have hs := heap_setCell_same w g i _ _ u hgb
    refine .inr ⟨g, c, _, rfl, hb, hs, r1, r2, by simpa using r3, ?_⟩
    rw [Nat.mul_one] at r4 ⊢
    rw [← r4]
    simp [List.take_set]
theorem own_room {w : World} {base g n c i : Nat} {e : TypeId} {cs : List Value} (h : w.ownsRow base e 1 (.slice (some ⟨g, 0, none⟩) n c) n cs) (hi : i < n) :
    w.cell? ⟨g, i, none⟩ = cs[i]? ∧ w.frozen? ⟨g, i, none⟩ = false := by
  rcases h.2 with ⟨h2, _⟩ | ⟨g', cap, cur, hv, hb, hgb, r1, r2, r3, r4⟩
  · cases h2
  · simp only [Value.slice.injEq, Option.some.injEq, Addr.mk.injEq, and_true] at hv
    obtain ⟨rfl, _, rfl⟩ := hv
    refine ⟨?_, by simp [World.frozen?, hgb]⟩
    rw [cell_of_row w g i _ _ _ hgb, ← r4, Nat.mul_one, List.getElem?_take_of_lt hi, Array.getElem?_toList]
theorem own_drew {w : World} {base n : Nat} {e : TypeId} {v : Value} {cs : List Value} (h : w.ownsRow base e 1 v n cs) (q : Nat) : (w.drewN q).ownsRow base e 1 v n cs := h

theorem own_addr {w : World} {base n c : Nat} {e : TypeId} {A : Option Addr} {cs : List Value} (h : w.ownsRow base e 1 (.slice A n c) n cs) (hn : 0 < n) : ∃ g, A = some ⟨g, 0, none⟩ := by
  rcases h.2 with ⟨_, h2⟩ | ⟨g', cap, cur, hv, _⟩
  · omega
  · simp only [Value.slice.injEq] at hv
    exact ⟨g', hv.1⟩
theorem own_ge {w : World} {base n c g : Nat} {e : TypeId} {cs : List Value} (h : w.ownsRow base e 1 (.slice (some ⟨g, 0, none⟩) n c) n cs) : base ≤ g := (h.lt g rfl).1
/-- One put into a rising list. -/
theorem rising_ins {A B : List Int} {x : Int} (h : (A ++ B).Pairwise (· < ·)) (hA : ∀ a ∈ A, a < x) (hB : ∀ b ∈ B, x < b) : (A ++ x :: B).Pairwise (· < ·) := by
  rw [List.pairwise_append] at h ⊢
  refine ⟨h.1, List.pairwise_cons.2 ⟨hB, h.2.1⟩, fun a ha b hb => ?_⟩
  rcases List.mem_cons.1 hb with rfl | hb
  · exact hA a ha
  · exact h.2.2 a ha b hb

/-- Which of the first k numbers are in the set. -/
def SetK (xs : List Int) (k : Nat) (m : List Int) : Prop := m.Pairwise (· < ·) ∧ m.length ≤ k ∧ ∀ x, x ∈ m ↔ x ∈ xs.take k ∧ 1 ≤ x
theorem SetK.start (xs : List Int) : SetK xs 0 [] := ⟨List.Pairwise.nil, Nat.le_refl _, by simp⟩
theorem SetK.skip {xs m : List Int} {k : Nat} (h : SetK xs k m) (hk : k < xs.length) (hx : xs.getD k 0 < 1 ∨ xs.getD k 0 ∈ m) : SetK xs (k + 1) m := by
  have e : xs.take (k + 1) = xs.take k ++ [xs.getD k 0] := by
    rw [List.take_succ_eq_append_getElem hk]
    simp [List.getD, hk]
  refine ⟨h.1, by have := h.2.1; omega, fun y => ?_⟩
  rw [h.2.2 y, e, List.mem_append, List.mem_singleton]
  constructor
  · rintro ⟨a, b⟩; exact ⟨.inl a, b⟩
  · rintro ⟨a | a, b⟩
    · exact ⟨a, b⟩
    · rcases hx with hx | hx
      · omega
      · rw [← a] at hx
        exact (h.2.2 y).1 hx
theorem SetK.put {xs A B : List Int} {k : Nat} (h : SetK xs k (A ++ B)) (hk : k < xs.length) (hx : 1 ≤ xs.getD k 0) (hA : ∀ a ∈ A, a < xs.getD k 0) (hB : ∀ b ∈ B, xs.getD k 0 < b) : SetK xs (k + 1) (A ++ xs.getD k 0 :: B) := by
  have e : xs.take (k + 1) = xs.take k ++ [xs.getD k 0] := by
    rw [List.take_succ_eq_append_getElem hk]
    simp [List.getD, hk]
  refine ⟨rising_ins h.1 hA hB, by have := h.2.1; simp at this ⊢; omega, fun y => ?_⟩
  have h1 := h.2.2 y
  rw [List.mem_append] at h1
  rw [e, List.mem_append, List.mem_cons, List.mem_append, List.mem_singleton]
  constructor
  · rintro (a | a | a)
    · have := h1.1 (.inl a); exact ⟨.inl this.1, this.2⟩
    · rw [a]; exact ⟨.inr rfl, hx⟩
    · have := h1.1 (.inr a); exact ⟨.inl this.1, this.2⟩
  · rintro ⟨a | a, b⟩
    · rcases h1.2 ⟨a, b⟩ with c | c
      · exact .inl c
      · exact .inr (.inr c)
    · exact .inr (.inl a)


set_option maxRecDepth 100000 in
set_option maxHeartbeats 2000000 in
theorem rSet12_any (w : World) (v : Value) (xs : List Int) (hr : Rd w v 1 xs.length (xs.map (Value.int .i64))) (hl : xs.length ≤ 1000) :
    Calls Try.prog 19 #[v] w fun e w' => ∃ v' m, e = .returned v' ∧ SetK xs xs.length m ∧ w'.ownsRow w.heap.size 3 1 v' m.length (m.map (Value.int .i64)) ∧ Below w.heap.size w w' := by
  obtain ⟨i0, hi, hz0, hz1, hz2⟩ := info_parts Try.infoIntA
  have hr0 := hr
  obtain ⟨_, A, c, rfl, hc, _⟩ := hr0
  obtain ⟨n, hn⟩ : ∃ n, n = xs.length := ⟨_, rfl⟩
  rw [← hn] at hr hc hl ⊢
  replace hn := hide hn
  replace hr := hide hr
  go_enter Try.func19, Try.ntmps19
  go_wp2
  go_loopw [3, 4] (fun u i wr => ∃ (k : Nat) (m : List Int), k ≤ n ∧ i = .int .i64 k ∧ Hid (SetK xs k m) ∧ Hid (wr.ownsRow w.heap.size 3 1 u m.length (m.map (Value.int .i64))) ∧ Hid (Below w.heap.size w wr))
    (fun _ i _ => n - (intOf i).toNat)
  case atStart => exact ⟨0, [], Nat.zero_le _, rfl, SetK.start xs, World.ownsRow_nil _ _ _ _, Below.refl _ _⟩
  case round =>
    obtain ⟨k, m, hk, rfl, hS, hown, hB⟩ := hrel
    obtain ⟨wA, hA⟩ : ∃ wA, wA = wr := ⟨_, rfl⟩
    subst hA
    obtain ⟨Am, cm, rfl, hcm⟩ := own_form hown.out
    by_cases hlt : k < n
    · have hra := hr.out.below hB.out (Nat.le_refl _)
      obtain ⟨b, off, rfl, hb1, hcell⟩ := hra.open1 (by omega)
      have hcx := hcell k hlt
      have hkl : k < xs.length := by rw [← hn.out]; exact hlt
      have hbn : b ≠ 0 ∨ b = 0 := by omega
      by_cases h1 : xs.getD k 0 < 1
      · have hS := hide (hS.out.skip hkl (.inl h1))
        obtain ⟨x, hx⟩ : ∃ x, x = xs.getD k 0 := ⟨_, rfl⟩
        rw [← hx] at hcx h1
        clear hcell hx hra hbn
        go_wp2
        go_roundw
        case rel => exact ⟨k + 1, m, by omega, by go_num, hS, hown, hB⟩
        case measure => simp [intOf]; omega
      · have h1' : 1 ≤ xs.getD k 0 := by omega
        have hml := hS.out.2.1
        have cH := rHas12_any wA _ m (xs.getD k 0) (Rd.of_own hown.out) (by omega)
        by_cases hin : xs.getD k 0 ∈ m
        · have hS := hide (hS.out.skip hkl (.inr hin))
          rw [decide_eq_true hin] at cH
          obtain ⟨x, hx⟩ : ∃ x, x = xs.getD k 0 := ⟨_, rfl⟩
          rw [← hx] at hcx h1' cH
          replace cH := hide cH
          clear hcell hx hra hbn h1 hin
          go_wp2_with fail
          refine cH.out.mono ?_
          rintro e w' ⟨rfl, rfl⟩
          go_wp2
          go_roundw
          case rel => exact ⟨k + 1, m, by omega, by go_num, hS, hown, hB⟩
          case measure => simp [intOf]; omega
        · rw [decide_eq_false hin] at cH
          have hput := hide (fun (A B : List Int) (e : m = A ++ B) => SetK.put (A := A) (B := B) (e ▸ hS.out) hkl h1')
          obtain ⟨x, hx⟩ : ∃ x, x = xs.getD k 0 := ⟨_, rfl⟩
          rw [← hx] at hcx h1' cH hin hput
          replace cH := hide cH
          replace hin := hide hin
          have hB0 := hB.out
          have own0 := hown.out
          clear hcell hx hra hbn h1
          go_wp2_with (first
            | (go_at_call 20; refine cH.out.mono ?_; rintro e w' ⟨rfl, rfl⟩)
            | (at_builtin; refine wpList_append_own _ rfl _ _ 23 rfl w.heap.size 3 i0 (.int .i64 0) 1 8 Try.underlying23 hi hz0 hz1 hz2 rfl (by decide) _ _ _ rfl (own0.alloc _) ⟨wA.heap.size, 0, none⟩ 1 1 [.int .i64 x] rfl rfl (cell_one_new _ _ _) (by intro u hu; simp at hu; subst hu; rfl) (by unfold maxLen; omega) (by omega) (by have := hB0.size; simp <;> omega) ?_; intro v2 w2 own2 hg2 _; have hB2 : Below w.heap.size w w2 := (hB0.alloc hB0.size _).grown hg2 (by have := hB0.size; simp <;> omega) (fun k hk => (own0.lt k hk).1); obtain ⟨A2, c2, rfl, hc2⟩ := own_form own2))
          obtain ⟨g, rfl⟩ := own_addr own2 (by omega)
          obtain ⟨M, hM⟩ : ∃ M, M = m.length := ⟨_, rfl⟩
          rw [← hM] at own2 hc2 hml ⊢
          replace hM := hide hM
          replace own2 := hide own2
          replace hB2 := hide hB2
          clear hB0 own0 hg2 hown hB cH hcx
          go_wp2
          go_loopw [5] (fun kk wr => ∃ (p : Nat) (A B : List Int), Hid (m = A ++ B) ∧ kk = .int .i64 p ∧ Hid (p = A.length) ∧ Hid (∀ b ∈ B, x < b) ∧ Hid (wr.ownsRow w.heap.size 3 1 (.slice (some ⟨g, 0, none⟩) (M + 1) c2) (M + 1) ((A ++ x :: B).map (Value.int .i64))) ∧ Hid (Below w.heap.size w wr))
            (fun kk _ => (intOf kk).toNat)
          case atStart => exact ⟨M, m, [], hide (by simp), rfl, hM, hide (by simp), hide (by simpa using own2.out), hB2⟩
          clear own2 hB2
          case round =>
            obtain ⟨p, A, B, hAB, rfl, hp, hBx, hrow, hB2⟩ := hrel
            obtain ⟨wD, hD⟩ : ∃ wD, wD = wr := ⟨_, rfl⟩
            subst hD
            have hlen : A.length + B.length = M := by rw [hM.out, hAB.out]; simp
            replace hp := hp.out
            rw [← hp] at hlen
            rcases (show p = 0 ∨ 1 ≤ p by omega) with h0 | h0
            · have hd : decide ((0 : Int) < (p : Int)) = false := by subst h0; rfl
              have hd2 : decide (0 < p) = false := by subst h0; rfl
              have hA0 : A = [] := List.eq_nil_of_length_eq_zero (by omega)
              have hend := hide (hput.out A B hAB.out (by rw [hA0]; simp) hBx.out)
              have hlenE : Hid (M + 1 = (A ++ x :: B).length) := hide (by simp; omega)
              replace hp := hide hp
              clear h0 hA0 hlen
              go_wp2
              go_quiet (fail)
              all_goals go_wp2
              go_roundw
              case rel => exact ⟨k + 1, A ++ x :: B, by omega, by go_num, hend, hide (by rw [← hlenE.out]; exact own_drew hrow.out _), hide (below_drewN hB2.out _)⟩
              case measure => simp [intOf]; omega
            · obtain ⟨A', a, hAa⟩ : ∃ A' a, A = A' ++ [a] := ⟨A.dropLast, A.getLast (by intro e; rw [e] at hp; simp at hp; omega), (List.dropLast_concat_getLast _).symm⟩
              have hpl : A'.length = p - 1 := by rw [hp, hAa]; simp
              have hd : (0 : Int) < (p : Int) := by omega
              have hd2 : decide (0 < p) = true := by simp; omega
              have hj1 : (0 : Int) ≤ (p : Int) - 1 := by omega
              have hj2 : (p : Int) - 1 < ((M : Int) + 1) := by omega
              have hj3 : ((p : Int) - 1).toNat = p - 1 := by omega
              have hj4 : (p : Int) < (M : Int) + 1 := by omega
              have hgx : ((A ++ x :: B).map (Value.int .i64))[p]? = some (.int .i64 x) := by rw [hp]; simp
              have hga : ((A ++ x :: B).map (Value.int .i64))[p - 1]? = some (.int .i64 a) := by rw [hAa, ← hpl]; simp
              obtain ⟨rx, fx⟩ := own_room hrow.out (i := p) (by omega)
              obtain ⟨ra, fa⟩ := own_room hrow.out (i := p - 1) (by omega)
              rw [hgx] at rx
              rw [hga] at ra
              by_cases hxa : x < a
              · have hdx : decide (x < a) = true := decide_eq_true hxa
                replace hp := hide hp
                replace hpl := hide hpl
                replace hAa := hide hAa
                replace hlen := hide hlen
                go_wp2
                go_quiet (fail)
                all_goals go_wp2
                have hrow9 := own_drew hrow.out nq
                have hB9 : Hid (Below w.heap.size w (wD.drewN nq)) := below_drewN hB2.out nq
                clear rx ra fx fa hrow hB2
                generalize wD.drewN nq = w9 at hrow9 hB9
                obtain ⟨rx, fx⟩ := own_room hrow9 (i := p) (by omega)
                obtain ⟨ra, fa⟩ := own_room hrow9 (i := p - 1) (by omega)
                rw [hgx] at rx
                rw [hga] at ra
                have rs : ∀ u, (w9.setCell ⟨g, p, none⟩ u).cell? ⟨g, p - 1, none⟩ = some (.int .i64 a) := fun u =>
                  (World.cell?_setCell_other w9 ⟨g, p, none⟩ ⟨g, p - 1, none⟩ u (by intro e; simp at e <;> omega)).trans ra
                replace hrow9 := hide hrow9
                clear hgx hga
                go_region
                all_goals
                  go_wp2
                  go_roundw
                  case rel =>
                    refine ⟨p - 1, A', a :: B, hide (by rw [hAB.out, hAa.out]; simp), by first | go_num | (congr 1; omega), hide hpl.out.symm, hide ?_, hide ?_, hide ?_⟩
                    · intro b hb
                      rcases List.mem_cons.1 hb with rfl | hb
                      · exact hxa
                      · exact hBx.out b hb
                    · have h9 := own_set (i := p - 1) (own_set (i := p) hrow9.out (.int .i64 a)) (.int .i64 x)
                      have e9 : (((A ++ x :: B).map (Value.int .i64)).set p (.int .i64 a)).set (p - 1) (.int .i64 x) = (A' ++ x :: a :: B).map (Value.int .i64) := by
                        have hpp : p = A'.length + 1 := by have := hpl.out; omega
                        rw [hAa.out, hpp]
                        simp
                      rw [e9] at h9
                      exact h9
                    · have := hB9.out
                      exact below_drewN ((this.setCell (p := ⟨g, p, none⟩) (own_ge hrow9.out) _).setCell (p := ⟨g, p - 1, none⟩) (own_ge hrow9.out) _) 1
                  case measure => simp [intOf]; omega
              · have hdx : decide (x < a) = false := decide_eq_false hxa
                have hax : ∀ b ∈ A, b < x := by
                  intro b hb
                  have hrs := hS.out.1
                  rw [hAB.out, hAa] at hrs
                  have hna : a ≠ x := by
                    intro e
                    apply hin.out
                    rw [hAB.out, hAa, e]
                    simp
                  rw [hAa] at hb
                  rcases List.mem_append.1 hb with hb | hb
                  · rw [List.append_assoc, List.pairwise_append] at hrs
                    have := hrs.2.2 b hb a (by simp)
                    omega
                  · simp at hb; omega
                have hend := hide (hput.out A B hAB.out hax hBx.out)
                have hlenE : Hid (M + 1 = (A ++ x :: B).length) := hide (by simp; omega)
                replace hp := hide hp
                clear hax hgx hga hpl hAa hlen
                go_wp2
                go_quiet (fail)
                all_goals go_wp2
                go_roundw
                case rel => exact ⟨k + 1, A ++ x :: B, by omega, by go_num, hend, hide (by rw [← hlenE.out]; exact own_drew hrow.out _), hide (below_drewN hB2.out _)⟩
                case measure => simp [intOf]; omega
    · obtain rfl : k = n := by omega
      go_wp2
      go_ret
      exact ⟨_, m, rfl, hS.out, hown.out, hB.out⟩

theorem rset_one {xs m l : List Int} (h : SetK xs xs.length m) (hl : l.Pairwise (· < ·)) (hm : ∀ x, x ∈ l ↔ 1 ≤ x ∧ x ∈ xs) : m = l :=
  rising_one h.1 hl fun x => by
    rw [h.2.2 x, List.take_length, hm x]
    exact and_comm
end Go.Proofs.Ytfecbgijpbieaaa
