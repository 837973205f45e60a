/-
  Layer 12's awake; the law UsesNone, as a walk.
-/
import Derived.Test.YtfecbgijpbieaaaUses2
import Derived.Test.YtfecbgijpbieaaaLaw00
namespace Go.Proofs.Ytfecbgijpbieaaa
open Go.RowKit

/-- Uses that a call has laid since W. -/
structure UseL (W : World) (u tb hb nh nt : Nat) (H : Int → Bool) (T : Int → Option Int) (w : World) : Prop where
  at' : UsesAt w u hb tb nh nt H T
  below : Below W.heap.size W w
  uge : W.heap.size ≤ u
  tge : W.heap.size ≤ tb
  hge : W.heap.size ≤ hb

section
variable {W w w' : World} {u tb hb nh nt : Nat} {H : Int → Bool} {T : Int → Option Int}

theorem UseL.keep (h : UseL W u tb hb nh nt H T w) (hb' : Below w.heap.size w w') : UseL W u tb hb nh nt H T w' :=
  ⟨h.at'.below hb', h.below.trans (hb'.mono h.below.size), h.uge, h.tge, h.hge⟩

theorem lNew (W : World) : Calls Try.prog 7 #[] W fun e w' => ∃ u tb hb, e = .returned (.pointer (some ⟨u, 0, none⟩)) ∧ UseL W u tb hb 0 0 (fun _ => false) (fun _ => none) w' := by
  refine (uNew_any W).mono ?_
  rintro e w' ⟨u, hb, tb, rfl, h, hB, h1, h2, h3⟩
  exact ⟨u, tb, hb, rfl, h, hB, h1, h3, h2⟩

/-- A call of Now, the list by its cells in the world at hand. -/
theorem lNow (h : UseL W u tb hb nh nt H T w) (v : Value) (l : List Int) (hr : Rd w v 1 l.length (l.map (Value.int .i64))) (hi : ∀ x ∈ l, I64 x) (hnh : nh ≤ 100000) (hnt : nt ≤ 100000) (hl : l.length ≤ 100000) :
    Calls Try.prog 8 #[.pointer (some ⟨u, 0, none⟩), v] w fun e w' => ∃ hb' A c q, e = .returned (.slice A q.length c) ∧ KeysOf (boolM (freeH H l)) q ∧ q.length ≤ nh ∧ w'.ownsRow w.heap.size 3 1 (.slice A q.length c) q.length (q.map (Value.int .i64)) ∧
      UseL W u tb hb' l.length (nt + q.length) (nowH l) (nowT T q) w' ∧ Chg (fun b => b = u ∨ b = tb) w w' := by
  refine (uNow_any w u hb tb nh nt H T v l hr hi h.at' hnh hnt hl).mono ?_
  rintro e w' ⟨hb', v', q, rfl, hk, hq, hr', h', hC, hge⟩
  obtain ⟨A, c, rfl, _⟩ := own_form hr'
  exact ⟨hb', A, c, q, rfl, hk, hq, hr', ⟨h', h.below.trans (hC.below h.below.size fun b hb => by rcases hb with rfl | rfl; exact h.uge; exact h.tge), h.uge, h.tge, Nat.le_trans h.below.size hge⟩, hC⟩
theorem lHeld (h : UseL W u tb hb nh nt H T w) (hn : nh ≤ 1000000) :
    Calls Try.prog 14 #[.pointer (some ⟨u, 0, none⟩)] w fun e w' => ∃ A c l, e = .returned (.slice A l.length c) ∧ KeysOf (boolM H) l ∧ l.length ≤ nh ∧ w'.ownsRow w.heap.size 3 1 (.slice A l.length c) l.length (l.map (Value.int .i64)) ∧ UseL W u tb hb nh nt H T w' ∧ Below w.heap.size w w' := by
  refine (uHeld_any w u hb tb nh nt H T h.at' hn).mono ?_
  rintro e w' ⟨v, l, rfl, hk, hl, hr, hB⟩
  obtain ⟨A, c, rfl, _⟩ := own_form hr
  exact ⟨A, c, l, rfl, hk, hl, hr, h.keep hB, hB⟩
/-- A row laid by an earlier call stays. -/
theorem row_stays {base n : Nat} {v : Value} {cs : List Value} (hr : w.ownsRow base 3 1 v n cs) (hC : Chg (fun b => b = u ∨ b = tb) w w') (hu : u < base) (ht : tb < base) : w'.ownsRow base 3 1 v n cs :=
  own_block hr hC fun b hb => by rcases hb with rfl | rfl <;> assumption
theorem row_below {base n : Nat} {v : Value} {cs : List Value} (hr : w.ownsRow base 3 1 v n cs) (hB : Below w.heap.size w w') : w'.ownsRow base 3 1 v n cs :=
  own_block hr (Chg.of_below hB (fun _ => False)) fun _ hb => hb.elim
end

theorem keysOf_mem {H : Int → Bool} {l : List Int} (h : KeysOf (boolM H) l) (x : Int) : x ∈ l ↔ I64 x ∧ H x = true := by
  rw [h.2 x]
  unfold boolM
  cases H x <;> simp
theorem keysOf_nil {H : Int → Bool} {l : List Int} (h : KeysOf (boolM H) l) (hH : ∀ x, I64 x → H x = false) : l = [] := by
  cases l with
  | nil => rfl
  | cons x r =>
    have := (keysOf_mem h x).1 (List.mem_cons_self ..)
    rw [hH x this.1] at this
    cases this.2
theorem keysOf_eq {H : Int → Bool} {l m : List Int} (h : KeysOf (boolM H) l) (hm : m.Pairwise (· < ·)) (hH : ∀ x, x ∈ m ↔ I64 x ∧ H x = true) : l = m :=
  rising_one h.1 hm fun x => (keysOf_mem h x).trans (hH x).symm
theorem keysOf_congr {H H' : Int → Bool} {l : List Int} (h : KeysOf (boolM H) l) (hH : ∀ x, I64 x → H x = H' x) : KeysOf (boolM H') l :=
  ⟨h.1, fun x => by
    rw [h.2 x]
    constructor
    · rintro ⟨a, b⟩; exact ⟨a, by unfold boolM at b ⊢; rw [← hH x a]; exact b⟩
    · rintro ⟨a, b⟩; exact ⟨a, by unfold boolM at b ⊢; rw [hH x a]; exact b⟩⟩
theorem i64_small {x : Int} (h : -1000 ≤ x ∧ x ≤ 1000) : I64 x := by unfold I64; omega

set_option maxRecDepth 100000 in
set_option maxHeartbeats 1000000 in
theorem awake12_any (W : World) : Calls Try.prog 10 #[] W fun e w' => e = .returned (.bool true) ∧ Below W.heap.size W w' := by
  have hN := hide (lNew W)
  go_enter Try.func10, Try.ntmps10
  go_wp2_with fail
  refine (hN.out).mono ?_
  rintro e w1 ⟨u, tb, hb, rfl, h1⟩
  have b1 : Below w1.heap.size w1 (w1.alloc (.cells #[.int .i64 3, .int .i64 5] 3)) := (Below.refl _ _).alloc (Nat.le_refl _) _
  have c1 := hide (lNow (h1.keep b1) (.slice (some ⟨w1.heap.size, 0, none⟩) 2 2) [3, 5] (Rd.lit w1 [.int .i64 3, .int .i64 5] 3 2 rfl (by unfold maxLen; omega)) (by intro x hx; simp at hx; exact i64_small (by omega)) (by omega) (by omega) (by simp))
  clear h1 b1
  go_wp2_with fail
  refine (c1.out).mono ?_
  rintro e w2 ⟨hb2, A2, n2, q2, rfl, k2, l2, r2, h2, C2⟩
  have e2 : q2 = [] := keysOf_nil k2 (fun x _ => rfl)
  subst e2
  have b3 : Below w2.heap.size w2 (w2.alloc (.cells #[.int .i64 5] 3)) := (Below.refl _ _).alloc (Nat.le_refl _) _
  have c3 := hide (lNow (h2.keep b3) (.slice (some ⟨w2.heap.size, 0, none⟩) 1 1) [5] (Rd.lit w2 [.int .i64 5] 3 1 rfl (by unfold maxLen; omega)) (by intro x hx; simp at hx; exact i64_small (by omega)) (by simp) (by simp) (by simp))
  clear h2 b3 k2 l2 r2 C2 c1
  go_wp2_with fail
  refine (c3.out).mono ?_
  rintro e w4 ⟨hb4, A4, n4, q4, rfl, k4, l4, r4, h4, C4⟩
  have e4 : q4 = [3] := keysOf_eq k4 (by simp) fun x => by
    unfold freeH nowH
    simp
    constructor
    · rintro rfl; exact ⟨i64_small (by omega), by omega⟩
    · rintro ⟨_, ⟨_, hx⟩, hn⟩; omega
  subst e4
  obtain ⟨b, off, rfl, hlt, hcell⟩ := (Rd.of_own r4).open1 (by simp)
  have hc0 := hcell 0 (by simp)
  rw [Nat.add_zero] at hc0
  have c5 := uTimes_any w4 u hb4 tb _ _ _ _ 3 (i64_small (by omega)) h4.at'
  rw [show (nowT (nowT (fun _ => none) []) [3] 3).getD 0 = 1 by simp [nowT, wrap64]] at c5
  replace c5 := hide c5
  have hbd := h4.below
  clear h4 C4 r4 l4 k4 hcell c3
  dsimp only [List.length_cons, List.length_nil, Nat.zero_add, List.getD_cons_zero] at hc0 ⊢
  go_wp2_with fail
  refine c5.out.mono ?_
  rintro e w5 ⟨rfl, rfl⟩
  go_wp2
  go_ret
  exact ⟨rfl, hbd⟩
end Go.Proofs.Ytfecbgijpbieaaa
