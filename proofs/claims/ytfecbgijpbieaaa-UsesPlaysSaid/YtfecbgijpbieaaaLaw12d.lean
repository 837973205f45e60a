/-
  The law UsesPlays, as a walk.
-/
import Derived.Test.YtfecbgijpbieaaaLaw12
import Derived.Test.YtfecbgijpbieaaaRef12b
import Derived.Test.YtfecbgijpbieaaaOpenL
import Derived.Deep.RegionWith
namespace Go.Proofs.Ytfecbgijpbieaaa
open Go.RowKit

/-- The uses and the reference's, beside one another. -/
structure DuoU (W : World) (b0 u tb hb nh nt : Nat) (H : Int → Bool) (T : Int → Option Int) (q : Nat) (vL vT : Value) (L Told : List Int) (w : World) : Prop where
  use : UseL W u tb hb nh nt H T w
  ref : RefU w q b0 vL vT L Told
  ub : u < b0
  tb' : tb < b0
  Wb : W.heap.size ≤ b0
  bw : b0 ≤ w.heap.size

section
variable {W w w' : World} {b0 u tb hb nh nt : Nat} {H : Int → Bool} {T : Int → Option Int} {q : Nat} {vL vT : Value} {L Told : List Int}
theorem DuoU.keep (h : DuoU W b0 u tb hb nh nt H T q vL vT L Told w) (hB : Below w.heap.size w w') : DuoU W b0 u tb hb nh nt H T q vL vT L Told w' :=
  ⟨h.use.keep hB, h.ref.below hB, h.ub, h.tb', h.Wb, Nat.le_trans h.bw hB.size⟩

theorem DuoU.drew (h : DuoU W b0 u tb hb nh nt H T q vL vT L Told w) : DuoU W b0 u tb hb nh nt H T q vL vT L Told w.drew := h.keep (below_drewN (Below.refl _ w) 1)
theorem dInts (h : DuoU W b0 u tb hb nh nt H T q vL vT L Told w) (v : Value) (xs : List Int) (hr : Rd w v 1 xs.length (xs.map (Value.int .i64))) (hl : xs.length ≤ 1000) :
    Calls Try.prog 12 #[v] w fun e w' => ∃ A c, e = .returned (.slice A xs.length c) ∧ Rd w' (.slice A xs.length c) 1 xs.length (xs.map (Value.int .i64)) ∧ DuoU W b0 u tb hb nh nt H T q vL vT L Told w' ∧ Below w.heap.size w w' := by
  refine (ints_any w v xs hr (by omega)).mono ?_
  rintro e w' ⟨v', rfl, ho, hB⟩
  obtain ⟨A, c, rfl, _⟩ := own_form ho
  exact ⟨A, c, rfl, Rd.of_own ho, h.keep hB, hB⟩

theorem dNow (h : DuoU W b0 u tb hb nh nt H T q vL vT L Told w) (v : Value) (l : List Int) (hr : Rd w v 1 l.length (l.map (Value.int .i64))) (hi : ∀ x ∈ l, I64 x) (hnh : nh ≤ 100000) (hnt : nt ≤ 100000) (hl : l.length ≤ 100000) :
    Calls Try.prog 8 #[.pointer (some ⟨u, 0, none⟩), v] w fun e w' => ∃ hb' A c f, e = .returned (.slice A f.length c) ∧ KeysOf (boolM (freeH H l)) f ∧ f.length ≤ nh ∧ w'.ownsRow w.heap.size 3 1 (.slice A f.length c) f.length (f.map (Value.int .i64)) ∧
      DuoU W b0 u tb hb' l.length (nt + f.length) (nowH l) (nowT T f) q vL vT L Told w' ∧ Hid (q < w.heap.size ∧ (∀ b, vT.ownBlock = some b → b < w.heap.size) ∧ w.heap.size ≤ w'.heap.size) := by
  refine (lNow h.use v l hr hi hnh hnt hl).mono ?_
  rintro e w' ⟨hb', A, c, f, rfl, hk, hf, ho, hu, hC⟩
  exact ⟨hb', A, c, f, rfl, hk, hf, ho, ⟨hu, h.ref.chg hC (fun b hb _ hF => by have := h.ub; have := h.tb'; rcases hF with rfl | rfl <;> omega), h.ub, h.tb', h.Wb, Nat.le_trans h.bw hC.size⟩, hide ⟨lt_of_block h.ref.cells, fun b hb => (h.ref.rowT.lt b hb).2, hC.size⟩⟩

theorem dRNow (h : DuoU W b0 u tb hb nh nt H T q vL vT L Told w) (v : Value) (xs : List Int) (hr : Rd w v 1 xs.length (xs.map (Value.int .i64))) (hl : xs.length ≤ 1000) (hL : L.length ≤ 1000) (hT : Told.length ≤ 100000) :
    Calls Try.prog 13 #[.pointer (some ⟨q, 0, none⟩), v] w fun e w' => ∃ AL cL vT' A c M, e = .returned (.slice A (outK L M L.length).length c) ∧ SetK xs xs.length M ∧ Rd w' (.slice A (outK L M L.length).length c) 1 (outK L M L.length).length ((outK L M L.length).map (Value.int .i64)) ∧
      DuoU W b0 u tb hb nh nt H T q (.slice AL M.length cL) vT' M (Told ++ outK L M L.length) w' ∧ ∀ base n vv cs, base ≤ w.heap.size → q < base → (∀ b, vT.ownBlock = some b → b < base) → w.ownsRow base 3 1 vv n cs → w'.ownsRow base 3 1 vv n cs := by
  refine (rNow12_any w q b0 vL vT L Told v xs hr hl h.ref hL hT h.bw).mono ?_
  rintro e w' ⟨vL', vT', v', M, rfl, hM, ho, hU, hC⟩
  obtain ⟨A, c, rfl, _⟩ := own_form ho
  obtain ⟨AL, cL, rfl, _⟩ := own_form hU.rowL
  have hTb : ∀ b, vT.ownBlock = some b → b0 ≤ b ∧ b < w.heap.size := fun b hb => h.ref.rowT.lt b hb
  have hBl := hC.below (B := W.heap.size) h.use.below.size fun b hb => by
    have := h.Wb
    rcases hb with rfl | hb
    · have := h.ref.qb; omega
    · have := hTb b hb; omega
  have hmap : ∀ b, (∃ es c, w.heap[b]? = some (.map es c)) → ¬ (b = q ∨ vT.ownBlock = some b) := by
    rintro b ⟨es, c, hb⟩ (rfl | hv)
    · rw [h.ref.cells] at hb; cases hb
    · rcases h.ref.rowT.2 with ⟨hvn, _⟩ | ⟨g, cap, cur, hvn, _, hgb, _⟩
      · rw [hvn] at hv; cases hv
      · rw [hvn] at hv
        cases hv
        rw [hgb] at hb; cases hb
  refine ⟨AL, cL, vT', A, c, M, rfl, hM, Rd.of_own ho, ⟨⟨h.use.at'.chg hC (by have := h.ub; have := h.ref.qb; rintro (e | e); omega; have := hTb _ e; omega) (hmap hb h.use.at'.held.isMapBlock) (hmap tb h.use.at'.times.isMapBlock), h.use.below.trans hBl, h.use.uge, h.use.tge, h.use.hge⟩, hU, h.ub, h.tb', h.Wb, Nat.le_trans h.bw hC.size⟩, fun base n vv cs hb hq hv hrow => ?_⟩
  exact own_block hrow hC fun b hF => by rcases hF with rfl | hF; exact hq; exact hv b hF
end

theorem dHeld {W w : World} {b0 u tb hb nh nt : Nat} {H : Int → Bool} {T : Int → Option Int} {q : Nat} {vL vT : Value} {L Told : List Int} (h : DuoU W b0 u tb hb nh nt H T q vL vT L Told w) (hn : nh ≤ 1000000) (M : List Int) (hM : KeysOf (boolM H) M) :
    Calls Try.prog 14 #[.pointer (some ⟨u, 0, none⟩)] w fun e w' => ∃ A c, e = .returned (.slice A M.length c) ∧ Rd w' (.slice A M.length c) 1 M.length (M.map (Value.int .i64)) ∧ DuoU W b0 u tb hb nh nt H T q vL vT L Told w' := by
  refine (lHeld h.use hn).mono ?_
  rintro e w' ⟨A, c, l, rfl, hk, _, ho, hu, hB⟩
  obtain rfl := hk.unique hM
  exact ⟨A, c, rfl, Rd.of_own ho, h.keep hB⟩
/-- What ties the two: those held; how often each was free. -/
structure Tie12 (H : Int → Bool) (T : Int → Option Int) (L Told : List Int) : Prop where
  held : KeysOf (boolM H) L
  times : ∀ x, I64 x → (T x).getD 0 = (Told.count x : Nat)

theorem tie_free {H : Int → Bool} {T : Int → Option Int} {L Told l M f : List Int} (h : Tie12 H T L Told) (hM : SetK l l.length M) (hf : KeysOf (boolM (freeH H l)) f) : f = outK L M L.length := by
  unfold outK
  rw [List.take_length]
  refine keysOf_eq hf (h.held.1.filter _) fun x => ?_
  rw [List.mem_filter, keysOf_mem h.held x]
  have hm := hM.2.2 x
  rw [List.take_length] at hm
  have hn : nowH l x = decide (x ∈ M) := by
    unfold nowH
    rw [Bool.eq_iff_iff]
    simp only [Bool.and_eq_true, decide_eq_true_eq, hm]
    constructor
    · rintro ⟨a, b⟩; exact ⟨b, by omega⟩
    · rintro ⟨a, b⟩; exact ⟨by omega, a⟩
  unfold freeH
  rw [hn]
  simp only [Bool.and_eq_true, and_assoc]
theorem tie_now {l M : List Int} (hM : SetK l l.length M) (hi : ∀ x ∈ l, I64 x) : KeysOf (boolM (nowH l)) M := by
  refine ⟨hM.1, fun x => ?_⟩
  have hm := hM.2.2 x
  rw [List.take_length] at hm
  rw [hm]
  unfold boolM nowH
  constructor
  · rintro ⟨a, b⟩
    refine ⟨hi x a, ?_⟩
    rw [decide_eq_true a, decide_eq_true (by omega)]
    rfl
  · rintro ⟨_, b⟩
    by_cases h1 : 0 < x
    · by_cases h2 : x ∈ l
      · exact ⟨h2, by omega⟩
      · rw [decide_eq_false h2] at b; simp at b
    · rw [decide_eq_false h1] at b; simp at b
theorem wrap_one {x : Int} (h1 : 0 ≤ x) (h2 : x ≤ 1000000) : wrap64 (x + 1) = x + 1 := by unfold wrap64; omega
theorem count_nodup : ∀ {f : List Int} (_ : f.Nodup) (x : Int), f.count x = if x ∈ f then 1 else 0
  | [], _, x => by simp
  | y :: f, hn, x => by
    obtain ⟨h1, h2⟩ := List.nodup_cons.1 hn
    rw [List.count_cons, count_nodup h2 x]
    by_cases h : x = y
    · subst h; simp [h1]
    · have : (y == x) = false := by simpa using Ne.symm h
      simp [this, h]
theorem nodup_rising {l : List Int} (h : l.Pairwise (· < ·)) : l.Nodup := h.imp fun {a b} h e => by omega
theorem tie_times {H : Int → Bool} {T : Int → Option Int} {L Told f : List Int} (h : Tie12 H T L Told) (hf : f.Nodup) (hT : Told.length ≤ 100000) (x : Int) (hx : I64 x) : (nowT T f x).getD 0 = ((Told ++ f).count x : Nat) := by
  rw [List.count_append, count_nodup hf x]
  have h1 := h.times x hx
  have h2 : Told.count x ≤ Told.length := List.count_le_length
  unfold nowT
  by_cases hm : x ∈ f
  · rw [if_pos hm, if_pos hm, Option.getD_some, h1]
    generalize Told.count x = n at h2
    have e2 : (0 : Int) ≤ (n : Int) := Int.natCast_nonneg n
    have e3 : (n : Int) ≤ 1000000 := by omega
    rw [Int.natCast_add]
    generalize (n : Int) = z at e2 e3
    exact wrap_one e2 e3
  · rw [if_neg hm, if_neg hm, h1]
    rfl

set_option maxRecDepth 100000 in
set_option maxHeartbeats 40000000 in
theorem usesPlays_any (W : World) (A : Option Addr) (c : Nat) (ls : List IRow) (hr : Rd W (.slice A ls.length c) 1 ls.length (ls.map IRow.val)) (hg : ∀ r ∈ ls, r.good W) (id : Int) (hid : I64 id) :
    Calls Try.prog 4 #[.slice A ls.length c, .int .i64 id] W fun e w' => e = .returned (.bool true) ∧ Below W.heap.size W w' := by
  have hN := hide (lNew W)
  obtain ⟨N, hN2⟩ : ∃ N, N = ls.length := ⟨_, rfl⟩
  rw [← hN2] at hr ⊢
  replace hN2 := hide hN2
  replace hr := hide hr
  replace hg := hide hg
  replace hid := hide hid
  go_enter Try.func4, Try.ntmps4
  go_wp2_with fail
  refine (hN.out).mono ?_
  rintro e w1 ⟨u, tb, hb, rfl, h1⟩
  have hlt1 := h1.at'.lt
  have h2 : DuoU W w1.heap.size u tb hb 0 0 (fun _ => false) (fun _ => none) w1.heap.size (.slice none 0 0) (.slice none 0 0) [] [] (w1.alloc (.cells #[.slice none 0 0, .slice none 0 0] 34)) :=
    ⟨h1.keep ((Below.refl _ _).alloc (Nat.le_refl _) _), ⟨heap_alloc_new _ _, World.ownsRow_nil _ _ _ _, World.ownsRow_nil _ _ _ _, Nat.le_refl _, by intro h; cases h⟩, hlt1.1, hlt1.2.2, h1.below.size, by simp⟩
  have ht2 : Hid (Tie12 (fun _ => false) (fun _ => none) [] []) := ⟨⟨List.Pairwise.nil, fun x => by simp [boolM]⟩, fun x _ => rfl⟩
  replace h2 := hide h2
  clear h1 hlt1
  obtain ⟨b0, hb0⟩ : ∃ b0, b0 = w1.heap.size := ⟨_, rfl⟩
  rw [← hb0] at h2
  go_wp2
  rw [← hb0]
  replace hb0 := hide hb0
  go_loopw [7] (fun i wr => ∃ (j hb nh nt : Nat) (H : Int → Bool) (T : Int → Option Int) (vL vT : Value) (L Told : List Int), j ≤ N ∧ j ≤ 40 ∧ i = .int .i64 j ∧ nh ≤ 50 ∧ nt ≤ 50 * j ∧ L.length ≤ 50 ∧ Told.length ≤ 50 * j ∧ Hid (DuoU W b0 u tb hb nh nt H T b0 vL vT L Told wr) ∧ Hid (Tie12 H T L Told))
    (fun i _ => 40 - (intOf i).toNat)
  case atStart => exact ⟨0, hb, 0, 0, _, _, _, _, [], [], Nat.zero_le _, Nat.zero_le _, rfl, by omega, by omega, by simp, by simp, h2, ht2⟩
  clear h2 ht2
  case round =>
    obtain ⟨j, hb, nh, nt, H, T, vL, vT, L, Told, hj, hj40, rfl, hnh, hnt, hLl, hTl, h2, ht2⟩ := hrel
    obtain ⟨wA, hA⟩ : ∃ wA, wA = wr := ⟨_, rfl⟩
    subst hA
    by_cases hlt : j < N
    · by_cases hlt40 : j < 40
      · have hB2 := h2.out.use.below
        have hra := hr.out.below hB2 (Nat.le_refl _)
        obtain ⟨b, off, ur, rfl, hbW, hur, hcW⟩ := hr.out.cell1 hlt
        have hjl : j < ls.length := by rw [← hN2.out]; exact hlt
        have hgr := hg.out (ls.getD j default) (by
          have e : ls.getD j default = ls[j] := by simp [List.getD, hjl]
          rw [e]; exact List.getElem_mem hjl)
        obtain ⟨⟨Ar, cr, l⟩, hrr⟩ : ∃ r, r = ls.getD j default := ⟨_, rfl⟩
        rw [← hrr] at hgr
        obtain ⟨hrl, hil, _⟩ := hgr
        dsimp only [IRow.val] at hrl hil
        have hur2 : ur = .slice Ar l.length cr := by
          have e : ls.getD j default = ls[j] := by simp [List.getD, hjl]
          rw [List.getElem?_map, List.getElem?_eq_getElem hjl] at hur
          rw [e] at hrr
          rw [← hrr] at hur
          simpa [IRow.val] using hur.symm
        subst hur2
        have hcx : wA.cell? ⟨b, off + j, none⟩ = some (.slice Ar l.length cr) := (hB2.cell (p := ⟨b, off + j, none⟩) hbW).trans hcW
        replace hcW := hide hcW
        replace hrl := hide hrl
        replace hil := hide hil
        clear hra hB2 hur hjl hrr
        by_cases h50 : 50 < l.length
        · have h50' : (50 : Int) < l.length := by omega
          have hbd := hide h2.out.use.below
          have ca := hide (awake12_any wA)
          clear h2 ht2
          go_wp2_with fail
          refine (ca.out).mono ?_
          rintro e w9 ⟨rfl, hb9⟩
          go_wp2
          go_ret
          exact ⟨rfl, hbd.out.trans (hb9.mono hbd.out.size)⟩
        · have h50' : ¬ (50 : Int) < l.length := by omega
          have hc := hide h2.out.drew
          clear h2
          go_wp2_with fail
          go_region_with (first
            | (go_at_call 12; refine (dInts hc.out _ l (hrl.out.below hc.out.use.below (Nat.le_refl _)) (by omega)).mono ?_; clear hc; rintro e wI ⟨AI, cI, rfl, hI, hc, _⟩; replace hI := hide hI; have dc := (hc.use.below.cell (p := ⟨b, off + j, none⟩) hbW).trans hcW.out; replace hc := hide hc)
            | (go_at_call 8; refine (dNow hc.out _ l hI.out hil.out (by omega) (by omega) (by omega)).mono ?_; clear hc hI; rintro e wN ⟨hb5, A5, c5, f, rfl, k5, l5, r5, hc, hq5⟩; replace k5 := hide k5; replace r5 := hide r5; have dc := (hc.use.below.cell (p := ⟨b, off + j, none⟩) hbW).trans hcW.out; replace hc := hide hc)
            | (go_at_call 13; refine (dRNow hc.out _ l (hrl.out.below hc.out.use.below (Nat.le_refl _)) (by omega) (by omega) (by omega)).mono ?_; clear hc; rintro e wR ⟨AL, cL, vT6, A6, c6, M, rfl, hM, r6, hc, hkeep⟩; have e6 := tie_free ht2.out hM k5.out; rw [← e6] at r6 hc ⊢; have r5 := hide (Rd.of_own (hkeep _ _ _ _ hq5.out.2.2 hq5.out.1 hq5.out.2.1 r5.out)); replace r6 := hide r6; have kM := hide (tie_now hM hil.out); have lM := hM.2.1; have dq := hc.ref.cellL; clear hkeep e6 hM; have dc := (hc.use.below.cell (p := ⟨b, off + j, none⟩) hbW).trans hcW.out; replace hc := hide hc)
            | (go_at_call 11; refine (sameInts_true _ _ _ f r5.out r6.out (by omega)).mono ?_; clear r5 r6; rintro e wS ⟨rfl, q7, hq7⟩; have hc := hc.out.keep (w' := wS) (by rw [hq7]; exact below_drewN (Below.refl _ _) q7); have dq := hc.ref.cellL; clear hq7; have dc := (hc.use.below.cell (p := ⟨b, off + j, none⟩) hbW).trans hcW.out; replace hc := hide hc)
            | (go_at_call 14; refine (dHeld hc.out (by omega) M kM.out).mono ?_; clear hc; rintro e wH ⟨A8, c8, rfl, r8, hc⟩; have dq := hc.ref.cellL; replace r8 := hide r8; have dc := (hc.use.below.cell (p := ⟨b, off + j, none⟩) hbW).trans hcW.out; replace hc := hide hc)
            | (go_at_call 11; refine (sameInts_true _ _ _ M r8.out (Rd.of_own hc.out.ref.rowL) (by omega)).mono ?_; clear r8; rintro e wS ⟨rfl, q8, hq8⟩; have hc := hc.out.keep (w' := wS) (by rw [hq8]; exact below_drewN (Below.refl _ _) q8); clear hq8; have dc := (hc.use.below.cell (p := ⟨b, off + j, none⟩) hbW).trans hcW.out; replace hc := hide hc)
            | (go_at_call 9; refine (uTimes_any _ u hb5 tb _ _ _ _ id hid.out hc.out.use.at').mono ?_; rintro e wT ⟨rfl, rfl⟩; rw [tie_times ht2.out (nodup_rising k5.out.1) (by omega) id hid.out])
            | (go_at_call 15; refine (rTimes12_any _ b0 b0 _ _ _ _ id hc.out.ref (by simp; omega)).mono ?_; rintro e wU ⟨rfl, rfl⟩))
          all_goals go_wp2
          all_goals go_roundw
          all_goals try (case rel => exact ⟨j + 1, hb5, l.length, nt + f.length, nowH l, nowT T f, _, _, M, Told ++ f, by omega, by omega, by go_num, by omega, by omega, by omega, by simp; omega, hc, hide ⟨kM.out, fun x hx => tie_times ht2.out (nodup_rising k5.out.1) (by omega) x hx⟩⟩)
          all_goals (case measure => simp [intOf]; omega)
      · have hx : 40 ≤ (j : Int) := by omega
        have hbd := hide h2.out.use.below
        have ca := hide (awake12_any wA)
        clear h2 ht2
        go_wp2_with fail
        refine (ca.out).mono ?_
        rintro e w9 ⟨rfl, hb9⟩
        go_wp2
        go_ret
        exact ⟨rfl, hbd.out.trans (hb9.mono hbd.out.size)⟩
    · have hx : (N : Int) ≤ j := by omega
      have hbd := hide h2.out.use.below
      have ca := hide (awake12_any wA)
      clear h2 ht2
      go_wp2_with fail
      refine (ca.out).mono ?_
      rintro e w9 ⟨rfl, hb9⟩
      go_wp2
      go_ret
      exact ⟨rfl, hbd.out.trans (hb9.mono hbd.out.size)⟩
end Go.Proofs.Ytfecbgijpbieaaa
