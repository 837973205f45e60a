/-
  The law ForestDrops: its forests, as plain data.
  A region that draws, by a plan: guarded operations; slices whose place is not told.
  The law ForestDrops, as a walk.
-/
import Derived.Test.YthkjicnnepkghaaDoorFCalc
import Derived.Test.YthkjicnnepkghaaDoorForest11
import Derived.Test.YthkjicnnepkghaaDoorFWalk
import Derived.Test.YthkjicnnepkghaaDoorRegion
import Derived.Test.YthkjicnnepkghaaDoorLaw17
import Derived.Test.YthkjicnnepkghaaDoorFLaw2
namespace Go.Proofs.YthkjicnnepkghaaDoor
open Go.RowKit
set_option linter.unusedVariables false

/-- Parents are kept, or taken away. -/
theorem RkOk.less {M M' : Fo} {k : Nat} (h : RkOk M k) (hp : ∀ x s, M' x = some s → ∃ t, M x = some t ∧ (s.parent = t.parent ∨ s.parent = 0)) : RkOk M' k := fun j s hj => by
  obtain ⟨t, ht, e⟩ := hp j s hj
  obtain ⟨h1, h2⟩ := h j t ht
  refine ⟨h1, fun h0 => ?_⟩
  rcases e with e | e
  · rw [e] at h0 ⊢; exact h2 h0
  · exact absurd e h0
theorem unsub_less {M : Fo} (id : Int) : ∀ x s, funsubS M id x = some s → ∃ t, M x = some t ∧ (s.parent = t.parent ∨ s.parent = 0) := fun x s hx => by
  unfold funsubS at hx
  cases ha : M id with
  | none => rw [ha] at hx; exact ⟨s, hx, .inl rfl⟩
  | some a =>
    rw [ha] at hx
    dsimp only at hx
    cases hq : M a.parent with
    | none => rw [hq] at hx; exact ⟨s, hx, .inl rfl⟩
    | some q =>
      rw [hq] at hx
      dsimp only at hx
      by_cases h0 : a.parent = 0
      · rw [if_pos h0] at hx; exact ⟨s, hx, .inl rfl⟩
      · rw [if_neg h0] at hx
        by_cases e1 : x = a.parent
        · subst e1
          rw [setM_same] at hx
          exact ⟨q, hq, .inl (by rw [← Option.some.inj hx]; rfl)⟩
        · rw [setM_other _ _ e1] at hx
          by_cases e2 : x = id
          · subst e2
            rw [setM_same] at hx
            exact ⟨a, ha, .inr (by rw [← Option.some.inj hx])⟩
          · rw [setM_other _ _ e2] at hx
            exact ⟨s, hx, .inl rfl⟩
theorem drop_less {M : Fo} (id : Int) : ∀ x s, fdropS M id x = some s → ∃ t, M x = some t ∧ (s.parent = t.parent ∨ s.parent = 0) := fun x s hx => by
  unfold fdropS at hx
  by_cases hS : (M id).isSome = true
  · rw [if_pos hS] at hx
    by_cases e : x = id
    · subst e; rw [setM_same] at hx; cases hx
    · rw [setM_other _ _ e] at hx
      unfold orphan at hx
      cases hu : funsubS M id x with
      | none => rw [hu] at hx; cases hx
      | some u =>
        rw [hu] at hx
        obtain ⟨t, ht, e2⟩ := unsub_less id x u hu
        simp only [Option.map_some, Option.some.injEq] at hx
        refine ⟨t, ht, ?_⟩
        subst hx
        split
        · exact .inr rfl
        · exact e2
  · rw [if_neg hS] at hx; exact ⟨s, hx, .inl rfl⟩

/-- A line of surfaces, each with a buffer to come. -/
def drA : Nat → Fo
  | 0 => fun _ => none
  | i + 1 => if i = 0 then turnS (setM (drA i) ((i : Int) + 1) (some newSf)) ((i : Int) + 1) (attachT (10 + ((i : Int) + 1))) else subbed (turnS (setM (drA i) ((i : Int) + 1) (some newSf)) ((i : Int) + 1) (attachT (10 + ((i : Int) + 1)))) ((i : Int) + 1) i
def drN (i : Nat) : Fo := setM (drA i) ((i : Int) + 1) (some newSf)
def drT (i : Nat) : Fo := turnS (drN i) ((i : Int) + 1) (attachT (10 + ((i : Int) + 1)))
theorem drA_zero : drA 1 = drT 0 := rfl
theorem drA_pos {i : Nat} (h : i ≠ 0) : drA (i + 1) = subbed (drT i) ((i : Int) + 1) i := by rw [drA, if_neg h]; rfl
def drOk (i : Nat) : Bool := decide (faddK (drA i) i ((i : Int) + 1) = 0) && (decide (i = 0) || (decide (upO (drT i) ((i : Int) + 1) 60 i = some false) && decide (fsubC (drT i) ((i : Int) + 1) i false = 0))) && decide (thereK (drN i) ((i : Int) + 1) = 0)
theorem drsOk : (List.range 3).all drOk = true := by decide +kernel
theorem drA_facts {i : Nat} (hi : i < 3) : faddK (drA i) i ((i : Int) + 1) = 0 ∧ (i ≠ 0 → fsubK (drT i) ((i : Int) + 1) i = 0) ∧ thereK (drN i) ((i : Int) + 1) = 0 := by
  have h := List.all_eq_true.1 drsOk i (by simpa using hi)
  unfold drOk at h
  simp only [Bool.and_eq_true, Bool.or_eq_true, decide_eq_true_eq] at h
  obtain ⟨⟨a, b⟩, c⟩ := h
  refine ⟨a, fun h0 => ?_, c⟩
  rcases b with b | ⟨b1, b2⟩
  · exact absurd b h0
  · rw [fsubK_eq b1, b2]
theorem drA_rk : ∀ (k : Nat), k ≤ 3 → RkOk (drA k) 3
  | 0, _ => RkOk.empty 3
  | k + 1, hk => by
    have h := drA_rk k (by omega)
    have h1 : RkOk (drT k) 3 := (h.add (by omega)).par (turn_par _)
    by_cases h0 : k = 0
    · subst h0; exact h1
    · rw [drA_pos h0]
      have := h1.sub (id := (k : Int) + 1) (parent := k) (by omega)
      rw [fsubS_zero ((drA_facts (show k < 3 by omega)).2.1 h0)] at this
      exact this
theorem drA_dom : ∀ (k : Nat) (x : Int), (drA k x).isSome = true → 1 ≤ x ∧ x ≤ k
  | 0, x, h => by cases h
  | k + 1, x, h => by
    have key : (drT k x).isSome = true → 1 ≤ x ∧ x ≤ ((k + 1 : Nat) : Int) := fun h => by
      rw [show (drT k x).isSome = _ from turn_isS _ x] at h
      by_cases e : x = (k : Int) + 1
      · omega
      · unfold drN at h
        rw [setM_other _ _ e] at h
        have := drA_dom k x h
        omega
    by_cases h0 : k = 0
    · subst h0; exact key h
    · rw [drA_pos h0] at h
      refine key ?_
      have e : SameD (drT k) (subbed (drT k) ((k : Int) + 1) k) := by
        unfold subbed
        split
        · rename_i s p hs hp
          refine (SameD.set (by rw [hs]; rfl) _).trans (SameD.set ?_ _)
          rw [setM_isS (by rw [hs]; rfl), hp]; rfl
        · exact .refl _
      rw [← e x]; exact h

/-- Committed, from the last one on. -/
def drC : Nat → Fo
  | 0 => drA 3
  | m + 1 => (comC (drC m) 3 (3 - (m : Int))).1
theorem drC_rk : ∀ m, RkOk (drC m) 3
  | 0 => drA_rk 3 (by decide)
  | m + 1 => (drC_rk m).par (com_par _ _)
theorem drC_isS : ∀ m, SameD (drA 3) (drC m)
  | 0 => .refl _
  | m + 1 => (drC_isS m).trans (com_isS _ _)
/-- Without one. -/
def drD (k : Nat) : Fo := fdropS (drC 3) k
theorem drD_rk (k : Nat) : RkOk (drD k) 3 := (drC_rk 3).less (drop_less _)
theorem drD_dom (k : Nat) (x : Int) (h : drD k x ≠ none) : 1 ≤ x ∧ x ≤ ((3 : Nat) : Int) := by
  cases e : drD k x with
  | none => exact absurd e h
  | some s =>
    obtain ⟨t, ht, _⟩ := drop_less _ _ _ e
    refine drA_dom 3 x ?_
    rw [← drC_isS 3 x, ht]; rfl
def drOk2 (k : Nat) : Bool := decide ((walkT (drC 3) 4 1).length = 3) && decide ((drC 3 k).isSome = true) && decide ((drD k k).isSome = false) && decide ((heldC (drD k) 3).Pairwise (· < ·)) && decide ((heldC (drD k) 3).length = 2) &&
  decide ((walkT (drD k) 4 1).length = k - 1) && (decide (k = 3) || (decide (parM (drD k) ((k : Int) + 1) = 0) && decide (syC (drD k) ((k : Int) + 1) = false))) && decide ((walkT (drD 1) 4 2).length = 2)
theorem drsOk2 : (List.range 3).all (fun k => drOk2 (k + 1)) = true := by decide +kernel
structure DrFacts (k : Nat) : Prop where
  seen : (walkT (drC 3) 4 1).length = 3
  some : (drC 3 k).isSome = true
  gone : (drD k k).isSome = false
  inc : (heldC (drD k) 3).Pairwise (· < ·)
  len : (heldC (drD k) 3).length = 2
  walk : (walkT (drD k) 4 1).length = k - 1
  par : k ≠ 3 → parM (drD k) ((k : Int) + 1) = 0
  syn : k ≠ 3 → synB (drD k) ((k : Int) + 1) = false
  two : (walkT (drD 1) 4 2).length = 2
theorem drFacts {k : Nat} (h1 : 1 ≤ k) (h3 : k ≤ 3) : DrFacts k := by
  have h := List.all_eq_true.1 drsOk2 (k - 1) (by simp; omega)
  rw [show k - 1 + 1 = k by omega] at h
  unfold drOk2 at h
  simp only [Bool.and_eq_true, Bool.or_eq_true, decide_eq_true_eq] at h
  obtain ⟨⟨⟨⟨⟨⟨⟨a, b⟩, c⟩, d⟩, e⟩, f⟩, g⟩, i⟩ := h
  refine ⟨a, b, c, d, e, f, fun h0 => (g.resolve_left h0).1, fun h0 => ?_, i⟩
  rw [syC_eq (drD_rk k) (by omega)]
  exact (g.resolve_left h0).2


section
variable {P : Program} {ops : Array Oper} {Q : Exit → Act → World → Prop}
theorem wanted_at {o : Oper} {a : Act} {j d : Nat} {b c : Bool} (hg : o.guard = some (j, b)) (hd : (ops[j]?).bind (·.dst) = some d) (hv : a.tmps[d]?.getD undef = .bool c) : Region.wanted o (yielded ops a.tmps) = (c == b) := by
  have h1 : a.tmps[d]? = some (.bool c) := by
    cases e : a.tmps[d]? with
    | none => rw [e] at hv; cases hv
    | some v => rw [e] at hv; exact congrArg some hv
  unfold Region.wanted
  rw [hg]
  unfold yielded
  dsimp only
  rw [hd]
  simp only [Option.bind_some, h1]
  cases b <;> cases c <;> rfl
theorem wanted_on {o : Oper} {a : Act} {j d : Nat} {b : Bool} (hg : o.guard = some (j, b)) (hd : (ops[j]?).bind (·.dst) = some d) (hv : a.tmps[d]?.getD undef = .bool b) : Region.wanted o (yielded ops a.tmps) = true :=
  (wanted_at hg hd hv).trans (by cases b <;> rfl)
theorem wanted_off {o : Oper} {a : Act} {j d : Nat} {b : Bool} (hg : o.guard = some (j, b)) (hd : (ops[j]?).bind (·.dst) = some d) (hv : a.tmps[d]?.getD undef = .bool (!b)) : Region.wanted o (yielded ops a.tmps) = false :=
  (wanted_at hg hd hv).trans (by cases b <;> rfl)
theorem wanted_un {o : Oper} {a : Act} {j d : Nat} {b : Bool} (hg : o.guard = some (j, b)) (hd : (ops[j]?).bind (·.dst) = some d) (hv : a.tmps[d]?.getD undef = undef) : Region.wanted o (yielded ops a.tmps) = false := by
  unfold Region.wanted
  rw [hg]
  unfold yielded
  dsimp only
  rw [hd]
  simp only [Option.bind_some]
  cases e : a.tmps[d]? with
  | none => cases b <;> rfl
  | some v =>
    rw [e] at hv
    have hv : v = undef := hv
    subst hv
    cases b <;> rfl
theorem wpOp_un {i : Nat} {o : Oper} {a : Act} {w : World} {K : Act → World → Prop} (ho : ops[i]? = some o) (hw : Region.wanted o (yielded ops a.tmps) = false) (hK : K (a.put o.dst undef) w) : wpOp P ops Q i K a w := by
  unfold wpOp
  rw [ho]
  simp only [hw, Bool.false_eq_true, if_false]
  exact hK
theorem wpOp_valG {i : Nat} {o : Oper} {v : Value} {a : Act} {w w' : World} {K : Act → World → Prop} (ho : ops[i]? = some o) (hw : Region.wanted o (yielded ops a.tmps) = true) (hr : (execOp a.eval o).run P w = .ok (.value v) w') (hK : K (a.put o.dst v) w') : wpOp P ops Q i K a w := by
  unfold wpOp
  rw [ho]
  simp only [hw, if_true]
  left
  unfold Oper.wp
  rw [hr]
  exact hK
theorem wpOp_callG {i : Nat} {o : Oper} {f : FuncId} {args : Array Value} {a : Act} {w : World} {K : Act → World → Prop} (ho : ops[i]? = some o) (hw : Region.wanted o (yielded ops a.tmps) = true) (hr : (execOp a.eval o).run P w = .ok (.enter f args) w)
    (hc : Calls P f args w fun e w' => ∃ v, e = .returned v ∧ K (a.put o.dst v) w') : wpOp P ops Q i K a w := by
  unfold wpOp
  rw [ho]
  simp only [hw, if_true]
  left
  unfold Oper.wp
  rw [hr]
  refine hc.mono fun e w' ⟨v, he, hk⟩ => ?_
  subst he
  exact hk
/-- A slice of so many. -/
def SP.sl (n : Nat) : SP := ⟨fun v _ => ∃ A c, v = .slice A n c, fun _ _ _ h _ => h⟩
end

set_option linter.unusedVariables false

set_option maxRecDepth 100000 in
set_option maxHeartbeats 8000000 in
theorem forestDrops_any (W : World) {ae : Nat → Addr} (hE : ErrF W.heap.size W ae) (n : Int) :
    Calls Tryd.prog 6 #[.int .i64 n] W fun e w' => e = .returned (.bool true) ∧ Below W.heap.size W w' := by
  have cN := hide (mNew W)
  replace hE := hide hE
  obtain ⟨K, hK, hK1, hK3⟩ : ∃ K : Nat, n % 3 = (K : Int) - 1 ∧ 1 ≤ K ∧ K ≤ 3 := ⟨(n % 3 + 1).toNat, by omega, by omega, by omega⟩
  have cP := fun w => place_any n 3 w (by omega) (by omega)
  rw [hK] at cP
  replace cP := hide cP
  have e1 : (1 : Int) + ((K : Int) - 1) = K := by omega
  have hS := hide (drFacts hK1 hK3)
  clear hK
  go_enter Tryd.func6, Tryd.ntmps6
  go_wp2_with fail
  refine cN.out.mono ?_
  rintro e w1 ⟨p, rfl, h1⟩
  replace h1 := hide h1
  clear cN
  go_wp2
  go_loopw [4] (fun i wr => ∃ j : Nat, j ≤ 3 ∧ i = .int .i64 ((j : Int) + 1) ∧ Hid (FL W p (3 * j) j (1 + 3 * j) (drA j) wr)) (fun i _ => 3 + 1 - (intOf i).toNat)
  case atStart => exact ⟨0, Nat.zero_le _, rfl, h1⟩
  clear h1
  case round =>
    obtain ⟨j, hj, rfl, h⟩ := hrel
    obtain ⟨wA, hA⟩ : ∃ wA, wA = wr := ⟨_, rfl⟩
    subst hA
    by_cases hlt : j < 3
    · obtain ⟨f1, f2, f3⟩ := drA_facts hlt
      have cA := hide (mAdd0 hE.out h.out ((j : Int) + 1) (i64_small (by omega) (by omega)) (by omega) (by omega) f1)
      replace f2 := hide f2
      replace f3 := hide f3
      clear f1 h
      go_wp2_with fail
      refine cA.out.mono ?_
      rintro e w2 ⟨rfl, h2⟩
      have cT := mAttach hE.out h2 ((j : Int) + 1) (10 + ((j : Int) + 1)) (i64_small (by omega) (by omega))
      rw [show thereK (setM (drA j) ((j : Int) + 1) (some newSf)) ((j : Int) + 1) = 0 from f3.out, errV0] at cT
      replace cT := hide cT
      clear h2 cA f3
      go_wp2_with fail
      refine cT.out.mono ?_
      rintro e w3 ⟨rfl, h3⟩
      change FL W p _ _ _ (drT j) w3 at h3
      clear cT
      by_cases hj0 : j = 0
      · subst hj0
        have h3 : Hid (FL W p (3 * 1) 1 (1 + 3 * 1) (drA 1) w3) := hide (h3.mono (by omega) (by omega))
        go_wp2
        go_roundw
        case rel => exact ⟨1, by omega, by go_num, h3⟩
        case measure => simp [intOf]
      · have f5 := f2.out hj0
        have cS := mSub hE.out h3 ((j : Int) + 1) j (i64_small (by omega) (by omega)) (i64_small (by omega) (by omega)) (by omega)
        rw [f5, fsubS_zero f5, errV0, ← drA_pos hj0] at cS
        replace cS := hide cS
        clear h3 f5 f2
        go_wp2_with fail
        refine cS.out.mono ?_
        rintro e w4 ⟨rfl, h4⟩
        have h4 : Hid (FL W p (3 * (j + 1)) (j + 1) (1 + 3 * (j + 1)) (drA (j + 1)) w4) := hide (h4.mono (by omega) (by omega))
        clear cS
        go_wp2
        go_roundw
        case rel => exact ⟨j + 1, by omega, by go_num, h4⟩
        case measure => simp [intOf]; omega
    · have hj3 : j = 3 := by omega
      have h : Hid (FL W p 100 3 30 (drC 0) wA) := hide (by have h := h.out; rw [hj3] at h; exact h.mono (by omega) (by omega))
      have hx3 : ¬ ((j : Int) + 1 ≤ 3) := by omega
      clear hlt hj3 hj
      go_wp2
      go_loopw [5] (fun i wr => ∃ m : Nat, m ≤ 3 ∧ i = .int .i64 (3 - (m : Int)) ∧ Hid (FL W p 100 3 30 (drC m) wr)) (fun i _ => (intOf i).toNat)
      case atStart => exact ⟨0, Nat.zero_le _, rfl, h⟩
      clear h
      case round =>
        obtain ⟨m, hm, rfl, h⟩ := hrel
        obtain ⟨wB, hB⟩ : ∃ wB, wB = wr := ⟨_, rfl⟩
        subst hB
        by_cases hlt : m < 3
        · have cC := hide (mCommitR hE.out h.out (3 - (m : Int)) (i64_small (by omega) (by omega)) (by omega) (by omega) (drC_rk m) (by omega))
          clear h
          go_wp2_with fail
          refine cC.out.mono ?_
          rintro e w4 ⟨A4, n4, rfl, r4, h4⟩
          have h4 : Hid (FL W p 100 3 30 (drC (m + 1)) w4) := hide h4
          clear r4 cC
          go_wp2
          go_roundw
          case rel => exact ⟨m + 1, by omega, by go_num, h4⟩
          case measure => simp [intOf]; omega
        · obtain rfl : m = 3 := by omega
          have cW := mWalkR h.out 1 i64_1 (by omega) (drC_rk 3) rfl (by rw [hS.out.seen]; omega)
          rw [hS.out.seen] at cW
          replace cW := hide cW
          clear h hlt
          go_wp2_with fail
          refine (cP.out _).mono ?_
          rintro e w' ⟨rfl, rfl⟩
          clear cP
          go_wp2_with fail
          refine cW.out.mono ?_
          rintro e w4 ⟨A4, n4, rfl, r4, h4, -⟩
          have cD := hide (mDrop (c := 2) hE.out h4 K (i64_small (by omega) (by omega)) hS.out.some (by omega))
          clear cW r4 h4
          go_wp2_with fail
          refine cD.out.mono ?_
          rintro e w5 ⟨rfl, h5⟩
          change FL W p 101 2 30 (drD K) w5 at h5
          have cH := mHas h5 K (i64_small (by omega) (by omega))
          rw [hS.out.gone] at cH
          replace cH := hide cH
          clear cD h5
          go_wp2_with fail
          refine cH.out.mono ?_
          rintro e w6 ⟨rfl, h6⟩
          have cD := mDrop0 hE.out h6 K (i64_small (by omega) (by omega)) (by have := hS.out.gone; cases e : drD K K with | none => rfl | some s => rw [e] at this; cases this)
          rw [show errV ae 5 = .iface 151 (.pointer (some (ae 4))) from rfl] at cD
          replace cD := hide cD
          clear cH h6
          go_wp2_with fail
          refine cD.out.mono ?_
          rintro e w7 ⟨rfl, h7⟩
          have cA := hide (mAll h7 (by omega))
          clear cD h7
          go_wp2_with fail
          refine cA.out.mono ?_
          rintro e w8 ⟨A8, n8, rfl, h8, -⟩
          have cH := mHeld h8 (by omega) (heldC_ok (drD_dom K) hS.out.inc)
          rw [hS.out.len] at cH
          replace cH := hide cH
          clear cA h8
          go_wp2_with fail
          refine cH.out.mono ?_
          rintro e w9 ⟨A9, n9, rfl, r9, h9, -⟩
          have hF := h9.keep ((Below.refl _ _).alloc (Nat.le_refl _) (.cells #[.int .i64 0, .int .i64 0, .int .i64 1, .int .i64 2] 49))
          have x0 : ∀ k : Nat, (w9.alloc (.cells #[.int .i64 0, .int .i64 0, .int .i64 1, .int .i64 2] 49)).cell? ⟨w9.heap.size, k, none⟩ = (#[Value.int .i64 0, .int .i64 0, .int .i64 1, .int .i64 2] : Array Value)[k]? := fun k => cell_of_row _ _ k _ _ _ (heap_alloc_new _ _)
          have xl : w9.heap.size < (w9.alloc (.cells #[.int .i64 0, .int .i64 0, .int .i64 1, .int .i64 2] 49)).heap.size := by simp
          clear h9 cH r9
          obtain ⟨wF, hwF⟩ : ∃ wF, wF = w9.alloc (.cells #[.int .i64 0, .int .i64 0, .int .i64 1, .int .i64 2] 49) := ⟨_, rfl⟩
          rw [← hwF] at hF x0 xl
          replace hwF := hide hwF
          replace hF := hide hF
          have hWF := hide hF.out.below
          have cW : Hid (∀ w, FL W p 101 2 30 (drD K) w → Calls Tryd.prog 21 #[.pointer (some ⟨p, 0, none⟩), .int .i64 1] w fun e w' => ∃ A cc, e = .returned (.slice A (K - 1) cc) ∧ Below w.heap.size w w') := hide (fun w h => by
            have := mWalkR h 1 i64_1 (by omega) (drD_rk K) rfl (by rw [hS.out.walk]; omega)
            rw [hS.out.walk] at this
            exact this.mono fun e w' ⟨A, cc, e1, _, h1, b1⟩ => ⟨A, cc, e1, b1⟩)
          have cP : Hid (K ≠ 3 → ∀ w, FL W p 101 2 30 (drD K) w → Calls Tryd.prog 20 #[.pointer (some ⟨p, 0, none⟩), .int .i64 ((K : Int) + 1)] w fun e w' => e = .returned (.int .i64 0) ∧ Below w.heap.size w w') := hide (fun h3 w h => by
            obtain ⟨F, ⟨mb, Z, hz⟩, hF⟩ := h.ex
            refine (fParent_any w hz ((K : Int) + 1) (i64_small (by omega) (by omega))).mono ?_
            rintro e w' ⟨he, rfl⟩
            exact ⟨by rw [he, hS.out.par h3], Below.refl _ _⟩)
          have cS : Hid (K ≠ 3 → ∀ w, FL W p 101 2 30 (drD K) w → Calls Tryd.prog 23 #[.pointer (some ⟨p, 0, none⟩), .int .i64 ((K : Int) + 1)] w fun e w' => e = .returned (.bool false) ∧ Below w.heap.size w w') := hide (fun h3 w h => by
            refine (mSyncedB h ((K : Int) + 1) (i64_small (by omega) (by omega))).mono ?_
            rintro e w' ⟨he, _, hb⟩
            exact ⟨by rw [he, hS.out.syn h3], hb⟩)
          have cT : Hid (K = 1 → ∀ w, FL W p 101 2 30 (drD K) w → Calls Tryd.prog 21 #[.pointer (some ⟨p, 0, none⟩), .int .i64 2] w fun e w' => ∃ A cc, e = .returned (.slice A 2 cc) ∧ Below w.heap.size w w') := hide (fun h1 w h => by
            subst h1
            have := mWalkR h 2 i64_2 (by omega) (drD_rk 1) rfl (by rw [hS.out.two]; omega)
            rw [hS.out.two] at this
            exact this.mono fun e w' ⟨A, cc, e1, _, h1, b1⟩ => ⟨A, cc, e1, b1⟩)
          have cA : Hid (∀ w, FL W p 101 2 30 (drD K) w → Calls Tryd.prog 17 #[] w fun e w' => e = .returned (.bool true) ∧ Below w.heap.size w w') := hide (fun w h => awake17_any w ((hE.out.below h.below).wider h.below.size))
          rcases (by omega : K = 1 ∨ K = 2 ∨ K = 3) with rfl | rfl | rfl
          · have xk : Hid (∀ w, Below wF.heap.size wF w → w.cell? ⟨w9.heap.size, 1, none⟩ = some (.int .i64 0)) := hide fun w hb => (hb.cell (p := ⟨w9.heap.size, 1, none⟩) xl).trans (x0 1)
            have cP := hide (cP.out (by decide))
            have cS := hide (cS.out (by decide))
            have cT1 := hide (cT.out (Eq.refl (1 : Nat)))
            clear cT
            clear hS e1 hE x0 xl
            go_wp2
            rw [← hwF.out]
            rename_i KK hKK
            refine wp_region_plan (m := 38) (n := 121) (l := [.is (.pointer (some ⟨p, 0, none⟩)), .sl 0, .is (.int .i64 0), .is (.int .i64 1), .is (.pointer (some ⟨w9.heap.size, 1, none⟩)), .is (.int .i64 0), .is (.bool true), .is (.bool true), .is (.int .i64 1), .is (.bool false), .is (.bool false), .is (.pointer (some ⟨p, 0, none⟩)), .is (.int .i64 1), .is (.int .i64 2), .is (.int .i64 0), .is (.bool true), .is (.bool true), .is (.pointer (some ⟨p, 0, none⟩)), .is (.int .i64 1), .is (.int .i64 2), .is (.bool false), .is (.bool true), .is (.bool true), .is (.bool true), .is (.bool true), .is (.bool true), .is (.int .i64 1), .is (.bool false), .is (.bool false), .is (.pointer (some ⟨p, 0, none⟩)), .sl 2, .is (.int .i64 2), .is (.bool true), .is (.bool true), .is (.bool true), .is (.bool true), .is (.bool true), .is (.bool true)]) (by kernel_rfl) rfl (by kernel_rfl) rfl ?_ ?_
            · show AllBelow _ 38
              refine ⟨⟨⟨⟨⟨⟨⟨⟨⟨⟨⟨⟨⟨⟨⟨⟨⟨⟨⟨⟨⟨⟨⟨⟨⟨⟨⟨⟨⟨⟨⟨⟨⟨⟨⟨⟨⟨⟨trivial, ?_⟩, ?_⟩, ?_⟩, ?_⟩, ?_⟩, ?_⟩, ?_⟩, ?_⟩, ?_⟩, ?_⟩, ?_⟩, ?_⟩, ?_⟩, ?_⟩, ?_⟩, ?_⟩, ?_⟩, ?_⟩, ?_⟩, ?_⟩, ?_⟩, ?_⟩, ?_⟩, ?_⟩, ?_⟩, ?_⟩, ?_⟩, ?_⟩, ?_⟩, ?_⟩, ?_⟩, ?_⟩, ?_⟩, ?_⟩, ?_⟩, ?_⟩, ?_⟩, ?_⟩
              · intro o ho a1 w1 hk hb F; obtain rfl := Option.some.inj ho; have f0 : a1.tmps[3]?.getD undef = .pointer (some ⟨p, 0, none⟩) := (Array.getD_eq_getD_getElem?).symm.trans (hk.free (j := 3) rfl); refine wpOp_val rfl rfl (v := .pointer (some ⟨p, 0, none⟩)) ?_ ⟨_, rfl, Below.refl _ _, rfl⟩; (simp [execOp, Act.eval, go_sem, f0]) <;> rfl
              · intro o ho a1 w1 hk hb F; obtain rfl := Option.some.inj ho; have f0 : a1.tmps[83]?.getD undef = .pointer (some ⟨p, 0, none⟩) := (Array.getD_eq_getD_getElem?).symm.trans (F 0 _ rfl rfl); refine wpOp_call rfl rfl (f := 21) (args := #[.pointer (some ⟨p, 0, none⟩), .int .i64 1]) ?_ ((cW.out _ (hF.out.keep hb)).mono fun e w2 ⟨A, cc, he, hb2⟩ => ⟨_, he, _, rfl, hb2, A, cc, rfl⟩); simp [execOp, Act.eval, go_sem, f0]
              · intro o ho a1 w1 hk hb F; obtain rfl := Option.some.inj ho; obtain ⟨Af0, cf0, f0⟩ := F 1 _ rfl rfl; replace f0 := (Array.getD_eq_getD_getElem?).symm.trans f0; refine wpOp_val rfl rfl (v := .int .i64 0) ?_ ⟨_, rfl, Below.refl _ _, rfl⟩; (simp [execOp, Act.eval, go_sem, f0]) <;> rfl
              · intro o ho a1 w1 hk hb F; obtain rfl := Option.some.inj ho; have f0 : a1.tmps[6]?.getD undef = .int .i64 1 := (Array.getD_eq_getD_getElem?).symm.trans (hk.free (j := 6) rfl); refine wpOp_val rfl rfl (v := .int .i64 1) ?_ ⟨_, rfl, Below.refl _ _, rfl⟩; (simp [execOp, Act.eval, go_sem, f0]) <;> rfl
              · intro o ho a1 w1 hk hb F; obtain rfl := Option.some.inj ho; have f0 : a1.tmps[7]?.getD undef = .pointer (some ⟨w9.heap.size, 0, none⟩) := (Array.getD_eq_getD_getElem?).symm.trans (hk.free (j := 7) rfl); have f1 : a1.tmps[86]?.getD undef = .int .i64 1 := (Array.getD_eq_getD_getElem?).symm.trans (F 3 _ rfl rfl); refine wpOp_val rfl rfl (v := .pointer (some ⟨w9.heap.size, 1, none⟩)) ?_ ⟨_, rfl, Below.refl _ _, rfl⟩; (simp [execOp, Act.eval, go_sem, f0, f1]) <;> rfl
              · intro o ho a1 w1 hk hb F; obtain rfl := Option.some.inj ho; have f0 : a1.tmps[87]?.getD undef = .pointer (some ⟨w9.heap.size, 1, none⟩) := (Array.getD_eq_getD_getElem?).symm.trans (F 4 _ rfl rfl); have c := xk.out _ hb; refine wpOp_val rfl rfl (v := .int .i64 0) ?_ ⟨_, rfl, Below.refl _ _, rfl⟩; (simp [execOp, Act.eval, go_sem, f0, c]) <;> rfl
              · intro o ho a1 w1 hk hb F; obtain rfl := Option.some.inj ho; have f0 : a1.tmps[85]?.getD undef = .int .i64 0 := (Array.getD_eq_getD_getElem?).symm.trans (F 2 _ rfl rfl); have f1 : a1.tmps[88]?.getD undef = .int .i64 0 := (Array.getD_eq_getD_getElem?).symm.trans (F 5 _ rfl rfl); refine wpOp_val rfl rfl (v := .bool true) ?_ ⟨_, rfl, Below.refl _ _, rfl⟩; (simp [execOp, Act.eval, go_sem, f0, f1]) <;> rfl
              · intro o ho a1 w1 hk hb F; obtain rfl := Option.some.inj ho; have f0 : a1.tmps[89]?.getD undef = .bool true := (Array.getD_eq_getD_getElem?).symm.trans (F 6 _ rfl rfl); refine wpOp_val rfl rfl (v := .bool true) ?_ ⟨_, rfl, Below.refl _ _, rfl⟩; (simp [execOp, Act.eval, go_sem, f0]) <;> rfl
              · intro o ho a1 w1 hk hb F; obtain rfl := Option.some.inj ho; have fg : a1.tmps[90]?.getD undef = .bool true := (Array.getD_eq_getD_getElem?).symm.trans (F 7 _ rfl rfl); have f0 : a1.tmps[6]?.getD undef = .int .i64 1 := (Array.getD_eq_getD_getElem?).symm.trans (hk.free (j := 6) rfl); refine wpOp_valG rfl (wanted_on rfl rfl fg) (v := .int .i64 1) ?_ ⟨_, rfl, Below.refl _ _, rfl⟩; (simp [execOp, Act.eval, go_sem, f0]) <;> rfl
              · intro o ho a1 w1 hk hb F; obtain rfl := Option.some.inj ho; have fg : a1.tmps[90]?.getD undef = .bool true := (Array.getD_eq_getD_getElem?).symm.trans (F 7 _ rfl rfl); have f0 : a1.tmps[91]?.getD undef = .int .i64 1 := (Array.getD_eq_getD_getElem?).symm.trans (F 8 _ rfl rfl); refine wpOp_valG rfl (wanted_on rfl rfl fg) (v := .bool false) ?_ ⟨_, rfl, Below.refl _ _, rfl⟩; (simp [execOp, Act.eval, go_sem, f0]) <;> rfl
              · intro o ho a1 w1 hk hb F; obtain rfl := Option.some.inj ho; have fg : a1.tmps[90]?.getD undef = .bool true := (Array.getD_eq_getD_getElem?).symm.trans (F 7 _ rfl rfl); have f0 : a1.tmps[92]?.getD undef = .bool false := (Array.getD_eq_getD_getElem?).symm.trans (F 9 _ rfl rfl); refine wpOp_valG rfl (wanted_on rfl rfl fg) (v := .bool false) ?_ ⟨_, rfl, Below.refl _ _, rfl⟩; (simp [execOp, Act.eval, go_sem, f0]) <;> rfl
              · intro o ho a1 w1 hk hb F; obtain rfl := Option.some.inj ho; have fg : a1.tmps[93]?.getD undef = .bool false := (Array.getD_eq_getD_getElem?).symm.trans (F 10 _ rfl rfl); have f0 : a1.tmps[3]?.getD undef = .pointer (some ⟨p, 0, none⟩) := (Array.getD_eq_getD_getElem?).symm.trans (hk.free (j := 3) rfl); refine wpOp_valG rfl (wanted_on rfl rfl fg) (v := .pointer (some ⟨p, 0, none⟩)) ?_ ⟨_, rfl, Below.refl _ _, rfl⟩; (simp [execOp, Act.eval, go_sem, f0]) <;> rfl
              · intro o ho a1 w1 hk hb F; obtain rfl := Option.some.inj ho; have fg : a1.tmps[93]?.getD undef = .bool false := (Array.getD_eq_getD_getElem?).symm.trans (F 10 _ rfl rfl); have f0 : a1.tmps[6]?.getD undef = .int .i64 1 := (Array.getD_eq_getD_getElem?).symm.trans (hk.free (j := 6) rfl); refine wpOp_valG rfl (wanted_on rfl rfl fg) (v := .int .i64 1) ?_ ⟨_, rfl, Below.refl _ _, rfl⟩; (simp [execOp, Act.eval, go_sem, f0]) <;> rfl
              · intro o ho a1 w1 hk hb F; obtain rfl := Option.some.inj ho; have fg : a1.tmps[93]?.getD undef = .bool false := (Array.getD_eq_getD_getElem?).symm.trans (F 10 _ rfl rfl); have f0 : a1.tmps[95]?.getD undef = .int .i64 1 := (Array.getD_eq_getD_getElem?).symm.trans (F 12 _ rfl rfl); refine wpOp_valG rfl (wanted_on rfl rfl fg) (v := .int .i64 2) ?_ ⟨_, rfl, Below.refl _ _, rfl⟩; (simp [execOp, Act.eval, go_sem, f0]) <;> rfl
              · intro o ho a1 w1 hk hb F; obtain rfl := Option.some.inj ho; have fg : a1.tmps[93]?.getD undef = .bool false := (Array.getD_eq_getD_getElem?).symm.trans (F 10 _ rfl rfl); have f0 : a1.tmps[94]?.getD undef = .pointer (some ⟨p, 0, none⟩) := (Array.getD_eq_getD_getElem?).symm.trans (F 11 _ rfl rfl); have f1 : a1.tmps[96]?.getD undef = .int .i64 2 := (Array.getD_eq_getD_getElem?).symm.trans (F 13 _ rfl rfl); refine wpOp_callG rfl (wanted_on rfl rfl fg) (f := 20) (args := #[.pointer (some ⟨p, 0, none⟩), .int .i64 2]) ?_ ((cP.out _ (hF.out.keep hb)).mono fun e w2 ⟨he, hb2⟩ => ⟨_, he, _, rfl, hb2, rfl⟩); simp [execOp, Act.eval, go_sem, f0, f1]
              · intro o ho a1 w1 hk hb F; obtain rfl := Option.some.inj ho; have fg : a1.tmps[93]?.getD undef = .bool false := (Array.getD_eq_getD_getElem?).symm.trans (F 10 _ rfl rfl); have f0 : a1.tmps[97]?.getD undef = .int .i64 0 := (Array.getD_eq_getD_getElem?).symm.trans (F 14 _ rfl rfl); refine wpOp_valG rfl (wanted_on rfl rfl fg) (v := .bool true) ?_ ⟨_, rfl, Below.refl _ _, rfl⟩; (simp [execOp, Act.eval, go_sem, f0]) <;> rfl
              · intro o ho a1 w1 hk hb F; obtain rfl := Option.some.inj ho; have fg : a1.tmps[93]?.getD undef = .bool false := (Array.getD_eq_getD_getElem?).symm.trans (F 10 _ rfl rfl); have f0 : a1.tmps[98]?.getD undef = .bool true := (Array.getD_eq_getD_getElem?).symm.trans (F 15 _ rfl rfl); refine wpOp_valG rfl (wanted_on rfl rfl fg) (v := .bool true) ?_ ⟨_, rfl, Below.refl _ _, rfl⟩; (simp [execOp, Act.eval, go_sem, f0]) <;> rfl
              · intro o ho a1 w1 hk hb F; obtain rfl := Option.some.inj ho; have fg : a1.tmps[99]?.getD undef = .bool true := (Array.getD_eq_getD_getElem?).symm.trans (F 16 _ rfl rfl); have f0 : a1.tmps[3]?.getD undef = .pointer (some ⟨p, 0, none⟩) := (Array.getD_eq_getD_getElem?).symm.trans (hk.free (j := 3) rfl); refine wpOp_valG rfl (wanted_on rfl rfl fg) (v := .pointer (some ⟨p, 0, none⟩)) ?_ ⟨_, rfl, Below.refl _ _, rfl⟩; (simp [execOp, Act.eval, go_sem, f0]) <;> rfl
              · intro o ho a1 w1 hk hb F; obtain rfl := Option.some.inj ho; have fg : a1.tmps[99]?.getD undef = .bool true := (Array.getD_eq_getD_getElem?).symm.trans (F 16 _ rfl rfl); have f0 : a1.tmps[6]?.getD undef = .int .i64 1 := (Array.getD_eq_getD_getElem?).symm.trans (hk.free (j := 6) rfl); refine wpOp_valG rfl (wanted_on rfl rfl fg) (v := .int .i64 1) ?_ ⟨_, rfl, Below.refl _ _, rfl⟩; (simp [execOp, Act.eval, go_sem, f0]) <;> rfl
              · intro o ho a1 w1 hk hb F; obtain rfl := Option.some.inj ho; have fg : a1.tmps[99]?.getD undef = .bool true := (Array.getD_eq_getD_getElem?).symm.trans (F 16 _ rfl rfl); have f0 : a1.tmps[101]?.getD undef = .int .i64 1 := (Array.getD_eq_getD_getElem?).symm.trans (F 18 _ rfl rfl); refine wpOp_valG rfl (wanted_on rfl rfl fg) (v := .int .i64 2) ?_ ⟨_, rfl, Below.refl _ _, rfl⟩; (simp [execOp, Act.eval, go_sem, f0]) <;> rfl
              · intro o ho a1 w1 hk hb F; obtain rfl := Option.some.inj ho; have fg : a1.tmps[99]?.getD undef = .bool true := (Array.getD_eq_getD_getElem?).symm.trans (F 16 _ rfl rfl); have f0 : a1.tmps[100]?.getD undef = .pointer (some ⟨p, 0, none⟩) := (Array.getD_eq_getD_getElem?).symm.trans (F 17 _ rfl rfl); have f1 : a1.tmps[102]?.getD undef = .int .i64 2 := (Array.getD_eq_getD_getElem?).symm.trans (F 19 _ rfl rfl); refine wpOp_callG rfl (wanted_on rfl rfl fg) (f := 23) (args := #[.pointer (some ⟨p, 0, none⟩), .int .i64 2]) ?_ ((cS.out _ (hF.out.keep hb)).mono fun e w2 ⟨he, hb2⟩ => ⟨_, he, _, rfl, hb2, rfl⟩); simp [execOp, Act.eval, go_sem, f0, f1]
              · intro o ho a1 w1 hk hb F; obtain rfl := Option.some.inj ho; have fg : a1.tmps[99]?.getD undef = .bool true := (Array.getD_eq_getD_getElem?).symm.trans (F 16 _ rfl rfl); have f0 : a1.tmps[103]?.getD undef = .bool false := (Array.getD_eq_getD_getElem?).symm.trans (F 20 _ rfl rfl); refine wpOp_valG rfl (wanted_on rfl rfl fg) (v := .bool true) ?_ ⟨_, rfl, Below.refl _ _, rfl⟩; (simp [execOp, Act.eval, go_sem, f0]) <;> rfl
              · intro o ho a1 w1 hk hb F; obtain rfl := Option.some.inj ho; have fg : a1.tmps[93]?.getD undef = .bool false := (Array.getD_eq_getD_getElem?).symm.trans (F 10 _ rfl rfl); have f0 : a1.tmps[99]?.getD undef = .bool true := (Array.getD_eq_getD_getElem?).symm.trans (F 16 _ rfl rfl); have f1 : a1.tmps[104]?.getD undef = .bool true := (Array.getD_eq_getD_getElem?).symm.trans (F 21 _ rfl rfl); refine wpOp_valG rfl (wanted_on rfl rfl fg) (v := .bool true) ?_ ⟨_, rfl, Below.refl _ _, rfl⟩; (simp [execOp, Act.eval, go_sem, f0, f1]) <;> rfl
              · intro o ho a1 w1 hk hb F; obtain rfl := Option.some.inj ho; have fg : a1.tmps[90]?.getD undef = .bool true := (Array.getD_eq_getD_getElem?).symm.trans (F 7 _ rfl rfl); have f0 : a1.tmps[93]?.getD undef = .bool false := (Array.getD_eq_getD_getElem?).symm.trans (F 10 _ rfl rfl); have f1 : a1.tmps[105]?.getD undef = .bool true := (Array.getD_eq_getD_getElem?).symm.trans (F 22 _ rfl rfl); refine wpOp_valG rfl (wanted_on rfl rfl fg) (v := .bool true) ?_ ⟨_, rfl, Below.refl _ _, rfl⟩; (simp [execOp, Act.eval, go_sem, f0, f1]) <;> rfl
              · intro o ho a1 w1 hk hb F; obtain rfl := Option.some.inj ho; have f0 : a1.tmps[90]?.getD undef = .bool true := (Array.getD_eq_getD_getElem?).symm.trans (F 7 _ rfl rfl); have f1 : a1.tmps[106]?.getD undef = .bool true := (Array.getD_eq_getD_getElem?).symm.trans (F 23 _ rfl rfl); refine wpOp_val rfl rfl (v := .bool true) ?_ ⟨_, rfl, Below.refl _ _, rfl⟩; (simp [execOp, Act.eval, go_sem, f0, f1]) <;> rfl
              · intro o ho a1 w1 hk hb F; obtain rfl := Option.some.inj ho; have f0 : a1.tmps[107]?.getD undef = .bool true := (Array.getD_eq_getD_getElem?).symm.trans (F 24 _ rfl rfl); refine wpOp_val rfl rfl (v := .bool true) ?_ ⟨_, rfl, Below.refl _ _, rfl⟩; (simp [execOp, Act.eval, go_sem, f0]) <;> rfl
              · intro o ho a1 w1 hk hb F; obtain rfl := Option.some.inj ho; have fg : a1.tmps[108]?.getD undef = .bool true := (Array.getD_eq_getD_getElem?).symm.trans (F 25 _ rfl rfl); have f0 : a1.tmps[6]?.getD undef = .int .i64 1 := (Array.getD_eq_getD_getElem?).symm.trans (hk.free (j := 6) rfl); refine wpOp_valG rfl (wanted_on rfl rfl fg) (v := .int .i64 1) ?_ ⟨_, rfl, Below.refl _ _, rfl⟩; (simp [execOp, Act.eval, go_sem, f0]) <;> rfl
              · intro o ho a1 w1 hk hb F; obtain rfl := Option.some.inj ho; have fg : a1.tmps[108]?.getD undef = .bool true := (Array.getD_eq_getD_getElem?).symm.trans (F 25 _ rfl rfl); have f0 : a1.tmps[109]?.getD undef = .int .i64 1 := (Array.getD_eq_getD_getElem?).symm.trans (F 26 _ rfl rfl); refine wpOp_valG rfl (wanted_on rfl rfl fg) (v := .bool false) ?_ ⟨_, rfl, Below.refl _ _, rfl⟩; (simp [execOp, Act.eval, go_sem, f0]) <;> rfl
              · intro o ho a1 w1 hk hb F; obtain rfl := Option.some.inj ho; have fg : a1.tmps[108]?.getD undef = .bool true := (Array.getD_eq_getD_getElem?).symm.trans (F 25 _ rfl rfl); have f0 : a1.tmps[110]?.getD undef = .bool false := (Array.getD_eq_getD_getElem?).symm.trans (F 27 _ rfl rfl); refine wpOp_valG rfl (wanted_on rfl rfl fg) (v := .bool false) ?_ ⟨_, rfl, Below.refl _ _, rfl⟩; (simp [execOp, Act.eval, go_sem, f0]) <;> rfl
              · intro o ho a1 w1 hk hb F; obtain rfl := Option.some.inj ho; have fg : a1.tmps[111]?.getD undef = .bool false := (Array.getD_eq_getD_getElem?).symm.trans (F 28 _ rfl rfl); have f0 : a1.tmps[3]?.getD undef = .pointer (some ⟨p, 0, none⟩) := (Array.getD_eq_getD_getElem?).symm.trans (hk.free (j := 3) rfl); refine wpOp_valG rfl (wanted_on rfl rfl fg) (v := .pointer (some ⟨p, 0, none⟩)) ?_ ⟨_, rfl, Below.refl _ _, rfl⟩; (simp [execOp, Act.eval, go_sem, f0]) <;> rfl
              · intro o ho a1 w1 hk hb F; obtain rfl := Option.some.inj ho; have fg : a1.tmps[111]?.getD undef = .bool false := (Array.getD_eq_getD_getElem?).symm.trans (F 28 _ rfl rfl); have f0 : a1.tmps[112]?.getD undef = .pointer (some ⟨p, 0, none⟩) := (Array.getD_eq_getD_getElem?).symm.trans (F 29 _ rfl rfl); refine wpOp_callG rfl (wanted_on rfl rfl fg) (f := 21) (args := #[.pointer (some ⟨p, 0, none⟩), .int .i64 2]) ?_ ((cT1.out _ (hF.out.keep hb)).mono fun e w2 ⟨A, cc, he, hb2⟩ => ⟨_, he, _, rfl, hb2, A, cc, rfl⟩); simp [execOp, Act.eval, go_sem, f0]
              · intro o ho a1 w1 hk hb F; obtain rfl := Option.some.inj ho; have fg : a1.tmps[111]?.getD undef = .bool false := (Array.getD_eq_getD_getElem?).symm.trans (F 28 _ rfl rfl); obtain ⟨Af0, cf0, f0⟩ := F 30 _ rfl rfl; replace f0 := (Array.getD_eq_getD_getElem?).symm.trans f0; refine wpOp_valG rfl (wanted_on rfl rfl fg) (v := .int .i64 2) ?_ ⟨_, rfl, Below.refl _ _, rfl⟩; (simp [execOp, Act.eval, go_sem, f0]) <;> rfl
              · intro o ho a1 w1 hk hb F; obtain rfl := Option.some.inj ho; have fg : a1.tmps[111]?.getD undef = .bool false := (Array.getD_eq_getD_getElem?).symm.trans (F 28 _ rfl rfl); have f0 : a1.tmps[114]?.getD undef = .int .i64 2 := (Array.getD_eq_getD_getElem?).symm.trans (F 31 _ rfl rfl); refine wpOp_valG rfl (wanted_on rfl rfl fg) (v := .bool true) ?_ ⟨_, rfl, Below.refl _ _, rfl⟩; (simp [execOp, Act.eval, go_sem, f0]) <;> rfl
              · intro o ho a1 w1 hk hb F; obtain rfl := Option.some.inj ho; have fg : a1.tmps[108]?.getD undef = .bool true := (Array.getD_eq_getD_getElem?).symm.trans (F 25 _ rfl rfl); have f0 : a1.tmps[111]?.getD undef = .bool false := (Array.getD_eq_getD_getElem?).symm.trans (F 28 _ rfl rfl); have f1 : a1.tmps[115]?.getD undef = .bool true := (Array.getD_eq_getD_getElem?).symm.trans (F 32 _ rfl rfl); refine wpOp_valG rfl (wanted_on rfl rfl fg) (v := .bool true) ?_ ⟨_, rfl, Below.refl _ _, rfl⟩; (simp [execOp, Act.eval, go_sem, f0, f1]) <;> rfl
              · intro o ho a1 w1 hk hb F; obtain rfl := Option.some.inj ho; have f0 : a1.tmps[108]?.getD undef = .bool true := (Array.getD_eq_getD_getElem?).symm.trans (F 25 _ rfl rfl); have f1 : a1.tmps[116]?.getD undef = .bool true := (Array.getD_eq_getD_getElem?).symm.trans (F 33 _ rfl rfl); refine wpOp_val rfl rfl (v := .bool true) ?_ ⟨_, rfl, Below.refl _ _, rfl⟩; (simp [execOp, Act.eval, go_sem, f0, f1]) <;> rfl
              · intro o ho a1 w1 hk hb F; obtain rfl := Option.some.inj ho; have f0 : a1.tmps[117]?.getD undef = .bool true := (Array.getD_eq_getD_getElem?).symm.trans (F 34 _ rfl rfl); refine wpOp_val rfl rfl (v := .bool true) ?_ ⟨_, rfl, Below.refl _ _, rfl⟩; (simp [execOp, Act.eval, go_sem, f0]) <;> rfl
              · intro o ho a1 w1 hk hb F; obtain rfl := Option.some.inj ho; have fg : a1.tmps[118]?.getD undef = .bool true := (Array.getD_eq_getD_getElem?).symm.trans (F 35 _ rfl rfl); refine wpOp_callG rfl (wanted_on rfl rfl fg) (f := 17) (args := #[]) ?_ ((cA.out _ (hF.out.keep hb)).mono fun e w2 ⟨he, hb2⟩ => ⟨_, he, _, rfl, hb2, rfl⟩); simp [execOp, Act.eval, go_sem]
              · intro o ho a1 w1 hk hb F; obtain rfl := Option.some.inj ho; have f0 : a1.tmps[118]?.getD undef = .bool true := (Array.getD_eq_getD_getElem?).symm.trans (F 35 _ rfl rfl); have f1 : a1.tmps[119]?.getD undef = .bool true := (Array.getD_eq_getD_getElem?).symm.trans (F 36 _ rfl rfl); refine wpOp_val rfl rfl (v := .bool true) ?_ ⟨_, rfl, Below.refl _ _, rfl⟩; (simp [execOp, Act.eval, go_sem, f0, f1]) <;> rfl
            · intro a1 w1 hk hb F
              have f : a1.tmps[120]?.getD undef = .bool true := (Array.getD_eq_getD_getElem?).symm.trans (F 37 _ rfl (by decide))
              refine wpOp_val rfl rfl (v := .bool true) (w' := w1) (by simp [execOp, Act.eval, go_sem, f]) ?_
              have e2 : (a1.put (some 2) (.bool true)).tmps.getD 2 undef = .bool true := (getD_set _ _ _ _ (by rw [show a1.tmps.size = 121 from hk.size]; decide)).trans (if_pos rfl)
              refine hKK _ _ ?_
              refine wp_ret ?_
              show bodyPost Tryd.prog Tryd.f6 _ Exit.ret _ _
              refine bodyPost_ret (results_tmp rfl _ _ _) hk.defers ?_
              exact ⟨congrArg Ending.returned e2, hWF.out.trans (hb.mono hWF.out.size)⟩
          · have xk : Hid (∀ w, Below wF.heap.size wF w → w.cell? ⟨w9.heap.size, 2, none⟩ = some (.int .i64 1)) := hide fun w hb => (hb.cell (p := ⟨w9.heap.size, 2, none⟩) xl).trans (x0 2)
            have cP := hide (cP.out (by decide))
            have cS := hide (cS.out (by decide))
            clear cT
            clear hS e1 hE x0 xl
            go_wp2
            rw [← hwF.out]
            rename_i KK hKK
            refine wp_region_plan (m := 38) (n := 121) (l := [.is (.pointer (some ⟨p, 0, none⟩)), .sl 1, .is (.int .i64 1), .is (.int .i64 2), .is (.pointer (some ⟨w9.heap.size, 2, none⟩)), .is (.int .i64 1), .is (.bool true), .is (.bool true), .is (.int .i64 2), .is (.bool false), .is (.bool false), .is (.pointer (some ⟨p, 0, none⟩)), .is (.int .i64 2), .is (.int .i64 3), .is (.int .i64 0), .is (.bool true), .is (.bool true), .is (.pointer (some ⟨p, 0, none⟩)), .is (.int .i64 2), .is (.int .i64 3), .is (.bool false), .is (.bool true), .is (.bool true), .is (.bool true), .is (.bool true), .is (.bool true), .is (.int .i64 2), .is (.bool true), .is (.bool true), .is undef, .is undef, .is undef, .is undef, .is (.bool true), .is (.bool true), .is (.bool true), .is (.bool true), .is (.bool true)]) (by kernel_rfl) rfl (by kernel_rfl) rfl ?_ ?_
            · show AllBelow _ 38
              refine ⟨⟨⟨⟨⟨⟨⟨⟨⟨⟨⟨⟨⟨⟨⟨⟨⟨⟨⟨⟨⟨⟨⟨⟨⟨⟨⟨⟨⟨⟨⟨⟨⟨⟨⟨⟨⟨⟨trivial, ?_⟩, ?_⟩, ?_⟩, ?_⟩, ?_⟩, ?_⟩, ?_⟩, ?_⟩, ?_⟩, ?_⟩, ?_⟩, ?_⟩, ?_⟩, ?_⟩, ?_⟩, ?_⟩, ?_⟩, ?_⟩, ?_⟩, ?_⟩, ?_⟩, ?_⟩, ?_⟩, ?_⟩, ?_⟩, ?_⟩, ?_⟩, ?_⟩, ?_⟩, ?_⟩, ?_⟩, ?_⟩, ?_⟩, ?_⟩, ?_⟩, ?_⟩, ?_⟩, ?_⟩
              · intro o ho a1 w1 hk hb F; obtain rfl := Option.some.inj ho; have f0 : a1.tmps[3]?.getD undef = .pointer (some ⟨p, 0, none⟩) := (Array.getD_eq_getD_getElem?).symm.trans (hk.free (j := 3) rfl); refine wpOp_val rfl rfl (v := .pointer (some ⟨p, 0, none⟩)) ?_ ⟨_, rfl, Below.refl _ _, rfl⟩; (simp [execOp, Act.eval, go_sem, f0]) <;> rfl
              · intro o ho a1 w1 hk hb F; obtain rfl := Option.some.inj ho; have f0 : a1.tmps[83]?.getD undef = .pointer (some ⟨p, 0, none⟩) := (Array.getD_eq_getD_getElem?).symm.trans (F 0 _ rfl rfl); refine wpOp_call rfl rfl (f := 21) (args := #[.pointer (some ⟨p, 0, none⟩), .int .i64 1]) ?_ ((cW.out _ (hF.out.keep hb)).mono fun e w2 ⟨A, cc, he, hb2⟩ => ⟨_, he, _, rfl, hb2, A, cc, rfl⟩); simp [execOp, Act.eval, go_sem, f0]
              · intro o ho a1 w1 hk hb F; obtain rfl := Option.some.inj ho; obtain ⟨Af0, cf0, f0⟩ := F 1 _ rfl rfl; replace f0 := (Array.getD_eq_getD_getElem?).symm.trans f0; refine wpOp_val rfl rfl (v := .int .i64 1) ?_ ⟨_, rfl, Below.refl _ _, rfl⟩; (simp [execOp, Act.eval, go_sem, f0]) <;> rfl
              · intro o ho a1 w1 hk hb F; obtain rfl := Option.some.inj ho; have f0 : a1.tmps[6]?.getD undef = .int .i64 2 := (Array.getD_eq_getD_getElem?).symm.trans (hk.free (j := 6) rfl); refine wpOp_val rfl rfl (v := .int .i64 2) ?_ ⟨_, rfl, Below.refl _ _, rfl⟩; (simp [execOp, Act.eval, go_sem, f0]) <;> rfl
              · intro o ho a1 w1 hk hb F; obtain rfl := Option.some.inj ho; have f0 : a1.tmps[7]?.getD undef = .pointer (some ⟨w9.heap.size, 0, none⟩) := (Array.getD_eq_getD_getElem?).symm.trans (hk.free (j := 7) rfl); have f1 : a1.tmps[86]?.getD undef = .int .i64 2 := (Array.getD_eq_getD_getElem?).symm.trans (F 3 _ rfl rfl); refine wpOp_val rfl rfl (v := .pointer (some ⟨w9.heap.size, 2, none⟩)) ?_ ⟨_, rfl, Below.refl _ _, rfl⟩; (simp [execOp, Act.eval, go_sem, f0, f1]) <;> rfl
              · intro o ho a1 w1 hk hb F; obtain rfl := Option.some.inj ho; have f0 : a1.tmps[87]?.getD undef = .pointer (some ⟨w9.heap.size, 2, none⟩) := (Array.getD_eq_getD_getElem?).symm.trans (F 4 _ rfl rfl); have c := xk.out _ hb; refine wpOp_val rfl rfl (v := .int .i64 1) ?_ ⟨_, rfl, Below.refl _ _, rfl⟩; (simp [execOp, Act.eval, go_sem, f0, c]) <;> rfl
              · intro o ho a1 w1 hk hb F; obtain rfl := Option.some.inj ho; have f0 : a1.tmps[85]?.getD undef = .int .i64 1 := (Array.getD_eq_getD_getElem?).symm.trans (F 2 _ rfl rfl); have f1 : a1.tmps[88]?.getD undef = .int .i64 1 := (Array.getD_eq_getD_getElem?).symm.trans (F 5 _ rfl rfl); refine wpOp_val rfl rfl (v := .bool true) ?_ ⟨_, rfl, Below.refl _ _, rfl⟩; (simp [execOp, Act.eval, go_sem, f0, f1]) <;> rfl
              · intro o ho a1 w1 hk hb F; obtain rfl := Option.some.inj ho; have f0 : a1.tmps[89]?.getD undef = .bool true := (Array.getD_eq_getD_getElem?).symm.trans (F 6 _ rfl rfl); refine wpOp_val rfl rfl (v := .bool true) ?_ ⟨_, rfl, Below.refl _ _, rfl⟩; (simp [execOp, Act.eval, go_sem, f0]) <;> rfl
              · intro o ho a1 w1 hk hb F; obtain rfl := Option.some.inj ho; have fg : a1.tmps[90]?.getD undef = .bool true := (Array.getD_eq_getD_getElem?).symm.trans (F 7 _ rfl rfl); have f0 : a1.tmps[6]?.getD undef = .int .i64 2 := (Array.getD_eq_getD_getElem?).symm.trans (hk.free (j := 6) rfl); refine wpOp_valG rfl (wanted_on rfl rfl fg) (v := .int .i64 2) ?_ ⟨_, rfl, Below.refl _ _, rfl⟩; (simp [execOp, Act.eval, go_sem, f0]) <;> rfl
              · intro o ho a1 w1 hk hb F; obtain rfl := Option.some.inj ho; have fg : a1.tmps[90]?.getD undef = .bool true := (Array.getD_eq_getD_getElem?).symm.trans (F 7 _ rfl rfl); have f0 : a1.tmps[91]?.getD undef = .int .i64 2 := (Array.getD_eq_getD_getElem?).symm.trans (F 8 _ rfl rfl); refine wpOp_valG rfl (wanted_on rfl rfl fg) (v := .bool false) ?_ ⟨_, rfl, Below.refl _ _, rfl⟩; (simp [execOp, Act.eval, go_sem, f0]) <;> rfl
              · intro o ho a1 w1 hk hb F; obtain rfl := Option.some.inj ho; have fg : a1.tmps[90]?.getD undef = .bool true := (Array.getD_eq_getD_getElem?).symm.trans (F 7 _ rfl rfl); have f0 : a1.tmps[92]?.getD undef = .bool false := (Array.getD_eq_getD_getElem?).symm.trans (F 9 _ rfl rfl); refine wpOp_valG rfl (wanted_on rfl rfl fg) (v := .bool false) ?_ ⟨_, rfl, Below.refl _ _, rfl⟩; (simp [execOp, Act.eval, go_sem, f0]) <;> rfl
              · intro o ho a1 w1 hk hb F; obtain rfl := Option.some.inj ho; have fg : a1.tmps[93]?.getD undef = .bool false := (Array.getD_eq_getD_getElem?).symm.trans (F 10 _ rfl rfl); have f0 : a1.tmps[3]?.getD undef = .pointer (some ⟨p, 0, none⟩) := (Array.getD_eq_getD_getElem?).symm.trans (hk.free (j := 3) rfl); refine wpOp_valG rfl (wanted_on rfl rfl fg) (v := .pointer (some ⟨p, 0, none⟩)) ?_ ⟨_, rfl, Below.refl _ _, rfl⟩; (simp [execOp, Act.eval, go_sem, f0]) <;> rfl
              · intro o ho a1 w1 hk hb F; obtain rfl := Option.some.inj ho; have fg : a1.tmps[93]?.getD undef = .bool false := (Array.getD_eq_getD_getElem?).symm.trans (F 10 _ rfl rfl); have f0 : a1.tmps[6]?.getD undef = .int .i64 2 := (Array.getD_eq_getD_getElem?).symm.trans (hk.free (j := 6) rfl); refine wpOp_valG rfl (wanted_on rfl rfl fg) (v := .int .i64 2) ?_ ⟨_, rfl, Below.refl _ _, rfl⟩; (simp [execOp, Act.eval, go_sem, f0]) <;> rfl
              · intro o ho a1 w1 hk hb F; obtain rfl := Option.some.inj ho; have fg : a1.tmps[93]?.getD undef = .bool false := (Array.getD_eq_getD_getElem?).symm.trans (F 10 _ rfl rfl); have f0 : a1.tmps[95]?.getD undef = .int .i64 2 := (Array.getD_eq_getD_getElem?).symm.trans (F 12 _ rfl rfl); refine wpOp_valG rfl (wanted_on rfl rfl fg) (v := .int .i64 3) ?_ ⟨_, rfl, Below.refl _ _, rfl⟩; (simp [execOp, Act.eval, go_sem, f0]) <;> rfl
              · intro o ho a1 w1 hk hb F; obtain rfl := Option.some.inj ho; have fg : a1.tmps[93]?.getD undef = .bool false := (Array.getD_eq_getD_getElem?).symm.trans (F 10 _ rfl rfl); have f0 : a1.tmps[94]?.getD undef = .pointer (some ⟨p, 0, none⟩) := (Array.getD_eq_getD_getElem?).symm.trans (F 11 _ rfl rfl); have f1 : a1.tmps[96]?.getD undef = .int .i64 3 := (Array.getD_eq_getD_getElem?).symm.trans (F 13 _ rfl rfl); refine wpOp_callG rfl (wanted_on rfl rfl fg) (f := 20) (args := #[.pointer (some ⟨p, 0, none⟩), .int .i64 3]) ?_ ((cP.out _ (hF.out.keep hb)).mono fun e w2 ⟨he, hb2⟩ => ⟨_, he, _, rfl, hb2, rfl⟩); simp [execOp, Act.eval, go_sem, f0, f1]
              · intro o ho a1 w1 hk hb F; obtain rfl := Option.some.inj ho; have fg : a1.tmps[93]?.getD undef = .bool false := (Array.getD_eq_getD_getElem?).symm.trans (F 10 _ rfl rfl); have f0 : a1.tmps[97]?.getD undef = .int .i64 0 := (Array.getD_eq_getD_getElem?).symm.trans (F 14 _ rfl rfl); refine wpOp_valG rfl (wanted_on rfl rfl fg) (v := .bool true) ?_ ⟨_, rfl, Below.refl _ _, rfl⟩; (simp [execOp, Act.eval, go_sem, f0]) <;> rfl
              · intro o ho a1 w1 hk hb F; obtain rfl := Option.some.inj ho; have fg : a1.tmps[93]?.getD undef = .bool false := (Array.getD_eq_getD_getElem?).symm.trans (F 10 _ rfl rfl); have f0 : a1.tmps[98]?.getD undef = .bool true := (Array.getD_eq_getD_getElem?).symm.trans (F 15 _ rfl rfl); refine wpOp_valG rfl (wanted_on rfl rfl fg) (v := .bool true) ?_ ⟨_, rfl, Below.refl _ _, rfl⟩; (simp [execOp, Act.eval, go_sem, f0]) <;> rfl
              · intro o ho a1 w1 hk hb F; obtain rfl := Option.some.inj ho; have fg : a1.tmps[99]?.getD undef = .bool true := (Array.getD_eq_getD_getElem?).symm.trans (F 16 _ rfl rfl); have f0 : a1.tmps[3]?.getD undef = .pointer (some ⟨p, 0, none⟩) := (Array.getD_eq_getD_getElem?).symm.trans (hk.free (j := 3) rfl); refine wpOp_valG rfl (wanted_on rfl rfl fg) (v := .pointer (some ⟨p, 0, none⟩)) ?_ ⟨_, rfl, Below.refl _ _, rfl⟩; (simp [execOp, Act.eval, go_sem, f0]) <;> rfl
              · intro o ho a1 w1 hk hb F; obtain rfl := Option.some.inj ho; have fg : a1.tmps[99]?.getD undef = .bool true := (Array.getD_eq_getD_getElem?).symm.trans (F 16 _ rfl rfl); have f0 : a1.tmps[6]?.getD undef = .int .i64 2 := (Array.getD_eq_getD_getElem?).symm.trans (hk.free (j := 6) rfl); refine wpOp_valG rfl (wanted_on rfl rfl fg) (v := .int .i64 2) ?_ ⟨_, rfl, Below.refl _ _, rfl⟩; (simp [execOp, Act.eval, go_sem, f0]) <;> rfl
              · intro o ho a1 w1 hk hb F; obtain rfl := Option.some.inj ho; have fg : a1.tmps[99]?.getD undef = .bool true := (Array.getD_eq_getD_getElem?).symm.trans (F 16 _ rfl rfl); have f0 : a1.tmps[101]?.getD undef = .int .i64 2 := (Array.getD_eq_getD_getElem?).symm.trans (F 18 _ rfl rfl); refine wpOp_valG rfl (wanted_on rfl rfl fg) (v := .int .i64 3) ?_ ⟨_, rfl, Below.refl _ _, rfl⟩; (simp [execOp, Act.eval, go_sem, f0]) <;> rfl
              · intro o ho a1 w1 hk hb F; obtain rfl := Option.some.inj ho; have fg : a1.tmps[99]?.getD undef = .bool true := (Array.getD_eq_getD_getElem?).symm.trans (F 16 _ rfl rfl); have f0 : a1.tmps[100]?.getD undef = .pointer (some ⟨p, 0, none⟩) := (Array.getD_eq_getD_getElem?).symm.trans (F 17 _ rfl rfl); have f1 : a1.tmps[102]?.getD undef = .int .i64 3 := (Array.getD_eq_getD_getElem?).symm.trans (F 19 _ rfl rfl); refine wpOp_callG rfl (wanted_on rfl rfl fg) (f := 23) (args := #[.pointer (some ⟨p, 0, none⟩), .int .i64 3]) ?_ ((cS.out _ (hF.out.keep hb)).mono fun e w2 ⟨he, hb2⟩ => ⟨_, he, _, rfl, hb2, rfl⟩); simp [execOp, Act.eval, go_sem, f0, f1]
              · intro o ho a1 w1 hk hb F; obtain rfl := Option.some.inj ho; have fg : a1.tmps[99]?.getD undef = .bool true := (Array.getD_eq_getD_getElem?).symm.trans (F 16 _ rfl rfl); have f0 : a1.tmps[103]?.getD undef = .bool false := (Array.getD_eq_getD_getElem?).symm.trans (F 20 _ rfl rfl); refine wpOp_valG rfl (wanted_on rfl rfl fg) (v := .bool true) ?_ ⟨_, rfl, Below.refl _ _, rfl⟩; (simp [execOp, Act.eval, go_sem, f0]) <;> rfl
              · intro o ho a1 w1 hk hb F; obtain rfl := Option.some.inj ho; have fg : a1.tmps[93]?.getD undef = .bool false := (Array.getD_eq_getD_getElem?).symm.trans (F 10 _ rfl rfl); have f0 : a1.tmps[99]?.getD undef = .bool true := (Array.getD_eq_getD_getElem?).symm.trans (F 16 _ rfl rfl); have f1 : a1.tmps[104]?.getD undef = .bool true := (Array.getD_eq_getD_getElem?).symm.trans (F 21 _ rfl rfl); refine wpOp_valG rfl (wanted_on rfl rfl fg) (v := .bool true) ?_ ⟨_, rfl, Below.refl _ _, rfl⟩; (simp [execOp, Act.eval, go_sem, f0, f1]) <;> rfl
              · intro o ho a1 w1 hk hb F; obtain rfl := Option.some.inj ho; have fg : a1.tmps[90]?.getD undef = .bool true := (Array.getD_eq_getD_getElem?).symm.trans (F 7 _ rfl rfl); have f0 : a1.tmps[93]?.getD undef = .bool false := (Array.getD_eq_getD_getElem?).symm.trans (F 10 _ rfl rfl); have f1 : a1.tmps[105]?.getD undef = .bool true := (Array.getD_eq_getD_getElem?).symm.trans (F 22 _ rfl rfl); refine wpOp_valG rfl (wanted_on rfl rfl fg) (v := .bool true) ?_ ⟨_, rfl, Below.refl _ _, rfl⟩; (simp [execOp, Act.eval, go_sem, f0, f1]) <;> rfl
              · intro o ho a1 w1 hk hb F; obtain rfl := Option.some.inj ho; have f0 : a1.tmps[90]?.getD undef = .bool true := (Array.getD_eq_getD_getElem?).symm.trans (F 7 _ rfl rfl); have f1 : a1.tmps[106]?.getD undef = .bool true := (Array.getD_eq_getD_getElem?).symm.trans (F 23 _ rfl rfl); refine wpOp_val rfl rfl (v := .bool true) ?_ ⟨_, rfl, Below.refl _ _, rfl⟩; (simp [execOp, Act.eval, go_sem, f0, f1]) <;> rfl
              · intro o ho a1 w1 hk hb F; obtain rfl := Option.some.inj ho; have f0 : a1.tmps[107]?.getD undef = .bool true := (Array.getD_eq_getD_getElem?).symm.trans (F 24 _ rfl rfl); refine wpOp_val rfl rfl (v := .bool true) ?_ ⟨_, rfl, Below.refl _ _, rfl⟩; (simp [execOp, Act.eval, go_sem, f0]) <;> rfl
              · intro o ho a1 w1 hk hb F; obtain rfl := Option.some.inj ho; have fg : a1.tmps[108]?.getD undef = .bool true := (Array.getD_eq_getD_getElem?).symm.trans (F 25 _ rfl rfl); have f0 : a1.tmps[6]?.getD undef = .int .i64 2 := (Array.getD_eq_getD_getElem?).symm.trans (hk.free (j := 6) rfl); refine wpOp_valG rfl (wanted_on rfl rfl fg) (v := .int .i64 2) ?_ ⟨_, rfl, Below.refl _ _, rfl⟩; (simp [execOp, Act.eval, go_sem, f0]) <;> rfl
              · intro o ho a1 w1 hk hb F; obtain rfl := Option.some.inj ho; have fg : a1.tmps[108]?.getD undef = .bool true := (Array.getD_eq_getD_getElem?).symm.trans (F 25 _ rfl rfl); have f0 : a1.tmps[109]?.getD undef = .int .i64 2 := (Array.getD_eq_getD_getElem?).symm.trans (F 26 _ rfl rfl); refine wpOp_valG rfl (wanted_on rfl rfl fg) (v := .bool true) ?_ ⟨_, rfl, Below.refl _ _, rfl⟩; (simp [execOp, Act.eval, go_sem, f0]) <;> rfl
              · intro o ho a1 w1 hk hb F; obtain rfl := Option.some.inj ho; have fg : a1.tmps[108]?.getD undef = .bool true := (Array.getD_eq_getD_getElem?).symm.trans (F 25 _ rfl rfl); have f0 : a1.tmps[110]?.getD undef = .bool true := (Array.getD_eq_getD_getElem?).symm.trans (F 27 _ rfl rfl); refine wpOp_valG rfl (wanted_on rfl rfl fg) (v := .bool true) ?_ ⟨_, rfl, Below.refl _ _, rfl⟩; (simp [execOp, Act.eval, go_sem, f0]) <;> rfl
              · intro o ho a1 w1 hk hb F; obtain rfl := Option.some.inj ho; have fg : a1.tmps[111]?.getD undef = .bool true := (Array.getD_eq_getD_getElem?).symm.trans (F 28 _ rfl rfl); exact wpOp_un rfl (wanted_off rfl rfl fg) ⟨_, rfl, Below.refl _ _, rfl⟩
              · intro o ho a1 w1 hk hb F; obtain rfl := Option.some.inj ho; have fg : a1.tmps[111]?.getD undef = .bool true := (Array.getD_eq_getD_getElem?).symm.trans (F 28 _ rfl rfl); exact wpOp_un rfl (wanted_off rfl rfl fg) ⟨_, rfl, Below.refl _ _, rfl⟩
              · intro o ho a1 w1 hk hb F; obtain rfl := Option.some.inj ho; have fg : a1.tmps[111]?.getD undef = .bool true := (Array.getD_eq_getD_getElem?).symm.trans (F 28 _ rfl rfl); exact wpOp_un rfl (wanted_off rfl rfl fg) ⟨_, rfl, Below.refl _ _, rfl⟩
              · intro o ho a1 w1 hk hb F; obtain rfl := Option.some.inj ho; have fg : a1.tmps[111]?.getD undef = .bool true := (Array.getD_eq_getD_getElem?).symm.trans (F 28 _ rfl rfl); exact wpOp_un rfl (wanted_off rfl rfl fg) ⟨_, rfl, Below.refl _ _, rfl⟩
              · intro o ho a1 w1 hk hb F; obtain rfl := Option.some.inj ho; have fg : a1.tmps[108]?.getD undef = .bool true := (Array.getD_eq_getD_getElem?).symm.trans (F 25 _ rfl rfl); have f0 : a1.tmps[111]?.getD undef = .bool true := (Array.getD_eq_getD_getElem?).symm.trans (F 28 _ rfl rfl); have f1 : a1.tmps[115]?.getD undef = undef := (Array.getD_eq_getD_getElem?).symm.trans (F 32 _ rfl rfl); refine wpOp_valG rfl (wanted_on rfl rfl fg) (v := .bool true) ?_ ⟨_, rfl, Below.refl _ _, rfl⟩; (simp [execOp, Act.eval, go_sem, f0, f1]) <;> rfl
              · intro o ho a1 w1 hk hb F; obtain rfl := Option.some.inj ho; have f0 : a1.tmps[108]?.getD undef = .bool true := (Array.getD_eq_getD_getElem?).symm.trans (F 25 _ rfl rfl); have f1 : a1.tmps[116]?.getD undef = .bool true := (Array.getD_eq_getD_getElem?).symm.trans (F 33 _ rfl rfl); refine wpOp_val rfl rfl (v := .bool true) ?_ ⟨_, rfl, Below.refl _ _, rfl⟩; (simp [execOp, Act.eval, go_sem, f0, f1]) <;> rfl
              · intro o ho a1 w1 hk hb F; obtain rfl := Option.some.inj ho; have f0 : a1.tmps[117]?.getD undef = .bool true := (Array.getD_eq_getD_getElem?).symm.trans (F 34 _ rfl rfl); refine wpOp_val rfl rfl (v := .bool true) ?_ ⟨_, rfl, Below.refl _ _, rfl⟩; (simp [execOp, Act.eval, go_sem, f0]) <;> rfl
              · intro o ho a1 w1 hk hb F; obtain rfl := Option.some.inj ho; have fg : a1.tmps[118]?.getD undef = .bool true := (Array.getD_eq_getD_getElem?).symm.trans (F 35 _ rfl rfl); refine wpOp_callG rfl (wanted_on rfl rfl fg) (f := 17) (args := #[]) ?_ ((cA.out _ (hF.out.keep hb)).mono fun e w2 ⟨he, hb2⟩ => ⟨_, he, _, rfl, hb2, rfl⟩); simp [execOp, Act.eval, go_sem]
              · intro o ho a1 w1 hk hb F; obtain rfl := Option.some.inj ho; have f0 : a1.tmps[118]?.getD undef = .bool true := (Array.getD_eq_getD_getElem?).symm.trans (F 35 _ rfl rfl); have f1 : a1.tmps[119]?.getD undef = .bool true := (Array.getD_eq_getD_getElem?).symm.trans (F 36 _ rfl rfl); refine wpOp_val rfl rfl (v := .bool true) ?_ ⟨_, rfl, Below.refl _ _, rfl⟩; (simp [execOp, Act.eval, go_sem, f0, f1]) <;> rfl
            · intro a1 w1 hk hb F
              have f : a1.tmps[120]?.getD undef = .bool true := (Array.getD_eq_getD_getElem?).symm.trans (F 37 _ rfl (by decide))
              refine wpOp_val rfl rfl (v := .bool true) (w' := w1) (by simp [execOp, Act.eval, go_sem, f]) ?_
              have e2 : (a1.put (some 2) (.bool true)).tmps.getD 2 undef = .bool true := (getD_set _ _ _ _ (by rw [show a1.tmps.size = 121 from hk.size]; decide)).trans (if_pos rfl)
              refine hKK _ _ ?_
              refine wp_ret ?_
              show bodyPost Tryd.prog Tryd.f6 _ Exit.ret _ _
              refine bodyPost_ret (results_tmp rfl _ _ _) hk.defers ?_
              exact ⟨congrArg Ending.returned e2, hWF.out.trans (hb.mono hWF.out.size)⟩
          · have xk : Hid (∀ w, Below wF.heap.size wF w → w.cell? ⟨w9.heap.size, 3, none⟩ = some (.int .i64 2)) := hide fun w hb => (hb.cell (p := ⟨w9.heap.size, 3, none⟩) xl).trans (x0 3)
            clear cP cS
            clear cT
            clear hS e1 hE x0 xl
            go_wp2
            rw [← hwF.out]
            rename_i KK hKK
            refine wp_region_plan (m := 38) (n := 121) (l := [.is (.pointer (some ⟨p, 0, none⟩)), .sl 2, .is (.int .i64 2), .is (.int .i64 3), .is (.pointer (some ⟨w9.heap.size, 3, none⟩)), .is (.int .i64 2), .is (.bool true), .is (.bool true), .is (.int .i64 3), .is (.bool true), .is (.bool true), .is undef, .is undef, .is undef, .is undef, .is undef, .is undef, .is undef, .is undef, .is undef, .is undef, .is undef, .is undef, .is (.bool true), .is (.bool true), .is (.bool true), .is (.int .i64 3), .is (.bool true), .is (.bool true), .is undef, .is undef, .is undef, .is undef, .is (.bool true), .is (.bool true), .is (.bool true), .is (.bool true), .is (.bool true)]) (by kernel_rfl) rfl (by kernel_rfl) rfl ?_ ?_
            · show AllBelow _ 38
              refine ⟨⟨⟨⟨⟨⟨⟨⟨⟨⟨⟨⟨⟨⟨⟨⟨⟨⟨⟨⟨⟨⟨⟨⟨⟨⟨⟨⟨⟨⟨⟨⟨⟨⟨⟨⟨⟨⟨trivial, ?_⟩, ?_⟩, ?_⟩, ?_⟩, ?_⟩, ?_⟩, ?_⟩, ?_⟩, ?_⟩, ?_⟩, ?_⟩, ?_⟩, ?_⟩, ?_⟩, ?_⟩, ?_⟩, ?_⟩, ?_⟩, ?_⟩, ?_⟩, ?_⟩, ?_⟩, ?_⟩, ?_⟩, ?_⟩, ?_⟩, ?_⟩, ?_⟩, ?_⟩, ?_⟩, ?_⟩, ?_⟩, ?_⟩, ?_⟩, ?_⟩, ?_⟩, ?_⟩, ?_⟩
              · intro o ho a1 w1 hk hb F; obtain rfl := Option.some.inj ho; have f0 : a1.tmps[3]?.getD undef = .pointer (some ⟨p, 0, none⟩) := (Array.getD_eq_getD_getElem?).symm.trans (hk.free (j := 3) rfl); refine wpOp_val rfl rfl (v := .pointer (some ⟨p, 0, none⟩)) ?_ ⟨_, rfl, Below.refl _ _, rfl⟩; (simp [execOp, Act.eval, go_sem, f0]) <;> rfl
              · intro o ho a1 w1 hk hb F; obtain rfl := Option.some.inj ho; have f0 : a1.tmps[83]?.getD undef = .pointer (some ⟨p, 0, none⟩) := (Array.getD_eq_getD_getElem?).symm.trans (F 0 _ rfl rfl); refine wpOp_call rfl rfl (f := 21) (args := #[.pointer (some ⟨p, 0, none⟩), .int .i64 1]) ?_ ((cW.out _ (hF.out.keep hb)).mono fun e w2 ⟨A, cc, he, hb2⟩ => ⟨_, he, _, rfl, hb2, A, cc, rfl⟩); simp [execOp, Act.eval, go_sem, f0]
              · intro o ho a1 w1 hk hb F; obtain rfl := Option.some.inj ho; obtain ⟨Af0, cf0, f0⟩ := F 1 _ rfl rfl; replace f0 := (Array.getD_eq_getD_getElem?).symm.trans f0; refine wpOp_val rfl rfl (v := .int .i64 2) ?_ ⟨_, rfl, Below.refl _ _, rfl⟩; (simp [execOp, Act.eval, go_sem, f0]) <;> rfl
              · intro o ho a1 w1 hk hb F; obtain rfl := Option.some.inj ho; have f0 : a1.tmps[6]?.getD undef = .int .i64 3 := (Array.getD_eq_getD_getElem?).symm.trans (hk.free (j := 6) rfl); refine wpOp_val rfl rfl (v := .int .i64 3) ?_ ⟨_, rfl, Below.refl _ _, rfl⟩; (simp [execOp, Act.eval, go_sem, f0]) <;> rfl
              · intro o ho a1 w1 hk hb F; obtain rfl := Option.some.inj ho; have f0 : a1.tmps[7]?.getD undef = .pointer (some ⟨w9.heap.size, 0, none⟩) := (Array.getD_eq_getD_getElem?).symm.trans (hk.free (j := 7) rfl); have f1 : a1.tmps[86]?.getD undef = .int .i64 3 := (Array.getD_eq_getD_getElem?).symm.trans (F 3 _ rfl rfl); refine wpOp_val rfl rfl (v := .pointer (some ⟨w9.heap.size, 3, none⟩)) ?_ ⟨_, rfl, Below.refl _ _, rfl⟩; (simp [execOp, Act.eval, go_sem, f0, f1]) <;> rfl
              · intro o ho a1 w1 hk hb F; obtain rfl := Option.some.inj ho; have f0 : a1.tmps[87]?.getD undef = .pointer (some ⟨w9.heap.size, 3, none⟩) := (Array.getD_eq_getD_getElem?).symm.trans (F 4 _ rfl rfl); have c := xk.out _ hb; refine wpOp_val rfl rfl (v := .int .i64 2) ?_ ⟨_, rfl, Below.refl _ _, rfl⟩; (simp [execOp, Act.eval, go_sem, f0, c]) <;> rfl
              · intro o ho a1 w1 hk hb F; obtain rfl := Option.some.inj ho; have f0 : a1.tmps[85]?.getD undef = .int .i64 2 := (Array.getD_eq_getD_getElem?).symm.trans (F 2 _ rfl rfl); have f1 : a1.tmps[88]?.getD undef = .int .i64 2 := (Array.getD_eq_getD_getElem?).symm.trans (F 5 _ rfl rfl); refine wpOp_val rfl rfl (v := .bool true) ?_ ⟨_, rfl, Below.refl _ _, rfl⟩; (simp [execOp, Act.eval, go_sem, f0, f1]) <;> rfl
              · intro o ho a1 w1 hk hb F; obtain rfl := Option.some.inj ho; have f0 : a1.tmps[89]?.getD undef = .bool true := (Array.getD_eq_getD_getElem?).symm.trans (F 6 _ rfl rfl); refine wpOp_val rfl rfl (v := .bool true) ?_ ⟨_, rfl, Below.refl _ _, rfl⟩; (simp [execOp, Act.eval, go_sem, f0]) <;> rfl
              · intro o ho a1 w1 hk hb F; obtain rfl := Option.some.inj ho; have fg : a1.tmps[90]?.getD undef = .bool true := (Array.getD_eq_getD_getElem?).symm.trans (F 7 _ rfl rfl); have f0 : a1.tmps[6]?.getD undef = .int .i64 3 := (Array.getD_eq_getD_getElem?).symm.trans (hk.free (j := 6) rfl); refine wpOp_valG rfl (wanted_on rfl rfl fg) (v := .int .i64 3) ?_ ⟨_, rfl, Below.refl _ _, rfl⟩; (simp [execOp, Act.eval, go_sem, f0]) <;> rfl
              · intro o ho a1 w1 hk hb F; obtain rfl := Option.some.inj ho; have fg : a1.tmps[90]?.getD undef = .bool true := (Array.getD_eq_getD_getElem?).symm.trans (F 7 _ rfl rfl); have f0 : a1.tmps[91]?.getD undef = .int .i64 3 := (Array.getD_eq_getD_getElem?).symm.trans (F 8 _ rfl rfl); refine wpOp_valG rfl (wanted_on rfl rfl fg) (v := .bool true) ?_ ⟨_, rfl, Below.refl _ _, rfl⟩; (simp [execOp, Act.eval, go_sem, f0]) <;> rfl
              · intro o ho a1 w1 hk hb F; obtain rfl := Option.some.inj ho; have fg : a1.tmps[90]?.getD undef = .bool true := (Array.getD_eq_getD_getElem?).symm.trans (F 7 _ rfl rfl); have f0 : a1.tmps[92]?.getD undef = .bool true := (Array.getD_eq_getD_getElem?).symm.trans (F 9 _ rfl rfl); refine wpOp_valG rfl (wanted_on rfl rfl fg) (v := .bool true) ?_ ⟨_, rfl, Below.refl _ _, rfl⟩; (simp [execOp, Act.eval, go_sem, f0]) <;> rfl
              · intro o ho a1 w1 hk hb F; obtain rfl := Option.some.inj ho; have fg : a1.tmps[93]?.getD undef = .bool true := (Array.getD_eq_getD_getElem?).symm.trans (F 10 _ rfl rfl); exact wpOp_un rfl (wanted_off rfl rfl fg) ⟨_, rfl, Below.refl _ _, rfl⟩
              · intro o ho a1 w1 hk hb F; obtain rfl := Option.some.inj ho; have fg : a1.tmps[93]?.getD undef = .bool true := (Array.getD_eq_getD_getElem?).symm.trans (F 10 _ rfl rfl); exact wpOp_un rfl (wanted_off rfl rfl fg) ⟨_, rfl, Below.refl _ _, rfl⟩
              · intro o ho a1 w1 hk hb F; obtain rfl := Option.some.inj ho; have fg : a1.tmps[93]?.getD undef = .bool true := (Array.getD_eq_getD_getElem?).symm.trans (F 10 _ rfl rfl); exact wpOp_un rfl (wanted_off rfl rfl fg) ⟨_, rfl, Below.refl _ _, rfl⟩
              · intro o ho a1 w1 hk hb F; obtain rfl := Option.some.inj ho; have fg : a1.tmps[93]?.getD undef = .bool true := (Array.getD_eq_getD_getElem?).symm.trans (F 10 _ rfl rfl); exact wpOp_un rfl (wanted_off rfl rfl fg) ⟨_, rfl, Below.refl _ _, rfl⟩
              · intro o ho a1 w1 hk hb F; obtain rfl := Option.some.inj ho; have fg : a1.tmps[93]?.getD undef = .bool true := (Array.getD_eq_getD_getElem?).symm.trans (F 10 _ rfl rfl); exact wpOp_un rfl (wanted_off rfl rfl fg) ⟨_, rfl, Below.refl _ _, rfl⟩
              · intro o ho a1 w1 hk hb F; obtain rfl := Option.some.inj ho; have fg : a1.tmps[93]?.getD undef = .bool true := (Array.getD_eq_getD_getElem?).symm.trans (F 10 _ rfl rfl); exact wpOp_un rfl (wanted_off rfl rfl fg) ⟨_, rfl, Below.refl _ _, rfl⟩
              · intro o ho a1 w1 hk hb F; obtain rfl := Option.some.inj ho; have fg : a1.tmps[99]?.getD undef = undef := (Array.getD_eq_getD_getElem?).symm.trans (F 16 _ rfl rfl); exact wpOp_un rfl (wanted_un rfl rfl fg) ⟨_, rfl, Below.refl _ _, rfl⟩
              · intro o ho a1 w1 hk hb F; obtain rfl := Option.some.inj ho; have fg : a1.tmps[99]?.getD undef = undef := (Array.getD_eq_getD_getElem?).symm.trans (F 16 _ rfl rfl); exact wpOp_un rfl (wanted_un rfl rfl fg) ⟨_, rfl, Below.refl _ _, rfl⟩
              · intro o ho a1 w1 hk hb F; obtain rfl := Option.some.inj ho; have fg : a1.tmps[99]?.getD undef = undef := (Array.getD_eq_getD_getElem?).symm.trans (F 16 _ rfl rfl); exact wpOp_un rfl (wanted_un rfl rfl fg) ⟨_, rfl, Below.refl _ _, rfl⟩
              · intro o ho a1 w1 hk hb F; obtain rfl := Option.some.inj ho; have fg : a1.tmps[99]?.getD undef = undef := (Array.getD_eq_getD_getElem?).symm.trans (F 16 _ rfl rfl); exact wpOp_un rfl (wanted_un rfl rfl fg) ⟨_, rfl, Below.refl _ _, rfl⟩
              · intro o ho a1 w1 hk hb F; obtain rfl := Option.some.inj ho; have fg : a1.tmps[99]?.getD undef = undef := (Array.getD_eq_getD_getElem?).symm.trans (F 16 _ rfl rfl); exact wpOp_un rfl (wanted_un rfl rfl fg) ⟨_, rfl, Below.refl _ _, rfl⟩
              · intro o ho a1 w1 hk hb F; obtain rfl := Option.some.inj ho; have fg : a1.tmps[93]?.getD undef = .bool true := (Array.getD_eq_getD_getElem?).symm.trans (F 10 _ rfl rfl); exact wpOp_un rfl (wanted_off rfl rfl fg) ⟨_, rfl, Below.refl _ _, rfl⟩
              · intro o ho a1 w1 hk hb F; obtain rfl := Option.some.inj ho; have fg : a1.tmps[90]?.getD undef = .bool true := (Array.getD_eq_getD_getElem?).symm.trans (F 7 _ rfl rfl); have f0 : a1.tmps[93]?.getD undef = .bool true := (Array.getD_eq_getD_getElem?).symm.trans (F 10 _ rfl rfl); have f1 : a1.tmps[105]?.getD undef = undef := (Array.getD_eq_getD_getElem?).symm.trans (F 22 _ rfl rfl); refine wpOp_valG rfl (wanted_on rfl rfl fg) (v := .bool true) ?_ ⟨_, rfl, Below.refl _ _, rfl⟩; (simp [execOp, Act.eval, go_sem, f0, f1]) <;> rfl
              · intro o ho a1 w1 hk hb F; obtain rfl := Option.some.inj ho; have f0 : a1.tmps[90]?.getD undef = .bool true := (Array.getD_eq_getD_getElem?).symm.trans (F 7 _ rfl rfl); have f1 : a1.tmps[106]?.getD undef = .bool true := (Array.getD_eq_getD_getElem?).symm.trans (F 23 _ rfl rfl); refine wpOp_val rfl rfl (v := .bool true) ?_ ⟨_, rfl, Below.refl _ _, rfl⟩; (simp [execOp, Act.eval, go_sem, f0, f1]) <;> rfl
              · intro o ho a1 w1 hk hb F; obtain rfl := Option.some.inj ho; have f0 : a1.tmps[107]?.getD undef = .bool true := (Array.getD_eq_getD_getElem?).symm.trans (F 24 _ rfl rfl); refine wpOp_val rfl rfl (v := .bool true) ?_ ⟨_, rfl, Below.refl _ _, rfl⟩; (simp [execOp, Act.eval, go_sem, f0]) <;> rfl
              · intro o ho a1 w1 hk hb F; obtain rfl := Option.some.inj ho; have fg : a1.tmps[108]?.getD undef = .bool true := (Array.getD_eq_getD_getElem?).symm.trans (F 25 _ rfl rfl); have f0 : a1.tmps[6]?.getD undef = .int .i64 3 := (Array.getD_eq_getD_getElem?).symm.trans (hk.free (j := 6) rfl); refine wpOp_valG rfl (wanted_on rfl rfl fg) (v := .int .i64 3) ?_ ⟨_, rfl, Below.refl _ _, rfl⟩; (simp [execOp, Act.eval, go_sem, f0]) <;> rfl
              · intro o ho a1 w1 hk hb F; obtain rfl := Option.some.inj ho; have fg : a1.tmps[108]?.getD undef = .bool true := (Array.getD_eq_getD_getElem?).symm.trans (F 25 _ rfl rfl); have f0 : a1.tmps[109]?.getD undef = .int .i64 3 := (Array.getD_eq_getD_getElem?).symm.trans (F 26 _ rfl rfl); refine wpOp_valG rfl (wanted_on rfl rfl fg) (v := .bool true) ?_ ⟨_, rfl, Below.refl _ _, rfl⟩; (simp [execOp, Act.eval, go_sem, f0]) <;> rfl
              · intro o ho a1 w1 hk hb F; obtain rfl := Option.some.inj ho; have fg : a1.tmps[108]?.getD undef = .bool true := (Array.getD_eq_getD_getElem?).symm.trans (F 25 _ rfl rfl); have f0 : a1.tmps[110]?.getD undef = .bool true := (Array.getD_eq_getD_getElem?).symm.trans (F 27 _ rfl rfl); refine wpOp_valG rfl (wanted_on rfl rfl fg) (v := .bool true) ?_ ⟨_, rfl, Below.refl _ _, rfl⟩; (simp [execOp, Act.eval, go_sem, f0]) <;> rfl
              · intro o ho a1 w1 hk hb F; obtain rfl := Option.some.inj ho; have fg : a1.tmps[111]?.getD undef = .bool true := (Array.getD_eq_getD_getElem?).symm.trans (F 28 _ rfl rfl); exact wpOp_un rfl (wanted_off rfl rfl fg) ⟨_, rfl, Below.refl _ _, rfl⟩
              · intro o ho a1 w1 hk hb F; obtain rfl := Option.some.inj ho; have fg : a1.tmps[111]?.getD undef = .bool true := (Array.getD_eq_getD_getElem?).symm.trans (F 28 _ rfl rfl); exact wpOp_un rfl (wanted_off rfl rfl fg) ⟨_, rfl, Below.refl _ _, rfl⟩
              · intro o ho a1 w1 hk hb F; obtain rfl := Option.some.inj ho; have fg : a1.tmps[111]?.getD undef = .bool true := (Array.getD_eq_getD_getElem?).symm.trans (F 28 _ rfl rfl); exact wpOp_un rfl (wanted_off rfl rfl fg) ⟨_, rfl, Below.refl _ _, rfl⟩
              · intro o ho a1 w1 hk hb F; obtain rfl := Option.some.inj ho; have fg : a1.tmps[111]?.getD undef = .bool true := (Array.getD_eq_getD_getElem?).symm.trans (F 28 _ rfl rfl); exact wpOp_un rfl (wanted_off rfl rfl fg) ⟨_, rfl, Below.refl _ _, rfl⟩
              · intro o ho a1 w1 hk hb F; obtain rfl := Option.some.inj ho; have fg : a1.tmps[108]?.getD undef = .bool true := (Array.getD_eq_getD_getElem?).symm.trans (F 25 _ rfl rfl); have f0 : a1.tmps[111]?.getD undef = .bool true := (Array.getD_eq_getD_getElem?).symm.trans (F 28 _ rfl rfl); have f1 : a1.tmps[115]?.getD undef = undef := (Array.getD_eq_getD_getElem?).symm.trans (F 32 _ rfl rfl); refine wpOp_valG rfl (wanted_on rfl rfl fg) (v := .bool true) ?_ ⟨_, rfl, Below.refl _ _, rfl⟩; (simp [execOp, Act.eval, go_sem, f0, f1]) <;> rfl
              · intro o ho a1 w1 hk hb F; obtain rfl := Option.some.inj ho; have f0 : a1.tmps[108]?.getD undef = .bool true := (Array.getD_eq_getD_getElem?).symm.trans (F 25 _ rfl rfl); have f1 : a1.tmps[116]?.getD undef = .bool true := (Array.getD_eq_getD_getElem?).symm.trans (F 33 _ rfl rfl); refine wpOp_val rfl rfl (v := .bool true) ?_ ⟨_, rfl, Below.refl _ _, rfl⟩; (simp [execOp, Act.eval, go_sem, f0, f1]) <;> rfl
              · intro o ho a1 w1 hk hb F; obtain rfl := Option.some.inj ho; have f0 : a1.tmps[117]?.getD undef = .bool true := (Array.getD_eq_getD_getElem?).symm.trans (F 34 _ rfl rfl); refine wpOp_val rfl rfl (v := .bool true) ?_ ⟨_, rfl, Below.refl _ _, rfl⟩; (simp [execOp, Act.eval, go_sem, f0]) <;> rfl
              · intro o ho a1 w1 hk hb F; obtain rfl := Option.some.inj ho; have fg : a1.tmps[118]?.getD undef = .bool true := (Array.getD_eq_getD_getElem?).symm.trans (F 35 _ rfl rfl); refine wpOp_callG rfl (wanted_on rfl rfl fg) (f := 17) (args := #[]) ?_ ((cA.out _ (hF.out.keep hb)).mono fun e w2 ⟨he, hb2⟩ => ⟨_, he, _, rfl, hb2, rfl⟩); simp [execOp, Act.eval, go_sem]
              · intro o ho a1 w1 hk hb F; obtain rfl := Option.some.inj ho; have f0 : a1.tmps[118]?.getD undef = .bool true := (Array.getD_eq_getD_getElem?).symm.trans (F 35 _ rfl rfl); have f1 : a1.tmps[119]?.getD undef = .bool true := (Array.getD_eq_getD_getElem?).symm.trans (F 36 _ rfl rfl); refine wpOp_val rfl rfl (v := .bool true) ?_ ⟨_, rfl, Below.refl _ _, rfl⟩; (simp [execOp, Act.eval, go_sem, f0, f1]) <;> rfl
            · intro a1 w1 hk hb F
              have f : a1.tmps[120]?.getD undef = .bool true := (Array.getD_eq_getD_getElem?).symm.trans (F 37 _ rfl (by decide))
              refine wpOp_val rfl rfl (v := .bool true) (w' := w1) (by simp [execOp, Act.eval, go_sem, f]) ?_
              have e2 : (a1.put (some 2) (.bool true)).tmps.getD 2 undef = .bool true := (getD_set _ _ _ _ (by rw [show a1.tmps.size = 121 from hk.size]; decide)).trans (if_pos rfl)
              refine hKK _ _ ?_
              refine wp_ret ?_
              show bodyPost Tryd.prog Tryd.f6 _ Exit.ret _ _
              refine bodyPost_ret (results_tmp rfl _ _ _) hk.defers ?_
              exact ⟨congrArg Ending.returned e2, hWF.out.trans (hb.mono hWF.out.size)⟩
end Go.Proofs.YthkjicnnepkghaaDoor
