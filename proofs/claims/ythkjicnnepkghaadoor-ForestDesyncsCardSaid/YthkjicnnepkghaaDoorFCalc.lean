/-
  Computing over forests: who is above whom, who waits, ranks.
-/
import Derived.Test.YthkjicnnepkghaaDoorFKeep
namespace Go.Proofs.YthkjicnnepkghaaDoor
open Go.RowKit
set_option linter.unusedVariables false

/-- Whether id is x, or above it, so far as so many steps tell. -/
def upO (M : Fo) (id : Int) : Nat → Int → Option Bool
  | 0, _ => none
  | k + 1, x => if 0 < x then (if x = id then some true else upO M id k (parM M x)) else some false
theorem upO_up {M : Fo} {id : Int} : ∀ {k : Nat} {x : Int} {b : Bool}, upO M id k x = some b → (b = true ↔ Up M id x)
  | 0, x, b, h => by cases h
  | k + 1, x, b, h => by
    unfold upO at h
    by_cases h0 : 0 < x
    · rw [if_pos h0] at h
      by_cases h1 : x = id
      · rw [if_pos h1] at h
        cases h
        subst h1
        exact ⟨fun _ => .here h0, fun _ => rfl⟩
      · rw [if_neg h1] at h
        rw [upO_up h]
        exact ⟨fun hu => .up h0 hu, fun hu => hu.parent h1⟩
    · rw [if_neg h0] at h
      cases h
      exact ⟨fun e => (by cases e), fun hu => absurd hu.pos h0⟩
def fsubC (M : Fo) (id parent : Int) (b : Bool) : Nat := match M id, M parent with
  | some s, some _ => if s.parent ≠ 0 then 10 else if b then 11 else 0
  | _, _ => 5
theorem fsubK_eq {M : Fo} {id parent : Int} {k : Nat} {b : Bool} (h : upO M id k parent = some b) : fsubK M id parent = fsubC M id parent b := by
  unfold fsubK fsubC
  have := upO_up h
  cases M id with
  | none => rfl
  | some s =>
    cases M parent with
    | none => rfl
    | some p =>
      dsimp only
      by_cases h0 : s.parent ≠ 0
      · rw [if_pos h0, if_pos h0]
      · rw [if_neg h0, if_neg h0]
        cases b
        · rw [if_neg (fun hu => by have := this.2 hu; cases this), if_neg (by decide)]
        · rw [if_pos (this.1 rfl), if_pos rfl]
/-- Whether one waits, so far as so many steps tell. -/
def synO (M : Fo) : Nat → Int → Option Bool
  | 0, _ => none
  | k + 1, id => match M id with
    | none => some false
    | some s => if s.parent = 0 then some false else if s.sync then some true else synO M k s.parent
theorem synO_syn {M : Fo} : ∀ {k : Nat} {id : Int} {b : Bool}, synO M k id = some b → synB M id = b
  | 0, id, b, h => by cases h
  | k + 1, id, b, h => by
    unfold synO at h
    cases hs : M id with
    | none => rw [hs] at h; cases h; exact synB_none hs
    | some s =>
      rw [hs] at h
      dsimp only at h
      by_cases h0 : s.parent = 0
      · rw [if_pos h0] at h; cases h; exact synB_top hs h0
      · rw [if_neg h0] at h
        cases hy : s.sync
        · rw [hy] at h
          rw [synB_up hs h0 hy]
          exact synO_syn h
        · rw [hy] at h
          cases h
          exact synB_sync hs h0 hy

/-- Parents have lesser numbers. -/
def RkOk (M : Fo) (k : Nat) : Prop := ∀ j s, M j = some s → j.toNat ≤ k ∧ (s.parent ≠ 0 → s.parent.toNat < j.toNat)
theorem RkOk.empty (k : Nat) : RkOk (fun _ => none) k := fun j s h => by cases h
theorem RkOk.set {M : Fo} {k : Nat} (h : RkOk M k) {id : Int} {s : Sf} (hk : id.toNat ≤ k ∧ (s.parent ≠ 0 → s.parent.toNat < id.toNat)) : RkOk (setM M id (some s)) k := fun j t hj => by
  rcases setM_eq hj with ⟨rfl, e⟩ | ⟨_, e⟩
  · cases e; exact hk
  · exact h _ _ e
/-- The parents are the same. -/
def ParD (M M' : Fo) : Prop := ∀ x, (M' x).map Sf.parent = (M x).map Sf.parent
theorem ParD.refl (M : Fo) : ParD M M := fun _ => rfl
theorem ParD.trans {M M' M'' : Fo} (h : ParD M M') (h' : ParD M' M'') : ParD M M'' := fun x => (h' x).trans (h x)
theorem ParD.set {M : Fo} {id : Int} {s v : Sf} (hs : M id = some s) (hp : v.parent = s.parent) : ParD M (setM M id (some v)) := fun x => by
  by_cases e : x = id
  · subst e; rw [setM_same, hs]; simp [hp]
  · rw [setM_other _ _ e]
theorem RkOk.par {M M' : Fo} {k : Nat} (h : RkOk M k) (hp : ParD M M') : RkOk M' k := fun j s hj => by
  have := hp j
  rw [hj] at this
  cases hm : M j with
  | none => rw [hm] at this; cases this
  | some t =>
    rw [hm] at this
    have e : s.parent = t.parent := by simpa using this
    rw [e]
    exact h j t hm
theorem turn_par {M : Fo} {id : Int} (f : St → St) : ParD M (turnS M id f) := by
  unfold turnS
  split
  · exact .refl _
  · rename_i s hs; exact .set hs rfl
theorem sync_par {M : Fo} {id : Int} (on : Bool) : ParD M (fsyncS M id on) := by
  unfold fsyncS
  split
  · exact .refl _
  · rename_i s hs
    split
    · exact .refl _
    · exact .set hs rfl
theorem pos_par {M : Fo} {id : Int} (a b : Int) : ParD M (fposS M id a b) := by
  unfold fposS
  split
  · exact .refl _
  · split
    · exact .refl _
    · rename_i p hp
      split
      · exact .refl _
      · exact .set hp rfl
theorem bes_par {M : Fo} {id : Int} (by' : Int) (k : Nat) : ParD M (besS M id by' k) := by
  unfold besS
  split
  · split
    · exact .refl _
    · split
      · exact .refl _
      · rename_i p hp; exact .set hp rfl
  · exact .refl _
theorem com_par {M : Fo} {id : Int} (sy : Int → Bool) (k : Nat) : ParD M (fcomS sy k M id).1 := by
  unfold fcomS
  split
  · exact .refl _
  · rename_i s hs
    split
    · exact .set hs rfl
    · refine comA_keeps (P := fun M' => ParD M M') (fun M' i t h ht => h.trans (.set ht rfl)) k _ _ _ (.set hs rfl)
theorem RkOk.add {M : Fo} {k : Nat} (h : RkOk M k) {id : Int} (hi : id.toNat ≤ k) : RkOk (setM M id (some newSf)) k := h.set ⟨hi, fun e => absurd rfl e⟩
theorem RkOk.sub {M : Fo} {k : Nat} (h : RkOk M k) {id parent : Int} (hp : parent.toNat < id.toNat) : RkOk (fsubS M id parent) k := by
  unfold fsubS
  split
  · unfold subbed
    split
    · rename_i s p hs hpp
      refine (h.set (s := { s with parent := parent, sync := true }) ⟨(h id s hs).1, fun _ => hp⟩).set (h parent p hpp)
    · exact h
  · exact h
theorem fsubS_zero {M : Fo} {id parent : Int} (h : fsubK M id parent = 0) : fsubS M id parent = subbed M id parent := by unfold fsubS; rw [if_pos h]
theorem fsubS_not {M : Fo} {id parent : Int} (h : fsubK M id parent ≠ 0) : fsubS M id parent = M := by unfold fsubS; rw [if_neg h]
theorem fposS_not {M : Fo} {id x y : Int} (h : childK M id ≠ 0) : fposS M id x y = M := by
  unfold childK at h
  unfold fposS
  cases hs : M id with
  | none => rfl
  | some s =>
    rw [hs] at h
    dsimp only at h ⊢
    by_cases h0 : s.parent = 0
    · cases M s.parent with
      | none => rfl
      | some p => dsimp only; rw [if_pos h0]
    · rw [if_neg h0] at h; exact absurd rfl h

/-- Who waits, computed. -/
def syC (M : Fo) (x : Int) : Bool := (synO M 60 x).getD false
theorem synO_some {M : Fo} {K : Nat} (h : RkOk M K) : ∀ (k : Nat) (id : Int), id.toNat < k → (synO M k id).isSome = true
  | 0, id, hk => by omega
  | k + 1, id, hk => by
    unfold synO
    cases hs : M id with
    | none => rfl
    | some s =>
      dsimp only
      split
      · rfl
      · split
        · rfl
        · rename_i h0 _
          exact synO_some h k _ (by have := (h id s hs).2 h0; omega)
theorem syC_eq {M : Fo} {K : Nat} (h : RkOk M K) (hK : K < 60) : synB M = syC M := by
  funext x
  unfold syC
  by_cases hx : x.toNat < 60
  · have := synO_some h 60 x hx
    cases e : synO M 60 x with
    | none => rw [e] at this; cases this
    | some b => exact synO_syn e
  · have hn : M x = none := by
      cases e : M x with
      | none => rfl
      | some s => have := (h x s e).1; omega
    have e : synO M 60 x = some false := by unfold synO; rw [hn]
    rw [e]
    exact synO_syn e
def comC (M : Fo) (K : Nat) (id : Int) : Fo × List Int := fcomS (syC M) (K + 1) M id

/-- A line of surfaces, each in the one ahead. -/
def lineR : Nat → Fo
  | 0 => fun _ => none
  | i + 1 => if i = 0 then setM (lineR i) ((i : Int) + 1) (some newSf) else subbed (setM (lineR i) ((i : Int) + 1) (some newSf)) ((i : Int) + 1) i
theorem line_facts : ∀ i < 7, faddK (lineR i) i ((i : Int) + 1) = 0 ∧ (i ≠ 0 → upO (setM (lineR i) ((i : Int) + 1) (some newSf)) ((i : Int) + 1) 60 i = some false ∧ fsubC (setM (lineR i) ((i : Int) + 1) (some newSf)) ((i : Int) + 1) i false = 0) := by decide
def endOk (k i j : Nat) : Bool := decide (upO (lineR k) (i : Nat) 60 (j : Nat) = some (decide (i ≤ j))) && decide (fsubC (lineR k) (i : Nat) (j : Nat) (decide (i ≤ j)) = (if i = 1 then 11 else 10))
def endOk2 (k i : Nat) : Bool := decide (upO (lineR k) (i : Nat) 60 99 = some false) && decide (fsubC (lineR k) (i : Nat) 99 false = 5) && decide (childK (lineR k) 1 = 10) && decide (parM (lineR k) k = (k : Int) - 1)
theorem endsOk : (List.range 6).all (fun k => (List.range (k + 2)).all fun i => (List.range (k + 2)).all fun j => endOk (k + 2) (i + 1) (j + 1)) = true := by decide +kernel
theorem endsOk2 : (List.range 6).all (fun k => (List.range (k + 2)).all fun i => endOk2 (k + 2) (i + 1)) = true := by decide +kernel
theorem line_ends {k i j : Nat} (hk : 2 ≤ k) (hk7 : k ≤ 7) (hi : 1 ≤ i) (hik : i ≤ k) (hj : 1 ≤ j) (hjk : j ≤ k) : fsubK (lineR k) i j = (if i = 1 then 11 else 10) := by
  have h1 := List.all_eq_true.1 endsOk (k - 2) (by simp; omega)
  have h2 := List.all_eq_true.1 h1 (i - 1) (by simp; omega)
  have h3 := List.all_eq_true.1 h2 (j - 1) (by simp; omega)
  rw [show k - 2 + 2 = k by omega, show i - 1 + 1 = i by omega, show j - 1 + 1 = j by omega] at h3
  unfold endOk at h3
  simp only [Bool.and_eq_true, decide_eq_true_eq] at h3
  rw [fsubK_eq h3.1, h3.2]
theorem line_ends2 {k i : Nat} (hk : 2 ≤ k) (hk7 : k ≤ 7) (hi : 1 ≤ i) (hik : i ≤ k) : fsubK (lineR k) i 99 = 5 ∧ childK (lineR k) 1 = 10 ∧ parM (lineR k) k = (k : Int) - 1 := by
  have h1 := List.all_eq_true.1 endsOk2 (k - 2) (by simp; omega)
  have h2 := List.all_eq_true.1 h1 (i - 1) (by simp; omega)
  rw [show k - 2 + 2 = k by omega, show i - 1 + 1 = i by omega] at h2
  unfold endOk2 at h2
  simp only [Bool.and_eq_true, decide_eq_true_eq] at h2
  obtain ⟨⟨⟨a, b⟩, c⟩, d⟩ := h2
  exact ⟨by rw [fsubK_eq a, b], c, d⟩
end Go.Proofs.YthkjicnnepkghaaDoor
