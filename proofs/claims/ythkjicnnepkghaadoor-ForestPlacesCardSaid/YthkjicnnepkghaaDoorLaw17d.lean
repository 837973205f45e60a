/-
  The law ForestSyncs: its forests, as plain data.
-/
import Derived.Test.YthkjicnnepkghaaDoorFCalc
import Derived.Test.YthkjicnnepkghaaDoorForest11
import Derived.Test.YthkjicnnepkghaaDoorFWalk
import Derived.Test.YthkjicnnepkghaaDoorForest7
namespace Go.Proofs.YthkjicnnepkghaaDoor
open Go.RowKit
set_option linter.unusedVariables false

/-- A line of surfaces, each with a buffer to come. -/
def lineA : Nat → Fo
  | 0 => fun _ => none
  | i + 1 => turnS (if i = 0 then setM (lineA i) ((i : Int) + 1) (some newSf) else subbed (setM (lineA i) ((i : Int) + 1) (some newSf)) ((i : Int) + 1) i) ((i : Int) + 1) (attachT (10 * ((i : Int) + 1)))
def lineB (i : Nat) : Fo := if i = 0 then setM (lineA i) ((i : Int) + 1) (some newSf) else subbed (setM (lineA i) ((i : Int) + 1) (some newSf)) ((i : Int) + 1) i
theorem lineA_succ (i : Nat) : lineA (i + 1) = turnS (lineB i) ((i : Int) + 1) (attachT (10 * ((i : Int) + 1))) := rfl
theorem lineB_zero : lineB 0 = setM (lineA 0) ((0 : Nat) + 1 : Int) (some newSf) := rfl
theorem lineB_pos {i : Nat} (h : i ≠ 0) : lineB i = subbed (setM (lineA i) ((i : Int) + 1) (some newSf)) ((i : Int) + 1) i := by unfold lineB; rw [if_neg h]
def lineOk (i : Nat) : Bool := decide (faddK (lineA i) i ((i : Int) + 1) = 0) && (decide (i = 0) || (decide (upO (setM (lineA i) ((i : Int) + 1) (some newSf)) ((i : Int) + 1) 60 i = some false) && decide (fsubC (setM (lineA i) ((i : Int) + 1) (some newSf)) ((i : Int) + 1) i false = 0))) && decide (thereK (lineB i) ((i : Int) + 1) = 0)
theorem linesOk : (List.range 7).all lineOk = true := by decide +kernel
theorem lineA_facts {i : Nat} (hi : i < 7) : faddK (lineA i) i ((i : Int) + 1) = 0 ∧ (i ≠ 0 → fsubK (setM (lineA i) ((i : Int) + 1) (some newSf)) ((i : Int) + 1) i = 0) ∧ thereK (lineB i) ((i : Int) + 1) = 0 := by
  have h := List.all_eq_true.1 linesOk i (by simpa using hi)
  unfold lineOk at h
  simp only [Bool.and_eq_true, Bool.or_eq_true, decide_eq_true_eq] at h
  obtain ⟨⟨a, b⟩, c⟩ := h
  refine ⟨a, fun h0 => ?_, c⟩
  rcases b with b | ⟨b1, b2⟩
  · exact absurd b h0
  · rw [fsubK_eq b1, b2]
theorem lineA_dom : ∀ (k : Nat) (x : Int), lineA k x ≠ none → 1 ≤ x ∧ x ≤ k
  | 0, x, h => absurd rfl h
  | k + 1, x, h => by
    have h1 : (lineA (k + 1) x).isSome = true := by cases e : lineA (k + 1) x with | none => exact absurd e h | some v => rfl
    rw [lineA_succ, turn_isS] at h1
    by_cases h0 : k = 0
    · subst h0
      rw [lineB_zero] at h1
      by_cases e : x = ((0 : Nat) : Int) + 1
      · omega
      · rw [setM_other _ _ e] at h1; cases h1
    · rw [lineB_pos h0] at h1
      by_cases e : x = (k : Int) + 1
      · omega
      · have h2 : ((setM (lineA k) ((k : Int) + 1) (some newSf)) x).isSome = true := by
          have : SameD (setM (lineA k) ((k : Int) + 1) (some newSf)) (subbed (setM (lineA k) ((k : Int) + 1) (some newSf)) ((k : Int) + 1) k) := by
            unfold subbed
            split
            · rename_i s p hs hp
              refine (SameD.set (by rw [hs]; rfl) _).trans (SameD.set ?_ _)
              rw [setM_isS (by rw [hs]; rfl), hp]; rfl
            · exact .refl _
          rw [← this x]; exact h1
        rw [setM_other _ _ e] at h2
        have := lineA_dom k x (fun e => by rw [e] at h2; cases h2)
        omega
theorem lineA_rk : ∀ (k : Nat), k ≤ 7 → RkOk (lineA k) 7
  | 0, _ => RkOk.empty 7
  | k + 1, hk => by
    have h := lineA_rk k (by omega)
    rw [lineA_succ]
    refine RkOk.par ?_ (turn_par _)
    have h1 : RkOk (setM (lineA k) ((k : Int) + 1) (some newSf)) 7 := h.add (by omega)
    by_cases h0 : k = 0
    · subst h0; rw [lineB_zero]; exact h1
    · rw [lineB_pos h0]
      have := h1.sub (id := (k : Int) + 1) (parent := k) (by omega)
      rw [fsubS_zero ((lineA_facts (show k < 7 by omega)).2.1 h0)] at this
      exact this

/-- Who waits hangs on parents, and on who is sync, alone. -/
def parSy (s : Sf) : Int × Bool := (s.parent, s.sync)
theorem syn_par {M M' : Fo} (h : ∀ x, (M' x).map parSy = (M x).map parSy) : ∀ {x}, Syn M x → Syn M' x := fun {x} hx => by
  have fwd : ∀ j s, M j = some s → ∃ s', M' j = some s' ∧ s'.parent = s.parent ∧ s'.sync = s.sync := fun j s hj => by
    have := h j
    rw [hj] at this
    cases e : M' j with
    | none => rw [e] at this; cases this
    | some s' =>
      rw [e] at this
      simp only [Option.map_some, Option.some.injEq, parSy, Prod.mk.injEq] at this
      exact ⟨s', rfl, this.1, this.2⟩
  induction hx with
  | here h1 h2 h3 => obtain ⟨s', a, b, c⟩ := fwd _ _ h1; exact .here a (by rw [b]; exact h2) (by rw [c]; exact h3)
  | up h1 h2 _ ih => obtain ⟨s', a, b, c⟩ := fwd _ _ h1; exact .up a (by rw [b]; exact h2) (by rw [b]; exact ih)
theorem synB_par {M M' : Fo} (h : ∀ x, (M' x).map parSy = (M x).map parSy) : synB M' = synB M := by
  funext x
  unfold synB
  have : Syn M' x ↔ Syn M x := ⟨syn_par fun y => (h y).symm, syn_par h⟩
  simp [this]

/-- Some have been committed. -/
def lineF (k : Nat) (f : Int → Bool) : Fo := fun x => (lineA k x).map fun s => if f x then cacheS s else s
theorem lineF_none (k : Nat) : lineF k (fun _ => false) = lineA k := by
  funext x
  unfold lineF
  cases lineA k x <;> simp
theorem lineF_par (k : Nat) (f : Int → Bool) (x : Int) : (lineF k f x).map parSy = (lineA k x).map parSy := by
  unfold lineF
  cases lineA k x with
  | none => rfl
  | some s => simp only [Option.map_some]; split <;> rfl
theorem lineF_syn (k : Nat) (hk : k ≤ 7) (f : Int → Bool) : synB (lineF k f) = syC (lineA k) := by
  rw [synB_par (lineF_par k f)]
  exact syC_eq (lineA_rk k hk) (by omega)
theorem lineF_rk (k : Nat) (hk : k ≤ 7) (f : Int → Bool) : RkOk (lineF k f) 7 := (lineA_rk k hk).par fun x => by
  have := congrArg (Option.map Prod.fst) (lineF_par k f x)
  simpa [Option.map_map, parSy, Function.comp_def] using this
theorem cacheS_twice (s : Sf) : cacheS (cacheS s) = cacheS s := by
  unfold cacheS
  dsimp only
  rw [mergeT_zero]
theorem lineF_commit (k : Nat) (f : Int → Bool) (id : Int) (sy : Int → Bool) (kk : Nat) {s0 : Sf} (hs : lineA k id = some s0) (hy : sy id = true) : fcomS sy kk (lineF k f) id = (lineF k (fun x => f x || x == id), []) := by
  have e : lineF k f id = some (if f id then cacheS s0 else s0) := by unfold lineF; rw [hs]; rfl
  unfold fcomS
  rw [e]
  dsimp only
  rw [hy, if_pos rfl]
  congr 1
  funext x
  by_cases ex : x = id
  · subst ex
    rw [setM_same]
    unfold lineF
    rw [hs]
    simp only [Option.map_some, beq_self_eq_true, Bool.or_true, if_true]
    split
    · rw [cacheS_twice]
    · rfl
  · rw [setM_other _ _ ex]
    unfold lineF
    have : (x == id) = false := by simpa using ex
    simp only [this, Bool.or_false]
/-- All but the first have. -/
def lineG (k : Nat) : Fo := fun x => (lineA k x).map fun s => if x = 1 then s else cacheS s
theorem lineF_all {k : Nat} {f : Int → Bool} (h1 : f 1 = false) (h : ∀ x : Int, 2 ≤ x → x ≤ k → f x = true) : lineF k f = lineG k := by
  funext x
  unfold lineF lineG
  cases e : lineA k x with
  | none => rfl
  | some s =>
    have hd := lineA_dom k x (by rw [e]; simp)
    by_cases e1 : x = 1
    · subst e1; simp [h1]
    · rw [Option.map_some, Option.map_some, h x (by omega) (by omega), if_pos rfl, if_neg e1]

/-- Behind the commit of the first one. -/
def lineH (k : Nat) : Fo := (fcomS (syC (lineA k)) 8 (lineG k) 1).1
def syncOk (k : Nat) : Bool :=
  decide (thereK (lineG k) 1 = 0) && decide (walkT (lineG k) 8 1 = []) && decide ((heldC (lineG k) k).Pairwise (· < ·)) && decide ((heldC (lineG k) k).length = k - 1) && decide ((fcomS (syC (lineA k)) 8 (lineG k) 1).2 = (List.range k).map fun (i : Nat) => (i : Int) + 1) && decide ((walkT (lineH k) 8 1).length = k) &&
  (List.range k).all fun (i : Nat) => decide ((tellM (lineH k) ((i : Int) + 1) fun t => t.cu).buffer = 10 * ((i : Int) + 1)) && decide (syC (lineH k) ((i : Int) + 1) = decide (i ≠ 0)) && decide (i = 0 ∨ (syC (lineA k) ((i : Int) + 1) = true ∧ (lineA k ((i : Int) + 1)).isSome = true ∧ (tellM (lineA k) ((i : Int) + 1) fun t => t.cu).buffer = 0))
theorem syncsOk : (List.range 6).all (fun k => syncOk (k + 2)) = true := by decide +kernel
structure SyncFacts (k : Nat) : Prop where
  there : thereK (lineG k) 1 = 0
  walk : walkT (lineG k) 8 1 = []
  inc : (heldC (lineG k) k).Pairwise (· < ·)
  len : (heldC (lineG k) k).length = k - 1
  list : (fcomS (syC (lineA k)) 8 (lineG k) 1).2 = (List.range k).map fun (i : Nat) => (i : Int) + 1
  seen : (walkT (lineH k) 8 1).length = k
  buf : ∀ i, i < k → (tellM (lineH k) ((i : Int) + 1) fun t => t.cu).buffer = 10 * ((i : Int) + 1)
  syn : ∀ i, i < k → syC (lineH k) ((i : Int) + 1) = decide (i ≠ 0)
  low : ∀ i, i < k → i ≠ 0 → syC (lineA k) ((i : Int) + 1) = true ∧ (∃ s, lineA k ((i : Int) + 1) = some s ∧ s.cu.buffer = 0)
theorem syncFacts {k : Nat} (h2 : 2 ≤ k) (h7 : k ≤ 7) : SyncFacts k := by
  have h := List.all_eq_true.1 syncsOk (k - 2) (by simp; omega)
  rw [show k - 2 + 2 = k by omega] at h
  unfold syncOk at h
  simp only [Bool.and_eq_true, decide_eq_true_eq] at h
  obtain ⟨⟨⟨⟨⟨⟨a, b⟩, c⟩, d⟩, e⟩, f⟩, g⟩ := h
  have G := fun i (hi : i < k) => List.all_eq_true.1 g i (by simpa using hi)
  simp only [Bool.and_eq_true, decide_eq_true_eq] at G
  refine ⟨a, b, c, d, e, f, fun i hi => (G i hi).1.1, fun i hi => (G i hi).1.2, fun i hi h0 => ?_⟩
  obtain ⟨p1, p2, p3⟩ := (G i hi).2.resolve_left h0
  refine ⟨p1, ?_⟩
  obtain ⟨s, hs⟩ := Option.isSome_iff_exists.1 p2
  refine ⟨s, hs, ?_⟩
  unfold tellM at p3
  rw [hs] at p3
  exact p3
theorem lineF_dom {k : Nat} {f : Int → Bool} (x : Int) (h : lineF k f x ≠ none) : 1 ≤ x ∧ x ≤ k := lineA_dom k x (fun e => h (by unfold lineF; rw [e]; rfl))
theorem lineF_tell {k : Nat} {f : Int → Bool} {x : Int} {s : Sf} (hs : lineA k x = some s) : (tellM (lineF k f) x fun t => t.cu).buffer = s.cu.buffer := by
  unfold tellM lineF
  rw [hs]
  dsimp only [Option.map_some]
  split <;> rfl
theorem lineF_there {k : Nat} {f : Int → Bool} {x : Int} {s : Sf} (hs : lineA k x = some s) : thereK (lineF k f) x = 0 := by
  unfold thereK lineF
  rw [hs]; rfl
end Go.Proofs.YthkjicnnepkghaaDoor
