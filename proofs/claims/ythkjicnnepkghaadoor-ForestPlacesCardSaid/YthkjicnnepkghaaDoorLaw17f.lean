/-
  The law ForestPlaces: its forests, as plain data.
-/
import Derived.Test.YthkjicnnepkghaaDoorFCalc
import Derived.Test.YthkjicnnepkghaaDoorForest11
import Derived.Test.YthkjicnnepkghaaDoorFWalk
import Derived.Test.YthkjicnnepkghaaDoorLaw17d
import Derived.Lib.Hide
namespace Go.Proofs.YthkjicnnepkghaaDoor
open Go.RowKit
set_option linter.unusedVariables false

/-- A child comes: its five forests one behind the other. -/
def plA (M : Fo) (id : Int) : Fo := setM M id (some newSf)
def plB (M : Fo) (id : Int) : Fo := subbed (plA M id) id 1
def plC (M : Fo) (id bf : Int) : Fo := turnS (plB M id) id (attachT bf)
def plD (M : Fo) (id bf x y : Int) : Fo := fposS (plC M id bf) id x y
def plE (b : Bool) (M : Fo) (id bf x y : Int) : Fo := if b then besS (plD M id bf x y) id 1 0 else plD M id bf x y
def plF (b : Bool) (M : Fo) (id bf x y : Int) : Fo := (comC (plE b M id bf x y) 7 id).1
def pl0 : Fo := turnS (setM (fun _ => none) 1 (some newSf)) 1 (attachT 9)
def plR (b : Bool) (g : Nat → Int × Int) : Nat → Fo
  | 0 => pl0
  | i + 1 => plF b (plR b g i) ((i : Int) + 2) (10 + i) (g i).1 (g i).2

def plOk (b : Bool) (g : Nat → Int × Int) (i : Nat) : Bool :=
  decide (faddK (plR b g i) (i + 1) ((i : Int) + 2) = 0) && decide (upO (plA (plR b g i) ((i : Int) + 2)) ((i : Int) + 2) 60 1 = some false) && decide (fsubC (plA (plR b g i) ((i : Int) + 2)) ((i : Int) + 2) 1 false = 0) &&
  decide (thereK (plB (plR b g i) ((i : Int) + 2)) ((i : Int) + 2) = 0) && decide (childK (plC (plR b g i) ((i : Int) + 2) (10 + i)) ((i : Int) + 2) = 0) && (!b || decide (besK (plD (plR b g i) ((i : Int) + 2) (10 + i) (g i).1 (g i).2) ((i : Int) + 2) 1 = 0)) &&
  decide (thereK (plE b (plR b g i) ((i : Int) + 2) (10 + i) (g i).1 (g i).2) ((i : Int) + 2) = 0) && decide ((comC (plE b (plR b g i) ((i : Int) + 2) (10 + i) (g i).1 (g i).2) 7 ((i : Int) + 2)).2 = [])
theorem plsOk0t (g : Nat → Int × Int) : plOk true g 0 = true := by kernel_rfl
theorem plsOk0f (g : Nat → Int × Int) : plOk false g 0 = true := by kernel_rfl
theorem plsOk1t (g : Nat → Int × Int) : plOk true g 1 = true := by kernel_rfl
theorem plsOk1f (g : Nat → Int × Int) : plOk false g 1 = true := by kernel_rfl
theorem plsOk2t (g : Nat → Int × Int) : plOk true g 2 = true := by kernel_rfl
theorem plsOk2f (g : Nat → Int × Int) : plOk false g 2 = true := by kernel_rfl
theorem plsOk3t (g : Nat → Int × Int) : plOk true g 3 = true := by kernel_rfl
theorem plsOk3f (g : Nat → Int × Int) : plOk false g 3 = true := by kernel_rfl
theorem plsOk4t (g : Nat → Int × Int) : plOk true g 4 = true := by kernel_rfl
theorem plsOk4f (g : Nat → Int × Int) : plOk false g 4 = true := by kernel_rfl
theorem plsOk5t (g : Nat → Int × Int) : plOk true g 5 = true := by kernel_rfl
theorem plsOk5f (g : Nat → Int × Int) : plOk false g 5 = true := by kernel_rfl
theorem plsOk (b : Bool) (g : Nat → Int × Int) : ∀ i, i < 6 → plOk b g i = true := by
  intro i hi
  cases b
  · match i, hi with
    | 0, _ => exact plsOk0f g
    | 1, _ => exact plsOk1f g
    | 2, _ => exact plsOk2f g
    | 3, _ => exact plsOk3f g
    | 4, _ => exact plsOk4f g
    | 5, _ => exact plsOk5f g
    | k + 6, h => exact absurd h (by omega)
  · match i, hi with
    | 0, _ => exact plsOk0t g
    | 1, _ => exact plsOk1t g
    | 2, _ => exact plsOk2t g
    | 3, _ => exact plsOk3t g
    | 4, _ => exact plsOk4t g
    | 5, _ => exact plsOk5t g
    | k + 6, h => exact absurd h (by omega)
/-- The whole, committed. -/
def plH (b : Bool) (g : Nat → Int × Int) (k : Nat) : Fo := (comC (plR b g k) 7 1).1
def plCh (g : Nat → Int × Int) (i : Nat) : Ch := ⟨(i : Int) + 2, wrap64 (0 + cutF (g i).1), wrap64 (0 + cutF (g i).2)⟩
def plW (b : Bool) (g : Nat → Int × Int) (k : Nat) : List Ch := if b then (List.range k).map (plCh g) ++ [⟨1, 0, 0⟩] else ⟨1, 0, 0⟩ :: (List.range k).map (plCh g)
def plEnd (b : Bool) (g : Nat → Int × Int) (k : Nat) : Bool := decide (thereK (plR b g k) 1 = 0) && decide ((comC (plR b g k) 7 1).2.length = k + 1) && decide ((heldC (plH b g k) (k + 1)).Pairwise (· < ·)) && decide ((heldC (plH b g k) (k + 1)).length = k + 1)
theorem plEnd1t (g : Nat → Int × Int) : plEnd true g 1 = true := by kernel_rfl
theorem plWalk1t (g : Nat → Int × Int) : walkT (plH true g 1) 8 1 = plW true g 1 := by kernel_rfl
theorem plEnd1f (g : Nat → Int × Int) : plEnd false g 1 = true := by kernel_rfl
theorem plWalk1f (g : Nat → Int × Int) : walkT (plH false g 1) 8 1 = plW false g 1 := by kernel_rfl
theorem plEnd2t (g : Nat → Int × Int) : plEnd true g 2 = true := by kernel_rfl
theorem plWalk2t (g : Nat → Int × Int) : walkT (plH true g 2) 8 1 = plW true g 2 := by kernel_rfl
theorem plEnd2f (g : Nat → Int × Int) : plEnd false g 2 = true := by kernel_rfl
theorem plWalk2f (g : Nat → Int × Int) : walkT (plH false g 2) 8 1 = plW false g 2 := by kernel_rfl
theorem plEnd3t (g : Nat → Int × Int) : plEnd true g 3 = true := by kernel_rfl
theorem plWalk3t (g : Nat → Int × Int) : walkT (plH true g 3) 8 1 = plW true g 3 := by kernel_rfl
theorem plEnd3f (g : Nat → Int × Int) : plEnd false g 3 = true := by kernel_rfl
theorem plWalk3f (g : Nat → Int × Int) : walkT (plH false g 3) 8 1 = plW false g 3 := by kernel_rfl
theorem plEnd4t (g : Nat → Int × Int) : plEnd true g 4 = true := by kernel_rfl
theorem plWalk4t (g : Nat → Int × Int) : walkT (plH true g 4) 8 1 = plW true g 4 := by kernel_rfl
theorem plEnd4f (g : Nat → Int × Int) : plEnd false g 4 = true := by kernel_rfl
theorem plWalk4f (g : Nat → Int × Int) : walkT (plH false g 4) 8 1 = plW false g 4 := by kernel_rfl
theorem plEnd5t (g : Nat → Int × Int) : plEnd true g 5 = true := by kernel_rfl
theorem plWalk5t (g : Nat → Int × Int) : walkT (plH true g 5) 8 1 = plW true g 5 := by kernel_rfl
theorem plEnd5f (g : Nat → Int × Int) : plEnd false g 5 = true := by kernel_rfl
theorem plWalk5f (g : Nat → Int × Int) : walkT (plH false g 5) 8 1 = plW false g 5 := by kernel_rfl
theorem plEnd6t (g : Nat → Int × Int) : plEnd true g 6 = true := by kernel_rfl
theorem plWalk6t (g : Nat → Int × Int) : walkT (plH true g 6) 8 1 = plW true g 6 := by kernel_rfl
theorem plEnd6f (g : Nat → Int × Int) : plEnd false g 6 = true := by kernel_rfl
theorem plWalk6f (g : Nat → Int × Int) : walkT (plH false g 6) 8 1 = plW false g 6 := by kernel_rfl
theorem plEnds (b : Bool) (g : Nat → Int × Int) : ∀ k, 1 ≤ k → k ≤ 6 → plEnd b g k = true ∧ walkT (plH b g k) 8 1 = plW b g k := by
  intro k h1 h6
  cases b
  · match k, h1, h6 with
    | 1, _, _ => exact ⟨plEnd1f g, plWalk1f g⟩
    | 2, _, _ => exact ⟨plEnd2f g, plWalk2f g⟩
    | 3, _, _ => exact ⟨plEnd3f g, plWalk3f g⟩
    | 4, _, _ => exact ⟨plEnd4f g, plWalk4f g⟩
    | 5, _, _ => exact ⟨plEnd5f g, plWalk5f g⟩
    | 6, _, _ => exact ⟨plEnd6f g, plWalk6f g⟩
    | k + 7, _, h => exact absurd h (by omega)
  · match k, h1, h6 with
    | 1, _, _ => exact ⟨plEnd1t g, plWalk1t g⟩
    | 2, _, _ => exact ⟨plEnd2t g, plWalk2t g⟩
    | 3, _, _ => exact ⟨plEnd3t g, plWalk3t g⟩
    | 4, _, _ => exact ⟨plEnd4t g, plWalk4t g⟩
    | 5, _, _ => exact ⟨plEnd5t g, plWalk5t g⟩
    | 6, _, _ => exact ⟨plEnd6t g, plWalk6t g⟩
    | k + 7, _, h => exact absurd h (by omega)
structure PlFacts (b : Bool) (g : Nat → Int × Int) (i : Nat) : Prop where
  add : faddK (plR b g i) (i + 1) ((i : Int) + 2) = 0
  sub : fsubK (plA (plR b g i) ((i : Int) + 2)) ((i : Int) + 2) 1 = 0
  att : thereK (plB (plR b g i) ((i : Int) + 2)) ((i : Int) + 2) = 0
  pos : childK (plC (plR b g i) ((i : Int) + 2) (10 + i)) ((i : Int) + 2) = 0
  bel : b = true → besK (plD (plR b g i) ((i : Int) + 2) (10 + i) (g i).1 (g i).2) ((i : Int) + 2) 1 = 0
  com : thereK (plE b (plR b g i) ((i : Int) + 2) (10 + i) (g i).1 (g i).2) ((i : Int) + 2) = 0
  non : (comC (plE b (plR b g i) ((i : Int) + 2) (10 + i) (g i).1 (g i).2) 7 ((i : Int) + 2)).2 = []
  rk : RkOk (plE b (plR b g i) ((i : Int) + 2) (10 + i) (g i).1 (g i).2) 7
theorem pl0_rk : RkOk pl0 7 := ((RkOk.empty 7).add (by decide)).par (turn_par _)
theorem plE_rk {b : Bool} {M : Fo} {id bf x y : Int} (h : RkOk M 7) (hi : id.toNat ≤ 7) (h2 : 2 ≤ id) (hs : fsubK (plA M id) id 1 = 0) : RkOk (plE b M id bf x y) 7 := by
  have h1 : RkOk (plB M id) 7 := by
    have := (h.add hi).sub (id := id) (parent := 1) (by show (1 : Nat) < id.toNat; omega)
    rw [show setM M id (some newSf) = plA M id from rfl, fsubS_zero hs] at this
    exact this
  have h3 : RkOk (plD M id bf x y) 7 := (h1.par (turn_par _)).par (pos_par _ _)
  unfold plE
  split
  · exact h3.par (bes_par _ _)
  · exact h3
theorem plSub (b : Bool) (g : Nat → Int × Int) (i : Nat) (hi : i < 6) : fsubK (plA (plR b g i) ((i : Int) + 2)) ((i : Int) + 2) 1 = 0 := by
  have h := plsOk b g i hi
  unfold plOk at h
  simp only [Bool.and_eq_true, decide_eq_true_eq] at h
  rw [fsubK_eq h.1.1.1.1.1.1.2, h.1.1.1.1.1.2]
theorem plR_rk (b : Bool) (g : Nat → Int × Int) : ∀ i, i ≤ 6 → RkOk (plR b g i) 7
  | 0, _ => pl0_rk
  | i + 1, hi => (plE_rk (plR_rk b g i (by omega)) (by omega) (by omega) (plSub b g i (by omega))).par (com_par _ _)
theorem plFacts (b : Bool) (g : Nat → Int × Int) (i : Nat) (hi : i < 6) : PlFacts b g i := by
  have h := plsOk b g i hi
  have hs := plSub b g i hi
  unfold plOk at h
  simp only [Bool.and_eq_true, Bool.or_eq_true, decide_eq_true_eq, Bool.not_eq_true'] at h
  obtain ⟨⟨⟨⟨⟨⟨⟨a, _⟩, _⟩, d⟩, e⟩, f⟩, k⟩, l⟩ := h
  exact ⟨a, hs, d, e, fun hb => f.resolve_left (by rw [hb]; decide), k, l, plE_rk (plR_rk b g i (by omega)) (by omega) (by omega) hs⟩
theorem subbed_isS {M : Fo} {id parent : Int} : SameD M (subbed M id parent) := by
  unfold subbed
  split
  · rename_i s p hs hp
    refine (SameD.set (by rw [hs]; rfl) _).trans (SameD.set ?_ _)
    rw [setM_isS (by rw [hs]; rfl), hp]; rfl
  · exact .refl _
theorem plR_dom (b : Bool) (g : Nat → Int × Int) : ∀ (i : Nat) (x : Int), plR b g i x ≠ none → 1 ≤ x ∧ x ≤ (i : Int) + 1
  | 0, x, h => by
    have h1 : (pl0 x).isSome = true := by cases e : pl0 x with | none => exact absurd e h | some v => rfl
    unfold pl0 at h1
    rw [turn_isS] at h1
    by_cases e : x = 1
    · omega
    · rw [setM_other _ _ e] at h1; cases h1
  | i + 1, x, h => by
    have h1 : (plR b g (i + 1) x).isSome = true := by cases e : plR b g (i + 1) x with | none => exact absurd e h | some v => rfl
    have hsd : SameD (plA (plR b g i) ((i : Int) + 2)) (plR b g (i + 1)) := by
      have h3 : SameD (plA (plR b g i) ((i : Int) + 2)) (plD (plR b g i) ((i : Int) + 2) (10 + i) (g i).1 (g i).2) := (subbed_isS.trans (turn_isS _)).trans (pos_isS _ _)
      have h4 : SameD (plA (plR b g i) ((i : Int) + 2)) (plE b (plR b g i) ((i : Int) + 2) (10 + i) (g i).1 (g i).2) := by
        unfold plE
        split
        · exact h3.trans (bes_isS _ _)
        · exact h3
      exact h4.trans (com_isS _ _)
    rw [hsd x] at h1
    by_cases e : x = (i : Int) + 2
    · omega
    · unfold plA at h1
      rw [setM_other _ _ e] at h1
      have := plR_dom b g i x (fun e => by rw [e] at h1; cases h1)
      omega
theorem plH_dom (b : Bool) (g : Nat → Int × Int) (k : Nat) (x : Int) (h : plH b g k x ≠ none) : 1 ≤ x ∧ x ≤ ((k + 1 : Nat) : Int) := by
  have := plR_dom b g k x (fun e => h (isS_none (com_isS _ _) e))
  omega
theorem plCh_eq {g : Nat → Int × Int} {i : Nat} {x y : Int} (hg : g i = (x, y)) (hx : 0 ≤ x ∧ x ≤ 1000) (hy : 0 ≤ y ∧ y ≤ 1000) : plCh g i = ⟨(i : Int) + 2, x, y⟩ := by
  unfold plCh
  rw [hg]
  have e1 : cutF x = x := by unfold cutF; omega
  have e2 : cutF y = y := by unfold cutF; omega
  dsimp only
  rw [e1, e2]
  have w1 : wrap64 (0 + x) = x := by unfold wrap64; omega
  have w2 : wrap64 (0 + y) = y := by unfold wrap64; omega
  rw [w1, w2]
end Go.Proofs.YthkjicnnepkghaaDoor
