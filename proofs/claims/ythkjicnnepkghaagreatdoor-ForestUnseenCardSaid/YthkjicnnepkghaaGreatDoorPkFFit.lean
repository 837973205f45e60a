/-
  Bounds of a forest's lists, as plain data; a commit keeps them.
-/
import Derived.Test.YthkjicnnepkghaaGreatDoorPkFCom
namespace Go.Proofs.YthkjicnnepkghaaGreatDoor
open Go.RowKit
set_option linter.unusedVariables false

structure FitS (B : Nat) (s : Sf) : Prop where
  d : s.pe.damage.length + s.ca.damage.length + s.cu.damage.length ≤ B
  f : s.pe.frames.length + s.ca.frames.length + s.cu.frames.length ≤ B
  p : s.pe.places.length + s.ca.places.length + s.cu.places.length ≤ B
  r : s.pe.region.length ≤ B ∧ s.ca.region.length ≤ B ∧ s.cu.region.length ≤ B
  o : s.pe.order.length ≤ B ∧ s.ca.order.length ≤ B ∧ s.cu.order.length ≤ B
def FitM (B : Nat) (M : Fo) : Prop := ∀ id s, M id = some s → FitS B s
section
variable {B B' : Nat} {M : Fo} {s : Sf} {id : Int}
theorem FitS.mono (h : FitS B s) (hB : B ≤ B') : FitS B' s := by
  obtain ⟨h1, h2, h3, ⟨h4, h5, h6⟩, h7, h8, h9⟩ := h
  exact ⟨by omega, by omega, by omega, ⟨by omega, by omega, by omega⟩, by omega, by omega, by omega⟩
theorem FitM.mono (h : FitM B M) (hB : B ≤ B') : FitM B' M := fun i t hi => (h i t hi).mono hB
theorem FitM.empty (B : Nat) : FitM B (fun _ => none) := fun _ _ h => by cases h
theorem FitM.set (h : FitM B M) {v : Sf} (hv : FitS B v) : FitM B (setM M id (some v)) := fun i t hi => by
  rcases setM_eq hi with ⟨rfl, e⟩ | ⟨_, e⟩
  · cases e; exact hv
  · exact h _ _ e
theorem FitM.del (h : FitM B M) : FitM B (setM M id none) := fun i t hi => by
  rcases setM_eq hi with ⟨_, e⟩ | ⟨_, e⟩
  · cases e
  · exact h _ _ e
theorem FitS.fits (h : FitS B s) (hB : B ≤ 50000) : MergeFits s.cu s.ca ∧ MergeFits s.ca s.pe ∧ MergeFits s.pe St.zero ∧ MergeFits s.ca St.zero ∧ MergeFits s.cu St.zero := by
  obtain ⟨h1, h2, h3, ⟨h4, h5, h6⟩, h7, h8, h9⟩ := h
  refine ⟨⟨?_, ?_, ⟨?_, ?_⟩, ⟨?_, ?_⟩, ?_⟩, ⟨?_, ?_, ⟨?_, ?_⟩, ⟨?_, ?_⟩, ?_⟩, ⟨?_, ?_, ⟨?_, ?_⟩, ⟨?_, ?_⟩, ?_⟩, ⟨?_, ?_, ⟨?_, ?_⟩, ⟨?_, ?_⟩, ?_⟩, ⟨?_, ?_, ⟨?_, ?_⟩, ⟨?_, ?_⟩, ?_⟩⟩ <;> first | omega | (simp only [St.zero, List.length_nil]; omega)
theorem FitS.app (h : FitS B s) : FitS B (appS s) := by
  obtain ⟨h1, h2, h3, ⟨h4, h5, h6⟩, h7, h8, h9⟩ := h
  have hp := putsP_len s.ca.places s.cu.places
  refine ⟨?_, ?_, ?_, ⟨h4, by simp [appS, St.zero], ?_⟩, h7, by simp [appS, St.zero], ?_⟩
  · simp [appS, applyT, St.zero]; omega
  · simp [appS, applyT, mergeT, St.zero]; omega
  · show s.pe.places.length + 0 + (putsP s.cu.places s.ca.places).length ≤ B
    omega
  · show (if s.ca.input then s.ca.region else s.cu.region).length ≤ B
    split <;> omega
  · show (if s.ca.ordered then s.ca.order else s.cu.order).length ≤ B
    split <;> omega
def cacheS (s : Sf) : Sf := { s with ca := mergeT s.ca s.pe, pe := St.zero }
theorem FitS.cache (h : FitS B s) : FitS B (cacheS s) := by
  obtain ⟨h1, h2, h3, ⟨h4, h5, h6⟩, h7, h8, h9⟩ := h
  have hp := putsP_len s.pe.places s.ca.places
  refine ⟨?_, ?_, ?_, ⟨by simp [cacheS, St.zero], ?_, h6⟩, by simp [cacheS, St.zero], ?_, h9⟩
  · simp [cacheS, mergeT, St.zero]; omega
  · simp [cacheS, mergeT, St.zero]; omega
  · show 0 + (putsP s.ca.places s.pe.places).length + s.cu.places.length ≤ B
    omega
  · show (if s.pe.input then s.pe.region else s.ca.region).length ≤ B
    split <;> omega
  · show (if s.pe.ordered then s.pe.order else s.ca.order).length ≤ B
    split <;> omega

theorem comA_keeps {sy : Int → Bool} {P : Fo → Prop} (hP : ∀ M id s, P M → M id = some s → P (setM M id (some (appS s)))) : ∀ (k : Nat) (M : Fo) (l : List Int) (id : Int), P M → P (comA sy k (M, l) id).1
  | 0, M, l, id, h => h
  | k + 1, M, l, id, h => by
    unfold comA
    dsimp only
    cases hs : M id with
    | none => exact h
    | some s =>
      have key : ∀ (L : List Int) (q : Fo × List Int), P q.1 → P (L.foldl (comStep sy (comA sy k)) q).1 := by
        intro L
        induction L with
        | nil => intro q hq; exact hq
        | cons x L ih =>
          intro q hq
          refine ih _ ?_
          unfold comStep
          split
          · exact hq
          · split
            · exact hq
            · split
              · exact comA_keeps hP k _ _ _ hq
              · exact hq
      exact key _ _ (hP M id s h hs)
theorem CntM.set {k : Nat} (h : CntM M k) (hs : M id = some s) (v : Sf) : CntM (setM M id (some v)) k := by
  obtain ⟨l, h1, h2, h3⟩ := h
  refine ⟨l, h1, h2, fun x => ?_⟩
  rw [h3 x]
  by_cases e : x = id
  · subst e; rw [setM_same, hs]; simp
  · rw [setM_other _ _ e]

def fcomS (sy : Int → Bool) (k : Nat) (M : Fo) (id : Int) : Fo × List Int := match M id with
  | none => (M, [])
  | some s => if sy id then (setM M id (some (cacheS s)), []) else comA sy k (setM M id (some (cacheS s)), [id]) id
theorem keep_cache (hs : M id = some s) (x : Int) : (setM M id (some (cacheS s)) x).map keyS = (M x).map (fun t => if x = id then (t.parent, t.sync, St.zero) else keyS t) := by
  by_cases e : x = id
  · subst e; rw [setM_same, hs]; simp [keyS, cacheS]
  · rw [setM_other _ _ e]; simp [e]
theorem syn_cache (hs : M id = some s) {x : Int} : Syn (setM M id (some (cacheS s))) x ↔ Syn M x := by
  have fwd : ∀ j t, M j = some t → ∃ t', setM M id (some (cacheS s)) j = some t' ∧ t'.parent = t.parent ∧ t'.sync = t.sync := fun j t hj => by
    by_cases e : j = id
    · subst e; rw [hs] at hj; cases hj; exact ⟨_, setM_same _ _ _, rfl, rfl⟩
    · exact ⟨t, by rw [setM_other _ _ e]; exact hj, rfl, rfl⟩
  have back : ∀ j t', setM M id (some (cacheS s)) j = some t' → ∃ t, M j = some t ∧ t'.parent = t.parent ∧ t'.sync = t.sync := fun j t' hj => by
    rcases setM_eq hj with ⟨rfl, e⟩ | ⟨_, e⟩
    · cases e; exact ⟨s, hs, rfl, rfl⟩
    · exact ⟨t', e, rfl, rfl⟩
  constructor
  · intro h
    induction h with
    | here h1 h2 h3 => obtain ⟨t, a, b, c⟩ := back _ _ h1; exact .here a (by rw [← b]; exact h2) (by rw [← c]; exact h3)
    | up h1 h2 _ ih => obtain ⟨t, a, b, c⟩ := back _ _ h1; exact .up a (by rw [← b]; exact h2) (by rw [← b]; exact ih)
  · intro h
    induction h with
    | here h1 h2 h3 => obtain ⟨t, a, b, c⟩ := fwd _ _ h1; exact .here a (by rw [b]; exact h2) (by rw [c]; exact h3)
    | up h1 h2 _ ih => obtain ⟨t, a, b, c⟩ := fwd _ _ h1; exact .up a (by rw [b]; exact h2) (by rw [b]; exact ih)
theorem synB_cache (hs : M id = some s) (x : Int) : synB (setM M id (some (cacheS s))) x = synB M x := by
  unfold synB
  simp [syn_cache hs]
theorem GoodM.cache (h : GoodM M) (hs : M id = some s) : GoodM (setM M id (some (cacheS s))) := by
  have hk := h.kids _ _ hs
  obtain ⟨t1, t2, t3⟩ := h.tidy _ _ hs
  refine h.turn hs rfl ⟨Kids.nil _ _, ?_, hk.2.2⟩ ⟨tidy_zero, ?_, t3⟩
  · show Kids M id (if s.pe.ordered then s.pe.order else s.ca.order)
    split
    · exact hk.1
    · exact hk.2.1
  · obtain ⟨a1, a2, a3⟩ := t1
    obtain ⟨b1, b2, b3⟩ := t2
    refine ⟨fun e => ?_, fun e => ?_, fun e => ?_⟩
    · have e' : (s.ca.attach || s.pe.attach) = false := e
      simp only [Bool.or_eq_false_iff] at e'
      show (if s.pe.attach then s.pe.buffer else s.ca.buffer) = 0
      rw [e'.2, if_neg (by decide)]; exact b1 e'.1
    · have e' : (s.ca.input || s.pe.input) = false := e
      simp only [Bool.or_eq_false_iff] at e'
      show (if s.pe.input then s.pe.all else s.ca.all) = false ∧ (if s.pe.input then s.pe.region else s.ca.region) = []
      rw [e'.2, if_neg (by decide), if_neg (by decide)]; exact b2 e'.1
    · have e' : (s.ca.ordered || s.pe.ordered) = false := e
      simp only [Bool.or_eq_false_iff] at e'
      show (if s.pe.ordered then s.pe.order else s.ca.order) = []
      rw [e'.2, if_neg (by decide)]; exact b3 e'.1
end
end Go.Proofs.YthkjicnnepkghaaGreatDoor
