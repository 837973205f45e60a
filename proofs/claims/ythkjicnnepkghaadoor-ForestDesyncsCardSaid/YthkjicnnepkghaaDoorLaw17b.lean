/-
  The law ForestDesyncs: its forests, as plain data.
-/
import Derived.Test.YthkjicnnepkghaaDoorFCalc
namespace Go.Proofs.YthkjicnnepkghaaDoor
open Go.RowKit
set_option linter.unusedVariables false

theorem com_isS {M : Fo} {id : Int} (sy : Int → Bool) (k : Nat) : SameD M (fcomS sy k M id).1 := fun x => by
  have := congrArg Option.isSome (com_par (M := M) (id := id) sy k x)
  simpa using this
def ds1 : Sf := ⟨0, false, St.zero, St.zero, ⟨false, 0, [], [], false, true, [], false, [0, 2], [⟨2, 0, 0⟩]⟩⟩
def dsS (sy : Bool) (pe ca : St) (now : Int) : Sf := ⟨1, sy, pe, ca, { St.first with buffer := now }⟩
def dsM (sy : Bool) (pe ca : St) (now : Int) : Fo := fun i => if i = 1 then some ds1 else if i = 2 then some (dsS sy pe ca now) else none
theorem ds_ext {M : Fo} {sy : Bool} {pe ca : St} {now : Int} (h1 : M 1 = some ds1) (h2 : M 2 = some (dsS sy pe ca now)) (h3 : ∀ x, x ≠ 1 → x ≠ 2 → M x = none) : M = dsM sy pe ca now := by
  funext i
  unfold dsM
  by_cases e1 : i = 1
  · rw [if_pos e1, e1, h1]
  · rw [if_neg e1]
    by_cases e2 : i = 2
    · rw [if_pos e2, e2, h2]
    · rw [if_neg e2, h3 i e1 e2]
theorem dsM_none {sy : Bool} {pe ca : St} {now : Int} (x : Int) (e1 : x ≠ 1) (e2 : x ≠ 2) : dsM sy pe ca now x = none := by unfold dsM; rw [if_neg e1, if_neg e2]
theorem isS_none {M M' : Fo} (h : SameD M M') {x : Int} (hx : M x = none) : M' x = none := by
  have := h x
  rw [hx] at this
  cases e : M' x with
  | none => rfl
  | some v => rw [e] at this; cases this
theorem ds_rk (sy : Bool) (pe ca : St) (now : Int) : RkOk (dsM sy pe ca now) 2 := fun j s hj => by
  unfold dsM at hj
  by_cases e1 : j = 1
  · rw [if_pos e1] at hj; cases hj; subst e1; exact ⟨by decide, fun e => absurd rfl e⟩
  · rw [if_neg e1] at hj
    by_cases e2 : j = 2
    · rw [if_pos e2] at hj; cases hj; subst e2; exact ⟨by decide, fun _ => (show (1 : Int).toNat < (2 : Int).toNat by decide)⟩
    · rw [if_neg e2] at hj; cases hj
theorem ds_sync (sy on : Bool) (pe ca : St) (now : Int) : fsyncS (dsM sy pe ca now) 2 on = dsM on pe ca now :=
  ds_ext rfl rfl fun x e1 e2 => isS_none (sync_isS on) (dsM_none x e1 e2)
theorem ds_turn (sy : Bool) (pe ca : St) (now : Int) (f : St → St) : turnS (dsM sy pe ca now) 2 f = dsM sy (f pe) ca now :=
  ds_ext rfl rfl fun x e1 e2 => isS_none (turn_isS f) (dsM_none x e1 e2)
theorem ds_merge {ca : St} (v : Int) (h : ca = St.zero ∨ ∃ c, ca = attachT c St.zero) : mergeT ca (attachT v St.zero) = attachT v St.zero := by
  rcases h with rfl | ⟨c, rfl⟩ <;> rfl
theorem ds_comT {ca : St} (v now : Int) (h : ca = St.zero ∨ ∃ c, ca = attachT c St.zero) : (comC (dsM true (attachT v St.zero) ca now) 2 2).1 = dsM true St.zero (attachT v St.zero) now ∧ (comC (dsM true (attachT v St.zero) ca now) 2 2).2 = [] := by
  refine ⟨ds_ext rfl ?_ fun x e1 e2 => isS_none (com_isS _ _) (dsM_none x e1 e2), rfl⟩
  show some (cacheS (dsS true (attachT v St.zero) ca now)) = _
  unfold cacheS dsS
  dsimp only
  rw [ds_merge v h]
theorem ds_comF {ca : St} (v now : Int) (h : ca = St.zero ∨ ∃ c, ca = attachT c St.zero) : (comC (dsM false (attachT v St.zero) ca now) 2 2).1 = dsM false St.zero St.zero v ∧ (comC (dsM false (attachT v St.zero) ca now) 2 2).2 = [2] := by
  have e : comC (dsM false (attachT v St.zero) ca now) 2 2 = comA (syC (dsM false (attachT v St.zero) ca now)) 3 (setM (dsM false (attachT v St.zero) ca now) 2 (some (dsS false St.zero (attachT v St.zero) now)), [2]) 2 := by
    show comA (syC (dsM false (attachT v St.zero) ca now)) 3 (setM (dsM false (attachT v St.zero) ca now) 2 (some (cacheS (dsS false (attachT v St.zero) ca now))), [2]) 2 = _
    have : cacheS (dsS false (attachT v St.zero) ca now) = dsS false St.zero (attachT v St.zero) now := by
      unfold cacheS dsS
      dsimp only
      rw [ds_merge v h]
    rw [this]
  rw [e]
  refine ⟨ds_ext rfl rfl fun x e1 e2 => ?_, rfl⟩
  rw [← e]
  exact isS_none (com_isS _ _) (dsM_none x e1 e2)
theorem ds_start : (comC (subbed (setM (setM (fun _ => none) 1 (some newSf)) 2 (some newSf)) 2 1) 2 1).1 = dsM true St.zero St.zero 0 ∧ (comC (subbed (setM (setM (fun _ => none) 1 (some newSf)) 2 (some newSf)) 2 1) 2 1).2 = [1] := by
  refine ⟨ds_ext (by decide +kernel) (by decide +kernel) fun x e1 e2 => isS_none (com_isS _ _) ?_, by decide +kernel⟩
  show setM (setM (setM (setM (fun _ => none) 1 (some newSf)) 2 (some newSf)) 2 _) 1 _ x = none
  rw [setM_other _ _ e1, setM_other _ _ e2, setM_other _ _ e2, setM_other _ _ e1]
end Go.Proofs.YthkjicnnepkghaaDoor
