/-
  What each call keeps of a forest, as plain data.
-/
import Derived.Test.YthkjicnnepkghaaDoorFFit
import Derived.Test.YthkjicnnepkghaaDoorForest4
namespace Go.Proofs.YthkjicnnepkghaaDoor
open Go.RowKit
set_option linter.unusedVariables false

section
variable {M : Fo} {id : Int} {s : Sf} {B : Nat}
theorem latest_len (h : FitS B s) : s.latest.length ≤ B := by
  obtain ⟨h1, h2, h3, h4, h7, h8, h9⟩ := h
  unfold Sf.latest
  split
  · exact h7
  · split
    · exact h8
    · exact h9
theorem without_len (l : List Int) (x : Int) : (without l x).length ≤ l.length := by unfold without; exact List.length_filter_le _ _
theorem without_sub {l : List Int} {x y : Int} (h : y ∈ without l x) : y ∈ l := by simp [without] at h; exact h.1
theorem putL_len (l : List Int) (a b : Int) (k : Nat) : (putL l a b k).length ≤ l.length + 1 := by
  rw [putL_eq]
  have := without_len l a
  simp only [List.length_append, List.length_cons, List.length_take, List.length_drop]
  omega
theorem putL_mem {l : List Int} {a b x : Int} {k : Nat} (h : x ∈ putL l a b k) : x = a ∨ x ∈ l := by
  rw [putL_eq] at h
  simp only [List.mem_append, List.mem_cons] at h
  rcases h with h | h | h
  · exact .inr (without_sub (List.mem_of_mem_take h))
  · exact .inl h
  · exact .inr (without_sub (List.mem_of_mem_drop h))
theorem fit_order (h : FitS B s) {l : List Int} (hl : l.length ≤ B + 1) : FitS (B + 1) (orderT s l) := by
  obtain ⟨h1, h2, h3, ⟨h4, h5, h6⟩, h7, h8, h9⟩ := h
  exact ⟨by simp only [orderT]; omega, by simp only [orderT]; omega, by simp only [orderT]; omega, ⟨by simp only [orderT]; omega, by simp only [orderT]; omega, by simp only [orderT]; omega⟩, hl, by simp only [orderT]; omega, by simp only [orderT]; omega⟩
theorem fit_place (h : FitS B s) (c : Ch) : FitS (B + 1) (placeT s c) := by
  obtain ⟨h1, h2, h3, ⟨h4, h5, h6⟩, h7, h8, h9⟩ := h
  have := putP_len s.pe.places c
  exact ⟨by simp only [placeT]; omega, by simp only [placeT]; omega, by simp only [placeT]; omega, ⟨by simp only [placeT]; omega, by simp only [placeT]; omega, by simp only [placeT]; omega⟩, by simp only [placeT]; omega, by simp only [placeT]; omega, by simp only [placeT]; omega⟩
theorem fit_new (hB : 1 ≤ B) : FitS B newSf := by
  constructor <;> simp [newSf, St.zero, St.first]
  exact hB
theorem fit_attach (h : FitS B s) (b : Int) : FitS B { s with pe := attachT b s.pe } := ⟨h.d, h.f, h.p, h.r, h.o⟩
theorem FitM.add (h : FitM B M) (k : Nat) : FitM (B + 1) (faddS M k id) := by
  unfold faddS
  split
  · exact (h.mono (Nat.le_succ B)).set (fit_new (by omega))
  · exact h.mono (Nat.le_succ B)
theorem FitM.sub (h : FitM B M) (parent : Int) : FitM (B + 2) (fsubS M id parent) := by
  unfold fsubS
  split
  · unfold subbed
    split
    · rename_i s p hs hp
      have h1 : FitM (B + 2) (setM M id (some { s with parent := parent, sync := true })) := by
        have := (h id s hs).mono (show B ≤ B + 2 by omega)
        exact (h.mono (show B ≤ B + 2 by omega)).set (v := { s with parent := parent, sync := true }) ⟨this.d, this.f, this.p, this.r, this.o⟩
      have hl := latest_len (h parent p hp)
      have hw := without_len p.latest id
      exact h1.set (fit_place (fit_order (h parent p hp) (l := without p.latest id ++ [id]) (by simp; omega)) _)
    · exact h.mono (by omega)
  · exact h.mono (by omega)
theorem FitM.turnA (h : FitM B M) (b : Int) : FitM B (turnS M id (attachT b)) := by
  unfold turnS
  split
  · exact h
  · rename_i s hs
    exact h.set (fit_attach (h id s hs) b)
theorem FitM.sync (h : FitM B M) (on : Bool) : FitM B (fsyncS M id on) := by
  unfold fsyncS
  split
  · exact h
  · rename_i s hs
    split
    · exact h
    · have := h id s hs
      exact h.set (v := { s with sync := on }) ⟨this.d, this.f, this.p, this.r, this.o⟩
theorem FitM.pos (h : FitM B M) (x y : Int) : FitM (B + 1) (fposS M id x y) := by
  unfold fposS
  split
  · exact h.mono (by omega)
  · rename_i s hs
    split
    · exact h.mono (by omega)
    · rename_i p hp
      split
      · exact h.mono (by omega)
      · exact (h.mono (by omega)).set (fit_place (h _ p hp) _)
theorem FitM.bes (h : FitM B M) (by' : Int) (k : Nat) : FitM (B + 1) (besS M id by' k) := by
  unfold besS
  split
  · split
    · exact h.mono (by omega)
    · rename_i s hs
      split
      · exact h.mono (by omega)
      · rename_i p hp
        have hl := latest_len (h _ p hp)
        have := putL_len p.latest id (byK s by') k
        exact (h.mono (by omega)).set (fit_order (h _ p hp) (by omega))
  · exact h.mono (by omega)

theorem GoodM.subS (h : GoodM M) (parent : Int) : GoodM (fsubS M id parent) := by
  unfold fsubS
  split
  · rename_i hk
    unfold fsubK at hk
    cases hs : M id with
    | none => unfold subbed; rw [hs]; exact h
    | some s =>
      cases hp : M parent with
      | none => unfold subbed; rw [hs, hp]; exact h
      | some p =>
        rw [hs, hp] at hk
        dsimp only at hk
        by_cases h0 : s.parent ≠ 0
        · rw [if_pos h0] at hk; cases hk
        · rw [if_neg h0] at hk
          by_cases hu : Up M id parent
          · rw [if_pos hu] at hk; cases hk
          · exact h.subs hs hp (by simpa using h0) hu
  · exact h
theorem GoodM.attach (h : GoodM M) (b : Int) : GoodM (turnS M id (attachT b)) := by
  unfold turnS
  split
  · exact h
  · rename_i s hs
    have ht := h.tidy _ _ hs
    have hk := h.kids _ _ hs
    exact h.turn hs rfl hk ⟨⟨fun e => (by cases e), ht.1.2⟩, ht.2⟩
theorem GoodM.sync (h : GoodM M) (on : Bool) : GoodM (fsyncS M id on) := by
  unfold fsyncS
  split
  · exact h
  · rename_i s hs
    split
    · exact h
    · have hk := h.kids _ _ hs
      have ht := h.tidy _ _ hs
      exact h.turn hs rfl hk ht
theorem GoodM.posS (h : GoodM M) (x y : Int) : GoodM (fposS M id x y) := by
  unfold fposS
  split
  · exact h
  · rename_i s hs
    split
    · exact h
    · rename_i p hp
      split
      · exact h
      · have hk := h.kids _ _ hp
        have ht := h.tidy _ _ hp
        exact h.turn hp rfl hk ht
theorem GoodM.bes (h : GoodM M) (by' : Int) (k : Nat) : GoodM (besS M id by' k) := by
  unfold besS
  split
  · split
    · exact h
    · rename_i s hs
      split
      · exact h
      · rename_i p hp
        have hk := h.kids _ _ hp
        have ht := h.tidy _ _ hp
        refine h.turn hp rfl ⟨fun x hx => ?_, hk.2⟩ ⟨⟨ht.1.1, ht.1.2.1, fun e => by cases e⟩, ht.2⟩
        rcases putL_mem hx with rfl | hx
        · exact .inr ⟨s, hs, rfl⟩
        · exact latest_kids h hp x hx
  · exact h

theorem CntM.add {k : Nat} (h : CntM M k) (h0 : faddK M k id = 0) : CntM (faddS M k id) (k + 1) := by
  have hn : M id = none := by
    unfold faddK at h0
    cases e : M id with
    | none => rfl
    | some v =>
      rw [e] at h0
      by_cases hi : id < 1
      · rw [if_pos hi] at h0; cases h0
      · rw [if_neg hi] at h0; simp at h0
  obtain ⟨l, h1, h2, h3⟩ := h
  unfold faddS
  rw [if_pos h0]
  refine ⟨id :: l, List.nodup_cons.2 ⟨fun hm => ?_, h1⟩, by simp [h2], fun x => ?_⟩
  · have := (h3 id).1 hm
    rw [hn] at this; cases this
  · by_cases e : x = id
    · subst e; rw [setM_same]; simp
    · rw [setM_other _ _ e, ← h3 x]; simp [e]
theorem CntM.same {M' : Fo} {k : Nat} (h : CntM M k) (hs : ∀ x, (M' x).isSome = (M x).isSome) : CntM M' k := by
  obtain ⟨l, h1, h2, h3⟩ := h
  exact ⟨l, h1, h2, fun x => by rw [hs x]; exact h3 x⟩
theorem setM_isS (hs : (M id).isSome = true) (v : Sf) (x : Int) : (setM M id (some v) x).isSome = (M x).isSome := by
  by_cases e : x = id
  · subst e; rw [setM_same, hs]; rfl
  · rw [setM_other _ _ e]
def SameD (M M' : Fo) : Prop := ∀ x, (M' x).isSome = (M x).isSome
theorem SameD.refl (M : Fo) : SameD M M := fun _ => rfl
theorem SameD.set (hs : (M id).isSome = true) (v : Sf) : SameD M (setM M id (some v)) := setM_isS hs v
theorem SameD.trans {M' M'' : Fo} (h : SameD M M') (h' : SameD M' M'') : SameD M M'' := fun x => (h' x).trans (h x)
theorem sub_isS (parent : Int) : SameD M (fsubS M id parent) := by
  unfold fsubS
  split
  · unfold subbed
    split
    · rename_i s p hs hp
      refine (SameD.set (by rw [hs]; rfl) _).trans (SameD.set ?_ _)
      rw [setM_isS (by rw [hs]; rfl), hp]; rfl
    · exact .refl _
  · exact .refl _
theorem turn_isS (f : St → St) : SameD M (turnS M id f) := by
  unfold turnS
  split
  · exact .refl _
  · rename_i s hs
    exact .set (by rw [hs]; rfl) _
theorem sync_isS (on : Bool) : SameD M (fsyncS M id on) := by
  unfold fsyncS
  split
  · exact .refl _
  · rename_i s hs
    split
    · exact .refl _
    · exact .set (by rw [hs]; rfl) _
theorem pos_isS (a b : Int) : SameD M (fposS M id a b) := by
  unfold fposS
  split
  · exact .refl _
  · split
    · exact .refl _
    · rename_i p hp
      split
      · exact .refl _
      · exact .set (by rw [hp]; rfl) _
theorem bes_isS (by' : Int) (k : Nat) : SameD M (besS M id by' k) := by
  unfold besS
  split
  · split
    · exact .refl _
    · split
      · exact .refl _
      · rename_i p hp
        exact .set (by rw [hp]; rfl) _
  · exact .refl _

/-- A commit keeps all. -/
theorem commit_keeps {rk : Int → Nat} {Bk k c : Nat} (hG : GoodM M) (hF : FitM B M) (hB : B ≤ 50000) (hC : CntM M c) (hrk : ∀ j s, M j = some s → rk j ≤ Bk ∧ (s.parent ≠ 0 → rk s.parent < rk j)) (hk : ∀ s, M id = some s → Bk < k + rk id) :
    GoodM (fcomS (synB M) k M id).1 ∧ FitM B (fcomS (synB M) k M id).1 ∧ CntM (fcomS (synB M) k M id).1 c := by
  cases hs : M id with
  | none => have e : fcomS (synB M) k M id = (M, []) := by simp [fcomS, hs]
            rw [e]; exact ⟨hG, hF, hC⟩
  | some s =>
    have hq : fcomS (synB M) k M id = if synB M id then (setM M id (some (cacheS s)), []) else comA (synB M) k (setM M id (some (cacheS s)), [id]) id := by simp [fcomS, hs]
    rw [hq]
    have h1 := hG.cache hs
    have h2 := hF.set (id := id) ((hF id s hs).cache)
    have h3 := hC.set hs (cacheS s)
    split
    · exact ⟨h1, h2, h3⟩
    · have hrk2 : ∀ j s', setM M id (some (cacheS s)) j = some s' → rk j ≤ Bk ∧ (s'.parent ≠ 0 → rk s'.parent < rk j) := fun j s' hj => by
        rcases setM_eq hj with ⟨rfl, e⟩ | ⟨_, e⟩
        · cases e; have := hrk j s hs; exact this
        · exact hrk _ _ e
      have hpre : CPre (setM M id (some (cacheS s))) [id] id := ⟨h1, (fun j t hj => ((h2 j t hj).fits hB).1), by simp, (fun y hy => ⟨cacheS s, by simp at hy; subst hy; exact setM_same _ _ _, .inl (by simpa using hy)⟩)⟩
      have := comA_inv (sy := synB M) (rk := rk) (Bk := Bk) k _ [id] id (cacheS s) hpre (setM_same _ _ _) hrk2 (hk s hs)
      refine ⟨this.1.good, ?_, ?_⟩
      · exact comA_keeps (P := FitM B) (fun M id s h hs => h.set (h id s hs).app) k _ _ _ h2
      · exact h3.same this.2.isS
end
end Go.Proofs.YthkjicnnepkghaaDoor
