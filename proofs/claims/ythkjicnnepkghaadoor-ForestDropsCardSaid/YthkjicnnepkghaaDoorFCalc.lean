/-
  What each call keeps of a forest, as plain data; computing over forests.
-/
import Derived.Test.YthkjicnnepkghaaDoorFFit
import Derived.Test.YthkjicnnepkghaaDoorForest4
namespace Go.Proofs.YthkjicnnepkghaaDoor
open Go.RowKit
set_option linter.unusedVariables false

section
variable {M : Fo} {id : Int} {s : Sf} {B : Nat}
theorem latest_len (h : FitS B s) : s.latest.length ≤ B := by
  obtain ⟨h1, h2, h3, h4, h7, h8, h9⟩ := h
  unfold Sf.latest
  split
  · exact h7
  · split
    · exact h8
    · exact h9
theorem without_len (l : List Int) (x : Int) : (without l x).length ≤ l.length := by unfold without; exact List.length_filter_le _ _
theorem without_sub {l : List Int} {x y : Int} (h : y ∈ without l x) : y ∈ l := by simp [without] at h; exact h.1
theorem putL_len (l : List Int) (a b : Int) (k : Nat) : (putL l a b k).length ≤ l.length + 1 := by
  rw [putL_eq]
  have := without_len l a
  simp only [List.length_append, List.length_cons, List.length_take, List.length_drop]
  omega
theorem putL_mem {l : List Int} {a b x : Int} {k : Nat} (h : x ∈ putL l a b k) : x = a ∨ x ∈ l := by
  rw [putL_eq] at h
  simp only [List.mem_append, List.mem_cons] at h
  rcases h with h | h | h
  · exact .inr (without_sub (List.mem_of_mem_take h))
  · exact .inl h
  · exact .inr (without_sub (List.mem_of_mem_drop h))
theorem fit_order (h : FitS B s) {l : List Int} (hl : l.length ≤ B + 1) : FitS (B + 1) (orderT s l) := by
  obtain ⟨h1, h2, h3, ⟨h4, h5, h6⟩, h7, h8, h9⟩ := h
  exact ⟨by simp only [orderT]; omega, by simp only [orderT]; omega, by simp only [orderT]; omega, ⟨by simp only [orderT]; omega, by simp only [orderT]; omega, by simp only [orderT]; omega⟩, hl, by simp only [orderT]; omega, by simp only [orderT]; omega⟩
theorem fit_place (h : FitS B s) (c : Ch) : FitS (B + 1) (placeT s c) := by
  obtain ⟨h1, h2, h3, ⟨h4, h5, h6⟩, h7, h8, h9⟩ := h
  have := putP_len s.pe.places c
  exact ⟨by simp only [placeT]; omega, by simp only [placeT]; omega, by simp only [placeT]; omega, ⟨by simp only [placeT]; omega, by simp only [placeT]; omega, by simp only [placeT]; omega⟩, by simp only [placeT]; omega, by simp only [placeT]; omega, by simp only [placeT]; omega⟩
theorem fit_new (hB : 1 ≤ B) : FitS B newSf := by
  constructor <;> simp [newSf, St.zero, St.first]
  exact hB
theorem fit_attach (h : FitS B s) (b : Int) : FitS B { s with pe := attachT b s.pe } := ⟨h.d, h.f, h.p, h.r, h.o⟩
theorem FitM.add (h : FitM B M) (k : Nat) : FitM (B + 1) (faddS M k id) := by
  unfold faddS
  split
  · exact (h.mono (Nat.le_succ B)).set (fit_new (by omega))
  · exact h.mono (Nat.le_succ B)
theorem FitM.sub (h : FitM B M) (parent : Int) : FitM (B + 2) (fsubS M id parent) := by
  unfold fsubS
  split
  · unfold subbed
    split
    · rename_i s p hs hp
      have h1 : FitM (B + 2) (setM M id (some { s with parent := parent, sync := true })) := by
        have := (h id s hs).mono (show B ≤ B + 2 by omega)
        exact (h.mono (show B ≤ B + 2 by omega)).set (v := { s with parent := parent, sync := true }) ⟨this.d, this.f, this.p, this.r, this.o⟩
      have hl := latest_len (h parent p hp)
      have hw := without_len p.latest id
      exact h1.set (fit_place (fit_order (h parent p hp) (l := without p.latest id ++ [id]) (by simp; omega)) _)
    · exact h.mono (by omega)
  · exact h.mono (by omega)
theorem FitM.turnA (h : FitM B M) (b : Int) : FitM B (turnS M id (attachT b)) := by
  unfold turnS
  split
  · exact h
  · rename_i s hs
    exact h.set (fit_attach (h id s hs) b)
theorem FitM.sync (h : FitM B M) (on : Bool) : FitM B (fsyncS M id on) := by
  unfold fsyncS
  split
  · exact h
  · rename_i s hs
    split
    · exact h
    · have := h id s hs
      exact h.set (v := { s with sync := on }) ⟨this.d, this.f, this.p, this.r, this.o⟩
theorem FitM.pos (h : FitM B M) (x y : Int) : FitM (B + 1) (fposS M id x y) := by
  unfold fposS
  split
  · exact h.mono (by omega)
  · rename_i s hs
    split
    · exact h.mono (by omega)
    · rename_i p hp
      split
      · exact h.mono (by omega)
      · exact (h.mono (by omega)).set (fit_place (h _ p hp) _)
theorem FitM.bes (h : FitM B M) (by' : Int) (k : Nat) : FitM (B + 1) (besS M id by' k) := by
  unfold besS
  split
  · split
    · exact h.mono (by omega)
    · rename_i s hs
      split
      · exact h.mono (by omega)
      · rename_i p hp
        have hl := latest_len (h _ p hp)
        have := putL_len p.latest id (byK s by') k
        exact (h.mono (by omega)).set (fit_order (h _ p hp) (by omega))
  · exact h.mono (by omega)

theorem GoodM.subS (h : GoodM M) (parent : Int) : GoodM (fsubS M id parent) := by
  unfold fsubS
  split
  · rename_i hk
    unfold fsubK at hk
    cases hs : M id with
    | none => unfold subbed; rw [hs]; exact h
    | some s =>
      cases hp : M parent with
      | none => unfold subbed; rw [hs, hp]; exact h
      | some p =>
        rw [hs, hp] at hk
        dsimp only at hk
        by_cases h0 : s.parent ≠ 0
        · rw [if_pos h0] at hk; cases hk
        · rw [if_neg h0] at hk
          by_cases hu : Up M id parent
          · rw [if_pos hu] at hk; cases hk
          · exact h.subs hs hp (by simpa using h0) hu
  · exact h
theorem GoodM.attach (h : GoodM M) (b : Int) : GoodM (turnS M id (attachT b)) := by
  unfold turnS
  split
  · exact h
  · rename_i s hs
    have ht := h.tidy _ _ hs
    have hk := h.kids _ _ hs
    exact h.turn hs rfl hk ⟨⟨fun e => (by cases e), ht.1.2⟩, ht.2⟩
theorem GoodM.sync (h : GoodM M) (on : Bool) : GoodM (fsyncS M id on) := by
  unfold fsyncS
  split
  · exact h
  · rename_i s hs
    split
    · exact h
    · have hk := h.kids _ _ hs
      have ht := h.tidy _ _ hs
      exact h.turn hs rfl hk ht
theorem GoodM.posS (h : GoodM M) (x y : Int) : GoodM (fposS M id x y) := by
  unfold fposS
  split
  · exact h
  · rename_i s hs
    split
    · exact h
    · rename_i p hp
      split
      · exact h
      · have hk := h.kids _ _ hp
        have ht := h.tidy _ _ hp
        exact h.turn hp rfl hk ht
theorem GoodM.bes (h : GoodM M) (by' : Int) (k : Nat) : GoodM (besS M id by' k) := by
  unfold besS
  split
  · split
    · exact h
    · rename_i s hs
      split
      · exact h
      · rename_i p hp
        have hk := h.kids _ _ hp
        have ht := h.tidy _ _ hp
        refine h.turn hp rfl ⟨fun x hx => ?_, hk.2⟩ ⟨⟨ht.1.1, ht.1.2.1, fun e => by cases e⟩, ht.2⟩
        rcases putL_mem hx with rfl | hx
        · exact .inr ⟨s, hs, rfl⟩
        · exact latest_kids h hp x hx
  · exact h

theorem CntM.add {k : Nat} (h : CntM M k) (h0 : faddK M k id = 0) : CntM (faddS M k id) (k + 1) := by
  have hn : M id = none := by
    unfold faddK at h0
    cases e : M id with
    | none => rfl
    | some v =>
      rw [e] at h0
      by_cases hi : id < 1
      · rw [if_pos hi] at h0; cases h0
      · rw [if_neg hi] at h0; simp at h0
  obtain ⟨l, h1, h2, h3⟩ := h
  unfold faddS
  rw [if_pos h0]
  refine ⟨id :: l, List.nodup_cons.2 ⟨fun hm => ?_, h1⟩, by simp [h2], fun x => ?_⟩
  · have := (h3 id).1 hm
    rw [hn] at this; cases this
  · by_cases e : x = id
    · subst e; rw [setM_same]; simp
    · rw [setM_other _ _ e, ← h3 x]; simp [e]
theorem CntM.same {M' : Fo} {k : Nat} (h : CntM M k) (hs : ∀ x, (M' x).isSome = (M x).isSome) : CntM M' k := by
  obtain ⟨l, h1, h2, h3⟩ := h
  exact ⟨l, h1, h2, fun x => by rw [hs x]; exact h3 x⟩
theorem setM_isS (hs : (M id).isSome = true) (v : Sf) (x : Int) : (setM M id (some v) x).isSome = (M x).isSome := by
  by_cases e : x = id
  · subst e; rw [setM_same, hs]; rfl
  · rw [setM_other _ _ e]
def SameD (M M' : Fo) : Prop := ∀ x, (M' x).isSome = (M x).isSome
theorem SameD.refl (M : Fo) : SameD M M := fun _ => rfl
theorem SameD.set (hs : (M id).isSome = true) (v : Sf) : SameD M (setM M id (some v)) := setM_isS hs v
theorem SameD.trans {M' M'' : Fo} (h : SameD M M') (h' : SameD M' M'') : SameD M M'' := fun x => (h' x).trans (h x)
theorem sub_isS (parent : Int) : SameD M (fsubS M id parent) := by
  unfold fsubS
  split
  · unfold subbed
    split
    · rename_i s p hs hp
      refine (SameD.set (by rw [hs]; rfl) _).trans (SameD.set ?_ _)
      rw [setM_isS (by rw [hs]; rfl), hp]; rfl
    · exact .refl _
  · exact .refl _
theorem turn_isS (f : St → St) : SameD M (turnS M id f) := by
  unfold turnS
  split
  · exact .refl _
  · rename_i s hs
    exact .set (by rw [hs]; rfl) _
theorem sync_isS (on : Bool) : SameD M (fsyncS M id on) := by
  unfold fsyncS
  split
  · exact .refl _
  · rename_i s hs
    split
    · exact .refl _
    · exact .set (by rw [hs]; rfl) _
theorem pos_isS (a b : Int) : SameD M (fposS M id a b) := by
  unfold fposS
  split
  · exact .refl _
  · split
    · exact .refl _
    · rename_i p hp
      split
      · exact .refl _
      · exact .set (by rw [hp]; rfl) _
theorem bes_isS (by' : Int) (k : Nat) : SameD M (besS M id by' k) := by
  unfold besS
  split
  · split
    · exact .refl _
    · split
      · exact .refl _
      · rename_i p hp
        exact .set (by rw [hp]; rfl) _
  · exact .refl _

/-- A commit keeps all. -/
theorem commit_keeps {rk : Int → Nat} {Bk k c : Nat} (hG : GoodM M) (hF : FitM B M) (hB : B ≤ 50000) (hC : CntM M c) (hrk : ∀ j s, M j = some s → rk j ≤ Bk ∧ (s.parent ≠ 0 → rk s.parent < rk j)) (hk : ∀ s, M id = some s → Bk < k + rk id) :
    GoodM (fcomS (synB M) k M id).1 ∧ FitM B (fcomS (synB M) k M id).1 ∧ CntM (fcomS (synB M) k M id).1 c := by
  cases hs : M id with
  | none => have e : fcomS (synB M) k M id = (M, []) := by simp [fcomS, hs]
            rw [e]; exact ⟨hG, hF, hC⟩
  | some s =>
    have hq : fcomS (synB M) k M id = if synB M id then (setM M id (some (cacheS s)), []) else comA (synB M) k (setM M id (some (cacheS s)), [id]) id := by simp [fcomS, hs]
    rw [hq]
    have h1 := hG.cache hs
    have h2 := hF.set (id := id) ((hF id s hs).cache)
    have h3 := hC.set hs (cacheS s)
    split
    · exact ⟨h1, h2, h3⟩
    · have hrk2 : ∀ j s', setM M id (some (cacheS s)) j = some s' → rk j ≤ Bk ∧ (s'.parent ≠ 0 → rk s'.parent < rk j) := fun j s' hj => by
        rcases setM_eq hj with ⟨rfl, e⟩ | ⟨_, e⟩
        · cases e; have := hrk j s hs; exact this
        · exact hrk _ _ e
      have hpre : CPre (setM M id (some (cacheS s))) [id] id := ⟨h1, (fun j t hj => ((h2 j t hj).fits hB).1), by simp, (fun y hy => ⟨cacheS s, by simp at hy; subst hy; exact setM_same _ _ _, .inl (by simpa using hy)⟩)⟩
      have := comA_inv (sy := synB M) (rk := rk) (Bk := Bk) k _ [id] id (cacheS s) hpre (setM_same _ _ _) hrk2 (hk s hs)
      refine ⟨this.1.good, ?_, ?_⟩
      · exact comA_keeps (P := FitM B) (fun M id s h hs => h.set (h id s hs).app) k _ _ _ h2
      · exact h3.same this.2.isS
end

/-- Whether id is x, or above it, so far as so many steps tell. -/
def upO (M : Fo) (id : Int) : Nat → Int → Option Bool
  | 0, _ => none
  | k + 1, x => if 0 < x then (if x = id then some true else upO M id k (parM M x)) else some false
theorem upO_up {M : Fo} {id : Int} : ∀ {k : Nat} {x : Int} {b : Bool}, upO M id k x = some b → (b = true ↔ Up M id x)
  | 0, x, b, h => by cases h
  | k + 1, x, b, h => by
    unfold upO at h
    by_cases h0 : 0 < x
    · rw [if_pos h0] at h
      by_cases h1 : x = id
      · rw [if_pos h1] at h
        cases h
        subst h1
        exact ⟨fun _ => .here h0, fun _ => rfl⟩
      · rw [if_neg h1] at h
        rw [upO_up h]
        exact ⟨fun hu => .up h0 hu, fun hu => hu.parent h1⟩
    · rw [if_neg h0] at h
      cases h
      exact ⟨fun e => (by cases e), fun hu => absurd hu.pos h0⟩
def fsubC (M : Fo) (id parent : Int) (b : Bool) : Nat := match M id, M parent with
  | some s, some _ => if s.parent ≠ 0 then 10 else if b then 11 else 0
  | _, _ => 5
theorem fsubK_eq {M : Fo} {id parent : Int} {k : Nat} {b : Bool} (h : upO M id k parent = some b) : fsubK M id parent = fsubC M id parent b := by
  unfold fsubK fsubC
  have := upO_up h
  cases M id with
  | none => rfl
  | some s =>
    cases M parent with
    | none => rfl
    | some p =>
      dsimp only
      by_cases h0 : s.parent ≠ 0
      · rw [if_pos h0, if_pos h0]
      · rw [if_neg h0, if_neg h0]
        cases b
        · rw [if_neg (fun hu => by have := this.2 hu; cases this), if_neg (by decide)]
        · rw [if_pos (this.1 rfl), if_pos rfl]
/-- Whether one waits, so far as so many steps tell. -/
def synO (M : Fo) : Nat → Int → Option Bool
  | 0, _ => none
  | k + 1, id => match M id with
    | none => some false
    | some s => if s.parent = 0 then some false else if s.sync then some true else synO M k s.parent
theorem synO_syn {M : Fo} : ∀ {k : Nat} {id : Int} {b : Bool}, synO M k id = some b → synB M id = b
  | 0, id, b, h => by cases h
  | k + 1, id, b, h => by
    unfold synO at h
    cases hs : M id with
    | none => rw [hs] at h; cases h; exact synB_none hs
    | some s =>
      rw [hs] at h
      dsimp only at h
      by_cases h0 : s.parent = 0
      · rw [if_pos h0] at h; cases h; exact synB_top hs h0
      · rw [if_neg h0] at h
        cases hy : s.sync
        · rw [hy] at h
          rw [synB_up hs h0 hy]
          exact synO_syn h
        · rw [hy] at h
          cases h
          exact synB_sync hs h0 hy

/-- Parents have lesser numbers. -/
def RkOk (M : Fo) (k : Nat) : Prop := ∀ j s, M j = some s → j.toNat ≤ k ∧ (s.parent ≠ 0 → s.parent.toNat < j.toNat)
theorem RkOk.empty (k : Nat) : RkOk (fun _ => none) k := fun j s h => by cases h
theorem RkOk.set {M : Fo} {k : Nat} (h : RkOk M k) {id : Int} {s : Sf} (hk : id.toNat ≤ k ∧ (s.parent ≠ 0 → s.parent.toNat < id.toNat)) : RkOk (setM M id (some s)) k := fun j t hj => by
  rcases setM_eq hj with ⟨rfl, e⟩ | ⟨_, e⟩
  · cases e; exact hk
  · exact h _ _ e
/-- The parents are the same. -/
def ParD (M M' : Fo) : Prop := ∀ x, (M' x).map Sf.parent = (M x).map Sf.parent
theorem ParD.refl (M : Fo) : ParD M M := fun _ => rfl
theorem ParD.trans {M M' M'' : Fo} (h : ParD M M') (h' : ParD M' M'') : ParD M M'' := fun x => (h' x).trans (h x)
theorem ParD.set {M : Fo} {id : Int} {s v : Sf} (hs : M id = some s) (hp : v.parent = s.parent) : ParD M (setM M id (some v)) := fun x => by
  by_cases e : x = id
  · subst e; rw [setM_same, hs]; simp [hp]
  · rw [setM_other _ _ e]
theorem RkOk.par {M M' : Fo} {k : Nat} (h : RkOk M k) (hp : ParD M M') : RkOk M' k := fun j s hj => by
  have := hp j
  rw [hj] at this
  cases hm : M j with
  | none => rw [hm] at this; cases this
  | some t =>
    rw [hm] at this
    have e : s.parent = t.parent := by simpa using this
    rw [e]
    exact h j t hm
theorem turn_par {M : Fo} {id : Int} (f : St → St) : ParD M (turnS M id f) := by
  unfold turnS
  split
  · exact .refl _
  · rename_i s hs; exact .set hs rfl
theorem sync_par {M : Fo} {id : Int} (on : Bool) : ParD M (fsyncS M id on) := by
  unfold fsyncS
  split
  · exact .refl _
  · rename_i s hs
    split
    · exact .refl _
    · exact .set hs rfl
theorem pos_par {M : Fo} {id : Int} (a b : Int) : ParD M (fposS M id a b) := by
  unfold fposS
  split
  · exact .refl _
  · split
    · exact .refl _
    · rename_i p hp
      split
      · exact .refl _
      · exact .set hp rfl
theorem bes_par {M : Fo} {id : Int} (by' : Int) (k : Nat) : ParD M (besS M id by' k) := by
  unfold besS
  split
  · split
    · exact .refl _
    · split
      · exact .refl _
      · rename_i p hp; exact .set hp rfl
  · exact .refl _
theorem com_par {M : Fo} {id : Int} (sy : Int → Bool) (k : Nat) : ParD M (fcomS sy k M id).1 := by
  unfold fcomS
  split
  · exact .refl _
  · rename_i s hs
    split
    · exact .set hs rfl
    · refine comA_keeps (P := fun M' => ParD M M') (fun M' i t h ht => h.trans (.set ht rfl)) k _ _ _ (.set hs rfl)
theorem RkOk.add {M : Fo} {k : Nat} (h : RkOk M k) {id : Int} (hi : id.toNat ≤ k) : RkOk (setM M id (some newSf)) k := h.set ⟨hi, fun e => absurd rfl e⟩
theorem RkOk.sub {M : Fo} {k : Nat} (h : RkOk M k) {id parent : Int} (hp : parent.toNat < id.toNat) : RkOk (fsubS M id parent) k := by
  unfold fsubS
  split
  · unfold subbed
    split
    · rename_i s p hs hpp
      refine (h.set (s := { s with parent := parent, sync := true }) ⟨(h id s hs).1, fun _ => hp⟩).set (h parent p hpp)
    · exact h
  · exact h
theorem fsubS_zero {M : Fo} {id parent : Int} (h : fsubK M id parent = 0) : fsubS M id parent = subbed M id parent := by unfold fsubS; rw [if_pos h]
theorem fsubS_not {M : Fo} {id parent : Int} (h : fsubK M id parent ≠ 0) : fsubS M id parent = M := by unfold fsubS; rw [if_neg h]
theorem fposS_not {M : Fo} {id x y : Int} (h : childK M id ≠ 0) : fposS M id x y = M := by
  unfold childK at h
  unfold fposS
  cases hs : M id with
  | none => rfl
  | some s =>
    rw [hs] at h
    dsimp only at h ⊢
    by_cases h0 : s.parent = 0
    · cases M s.parent with
      | none => rfl
      | some p => dsimp only; rw [if_pos h0]
    · rw [if_neg h0] at h; exact absurd rfl h

/-- Who waits, computed. -/
def syC (M : Fo) (x : Int) : Bool := (synO M 60 x).getD false
theorem synO_some {M : Fo} {K : Nat} (h : RkOk M K) : ∀ (k : Nat) (id : Int), id.toNat < k → (synO M k id).isSome = true
  | 0, id, hk => by omega
  | k + 1, id, hk => by
    unfold synO
    cases hs : M id with
    | none => rfl
    | some s =>
      dsimp only
      split
      · rfl
      · split
        · rfl
        · rename_i h0 _
          exact synO_some h k _ (by have := (h id s hs).2 h0; omega)
theorem syC_eq {M : Fo} {K : Nat} (h : RkOk M K) (hK : K < 60) : synB M = syC M := by
  funext x
  unfold syC
  by_cases hx : x.toNat < 60
  · have := synO_some h 60 x hx
    cases e : synO M 60 x with
    | none => rw [e] at this; cases this
    | some b => exact synO_syn e
  · have hn : M x = none := by
      cases e : M x with
      | none => rfl
      | some s => have := (h x s e).1; omega
    have e : synO M 60 x = some false := by unfold synO; rw [hn]
    rw [e]
    exact synO_syn e
def comC (M : Fo) (K : Nat) (id : Int) : Fo × List Int := fcomS (syC M) (K + 1) M id

/-- A line of surfaces, each in the one ahead. -/
def lineR : Nat → Fo
  | 0 => fun _ => none
  | i + 1 => if i = 0 then setM (lineR i) ((i : Int) + 1) (some newSf) else subbed (setM (lineR i) ((i : Int) + 1) (some newSf)) ((i : Int) + 1) i
theorem line_facts : ∀ i < 7, faddK (lineR i) i ((i : Int) + 1) = 0 ∧ (i ≠ 0 → upO (setM (lineR i) ((i : Int) + 1) (some newSf)) ((i : Int) + 1) 60 i = some false ∧ fsubC (setM (lineR i) ((i : Int) + 1) (some newSf)) ((i : Int) + 1) i false = 0) := by decide
def endOk (k i j : Nat) : Bool := decide (upO (lineR k) (i : Nat) 60 (j : Nat) = some (decide (i ≤ j))) && decide (fsubC (lineR k) (i : Nat) (j : Nat) (decide (i ≤ j)) = (if i = 1 then 11 else 10))
def endOk2 (k i : Nat) : Bool := decide (upO (lineR k) (i : Nat) 60 99 = some false) && decide (fsubC (lineR k) (i : Nat) 99 false = 5) && decide (childK (lineR k) 1 = 10) && decide (parM (lineR k) k = (k : Int) - 1)
theorem endsOk : (List.range 6).all (fun k => (List.range (k + 2)).all fun i => (List.range (k + 2)).all fun j => endOk (k + 2) (i + 1) (j + 1)) = true := by decide +kernel
theorem endsOk2 : (List.range 6).all (fun k => (List.range (k + 2)).all fun i => endOk2 (k + 2) (i + 1)) = true := by decide +kernel
theorem line_ends {k i j : Nat} (hk : 2 ≤ k) (hk7 : k ≤ 7) (hi : 1 ≤ i) (hik : i ≤ k) (hj : 1 ≤ j) (hjk : j ≤ k) : fsubK (lineR k) i j = (if i = 1 then 11 else 10) := by
  have h1 := List.all_eq_true.1 endsOk (k - 2) (by simp; omega)
  have h2 := List.all_eq_true.1 h1 (i - 1) (by simp; omega)
  have h3 := List.all_eq_true.1 h2 (j - 1) (by simp; omega)
  rw [show k - 2 + 2 = k by omega, show i - 1 + 1 = i by omega, show j - 1 + 1 = j by omega] at h3
  unfold endOk at h3
  simp only [Bool.and_eq_true, decide_eq_true_eq] at h3
  rw [fsubK_eq h3.1, h3.2]
theorem line_ends2 {k i : Nat} (hk : 2 ≤ k) (hk7 : k ≤ 7) (hi : 1 ≤ i) (hik : i ≤ k) : fsubK (lineR k) i 99 = 5 ∧ childK (lineR k) 1 = 10 ∧ parM (lineR k) k = (k : Int) - 1 := by
  have h1 := List.all_eq_true.1 endsOk2 (k - 2) (by simp; omega)
  have h2 := List.all_eq_true.1 h1 (i - 1) (by simp; omega)
  rw [show k - 2 + 2 = k by omega, show i - 1 + 1 = i by omega] at h2
  unfold endOk2 at h2
  simp only [Bool.and_eq_true, decide_eq_true_eq] at h2
  obtain ⟨⟨⟨a, b⟩, c⟩, d⟩ := h2
  exact ⟨by rw [fsubK_eq a, b], c, d⟩
theorem com_isS {M : Fo} {id : Int} (sy : Int → Bool) (k : Nat) : SameD M (fcomS sy k M id).1 := fun x => by
  have := congrArg Option.isSome (com_par (M := M) (id := id) sy k x)
  simpa using this
theorem isS_none {M M' : Fo} (h : SameD M M') {x : Int} (hx : M x = none) : M' x = none := by
  have := h x
  rw [hx] at this
  cases e : M' x with
  | none => rfl
  | some v => rw [e] at this; cases this
end Go.Proofs.YthkjicnnepkghaaDoor
