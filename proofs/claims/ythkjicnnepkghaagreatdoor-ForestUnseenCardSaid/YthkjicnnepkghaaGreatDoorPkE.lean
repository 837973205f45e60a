/-
  What each call keeps of a forest, as plain data; computing over forests.
  Package forest: Sub.
  Package forest: Add; a state told (of, Pending, Cached, Current).
-/
import Derived.Test.YthkjicnnepkghaaGreatDoorPkFFit
import Derived.Test.YthkjicnnepkghaaGreatDoorPkForest4
import Derived.Test.YthkjicnnepkghaaGreatDoorPkA
import Derived.Deep.RegionHeld3
namespace Go.Proofs.YthkjicnnepkghaaGreatDoor
open Go.RowKit
set_option linter.unusedVariables false

section
variable {M : Fo} {id : Int} {s : Sf} {B : Nat}
theorem latest_len (h : FitS B s) : s.latest.length ≤ B := by
  obtain ⟨h1, h2, h3, h4, h7, h8, h9⟩ := h
  unfold Sf.latest
  split
  · exact h7
  · split
    · exact h8
    · exact h9
theorem without_len (l : List Int) (x : Int) : (without l x).length ≤ l.length := by unfold without; exact List.length_filter_le _ _
theorem without_sub {l : List Int} {x y : Int} (h : y ∈ without l x) : y ∈ l := by simp [without] at h; exact h.1
theorem putL_len (l : List Int) (a b : Int) (k : Nat) : (putL l a b k).length ≤ l.length + 1 := by
  rw [putL_eq]
  have := without_len l a
  simp only [List.length_append, List.length_cons, List.length_take, List.length_drop]
  omega
theorem putL_mem {l : List Int} {a b x : Int} {k : Nat} (h : x ∈ putL l a b k) : x = a ∨ x ∈ l := by
  rw [putL_eq] at h
  simp only [List.mem_append, List.mem_cons] at h
  rcases h with h | h | h
  · exact .inr (without_sub (List.mem_of_mem_take h))
  · exact .inl h
  · exact .inr (without_sub (List.mem_of_mem_drop h))
theorem fit_order (h : FitS B s) {l : List Int} (hl : l.length ≤ B + 1) : FitS (B + 1) (orderT s l) := by
  obtain ⟨h1, h2, h3, ⟨h4, h5, h6⟩, h7, h8, h9⟩ := h
  exact ⟨by simp only [orderT]; omega, by simp only [orderT]; omega, by simp only [orderT]; omega, ⟨by simp only [orderT]; omega, by simp only [orderT]; omega, by simp only [orderT]; omega⟩, hl, by simp only [orderT]; omega, by simp only [orderT]; omega⟩
theorem fit_place (h : FitS B s) (c : Ch) : FitS (B + 1) (placeT s c) := by
  obtain ⟨h1, h2, h3, ⟨h4, h5, h6⟩, h7, h8, h9⟩ := h
  have := putP_len s.pe.places c
  exact ⟨by simp only [placeT]; omega, by simp only [placeT]; omega, by simp only [placeT]; omega, ⟨by simp only [placeT]; omega, by simp only [placeT]; omega, by simp only [placeT]; omega⟩, by simp only [placeT]; omega, by simp only [placeT]; omega, by simp only [placeT]; omega⟩
theorem fit_new (hB : 1 ≤ B) : FitS B newSf := by
  constructor <;> simp [newSf, St.zero, St.first]
  exact hB
theorem fit_attach (h : FitS B s) (b : Int) : FitS B { s with pe := attachT b s.pe } := ⟨h.d, h.f, h.p, h.r, h.o⟩
theorem FitM.add (h : FitM B M) (k : Nat) : FitM (B + 1) (faddS M k id) := by
  unfold faddS
  split
  · exact (h.mono (Nat.le_succ B)).set (fit_new (by omega))
  · exact h.mono (Nat.le_succ B)
theorem FitM.sub (h : FitM B M) (parent : Int) : FitM (B + 2) (fsubS M id parent) := by
  unfold fsubS
  split
  · unfold subbed
    split
    · rename_i s p hs hp
      have h1 : FitM (B + 2) (setM M id (some { s with parent := parent, sync := true })) := by
        have := (h id s hs).mono (show B ≤ B + 2 by omega)
        exact (h.mono (show B ≤ B + 2 by omega)).set (v := { s with parent := parent, sync := true }) ⟨this.d, this.f, this.p, this.r, this.o⟩
      have hl := latest_len (h parent p hp)
      have hw := without_len p.latest id
      exact h1.set (fit_place (fit_order (h parent p hp) (l := without p.latest id ++ [id]) (by simp; omega)) _)
    · exact h.mono (by omega)
  · exact h.mono (by omega)
theorem FitM.turnA (h : FitM B M) (b : Int) : FitM B (turnS M id (attachT b)) := by
  unfold turnS
  split
  · exact h
  · rename_i s hs
    exact h.set (fit_attach (h id s hs) b)
theorem FitM.sync (h : FitM B M) (on : Bool) : FitM B (fsyncS M id on) := by
  unfold fsyncS
  split
  · exact h
  · rename_i s hs
    split
    · exact h
    · have := h id s hs
      exact h.set (v := { s with sync := on }) ⟨this.d, this.f, this.p, this.r, this.o⟩
theorem FitM.pos (h : FitM B M) (x y : Int) : FitM (B + 1) (fposS M id x y) := by
  unfold fposS
  split
  · exact h.mono (by omega)
  · rename_i s hs
    split
    · exact h.mono (by omega)
    · rename_i p hp
      split
      · exact h.mono (by omega)
      · exact (h.mono (by omega)).set (fit_place (h _ p hp) _)
theorem FitM.bes (h : FitM B M) (by' : Int) (k : Nat) : FitM (B + 1) (besS M id by' k) := by
  unfold besS
  split
  · split
    · exact h.mono (by omega)
    · rename_i s hs
      split
      · exact h.mono (by omega)
      · rename_i p hp
        have hl := latest_len (h _ p hp)
        have := putL_len p.latest id (byK s by') k
        exact (h.mono (by omega)).set (fit_order (h _ p hp) (by omega))
  · exact h.mono (by omega)

theorem GoodM.subS (h : GoodM M) (parent : Int) : GoodM (fsubS M id parent) := by
  unfold fsubS
  split
  · rename_i hk
    unfold fsubK at hk
    cases hs : M id with
    | none => unfold subbed; rw [hs]; exact h
    | some s =>
      cases hp : M parent with
      | none => unfold subbed; rw [hs, hp]; exact h
      | some p =>
        rw [hs, hp] at hk
        dsimp only at hk
        by_cases h0 : s.parent ≠ 0
        · rw [if_pos h0] at hk; cases hk
        · rw [if_neg h0] at hk
          by_cases hu : Up M id parent
          · rw [if_pos hu] at hk; cases hk
          · exact h.subs hs hp (by simpa using h0) hu
  · exact h
theorem GoodM.attach (h : GoodM M) (b : Int) : GoodM (turnS M id (attachT b)) := by
  unfold turnS
  split
  · exact h
  · rename_i s hs
    have ht := h.tidy _ _ hs
    have hk := h.kids _ _ hs
    exact h.turn hs rfl hk ⟨⟨fun e => (by cases e), ht.1.2⟩, ht.2⟩
theorem GoodM.sync (h : GoodM M) (on : Bool) : GoodM (fsyncS M id on) := by
  unfold fsyncS
  split
  · exact h
  · rename_i s hs
    split
    · exact h
    · have hk := h.kids _ _ hs
      have ht := h.tidy _ _ hs
      exact h.turn hs rfl hk ht
theorem GoodM.posS (h : GoodM M) (x y : Int) : GoodM (fposS M id x y) := by
  unfold fposS
  split
  · exact h
  · rename_i s hs
    split
    · exact h
    · rename_i p hp
      split
      · exact h
      · have hk := h.kids _ _ hp
        have ht := h.tidy _ _ hp
        exact h.turn hp rfl hk ht
theorem GoodM.bes (h : GoodM M) (by' : Int) (k : Nat) : GoodM (besS M id by' k) := by
  unfold besS
  split
  · split
    · exact h
    · rename_i s hs
      split
      · exact h
      · rename_i p hp
        have hk := h.kids _ _ hp
        have ht := h.tidy _ _ hp
        refine h.turn hp rfl ⟨fun x hx => ?_, hk.2⟩ ⟨⟨ht.1.1, ht.1.2.1, fun e => by cases e⟩, ht.2⟩
        rcases putL_mem hx with rfl | hx
        · exact .inr ⟨s, hs, rfl⟩
        · exact latest_kids h hp x hx
  · exact h

theorem CntM.add {k : Nat} (h : CntM M k) (h0 : faddK M k id = 0) : CntM (faddS M k id) (k + 1) := by
  have hn : M id = none := by
    unfold faddK at h0
    cases e : M id with
    | none => rfl
    | some v =>
      rw [e] at h0
      by_cases hi : id < 1
      · rw [if_pos hi] at h0; cases h0
      · rw [if_neg hi] at h0; simp at h0
  obtain ⟨l, h1, h2, h3⟩ := h
  unfold faddS
  rw [if_pos h0]
  refine ⟨id :: l, List.nodup_cons.2 ⟨fun hm => ?_, h1⟩, by simp [h2], fun x => ?_⟩
  · have := (h3 id).1 hm
    rw [hn] at this; cases this
  · by_cases e : x = id
    · subst e; rw [setM_same]; simp
    · rw [setM_other _ _ e, ← h3 x]; simp [e]
theorem CntM.same {M' : Fo} {k : Nat} (h : CntM M k) (hs : ∀ x, (M' x).isSome = (M x).isSome) : CntM M' k := by
  obtain ⟨l, h1, h2, h3⟩ := h
  exact ⟨l, h1, h2, fun x => by rw [hs x]; exact h3 x⟩
theorem setM_isS (hs : (M id).isSome = true) (v : Sf) (x : Int) : (setM M id (some v) x).isSome = (M x).isSome := by
  by_cases e : x = id
  · subst e; rw [setM_same, hs]; rfl
  · rw [setM_other _ _ e]
def SameD (M M' : Fo) : Prop := ∀ x, (M' x).isSome = (M x).isSome
theorem SameD.refl (M : Fo) : SameD M M := fun _ => rfl
theorem SameD.set (hs : (M id).isSome = true) (v : Sf) : SameD M (setM M id (some v)) := setM_isS hs v
theorem SameD.trans {M' M'' : Fo} (h : SameD M M') (h' : SameD M' M'') : SameD M M'' := fun x => (h' x).trans (h x)
theorem sub_isS (parent : Int) : SameD M (fsubS M id parent) := by
  unfold fsubS
  split
  · unfold subbed
    split
    · rename_i s p hs hp
      refine (SameD.set (by rw [hs]; rfl) _).trans (SameD.set ?_ _)
      rw [setM_isS (by rw [hs]; rfl), hp]; rfl
    · exact .refl _
  · exact .refl _
theorem turn_isS (f : St → St) : SameD M (turnS M id f) := by
  unfold turnS
  split
  · exact .refl _
  · rename_i s hs
    exact .set (by rw [hs]; rfl) _
theorem sync_isS (on : Bool) : SameD M (fsyncS M id on) := by
  unfold fsyncS
  split
  · exact .refl _
  · rename_i s hs
    split
    · exact .refl _
    · exact .set (by rw [hs]; rfl) _
theorem pos_isS (a b : Int) : SameD M (fposS M id a b) := by
  unfold fposS
  split
  · exact .refl _
  · split
    · exact .refl _
    · rename_i p hp
      split
      · exact .refl _
      · exact .set (by rw [hp]; rfl) _
theorem bes_isS (by' : Int) (k : Nat) : SameD M (besS M id by' k) := by
  unfold besS
  split
  · split
    · exact .refl _
    · split
      · exact .refl _
      · rename_i p hp
        exact .set (by rw [hp]; rfl) _
  · exact .refl _

theorem commit_keeps {rk : Int → Nat} {Bk k c : Nat} (hG : GoodM M) (hF : FitM B M) (hB : B ≤ 50000) (hC : CntM M c) (hrk : ∀ j s, M j = some s → rk j ≤ Bk ∧ (s.parent ≠ 0 → rk s.parent < rk j)) (hk : ∀ s, M id = some s → Bk < k + rk id) :
    GoodM (fcomS (synB M) k M id).1 ∧ FitM B (fcomS (synB M) k M id).1 ∧ CntM (fcomS (synB M) k M id).1 c := by
  cases hs : M id with
  | none => have e : fcomS (synB M) k M id = (M, []) := by simp [fcomS, hs]
            rw [e]; exact ⟨hG, hF, hC⟩
  | some s =>
    have hq : fcomS (synB M) k M id = if synB M id then (setM M id (some (cacheS s)), []) else comA (synB M) k (setM M id (some (cacheS s)), [id]) id := by simp [fcomS, hs]
    rw [hq]
    have h1 := hG.cache hs
    have h2 := hF.set (id := id) ((hF id s hs).cache)
    have h3 := hC.set hs (cacheS s)
    split
    · exact ⟨h1, h2, h3⟩
    · have hrk2 : ∀ j s', setM M id (some (cacheS s)) j = some s' → rk j ≤ Bk ∧ (s'.parent ≠ 0 → rk s'.parent < rk j) := fun j s' hj => by
        rcases setM_eq hj with ⟨rfl, e⟩ | ⟨_, e⟩
        · cases e; have := hrk j s hs; exact this
        · exact hrk _ _ e
      have hpre : CPre (setM M id (some (cacheS s))) [id] id := ⟨h1, (fun j t hj => ((h2 j t hj).fits hB).1), by simp, (fun y hy => ⟨cacheS s, by simp at hy; subst hy; exact setM_same _ _ _, .inl (by simpa using hy)⟩)⟩
      have := comA_inv (sy := synB M) (rk := rk) (Bk := Bk) k _ [id] id (cacheS s) hpre (setM_same _ _ _) hrk2 (hk s hs)
      refine ⟨this.1.good, ?_, ?_⟩
      · exact comA_keeps (P := FitM B) (fun M id s h hs => h.set (h id s hs).app) k _ _ _ h2
      · exact h3.same this.2.isS
end

def upO (M : Fo) (id : Int) : Nat → Int → Option Bool
  | 0, _ => none
  | k + 1, x => if 0 < x then (if x = id then some true else upO M id k (parM M x)) else some false
theorem upO_up {M : Fo} {id : Int} : ∀ {k : Nat} {x : Int} {b : Bool}, upO M id k x = some b → (b = true ↔ Up M id x)
  | 0, x, b, h => by cases h
  | k + 1, x, b, h => by
    unfold upO at h
    by_cases h0 : 0 < x
    · rw [if_pos h0] at h
      by_cases h1 : x = id
      · rw [if_pos h1] at h
        cases h
        subst h1
        exact ⟨fun _ => .here h0, fun _ => rfl⟩
      · rw [if_neg h1] at h
        rw [upO_up h]
        exact ⟨fun hu => .up h0 hu, fun hu => hu.parent h1⟩
    · rw [if_neg h0] at h
      cases h
      exact ⟨fun e => (by cases e), fun hu => absurd hu.pos h0⟩
def fsubC (M : Fo) (id parent : Int) (b : Bool) : Nat := match M id, M parent with
  | some s, some _ => if s.parent ≠ 0 then 10 else if b then 11 else 0
  | _, _ => 5
theorem fsubK_eq {M : Fo} {id parent : Int} {k : Nat} {b : Bool} (h : upO M id k parent = some b) : fsubK M id parent = fsubC M id parent b := by
  unfold fsubK fsubC
  have := upO_up h
  cases M id with
  | none => rfl
  | some s =>
    cases M parent with
    | none => rfl
    | some p =>
      dsimp only
      by_cases h0 : s.parent ≠ 0
      · rw [if_pos h0, if_pos h0]
      · rw [if_neg h0, if_neg h0]
        cases b
        · rw [if_neg (fun hu => by have := this.2 hu; cases this), if_neg (by decide)]
        · rw [if_pos (this.1 rfl), if_pos rfl]
def synO (M : Fo) : Nat → Int → Option Bool
  | 0, _ => none
  | k + 1, id => match M id with
    | none => some false
    | some s => if s.parent = 0 then some false else if s.sync then some true else synO M k s.parent
theorem synO_syn {M : Fo} : ∀ {k : Nat} {id : Int} {b : Bool}, synO M k id = some b → synB M id = b
  | 0, id, b, h => by cases h
  | k + 1, id, b, h => by
    unfold synO at h
    cases hs : M id with
    | none => rw [hs] at h; cases h; exact synB_none hs
    | some s =>
      rw [hs] at h
      dsimp only at h
      by_cases h0 : s.parent = 0
      · rw [if_pos h0] at h; cases h; exact synB_top hs h0
      · rw [if_neg h0] at h
        cases hy : s.sync
        · rw [hy] at h
          rw [synB_up hs h0 hy]
          exact synO_syn h
        · rw [hy] at h
          cases h
          exact synB_sync hs h0 hy

def RkOk (M : Fo) (k : Nat) : Prop := ∀ j s, M j = some s → j.toNat ≤ k ∧ (s.parent ≠ 0 → s.parent.toNat < j.toNat)
theorem RkOk.empty (k : Nat) : RkOk (fun _ => none) k := fun j s h => by cases h
theorem RkOk.set {M : Fo} {k : Nat} (h : RkOk M k) {id : Int} {s : Sf} (hk : id.toNat ≤ k ∧ (s.parent ≠ 0 → s.parent.toNat < id.toNat)) : RkOk (setM M id (some s)) k := fun j t hj => by
  rcases setM_eq hj with ⟨rfl, e⟩ | ⟨_, e⟩
  · cases e; exact hk
  · exact h _ _ e
def ParD (M M' : Fo) : Prop := ∀ x, (M' x).map Sf.parent = (M x).map Sf.parent
theorem ParD.refl (M : Fo) : ParD M M := fun _ => rfl
theorem ParD.trans {M M' M'' : Fo} (h : ParD M M') (h' : ParD M' M'') : ParD M M'' := fun x => (h' x).trans (h x)
theorem ParD.set {M : Fo} {id : Int} {s v : Sf} (hs : M id = some s) (hp : v.parent = s.parent) : ParD M (setM M id (some v)) := fun x => by
  by_cases e : x = id
  · subst e; rw [setM_same, hs]; simp [hp]
  · rw [setM_other _ _ e]
theorem RkOk.par {M M' : Fo} {k : Nat} (h : RkOk M k) (hp : ParD M M') : RkOk M' k := fun j s hj => by
  have := hp j
  rw [hj] at this
  cases hm : M j with
  | none => rw [hm] at this; cases this
  | some t =>
    rw [hm] at this
    have e : s.parent = t.parent := by simpa using this
    rw [e]
    exact h j t hm
theorem turn_par {M : Fo} {id : Int} (f : St → St) : ParD M (turnS M id f) := by
  unfold turnS
  split
  · exact .refl _
  · rename_i s hs; exact .set hs rfl
theorem sync_par {M : Fo} {id : Int} (on : Bool) : ParD M (fsyncS M id on) := by
  unfold fsyncS
  split
  · exact .refl _
  · rename_i s hs
    split
    · exact .refl _
    · exact .set hs rfl
theorem pos_par {M : Fo} {id : Int} (a b : Int) : ParD M (fposS M id a b) := by
  unfold fposS
  split
  · exact .refl _
  · split
    · exact .refl _
    · rename_i p hp
      split
      · exact .refl _
      · exact .set hp rfl
theorem bes_par {M : Fo} {id : Int} (by' : Int) (k : Nat) : ParD M (besS M id by' k) := by
  unfold besS
  split
  · split
    · exact .refl _
    · split
      · exact .refl _
      · rename_i p hp; exact .set hp rfl
  · exact .refl _
theorem com_par {M : Fo} {id : Int} (sy : Int → Bool) (k : Nat) : ParD M (fcomS sy k M id).1 := by
  unfold fcomS
  split
  · exact .refl _
  · rename_i s hs
    split
    · exact .set hs rfl
    · refine comA_keeps (P := fun M' => ParD M M') (fun M' i t h ht => h.trans (.set ht rfl)) k _ _ _ (.set hs rfl)
theorem RkOk.add {M : Fo} {k : Nat} (h : RkOk M k) {id : Int} (hi : id.toNat ≤ k) : RkOk (setM M id (some newSf)) k := h.set ⟨hi, fun e => absurd rfl e⟩
theorem RkOk.sub {M : Fo} {k : Nat} (h : RkOk M k) {id parent : Int} (hp : parent.toNat < id.toNat) : RkOk (fsubS M id parent) k := by
  unfold fsubS
  split
  · unfold subbed
    split
    · rename_i s p hs hpp
      refine (h.set (s := { s with parent := parent, sync := true }) ⟨(h id s hs).1, fun _ => hp⟩).set (h parent p hpp)
    · exact h
  · exact h
theorem fsubS_zero {M : Fo} {id parent : Int} (h : fsubK M id parent = 0) : fsubS M id parent = subbed M id parent := by unfold fsubS; rw [if_pos h]
theorem fsubS_not {M : Fo} {id parent : Int} (h : fsubK M id parent ≠ 0) : fsubS M id parent = M := by unfold fsubS; rw [if_neg h]
theorem fposS_not {M : Fo} {id x y : Int} (h : childK M id ≠ 0) : fposS M id x y = M := by
  unfold childK at h
  unfold fposS
  cases hs : M id with
  | none => rfl
  | some s =>
    rw [hs] at h
    dsimp only at h ⊢
    by_cases h0 : s.parent = 0
    · cases M s.parent with
      | none => rfl
      | some p => dsimp only; rw [if_pos h0]
    · rw [if_neg h0] at h; exact absurd rfl h

def syC (M : Fo) (x : Int) : Bool := (synO M 60 x).getD false
theorem synO_some {M : Fo} {K : Nat} (h : RkOk M K) : ∀ (k : Nat) (id : Int), id.toNat < k → (synO M k id).isSome = true
  | 0, id, hk => by omega
  | k + 1, id, hk => by
    unfold synO
    cases hs : M id with
    | none => rfl
    | some s =>
      dsimp only
      split
      · rfl
      · split
        · rfl
        · rename_i h0 _
          exact synO_some h k _ (by have := (h id s hs).2 h0; omega)
theorem syC_eq {M : Fo} {K : Nat} (h : RkOk M K) (hK : K < 60) : synB M = syC M := by
  funext x
  unfold syC
  by_cases hx : x.toNat < 60
  · have := synO_some h 60 x hx
    cases e : synO M 60 x with
    | none => rw [e] at this; cases this
    | some b => exact synO_syn e
  · have hn : M x = none := by
      cases e : M x with
      | none => rfl
      | some s => have := (h x s e).1; omega
    have e : synO M 60 x = some false := by unfold synO; rw [hn]
    rw [e]
    exact synO_syn e
def comC (M : Fo) (K : Nat) (id : Int) : Fo × List Int := fcomS (syC M) (K + 1) M id

def lineR : Nat → Fo
  | 0 => fun _ => none
  | i + 1 => if i = 0 then setM (lineR i) ((i : Int) + 1) (some newSf) else subbed (setM (lineR i) ((i : Int) + 1) (some newSf)) ((i : Int) + 1) i
theorem line_facts : ∀ i < 7, faddK (lineR i) i ((i : Int) + 1) = 0 ∧ (i ≠ 0 → upO (setM (lineR i) ((i : Int) + 1) (some newSf)) ((i : Int) + 1) 60 i = some false ∧ fsubC (setM (lineR i) ((i : Int) + 1) (some newSf)) ((i : Int) + 1) i false = 0) := by decide
def endOk (k i j : Nat) : Bool := decide (upO (lineR k) (i : Nat) 60 (j : Nat) = some (decide (i ≤ j))) && decide (fsubC (lineR k) (i : Nat) (j : Nat) (decide (i ≤ j)) = (if i = 1 then 11 else 10))
def endOk2 (k i : Nat) : Bool := decide (upO (lineR k) (i : Nat) 60 99 = some false) && decide (fsubC (lineR k) (i : Nat) 99 false = 5) && decide (childK (lineR k) 1 = 10) && decide (parM (lineR k) k = (k : Int) - 1)
theorem endsOk : (List.range 6).all (fun k => (List.range (k + 2)).all fun i => (List.range (k + 2)).all fun j => endOk (k + 2) (i + 1) (j + 1)) = true := by decide +kernel
theorem endsOk2 : (List.range 6).all (fun k => (List.range (k + 2)).all fun i => endOk2 (k + 2) (i + 1)) = true := by decide +kernel
theorem line_ends {k i j : Nat} (hk : 2 ≤ k) (hk7 : k ≤ 7) (hi : 1 ≤ i) (hik : i ≤ k) (hj : 1 ≤ j) (hjk : j ≤ k) : fsubK (lineR k) i j = (if i = 1 then 11 else 10) := by
  have h1 := List.all_eq_true.1 endsOk (k - 2) (by simp; omega)
  have h2 := List.all_eq_true.1 h1 (i - 1) (by simp; omega)
  have h3 := List.all_eq_true.1 h2 (j - 1) (by simp; omega)
  rw [show k - 2 + 2 = k by omega, show i - 1 + 1 = i by omega, show j - 1 + 1 = j by omega] at h3
  unfold endOk at h3
  simp only [Bool.and_eq_true, decide_eq_true_eq] at h3
  rw [fsubK_eq h3.1, h3.2]
theorem line_ends2 {k i : Nat} (hk : 2 ≤ k) (hk7 : k ≤ 7) (hi : 1 ≤ i) (hik : i ≤ k) : fsubK (lineR k) i 99 = 5 ∧ childK (lineR k) 1 = 10 ∧ parM (lineR k) k = (k : Int) - 1 := by
  have h1 := List.all_eq_true.1 endsOk2 (k - 2) (by simp; omega)
  have h2 := List.all_eq_true.1 h1 (i - 1) (by simp; omega)
  rw [show k - 2 + 2 = k by omega, show i - 1 + 1 = i by omega] at h2
  unfold endOk2 at h2
  simp only [Bool.and_eq_true, decide_eq_true_eq] at h2
  obtain ⟨⟨⟨a, b⟩, c⟩, d⟩ := h2
  exact ⟨by rw [fsubK_eq a, b], c, d⟩
theorem com_isS {M : Fo} {id : Int} (sy : Int → Bool) (k : Nat) : SameD M (fcomS sy k M id).1 := fun x => by
  have := congrArg Option.isSome (com_par (M := M) (id := id) sy k x)
  simpa using this
theorem isS_none {M M' : Fo} (h : SameD M M') {x : Int} (hx : M x = none) : M' x = none := by
  have := h x
  rw [hx] at this
  cases e : M' x with
  | none => rfl
  | some v => rw [e] at this; cases this
end Go.Proofs.YthkjicnnepkghaaGreatDoor
namespace Go.Proofs.YthkjicnnepkghaaGreatDoor
open Go.RowKit
set_option linter.unusedVariables false

def FZOut (w : World) (p mb n : Nat) (F : Nat → Prop) (Z' : Int → Option SfV) (M' : Fo) (w' : World) : Prop := ∃ F', ForZ w' p mb F' n Z' M' ∧ Chg F w w' ∧ Ext F F' w.heap.size
section
variable {w w' w1 : World} {p mb n : Nat} {F : Nat → Prop} {Z : Int → Option SfV} {M : Fo} {id : Int} {t t' : Sf} {z z' : SfV}
theorem FZOut.outN {Z' : Int → Option SfV} {M' : Fo} (h : FZOut w p mb n F Z' M' w') : FOutN w p n F M' w' := by
  obtain ⟨F', h1, h2, h3⟩ := h
  exact ⟨F', ⟨mb, _, h1⟩, h2, h3⟩
theorem FZOut.stayB (h : ForZ w p mb F n Z M) (hb : Below w.heap.size w w') : FZOut w p mb n F Z M w' := ⟨F, h.below hb, Chg.of_below hb F, Ext.refl _ _⟩
theorem FZOut.trans {w2 : World} {Z1 Z2 : Int → Option SfV} {M1 M2 : Fo} (h : FZOut w p mb n F Z1 M1 w1) (h2 : ∀ F', ForZ w1 p mb F' n Z1 M1 → FZOut w1 p mb n F' Z2 M2 w2) : FZOut w p mb n F Z2 M2 w2 := by
  obtain ⟨F', a1, a2, a3⟩ := h
  obtain ⟨F'', b1, b2, b3⟩ := h2 F' a1
  exact ⟨F'', b1, a2.trans b2 a3, a3.trans b3 a2.size⟩
theorem ForZ.turnZ (h : ForZ w p mb F n Z M) (hz : Z id = some z) (hc : Chg z.F w w') (ha : z'.a = z.a) (hs' : SurfAt w' id t' z' ∧ (∀ b, z'.F b → z.F b ∨ w.heap.size ≤ b)) :
    FZOut w p mb n F (setZ Z id (some z')) (setM M id (some t')) w' :=
  ⟨_, h.turn hz hc ha hs'.1 hs'.2, hc.mono (fun b _ hb => h.inF id z hz b hb), fun b hb => by
    rcases hb with hb | hb
    · exact .inl hb
    · rcases hs'.2 b hb with h1 | h1
      · exact .inl (h.inF id z hz b h1)
      · exact .inr h1⟩
theorem ForZ.orderedZ (h : ForZ w p mb F n Z M) (hz : Z id = some z) (ht : SurfAt w id t z) (L : List Int) {A : Option Addr} {l k : Nat} (b1 : Below w.heap.size w w1)
    (o1 : w1.ownsRow w.heap.size 3 1 (.slice A l k) L.length (L.map (Value.int .i64))) :
    ∃ z', z'.a = z.a ∧ z'.pe.p = z.pe.p ∧ FZOut w p mb n F (setZ Z id (some z')) (setM M id (some (orderT t L))) ((w1.setCell ⟨z.a, 10, none⟩ (.bool true)).setCell ⟨z.a, 11, none⟩ (.slice A l k)) := by
  have hlt := ht.lt z.a (.inl rfl)
  have hb1 : w1.heap[z.a]? = some (.cells (sfCells id t z) 97 (0, 0)) := (b1.block z.a hlt).trans ht.blk
  refine ⟨{ z with pe := { z.pe with o := .slice A l k }, G := grownG w ((w1.setCell ⟨z.a, 10, none⟩ (.bool true)).setCell ⟨z.a, 11, none⟩ (.slice A l k)) z.G }, rfl, rfl, h.turnZ hz ?_ rfl (ht.froz ?_ rfl rfl ?_ (.inl ⟨rfl, rfl⟩) (.inl ⟨rfl, rfl⟩) .same ?_ .same .same .same)⟩
  · exact (Chg.of_below b1 _).trans (chg2 w1 z.a 10 11 _ _ (.inl rfl)) (Ext.refl _ _)
  · exact (Chg.of_below b1 _).trans (chg2e w1 z.a 10 11 _ _) (Ext.refl _ _)
  · exact set_cells2 (t := t) hb1 10 11 _ _ rfl
  · exact .own (own_setOther (own_setOther o1 hlt _) hlt _) (Nat.le_refl _)
theorem ForZ.placedZ (h : ForZ w p mb F n Z M) (hz : Z id = some z) (ht : SurfAt w id t z) (c : Ch) {A : Option Addr} {l k : Nat} (b1 : Below w.heap.size w w1)
    (o1 : w1.ownsRow w.heap.size 62 3 (.slice A l k) (putP t.pe.places c).length ((putP t.pe.places c).flatMap Ch.enc)) :
    ∃ z', z'.a = z.a ∧ FZOut w p mb n F (setZ Z id (some z')) (setM M id (some (placeT t c))) (w1.setCell ⟨z.a, 12, none⟩ (.slice A l k)) := by
  have hlt := ht.lt z.a (.inl rfl)
  have hb1 : w1.heap[z.a]? = some (.cells (sfCells id t z) 97 (0, 0)) := (b1.block z.a hlt).trans ht.blk
  refine ⟨{ z with pe := { z.pe with p := .slice A l k }, G := grownG w (w1.setCell ⟨z.a, 12, none⟩ (.slice A l k)) z.G }, rfl, h.turnZ hz ?_ rfl (ht.froz ?_ rfl rfl ?_ (.inl ⟨rfl, rfl⟩) (.inl ⟨rfl, rfl⟩) .same .same ?_ .same .same)⟩
  · exact (Chg.of_below b1 _).trans (chg1 w1 z.a 12 _ (.inl rfl)) (Ext.refl _ _)
  · exact (Chg.of_below b1 _).trans (chg1e w1 z.a 12 _) (Ext.refl _ _)
  · rw [heap_setCell_same w1 z.a 12 _ _ _ hb1]; rfl
  · exact .own (own_setOther o1 hlt _) (Nat.le_refl _)
theorem setM_setM (M : Fo) (id : Int) (a b : Option Sf) : setM (setM M id a) id b = setM M id b := by
  funext i
  unfold setM
  split <;> rfl
theorem setZ_same (Z : Int → Option SfV) (id : Int) (v : Option SfV) : setZ Z id v id = v := by simp [setZ]
theorem setZ_other (Z : Int → Option SfV) {id j : Int} (v : Option SfV) (h : j ≠ id) : setZ Z id v j = Z j := by simp [setZ, h]

set_option maxRecDepth 100000 in
set_option maxHeartbeats 2000000 in
theorem fSub_any {B : Nat} (w : World) {ae : Nat → Addr} (hE : ErrF B w ae) (h : ForZ w p mb F n Z M) (hG : GoodM M) (id parent : Int) (hid : I64 id) (hpi : I64 parent) (hlen : ∀ i t, M i = some t → t.latest.length ≤ 1000000 ∧ t.pe.places.length ≤ 10000) :
    Calls Tryz.prog 42 #[.pointer (some ⟨p, 0, none⟩), .int .i64 id, .int .i64 parent] w fun e w' => e = .returned (errV ae (fsubK M id parent)) ∧ FOutN w p n F (fsubS M id parent) w' := by
  have hc := h.cellP
  have g4 : w.cell? ⟨4, 0, none⟩ = _ := hE.glob 4 (by decide)
  have g9 : w.cell? ⟨9, 0, none⟩ = _ := hE.glob 9 (by decide)
  have g10 : w.cell? ⟨10, 0, none⟩ = _ := hE.glob 10 (by decide)
  have hout := hide (fun q => FOutN.stayB h.out (below_drewN (Below.refl _ w) q))
  have hl1 := fun q => (h.drewN q).look hid
  have hl2 := fun q => (h.drewN q).look hpi
  cases hs : M id with
  | none =>
    have e1 : fsubK M id parent = 5 := by simp [fsubK, hs]
    have e2 : fsubS M id parent = M := by unfold fsubS; rw [if_neg (by rw [e1]; decide)]
    rw [e1, e2]
    rw [h.zNone hs] at hl1
    simp only [Option.map_none, Option.getD_none] at hl1
    obtain ⟨v2, hv2⟩ : ∃ v2, v2 = ((Z parent).map SfV.ptr).getD (.pointer none) := ⟨_, rfl⟩
    rw [← hv2] at hl2
    clear h hG hE hs e1 e2 hlen g9 g10 hv2
    go_enter Tryz.func42, Tryz.ntmps42
    go_wp2
    go_quiet (fail)
    all_goals
      go_wp2
      go_ret
      exact ⟨rfl, hout.out _⟩
  | some t =>
    obtain ⟨z, hz, ht⟩ := h.find hs
    rw [hz] at hl1
    simp only [Option.map_some, Option.getD_some, SfV.ptr] at hl1
    cases hs2 : M parent with
    | none =>
      have e1 : fsubK M id parent = 5 := by unfold fsubK; rw [hs, hs2]
      have e2 : fsubS M id parent = M := by unfold fsubS; rw [if_neg (by rw [e1]; decide)]
      rw [e1, e2]
      rw [h.zNone hs2] at hl2
      simp only [Option.map_none, Option.getD_none] at hl2
      clear h hG hE hs e1 e2 hlen g9 g10 hs2 hz ht
      go_enter Tryz.func42, Tryz.ntmps42
      go_wp2
      go_quiet (fail)
      all_goals
        go_wp2
        go_ret
        exact ⟨rfl, hout.out _⟩
    | some t2 =>
      obtain ⟨z2, hz2, ht2⟩ := h.find hs2
      rw [hz2] at hl2
      simp only [Option.map_some, Option.getD_some, SfV.ptr] at hl2
      have c1 : w.cell? ⟨z.a, 1, none⟩ = some (.int .i64 t.parent) := ht.cell 1
      have hnn := hG.par_nn hs
      by_cases hp : t.parent = 0
      · rw [hp] at c1
        have hpos := (hG.pos _ _ hs2).1
        obtain ⟨rk, Bk, hr⟩ := hG.rank
        obtain ⟨m, hm⟩ : ∃ m : Int → Nat, ∀ x, m x = if (M x).isSome then rk x + 1 else 0 := ⟨_, fun x => rfl⟩
        replace hm := hide hm
        replace hr := hide hr
        have cP := hide (fun q x hx => fParent_any (w.drewN q) (h.drewN q) x hx)
        have c2 : w.cell? ⟨z.a, 2, none⟩ = some (.bool t.sync) := ht.cell 2
        have f1 := ht.free 1
        have f2 := ht.free 2
        have hh := hide h
        have hGG := hide hG
        have hlen' := hide hlen
        have hzh := hide hz
        have hsh := hide hs
        have hth := hide ht
        have hz2h := hide hz2
        have hs2h := hide hs2
        have ht2h := hide ht2
        have hph := hide hp
        clear h hG hE hs hlen g9 hs2 hz ht g4 hz2 ht2 hp hnn
        go_enter Tryz.func42, Tryz.ntmps42
        go_wp2
        go_quiet (fail)
        go_wp2
        go_loopg [9] (m parent) (fun k s wr => ∃ x : Int, s = .int .i64 x ∧ k = m x ∧ I64 x ∧ 0 ≤ x ∧ Hid (x = 0 ∨ ∃ t, M x = some t) ∧ Hid (Up M id parent ↔ Up M id x) ∧ wr = w.drewN nq)
        case atStart => exact ⟨parent, rfl, rfl, hpi, by omega, hide (.inr ⟨_, hs2h.out⟩), hide Iff.rfl, rfl⟩
        case round =>
          obtain ⟨x, rfl, rfl, hxi, hx0, hxs, hup, rfl⟩ := hrel
          by_cases hxz : x = 0
          · subst hxz
            have hnu := hide (fun hu : Up M id parent => by have := (hup.out.1 hu).pos; omega : ¬ Up M id parent)
            clear hup hxs hx0 hxi
            have hne : parent ≠ id := fun e => hnu.out (by rw [e]; exact .here (by have := (hGG.out.pos _ _ hsh.out).1; omega))
            have e1 := hide (show fsubK M id parent = 0 by
              unfold fsubK; rw [hsh.out, hs2h.out]; dsimp only
              rw [if_neg (by simp [hph.out]), if_neg hnu.out])
            obtain ⟨L, hL⟩ : ∃ L, L = without t2.latest id ++ [id] := ⟨_, rfl⟩
            have e2 : Hid (fsubS M id parent = setM (setM M id (some { t with parent := parent, sync := true })) parent (some (placeT (orderT t2 L) ⟨id, 0, 0⟩))) := hide (by
              unfold fsubS; rw [if_pos e1.out]; unfold subbed; rw [hsh.out, hs2h.out]; dsimp only; rw [← hL])
            replace hL := hide hL
            obtain ⟨F1, k1, q1, x1⟩ := (hh.out.drewN nq).turnZ (t' := { t with parent := parent, sync := true }) (z' := { z with G := grownG (w.drewN nq) (((w.drewN nq).setCell ⟨z.a, 1, none⟩ (.int .i64 parent)).setCell ⟨z.a, 2, none⟩ (.bool true)) z.G }) hzh.out (chg2 (w.drewN nq) z.a 1 2 (.int .i64 parent) (.bool true) (.inl rfl)) rfl
              (((hh.out.drewN nq).surf _ _ _ hzh.out hsh.out).froz (chg2e (w.drewN nq) z.a 1 2 (.int .i64 parent) (.bool true)) rfl rfl (set_cells2 (t := t) ((hh.out.drewN nq).surf _ _ _ hzh.out hsh.out).blk 1 2 _ _ rfl) (.inl ⟨rfl, rfl⟩) (.inl ⟨rfl, rfl⟩) .same .same .same .same .same)
            obtain ⟨Z1, hZ1⟩ : ∃ Z1, Z1 = setZ Z id (some { z with G := grownG (w.drewN nq) (((w.drewN nq).setCell ⟨z.a, 1, none⟩ (.int .i64 parent)).setCell ⟨z.a, 2, none⟩ (.bool true)) z.G }) := ⟨_, rfl⟩
            rw [← hZ1] at k1
            have hz2' : Z1 parent = some z2 := by rw [hZ1, setZ_other _ _ hne]; exact hz2h.out
            have hs2' : setM M id (some { t with parent := parent, sync := true }) parent = some t2 := by rw [setM_other _ _ hne]; exact hs2h.out
            obtain ⟨M1, hM1⟩ : ∃ M1, M1 = setM M id (some { t with parent := parent, sync := true }) := ⟨_, rfl⟩
            rw [← hM1] at k1 hs2' e2
            replace hM1 := hide hM1
            replace hZ1 := hide hZ1
            have hle1 := hide (hlen'.out _ _ hs2h.out)
            clear cP hl1 hl2 hnu
            replace k1 := hide k1
            replace q1 := hide q1
            replace x1 := hide x1
            replace hz2' := hide hz2'
            replace hs2' := hide hs2'
            go_wp2_with fail
            replace k1 := k1.out
            replace q1 := q1.out
            replace x1 := x1.out
            replace hz2' := hz2'.out
            replace hs2' := hs2'.out
            clear c1 c2 f1 f2
            generalize ((w.drewN nq).setCell ⟨z.a, 1, none⟩ (.int .i64 parent)).setCell ⟨z.a, 2, none⟩ (.bool true) = W1 at k1 q1 x1 ⊢
            have s2 := k1.surf parent z2 t2 hz2' hs2'
            have cL := sLatest_any W1 s2
            have hrd := latV_rd s2
            obtain ⟨Av, cv, hlv, _⟩ := hrd.form
            rw [hlv] at cL hrd
            have cT := hide (top_any W1 _ t2.latest id hrd hle1.out.1)
            replace k1 := hide k1
            replace s2 := hide s2
            replace hz2' := hide hz2'
            replace hs2' := hide hs2'
            replace q1 := hide q1
            replace x1 := hide x1
            clear hrd hlv
            refine cL.mono ?_
            rintro e w' ⟨rfl, rfl⟩
            go_wp2_with fail
            refine cT.out.mono ?_
            rintro e w2 ⟨v2, rfl, o2, b2⟩
            have o2' : w2.ownsRow W1.heap.size 3 1 v2 L.length (L.map (Value.int .i64)) := by rw [hL.out]; simpa using o2
            obtain ⟨A2, k2, rfl, _⟩ := own_form o2'
            obtain ⟨z3, a3, p3, F3, k3, q3, x3⟩ := k1.out.orderedZ hz2'.out s2.out _ b2 o2'
            have cO := hide (sOrder_any w2 ((k1.out.below b2).surf parent z2 t2 hz2'.out hs2'.out) A2 L.length k2)
            have hz3 : setZ Z1 parent (some z3) parent = some z3 := setZ_same _ _ _
            have hs3 : setM M1 parent (some (orderT t2 L)) parent = some (orderT t2 L) := setM_same _ _ _
            replace b2 := hide b2
            clear o2 o2' cT cL
            go_wp2_with fail
            refine cO.out.mono ?_
            rintro e w' ⟨rfl, rfl⟩
            generalize (w2.setCell ⟨z2.a, 10, none⟩ (.bool true)).setCell ⟨z2.a, 11, none⟩ (.slice A2 L.length k2) = W3 at k3 q3 x3 ⊢
            have s3 := k3.surf parent z3 _ hz3 hs3
            have c12 : W3.cell? ⟨z2.a, 12, none⟩ = some z2.pe.p := by rw [← a3, ← p3]; exact s3.cell 12
            have hpl := s3.peP
            rw [p3] at hpl
            obtain ⟨Ap, cp, hpv, _⟩ := hpl.form
            rw [hpv] at c12 hpl
            have cP := hide (put_any W3 _ _ ⟨id, 0, 0⟩ hpl (Nat.le_trans hle1.out.2 (by decide)))
            unfold Ch.val at cP
            dsimp only at cP
            have hblk := hide s3.blk
            rw [a3] at hblk
            have hlt3 := s3.lt z3.a (.inl rfl)
            rw [a3] at hlt3
            have hw12 : ∀ w1 : World, w1.heap[z2.a]? = some (.cells (sfCells parent (orderT t2 L) z3) 97 (0, 0)) → w1.cell? ⟨z2.a, 12, none⟩ = some z3.pe.p ∧ w1.frozen? ⟨z2.a, 12, none⟩ = false := fun w1 h1 => ⟨cell_of_row w1 z2.a 12 _ _ _ h1, frozen_of_row w1 z2.a 12 _ _ h1⟩
            replace hw12 := hide hw12
            replace k3 := hide k3
            replace s3 := hide s3
            replace a3 := hide a3
            replace p3 := hide p3
            replace q3 := hide q3
            replace x3 := hide x3
            replace hz3 := hide hz3
            replace hs3 := hide hs3
            replace hpv := hide hpv
            have e4 : (orderT t2 L).pe.places = t2.pe.places := rfl
            rw [e4] at c12
            clear hpl e4
            go_wp2_with fail
            refine cP.out.mono ?_
            rintro e w4 ⟨v4, rfl, o4, b4⟩
            have hbk := hide ((b4.block z2.a hlt3).trans hblk.out)
            have k12 := (hw12.out w4 hbk.out).1
            have f12 := (hw12.out w4 hbk.out).2
            obtain ⟨A4, k4, rfl, _⟩ := own_form o4
            replace o4 := hide o4
            replace b4 := hide b4
            go_wp2
            go_ret
            obtain ⟨z5, _, F5, k5, q5, x5⟩ := k3.out.placedZ hz3.out s3.out ⟨id, 0, 0⟩ b4.out o4.out
            rw [a3.out, setM_setM] at k5
            rw [a3.out] at q5
            refine ⟨by rw [e1.out] <;> rfl, ?_⟩
            rw [e2.out]
            have hd0 : Chg F w (w.drewN nq) := (Chg.refl F w).drewN nq
            exact ⟨F5, ⟨mb, _, k5⟩, ((hd0.trans q1.out (Ext.refl _ _)).trans q3.out x1.out).trans q5 (x1.out.trans x3.out q1.out.size), (x1.out.trans x3.out q1.out.size).trans x5 (Nat.le_trans q1.out.size q3.out.size)⟩
          · have hxp : 0 < x := by omega
            by_cases hxe : x = id
            · subst hxe
              have e1 : fsubK M x parent = 11 := by
                unfold fsubK; rw [hsh.out, hs2h.out]; dsimp only
                rw [if_neg (by simp [hph.out]), if_pos (hup.out.2 (.here hxp))]
              have e2 : fsubS M x parent = M := by unfold fsubS; rw [if_neg (by rw [e1]; decide)]
              have e1' := hide e1
              have e2' := hide e2
              clear e1 e2
              go_wp2
              go_ret
              exact ⟨by rw [e1'.out] <;> rfl, by rw [e2'.out]; exact hout.out _⟩
            · have hne : (x == id) = false := by simpa using hxe
              obtain ⟨tx, htx⟩ := hxs.out.resolve_left hxz
              have hpx := parM_some htx
              have hup2 : Hid (Up M id parent ↔ Up M id (parM M x)) := hide (hup.out.trans ⟨fun h => h.parent hxe, fun h => .up hxp h⟩)
              have hnn2 := hGG.out.par_nn htx
              rw [← hpx] at hnn2
              have hxs2 : Hid (parM M x = 0 ∨ ∃ t, M (parM M x) = some t) := hide (by
                by_cases h0 : tx.parent = 0
                · exact .inl (hpx.trans h0)
                · rw [hpx]; exact .inr (hGG.out.par _ _ htx h0))
              have hmeas : Hid (m (parM M x) < m x) := hide (by
                rw [hm.out, hm.out, htx]
                simp only [Option.isSome_some, if_true]
                by_cases h0 : tx.parent = 0
                · rw [hpx, h0]
                  cases hz0 : M 0 with
                  | none => simp
                  | some t0 => have := (hGG.out.pos _ _ hz0).1; omega
                · rw [hpx]
                  have := (hr.out _ _ htx).2 h0
                  split <;> omega)
              have cPx := hide (cP.out nq x hxi)
              generalize parM M x = y at hup2 hnn2 hxs2 hmeas cPx
              clear htx hpx hxs hup
              go_wp2_with fail
              refine cPx.out.mono ?_
              rintro e w' ⟨rfl, rfl⟩
              go_wp2
              go_roundg (m y)
              case measure => exact hmeas.out
              case rel => exact ⟨y, rfl, rfl, hnn2.2, hnn2.1, hxs2, hup2, rfl⟩
      · have h0 : (0 : Int) < t.parent := by omega
        have e1 : fsubK M id parent = 10 := by unfold fsubK; rw [hs, hs2]; dsimp only; rw [if_pos hp]
        have e2 : fsubS M id parent = M := by unfold fsubS; rw [if_neg (by rw [e1]; decide)]
        rw [e1, e2]
        clear h hG hE hs e1 e2 hlen g4 g10 hs2 hz ht hz2 ht2 hp hnn
        go_enter Tryz.func42, Tryz.ntmps42
        go_wp2
        go_quiet (fail)
        all_goals
          go_wp2
          go_ret
          exact ⟨rfl, hout.out _⟩
end
end Go.Proofs.YthkjicnnepkghaaGreatDoor
namespace Go.Proofs.YthkjicnnepkghaaGreatDoor
open Go.RowKit Go.Maps Go.Sort
set_option linter.unusedVariables false

section
variable {p mb n : Nat} {F : Nat → Prop} {Z : Int → Option SfV} {M : Fo}
theorem ForZ.count {w : World} (h : ForZ w p mb F n Z M) (hG : GoodM M) {k : Nat} (hk : CntM M k) : ∃ D, w.ownsMap Tryz.prog 3 heldR mb n D ∧ Maps.size D = k := by
  obtain ⟨D, h1, _, hn, hm⟩ := h.map.keys Tryz.underlying3
  refine ⟨D, h1, ?_⟩
  obtain ⟨l, ln, ll, lm⟩ := hk
  have hsz : (intKeys D).length = Maps.size D := by
    obtain ⟨es, hD, _⟩ := h1.entries (int_keyed Tryz.underlying3)
    subst hD
    exact List.length_map ..
  have hp : (intKeys D).Perm l := (List.perm_ext_iff_of_nodup hn ln).2 fun x => by
    rw [hm, lm]
    have hd := h.dom x
    constructor
    · rintro ⟨_, h2⟩
      rw [← hd]
      simpa using h2
    · intro h2
      obtain ⟨s, hs⟩ := Option.isSome_iff_exists.1 h2
      refine ⟨(hG.pos _ _ hs).2, ?_⟩
      rw [← hd] at h2
      simpa using h2
  rw [← hsz, hp.length_eq, ll]

theorem cellOf_grown {w w1 w2 : World} (hg : w1.grownBy w2 (some mb)) (hb : Below w.heap.size w w1) (h : ForZ w p mb F n Z M) : w2.cell? ⟨p, 0, none⟩ = some (.map (some mb)) := by
  obtain ⟨es, cl, hmb⟩ := h.map.isMapBlock
  have hpm : p ≠ mb := ne_of_typesF h.cell hmb (by simp)
  have h1 := (hb.block p (h.lt p h.pF)).trans h.cell
  exact cell_of_one ((hg.block p (lt_of_block h1) (by simpa using hpm)).trans h1)
theorem ForZ.added {w w1 w2 : World} {id : Int} (h : ForZ w p mb F n Z M) (hid : I64 id) (hn : M id = none) (b1 : Below w.heap.size w w1) {v : StV} (o1 : StOwn w1 w.heap.size v St.first)
    (hm2 : MapAt Tryz.prog 3 w2 mb (n + 1) (putM (fun id => (Z id).map SfV.ptr) id (.pointer (some ⟨w1.heap.size, 0, none⟩))))
    (hg2 : (w1.alloc (.cells (sfCells id newSf ⟨0, StV.nil, StV.nil, v, fun _ => False⟩) 97)).grownBy w2 (some mb)) :
    FOut w p n F (setM M id (some newSf)) w2 := by
  have hmlt := h.lt mb h.mF
  have hs1 := b1.size
  have hc : Chg (fun b => b = mb) w w2 := ((Chg.of_below b1 _).alloc _).trans (Chg.grown hg2 (F := fun b => b = mb) (fun b hb => (Option.some.inj hb).symm)) (Ext.refl _ _)
  have hbl : ∀ b, b ≠ mb → b < w1.heap.size → w2.heap[b]? = w1.heap[b]? := fun b hb hlt => (hg2.block b (by simp; omega) (by simpa using hb)).trans (Below.heap_alloc w1 _ b hlt)
  have hblk : w2.heap[w1.heap.size]? = some (.cells (sfCells id newSf ⟨0, StV.nil, StV.nil, v, fun _ => False⟩) 97 (0, 0)) := by
    rw [hg2.block w1.heap.size (by simp) (by simp; omega)]
    exact heap_alloc_new _ _
  have hsz := hg2.size
  simp only [World.size_alloc] at hsz
  have hk : ∀ {e : TypeId} {sz k : Nat} {u : Value} {cs : List Value}, w1.ownsRow w.heap.size e sz u k cs → w2.ownsRow w.heap.size e sz u k cs := fun ho => own_keepF ho fun b hb => by
    have := ho.lt b hb
    exact hbl b (by omega) this.2
  have hcu : StOwn w2 w.heap.size v St.first := ⟨hk o1.d, hk o1.f, hk o1.r, hk o1.o, hk o1.p⟩
  have hin : ∀ {e : TypeId} {sz k : Nat} {u : Value} {cs : List Value}, w1.ownsRow w.heap.size e sz u k cs → BlkIn (fun b => w.heap.size ≤ b ∧ b < w1.heap.size) u k := fun ho _ b hb => ho.lt b hb
  have hS : SurfAt w2 id newSf ⟨w1.heap.size, StV.nil, StV.nil, v, fun b => w.heap.size ≤ b ∧ b < w1.heap.size⟩ :=
    ⟨hblk, World.ownsRow_nil _ _ _ _, World.ownsRow_nil _ _ _ _, Rd.nil _ _, Rd.nil _ _, Rd.nil _ _, StRd.zero _, hcu.rd, BlkIn.nil _ _, BlkIn.nil _ _, BlkIn.nil _ _, StIn.zero _ _, ⟨hin o1.d, hin o1.f, hin o1.r, hin o1.o, hin o1.p⟩,
     fun hb => by dsimp only at hb; omega, fun b hb => (by cases hb), fun b hb => (by cases hb), fun b hb => by
      rcases hb with rfl | hb | hb | hb
      · dsimp only; omega
      · cases hb
      · cases hb
      · dsimp only at hb; omega, hid⟩
  refine ⟨_, ⟨mb, _, h.fresh (z := ⟨w1.heap.size, StV.nil, StV.nil, v, fun b => w.heap.size ≤ b ∧ b < w1.heap.size⟩) hc hm2 hS (fun b hb => ?_) (h.zNone hn)⟩, hc.mono (fun b _ hb => hb ▸ h.mF), fun b hb => ?_⟩
  · rcases hb with rfl | hb | hb | hb
    · dsimp only; omega
    · cases hb
    · cases hb
    · exact hb.1
  · rcases hb with hb | hb
    · exact .inl hb
    · refine .inr ?_
      rcases hb with rfl | hb | hb | hb
      · dsimp only; omega
      · cases hb
      · cases hb
      · exact hb.1

set_option maxRecDepth 100000 in
set_option maxHeartbeats 2000000 in
theorem fAdd_any {B : Nat} (w : World) {ae : Nat → Addr} (hE : ErrF B w ae) (h : ForZ w p mb F n Z M) (hG : GoodM M) (id : Int) (hid : I64 id) {k : Nat} (hk : CntM M k) (hnn : n ≤ 1000000) (hkk : k ≤ 1000000) :
    Calls Tryz.prog 38 #[.pointer (some ⟨p, 0, none⟩), .int .i64 id] w fun e w' => e = .returned (errV ae (faddK M k id)) ∧ FOut w p n F (faddS M k id) w' := by
  have g0 : w.cell? ⟨0, 0, none⟩ = _ := hE.glob 0 (by decide)
  have g3 : w.cell? ⟨3, 0, none⟩ = _ := hE.glob 3 (by decide)
  have g4 : w.cell? ⟨4, 0, none⟩ = _ := hE.glob 4 (by decide)
  have hc := h.cellP
  have cH := hide (fHas_any w h id hid)
  have hst := hide h.out.stay
  by_cases h1 : id < 1
  · have e1 : faddK M k id = 1 := by unfold faddK; rw [if_pos h1]
    have e2 : faddS M k id = M := by unfold faddS; rw [if_neg (by rw [e1]; decide)]
    rw [e1, e2]
    clear h hG hE e1 e2 hk cH g3 g4
    go_enter Tryz.func38, Tryz.ntmps38
    go_wp2
    go_ret
    exact ⟨rfl, hst.out⟩
  · by_cases h2 : (M id).isSome = true
    · have e1 : faddK M k id = 5 := by unfold faddK; rw [if_neg h1, if_pos h2]
      have e2 : faddS M k id = M := by unfold faddS; rw [if_neg (by rw [e1]; decide)]
      rw [e1, e2]
      rw [h2] at cH
      clear h hG hE e1 e2 hk g3 g0 h2
      go_enter Tryz.func38, Tryz.ntmps38
      go_wp2_with fail
      refine cH.out.mono ?_
      rintro e w' ⟨rfl, rfl⟩
      go_wp2
      go_ret
      exact ⟨rfl, hst.out⟩
    · have h2f : (M id).isSome = false := by simpa using h2
      rw [h2f] at cH
      obtain ⟨D, hown, hsz⟩ := h.count hG hk
      by_cases h3 : 40 ≤ k
      · have e1 : faddK M k id = 4 := by unfold faddK; rw [if_neg h1, if_neg h2, if_pos h3]
        have e2 : faddS M k id = M := by unfold faddS; rw [if_neg (by rw [e1]; decide)]
        rw [e1, e2]
        clear h hG hE e1 e2 hk g4 g0 h2 h2f
        replace hown := hide hown
        have h3' : (40 : Int) ≤ (k : Int) := by omega
        replace hsz := hide hsz
        go_enter Tryz.func38, Tryz.ntmps38
        go_wp2_with fail
        refine cH.out.mono ?_
        rintro e w' ⟨rfl, rfl⟩
        go_wp2_with (at_len; refine wpList_len_own _ rfl _ 77 rfl 3 95 Tryz.underlying77 _ mb n D rfl hown.out ?_; rw [hsz.out])
        go_ret
        exact ⟨rfl, hst.out⟩
      · have e1 : faddK M k id = 0 := by unfold faddK; rw [if_neg h1, if_neg h2, if_neg h3]
        have e2 : faddS M k id = setM M id (some newSf) := by unfold faddS; rw [if_pos e1]
        rw [e1, e2]
        have hno : M id = none := by simpa using h2f
        replace hown := hide hown
        have h3' : ¬ (40 : Int) ≤ (k : Int) := by omega
        replace hsz := hide hsz
        have cF := hide (fun q => first_any (w.drewN q))
        have hh := hide h
        have hpl := h.lt p h.pF
        have hno' := hide hno
        clear h hG hE e1 e2 hk g4 g0 g3 h2 h2f hno
        go_enter Tryz.func38, Tryz.ntmps38
        go_wp2_with fail
        refine cH.out.mono ?_
        rintro e w' ⟨rfl, rfl⟩
        go_wp2_with (at_len; refine wpList_len_own _ rfl _ 77 rfl 3 95 Tryz.underlying77 _ mb n D rfl hown.out ?_; rw [hsz.out])
        have kS : Hid (∀ W, Below w.heap.size w W → W.cell? ⟨p, 0, none⟩ = some (.map (some mb))) := hide fun W hb => (hb.cell (p := ⟨p, 0, none⟩) hpl).trans hc
        go_region_held3 (fun w' => w'.cell? ⟨p, 0, none⟩ = some (.map (some mb))) (first | exact kS.out _ b1.out | exact kS.out _ (b1.out.alloc b1.out.size _) | exact hput.out | go_keep)
          (first | (go_at_call 89; refine (cF.out _).mono ?_; rintro e w1 ⟨v1, rfl, o1, b1x⟩; have b1 : Hid (Below w.heap.size w w1) := hide ((below_drewN (Below.refl _ w) _).trans b1x); have o1' : Hid (StOwn w1 w.heap.size v1 St.first) := hide o1; obtain ⟨A1, c1, A2, c2, A3, c3, A4, c4, A5, c5, rfl⟩ := o1.forms; obtain ⟨w2, hrun, hm2, hg2⟩ := (hh.out.below ((b1.out.alloc b1.out.size (.cells (sfCells id newSf ⟨0, StV.nil, StV.nil, ⟨.slice A1 St.first.damage.length c1, .slice A2 St.first.frames.length c2, .slice A3 St.first.region.length c3, .slice A4 St.first.order.length c4, .slice A5 St.first.places.length c5⟩, fun _ => False⟩) 97)))).map.putRun Tryz.underlying3 Tryz.underlying77 (by unfold maxLen; omega) hid (.pointer (some ⟨w1.heap.size, 0, none⟩)); have hput : Hid (w2.cell? ⟨p, 0, none⟩ = some (.map (some mb))) := hide (cellOf_grown hg2 (b1.out.alloc b1.out.size _) hh.out); replace hm2 := hide hm2; replace hg2 := hide hg2; clear b1x o1; unfold sfCells newSf St.zero St.first StV.nil at hrun; unfold stVal St.first; dsimp only [List.length_nil, List.length_cons, List.length_singleton] at hrun ⊢))
        all_goals
          go_wp2
          go_ret
          exact ⟨rfl, hh.out.added hid hno'.out b1.out o1'.out hm2.out hg2.out⟩
end
end Go.Proofs.YthkjicnnepkghaaGreatDoor
