/-
  A commit, as plain data: what is cached is applied, from a surface downwards.
-/
import Derived.Test.YthkjicnnepkghaaGreatDoorPkC
namespace Go.Proofs.YthkjicnnepkghaaGreatDoor
open Go.RowKit
set_option linter.unusedVariables false

def appS (s : Sf) : Sf := { s with cu := applyT s.cu s.ca, ca := St.zero }
def comStep (sy : Int → Bool) (rec : Fo × List Int → Int → Fo × List Int) (q : Fo × List Int) (x : Int) : Fo × List Int :=
  if x = 0 then q else match q.1 x with
  | none => q
  | some kx => if sy x then rec (q.1, if noneT kx.ca then q.2 else q.2 ++ [x]) x else q
def comA (sy : Int → Bool) : Nat → Fo × List Int → Int → Fo × List Int
  | 0, st, _ => st
  | k + 1, st, id => match st.1 id with
    | none => st
    | some s => (appS s).cu.order.foldl (comStep sy (comA sy k)) (setM st.1 id (some (appS s)), st.2)

def keyS (s : Sf) : Int × Bool × St := (s.parent, s.sync, s.pe)
structure CInv (M : Fo) (l : List Int) : Prop where
  good : GoodM M
  fit : ∀ id s, M id = some s → MergeFits s.cu s.ca
  nd : l.Nodup
  mem : ∀ y ∈ l, ∃ s, M y = some s ∧ noneT s.ca = true
structure CPre (M : Fo) (l : List Int) (id : Int) : Prop where
  good : GoodM M
  fit : ∀ id s, M id = some s → MergeFits s.cu s.ca
  nd : l.Nodup
  mem : ∀ y ∈ l, ∃ s, M y = some s ∧ (y = id ∨ noneT s.ca = true)
structure CRel (rk : Int → Nat) (r : Nat) (M M' : Fo) : Prop where
  key : ∀ j, (M' j).map keyS = (M j).map keyS
  same : ∀ j, rk j < r → M' j = M j
theorem CRel.refl (rk : Int → Nat) (r : Nat) (M : Fo) : CRel rk r M M := ⟨fun _ => rfl, fun _ _ => rfl⟩
theorem CRel.trans {rk : Int → Nat} {r : Nat} {M M' M'' : Fo} (h : CRel rk r M M') (h' : CRel rk r M' M'') : CRel rk r M M'' := ⟨fun j => (h'.key j).trans (h.key j), fun j hj => (h'.same j hj).trans (h.same j hj)⟩
theorem CRel.mono {rk : Int → Nat} {r r' : Nat} {M M' : Fo} (h : CRel rk r' M M') (hr : r ≤ r') : CRel rk r M M' := ⟨h.key, fun j hj => h.same j (by omega)⟩
theorem CRel.fwd {rk : Int → Nat} {r : Nat} {M M' : Fo} (h : CRel rk r M M') {j : Int} {s : Sf} (hs : M j = some s) : ∃ s', M' j = some s' ∧ keyS s' = keyS s := by
  have := h.key j
  rw [hs] at this
  cases hm : M' j with
  | none => rw [hm] at this; cases this
  | some s' => rw [hm] at this; exact ⟨s', rfl, Option.some.inj this⟩
theorem CRel.back {rk : Int → Nat} {r : Nat} {M M' : Fo} (h : CRel rk r M M') {j : Int} {s' : Sf} (hs : M' j = some s') : ∃ s, M j = some s ∧ keyS s' = keyS s := by
  have := h.key j
  rw [hs] at this
  cases hm : M j with
  | none => rw [hm] at this; cases this
  | some s => rw [hm] at this; exact ⟨s, rfl, Option.some.inj this⟩
theorem CRel.isS {rk : Int → Nat} {r : Nat} {M M' : Fo} (h : CRel rk r M M') (j : Int) : (M' j).isSome = (M j).isSome := by
  have := congrArg Option.isSome (h.key j)
  simpa using this
theorem syn_congr {rk : Int → Nat} {r : Nat} {M M' : Fo} (h : CRel rk r M M') : ∀ {x}, Syn M x → Syn M' x := fun {x} hx => by
  induction hx with
  | here h1 h2 h3 =>
    obtain ⟨s', h4, h5⟩ := h.fwd h1
    simp only [keyS, Prod.mk.injEq] at h5
    exact .here h4 (by rw [h5.1]; exact h2) (by rw [h5.2.1]; exact h3)
  | up h1 h2 _ ih =>
    obtain ⟨s', h4, h5⟩ := h.fwd h1
    simp only [keyS, Prod.mk.injEq] at h5
    exact .up h4 (by rw [h5.1]; exact h2) (by rw [h5.1]; exact ih)
theorem CRel.symm {rk : Int → Nat} {r : Nat} {M M' : Fo} (h : CRel rk r M M') : CRel rk r M' M := ⟨fun j => (h.key j).symm, fun j hj => (h.same j hj).symm⟩
theorem synB_congr {rk : Int → Nat} {r : Nat} {M M' : Fo} (h : CRel rk r M M') (x : Int) : synB M' x = synB M x := by
  unfold synB
  have : Syn M' x ↔ Syn M x := ⟨syn_congr h.symm, syn_congr h⟩
  simp [this]

theorem fits_app {s : Sf} (h : MergeFits s.cu s.ca) (hn : NowT s.cu) : MergeFits (appS s).cu (appS s).ca := by
  obtain ⟨h1, h2, h3, h4, h5⟩ := h
  have hp := putsP_len s.ca.places s.cu.places
  refine ⟨by simp [appS, applyT, St.zero], ?_, ⟨?_, by simp [appS, St.zero]⟩, ⟨?_, by simp [appS, St.zero]⟩, ?_⟩
  · simp [appS, applyT, mergeT, St.zero]; omega
  · show (if s.ca.input then s.ca.region else s.cu.region).length ≤ 100000
    split <;> omega
  · show (if s.ca.ordered then s.ca.order else s.cu.order).length ≤ 100000
    split <;> omega
  · show (putsP s.cu.places s.ca.places).length + (St.zero).places.length ≤ 100000
    simp only [St.zero, List.length_nil]; omega
theorem now_apply (a b : St) : NowT (applyT a b) := ⟨rfl, rfl, rfl, rfl⟩
theorem none_zero : noneT St.zero = true := rfl

section
variable {rk : Int → Nat} {Bk : Nat} {sy : Int → Bool}
theorem CPre.app {M : Fo} {l : List Int} {id : Int} {s : Sf} (h : CPre M l id) (hs : M id = some s) (r : Nat) (hr : r ≤ rk id) :
    CInv (setM M id (some (appS s))) l ∧ CRel rk r M (setM M id (some (appS s))) := by
  have hk := h.good.kids _ _ hs
  have ht := h.good.tidy _ _ hs
  refine ⟨⟨?_, ?_, h.nd, ?_⟩, ?_, ?_⟩
  · refine h.good.turn hs rfl ⟨hk.1, Kids.nil _ _, ?_⟩ ⟨ht.1, tidy_zero, now_apply _ _⟩
    show Kids M id (if s.ca.ordered then s.ca.order else s.cu.order)
    split
    · exact hk.2.1
    · exact hk.2.2
  · intro j t hj
    rcases setM_eq hj with ⟨rfl, e⟩ | ⟨_, e⟩
    · cases e; exact fits_app (h.fit _ _ hs) ht.2.2
    · exact h.fit _ _ e
  · intro y hy
    obtain ⟨t, h1, h2⟩ := h.mem y hy
    by_cases e : y = id
    · subst e; exact ⟨appS s, setM_same _ _ _, none_zero⟩
    · exact ⟨t, by rw [setM_other _ _ e]; exact h1, h2.resolve_left e⟩
  · intro j
    by_cases e : j = id
    · subst e; rw [setM_same, hs]; rfl
    · rw [setM_other _ _ e]
  · intro j hj
    have e : j ≠ id := fun e => by subst e; omega
    rw [setM_other _ _ e]

theorem comStep_inv {M : Fo} {l : List Int} {id x : Int} {rec : Fo × List Int → Int → Fo × List Int} (h : CInv M l) (hx : x = 0 ∨ ∃ k, M x = some k ∧ k.parent = id) (hid : id ≠ 0) (hrk : ∀ j s, M j = some s → rk j ≤ Bk ∧ (s.parent ≠ 0 → rk s.parent < rk j))
    (hrec : ∀ l', CPre M l' x → x ≠ 0 → CInv (rec (M, l') x).1 (rec (M, l') x).2 ∧ CRel rk (rk x) M (rec (M, l') x).1) :
    CInv (comStep sy rec (M, l) x).1 (comStep sy rec (M, l) x).2 ∧ CRel rk (rk id + 1) M (comStep sy rec (M, l) x).1 := by
  unfold comStep
  by_cases h0 : x = 0
  · rw [if_pos h0]; exact ⟨h, CRel.refl _ _ _⟩
  · rw [if_neg h0]
    obtain ⟨k, hk, hkp⟩ := hx.resolve_left h0
    dsimp only
    rw [hk]
    dsimp only
    cases hy : sy x
    · exact ⟨h, CRel.refl _ _ _⟩
    · have hlt := (hrk x k hk).2 (by rw [hkp]; exact hid)
      rw [hkp] at hlt
      have hpre : CPre M (if noneT k.ca then l else l ++ [x]) x := by
        refine ⟨h.good, h.fit, ?_, ?_⟩
        · split
          · exact h.nd
          · rename_i hn
            rw [List.nodup_append]
            refine ⟨h.nd, by simp, fun a ha b hb => ?_⟩
            obtain rfl : b = x := by simpa using hb
            rintro rfl
            obtain ⟨s, h1, h2⟩ := h.mem a ha
            rw [hk] at h1; cases h1
            exact hn h2
        · intro y hy
          split at hy
          · obtain ⟨s, h1, h2⟩ := h.mem y hy; exact ⟨s, h1, .inr h2⟩
          · rcases List.mem_append.1 hy with hy | hy
            · obtain ⟨s, h1, h2⟩ := h.mem y hy; exact ⟨s, h1, .inr h2⟩
            · obtain rfl : y = x := by simpa using hy
              exact ⟨k, hk, .inl rfl⟩
      obtain ⟨r1, r2⟩ := hrec _ hpre h0
      simp only [if_true]
      exact ⟨r1, r2.mono (by omega)⟩

theorem hrk_rel {r : Nat} {M M' : Fo} (h : CRel rk r M M') (hrk : ∀ j s, M j = some s → rk j ≤ Bk ∧ (s.parent ≠ 0 → rk s.parent < rk j)) : ∀ j s, M' j = some s → rk j ≤ Bk ∧ (s.parent ≠ 0 → rk s.parent < rk j) := fun j s hs => by
  obtain ⟨s0, h1, h2⟩ := h.back hs
  simp only [keyS, Prod.mk.injEq] at h2
  rw [h2.1]
  exact hrk j s0 h1
theorem kid_rel {r : Nat} {M M' : Fo} (h : CRel rk r M M') {x id : Int} (hx : x = 0 ∨ ∃ k, M x = some k ∧ k.parent = id) : x = 0 ∨ ∃ k, M' x = some k ∧ k.parent = id := by
  rcases hx with h0 | ⟨k, h1, h2⟩
  · exact .inl h0
  · obtain ⟨k', h3, h4⟩ := h.fwd h1
    simp only [keyS, Prod.mk.injEq] at h4
    exact .inr ⟨k', h3, h4.1.trans h2⟩

theorem fold_inv {id : Int} {rec : Fo × List Int → Int → Fo × List Int} (hid : id ≠ 0)
    (hrec : ∀ M l' x, CPre M l' x → x ≠ 0 → (∀ j s, M j = some s → rk j ≤ Bk ∧ (s.parent ≠ 0 → rk s.parent < rk j)) → rk id < rk x → CInv (rec (M, l') x).1 (rec (M, l') x).2 ∧ CRel rk (rk x) M (rec (M, l') x).1) :
    ∀ (L : List Int) (M : Fo) (l : List Int), CInv M l → (∀ x ∈ L, x = 0 ∨ ∃ k, M x = some k ∧ k.parent = id) → (∀ j s, M j = some s → rk j ≤ Bk ∧ (s.parent ≠ 0 → rk s.parent < rk j)) →
      CInv (L.foldl (comStep sy rec) (M, l)).1 (L.foldl (comStep sy rec) (M, l)).2 ∧ CRel rk (rk id + 1) M (L.foldl (comStep sy rec) (M, l)).1
  | [], M, l, h, _, _ => ⟨h, CRel.refl _ _ _⟩
  | x :: L, M, l, h, hL, hrk => by
    obtain ⟨h1, h2⟩ := comStep_inv (sy := sy) (rec := rec) (Bk := Bk) h (hL x (by simp)) hid hrk (fun l' hp h0 => hrec M l' x hp h0 hrk (by
      obtain ⟨k, hk, hkp⟩ := (hL x (by simp)).resolve_left h0
      have := (hrk x k hk).2 (by rw [hkp]; exact hid)
      rw [hkp] at this; exact this))
    obtain ⟨h3, h4⟩ := fold_inv hid hrec L (comStep sy rec (M, l) x).1 (comStep sy rec (M, l) x).2 h1 (fun y hy => kid_rel h2 (hL y (by simp [hy]))) (hrk_rel h2 hrk)
    exact ⟨h3, h2.trans h4⟩

theorem comA_inv : ∀ (k : Nat) (M : Fo) (l : List Int) (id : Int) (s : Sf), CPre M l id → M id = some s → (∀ j s, M j = some s → rk j ≤ Bk ∧ (s.parent ≠ 0 → rk s.parent < rk j)) → Bk < k + rk id →
    CInv (comA sy k (M, l) id).1 (comA sy k (M, l) id).2 ∧ CRel rk (rk id) M (comA sy k (M, l) id).1
  | 0, M, l, id, s, h, hs, hrk, hk => by have := (hrk _ _ hs).1; omega
  | k + 1, M, l, id, s, h, hs, hrk, hk => by
    obtain ⟨h1, h2⟩ := h.app (rk := rk) hs (rk id) (Nat.le_refl _)
    have hid : id ≠ 0 := by have := (h.good.pos _ _ hs).1; omega
    have hkids := h1.good.kids id (appS s) (setM_same _ _ _)
    have := fold_inv (sy := sy) (rec := comA sy k) (Bk := Bk) hid (fun M' l' x hp h0 hrk' hlt => by
      by_cases hx : ∃ kx, M' x = some kx
      · obtain ⟨kx, hkx⟩ := hx
        exact comA_inv k M' l' x kx hp hkx hrk' (by omega)
      · have hn : M' x = none := by
          cases e : M' x with
          | none => rfl
          | some kx => exact absurd ⟨kx, e⟩ hx
        have e : comA sy k (M', l') x = (M', l') := by
          cases k with
          | zero => rfl
          | succ k => unfold comA; dsimp only; rw [hn]
        rw [e]
        refine ⟨⟨hp.good, hp.fit, hp.nd, fun y hy => ?_⟩, CRel.refl _ _ _⟩
        obtain ⟨s', h3, h4⟩ := hp.mem y hy
        refine ⟨s', h3, h4.resolve_left fun e => ?_⟩
        rw [e, hn] at h3; cases h3) (appS s).cu.order (setM M id (some (appS s))) l h1 hkids.2.2 (hrk_rel h2 hrk)
    unfold comA
    dsimp only
    rw [hs]
    exact ⟨this.1, h2.trans (this.2.mono (by omega))⟩
end
end Go.Proofs.YthkjicnnepkghaaGreatDoor
