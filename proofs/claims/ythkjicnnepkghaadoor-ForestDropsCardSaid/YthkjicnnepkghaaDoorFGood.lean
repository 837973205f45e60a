/-
  What holds of every forest, as plain data; each call keeps it.
-/
import Derived.Test.YthkjicnnepkghaaDoorFData
namespace Go.Proofs.YthkjicnnepkghaaDoor
open Go.RowKit

/-- A state that is to come bears no more than what it says. -/
def TidyT (s : St) : Prop := (s.attach = false → s.buffer = 0) ∧ (s.input = false → s.all = false ∧ s.region = []) ∧ (s.ordered = false → s.order = [])
/-- A state that is. -/
def NowT (s : St) : Prop := s.attach = false ∧ s.damage = [] ∧ s.input = false ∧ s.ordered = false
def Kids (M : Fo) (id : Int) (l : List Int) : Prop := ∀ x ∈ l, x = 0 ∨ ∃ k, M x = some k ∧ k.parent = id

structure GoodM (M : Fo) : Prop where
  pos : ∀ id s, M id = some s → 1 ≤ id ∧ I64 id
  par : ∀ id s, M id = some s → s.parent ≠ 0 → ∃ p, M s.parent = some p
  rank : ∃ (rk : Int → Nat) (B : Nat), ∀ id s, M id = some s → rk id ≤ B ∧ (s.parent ≠ 0 → rk s.parent < rk id)
  kids : ∀ id s, M id = some s → Kids M id s.pe.order ∧ Kids M id s.ca.order ∧ Kids M id s.cu.order
  tidy : ∀ id s, M id = some s → TidyT s.pe ∧ TidyT s.ca ∧ NowT s.cu

section
variable {M : Fo} {id : Int} {s : Sf}
theorem setM_same (M : Fo) (id : Int) (v : Option Sf) : setM M id v id = v := by simp [setM]
theorem setM_other (M : Fo) {id j : Int} (v : Option Sf) (h : j ≠ id) : setM M id v j = M j := by simp [setM, h]
theorem setM_eq {M : Fo} {id j : Int} {v : Option Sf} {s : Sf} (h : setM M id v j = some s) : (j = id ∧ v = some s) ∨ (j ≠ id ∧ M j = some s) := by
  unfold setM at h
  by_cases e : j = id
  · rw [if_pos e] at h; exact .inl ⟨e, h⟩
  · rw [if_neg e] at h; exact .inr ⟨e, h⟩
theorem GoodM.empty : GoodM (fun _ => none) := ⟨by simp, by simp, ⟨fun _ => 0, 0, by simp⟩, by simp, by simp⟩
theorem parM_some (h : M id = some s) : parM M id = s.parent := by simp [parM, h]
theorem GoodM.par_pos (h : GoodM M) (hs : M id = some s) (hp : s.parent ≠ 0) : 1 ≤ s.parent ∧ I64 s.parent := by
  obtain ⟨p, hp'⟩ := h.par id s hs hp
  exact h.pos _ _ hp'
theorem GoodM.par_nn (h : GoodM M) (hs : M id = some s) : 0 ≤ s.parent ∧ I64 s.parent := by
  by_cases hp : s.parent = 0
  · rw [hp]; exact ⟨by omega, i64_zero⟩
  · have := h.par_pos hs hp; exact ⟨by omega, this.2⟩
theorem GoodM.par_ne (h : GoodM M) (hs : M id = some s) (hp : s.parent ≠ 0) : s.parent ≠ id := fun e => by
  obtain ⟨rk, B, hr⟩ := h.rank
  have := (hr id s hs).2 hp
  rw [e] at this; omega

theorem Kids.nil (M : Fo) (id : Int) : Kids M id [] := fun x hx => by simp at hx
theorem Kids.mono {M' : Fo} {l : List Int} (h : Kids M id l) (hk : ∀ x k, M x = some k → k.parent = id → ∃ k', M' x = some k' ∧ k'.parent = id) : Kids M' id l := fun x hx => by
  rcases h x hx with h1 | ⟨k, h1, h2⟩
  · exact .inl h1
  · exact .inr (hk x k h1 h2)
theorem Kids.sub {l l' : List Int} (h : Kids M id l) (hl : ∀ x ∈ l', x ∈ l) : Kids M id l' := fun x hx => h x (hl x hx)

/-- One surface turns; its parent stays. -/
theorem GoodM.turn (h : GoodM M) (hs : M id = some s) {s' : Sf} (hp : s'.parent = s.parent) (hk : Kids M id s'.pe.order ∧ Kids M id s'.ca.order ∧ Kids M id s'.cu.order) (ht : TidyT s'.pe ∧ TidyT s'.ca ∧ NowT s'.cu) : GoodM (setM M id (some s')) := by
  have key : ∀ j t, setM M id (some s') j = some t → ∃ t0, M j = some t0 ∧ t.parent = t0.parent := fun j t hj => by
    rcases setM_eq hj with ⟨rfl, e⟩ | ⟨_, e⟩
    · cases e; exact ⟨s, hs, hp⟩
    · exact ⟨t, e, rfl⟩
  have key2 : ∀ j t0, M j = some t0 → ∃ t, setM M id (some s') j = some t ∧ t.parent = t0.parent := fun j t0 hj => by
    by_cases e : j = id
    · subst e; rw [hs] at hj; cases hj; exact ⟨s', setM_same _ _ _, hp⟩
    · exact ⟨t0, by rw [setM_other _ _ e]; exact hj, rfl⟩
  have hkid : ∀ j l, Kids M j l → Kids (setM M id (some s')) j l := fun j l hl => hl.mono fun x k hx hxp => by
    obtain ⟨t, h1, h2⟩ := key2 x k hx
    exact ⟨t, h1, h2.trans hxp⟩
  refine ⟨fun j t hj => ?_, fun j t hj hjp => ?_, ?_, fun j t hj => ?_, fun j t hj => ?_⟩
  · obtain ⟨t0, h1, _⟩ := key j t hj; exact h.pos _ _ h1
  · obtain ⟨t0, h1, h2⟩ := key j t hj
    rw [h2] at hjp ⊢
    obtain ⟨p, h3⟩ := h.par _ _ h1 hjp
    obtain ⟨p', h4, _⟩ := key2 _ _ h3
    exact ⟨p', h4⟩
  · obtain ⟨rk, B, hr⟩ := h.rank
    refine ⟨rk, B, fun j t hj => ?_⟩
    obtain ⟨t0, h1, h2⟩ := key j t hj
    rw [h2]
    exact hr _ _ h1
  · rcases setM_eq hj with ⟨rfl, e⟩ | ⟨_, e⟩
    · cases e
      exact ⟨hkid _ _ hk.1, hkid _ _ hk.2.1, hkid _ _ hk.2.2⟩
    · have := h.kids _ _ e
      exact ⟨hkid _ _ this.1, hkid _ _ this.2.1, hkid _ _ this.2.2⟩
  · rcases setM_eq hj with ⟨rfl, e⟩ | ⟨_, e⟩
    · cases e; exact ht
    · exact h.tidy _ _ e

theorem tidy_zero : TidyT St.zero := ⟨fun _ => rfl, fun _ => ⟨rfl, rfl⟩, fun _ => rfl⟩
theorem now_first : NowT St.first := ⟨rfl, rfl, rfl, rfl⟩

theorem GoodM.add (h : GoodM M) (k : Nat) (hi : I64 id) : GoodM (faddS M k id) := by
  unfold faddS
  split
  · rename_i hk
    have hid : 1 ≤ id := by
      unfold faddK at hk
      by_cases e : id < 1
      · rw [if_pos e] at hk; cases hk
      · omega
    have hn : M id = none := by
      unfold faddK at hk
      rw [if_neg (by omega)] at hk
      cases e : M id with
      | none => rfl
      | some v => rw [e] at hk; simp at hk
    have old : ∀ j t, M j = some t → setM M id (some newSf) j = some t := fun j t hj => by
      have : j ≠ id := fun e => by rw [e, hn] at hj; cases hj
      rw [setM_other _ _ this]; exact hj
    have hkid : ∀ j l, Kids M j l → Kids (setM M id (some newSf)) j l := fun j l hl => hl.mono fun x k hx hxp => ⟨k, old _ _ hx, hxp⟩
    obtain ⟨rk, B, hr⟩ := h.rank
    refine ⟨fun j t hj => ?_, fun j t hj hjp => ?_, ⟨fun j => if j = id then 0 else rk j, B, fun j t hj => ?_⟩, fun j t hj => ?_, fun j t hj => ?_⟩
    · rcases setM_eq hj with ⟨rfl, e⟩ | ⟨_, e⟩
      · exact ⟨hid, hi⟩
      · exact h.pos _ _ e
    · rcases setM_eq hj with ⟨rfl, e⟩ | ⟨_, e⟩
      · cases e; exact absurd rfl hjp
      · obtain ⟨p, h3⟩ := h.par _ _ e hjp
        exact ⟨p, old _ _ h3⟩
    · rcases setM_eq hj with ⟨rfl, e⟩ | ⟨hne, e⟩
      · cases e; exact ⟨by simp, fun hp => absurd rfl hp⟩
      · have := hr _ _ e
        dsimp only
        rw [if_neg hne]
        refine ⟨this.1, fun hp => ?_⟩
        obtain ⟨p, h3⟩ := h.par _ _ e hp
        have hpi : t.parent ≠ id := fun e2 => by rw [e2, hn] at h3; cases h3
        rw [if_neg hpi]
        exact this.2 hp
    · rcases setM_eq hj with ⟨rfl, e⟩ | ⟨_, e⟩
      · cases e
        exact ⟨Kids.nil _ _, Kids.nil _ _, fun x hx => .inl (by simpa [newSf, St.first] using hx)⟩
      · have := h.kids _ _ e
        exact ⟨hkid _ _ this.1, hkid _ _ this.2.1, hkid _ _ this.2.2⟩
    · rcases setM_eq hj with ⟨rfl, e⟩ | ⟨_, e⟩
      · cases e; exact ⟨tidy_zero, tidy_zero, now_first⟩
      · exact h.tidy _ _ e
  · exact h

theorem Up.pos {x : Int} (h : Up M id x) : 0 < x := by cases h <;> assumption
theorem Up.parent {x : Int} (h : Up M id x) (hx : x ≠ id) : Up M id (parM M x) := by
  cases h with
  | here => exact absurd rfl hx
  | up _ h' => exact h'

theorem latest_kids (h : GoodM M) (hs : M id = some s) : Kids M id s.latest := by
  have := h.kids _ _ hs
  unfold Sf.latest
  split
  · exact this.1
  · split
    · exact this.2.1
    · exact this.2.2

theorem GoodM.subs {parent : Int} {p : Sf} (h : GoodM M) (hs : M id = some s) (hp : M parent = some p) (h0 : s.parent = 0) (hu : ¬ Up M id parent) : GoodM (subbed M id parent) := by
  have hip := h.pos _ _ hs
  have hpp := h.pos _ _ hp
  have hne : parent ≠ id := fun e => hu (by rw [e]; exact .here (by omega))
  have e0 : subbed M id parent = setM (setM M id (some { s with parent := parent, sync := true })) parent (some (placeT (orderT p (without p.latest id ++ [id])) ⟨id, 0, 0⟩)) := by
    unfold subbed; rw [hs, hp]
  rw [e0]
  have hM' : ∀ j t, setM (setM M id (some { s with parent := parent, sync := true })) parent (some (placeT (orderT p (without p.latest id ++ [id])) ⟨id, 0, 0⟩)) j = some t →
      (j = parent ∧ t = placeT (orderT p (without p.latest id ++ [id])) ⟨id, 0, 0⟩) ∨ (j = id ∧ t = { s with parent := parent, sync := true }) ∨ (j ≠ parent ∧ j ≠ id ∧ M j = some t) := fun j t hj => by
    rcases setM_eq hj with ⟨rfl, e⟩ | ⟨h1, e⟩
    · exact .inl ⟨rfl, (Option.some.inj e).symm⟩
    · rcases setM_eq e with ⟨h3, e3⟩ | ⟨h2, e2⟩
      · exact .inr (.inl ⟨h3, (Option.some.inj e3).symm⟩)
      · exact .inr (.inr ⟨h1, h2, e2⟩)
  have old : ∀ j t, M j = some t → ∃ t', setM (setM M id (some { s with parent := parent, sync := true })) parent (some (placeT (orderT p (without p.latest id ++ [id])) ⟨id, 0, 0⟩)) j = some t' ∧ (j ≠ id → t'.parent = t.parent) := fun j t hj => by
    by_cases e1 : j = parent
    · subst e1; rw [hp] at hj; cases hj; exact ⟨_, setM_same _ _ _, fun _ => rfl⟩
    · by_cases e2 : j = id
      · subst e2; exact ⟨_, by rw [setM_other _ _ e1]; exact setM_same _ _ _, fun h => absurd rfl h⟩
      · exact ⟨t, by rw [setM_other _ _ e1, setM_other _ _ e2]; exact hj, fun _ => rfl⟩
  have newid : setM (setM M id (some { s with parent := parent, sync := true })) parent (some (placeT (orderT p (without p.latest id ++ [id])) ⟨id, 0, 0⟩)) id = some { s with parent := parent, sync := true } := by
    rw [setM_other _ _ (fun e => hne e.symm)]; exact setM_same _ _ _
  generalize hMM : setM (setM M id (some { s with parent := parent, sync := true })) parent (some (placeT (orderT p (without p.latest id ++ [id])) ⟨id, 0, 0⟩)) = M' at *
  have hkid : ∀ j l, 1 ≤ j → Kids M j l → Kids M' j l := fun j l hj hl x hx => by
    rcases hl x hx with h1 | ⟨k, h1, h2⟩
    · exact .inl h1
    · by_cases e : x = id
      · subst e
        rw [hs] at h1; cases h1
        omega
      · obtain ⟨t', h3, h4⟩ := old _ _ h1
        exact .inr ⟨t', h3, (h4 e).trans h2⟩
  refine ⟨fun j t hj => ?_, fun j t hj hjp => ?_, ?_, fun j t hj => ?_, fun j t hj => ?_⟩
  · rcases hM' j t hj with ⟨rfl, _⟩ | ⟨rfl, _⟩ | ⟨_, _, e⟩
    · exact hpp
    · exact hip
    · exact h.pos _ _ e
  · rcases hM' j t hj with ⟨rfl, rfl⟩ | ⟨rfl, rfl⟩ | ⟨_, _, e⟩
    · obtain ⟨q, hq⟩ := h.par _ _ hp hjp
      obtain ⟨t', h3, _⟩ := old _ _ hq
      exact ⟨t', h3⟩
    · obtain ⟨t', h3, _⟩ := old _ _ hp
      exact ⟨t', h3⟩
    · obtain ⟨q, hq⟩ := h.par _ _ e hjp
      obtain ⟨t', h3, _⟩ := old _ _ hq
      exact ⟨t', h3⟩
  · obtain ⟨rk, B, hr⟩ := h.rank
    refine ⟨fun x => open Classical in if Up M id x then rk x + (rk parent + 1) else rk x, B + (B + 1), fun j t hj => ?_⟩
    have hB : rk parent ≤ B := (hr _ _ hp).1
    have hle : ∀ x t, M x = some t → (open Classical in if Up M id x then rk x + (rk parent + 1) else rk x) ≤ B + (B + 1) := fun x t hx => by
      have := (hr _ _ hx).1
      split <;> omega
    have hup : ∀ x t, M x = some t → x ≠ id → t.parent ≠ 0 → (open Classical in if Up M id t.parent then rk t.parent + (rk parent + 1) else rk t.parent) < (open Classical in if Up M id x then rk x + (rk parent + 1) else rk x) := fun x t hx hxi htp => by
      have h1 := (hr _ _ hx).2 htp
      have h2 := (h.pos _ _ hx).1
      have h3 : Up M id x ↔ Up M id t.parent := by
        rw [← parM_some hx]
        exact ⟨fun h => h.parent hxi, fun h => .up (by omega) h⟩
      by_cases h4 : Up M id x
      · rw [if_pos h4, if_pos (h3.1 h4)]; omega
      · rw [if_neg h4, if_neg (fun h => h4 (h3.2 h))]; exact h1
    rcases hM' j t hj with ⟨rfl, rfl⟩ | ⟨rfl, rfl⟩ | ⟨_, e2, e⟩
    · have k1 := hup _ _ hp hne
      exact ⟨hle _ _ hp, k1⟩
    · refine ⟨hle _ _ hs, fun _ => ?_⟩
      show (open Classical in if Up M j parent then rk parent + (rk parent + 1) else rk parent) < (open Classical in if Up M j j then rk j + (rk parent + 1) else rk j)
      rw [if_neg hu, if_pos (Up.here (by omega))]
      omega
    · exact ⟨hle _ _ e, fun hpp => hup _ _ e e2 hpp⟩
  · rcases hM' j t hj with ⟨rfl, rfl⟩ | ⟨rfl, rfl⟩ | ⟨_, _, e⟩
    · have h1 := h.kids _ _ hp
      refine ⟨fun x hx => ?_, hkid _ _ hpp.1 h1.2.1, hkid _ _ hpp.1 h1.2.2⟩
      have hx : x ∈ without p.latest id ++ [id] := hx
      rcases List.mem_append.1 hx with hx | hx
      · exact hkid _ _ hpp.1 (latest_kids h hp) x (by simp [without] at hx; exact hx.1)
      · obtain rfl : x = id := by simpa using hx
        exact .inr ⟨_, newid, rfl⟩
    · have h1 := h.kids _ _ hs
      exact ⟨hkid _ _ hip.1 h1.1, hkid _ _ hip.1 h1.2.1, hkid _ _ hip.1 h1.2.2⟩
    · have h1 := h.kids _ _ e
      have h2 := (h.pos _ _ e).1
      exact ⟨hkid _ _ h2 h1.1, hkid _ _ h2 h1.2.1, hkid _ _ h2 h1.2.2⟩
  · rcases hM' j t hj with ⟨rfl, rfl⟩ | ⟨rfl, rfl⟩ | ⟨_, _, e⟩
    · have h1 := h.tidy _ _ hp
      exact ⟨⟨h1.1.1, h1.1.2.1, fun h => by cases h⟩, h1.2.1, h1.2.2⟩
    · have k1 := h.tidy _ _ hs
      exact k1
    · exact h.tidy _ _ e

theorem Kids.without {l : List Int} (h : Kids M id l) (x : Int) : Kids M id (without l x) := h.sub fun y hy => by simp [Go.Proofs.YthkjicnnepkghaaDoor.without] at hy; exact hy.1
theorem tidy_cut {t : St} (h : TidyT t) (x : Int) : TidyT (cutT t x) := ⟨h.1, h.2.1, fun e => by show Go.Proofs.YthkjicnnepkghaaDoor.without t.order x = []; rw [h.2.2 e]; rfl⟩
theorem now_cut {t : St} (h : NowT t) (x : Int) : NowT (cutT t x) := h

theorem GoodM.unsub {p : Sf} (h : GoodM M) (hs : M id = some s) (h0 : s.parent ≠ 0) (hp : M s.parent = some p) : GoodM (setM (setM M id (some { s with parent := 0 })) s.parent (some (cutSf p id))) := by
  have hip := h.pos _ _ hs
  have hpp := h.pos _ _ hp
  have hne : s.parent ≠ id := h.par_ne hs h0
  have hM' : ∀ j t, setM (setM M id (some { s with parent := 0 })) s.parent (some (cutSf p id)) j = some t →
      (j = s.parent ∧ t = cutSf p id) ∨ (j = id ∧ t = { s with parent := 0 }) ∨ (j ≠ s.parent ∧ j ≠ id ∧ M j = some t) := fun j t hj => by
    rcases setM_eq hj with ⟨rfl, e⟩ | ⟨h1, e⟩
    · exact .inl ⟨rfl, (Option.some.inj e).symm⟩
    · rcases setM_eq e with ⟨h3, e3⟩ | ⟨h2, e2⟩
      · exact .inr (.inl ⟨h3, (Option.some.inj e3).symm⟩)
      · exact .inr (.inr ⟨h1, h2, e2⟩)
  have old : ∀ j t, M j = some t → ∃ t', setM (setM M id (some { s with parent := 0 })) s.parent (some (cutSf p id)) j = some t' ∧ (j ≠ id → t'.parent = t.parent) := fun j t hj => by
    by_cases e1 : j = s.parent
    · subst e1; rw [hp] at hj; cases hj; exact ⟨_, setM_same _ _ _, fun _ => rfl⟩
    · by_cases e2 : j = id
      · subst e2; exact ⟨_, by rw [setM_other _ _ e1]; exact setM_same _ _ _, fun h => absurd rfl h⟩
      · exact ⟨t, by rw [setM_other _ _ e1, setM_other _ _ e2]; exact hj, fun _ => rfl⟩
  generalize hMM : setM (setM M id (some { s with parent := 0 })) s.parent (some (cutSf p id)) = M' at *
  have hkid : ∀ j l, (j = s.parent → id ∉ l) → Kids M j l → Kids M' j l := fun j l hj hl x hx => by
    rcases hl x hx with h1 | ⟨k, h1, h2⟩
    · exact .inl h1
    · by_cases e : x = id
      · subst e
        rw [hs] at h1; cases h1
        exact absurd hx (hj h2.symm)
      · obtain ⟨t', h3, h4⟩ := old _ _ h1
        exact .inr ⟨t', h3, (h4 e).trans h2⟩
  have hw : ∀ l : List Int, id ∉ Go.Proofs.YthkjicnnepkghaaDoor.without l id := fun l hl => by simp [Go.Proofs.YthkjicnnepkghaaDoor.without] at hl
  refine ⟨fun j t hj => ?_, fun j t hj hjp => ?_, ?_, fun j t hj => ?_, fun j t hj => ?_⟩
  · rcases hM' j t hj with ⟨rfl, _⟩ | ⟨rfl, _⟩ | ⟨_, _, e⟩
    · exact hpp
    · exact hip
    · exact h.pos _ _ e
  · rcases hM' j t hj with ⟨rfl, rfl⟩ | ⟨rfl, rfl⟩ | ⟨_, _, e⟩
    · obtain ⟨q, hq⟩ := h.par _ _ hp hjp
      obtain ⟨t', h3, _⟩ := old _ _ hq
      exact ⟨t', h3⟩
    · exact absurd rfl hjp
    · obtain ⟨q, hq⟩ := h.par _ _ e hjp
      obtain ⟨t', h3, _⟩ := old _ _ hq
      exact ⟨t', h3⟩
  · obtain ⟨rk, B, hr⟩ := h.rank
    refine ⟨rk, B, fun j t hj => ?_⟩
    rcases hM' j t hj with ⟨rfl, rfl⟩ | ⟨rfl, rfl⟩ | ⟨_, _, e⟩
    · have k1 := hr _ _ hp
      exact k1
    · exact ⟨(hr _ _ hs).1, fun h => absurd rfl h⟩
    · exact hr _ _ e
  · rcases hM' j t hj with ⟨rfl, rfl⟩ | ⟨rfl, rfl⟩ | ⟨e1, _, e⟩
    · have h1 := h.kids _ _ hp
      exact ⟨hkid _ _ (fun _ => hw _) (h1.1.without id), hkid _ _ (fun _ => hw _) (h1.2.1.without id), hkid _ _ (fun _ => hw _) (h1.2.2.without id)⟩
    · have h1 := h.kids _ _ hs
      exact ⟨hkid _ _ (fun e => absurd e.symm hne) h1.1, hkid _ _ (fun e => absurd e.symm hne) h1.2.1, hkid _ _ (fun e => absurd e.symm hne) h1.2.2⟩
    · have h1 := h.kids _ _ e
      exact ⟨hkid _ _ (fun e => absurd e e1) h1.1, hkid _ _ (fun e => absurd e e1) h1.2.1, hkid _ _ (fun e => absurd e e1) h1.2.2⟩
  · rcases hM' j t hj with ⟨rfl, rfl⟩ | ⟨rfl, rfl⟩ | ⟨_, _, e⟩
    · have h1 := h.tidy _ _ hp
      exact ⟨tidy_cut h1.1 _, tidy_cut h1.2.1 _, now_cut h1.2.2 _⟩
    · have k1 := h.tidy _ _ hs
      exact k1
    · exact h.tidy _ _ e

/-- A surface that is in none goes. -/
theorem GoodM.gone (h : GoodM M) (h0 : ∀ s, M id = some s → s.parent = 0) : GoodM (setM (orphan M id) id none) := by
  have hM' : ∀ j t, setM (orphan M id) id none j = some t → j ≠ id ∧ ∃ t0, M j = some t0 ∧ t = (if t0.parent = id then { t0 with parent := 0 } else t0) := fun j t hj => by
    rcases setM_eq hj with ⟨_, e⟩ | ⟨h1, e⟩
    · cases e
    · unfold orphan at e
      cases hm : M j with
      | none => rw [hm] at e; cases e
      | some t0 => rw [hm] at e; exact ⟨h1, t0, rfl, (Option.some.inj e).symm⟩
  have old : ∀ j t0, j ≠ id → M j = some t0 → setM (orphan M id) id none j = some (if t0.parent = id then { t0 with parent := 0 } else t0) := fun j t0 hj hm => by
    rw [setM_other _ _ hj]; unfold orphan; rw [hm]; rfl
  have hst : ∀ (t0 : Sf), (if t0.parent = id then { t0 with parent := 0 } else t0).pe = t0.pe ∧ (if t0.parent = id then { t0 with parent := 0 } else t0).ca = t0.ca ∧ (if t0.parent = id then { t0 with parent := 0 } else t0).cu = t0.cu := fun t0 => by split <;> exact ⟨rfl, rfl, rfl⟩
  have hpar : ∀ (t0 : Sf), (if t0.parent = id then { t0 with parent := 0 } else t0).parent ≠ 0 → t0.parent ≠ id ∧ (if t0.parent = id then { t0 with parent := 0 } else t0).parent = t0.parent := fun t0 => by
    split
    · intro h; exact absurd rfl h
    · intro _; exact ⟨‹_›, rfl⟩
  have hkid : ∀ j l, j ≠ id → j ≠ 0 → Kids M j l → Kids (setM (orphan M id) id none) j l := fun j l hji hj hl x hx => by
    rcases hl x hx with h1 | ⟨k, h1, h2⟩
    · exact .inl h1
    · have hxi : x ≠ id := fun e => by
        rw [e] at h1
        exact hj (by rw [← h2]; exact h0 k h1)
      refine .inr ⟨_, old x k hxi h1, ?_⟩
      rw [if_neg (by rw [h2]; exact hji)]
      exact h2
  refine ⟨fun j t hj => ?_, fun j t hj hjp => ?_, ?_, fun j t hj => ?_, fun j t hj => ?_⟩
  · obtain ⟨_, t0, h1, _⟩ := hM' j t hj
    exact h.pos _ _ h1
  · obtain ⟨h2, t0, h1, rfl⟩ := hM' j t hj
    obtain ⟨h3, h4⟩ := hpar t0 hjp
    rw [h4] at hjp ⊢
    obtain ⟨q, hq⟩ := h.par _ _ h1 hjp
    exact ⟨_, old _ _ h3 hq⟩
  · obtain ⟨rk, B, hr⟩ := h.rank
    refine ⟨rk, B, fun j t hj => ?_⟩
    obtain ⟨h2, t0, h1, rfl⟩ := hM' j t hj
    refine ⟨(hr _ _ h1).1, fun hjp => ?_⟩
    obtain ⟨h3, h4⟩ := hpar t0 hjp
    rw [h4] at hjp ⊢
    exact (hr _ _ h1).2 hjp
  · obtain ⟨h2, t0, h1, rfl⟩ := hM' j t hj
    obtain ⟨e1, e2, e3⟩ := hst t0
    rw [e1, e2, e3]
    have h3 := h.kids _ _ h1
    have h4 := (h.pos _ _ h1).1
    exact ⟨hkid _ _ h2 (by omega) h3.1, hkid _ _ h2 (by omega) h3.2.1, hkid _ _ h2 (by omega) h3.2.2⟩
  · obtain ⟨h2, t0, h1, rfl⟩ := hM' j t hj
    obtain ⟨e1, e2, e3⟩ := hst t0
    rw [e1, e2, e3]
    exact h.tidy _ _ h1
end
end Go.Proofs.YthkjicnnepkghaaDoor
