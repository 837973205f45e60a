/-
  What is set and not committed: as plain data; the forest beside what was told of it.
-/
import Derived.Test.YthkjicnnepkghaaGreatDoorPkStep17f
import Derived.Test.YthkjicnnepkghaaGreatDoorPkU
import Derived.Test.YthkjicnnepkghaaGreatDoorPkT
namespace Go.Proofs.YthkjicnnepkghaaGreatDoor
open Go.RowKit
set_option linter.unusedVariables false

def seenS (s : Sf) : Int × Bool × St × St := (s.parent, s.sync, s.ca, s.cu)
def SameSeen (M M' : Fo) : Prop := ∀ x, (M' x).map seenS = (M x).map seenS
section
variable {M M' M'' : Fo} {id : Int}
theorem SameSeen.refl (M : Fo) : SameSeen M M := fun _ => rfl
theorem SameSeen.trans (h : SameSeen M M') (h' : SameSeen M' M'') : SameSeen M M'' := fun x => (h' x).trans (h x)
theorem SameSeen.set {s v : Sf} (hs : M id = some s) (hv : seenS v = seenS s) : SameSeen M (setM M id (some v)) := fun x => by
  by_cases e : x = id
  · subst e; rw [setM_same, hs]; simp [hv]
  · rw [setM_other _ _ e]
theorem SameSeen.turn (f : St → St) : SameSeen M (turnS M id f) := by
  unfold turnS
  split
  · exact .refl _
  · rename_i s hs; exact .set hs rfl
theorem SameSeen.pos (x y : Int) : SameSeen M (fposS M id x y) := by
  unfold fposS
  split
  · exact .refl _
  · split
    · exact .refl _
    · split
      · exact .refl _
      · rename_i p hp _; exact .set hp rfl
theorem SameSeen.bes (by' : Int) (k : Nat) : SameSeen M (besS M id by' k) := by
  unfold besS
  split
  · split
    · exact .refl _
    · split
      · exact .refl _
      · rename_i p hp; exact .set hp rfl
  · exact .refl _
theorem SameSeen.fwd (h : SameSeen M M') {x : Int} {s : Sf} (hs : M x = some s) : ∃ s', M' x = some s' ∧ seenS s' = seenS s := by
  have := h x
  rw [hs] at this
  cases e : M' x with
  | none => rw [e] at this; cases this
  | some s' => rw [e] at this; exact ⟨s', rfl, Option.some.inj this⟩
theorem SameSeen.back (h : SameSeen M M') {x : Int} {s' : Sf} (hs : M' x = some s') : ∃ s, M x = some s ∧ seenS s' = seenS s := by
  have := h x
  rw [hs] at this
  cases e : M x with
  | none => rw [e] at this; cases this
  | some s => rw [e] at this; exact ⟨s, rfl, Option.some.inj this⟩
theorem SameSeen.none (h : SameSeen M M') {x : Int} (hs : M x = none) : M' x = none := by
  have := h x
  rw [hs] at this
  cases e : M' x with
  | none => rfl
  | some s => rw [e] at this; cases this
theorem SameSeen.walk (h : SameSeen M M') : ∀ (k : Nat) (id : Int), walkT M' k id = walkT M k id
  | 0, _ => rfl
  | k + 1, id => by
    cases hs : M id with
    | none => rw [walkT_none _ hs, walkT_none _ (h.none hs)]
    | some s =>
      obtain ⟨s', h1, h2⟩ := h.fwd hs
      have hcu : s'.cu = s.cu := by simp only [seenS, Prod.mk.injEq] at h2; exact h2.2.2.2
      by_cases hb : s.cu.buffer = 0
      · rw [walkT_zero _ hs hb, walkT_zero _ h1 (by rw [hcu]; exact hb)]
      · rw [walkT_some k hs hb, walkT_some k h1 (by rw [hcu]; exact hb), hcu]
        have : walkT M' k = walkT M k := funext fun j => h.walk k j
        rw [this]
theorem SameSeen.held (h : SameSeen M M') {q : List Int} (hq : HeldL M q) : HeldL M' q := by
  refine ⟨hq.1, fun x => (hq.2 x).trans ?_⟩
  refine and_congr Iff.rfl ⟨fun ⟨j, s, h1, h2⟩ => ?_, fun ⟨j, s, h1, h2⟩ => ?_⟩
  · obtain ⟨s', h3, h4⟩ := h.fwd h1
    simp only [seenS, Prod.mk.injEq] at h4
    exact ⟨j, s', h3, by unfold HeldBy at h2 ⊢; rw [h4.2.2.1, h4.2.2.2]; exact h2⟩
  · obtain ⟨s', h3, h4⟩ := h.back h1
    simp only [seenS, Prod.mk.injEq] at h4
    exact ⟨j, s', h3, by unfold HeldBy at h2 ⊢; rw [← h4.2.2.1, ← h4.2.2.2]; exact h2⟩
theorem SameSeen.tell (h : SameSeen M M') (id : Int) : (tellM M' id fun t => t.cu) = tellM M id fun t => t.cu := by
  cases hs : M id with
  | none => simp [tellM, hs, h.none hs]
  | some s =>
    obtain ⟨s', h1, h2⟩ := h.fwd hs
    simp only [seenS, Prod.mk.injEq] at h2
    simp [tellM, hs, h1, h2.2.2.2]
theorem SameSeen.rk (h : SameSeen M M') {rk : Int → Nat} {Bk : Nat} (hrk : ∀ j s, M j = some s → rk j ≤ Bk ∧ (s.parent ≠ 0 → rk s.parent < rk j)) : ∀ j s, M' j = some s → rk j ≤ Bk ∧ (s.parent ≠ 0 → rk s.parent < rk j) := fun j s hj => by
  obtain ⟨s', h1, h2⟩ := h.back hj
  simp only [seenS, Prod.mk.injEq] at h2
  rw [h2.1]
  exact hrk j s' h1
end

def KeptBy (K : Nat → Prop) (Φ : World → Prop) : Prop := ∀ w w', w.heap.size ≤ w'.heap.size → (∀ b, K b → b < w.heap.size → w'.heap[b]? = w.heap[b]?) → Φ w → Φ w'
def UX (W : World) (p N c B : Nat) (M : Fo) (K : Nat → Prop) (Φ : World → Prop) (w : World) : Prop := ∃ F, FX W p N c B M F w ∧ Φ w ∧ KeptBy K Φ ∧ ∀ b, K b → b < w.heap.size ∧ ¬ F b
section
variable {W w w' : World} {p N c B : Nat} {M M' : Fo} {K : Nat → Prop} {Φ : World → Prop} {ae : Nat → Addr}
theorem UX.phi (h : UX W p N c B M K Φ w) : Φ w := by obtain ⟨F, _, h, _⟩ := h; exact h
theorem UX.below (h : UX W p N c B M K Φ w) : Below W.heap.size W w := by obtain ⟨F, h, _⟩ := h; exact h.below
theorem UX.keep (h : UX W p N c B M K Φ w) (hb : Below w.heap.size w w') : UX W p N c B M K Φ w' := by
  obtain ⟨F, h1, h2, h3, h4⟩ := h
  exact ⟨F, h1.keep hb, h3 w w' hb.size (fun b _ hl => hb.block b hl) h2, h3, fun b hb' => ⟨Nat.lt_of_lt_of_le (h4 b hb').1 hb.size, (h4 b hb').2⟩⟩
theorem UX.mono {N' B' : Nat} (h : UX W p N c B M K Φ w) (hN : N ≤ N') (hB : B ≤ B') : UX W p N' c B' M K Φ w := by
  obtain ⟨F, h1, h2⟩ := h
  exact ⟨F, h1.mono hN hB, h2⟩
theorem UX.prog {N' c' B' : Nat} {fn : FuncId} {args : Array Value} {e0 : Value} (h : UX W p N c B M K Φ w) (hc : ∀ F, FX W p N c B M F w → Calls Tryz.prog fn args w fun e w' => e = .returned e0 ∧ XOut W p N' c' B' M' F w w') :
    Calls Tryz.prog fn args w fun e w' => e = .returned e0 ∧ UX W p N' c' B' M' K Φ w' := by
  obtain ⟨F, h1, h2, h3, h4⟩ := h
  refine (hc F h1).mono fun e w' ⟨he, F', k1, k2, k3⟩ => ⟨he, F', k1, h3 w w' k2.size (fun b hb hl => k2.block b hl (h4 b hb).2) h2, h3, fun b hb => ⟨Nat.lt_of_lt_of_le (h4 b hb).1 k2.size, fun hF => ?_⟩⟩
  rcases k3 b hF with h5 | h5
  · exact (h4 b hb).2 h5
  · have := (h4 b hb).1; omega
theorem FX.told {F : Nat → Prop} (h : FX W p N c B M F w) (K : Nat → Prop) (Φ : World → Prop) (hΦ : Φ w) (hk : KeptBy K Φ) (hK : ∀ b, K b → b < w.heap.size ∧ ¬ F b) : UX W p N c B M K Φ w := ⟨F, h, hΦ, hk, hK⟩
theorem uAttach (hE : Errs W.heap.size W ae) (h : UX W p N c B M K Φ w) (id b : Int) (hid : I64 id) :
    Calls Tryz.prog 15 #[.pointer (some ⟨p, 0, none⟩), .int .i64 id, .int .i64 b] w fun e w' => e = .returned (errV ae (thereK M id)) ∧ UX W p (N + 1) c B (turnS M id (attachT b)) K Φ w' :=
  h.prog fun F hx => xAttach hE.five hx id b hid
theorem uDamage (hE : Errs W.heap.size W ae) (h : UX W p N c B M K Φ w) (id : Int) (r : R4) (hid : I64 id) (hB : B ≤ 10000) :
    Calls Tryz.prog 16 #[.pointer (some ⟨p, 0, none⟩), .int .i64 id, .agg #[.int .i64 r.x, .int .i64 r.y, .int .i64 r.w, .int .i64 r.h]] w fun e w' => e = .returned (errV ae (thereK M id)) ∧ UX W p (N + 1) c (B + 1) (turnS M id (damageT r)) K Φ w' :=
  h.prog fun F hx => yDamage hE.five hx id r hid hB
theorem uFrame (hE : Errs W.heap.size W ae) (h : UX W p N c B M K Φ w) (id x : Int) (hid : I64 id) (hB : B ≤ 10000) :
    Calls Tryz.prog 17 #[.pointer (some ⟨p, 0, none⟩), .int .i64 id, .int .i64 x] w fun e w' => e = .returned (errV ae (thereK M id)) ∧ UX W p (N + 1) c (B + 1) (turnS M id (frameT x)) K Φ w' :=
  h.prog fun F hx => yFrame hE.five hx id x hid hB
theorem uPosition (hE : Errs W.heap.size W ae) (h : UX W p N c B M K Φ w) (id x y : Int) (hid : I64 id) (hB : B ≤ 10000) :
    Calls Tryz.prog 18 #[.pointer (some ⟨p, 0, none⟩), .int .i64 id, .int .i64 x, .int .i64 y] w fun e w' => e = .returned (errV ae (childK M id)) ∧ UX W p (N + 1) c (B + 1) (fposS M id x y) K Φ w' :=
  h.prog fun F hx => xPosition hE.five hx id x y hid hB
theorem uAbove (hE : Errs W.heap.size W ae) (h : UX W p N c B M K Φ w) (id by' : Int) (hid : I64 id) (hby : I64 by') (hB : B ≤ 10000) :
    Calls Tryz.prog 19 #[.pointer (some ⟨p, 0, none⟩), .int .i64 id, .int .i64 by'] w fun e w' => e = .returned (errV ae (besK M id by')) ∧ UX W p (N + 1) c (B + 1) (besS M id by' 1) K Φ w' :=
  h.prog fun F hx => yAbove hE.five hx id by' hid hby hB
theorem uBelow (hE : Errs W.heap.size W ae) (h : UX W p N c B M K Φ w) (id by' : Int) (hid : I64 id) (hby : I64 by') (hB : B ≤ 10000) :
    Calls Tryz.prog 20 #[.pointer (some ⟨p, 0, none⟩), .int .i64 id, .int .i64 by'] w fun e w' => e = .returned (errV ae (besK M id by')) ∧ UX W p (N + 1) c (B + 1) (besS M id by' 0) K Φ w' :=
  h.prog fun F hx => xBelow hE.five hx id by' hid hby hB
theorem uInput (hE : Errs W.heap.size W ae) (h : UX W p N c B M K Φ w) (id : Int) (hid : I64 id) (hB : B ≤ 10000) :
    Calls Tryz.prog 21 #[.pointer (some ⟨p, 0, none⟩), .int .i64 id, .bool true, .slice none 0 0] w fun e w' => e = .returned (errV ae (thereK M id)) ∧ UX W p (N + 1) c B (turnS M id (inputT true [])) K Φ w' :=
  h.prog fun F hx => yInput hE.five hx id true (.slice none 0 0) [] hid (Rd.nil _ _) (fun b hb => by cases hb) (by simp) hB
theorem uWalk (h : UX W p N c B M K Φ w) (id : Int) (hid : I64 id) (hB : B ≤ 50000) {rk : Int → Nat} {Bk : Nat} (hrk : ∀ j s, M j = some s → rk j ≤ Bk ∧ (s.parent ≠ 0 → rk s.parent < rk j)) {S : List Ch} (hS : walkT M (Bk + 1) id = S) (hl : S.length ≤ 100000) :
    Calls Tryz.prog 11 #[.pointer (some ⟨p, 0, none⟩), .int .i64 id] w fun e w' => ∃ A cc, e = .returned (.slice A S.length cc) ∧ Rd w' (.slice A S.length cc) 3 S.length (S.flatMap Ch.enc) ∧ (∀ b, (Value.slice A S.length cc).ownBlock = some b → w.heap.size ≤ b ∧ b < w'.heap.size) ∧ Below w.heap.size w w' := by
  obtain ⟨F, h1, _⟩ := h
  obtain ⟨mb, Z, hz⟩ := h1.at_
  subst hS
  refine (fWalk_any (rk := rk) (Bk := Bk) (Bk + 1) w id hz h1.good hid hrk (fun s hs => by omega) (h1.fit.mono hB) hl).mono ?_
  rintro e w' ⟨v, he, ho, hb⟩
  obtain ⟨A, cc, rfl, _⟩ := own_form ho
  exact ⟨A, cc, he, Rd.of_own ho, fun b hb' => ho.lt b hb', hb⟩
theorem uHeld (h : UX W p N c B M K Φ w) (hN : N ≤ 100000) :
    Calls Tryz.prog 12 #[.pointer (some ⟨p, 0, none⟩)] w fun e w' => ∃ A cc H, e = .returned (.slice A H.length cc) ∧ HeldL M H ∧ H.length ≤ 2 * N ∧ Rd w' (.slice A H.length cc) 1 H.length (H.map (Value.int .i64)) ∧ Below w.heap.size w w' ∧ ∀ b, (Value.slice A H.length cc).ownBlock = some b → w.heap.size ≤ b := by
  obtain ⟨F, h1, _⟩ := h
  obtain ⟨mb, Z, hz⟩ := h1.at_
  exact fHeld_any w hz hN
theorem uNow (h : UX W p N c B M K Φ w) (id : Int) (hid : I64 id) (hB : B ≤ 50000) :
    Calls Tryz.prog 13 #[.pointer (some ⟨p, 0, none⟩), .int .i64 id] w fun e w' => ∃ A1 n1 A2 n2 A3 n3 A4 n4 A5 n5, e = .returned (stVal (tellM M id fun t => t.cu) ⟨.slice A1 (tellM M id fun t => t.cu).damage.length n1, .slice A2 (tellM M id fun t => t.cu).frames.length n2, .slice A3 (tellM M id fun t => t.cu).region.length n3, .slice A4 (tellM M id fun t => t.cu).order.length n4, .slice A5 (tellM M id fun t => t.cu).places.length n5⟩) ∧
      StOwn w' w.heap.size ⟨.slice A1 (tellM M id fun t => t.cu).damage.length n1, .slice A2 (tellM M id fun t => t.cu).frames.length n2, .slice A3 (tellM M id fun t => t.cu).region.length n3, .slice A4 (tellM M id fun t => t.cu).order.length n4, .slice A5 (tellM M id fun t => t.cu).places.length n5⟩ (tellM M id fun t => t.cu) ∧ Below w.heap.size w w' := by
  obtain ⟨F, h1, _⟩ := h
  obtain ⟨mb, Z, hz⟩ := h1.at_
  refine (fCurrent_any w hz id hid (fun t ht => ((h1.fit id t ht).fits hB).2.2.2.2)).mono ?_
  rintro e w' ⟨v, he, ho, hb⟩
  obtain ⟨A1, n1, A2, n2, A3, n3, A4, n4, A5, n5, rfl⟩ := ho.forms
  exact ⟨A1, n1, A2, n2, A3, n3, A4, n4, A5, n5, he, ho, hb⟩
end
theorem JS.start {W w : World} {p B : Nat} (h : FL W p 0 0 1 (fun _ => none) w) (hB : 1 ≤ B) : JS W p w.heap.size 0 0 B 0 (fun _ => none) (fun _ => none) (w.alloc (.cells #[.slice none 0 0] 28)) := by
  obtain ⟨F, h1⟩ := h.fx
  have hb : Below w.heap.size w (w.alloc (.cells #[.slice none 0 0] 28)) := (Below.refl _ w).alloc (Nat.le_refl _) _
  refine ⟨F, fun _ => False, .slice none 0 0, [], (h1.mono (Nat.le_refl _) hB).keep hb, ⟨heap_alloc_new _ _, World.ownsRow_nil _ _ _ _, by simp, by simp, h1.below.size, fun h => h, fun b hb => (by cases hb), fun b hb => hb.elim⟩, rfl, rfl, fun b hF hb => ?_⟩
  rcases hb with hb | hb | hb
  · exact hb
  · have := h1.lt b hF; omega
  · cases hb
end Go.Proofs.YthkjicnnepkghaaGreatDoor
