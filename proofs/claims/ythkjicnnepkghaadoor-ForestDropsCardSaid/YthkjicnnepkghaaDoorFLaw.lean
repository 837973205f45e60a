/-
  The forest laid since a world: contracts of its calls; what stays beside it.
-/
import Derived.Test.YthkjicnnepkghaaDoorFCalc
import Derived.Test.YthkjicnnepkghaaDoorForest6
import Derived.Test.YthkjicnnepkghaaDoorForest7
import Derived.Test.YthkjicnnepkghaaDoorForest9
import Derived.Test.YthkjicnnepkghaaDoorLaw00
import Derived.Test.YthkjicnnepkghaaDoorErrs2
import Derived.Test.YthkjicnnepkghaaDoorForest10
import Derived.Test.YthkjicnnepkghaaDoorForest11
namespace Go.Proofs.YthkjicnnepkghaaDoor
open Go.RowKit
set_option linter.unusedVariables false

structure FL (W : World) (p N c B : Nat) (M : Fo) (w : World) : Prop where
  ex : ∃ F, ForAt w p F N M ∧ ∀ b, F b → W.heap.size ≤ b
  below : Below W.heap.size W w
  good : GoodM M
  cnt : CntM M c
  fit : FitM B M
section
variable {W w w' : World} {p N c B : Nat} {M M' : Fo} {ae : Nat → Addr}
theorem FL.mono {N' B' : Nat} (h : FL W p N c B M w) (hN : N ≤ N') (hB : B ≤ B') : FL W p N' c B' M w := by
  obtain ⟨⟨F, h1, h2⟩, h3, h4, h5, h6⟩ := h
  exact ⟨⟨F, h1.mono hN, h2⟩, h3, h4, h5, h6.mono hB⟩
theorem FL.keep (h : FL W p N c B M w) (hb : Below w.heap.size w w') : FL W p N c B M w' := by
  obtain ⟨⟨F, h1, h2⟩, h3, h4, h5, h6⟩ := h
  exact ⟨⟨F, h1.below hb, h2⟩, h3.trans (hb.mono h3.size), h4, h5, h6⟩
theorem FL.drewN (h : FL W p N c B M w) (q : Nat) : FL W p N c B M (w.drewN q) := h.keep (below_drewN (Below.refl _ _) q)
theorem FL.congr (h : FL W p N c B M w) (e : M' = M) : FL W p N c B M' w := by subst e; exact h
theorem FL.out {B' c' : Nat} {F : Nat → Prop} (h : FL W p N c B M w) (hF : ∀ b, F b → W.heap.size ≤ b) (ho : FOut w p N F M' w') (hg : GoodM M') (hc : CntM M' c') (hf : FitM B' M') : FL W p (N + 1) c' B' M' w' := by
  obtain ⟨F', h1, h2, h3⟩ := ho
  have hz := h.below.size
  have hz2 := h2.size
  refine ⟨⟨F', h1, fun b hb => ?_⟩, h.below.trans (h2.below hz hF), hg, hc, hf⟩
  rcases h3 b hb with h4 | h4
  · exact hF b h4
  · omega

theorem mNew (W : World) : Calls Tryd.prog 8 #[] W fun e w' => ∃ p, e = .returned (.pointer (some ⟨p, 0, none⟩)) ∧ FL W p 0 0 1 (fun _ => none) w' :=
  (fNew_any W).mono fun e w' ⟨p, F, he, h1, h2, h3⟩ => ⟨p, he, ⟨F, h1, h3⟩, h2, GoodM.empty, ⟨[], by simp, rfl, by simp⟩, FitM.empty _⟩
theorem mAdd (hE : ErrF W.heap.size W ae) (h : FL W p N c B M w) (id : Int) (hid : I64 id) (hN : N ≤ 1000000) (hc : c ≤ 1000000) :
    Calls Tryd.prog 9 #[.pointer (some ⟨p, 0, none⟩), .int .i64 id] w fun e w' => e = .returned (errV ae (faddK M c id)) ∧ FL W p (N + 1) (if faddK M c id = 0 then c + 1 else c) (B + 1) (faddS M c id) w' := by
  obtain ⟨F, ⟨mb, Z, hz⟩, hF⟩ := h.ex
  refine (fAdd_any w (hE.below h.below) hz h.good id hid h.cnt hN hc).mono ?_
  rintro e w' ⟨he, ho⟩
  refine ⟨he, h.out hF ho (h.good.add c hid) ?_ (h.fit.add c)⟩
  split
  · rename_i h0; exact h.cnt.add h0
  · rename_i h0; unfold faddS; rw [if_neg h0]; exact h.cnt
theorem mAdd0 (hE : ErrF W.heap.size W ae) (h : FL W p N c B M w) (id : Int) (hid : I64 id) (hN : N ≤ 1000000) (hc : c ≤ 1000000) (h0 : faddK M c id = 0) :
    Calls Tryd.prog 9 #[.pointer (some ⟨p, 0, none⟩), .int .i64 id] w fun e w' => e = .returned .nilIface ∧ FL W p (N + 1) (c + 1) (B + 1) (setM M id (some newSf)) w' := by
  have := mAdd hE h id hid hN hc
  rw [h0, if_pos rfl] at this
  have e : faddS M c id = setM M id (some newSf) := by unfold faddS; rw [if_pos h0]
  rw [e] at this
  exact this
theorem mSub (hE : ErrF W.heap.size W ae) (h : FL W p N c B M w) (id parent : Int) (hid : I64 id) (hp : I64 parent) (hB : B ≤ 10000) :
    Calls Tryd.prog 10 #[.pointer (some ⟨p, 0, none⟩), .int .i64 id, .int .i64 parent] w fun e w' => e = .returned (errV ae (fsubK M id parent)) ∧ FL W p (N + 1) c (B + 2) (fsubS M id parent) w' := by
  obtain ⟨F, ⟨mb, Z, hz⟩, hF⟩ := h.ex
  refine (fSub_any w (hE.below h.below) hz h.good id parent hid hp (fun i t hi => ⟨by have := latest_len (h.fit i t hi); omega, by have := (h.fit i t hi).p; omega⟩)).mono ?_
  rintro e w' ⟨he, ho⟩
  exact ⟨he, h.out hF ho.out (h.good.subS parent) (h.cnt.same (sub_isS parent)) (h.fit.sub parent)⟩
theorem mAttach (hE : ErrF W.heap.size W ae) (h : FL W p N c B M w) (id b : Int) (hid : I64 id) :
    Calls Tryd.prog 14 #[.pointer (some ⟨p, 0, none⟩), .int .i64 id, .int .i64 b] w fun e w' => e = .returned (errV ae (thereK M id)) ∧ FL W p (N + 1) c B (turnS M id (attachT b)) w' := by
  obtain ⟨F, ⟨mb, Z, hz⟩, hF⟩ := h.ex
  refine (fAttach_any w (hE.below h.below) hz id b hid).mono ?_
  rintro e w' ⟨he, ho⟩
  exact ⟨he, h.out hF ho (h.good.attach b) (h.cnt.same (turn_isS _)) (h.fit.turnA b)⟩
theorem FitM.frame (h : FitM B M) (id x : Int) : FitM (B + 1) (turnS M id (frameT x)) := by
  unfold turnS
  split
  · exact h.mono (by omega)
  · rename_i s hs
    obtain ⟨h1, h2, h3, ⟨h4, h5, h6⟩, h7, h8, h9⟩ := h id s hs
    have hf : (frameT x s.pe).frames.length = s.pe.frames.length + 1 := by simp [frameT]
    exact (h.mono (by omega)).set (v := { s with pe := frameT x s.pe }) ⟨Nat.le_succ_of_le h1, (show (frameT x s.pe).frames.length + s.ca.frames.length + s.cu.frames.length ≤ B + 1 by omega), Nat.le_succ_of_le h3, ⟨Nat.le_succ_of_le h4, Nat.le_succ_of_le h5, Nat.le_succ_of_le h6⟩, Nat.le_succ_of_le h7, Nat.le_succ_of_le h8, Nat.le_succ_of_le h9⟩
theorem GoodM.frame (h : GoodM M) (id x : Int) : GoodM (turnS M id (frameT x)) := by
  unfold turnS
  split
  · exact h
  · rename_i s hs
    have ht := h.tidy _ _ hs
    have hk := h.kids _ _ hs
    exact h.turn hs rfl hk ht
theorem mFrame (hE : ErrF W.heap.size W ae) (h : FL W p N c B M w) (id x : Int) (hid : I64 id) (hB : B ≤ 10000) :
    Calls Tryd.prog 44 #[.pointer (some ⟨p, 0, none⟩), .int .i64 id, .int .i64 x] w fun e w' => e = .returned (errV ae (thereK M id)) ∧ FL W p (N + 1) c (B + 1) (turnS M id (frameT x)) w' := by
  obtain ⟨F, ⟨mb, Z, hz⟩, hF⟩ := h.ex
  refine (fFrame_any w (hE.below h.below) hz id x hid (fun t ht => by have := (h.fit id t ht).f; omega)).mono ?_
  rintro e w' ⟨he, ho⟩
  exact ⟨he, h.out hF ho (h.good.frame id x) (h.cnt.same (turn_isS _)) (h.fit.frame id x)⟩
theorem mPosition (hE : ErrF W.heap.size W ae) (h : FL W p N c B M w) (id x y : Int) (hid : I64 id) (hB : B ≤ 10000) :
    Calls Tryd.prog 19 #[.pointer (some ⟨p, 0, none⟩), .int .i64 id, .int .i64 x, .int .i64 y] w fun e w' => e = .returned (errV ae (childK M id)) ∧ FL W p (N + 1) c (B + 1) (fposS M id x y) w' := by
  obtain ⟨F, ⟨mb, Z, hz⟩, hF⟩ := h.ex
  refine (fPosition_any w (hE.below h.below) hz h.good id x y hid (fun i t hi => by have := (h.fit i t hi).p; omega)).mono ?_
  rintro e w' ⟨he, ho⟩
  exact ⟨he, h.out hF ho (h.good.posS x y) (h.cnt.same (pos_isS _ _)) (h.fit.pos x y)⟩
theorem mSync (hE : ErrF W.heap.size W ae) (h : FL W p N c B M w) (id : Int) (on : Bool) (hid : I64 id) :
    Calls Tryd.prog 13 #[.pointer (some ⟨p, 0, none⟩), .int .i64 id, .bool on] w fun e w' => e = .returned (errV ae (childK M id)) ∧ FL W p (N + 1) c B (fsyncS M id on) w' := by
  obtain ⟨F, ⟨mb, Z, hz⟩, hF⟩ := h.ex
  refine (fSync_any w (hE.below h.below) hz h.good id on hid).mono ?_
  rintro e w' ⟨he, ho⟩
  exact ⟨he, h.out hF ho (h.good.sync on) (h.cnt.same (sync_isS _)) (h.fit.sync on)⟩
theorem mSynced (h : FL W p N c B M w) (id : Int) (hid : I64 id) :
    Calls Tryd.prog 23 #[.pointer (some ⟨p, 0, none⟩), .int .i64 id] w fun e w' => e = .returned (.bool (synB M id)) ∧ FL W p N c B M w' := by
  obtain ⟨F, ⟨mb, Z, hz⟩, hF⟩ := h.ex
  refine (fSynced_any w hz h.good id hid).mono ?_
  rintro e w' ⟨he, q, rfl⟩
  exact ⟨he, h.drewN q⟩
theorem mParent (h : FL W p N c B M w) (id : Int) (hid : I64 id) :
    Calls Tryd.prog 20 #[.pointer (some ⟨p, 0, none⟩), .int .i64 id] w fun e w' => e = .returned (.int .i64 (parM M id)) ∧ FL W p N c B M w' := by
  obtain ⟨F, ⟨mb, Z, hz⟩, hF⟩ := h.ex
  refine (fParent_any w hz id hid).mono ?_
  rintro e w' ⟨he, rfl⟩
  exact ⟨he, h⟩
theorem mHas (h : FL W p N c B M w) (id : Int) (hid : I64 id) :
    Calls Tryd.prog 25 #[.pointer (some ⟨p, 0, none⟩), .int .i64 id] w fun e w' => e = .returned (.bool (M id).isSome) ∧ FL W p N c B M w' := by
  obtain ⟨F, ⟨mb, Z, hz⟩, hF⟩ := h.ex
  refine (fHas_any w hz id hid).mono ?_
  rintro e w' ⟨he, rfl⟩
  exact ⟨he, h⟩
theorem mKind (hE : Errs W.heap.size W ae) (h : FL W p N c B M w) (k : Nat) (hk : k ≤ 16) :
    Calls Tryd.prog 18 #[errV ae k] w fun e w' => e = .returned (.int .i64 k) ∧ FL W p N c B M w' :=
  (kind_any W.heap.size w ae k (hE.below h.below) hk).mono fun _ _ ⟨he, ho⟩ => ⟨he, h.keep ho⟩
/-- Commit. -/
theorem mCommit (hE : ErrF W.heap.size W ae) (h : FL W p N c B M w) (id : Int) (hid : I64 id) (hB : B ≤ 50000) (hc : c ≤ 100000) (k : Nat) {rk : Int → Nat} {Bk : Nat}
    (hrk : ∀ j s, M j = some s → rk j ≤ Bk ∧ (s.parent ≠ 0 → rk s.parent < rk j)) (hk : ∀ s, M id = some s → Bk < k + rk id) :
    Calls Tryd.prog 11 #[.pointer (some ⟨p, 0, none⟩), .int .i64 id] w fun e w' => ∃ A cc, e = .returned (.tuple #[.slice A (fcomS (synB M) k M id).2.length cc, errV ae (thereK M id)]) ∧
      Rd w' (.slice A (fcomS (synB M) k M id).2.length cc) 1 (fcomS (synB M) k M id).2.length ((fcomS (synB M) k M id).2.map (Value.int .i64)) ∧ FL W p N c B (fcomS (synB M) k M id).1 w' := by
  obtain ⟨F, ⟨mb, Z, hz⟩, hF⟩ := h.ex
  obtain ⟨k1, k2, k3⟩ := commit_keeps h.good h.fit hB h.cnt hrk hk
  have key : Calls Tryd.prog 11 #[.pointer (some ⟨p, 0, none⟩), .int .i64 id] w (CommitP w p mb N F (fcomS (synB M) k M id) (errV ae (thereK M id))) := by
    cases hs : M id with
    | none => exact fCommit_none w (hE.below h.below) hz id hid hs k
    | some s => exact fCommit_some w hz h.good id hid hs k (h.fit.mono hB) h.cnt hc hrk (hk s hs)
  refine key.mono ?_
  rintro e w' ⟨v, F', Z', he, hr, hb, hz', hg, hx⟩
  obtain ⟨A, cc, rfl, _⟩ := hr.form
  have hsz := h.below.size
  have hsz2 := hg.size
  refine ⟨A, cc, he, hr, ⟨F', ⟨mb, Z', hz'⟩, fun b hb => ?_⟩, h.below.trans (hg.below hsz hF), k1, k3, k2⟩
  rcases hx b hb with h4 | h4
  · exact hF b h4
  · omega
/-- Where the parents have lesser numbers. -/
theorem mCommitR (hE : ErrF W.heap.size W ae) (h : FL W p N c B M w) (id : Int) (hid : I64 id) (hB : B ≤ 50000) (hc : c ≤ 100000) {K : Nat} (hR : RkOk M K) (hK : K < 60) :
    Calls Tryd.prog 11 #[.pointer (some ⟨p, 0, none⟩), .int .i64 id] w fun e w' => ∃ A cc, e = .returned (.tuple #[.slice A (comC M K id).2.length cc, errV ae (thereK M id)]) ∧
      Rd w' (.slice A (comC M K id).2.length cc) 1 (comC M K id).2.length ((comC M K id).2.map (Value.int .i64)) ∧ FL W p N c B (comC M K id).1 w' := by
  have := mCommit hE h id hid hB hc (K + 1) (rk := Int.toNat) (Bk := K) (fun j s hj => hR j s hj) (fun s hs => by omega)
  rw [syC_eq hR hK] at this
  exact this
theorem mCached (h : FL W p N c B M w) (id : Int) (hid : I64 id) (hB : B ≤ 50000) :
    Calls Tryd.prog 16 #[.pointer (some ⟨p, 0, none⟩), .int .i64 id] w fun e w' => ∃ A1 n1 A2 n2 A3 n3 A4 n4 A5 n5, e = .returned (stVal (tellM M id fun t => t.ca) ⟨.slice A1 (tellM M id fun t => t.ca).damage.length n1, .slice A2 (tellM M id fun t => t.ca).frames.length n2, .slice A3 (tellM M id fun t => t.ca).region.length n3, .slice A4 (tellM M id fun t => t.ca).order.length n4, .slice A5 (tellM M id fun t => t.ca).places.length n5⟩) ∧
      StRd w' ⟨.slice A1 (tellM M id fun t => t.ca).damage.length n1, .slice A2 (tellM M id fun t => t.ca).frames.length n2, .slice A3 (tellM M id fun t => t.ca).region.length n3, .slice A4 (tellM M id fun t => t.ca).order.length n4, .slice A5 (tellM M id fun t => t.ca).places.length n5⟩ (tellM M id fun t => t.ca) ∧ FL W p N c B M w' ∧ Below w.heap.size w w' := by
  obtain ⟨F, ⟨mb, Z, hz⟩, hF⟩ := h.ex
  refine (fCached_any w hz id hid (fun t ht => by have := (h.fit id t ht).fits hB; first | exact this.2.2.2.1 | exact this.2.2.2.2)).mono ?_
  rintro e w' ⟨v, he, ho, hb⟩
  obtain ⟨A1, n1, A2, n2, A3, n3, A4, n4, A5, n5, rfl⟩ := ho.forms
  exact ⟨A1, n1, A2, n2, A3, n3, A4, n4, A5, n5, he, ho.rd, h.keep hb, hb⟩
theorem mCurrent (h : FL W p N c B M w) (id : Int) (hid : I64 id) (hB : B ≤ 50000) :
    Calls Tryd.prog 15 #[.pointer (some ⟨p, 0, none⟩), .int .i64 id] w fun e w' => ∃ A1 n1 A2 n2 A3 n3 A4 n4 A5 n5, e = .returned (stVal (tellM M id fun t => t.cu) ⟨.slice A1 (tellM M id fun t => t.cu).damage.length n1, .slice A2 (tellM M id fun t => t.cu).frames.length n2, .slice A3 (tellM M id fun t => t.cu).region.length n3, .slice A4 (tellM M id fun t => t.cu).order.length n4, .slice A5 (tellM M id fun t => t.cu).places.length n5⟩) ∧
      StRd w' ⟨.slice A1 (tellM M id fun t => t.cu).damage.length n1, .slice A2 (tellM M id fun t => t.cu).frames.length n2, .slice A3 (tellM M id fun t => t.cu).region.length n3, .slice A4 (tellM M id fun t => t.cu).order.length n4, .slice A5 (tellM M id fun t => t.cu).places.length n5⟩ (tellM M id fun t => t.cu) ∧ FL W p N c B M w' ∧ Below w.heap.size w w' := by
  obtain ⟨F, ⟨mb, Z, hz⟩, hF⟩ := h.ex
  refine (fCurrent_any w hz id hid (fun t ht => by have := (h.fit id t ht).fits hB; first | exact this.2.2.2.1 | exact this.2.2.2.2)).mono ?_
  rintro e w' ⟨v, he, ho, hb⟩
  obtain ⟨A1, n1, A2, n2, A3, n3, A4, n4, A5, n5, rfl⟩ := ho.forms
  exact ⟨A1, n1, A2, n2, A3, n3, A4, n4, A5, n5, he, ho.rd, h.keep hb, hb⟩
end
section
variable {W w w' : World} {p N c B : Nat} {M M' : Fo} {ae : Nat → Addr}
theorem mWalkR (h : FL W p N c B M w) (id : Int) (hid : I64 id) (hB : B ≤ 50000) {K : Nat} (hR : RkOk M K) {L : List Ch} (hL : walkT M (K + 1) id = L) (hlen : L.length ≤ 100000) :
    Calls Tryd.prog 21 #[.pointer (some ⟨p, 0, none⟩), .int .i64 id] w fun e w' => ∃ A cc, e = .returned (.slice A L.length cc) ∧ Rd w' (.slice A L.length cc) 3 L.length (L.flatMap Ch.enc) ∧ FL W p N c B M w' ∧ Below w.heap.size w w' := by
  obtain ⟨F, ⟨mb, Z, hz⟩, hF⟩ := h.ex
  subst hL
  refine (fWalk_any (rk := Int.toNat) (Bk := K) (K + 1) w id hz h.good hid (fun j s hj => hR j s hj) (fun s hs => by omega) (h.fit.mono hB) hlen).mono ?_
  rintro e w' ⟨v, he, ho, hb⟩
  obtain ⟨A, cc, rfl, _⟩ := own_form ho
  exact ⟨A, cc, he, Rd.of_own ho, h.keep hb, hb⟩
theorem mHeld (h : FL W p N c B M w) (hN : N ≤ 100000) {q : List Int} (hq : HeldL M q) :
    Calls Tryd.prog 22 #[.pointer (some ⟨p, 0, none⟩)] w fun e w' => ∃ A cc, e = .returned (.slice A q.length cc) ∧ Rd w' (.slice A q.length cc) 1 q.length (q.map (Value.int .i64)) ∧ FL W p N c B M w' ∧ Below w.heap.size w w' := by
  obtain ⟨F, ⟨mb, Z, hz⟩, hF⟩ := h.ex
  refine (fHeld_any w hz hN).mono ?_
  rintro e w' ⟨A, cc, q', he, hq', _, hr, hb⟩
  have e := heldL_one hq' hq
  subst e
  exact ⟨A, cc, he, hr, h.keep hb, hb⟩
theorem mSyncedB (h : FL W p N c B M w) (id : Int) (hid : I64 id) :
    Calls Tryd.prog 23 #[.pointer (some ⟨p, 0, none⟩), .int .i64 id] w fun e w' => e = .returned (.bool (synB M id)) ∧ FL W p N c B M w' ∧ Below w.heap.size w w' := by
  obtain ⟨F, ⟨mb, Z, hz⟩, hF⟩ := h.ex
  refine (fSynced_any w hz h.good id hid).mono ?_
  rintro e w' ⟨he, q, rfl⟩
  exact ⟨he, h.drewN q, below_drewN (Below.refl _ _) q⟩
end

structure FX (W : World) (p N c B : Nat) (M : Fo) (F : Nat → Prop) (w : World) : Prop where
  at_ : ForAt w p F N M
  ge : ∀ b, F b → W.heap.size ≤ b
  below : Below W.heap.size W w
  good : GoodM M
  cnt : CntM M c
  fit : FitM B M
def XOut (W : World) (p N c B : Nat) (M : Fo) (F : Nat → Prop) (w w' : World) : Prop := ∃ F', FX W p N c B M F' w' ∧ Chg F w w' ∧ Ext F F' w.heap.size
section
variable {W w w' : World} {p N c B : Nat} {M M' : Fo} {F : Nat → Prop} {ae : Nat → Addr}
theorem FL.fx (h : FL W p N c B M w) : ∃ F, FX W p N c B M F w := by
  obtain ⟨⟨F, h1, h2⟩, h3, h4, h5, h6⟩ := h
  exact ⟨F, h1, h2, h3, h4, h5, h6⟩
theorem FX.fl (h : FX W p N c B M F w) : FL W p N c B M w := ⟨⟨F, h.at_, h.ge⟩, h.below, h.good, h.cnt, h.fit⟩
theorem FX.mono {N' B' : Nat} (h : FX W p N c B M F w) (hN : N ≤ N') (hB : B ≤ B') : FX W p N' c B' M F w := ⟨h.at_.mono hN, h.ge, h.below, h.good, h.cnt, h.fit.mono hB⟩
theorem FX.lt (h : FX W p N c B M F w) : ∀ b, F b → b < w.heap.size := h.at_.lt
theorem FX.chg {G : Nat → Prop} (h : FX W p N c B M F w) (hc : Chg G w w') (hd : ∀ b, F b → ¬ G b) (hG : ∀ b, G b → W.heap.size ≤ b) : FX W p N c B M F w' :=
  ⟨h.at_.chg hc hd, h.ge, h.below.trans (hc.below h.below.size hG), h.good, h.cnt, h.fit⟩
theorem FX.keep (h : FX W p N c B M F w) (hb : Below w.heap.size w w') : FX W p N c B M F w' := ⟨h.at_.below hb, h.ge, h.below.trans (hb.mono h.below.size), h.good, h.cnt, h.fit⟩
theorem FX.out {B' c' : Nat} (h : FX W p N c B M F w) (ho : FOut w p N F M' w') (hg : GoodM M') (hc : CntM M' c') (hf : FitM B' M') : XOut W p (N + 1) c' B' M' F w w' := by
  obtain ⟨F', h1, h2, h3⟩ := ho
  have hz := h.below.size
  have hz2 := h2.size
  refine ⟨F', ⟨h1, fun b hb => ?_, h.below.trans (h2.below hz h.ge), hg, hc, hf⟩, h2, h3⟩
  rcases h3 b hb with h4 | h4
  · exact h.ge b h4
  · omega
theorem xAdd0 (hE : ErrF W.heap.size W ae) (h : FX W p N c B M F w) (id : Int) (hid : I64 id) (hN : N ≤ 1000000) (hc : c ≤ 1000000) (h0 : faddK M c id = 0) :
    Calls Tryd.prog 9 #[.pointer (some ⟨p, 0, none⟩), .int .i64 id] w fun e w' => e = .returned .nilIface ∧ XOut W p (N + 1) (c + 1) (B + 1) (setM M id (some newSf)) F w w' := by
  obtain ⟨mb, Z, hz⟩ := h.at_
  refine (fAdd_any w (hE.below h.below) hz h.good id hid h.cnt hN hc).mono ?_
  rintro e w' ⟨he, ho⟩
  rw [h0] at he
  have e1 : faddS M c id = setM M id (some newSf) := by unfold faddS; rw [if_pos h0]
  have k1 := h.good.add c hid
  have k2 := h.cnt.add h0
  have k3 := h.fit.add (id := id) c
  rw [e1] at ho k1 k2 k3
  exact ⟨he, h.out ho k1 k2 k3⟩
theorem xSub (hE : ErrF W.heap.size W ae) (h : FX W p N c B M F w) (id parent : Int) (hid : I64 id) (hp : I64 parent) (hB : B ≤ 10000) :
    Calls Tryd.prog 10 #[.pointer (some ⟨p, 0, none⟩), .int .i64 id, .int .i64 parent] w fun e w' => e = .returned (errV ae (fsubK M id parent)) ∧ XOut W p (N + 1) c (B + 2) (fsubS M id parent) F w w' := by
  obtain ⟨mb, Z, hz⟩ := h.at_
  refine (fSub_any w (hE.below h.below) hz h.good id parent hid hp (fun i t hi => ⟨by have := latest_len (h.fit i t hi); omega, by have := (h.fit i t hi).p; omega⟩)).mono ?_
  rintro e w' ⟨he, ho⟩
  exact ⟨he, h.out ho.out (h.good.subS parent) (h.cnt.same (sub_isS parent)) (h.fit.sub parent)⟩
theorem xAttach (hE : ErrF W.heap.size W ae) (h : FX W p N c B M F w) (id b : Int) (hid : I64 id) :
    Calls Tryd.prog 14 #[.pointer (some ⟨p, 0, none⟩), .int .i64 id, .int .i64 b] w fun e w' => e = .returned (errV ae (thereK M id)) ∧ XOut W p (N + 1) c B (turnS M id (attachT b)) F w w' := by
  obtain ⟨mb, Z, hz⟩ := h.at_
  refine (fAttach_any w (hE.below h.below) hz id b hid).mono ?_
  rintro e w' ⟨he, ho⟩
  exact ⟨he, h.out ho (h.good.attach b) (h.cnt.same (turn_isS _)) (h.fit.turnA b)⟩
theorem xPosition (hE : ErrF W.heap.size W ae) (h : FX W p N c B M F w) (id x y : Int) (hid : I64 id) (hB : B ≤ 10000) :
    Calls Tryd.prog 19 #[.pointer (some ⟨p, 0, none⟩), .int .i64 id, .int .i64 x, .int .i64 y] w fun e w' => e = .returned (errV ae (childK M id)) ∧ XOut W p (N + 1) c (B + 1) (fposS M id x y) F w w' := by
  obtain ⟨mb, Z, hz⟩ := h.at_
  refine (fPosition_any w (hE.below h.below) hz h.good id x y hid (fun i t hi => by have := (h.fit i t hi).p; omega)).mono ?_
  rintro e w' ⟨he, ho⟩
  exact ⟨he, h.out ho (h.good.posS x y) (h.cnt.same (pos_isS _ _)) (h.fit.pos x y)⟩
theorem xBelow (hE : ErrF W.heap.size W ae) (h : FX W p N c B M F w) (id by' : Int) (hid : I64 id) (hby : I64 by') (hB : B ≤ 10000) :
    Calls Tryd.prog 27 #[.pointer (some ⟨p, 0, none⟩), .int .i64 id, .int .i64 by'] w fun e w' => e = .returned (errV ae (besK M id by')) ∧ XOut W p (N + 1) c (B + 1) (besS M id by' 0) F w w' := by
  obtain ⟨mb, Z, hz⟩ := h.at_
  refine (fBelow_any w (hE.below h.below) h.below.size hz h.good id by' hid hby (fun i t hi => by have := latest_len (h.fit i t hi); omega)).mono ?_
  rintro e w' ⟨he, ho⟩
  exact ⟨he, h.out ho.out (h.good.bes by' 0) (h.cnt.same (bes_isS _ _)) (h.fit.bes by' 0)⟩
theorem xCommitR (hE : ErrF W.heap.size W ae) (h : FX W p N c B M F w) (id : Int) (hid : I64 id) (hB : B ≤ 50000) (hc : c ≤ 100000) {K : Nat} (hR : RkOk M K) (hK : K < 60) :
    Calls Tryd.prog 11 #[.pointer (some ⟨p, 0, none⟩), .int .i64 id] w fun e w' => ∃ A cc, e = .returned (.tuple #[.slice A (comC M K id).2.length cc, errV ae (thereK M id)]) ∧
      Rd w' (.slice A (comC M K id).2.length cc) 1 (comC M K id).2.length ((comC M K id).2.map (Value.int .i64)) ∧ XOut W p N c B (comC M K id).1 F w w' := by
  obtain ⟨mb, Z, hz⟩ := h.at_
  have hrk : ∀ j s, M j = some s → j.toNat ≤ K ∧ (s.parent ≠ 0 → s.parent.toNat < j.toNat) := fun j s hj => hR j s hj
  have hk : ∀ s, M id = some s → K < K + 1 + id.toNat := fun s hs => by omega
  obtain ⟨k1, k2, k3⟩ := commit_keeps (k := K + 1) h.good h.fit hB h.cnt hrk hk
  have key : Calls Tryd.prog 11 #[.pointer (some ⟨p, 0, none⟩), .int .i64 id] w (CommitP w p mb N F (fcomS (synB M) (K + 1) M id) (errV ae (thereK M id))) := by
    cases hs : M id with
    | none => exact fCommit_none w (hE.below h.below) hz id hid hs (K + 1)
    | some s => exact fCommit_some (rk := Int.toNat) (Bk := K) w hz h.good id hid hs (K + 1) (h.fit.mono hB) h.cnt hc hrk (hk s hs)
  rw [syC_eq hR hK] at key k1 k2 k3
  refine key.mono ?_
  rintro e w' ⟨v, F', Z', he, hr, hb, hz', hg, hx⟩
  obtain ⟨A, cc, rfl, _⟩ := hr.form
  have hsz := h.below.size
  have hsz2 := hg.size
  refine ⟨A, cc, he, hr, F', ⟨⟨mb, Z', hz'⟩, fun b hb => ?_, h.below.trans (hg.below hsz h.ge), k1, k3, k2⟩, hg, hx⟩
  rcases hx b hb with h4 | h4
  · exact h.ge b h4
  · omega
end
theorem Tryd.stBuffer (y0 y2 y3 y4 y5 y6 y7 y8 y9 : Value) (b : Int) (w : World) : (Instr.field 37 (.agg #[y0, .int .i64 b, y2, y3, y4, y5, y6, y7, y8, y9]) 1).run Tryd.prog w = .ok (.int .i64 b) w := by kernel_rfl
theorem mNow {W w : World} {p N c B : Nat} {M : Fo} (h : FL W p N c B M w) (id : Int) (hid : I64 id) (hB : B ≤ 50000) :
    Calls Tryd.prog 15 #[.pointer (some ⟨p, 0, none⟩), .int .i64 id] w fun e w' => ∃ y0 y2 y3 y4 y5 y6 y7 y8 y9, e = .returned (.agg #[y0, .int .i64 (tellM M id fun t => t.cu).buffer, y2, y3, y4, y5, y6, y7, y8, y9]) ∧ FL W p N c B M w' := by
  refine (mCurrent h id hid hB).mono ?_
  rintro e w' ⟨A1, n1, A2, n2, A3, n3, A4, n4, A5, n5, he, _, h', _⟩
  exact ⟨_, _, _, _, _, _, _, _, _, he, h'⟩
theorem mCa {W w : World} {p N c B : Nat} {M : Fo} (h : FL W p N c B M w) (id : Int) (hid : I64 id) (hB : B ≤ 50000) :
    Calls Tryd.prog 16 #[.pointer (some ⟨p, 0, none⟩), .int .i64 id] w fun e w' => ∃ y0 y2 y3 y4 y5 y6 y7 y8 y9, e = .returned (.agg #[y0, .int .i64 (tellM M id fun t => t.ca).buffer, y2, y3, y4, y5, y6, y7, y8, y9]) ∧ FL W p N c B M w' := by
  refine (mCached h id hid hB).mono ?_
  rintro e w' ⟨A1, n1, A2, n2, A3, n3, A4, n4, A5, n5, he, _, h', _⟩
  exact ⟨_, _, _, _, _, _, _, _, _, he, h'⟩
/-- Cells that were there at W stay. -/
structure OldCells (W : World) : Prop where
  keep : ∀ {w' : World}, Below W.heap.size W w' → ∀ a v, W.cell? a = some v → w'.cell? a = some v

end Go.Proofs.YthkjicnnepkghaaDoor
