/-
  The forest laid since a world: contracts of its calls; what stays beside it.
  Package forest: All. The forest laid since a world: Unsub, Drop, All.
  Orders bear a surface once, as plain data; each call keeps it; so a walk meets each surface once at most.
  The laws of layer 17: what they share: awake.
-/
import Derived.Test.YthkjicnnepkghaaGreatDoorPkE
import Derived.Test.YthkjicnnepkghaaGreatDoorPkForest7
import Derived.Test.YthkjicnnepkghaaGreatDoorPkForest9
import Derived.Test.YthkjicnnepkghaaGreatDoorPkA
import Derived.Test.YthkjicnnepkghaaGreatDoorPkD
import Derived.Test.YthkjicnnepkghaaGreatDoorPkForest10
import Derived.Test.YthkjicnnepkghaaGreatDoorPkH
import Derived.Test.YthkjicnnepkghaaGreatDoorPkC
import Derived.Test.YthkjicnnepkghaaGreatDoorPkI
namespace Go.Proofs.YthkjicnnepkghaaGreatDoor
open Go.RowKit
set_option linter.unusedVariables false

structure FL (W : World) (p N c B : Nat) (M : Fo) (w : World) : Prop where
  ex : ∃ F, ForAt w p F N M ∧ ∀ b, F b → W.heap.size ≤ b
  below : Below W.heap.size W w
  good : GoodM M
  cnt : CntM M c
  fit : FitM B M
section
variable {W w w' : World} {p N c B : Nat} {M M' : Fo} {ae : Nat → Addr}
theorem FL.mono {N' B' : Nat} (h : FL W p N c B M w) (hN : N ≤ N') (hB : B ≤ B') : FL W p N' c B' M w := by
  obtain ⟨⟨F, h1, h2⟩, h3, h4, h5, h6⟩ := h
  exact ⟨⟨F, h1.mono hN, h2⟩, h3, h4, h5, h6.mono hB⟩
theorem FL.keep (h : FL W p N c B M w) (hb : Below w.heap.size w w') : FL W p N c B M w' := by
  obtain ⟨⟨F, h1, h2⟩, h3, h4, h5, h6⟩ := h
  exact ⟨⟨F, h1.below hb, h2⟩, h3.trans (hb.mono h3.size), h4, h5, h6⟩
theorem FL.drewN (h : FL W p N c B M w) (q : Nat) : FL W p N c B M (w.drewN q) := h.keep (below_drewN (Below.refl _ _) q)
theorem FL.congr (h : FL W p N c B M w) (e : M' = M) : FL W p N c B M' w := by subst e; exact h
theorem FL.out {B' c' : Nat} {F : Nat → Prop} (h : FL W p N c B M w) (hF : ∀ b, F b → W.heap.size ≤ b) (ho : FOut w p N F M' w') (hg : GoodM M') (hc : CntM M' c') (hf : FitM B' M') : FL W p (N + 1) c' B' M' w' := by
  obtain ⟨F', h1, h2, h3⟩ := ho
  have hz := h.below.size
  have hz2 := h2.size
  refine ⟨⟨F', h1, fun b hb => ?_⟩, h.below.trans (h2.below hz hF), hg, hc, hf⟩
  rcases h3 b hb with h4 | h4
  · exact hF b h4
  · omega

theorem mNew (W : World) : Calls Tryz.prog 8 #[] W fun e w' => ∃ p, e = .returned (.pointer (some ⟨p, 0, none⟩)) ∧ FL W p 0 0 1 (fun _ => none) w' :=
  (fNew_any W).mono fun e w' ⟨p, F, he, h1, h2, h3⟩ => ⟨p, he, ⟨F, h1, h3⟩, h2, GoodM.empty, ⟨[], by simp, rfl, by simp⟩, FitM.empty _⟩
theorem mAdd (hE : ErrF W.heap.size W ae) (h : FL W p N c B M w) (id : Int) (hid : I64 id) (hN : N ≤ 1000000) (hc : c ≤ 1000000) :
    Calls Tryz.prog 38 #[.pointer (some ⟨p, 0, none⟩), .int .i64 id] w fun e w' => e = .returned (errV ae (faddK M c id)) ∧ FL W p (N + 1) (if faddK M c id = 0 then c + 1 else c) (B + 1) (faddS M c id) w' := by
  obtain ⟨F, ⟨mb, Z, hz⟩, hF⟩ := h.ex
  refine (fAdd_any w (hE.below h.below) hz h.good id hid h.cnt hN hc).mono ?_
  rintro e w' ⟨he, ho⟩
  refine ⟨he, h.out hF ho (h.good.add c hid) ?_ (h.fit.add c)⟩
  split
  · rename_i h0; exact h.cnt.add h0
  · rename_i h0; unfold faddS; rw [if_neg h0]; exact h.cnt
theorem mAdd0 (hE : ErrF W.heap.size W ae) (h : FL W p N c B M w) (id : Int) (hid : I64 id) (hN : N ≤ 1000000) (hc : c ≤ 1000000) (h0 : faddK M c id = 0) :
    Calls Tryz.prog 38 #[.pointer (some ⟨p, 0, none⟩), .int .i64 id] w fun e w' => e = .returned .nilIface ∧ FL W p (N + 1) (c + 1) (B + 1) (setM M id (some newSf)) w' := by
  have := mAdd hE h id hid hN hc
  rw [h0, if_pos rfl] at this
  have e : faddS M c id = setM M id (some newSf) := by unfold faddS; rw [if_pos h0]
  rw [e] at this
  exact this
theorem mSub (hE : ErrF W.heap.size W ae) (h : FL W p N c B M w) (id parent : Int) (hid : I64 id) (hp : I64 parent) (hB : B ≤ 10000) :
    Calls Tryz.prog 42 #[.pointer (some ⟨p, 0, none⟩), .int .i64 id, .int .i64 parent] w fun e w' => e = .returned (errV ae (fsubK M id parent)) ∧ FL W p (N + 1) c (B + 2) (fsubS M id parent) w' := by
  obtain ⟨F, ⟨mb, Z, hz⟩, hF⟩ := h.ex
  refine (fSub_any w (hE.below h.below) hz h.good id parent hid hp (fun i t hi => ⟨by have := latest_len (h.fit i t hi); omega, by have := (h.fit i t hi).p; omega⟩)).mono ?_
  rintro e w' ⟨he, ho⟩
  exact ⟨he, h.out hF ho.out (h.good.subS parent) (h.cnt.same (sub_isS parent)) (h.fit.sub parent)⟩
theorem mAttach (hE : ErrF W.heap.size W ae) (h : FL W p N c B M w) (id b : Int) (hid : I64 id) :
    Calls Tryz.prog 15 #[.pointer (some ⟨p, 0, none⟩), .int .i64 id, .int .i64 b] w fun e w' => e = .returned (errV ae (thereK M id)) ∧ FL W p (N + 1) c B (turnS M id (attachT b)) w' := by
  obtain ⟨F, ⟨mb, Z, hz⟩, hF⟩ := h.ex
  refine (fAttach_any w (hE.below h.below) hz id b hid).mono ?_
  rintro e w' ⟨he, ho⟩
  exact ⟨he, h.out hF ho (h.good.attach b) (h.cnt.same (turn_isS _)) (h.fit.turnA b)⟩
theorem FitM.frame (h : FitM B M) (id x : Int) : FitM (B + 1) (turnS M id (frameT x)) := by
  unfold turnS
  split
  · exact h.mono (by omega)
  · rename_i s hs
    obtain ⟨h1, h2, h3, ⟨h4, h5, h6⟩, h7, h8, h9⟩ := h id s hs
    have hf : (frameT x s.pe).frames.length = s.pe.frames.length + 1 := by simp [frameT]
    exact (h.mono (by omega)).set (v := { s with pe := frameT x s.pe }) ⟨Nat.le_succ_of_le h1, (show (frameT x s.pe).frames.length + s.ca.frames.length + s.cu.frames.length ≤ B + 1 by omega), Nat.le_succ_of_le h3, ⟨Nat.le_succ_of_le h4, Nat.le_succ_of_le h5, Nat.le_succ_of_le h6⟩, Nat.le_succ_of_le h7, Nat.le_succ_of_le h8, Nat.le_succ_of_le h9⟩
theorem GoodM.frame (h : GoodM M) (id x : Int) : GoodM (turnS M id (frameT x)) := by
  unfold turnS
  split
  · exact h
  · rename_i s hs
    have ht := h.tidy _ _ hs
    have hk := h.kids _ _ hs
    exact h.turn hs rfl hk ht
theorem mFrame (hE : ErrF W.heap.size W ae) (h : FL W p N c B M w) (id x : Int) (hid : I64 id) (hB : B ≤ 10000) :
    Calls Tryz.prog 17 #[.pointer (some ⟨p, 0, none⟩), .int .i64 id, .int .i64 x] w fun e w' => e = .returned (errV ae (thereK M id)) ∧ FL W p (N + 1) c (B + 1) (turnS M id (frameT x)) w' := by
  obtain ⟨F, ⟨mb, Z, hz⟩, hF⟩ := h.ex
  refine (fFrame_any w (hE.below h.below) hz id x hid (fun t ht => by have := (h.fit id t ht).f; omega)).mono ?_
  rintro e w' ⟨he, ho⟩
  exact ⟨he, h.out hF ho (h.good.frame id x) (h.cnt.same (turn_isS _)) (h.fit.frame id x)⟩
theorem mPosition (hE : ErrF W.heap.size W ae) (h : FL W p N c B M w) (id x y : Int) (hid : I64 id) (hB : B ≤ 10000) :
    Calls Tryz.prog 18 #[.pointer (some ⟨p, 0, none⟩), .int .i64 id, .int .i64 x, .int .i64 y] w fun e w' => e = .returned (errV ae (childK M id)) ∧ FL W p (N + 1) c (B + 1) (fposS M id x y) w' := by
  obtain ⟨F, ⟨mb, Z, hz⟩, hF⟩ := h.ex
  refine (fPosition_any w (hE.below h.below) hz h.good id x y hid (fun i t hi => by have := (h.fit i t hi).p; omega)).mono ?_
  rintro e w' ⟨he, ho⟩
  exact ⟨he, h.out hF ho (h.good.posS x y) (h.cnt.same (pos_isS _ _)) (h.fit.pos x y)⟩
theorem mSync (hE : ErrF W.heap.size W ae) (h : FL W p N c B M w) (id : Int) (on : Bool) (hid : I64 id) :
    Calls Tryz.prog 106 #[.pointer (some ⟨p, 0, none⟩), .int .i64 id, .bool on] w fun e w' => e = .returned (errV ae (childK M id)) ∧ FL W p (N + 1) c B (fsyncS M id on) w' := by
  obtain ⟨F, ⟨mb, Z, hz⟩, hF⟩ := h.ex
  refine (fSync_any w (hE.below h.below) hz h.good id on hid).mono ?_
  rintro e w' ⟨he, ho⟩
  exact ⟨he, h.out hF ho (h.good.sync on) (h.cnt.same (sync_isS _)) (h.fit.sync on)⟩
theorem mSynced (h : FL W p N c B M w) (id : Int) (hid : I64 id) :
    Calls Tryz.prog 78 #[.pointer (some ⟨p, 0, none⟩), .int .i64 id] w fun e w' => e = .returned (.bool (synB M id)) ∧ FL W p N c B M w' := by
  obtain ⟨F, ⟨mb, Z, hz⟩, hF⟩ := h.ex
  refine (fSynced_any w hz h.good id hid).mono ?_
  rintro e w' ⟨he, q, rfl⟩
  exact ⟨he, h.drewN q⟩
theorem mParent (h : FL W p N c B M w) (id : Int) (hid : I64 id) :
    Calls Tryz.prog 77 #[.pointer (some ⟨p, 0, none⟩), .int .i64 id] w fun e w' => e = .returned (.int .i64 (parM M id)) ∧ FL W p N c B M w' := by
  obtain ⟨F, ⟨mb, Z, hz⟩, hF⟩ := h.ex
  refine (fParent_any w hz id hid).mono ?_
  rintro e w' ⟨he, rfl⟩
  exact ⟨he, h⟩
theorem mHas (h : FL W p N c B M w) (id : Int) (hid : I64 id) :
    Calls Tryz.prog 76 #[.pointer (some ⟨p, 0, none⟩), .int .i64 id] w fun e w' => e = .returned (.bool (M id).isSome) ∧ FL W p N c B M w' := by
  obtain ⟨F, ⟨mb, Z, hz⟩, hF⟩ := h.ex
  refine (fHas_any w hz id hid).mono ?_
  rintro e w' ⟨he, rfl⟩
  exact ⟨he, h⟩
theorem mKind (hE : Errs W.heap.size W ae) (h : FL W p N c B M w) (k : Nat) (hk : k ≤ 16) :
    Calls Tryz.prog 37 #[errV ae k] w fun e w' => e = .returned (.int .i64 k) ∧ FL W p N c B M w' :=
  (kind_any W.heap.size w ae k (hE.below h.below) hk).mono fun _ _ ⟨he, ho⟩ => ⟨he, h.keep ho⟩
theorem mCommit (hE : ErrF W.heap.size W ae) (h : FL W p N c B M w) (id : Int) (hid : I64 id) (hB : B ≤ 50000) (hc : c ≤ 100000) (k : Nat) {rk : Int → Nat} {Bk : Nat}
    (hrk : ∀ j s, M j = some s → rk j ≤ Bk ∧ (s.parent ≠ 0 → rk s.parent < rk j)) (hk : ∀ s, M id = some s → Bk < k + rk id) :
    Calls Tryz.prog 52 #[.pointer (some ⟨p, 0, none⟩), .int .i64 id] w fun e w' => ∃ A cc, e = .returned (.tuple #[.slice A (fcomS (synB M) k M id).2.length cc, errV ae (thereK M id)]) ∧
      Rd w' (.slice A (fcomS (synB M) k M id).2.length cc) 1 (fcomS (synB M) k M id).2.length ((fcomS (synB M) k M id).2.map (Value.int .i64)) ∧ FL W p N c B (fcomS (synB M) k M id).1 w' := by
  obtain ⟨F, ⟨mb, Z, hz⟩, hF⟩ := h.ex
  obtain ⟨k1, k2, k3⟩ := commit_keeps h.good h.fit hB h.cnt hrk hk
  have key : Calls Tryz.prog 52 #[.pointer (some ⟨p, 0, none⟩), .int .i64 id] w (CommitP w p mb N F (fcomS (synB M) k M id) (errV ae (thereK M id))) := by
    cases hs : M id with
    | none => exact fCommit_none w (hE.below h.below) hz id hid hs k
    | some s => exact fCommit_some w hz h.good id hid hs k (h.fit.mono hB) h.cnt hc hrk (hk s hs)
  refine key.mono ?_
  rintro e w' ⟨v, F', Z', he, hr, hb, hz', hg, hx⟩
  obtain ⟨A, cc, rfl, _⟩ := hr.form
  have hsz := h.below.size
  have hsz2 := hg.size
  refine ⟨A, cc, he, hr, ⟨F', ⟨mb, Z', hz'⟩, fun b hb => ?_⟩, h.below.trans (hg.below hsz hF), k1, k3, k2⟩
  rcases hx b hb with h4 | h4
  · exact hF b h4
  · omega
theorem mCommitR (hE : ErrF W.heap.size W ae) (h : FL W p N c B M w) (id : Int) (hid : I64 id) (hB : B ≤ 50000) (hc : c ≤ 100000) {K : Nat} (hR : RkOk M K) (hK : K < 60) :
    Calls Tryz.prog 52 #[.pointer (some ⟨p, 0, none⟩), .int .i64 id] w fun e w' => ∃ A cc, e = .returned (.tuple #[.slice A (comC M K id).2.length cc, errV ae (thereK M id)]) ∧
      Rd w' (.slice A (comC M K id).2.length cc) 1 (comC M K id).2.length ((comC M K id).2.map (Value.int .i64)) ∧ FL W p N c B (comC M K id).1 w' := by
  have := mCommit hE h id hid hB hc (K + 1) (rk := Int.toNat) (Bk := K) (fun j s hj => hR j s hj) (fun s hs => by omega)
  rw [syC_eq hR hK] at this
  exact this
theorem mCached (h : FL W p N c B M w) (id : Int) (hid : I64 id) (hB : B ≤ 50000) :
    Calls Tryz.prog 81 #[.pointer (some ⟨p, 0, none⟩), .int .i64 id] w fun e w' => ∃ A1 n1 A2 n2 A3 n3 A4 n4 A5 n5, e = .returned (stVal (tellM M id fun t => t.ca) ⟨.slice A1 (tellM M id fun t => t.ca).damage.length n1, .slice A2 (tellM M id fun t => t.ca).frames.length n2, .slice A3 (tellM M id fun t => t.ca).region.length n3, .slice A4 (tellM M id fun t => t.ca).order.length n4, .slice A5 (tellM M id fun t => t.ca).places.length n5⟩) ∧
      StRd w' ⟨.slice A1 (tellM M id fun t => t.ca).damage.length n1, .slice A2 (tellM M id fun t => t.ca).frames.length n2, .slice A3 (tellM M id fun t => t.ca).region.length n3, .slice A4 (tellM M id fun t => t.ca).order.length n4, .slice A5 (tellM M id fun t => t.ca).places.length n5⟩ (tellM M id fun t => t.ca) ∧ FL W p N c B M w' ∧ Below w.heap.size w w' := by
  obtain ⟨F, ⟨mb, Z, hz⟩, hF⟩ := h.ex
  refine (fCached_any w hz id hid (fun t ht => by have := (h.fit id t ht).fits hB; first | exact this.2.2.2.1 | exact this.2.2.2.2)).mono ?_
  rintro e w' ⟨v, he, ho, hb⟩
  obtain ⟨A1, n1, A2, n2, A3, n3, A4, n4, A5, n5, rfl⟩ := ho.forms
  exact ⟨A1, n1, A2, n2, A3, n3, A4, n4, A5, n5, he, ho.rd, h.keep hb, hb⟩
theorem mCurrent (h : FL W p N c B M w) (id : Int) (hid : I64 id) (hB : B ≤ 50000) :
    Calls Tryz.prog 13 #[.pointer (some ⟨p, 0, none⟩), .int .i64 id] w fun e w' => ∃ A1 n1 A2 n2 A3 n3 A4 n4 A5 n5, e = .returned (stVal (tellM M id fun t => t.cu) ⟨.slice A1 (tellM M id fun t => t.cu).damage.length n1, .slice A2 (tellM M id fun t => t.cu).frames.length n2, .slice A3 (tellM M id fun t => t.cu).region.length n3, .slice A4 (tellM M id fun t => t.cu).order.length n4, .slice A5 (tellM M id fun t => t.cu).places.length n5⟩) ∧
      StRd w' ⟨.slice A1 (tellM M id fun t => t.cu).damage.length n1, .slice A2 (tellM M id fun t => t.cu).frames.length n2, .slice A3 (tellM M id fun t => t.cu).region.length n3, .slice A4 (tellM M id fun t => t.cu).order.length n4, .slice A5 (tellM M id fun t => t.cu).places.length n5⟩ (tellM M id fun t => t.cu) ∧ FL W p N c B M w' ∧ Below w.heap.size w w' := by
  obtain ⟨F, ⟨mb, Z, hz⟩, hF⟩ := h.ex
  refine (fCurrent_any w hz id hid (fun t ht => by have := (h.fit id t ht).fits hB; first | exact this.2.2.2.1 | exact this.2.2.2.2)).mono ?_
  rintro e w' ⟨v, he, ho, hb⟩
  obtain ⟨A1, n1, A2, n2, A3, n3, A4, n4, A5, n5, rfl⟩ := ho.forms
  exact ⟨A1, n1, A2, n2, A3, n3, A4, n4, A5, n5, he, ho.rd, h.keep hb, hb⟩
end
section
variable {W w w' : World} {p N c B : Nat} {M M' : Fo} {ae : Nat → Addr}
theorem mWalkR (h : FL W p N c B M w) (id : Int) (hid : I64 id) (hB : B ≤ 50000) {K : Nat} (hR : RkOk M K) {L : List Ch} (hL : walkT M (K + 1) id = L) (hlen : L.length ≤ 100000) :
    Calls Tryz.prog 11 #[.pointer (some ⟨p, 0, none⟩), .int .i64 id] w fun e w' => ∃ A cc, e = .returned (.slice A L.length cc) ∧ Rd w' (.slice A L.length cc) 3 L.length (L.flatMap Ch.enc) ∧ FL W p N c B M w' ∧ Below w.heap.size w w' := by
  obtain ⟨F, ⟨mb, Z, hz⟩, hF⟩ := h.ex
  subst hL
  refine (fWalk_any (rk := Int.toNat) (Bk := K) (K + 1) w id hz h.good hid (fun j s hj => hR j s hj) (fun s hs => by omega) (h.fit.mono hB) hlen).mono ?_
  rintro e w' ⟨v, he, ho, hb⟩
  obtain ⟨A, cc, rfl, _⟩ := own_form ho
  exact ⟨A, cc, he, Rd.of_own ho, h.keep hb, hb⟩
theorem mHeld (h : FL W p N c B M w) (hN : N ≤ 100000) {q : List Int} (hq : HeldL M q) :
    Calls Tryz.prog 12 #[.pointer (some ⟨p, 0, none⟩)] w fun e w' => ∃ A cc, e = .returned (.slice A q.length cc) ∧ Rd w' (.slice A q.length cc) 1 q.length (q.map (Value.int .i64)) ∧ FL W p N c B M w' ∧ Below w.heap.size w w' := by
  obtain ⟨F, ⟨mb, Z, hz⟩, hF⟩ := h.ex
  refine (fHeld_any w hz hN).mono ?_
  rintro e w' ⟨A, cc, q', he, hq', _, hr, hb, _⟩
  have e := heldL_one hq' hq
  subst e
  exact ⟨A, cc, he, hr, h.keep hb, hb⟩
theorem mSyncedB (h : FL W p N c B M w) (id : Int) (hid : I64 id) :
    Calls Tryz.prog 78 #[.pointer (some ⟨p, 0, none⟩), .int .i64 id] w fun e w' => e = .returned (.bool (synB M id)) ∧ FL W p N c B M w' ∧ Below w.heap.size w w' := by
  obtain ⟨F, ⟨mb, Z, hz⟩, hF⟩ := h.ex
  refine (fSynced_any w hz h.good id hid).mono ?_
  rintro e w' ⟨he, q, rfl⟩
  exact ⟨he, h.drewN q, below_drewN (Below.refl _ _) q⟩
end

structure FX (W : World) (p N c B : Nat) (M : Fo) (F : Nat → Prop) (w : World) : Prop where
  at_ : ForAt w p F N M
  ge : ∀ b, F b → W.heap.size ≤ b
  below : Below W.heap.size W w
  good : GoodM M
  cnt : CntM M c
  fit : FitM B M
def XOut (W : World) (p N c B : Nat) (M : Fo) (F : Nat → Prop) (w w' : World) : Prop := ∃ F', FX W p N c B M F' w' ∧ Chg F w w' ∧ Ext F F' w.heap.size
section
variable {W w w' : World} {p N c B : Nat} {M M' : Fo} {F : Nat → Prop} {ae : Nat → Addr}
theorem FL.fx (h : FL W p N c B M w) : ∃ F, FX W p N c B M F w := by
  obtain ⟨⟨F, h1, h2⟩, h3, h4, h5, h6⟩ := h
  exact ⟨F, h1, h2, h3, h4, h5, h6⟩
theorem FX.fl (h : FX W p N c B M F w) : FL W p N c B M w := ⟨⟨F, h.at_, h.ge⟩, h.below, h.good, h.cnt, h.fit⟩
theorem FX.mono {N' B' : Nat} (h : FX W p N c B M F w) (hN : N ≤ N') (hB : B ≤ B') : FX W p N' c B' M F w := ⟨h.at_.mono hN, h.ge, h.below, h.good, h.cnt, h.fit.mono hB⟩
theorem FX.lt (h : FX W p N c B M F w) : ∀ b, F b → b < w.heap.size := h.at_.lt
theorem FX.chg {G : Nat → Prop} (h : FX W p N c B M F w) (hc : Chg G w w') (hd : ∀ b, F b → ¬ G b) (hG : ∀ b, G b → W.heap.size ≤ b) : FX W p N c B M F w' :=
  ⟨h.at_.chg hc hd, h.ge, h.below.trans (hc.below h.below.size hG), h.good, h.cnt, h.fit⟩
theorem FX.keep (h : FX W p N c B M F w) (hb : Below w.heap.size w w') : FX W p N c B M F w' := ⟨h.at_.below hb, h.ge, h.below.trans (hb.mono h.below.size), h.good, h.cnt, h.fit⟩
theorem FX.out {B' c' : Nat} (h : FX W p N c B M F w) (ho : FOut w p N F M' w') (hg : GoodM M') (hc : CntM M' c') (hf : FitM B' M') : XOut W p (N + 1) c' B' M' F w w' := by
  obtain ⟨F', h1, h2, h3⟩ := ho
  have hz := h.below.size
  have hz2 := h2.size
  refine ⟨F', ⟨h1, fun b hb => ?_, h.below.trans (h2.below hz h.ge), hg, hc, hf⟩, h2, h3⟩
  rcases h3 b hb with h4 | h4
  · exact h.ge b h4
  · omega
theorem xAdd0 (hE : ErrF W.heap.size W ae) (h : FX W p N c B M F w) (id : Int) (hid : I64 id) (hN : N ≤ 1000000) (hc : c ≤ 1000000) (h0 : faddK M c id = 0) :
    Calls Tryz.prog 38 #[.pointer (some ⟨p, 0, none⟩), .int .i64 id] w fun e w' => e = .returned .nilIface ∧ XOut W p (N + 1) (c + 1) (B + 1) (setM M id (some newSf)) F w w' := by
  obtain ⟨mb, Z, hz⟩ := h.at_
  refine (fAdd_any w (hE.below h.below) hz h.good id hid h.cnt hN hc).mono ?_
  rintro e w' ⟨he, ho⟩
  rw [h0] at he
  have e1 : faddS M c id = setM M id (some newSf) := by unfold faddS; rw [if_pos h0]
  have k1 := h.good.add c hid
  have k2 := h.cnt.add h0
  have k3 := h.fit.add (id := id) c
  rw [e1] at ho k1 k2 k3
  exact ⟨he, h.out ho k1 k2 k3⟩
theorem xSub (hE : ErrF W.heap.size W ae) (h : FX W p N c B M F w) (id parent : Int) (hid : I64 id) (hp : I64 parent) (hB : B ≤ 10000) :
    Calls Tryz.prog 42 #[.pointer (some ⟨p, 0, none⟩), .int .i64 id, .int .i64 parent] w fun e w' => e = .returned (errV ae (fsubK M id parent)) ∧ XOut W p (N + 1) c (B + 2) (fsubS M id parent) F w w' := by
  obtain ⟨mb, Z, hz⟩ := h.at_
  refine (fSub_any w (hE.below h.below) hz h.good id parent hid hp (fun i t hi => ⟨by have := latest_len (h.fit i t hi); omega, by have := (h.fit i t hi).p; omega⟩)).mono ?_
  rintro e w' ⟨he, ho⟩
  exact ⟨he, h.out ho.out (h.good.subS parent) (h.cnt.same (sub_isS parent)) (h.fit.sub parent)⟩
theorem xAttach (hE : ErrF W.heap.size W ae) (h : FX W p N c B M F w) (id b : Int) (hid : I64 id) :
    Calls Tryz.prog 15 #[.pointer (some ⟨p, 0, none⟩), .int .i64 id, .int .i64 b] w fun e w' => e = .returned (errV ae (thereK M id)) ∧ XOut W p (N + 1) c B (turnS M id (attachT b)) F w w' := by
  obtain ⟨mb, Z, hz⟩ := h.at_
  refine (fAttach_any w (hE.below h.below) hz id b hid).mono ?_
  rintro e w' ⟨he, ho⟩
  exact ⟨he, h.out ho (h.good.attach b) (h.cnt.same (turn_isS _)) (h.fit.turnA b)⟩
theorem xPosition (hE : ErrF W.heap.size W ae) (h : FX W p N c B M F w) (id x y : Int) (hid : I64 id) (hB : B ≤ 10000) :
    Calls Tryz.prog 18 #[.pointer (some ⟨p, 0, none⟩), .int .i64 id, .int .i64 x, .int .i64 y] w fun e w' => e = .returned (errV ae (childK M id)) ∧ XOut W p (N + 1) c (B + 1) (fposS M id x y) F w w' := by
  obtain ⟨mb, Z, hz⟩ := h.at_
  refine (fPosition_any w (hE.below h.below) hz h.good id x y hid (fun i t hi => by have := (h.fit i t hi).p; omega)).mono ?_
  rintro e w' ⟨he, ho⟩
  exact ⟨he, h.out ho (h.good.posS x y) (h.cnt.same (pos_isS _ _)) (h.fit.pos x y)⟩
theorem xBelow (hE : ErrF W.heap.size W ae) (h : FX W p N c B M F w) (id by' : Int) (hid : I64 id) (hby : I64 by') (hB : B ≤ 10000) :
    Calls Tryz.prog 20 #[.pointer (some ⟨p, 0, none⟩), .int .i64 id, .int .i64 by'] w fun e w' => e = .returned (errV ae (besK M id by')) ∧ XOut W p (N + 1) c (B + 1) (besS M id by' 0) F w w' := by
  obtain ⟨mb, Z, hz⟩ := h.at_
  refine (fBelow_any w (hE.below h.below) h.below.size hz h.good id by' hid hby (fun i t hi => by have := latest_len (h.fit i t hi); omega)).mono ?_
  rintro e w' ⟨he, ho⟩
  exact ⟨he, h.out ho.out (h.good.bes by' 0) (h.cnt.same (bes_isS _ _)) (h.fit.bes by' 0)⟩
theorem xCommitR (hE : ErrF W.heap.size W ae) (h : FX W p N c B M F w) (id : Int) (hid : I64 id) (hB : B ≤ 50000) (hc : c ≤ 100000) {K : Nat} (hR : RkOk M K) (hK : K < 60) :
    Calls Tryz.prog 52 #[.pointer (some ⟨p, 0, none⟩), .int .i64 id] w fun e w' => ∃ A cc, e = .returned (.tuple #[.slice A (comC M K id).2.length cc, errV ae (thereK M id)]) ∧
      Rd w' (.slice A (comC M K id).2.length cc) 1 (comC M K id).2.length ((comC M K id).2.map (Value.int .i64)) ∧ XOut W p N c B (comC M K id).1 F w w' := by
  obtain ⟨mb, Z, hz⟩ := h.at_
  have hrk : ∀ j s, M j = some s → j.toNat ≤ K ∧ (s.parent ≠ 0 → s.parent.toNat < j.toNat) := fun j s hj => hR j s hj
  have hk : ∀ s, M id = some s → K < K + 1 + id.toNat := fun s hs => by omega
  obtain ⟨k1, k2, k3⟩ := commit_keeps (k := K + 1) h.good h.fit hB h.cnt hrk hk
  have key : Calls Tryz.prog 52 #[.pointer (some ⟨p, 0, none⟩), .int .i64 id] w (CommitP w p mb N F (fcomS (synB M) (K + 1) M id) (errV ae (thereK M id))) := by
    cases hs : M id with
    | none => exact fCommit_none w (hE.below h.below) hz id hid hs (K + 1)
    | some s => exact fCommit_some (rk := Int.toNat) (Bk := K) w hz h.good id hid hs (K + 1) (h.fit.mono hB) h.cnt hc hrk (hk s hs)
  rw [syC_eq hR hK] at key k1 k2 k3
  refine key.mono ?_
  rintro e w' ⟨v, F', Z', he, hr, hb, hz', hg, hx⟩
  obtain ⟨A, cc, rfl, _⟩ := hr.form
  have hsz := h.below.size
  have hsz2 := hg.size
  refine ⟨A, cc, he, hr, F', ⟨⟨mb, Z', hz'⟩, fun b hb => ?_, h.below.trans (hg.below hsz h.ge), k1, k3, k2⟩, hg, hx⟩
  rcases hx b hb with h4 | h4
  · exact h.ge b h4
  · omega
end
theorem Tryz.stBuffer (y0 y2 y3 y4 y5 y6 y7 y8 y9 : Value) (b : Int) (w : World) : (Instr.field 41 (.agg #[y0, .int .i64 b, y2, y3, y4, y5, y6, y7, y8, y9]) 1).run Tryz.prog w = .ok (.int .i64 b) w := by kernel_rfl
theorem mNow {W w : World} {p N c B : Nat} {M : Fo} (h : FL W p N c B M w) (id : Int) (hid : I64 id) (hB : B ≤ 50000) :
    Calls Tryz.prog 13 #[.pointer (some ⟨p, 0, none⟩), .int .i64 id] w fun e w' => ∃ y0 y2 y3 y4 y5 y6 y7 y8 y9, e = .returned (.agg #[y0, .int .i64 (tellM M id fun t => t.cu).buffer, y2, y3, y4, y5, y6, y7, y8, y9]) ∧ FL W p N c B M w' := by
  refine (mCurrent h id hid hB).mono ?_
  rintro e w' ⟨A1, n1, A2, n2, A3, n3, A4, n4, A5, n5, he, _, h', _⟩
  exact ⟨_, _, _, _, _, _, _, _, _, he, h'⟩
theorem mCa {W w : World} {p N c B : Nat} {M : Fo} (h : FL W p N c B M w) (id : Int) (hid : I64 id) (hB : B ≤ 50000) :
    Calls Tryz.prog 81 #[.pointer (some ⟨p, 0, none⟩), .int .i64 id] w fun e w' => ∃ y0 y2 y3 y4 y5 y6 y7 y8 y9, e = .returned (.agg #[y0, .int .i64 (tellM M id fun t => t.ca).buffer, y2, y3, y4, y5, y6, y7, y8, y9]) ∧ FL W p N c B M w' := by
  refine (mCached h id hid hB).mono ?_
  rintro e w' ⟨A1, n1, A2, n2, A3, n3, A4, n4, A5, n5, he, _, h', _⟩
  exact ⟨_, _, _, _, _, _, _, _, _, he, h'⟩
structure OldCells (W : World) : Prop where
  keep : ∀ {w' : World}, Below W.heap.size W w' → ∀ a v, W.cell? a = some v → w'.cell? a = some v

end Go.Proofs.YthkjicnnepkghaaGreatDoor
namespace Go.Proofs.YthkjicnnepkghaaGreatDoor
open Go.RowKit Go.Maps Go.Sort Go.Shelf
set_option linter.unusedVariables false
set_option maxHeartbeats 1000000 in
theorem sortedKeys_surf : SortedKeys 122 158 121 77 3 Tryz.prog := by
  intro w b nn M hM hnn
  obtain ⟨D0, hown, hsz, hnd, hmem⟩ := hM.keys Tryz.underlying3
  have hbl := hown.lt
  have hseq : SeqGives Fence.wide 2 Tryz.prog 158 #[.pointer (some ⟨w.heap.size, 0, none⟩)] encZ (fun ss => ss.Perm (intKeys D0)) (Maps.size D0) (w.alloc (.cells #[.map (some b)] 77)) :=
    AnyZI.keys_gives (ρ := Tryz.keysR_Pforest_surface_ren) { Tryz.keysR_Pforest_surface with } Fence.wide _ trivial rfl (by omega) w.heap.size b nn D0 _ (by simp) (by simp) (by
      obtain ⟨es, clock, hb, Ft, hs, hD⟩ := hown
      exact ⟨es, clock, (Below.heap_alloc _ _ b hbl).trans hb, Ft, hs, hD⟩)
  have cK : ∀ mb W, CallsIn Fence.wide 5 Tryz.prog 122 #[.map mb] W fun e w' => e = .returned (.func (.func 158) #[] #[.pointer (some ⟨W.heap.size, 0, none⟩)]) ∧ w' = W.alloc (.cells #[.map mb] 77) := fun mb W => AnyZI.keys_in Tryz.keysR_Pforest_surface Fence.wide 5 trivial rfl mb W
  have cS := AnyZI.sorted_in Tryz.sortedR Fence.wide 5 trivial trivial trivial trivial rfl (by omega) (Tryz.sorts _) (enters_of Tryz.func55 (by kernel_rfl) rfl) 158 #[.pointer (some ⟨w.heap.size, 0, none⟩)] trivial (enters_of Tryz.func158 (by kernel_rfl) rfl) _ _ (by unfold maxLen; omega) (by omega) _ hseq
  change CallsIn _ _ Tryz.prog 121 _ _ _ at cS
  refine ⟨callsIn_wide.1 (cK _ _), (callsIn_wide.1 cS).mono fun e w' h => ?_⟩
  obtain ⟨v, ss, rfl, hS, hrow, hnil, hb⟩ := h
  have hl : (ss.mergeSort fun x y => decide (x ≤ y)).length = ss.length := List.length_mergeSort ss
  refine ⟨v, _, rfl, keysOf_sort hnd hmem hS, ?_, ?_, ?_, ((Below.refl _ w).alloc (Nat.le_refl _) _).trans (hb.mono (by simp))⟩
  · rw [hl, hS.length_eq]
    have : (intKeys D0).length = Maps.size D0 := by
      obtain ⟨es, hD, _⟩ := hown.entries (int_keyed Tryz.underlying3)
      subst hD
      exact List.length_map ..
    omega
  · rw [hl]
    exact ownsRow_base_a hrow (by simp)
  · rw [hnil]
    constructor
    · intro h
      exact List.eq_nil_of_length_eq_zero (by rw [hl, h]; rfl)
    · intro h
      exact List.eq_nil_of_length_eq_zero (by rw [← hl, h]; rfl)

set_option maxRecDepth 100000 in
theorem fAll_any {p mb n : Nat} {F : Nat → Prop} {Z : Int → Option SfV} {M : Fo} (w : World) (h : ForZ w p mb F n Z M) (hn : n ≤ 1000000) :
    Calls Tryz.prog 74 #[.pointer (some ⟨p, 0, none⟩)] w fun e w' => ∃ (v : Value) (l : List Int), e = .returned v ∧ KeysOf (fun i => (Z i).map SfV.ptr) l ∧ l.length ≤ n ∧ w'.ownsRow w.heap.size 3 1 v l.length (l.map (Value.int .i64)) ∧ (v = .slice none 0 0 ↔ l = []) ∧ Below w.heap.size w w' := by
  have hc := h.cellP
  obtain ⟨c1, c2⟩ := sortedKeys_surf w mb n _ h.map hn
  replace c1 := hide c1
  replace c2 := hide c2
  clear h
  go_enter Tryz.func74, Tryz.ntmps74
  go_wp2_with (first
    | (go_at_call 122; refine c1.out.mono ?_; rintro e w' ⟨rfl, rfl⟩)
    | (go_at_call 121; refine c2.out.mono ?_; rintro e w' ⟨v, l, rfl, hk, hl, hr, hnil, hb⟩))
  go_ret
  exact ⟨v, l, rfl, hk, hl, hr, hnil, hb⟩

set_option linter.unusedVariables false

section
variable {W w w' : World} {p N c B : Nat} {M M' : Fo} {ae : Nat → Addr}
theorem without_leF (l : List Int) (x : Int) : (without l x).length ≤ l.length := without_le l x
theorem dropP_leF (l : List Ch) (x : Int) : (dropP l x).length ≤ l.length := by unfold dropP; exact List.length_filter_le _ _
theorem FitM.unsub (h : FitM B M) (id : Int) : FitM B (funsubS M id) := by
  unfold funsubS
  split
  · exact h
  · rename_i s hs
    split
    · exact h
    · rename_i q hq
      split
      · exact h
      · have h1 := h _ _ hs
        have h2 := h _ _ hq
        refine (h.set (v := { s with parent := 0 }) ⟨h1.d, h1.f, h1.p, h1.r, h1.o⟩).set (v := cutSf q id) ?_
        have a1 := without_leF q.pe.order id
        have a2 := without_leF q.ca.order id
        have a3 := without_leF q.cu.order id
        have b1 := dropP_leF q.pe.places id
        have b2 := dropP_leF q.ca.places id
        have b3 := dropP_leF q.cu.places id
        obtain ⟨h1, h2, h3, ⟨h4, h5, h6⟩, h7, h8, h9⟩ := h2
        exact ⟨h1, h2, by simp only [cutSf, cutT]; omega, ⟨h4, h5, h6⟩, by simp only [cutSf, cutT]; omega, by simp only [cutSf, cutT]; omega, by simp only [cutSf, cutT]; omega⟩
theorem unsub_isS (id : Int) : SameD M (funsubS M id) := by
  unfold funsubS
  split
  · exact .refl _
  · rename_i s hs
    split
    · exact .refl _
    · rename_i q hq
      split
      · exact .refl _
      · exact (SameD.set (by rw [hs]; rfl) _).trans (SameD.set (by rw [setM_isS (by rw [hs]; rfl), hq]; rfl) _)
theorem GoodM.unsubS (h : GoodM M) (id : Int) : GoodM (funsubS M id) := by
  unfold funsubS
  split
  · exact h
  · rename_i s hs
    split
    · exact h
    · rename_i q hq
      split
      · exact h
      · rename_i h0
        exact h.unsub hs h0 hq
theorem unsub_par (h : GoodM M) {id : Int} {s : Sf} (hs : funsubS M id id = some s) : s.parent = 0 := by
  unfold funsubS at hs
  cases e : M id with
  | none => rw [e] at hs; dsimp only at hs; rw [e] at hs; cases hs
  | some t =>
    rw [e] at hs
    dsimp only at hs
    by_cases hp : t.parent = 0
    · cases e2 : M t.parent with
      | none => rw [e2] at hs; dsimp only at hs; rw [e] at hs; cases hs; exact hp
      | some q => rw [e2] at hs; dsimp only at hs; rw [if_pos hp, e] at hs; cases hs; exact hp
    · obtain ⟨q, hq⟩ := h.par id t e hp
      have hne := h.par_ne e hp
      rw [hq] at hs
      dsimp only at hs
      rw [if_neg hp, setM_other _ _ (fun e => hne e.symm), setM_same] at hs
      cases hs; rfl
theorem orphan_isS (id : Int) : SameD M (orphan M id) := fun x => by unfold orphan; cases M x <;> rfl
theorem FitM.orphan (h : FitM B M) (id : Int) : FitM B (orphan M id) := fun i t hi => by
  unfold Go.Proofs.YthkjicnnepkghaaGreatDoor.orphan at hi
  cases e : M i with
  | none => rw [e] at hi; cases hi
  | some s =>
    rw [e] at hi
    have := h _ _ e
    simp only [Option.map_some, Option.some.injEq] at hi
    subst hi
    split
    · exact ⟨this.d, this.f, this.p, this.r, this.o⟩
    · exact this
theorem CntM.less (h : CntM M (c + 1)) {id : Int} (hs : (M id).isSome = true) : CntM (setM M id none) c := by
  obtain ⟨l, h1, h2, h3⟩ := h
  have hm := (h3 id).2 hs
  refine ⟨l.erase id, h1.erase id, by rw [List.length_erase_of_mem hm, h2]; rfl, fun x => ?_⟩
  rw [h1.mem_erase_iff, h3 x]
  by_cases e : x = id
  · subst e; rw [setM_same]; simp
  · rw [setM_other _ _ e]; simp [e]
theorem mUnsub (hE : ErrF W.heap.size W ae) (h : FL W p N c B M w) (id : Int) (hid : I64 id) (hB : B ≤ 10000) :
    Calls Tryz.prog 44 #[.pointer (some ⟨p, 0, none⟩), .int .i64 id] w fun e w' => e = .returned (errV ae (childK M id)) ∧ FL W p (N + 1) c B (funsubS M id) w' := by
  obtain ⟨F, ⟨mb, Z, hz⟩, hF⟩ := h.ex
  refine (fUnsub_any w (hE.below h.below) h.below.size hz h.good id hid (fun i t hi j hj => ?_)).mono ?_
  · have hf := h.fit i t hi
    have h1 := hf.p
    have h2 := hf.o
    rcases (by omega : j = 0 ∨ j = 1 ∨ j = 2) with rfl | rfl | rfl <;> simp only [stS] <;> constructor <;> simp <;> omega
  rintro e w' ⟨he, ho⟩
  exact ⟨he, h.out hF ho.out (h.good.unsubS id) (h.cnt.same (unsub_isS id)) (h.fit.unsub id)⟩
theorem mDrop0 (hE : ErrF W.heap.size W ae) (h : FL W p N c B M w) (id : Int) (hid : I64 id) (hs : M id = none) :
    Calls Tryz.prog 40 #[.pointer (some ⟨p, 0, none⟩), .int .i64 id] w fun e w' => e = .returned (errV ae 5) ∧ FL W p N c B M w' := by
  obtain ⟨F, ⟨mb, Z, hz⟩, hF⟩ := h.ex
  refine (fDrop_none w (hE.below h.below) hz id hid hs).mono ?_
  rintro e w' ⟨he, rfl⟩
  exact ⟨he, h⟩
theorem mDrop (hE : ErrF W.heap.size W ae) (h : FL W p N (c + 1) B M w) (id : Int) (hid : I64 id) (hs : (M id).isSome = true) (hB : B ≤ 10000) :
    Calls Tryz.prog 40 #[.pointer (some ⟨p, 0, none⟩), .int .i64 id] w fun e w' => e = .returned .nilIface ∧ FL W p (N + 1) c B (fdropS M id) w' := by
  obtain ⟨F, ⟨mb, Z, hz⟩, hF⟩ := h.ex
  obtain ⟨s, hs1⟩ := Option.isSome_iff_exists.1 hs
  have e : fdropS M id = setM (orphan (funsubS M id) id) id none := by unfold fdropS; rw [if_pos hs]
  have hg : GoodM (fdropS M id) := by rw [e]; exact (h.good.unsubS id).gone fun s hs => unsub_par h.good hs
  have hc : CntM (fdropS M id) c := by
    rw [e]
    have hsd : SameD M (orphan (funsubS M id) id) := (unsub_isS id).trans (orphan_isS id)
    exact (h.cnt.same hsd).less (by rw [hsd id]; exact hs)
  have hf : FitM B (fdropS M id) := by rw [e]; exact ((h.fit.unsub id).orphan id).del
  have hnn := h.good.par_nn hs1
  rcases (by omega : s.parent = 0 ∨ 0 < s.parent) with h0 | h0
  · refine (fDrop_free w hz id hid hs1 h0).mono ?_
    rintro e' w' ⟨he, ho⟩
    have eu : funsubS M id = M := by unfold funsubS; rw [hs1]; dsimp only; split <;> simp [h0]
    have e2 : setM (orphan M id) id none = fdropS M id := by rw [e, eu]
    rw [e2] at ho
    exact ⟨he, h.out hF ho.out hg hc hf⟩
  · refine (fDrop_sub w (hE.below h.below) h.below.size hz h.good id hid hs1 h0 (fun i t hi j hj => ?_)).mono ?_
    · have hf := h.fit i t hi
      have h1 := hf.p
      have h2 := hf.o
      rcases (by omega : j = 0 ∨ j = 1 ∨ j = 2) with rfl | rfl | rfl <;> simp only [stS] <;> constructor <;> simp <;> omega
    rintro e' w' ⟨he, ho⟩
    rw [← e] at ho
    exact ⟨he, h.out hF ho.out hg hc hf⟩
theorem mAll (h : FL W p N c B M w) (hN : N ≤ 1000000) :
    Calls Tryz.prog 74 #[.pointer (some ⟨p, 0, none⟩)] w fun e w' => ∃ A cc, e = .returned (.slice A c cc) ∧ FL W p N c B M w' ∧ Below w.heap.size w w' := by
  obtain ⟨F, ⟨mb, Z, hz⟩, hF⟩ := h.ex
  refine (fAll_any w hz hN).mono ?_
  rintro e w' ⟨v, l, he, hk, _, ho, _, hb⟩
  obtain ⟨A, cc, rfl, _⟩ := own_form ho
  have hl : l.length = c := by
    obtain ⟨l', h1, h2, h3⟩ := h.cnt
    have hnd : l.Nodup := hk.1.imp fun h => Int.ne_of_lt h
    rw [← h2]
    refine List.Perm.length_eq ((List.perm_ext_iff_of_nodup hnd h1).2 fun x => ?_)
    rw [hk.2 x, h3 x]
    have hd := hz.dom x
    constructor
    · rintro ⟨_, h5⟩; rw [← hd]; simpa using h5
    · intro h5
      obtain ⟨s, hs⟩ := Option.isSome_iff_exists.1 h5
      obtain ⟨z, hzz, ht⟩ := hz.find hs
      exact ⟨ht.id64, by show (Option.map SfV.ptr (Z x)).isSome = true; rw [hzz]; rfl⟩
  rw [hl] at he
  exact ⟨A, cc, he, h.keep hb, hb⟩
end
end Go.Proofs.YthkjicnnepkghaaGreatDoor
namespace Go.Proofs.YthkjicnnepkghaaGreatDoor
open Go.RowKit
set_option linter.unusedVariables false
set_option linter.unusedSectionVars false

structure NodS (s : Sf) : Prop where
  pe : s.pe.order.Nodup
  ca : s.ca.order.Nodup
  cu : s.cu.order.Nodup
def NodM (M : Fo) : Prop := ∀ id s, M id = some s → NodS s
section
variable {M : Fo} {id : Int} {s : Sf}
theorem NodM.empty : NodM (fun _ => none) := fun _ _ h => by cases h
theorem NodM.set (h : NodM M) {v : Sf} (hv : NodS v) : NodM (setM M id (some v)) := fun i t hi => by
  rcases setM_eq hi with ⟨_, e⟩ | ⟨_, e⟩
  · cases e; exact hv
  · exact h _ _ e
theorem NodM.del (h : NodM M) : NodM (setM M id none) := fun i t hi => by
  rcases setM_eq hi with ⟨_, e⟩ | ⟨_, e⟩
  · cases e
  · exact h _ _ e
theorem nod_without {l : List Int} (h : l.Nodup) (x : Int) : (without l x).Nodup := h.filter _
theorem nod_top {l : List Int} (h : l.Nodup) (x : Int) : (without l x ++ [x]).Nodup := by
  rw [List.nodup_append]
  refine ⟨nod_without h x, by simp, fun a ha b hb => ?_⟩
  have : b = x := by simpa using hb
  subst this
  exact (mem_without.1 ha).2
theorem nod_putL {l : List Int} (h : l.Nodup) (a b : Int) (k : Nat) : (putL l a b k).Nodup := by
  rw [putL_eq]
  have hw := nod_without h a
  have hn : a ∉ without l a := fun hm => (mem_without.1 hm).2 rfl
  generalize without l a = m at hw hn
  generalize (Lib.idxOf m b).toNat + k = j
  refine (List.perm_middle.nodup_iff).2 ?_
  rw [List.take_append_drop]
  exact List.nodup_cons.2 ⟨hn, hw⟩
theorem NodS.latest (h : NodS s) : s.latest.Nodup := by
  unfold Sf.latest
  split
  · exact h.pe
  · split
    · exact h.ca
    · exact h.cu
theorem nod_new : NodS newSf := ⟨List.Pairwise.nil, List.Pairwise.nil, by simp [newSf, St.first]⟩
theorem NodM.add (h : NodM M) (k : Nat) (id : Int) : NodM (faddS M k id) := by
  unfold faddS
  split
  · exact h.set nod_new
  · exact h
theorem NodM.subS (h : NodM M) (id parent : Int) : NodM (fsubS M id parent) := by
  unfold fsubS
  split
  · unfold subbed
    split
    · rename_i s p hs hp
      have h1 := h _ _ hs
      have h2 := h _ _ hp
      refine (h.set (v := { s with parent := parent, sync := true }) ⟨h1.pe, h1.ca, h1.cu⟩).set ⟨?_, h2.ca, h2.cu⟩
      exact nod_top h2.latest id
    · exact h
  · exact h
theorem NodM.unsubS (h : NodM M) (id : Int) : NodM (funsubS M id) := by
  unfold funsubS
  split
  · exact h
  · rename_i s hs
    split
    · exact h
    · rename_i p hp
      split
      · exact h
      · have h1 := h _ _ hs
        have h2 := h _ _ hp
        exact (h.set (v := { s with parent := 0 }) ⟨h1.pe, h1.ca, h1.cu⟩).set ⟨nod_without h2.pe _, nod_without h2.ca _, nod_without h2.cu _⟩
theorem NodM.orphan (h : NodM M) (id : Int) : NodM (orphan M id) := fun i t hi => by
  unfold Go.Proofs.YthkjicnnepkghaaGreatDoor.orphan at hi
  cases e : M i with
  | none => rw [e] at hi; cases hi
  | some s =>
    rw [e] at hi
    have h1 := h _ _ e
    simp only [Option.map_some, Option.some.injEq] at hi
    subst hi
    split
    · exact ⟨h1.pe, h1.ca, h1.cu⟩
    · exact h1
theorem NodM.dropS (h : NodM M) (id : Int) : NodM (fdropS M id) := by
  unfold fdropS
  split
  · exact ((h.unsubS id).orphan id).del
  · exact h
theorem NodM.turn (h : NodM M) (id : Int) {f : St → St} (hf : ∀ s, (f s).order = s.order) : NodM (turnS M id f) := by
  unfold turnS
  split
  · exact h
  · rename_i s hs
    have h1 := h _ _ hs
    exact h.set ⟨by show (f s.pe).order.Nodup; rw [hf]; exact h1.pe, h1.ca, h1.cu⟩
theorem NodM.posS (h : NodM M) (id x y : Int) : NodM (fposS M id x y) := by
  unfold fposS
  split
  · exact h
  · split
    · exact h
    · split
      · exact h
      · rename_i p hp _
        have h1 := h _ _ hp
        exact h.set ⟨h1.pe, h1.ca, h1.cu⟩
theorem NodM.sync (h : NodM M) (id : Int) (on : Bool) : NodM (fsyncS M id on) := by
  unfold fsyncS
  split
  · exact h
  · split
    · exact h
    · rename_i s hs _
      have h1 := h _ _ hs
      exact h.set ⟨h1.pe, h1.ca, h1.cu⟩
theorem NodM.bes (h : NodM M) (id by' : Int) (k : Nat) : NodM (besS M id by' k) := by
  unfold besS
  split
  · split
    · exact h
    · split
      · exact h
      · rename_i p hp
        have h1 := h _ _ hp
        exact h.set ⟨nod_putL h1.latest _ _ _, h1.ca, h1.cu⟩
  · exact h
theorem NodM.com (h : NodM M) (sy : Int → Bool) (k : Nat) (id : Int) : NodM (fcomS sy k M id).1 := by
  unfold fcomS
  split
  · exact h
  · rename_i s hs
    have h1 := h _ _ hs
    have h2 : NodM (setM M id (some (cacheS s))) := by
      refine h.set ⟨List.Pairwise.nil, ?_, h1.cu⟩
      show (if s.pe.ordered then s.pe.order else s.ca.order).Nodup
      split
      · exact h1.pe
      · exact h1.ca
    split
    · exact h2
    · refine comA_keeps (P := NodM) (fun M id s h hs => ?_) k _ _ _ h2
      have h3 := h _ _ hs
      refine h.set ⟨h3.pe, List.Pairwise.nil, ?_⟩
      show (if s.ca.ordered then s.ca.order else s.cu.order).Nodup
      split
      · exact h3.ca
      · exact h3.cu

inductive Anc (M : Fo) (a : Int) : Int → Prop
  | here : Anc M a a
  | up {x : Int} {s : Sf} : M x = some s → s.parent ≠ 0 → Anc M a s.parent → Anc M a x
section
variable {rk : Int → Nat} (hrk : ∀ j s, M j = some s → s.parent ≠ 0 → rk s.parent < rk j)
include hrk
theorem Anc.rank {a x : Int} (h : Anc M a x) : rk a ≤ rk x := by
  induction h with
  | here => exact Nat.le_refl _
  | up h1 h2 _ ih => have := hrk _ _ h1 h2; omega
theorem Anc.parent {a x : Int} {s : Sf} (h : Anc M a x) (hx : x ≠ a) (hs : M x = some s) : s.parent ≠ 0 ∧ Anc M a s.parent := by
  cases h with
  | here => exact absurd rfl hx
  | up h1 h2 h3 => rw [hs] at h1; cases h1; exact ⟨h2, h3⟩
theorem Anc.chain {a b x : Int} (h : Anc M a x) : Anc M b x → Anc M a b ∨ Anc M b a := by
  induction h with
  | here => exact fun h => .inr h
  | @up x s h1 h2 h3 ih =>
    intro h
    by_cases e : x = b
    · subst e; exact .inl (.up h1 h2 h3)
    · exact ih (h.parent hrk e h1).2
theorem Anc.sib {a b x : Int} {s t : Sf} (ha : M a = some s) (hb : M b = some t) (hp : s.parent = t.parent) (hp0 : s.parent ≠ 0) (h1 : Anc M a x) (h2 : Anc M b x) : a = b := by
  rcases h1.chain hrk h2 with h | h
  · by_cases e : b = a
    · exact e.symm
    · have h3 := (h.parent hrk e hb).2
      have h4 := h3.rank hrk
      have h5 := hrk _ _ ha hp0
      rw [← hp] at h4; omega
  · by_cases e : a = b
    · exact e
    · have h3 := (h.parent hrk e ha).2
      have h4 := h3.rank hrk
      have h5 := hrk _ _ hb (by rw [← hp]; exact hp0)
      rw [hp] at h4; omega
end
theorem nodup_flatMap {α β : Type} {f : α → List β} : ∀ {l : List α}, l.Nodup → (∀ a ∈ l, (f a).Nodup) → (∀ a ∈ l, ∀ b ∈ l, ∀ x, x ∈ f a → x ∈ f b → a = b) → (l.flatMap f).Nodup
  | [], _, _, _ => List.Pairwise.nil
  | a :: l, hn, h1, h2 => by
    obtain ⟨hn1, hn2⟩ := List.nodup_cons.1 hn
    rw [List.flatMap_cons, List.nodup_append]
    refine ⟨h1 a (by simp), nodup_flatMap hn2 (fun b hb => h1 b (by simp [hb])) (fun b hb c hc => h2 b (by simp [hb]) c (by simp [hc])), fun x hx y hy e => ?_⟩
    subst e
    obtain ⟨b, hb, hxb⟩ := List.mem_flatMap.1 hy
    have := h2 a (by simp) b (by simp [hb]) x hx hxb
    subst this
    exact hn1 hb
theorem walk_nodup (hG : GoodM M) (hN : NodM M) : ∀ (k : Nat) (id : Int), ((walkT M k id).map Ch.id).Nodup ∧ ∀ x ∈ (walkT M k id).map Ch.id, Anc M id x ∧ (M x).isSome = true
  | 0, id => ⟨List.Pairwise.nil, fun x hx => by cases hx⟩
  | k + 1, id => by
    obtain ⟨rk, Bk, hr⟩ := hG.rank
    have hrk : ∀ j s, M j = some s → s.parent ≠ 0 → rk s.parent < rk j := fun j s hj => (hr j s hj).2
    cases hs : M id with
    | none => rw [walkT_none _ hs]; exact ⟨List.Pairwise.nil, fun x hx => by cases hx⟩
    | some s =>
      by_cases hb : s.cu.buffer = 0
      · rw [walkT_zero _ hs hb]; exact ⟨List.Pairwise.nil, fun x hx => by cases hx⟩
      · rw [walkT_some k hs hb, List.map_flatMap]
        have hid := (hG.pos _ _ hs).1
        have hstep : ∀ y, (walkStep (walkT M k) id s.cu.places y).map Ch.id = if y = 0 then [id] else (walkT M k y).map Ch.id := fun y => by
          unfold walkStep
          split
          · rfl
          · rw [List.map_map]; rfl
        have hkid : ∀ y ∈ s.cu.order, y ≠ 0 → ∃ t, M y = some t ∧ t.parent = id := fun y hy h0 => ((hG.kids _ _ hs).2.2 y hy).resolve_left h0
        have hanc : ∀ y ∈ s.cu.order, ∀ x, x ∈ (walkStep (walkT M k) id s.cu.places y).map Ch.id → (y = 0 ∧ x = id) ∨ (y ≠ 0 ∧ Anc M y x ∧ (M x).isSome = true) := fun y hy x hx => by
          rw [hstep] at hx
          by_cases h0 : y = 0
          · rw [if_pos h0] at hx; exact .inl ⟨h0, by simpa using hx⟩
          · rw [if_neg h0] at hx; exact .inr ⟨h0, (walk_nodup hG hN k y).2 x hx⟩
        have hup : ∀ {y x t}, M y = some t → t.parent = id → Anc M y x → Anc M id x := fun {y x t} hy hp h => by
          induction h with
          | here => exact .up hy (by omega) (by rw [hp]; exact .here)
          | up h1 h2 _ ih => exact .up h1 h2 ih
        refine ⟨nodup_flatMap (hN _ _ hs).cu (fun y _ => ?_) (fun a ha b hb x hxa hxb => ?_), fun x hx => ?_⟩
        · rw [hstep]
          split
          · simp
          · exact (walk_nodup hG hN k y).1
        · rcases hanc a ha x hxa with ⟨e1, e2⟩ | ⟨h1, h2, _⟩
          · rcases hanc b hb x hxb with ⟨e3, _⟩ | ⟨h3, h4, _⟩
            · rw [e1, e3]
            · exfalso
              obtain ⟨t, ht, hp⟩ := hkid b hb h3
              have h5 := h4.rank hrk
              have h6 := hrk _ _ ht (by omega)
              rw [hp] at h6; rw [e2] at h5; omega
          · rcases hanc b hb x hxb with ⟨e3, e4⟩ | ⟨h3, h4, _⟩
            · exfalso
              obtain ⟨t, ht, hp⟩ := hkid a ha h1
              have h5 := h2.rank hrk
              have h6 := hrk _ _ ht (by omega)
              rw [hp] at h6; rw [e4] at h5; omega
            · obtain ⟨t, ht, hp⟩ := hkid a ha h1
              obtain ⟨t', ht', hp'⟩ := hkid b hb h3
              exact Anc.sib hrk ht ht' (hp.trans hp'.symm) (by omega) h2 h4
        · obtain ⟨y, hy, hxy⟩ := List.mem_flatMap.1 hx
          rcases hanc y hy x hxy with ⟨_, e⟩ | ⟨h1, h2, h3⟩
          · subst e; exact ⟨.here, by rw [hs]; rfl⟩
          · obtain ⟨t, ht, hp⟩ := hkid y hy h1
            exact ⟨hup ht hp h2, h3⟩
theorem walk_len (hG : GoodM M) (hN : NodM M) {c : Nat} (hc : CntM M c) (k : Nat) (id : Int) : (walkT M k id).length ≤ c := by
  obtain ⟨h1, h2⟩ := walk_nodup hG hN k id
  obtain ⟨l, _, h4, h5⟩ := hc
  rw [← h4, ← List.length_map (f := Ch.id)]
  exact nodup_len h1 fun x hx => (h5 x).2 (h2 x hx).2
end
end Go.Proofs.YthkjicnnepkghaaGreatDoor
namespace Go.Proofs.YthkjicnnepkghaaGreatDoor
open Go.RowKit
set_option linter.unusedVariables false

theorem Errs.wider {B B' : Nat} {w : World} {ae : Nat → Addr} (h : Errs B w ae) (hB : B ≤ B') : Errs B' w ae := ⟨h.glob, h.obj, h.inj, fun k hk => ⟨Nat.lt_of_lt_of_le (h.lt k hk).1 hB, Nat.lt_of_lt_of_le (h.lt k hk).2 hB⟩⟩
theorem errV0 (ae : Nat → Addr) : errV ae 0 = .nilIface := rfl
theorem i64_small {x : Int} (h1 : -1000000 ≤ x) (h2 : x ≤ 1000000) : I64 x := by unfold I64; omega
theorem i64_1 : I64 1 := i64_small (by decide) (by decide)
theorem i64_2 : I64 2 := i64_small (by decide) (by decide)
def aw1 : Fo := setM (fun _ => none) 1 (some newSf)
def aw2 : Fo := setM aw1 2 (some newSf)
def aw3 : Fo := subbed aw2 2 1
def aw4 : Fo := turnS aw3 2 (frameT 9)
def aw5 : Fo := (comC aw4 2 2).1
theorem aw_facts : faddK (fun _ => none) 0 1 = 0 ∧ faddK aw1 1 2 = 0 ∧ upO aw2 2 60 1 = some false ∧ fsubC aw2 2 1 false = 0 ∧ thereK aw3 2 = 0 ∧ thereK aw4 2 = 0 ∧ (comC aw4 2 2).2 = [] ∧ thereK aw5 1 = 0 ∧ (comC aw5 2 1).2 = [1, 2] := by decide +kernel
theorem aw_rk2 : RkOk aw2 2 := ((RkOk.empty 2).add (by decide)).add (by decide)
theorem aw_sub : fsubK aw2 2 1 = 0 := by rw [fsubK_eq aw_facts.2.2.1]; exact aw_facts.2.2.2.1
theorem aw_rk4 : RkOk aw4 2 := by
  have h : RkOk aw3 2 := by have := aw_rk2.sub (id := 2) (parent := 1) (by decide); rw [fsubS_zero aw_sub] at this; exact this
  exact h.par (turn_par _)
theorem aw_rk5 : RkOk aw5 2 := aw_rk4.par (com_par _ _)

theorem rd_two {w : World} (b : Nat) (x y : Int) (t : TypeId) (h : w.heap[b]? = some (.cells #[.int .i64 x, .int .i64 y] t (0, 0))) : Rd w (.slice (some ⟨b, 0, none⟩) 2 2) 1 2 ([x, y].map (Value.int .i64)) := by
  refine ⟨by simp, _, 2, rfl, by omega, fun _ => ⟨b, 0, rfl, lt_of_block h, fun j u hu => ?_⟩⟩
  rw [cell_of_row w b (0 + j) _ _ _ h]
  simpa using hu

set_option maxRecDepth 100000 in
set_option maxHeartbeats 2000000 in
theorem awake17_any (W : World) {ae : Nat → Addr} (hE : ErrF W.heap.size W ae) : Calls Tryz.prog 10 #[] W fun e w' => e = .returned (.bool true) ∧ Below W.heap.size W w' := by
  obtain ⟨a1, a2, a3, a4, a5, a6, a7, a8, a9⟩ := aw_facts
  have cN := hide (mNew W)
  replace a3 := hide a3
  replace a4 := hide a4
  go_enter Tryz.func10, Tryz.ntmps10
  go_wp2_with fail
  refine cN.out.mono ?_
  rintro e w1 ⟨p, rfl, h1⟩
  have c1 := hide (mAdd0 hE h1 1 i64_1 (by omega) (by omega) a1)
  clear h1
  go_wp2_with fail
  refine c1.out.mono ?_
  rintro e w2 ⟨rfl, h2⟩
  change FL W p 1 1 2 aw1 w2 at h2
  have c2 := hide (mAdd0 hE h2 2 i64_2 (by omega) (by omega) a2)
  clear h2
  go_wp2_with fail
  refine c2.out.mono ?_
  rintro e w3 ⟨rfl, h3⟩
  change FL W p 2 2 3 aw2 w3 at h3
  have c3 := mSub hE h3 2 1 i64_2 i64_1 (by omega)
  rw [aw_sub, fsubS_zero aw_sub, errV0] at c3
  replace c3 := hide c3
  clear h3
  go_wp2_with fail
  refine c3.out.mono ?_
  rintro e w4 ⟨rfl, h4⟩
  change FL W p 3 2 5 aw3 w4 at h4
  have c4 := mFrame hE h4 2 9 i64_2 (by omega)
  rw [a5, errV0] at c4
  replace c4 := hide c4
  clear h4
  go_wp2_with fail
  refine c4.out.mono ?_
  rintro e w5 ⟨rfl, h5⟩
  change FL W p 4 2 6 aw4 w5 at h5
  have c5 := mCommitR hE h5 2 i64_2 (by omega) (by omega) aw_rk4 (by omega)
  rw [a6, a7, errV0] at c5
  replace c5 := hide c5
  clear h5
  go_wp2_with fail
  refine c5.out.mono ?_
  rintro e w6 ⟨A6, n6, rfl, r6, h6⟩
  change FL W p 4 2 6 aw5 w6 at h6
  have c6 := mCommitR hE h6 1 i64_1 (by omega) (by omega) aw_rk5 (by omega)
  rw [a8, a9, errV0] at c6
  replace c6 := hide c6
  clear h6 r6
  go_wp2_with fail
  refine c6.out.mono ?_
  rintro e w7 ⟨A7, n7, rfl, r7, h7⟩
  have hb7 := hide h7.below
  have c7 := hide (sameInts_true (w7.alloc (.cells #[.int .i64 1, .int .i64 2] 3)) _ _ [1, 2] (r7.alloc _) (rd_two w7.heap.size 1 2 3 (heap_alloc_new _ _)) (by decide))
  clear h7 r7
  go_wp2_with fail
  refine c7.out.mono ?_
  rintro e w8 ⟨rfl, q8, rfl⟩
  go_wp2
  go_ret
  exact ⟨rfl, below_drewN (hb7.out.alloc hb7.out.size _) q8⟩
end Go.Proofs.YthkjicnnepkghaaGreatDoor
