/-
  The forest and the document's, side by side: what each call leaves of both.
  The forest and the document's, side by side with a call's struct: contracts of the calls.
-/
import Derived.Test.YthkjicnnepkghaaGreatDoorPkK
import Derived.Test.YthkjicnnepkghaaGreatDoorPkRef17l
import Derived.Test.YthkjicnnepkghaaGreatDoorPkW
import Derived.Test.YthkjicnnepkghaaGreatDoorPkForest15
namespace Go.Proofs.YthkjicnnepkghaaGreatDoor
open Go.RowKit
set_option linter.unusedVariables false

structure JX (W : World) (p q N c B cR : Nat) (M R : Fo) (F G : Nat → Prop) (v : Value) (L : List RSf) (w : World) : Prop where
  fx : FX W p N c B M F w
  rf : RefF W.heap.size w q G v L
  eqR : toF L = R
  len : L.length = cR
  dis : ∀ b, F b → ¬ fullR q G v b
def JS (W : World) (p q N c B cR : Nat) (M R : Fo) (w : World) : Prop := ∃ F G v L, JX W p q N c B cR M R F G v L w
section
variable {W w w' : World} {p q N c B cR : Nat} {M M' R R' : Fo} {F G : Nat → Prop} {v : Value} {L : List RSf} {ae : Nat → Addr}
theorem JX.prog {N' c' B' : Nat} (h : JX W p q N c B cR M R F G v L w) (ho : XOut W p N' c' B' M' F w w') : JS W p q N' c' B' cR M' R w' := by
  obtain ⟨F', h1, h2, h3⟩ := ho
  refine ⟨F', G, v, L, h1, h.rf.chg h2 fun b hb hF => h.dis b hF hb, h.eqR, h.len, fun b hF hb => ?_⟩
  rcases h3 b hF with h4 | h4
  · exact h.dis b h4 hb
  · have := h.rf.fullLt b hb; omega
theorem JX.ref (h : JX W p q N c B cR M R F G v L w) (ho : RFOut W.heap.size w q G v R' w') (hl : ∀ L', toF L' = R' → (L'.map RSf.id).Nodup → L'.length = cR) : JS W p q N c B cR M R' w' := by
  obtain ⟨G', v', L', h1, h2, h3, h4⟩ := ho
  refine ⟨F, G', v', L', h.fx.chg h3 (fun b hF hb => h.dis b hF ?_) h.rf.writB, h1, h2, hl L' h2 h1.ids, fun b hF hb => ?_⟩
  · rcases hb with hb | hb
    · exact .inr (.inl hb)
    · exact .inr (.inr hb)
  · rcases h4 b hb with h5 | h5
    · exact h.dis b hF h5
    · have := h.fx.lt b hF; omega
theorem JX.keep (h : JX W p q N c B cR M R F G v L w) (hb : Below w.heap.size w w') : JX W p q N c B cR M R F G v L w' := ⟨h.fx.keep hb, h.rf.below hb, h.eqR, h.len, h.dis⟩
theorem JX.js (h : JX W p q N c B cR M R F G v L w) : JS W p q N c B cR M R w := ⟨F, G, v, L, h⟩
theorem JS.keep (h : JS W p q N c B cR M R w) (hb : Below w.heap.size w w') : JS W p q N c B cR M R w' := by
  obtain ⟨F, G, v, L, h⟩ := h
  exact ⟨F, G, v, L, h.keep hb⟩
theorem JS.drewN (h : JS W p q N c B cR M R w) (n : Nat) : JS W p q N c B cR M R (w.drewN n) := h.keep (below_drewN (Below.refl _ _) n)
theorem JS.below (h : JS W p q N c B cR M R w) : Below W.heap.size W w := by
  obtain ⟨F, G, v, L, h⟩ := h
  exact h.fx.below
theorem JS.mono {N' B' : Nat} (h : JS W p q N c B cR M R w) (hN : N ≤ N') (hB : B ≤ B') : JS W p q N' c B' cR M R w := by
  obtain ⟨F, G, v, L, h⟩ := h
  exact ⟨F, G, v, L, h.fx.mono hN hB, h.rf, h.eqR, h.len, h.dis⟩
theorem JS.congr (h : JS W p q N c B cR M R w) (e1 : M' = M) (e2 : R' = R) : JS W p q N c B cR M' R' w := by subst e1 e2; exact h
theorem JS.good (h : JS W p q N c B cR M R w) : GoodM M ∧ CntM M c ∧ FitM B M := by
  obtain ⟨F, G, v, L, h⟩ := h
  exact ⟨h.fx.good, h.fx.cnt, h.fx.fit⟩
theorem JX.refS (h : JX W p q N c B cR M R F G v L w) (ho : RFOut W.heap.size w q G v R' w') (hd : SameD R R') : JS W p q N c B cR M R' w' :=
  h.ref ho fun L' e hn => by
    rw [← h.len]
    exact len_same h.rf.ids hn fun x => by rw [e, h.eqR]; exact hd x
theorem len_cnt {L : List RSf} {k : Nat} (hn : (L.map RSf.id).Nodup) (hc : CntM (toF L) k) : L.length = k := by
  obtain ⟨l, h1, h2, h3⟩ := hc
  have := List.Perm.length_eq ((List.perm_ext_iff_of_nodup hn h1).2 fun x => by rw [← toF_isS, h3 x])
  rw [← h2]; simpa using this
theorem JX.refC {cR' : Nat} (h : JX W p q N c B cR M R F G v L w) (ho : RFOut W.heap.size w q G v R' w') (hd : CntM R' cR') : JS W p q N c B cR' M R' w' := by
  obtain ⟨G', v', L', h1, h2, h3, h4⟩ := ho
  have := h.ref (cR := cR) (R' := R') ⟨G', v', L', h1, h2, h3, h4⟩
  refine ⟨F, G', v', L', h.fx.chg h3 (fun b hF hb => h.dis b hF ?_) h.rf.writB, h1, h2, len_cnt h1.ids (by rw [h2]; exact hd), fun b hF hb => ?_⟩
  · rcases hb with hb | hb
    · exact .inr (.inl hb)
    · exact .inr (.inr hb)
  · rcases h4 b hb with h5 | h5
    · exact h.dis b hF h5
    · have := h.fx.lt b hF; omega
end

theorem FitM.damage {B : Nat} {M : Fo} (h : FitM B M) (id : Int) (c : R4) : FitM (B + 1) (turnS M id (damageT c)) := by
  unfold turnS
  split
  · exact h.mono (by omega)
  · rename_i s hs
    obtain ⟨h1, h2, h3, ⟨h4, h5, h6⟩, h7, h8, h9⟩ := h id s hs
    have hf : (damageT c s.pe).damage.length = s.pe.damage.length + 1 := by simp [damageT]
    exact (h.mono (by omega)).set (v := { s with pe := damageT c s.pe }) ⟨(show (damageT c s.pe).damage.length + s.ca.damage.length + s.cu.damage.length ≤ B + 1 by omega), Nat.le_succ_of_le h2, Nat.le_succ_of_le h3, ⟨Nat.le_succ_of_le h4, Nat.le_succ_of_le h5, Nat.le_succ_of_le h6⟩, Nat.le_succ_of_le h7, Nat.le_succ_of_le h8, Nat.le_succ_of_le h9⟩
theorem GoodM.damage {M : Fo} (h : GoodM M) (id : Int) (c : R4) : GoodM (turnS M id (damageT c)) := by
  unfold turnS
  split
  · exact h
  · rename_i s hs
    have ht := h.tidy _ _ hs
    have hk := h.kids _ _ hs
    exact h.turn hs rfl hk ht
theorem FitM.input {B : Nat} {M : Fo} (h : FitM B M) (id : Int) (al : Bool) (l : List R4) (hB : l.length ≤ B) : FitM B (turnS M id (inputT al l)) := by
  unfold turnS
  split
  · exact h
  · rename_i s hs
    obtain ⟨h1, h2, h3, ⟨h4, h5, h6⟩, h7, h8, h9⟩ := h id s hs
    have hf : (inputT al l s.pe).region.length ≤ B := by
      unfold inputT
      dsimp only
      split
      · simp
      · exact hB
    exact h.set (v := { s with pe := inputT al l s.pe }) ⟨h1, h2, h3, ⟨hf, h5, h6⟩, h7, h8, h9⟩
theorem GoodM.input {M : Fo} (h : GoodM M) (id : Int) (al : Bool) (l : List R4) : GoodM (turnS M id (inputT al l)) := by
  unfold turnS
  split
  · exact h
  · rename_i s hs
    have ht := h.tidy _ _ hs
    have hk := h.kids _ _ hs
    exact h.turn hs rfl hk ⟨⟨ht.1.1, fun e => (by cases e), ht.1.2.2⟩, ht.2⟩
theorem FitM.take {B : Nat} {M : Fo} (h : FitM B M) (id : Int) : FitM B (takeS M id) := by
  unfold takeS
  split
  · exact h
  · rename_i s hs
    obtain ⟨h1, h2, h3, h4, h5⟩ := h id s hs
    exact h.set (v := { s with cu := { s.cu with frames := [] } }) ⟨h1, (show s.pe.frames.length + s.ca.frames.length + 0 ≤ B by omega), h3, h4, h5⟩
theorem GoodM.take {M : Fo} (h : GoodM M) (id : Int) : GoodM (takeS M id) := by
  unfold takeS
  split
  · exact h
  · rename_i s hs
    have ht := h.tidy _ _ hs
    have hk := h.kids _ _ hs
    exact h.turn hs rfl hk ⟨ht.1, ht.2.1, ht.2.2.1, ht.2.2.2.1, ht.2.2.2.2⟩
theorem take_isS {M : Fo} (id : Int) : SameD M (takeS M id) := by
  unfold takeS
  split
  · exact .refl _
  · rename_i s hs
    exact .set (by rw [hs]; rfl) _
theorem NodM.take {M : Fo} (h : NodM M) (id : Int) : NodM (takeS M id) := by
  unfold takeS
  split
  · exact h
  · rename_i s hs
    have h1 := h _ _ hs
    exact h.set ⟨h1.pe, h1.ca, h1.cu⟩
def caddC (M : Fo) (c : Nat) (id : Int) : Nat := if faddK M c id = 0 then c + 1 else c
def cdropC (M : Fo) (c : Nat) (id : Int) : Nat := if (M id).isSome then c - 1 else c
theorem CntM.addC {M : Fo} {c : Nat} (h : CntM M c) (id : Int) : CntM (faddS M c id) (caddC M c id) := by
  unfold caddC
  split
  · rename_i h0; exact h.add h0
  · rename_i h0; unfold faddS; rw [if_neg h0]; exact h
theorem CntM.dropC {M : Fo} {c : Nat} (h : CntM M c) (id : Int) : CntM (fdropS M id) (cdropC M c id) := by
  unfold cdropC fdropS
  split
  · rename_i hs
    have hsd : SameD M (orphan (funsubS M id) id) := (unsub_isS id).trans (orphan_isS id)
    have h1 := h.same hsd
    have hs1 : (orphan (funsubS M id) id id).isSome = true := by rw [hsd id]; exact hs
    obtain ⟨k, rfl⟩ : ∃ k, c = k + 1 := by
      obtain ⟨l, h2, h3, h4⟩ := h
      have := (h4 id).2 hs
      refine ⟨c - 1, ?_⟩
      have : 0 < l.length := List.length_pos_of_mem this
      omega
    exact h1.less hs1
  · exact h
theorem GoodM.dropS {M : Fo} (h : GoodM M) (id : Int) : GoodM (fdropS M id) := by
  unfold fdropS
  split
  · rename_i hs
    exact (h.unsubS id).gone fun s hs => unsub_par h hs
  · exact h
theorem FitM.dropS {B : Nat} {M : Fo} (h : FitM B M) (id : Int) : FitM B (fdropS M id) := by
  unfold fdropS
  split
  · exact ((h.unsub id).orphan id).del
  · exact h
section
variable {W w w' : World} {p N c B : Nat} {M M' : Fo} {F : Nat → Prop} {ae : Nat → Addr}
theorem FX.stgs (h : FX W p N c B M F w) (hB : B ≤ 10000) : ∀ i t, M i = some t → ∀ j, j < 3 → (stS j t).order.length ≤ 1000000 ∧ (stS j t).places.length ≤ 1000000 := fun i t hi j hj => by
  have hf := h.fit i t hi
  have h1 := hf.p
  have h2 := hf.o
  rcases (by omega : j = 0 ∨ j = 1 ∨ j = 2) with rfl | rfl | rfl <;> simp only [stS] <;> constructor <;> simp <;> omega
theorem yAdd (hE : ErrF W.heap.size W ae) (h : FX W p N c B M F w) (id : Int) (hid : I64 id) (hN : N ≤ 1000000) (hc : c ≤ 1000000) :
    Calls Tryz.prog 38 #[.pointer (some ⟨p, 0, none⟩), .int .i64 id] w fun e w' => e = .returned (errV ae (faddK M c id)) ∧ XOut W p (N + 1) (caddC M c id) (B + 1) (faddS M c id) F w w' := by
  obtain ⟨mb, Z, hz⟩ := h.at_
  refine (fAdd_any w (hE.below h.below) hz h.good id hid h.cnt hN hc).mono ?_
  rintro e w' ⟨he, ho⟩
  exact ⟨he, h.out ho (h.good.add c hid) (h.cnt.addC id) (h.fit.add c)⟩
theorem yDrop (hE : ErrF W.heap.size W ae) (h : FX W p N c B M F w) (id : Int) (hid : I64 id) (hB : B ≤ 10000) :
    Calls Tryz.prog 40 #[.pointer (some ⟨p, 0, none⟩), .int .i64 id] w fun e w' => e = .returned (errV ae (fdropK M id)) ∧ XOut W p (N + 1) (cdropC M c id) B (fdropS M id) F w w' := by
  obtain ⟨mb, Z, hz⟩ := h.at_
  have hg := h.good.dropS id
  have hc := h.cnt.dropC id
  have hf := h.fit.dropS id
  cases hs : M id with
  | none =>
    refine (fDrop_none w (hE.below h.below) hz id hid hs).mono ?_
    rintro e w' ⟨he, rfl⟩
    have e1 : fdropK M id = 5 := by simp [fdropK, hs]
    have e2 : fdropS M id = M := by simp [fdropS, hs]
    rw [e1]
    rw [e2] at hg hc hf ⊢
    exact ⟨he, h.out h.at_.stay hg hc hf⟩
  | some s =>
    have e1 : fdropK M id = 0 := by simp [fdropK, hs]
    have e : fdropS M id = setM (orphan (funsubS M id) id) id none := by simp [fdropS, hs]
    rw [e1]
    have hnn := h.good.par_nn hs
    rcases (by omega : s.parent = 0 ∨ 0 < s.parent) with h0 | h0
    · refine (fDrop_free w hz id hid hs h0).mono ?_
      rintro e' w' ⟨he, ho⟩
      have eu : funsubS M id = M := by unfold funsubS; rw [hs]; dsimp only; split <;> simp [h0]
      have e2 : setM (orphan M id) id none = fdropS M id := by rw [e, eu]
      rw [e2] at ho
      exact ⟨he, h.out ho.out hg hc hf⟩
    · refine (fDrop_sub w (hE.below h.below) h.below.size hz h.good id hid hs h0 (h.stgs hB)).mono ?_
      rintro e' w' ⟨he, ho⟩
      rw [← e] at ho
      exact ⟨he, h.out ho.out hg hc hf⟩
theorem yUnsub (hE : ErrF W.heap.size W ae) (h : FX W p N c B M F w) (id : Int) (hid : I64 id) (hB : B ≤ 10000) :
    Calls Tryz.prog 44 #[.pointer (some ⟨p, 0, none⟩), .int .i64 id] w fun e w' => e = .returned (errV ae (childK M id)) ∧ XOut W p (N + 1) c B (funsubS M id) F w w' := by
  obtain ⟨mb, Z, hz⟩ := h.at_
  refine (fUnsub_any w (hE.below h.below) h.below.size hz h.good id hid (h.stgs hB)).mono ?_
  rintro e w' ⟨he, ho⟩
  exact ⟨he, h.out ho.out (h.good.unsubS id) (h.cnt.same (unsub_isS id)) (h.fit.unsub id)⟩
theorem yDamage (hE : ErrF W.heap.size W ae) (h : FX W p N c B M F w) (id : Int) (r : R4) (hid : I64 id) (hB : B ≤ 10000) :
    Calls Tryz.prog 16 #[.pointer (some ⟨p, 0, none⟩), .int .i64 id, .agg #[.int .i64 r.x, .int .i64 r.y, .int .i64 r.w, .int .i64 r.h]] w fun e w' => e = .returned (errV ae (thereK M id)) ∧ XOut W p (N + 1) c (B + 1) (turnS M id (damageT r)) F w w' := by
  obtain ⟨mb, Z, hz⟩ := h.at_
  refine (fDamage_any w (hE.below h.below) hz id r hid (fun t ht => by have := (h.fit id t ht).d; omega)).mono ?_
  rintro e w' ⟨he, ho⟩
  exact ⟨he, h.out ho (h.good.damage id r) (h.cnt.same (turn_isS _)) (h.fit.damage id r)⟩
theorem yFrame (hE : ErrF W.heap.size W ae) (h : FX W p N c B M F w) (id x : Int) (hid : I64 id) (hB : B ≤ 10000) :
    Calls Tryz.prog 17 #[.pointer (some ⟨p, 0, none⟩), .int .i64 id, .int .i64 x] w fun e w' => e = .returned (errV ae (thereK M id)) ∧ XOut W p (N + 1) c (B + 1) (turnS M id (frameT x)) F w w' := by
  obtain ⟨mb, Z, hz⟩ := h.at_
  refine (fFrame_any w (hE.below h.below) hz id x hid (fun t ht => by have := (h.fit id t ht).f; omega)).mono ?_
  rintro e w' ⟨he, ho⟩
  exact ⟨he, h.out ho (h.good.frame id x) (h.cnt.same (turn_isS _)) (h.fit.frame id x)⟩
theorem yInput (hE : ErrF W.heap.size W ae) (h : FX W p N c B M F w) (id : Int) (al : Bool) (v : Value) (l : List R4) (hid : I64 id) (hv : Rd w v 4 l.length (l.flatMap R4.enc)) (hvF : ∀ b, v.ownBlock = some b → ¬ F b) (hl : l.length ≤ B) (hB : B ≤ 10000) :
    Calls Tryz.prog 21 #[.pointer (some ⟨p, 0, none⟩), .int .i64 id, .bool al, v] w fun e w' => e = .returned (errV ae (thereK M id)) ∧ XOut W p (N + 1) c B (turnS M id (inputT al l)) F w w' := by
  obtain ⟨mb, Z, hz⟩ := h.at_
  refine (fInput_any w (hE.below h.below) hz id al v l hid hv hvF (by omega)).mono ?_
  rintro e w' ⟨he, ho⟩
  exact ⟨he, h.out ho (h.good.input id al l) (h.cnt.same (turn_isS _)) (h.fit.input id al l hl)⟩
theorem yAbove (hE : ErrF W.heap.size W ae) (h : FX W p N c B M F w) (id by' : Int) (hid : I64 id) (hby : I64 by') (hB : B ≤ 10000) :
    Calls Tryz.prog 19 #[.pointer (some ⟨p, 0, none⟩), .int .i64 id, .int .i64 by'] w fun e w' => e = .returned (errV ae (besK M id by')) ∧ XOut W p (N + 1) c (B + 1) (besS M id by' 1) F w w' := by
  obtain ⟨mb, Z, hz⟩ := h.at_
  refine (fAbove_any w (hE.below h.below) h.below.size hz h.good id by' hid hby (fun i t hi => by have := latest_len (h.fit i t hi); omega)).mono ?_
  rintro e w' ⟨he, ho⟩
  exact ⟨he, h.out ho.out (h.good.bes by' 1) (h.cnt.same (bes_isS _ _)) (h.fit.bes by' 1)⟩
theorem ySync (hE : ErrF W.heap.size W ae) (h : FX W p N c B M F w) (id : Int) (on : Bool) (hid : I64 id) :
    Calls Tryz.prog 106 #[.pointer (some ⟨p, 0, none⟩), .int .i64 id, .bool on] w fun e w' => e = .returned (errV ae (childK M id)) ∧ XOut W p (N + 1) c B (fsyncS M id on) F w w' := by
  obtain ⟨mb, Z, hz⟩ := h.at_
  refine (fSync_any w (hE.below h.below) hz h.good id on hid).mono ?_
  rintro e w' ⟨he, ho⟩
  exact ⟨he, h.out ho (h.good.sync on) (h.cnt.same (sync_isS _)) (h.fit.sync on)⟩
theorem yTake (h : FX W p N c B M F w) (id : Int) (hid : I64 id) :
    Calls Tryz.prog 51 #[.pointer (some ⟨p, 0, none⟩), .int .i64 id] w fun e w' => ∃ A cc, e = .returned (.slice A (takeL M id).length cc) ∧ Rd w' (.slice A (takeL M id).length cc) 1 (takeL M id).length ((takeL M id).map (Value.int .i64)) ∧ XOut W p (N + 1) c B (takeS M id) F w w' := by
  obtain ⟨mb, Z, hz⟩ := h.at_
  refine (fTake_any w hz id hid).mono ?_
  rintro e w' ⟨A, cc, he, hr, ho⟩
  exact ⟨A, cc, he, hr, h.out ho (h.good.take id) (h.cnt.same (take_isS id)) (h.fit.take id)⟩
theorem yCommit (hE : ErrF W.heap.size W ae) (h : FX W p N c B M F w) (id : Int) (hid : I64 id) (hB : B ≤ 50000) (hc : c ≤ 100000) (k : Nat) {rk : Int → Nat} {Bk : Nat}
    (hrk : ∀ j s, M j = some s → rk j ≤ Bk ∧ (s.parent ≠ 0 → rk s.parent < rk j)) (hk : ∀ s, M id = some s → Bk < k + rk id) :
    Calls Tryz.prog 52 #[.pointer (some ⟨p, 0, none⟩), .int .i64 id] w fun e w' => ∃ A cc, e = .returned (.tuple #[.slice A (fcomS (synB M) k M id).2.length cc, errV ae (thereK M id)]) ∧
      Rd w' (.slice A (fcomS (synB M) k M id).2.length cc) 1 (fcomS (synB M) k M id).2.length ((fcomS (synB M) k M id).2.map (Value.int .i64)) ∧ (∀ b, (Value.slice A (fcomS (synB M) k M id).2.length cc).ownBlock = some b → w.heap.size ≤ b) ∧ XOut W p N c B (fcomS (synB M) k M id).1 F w w' := by
  obtain ⟨mb, Z, hz⟩ := h.at_
  obtain ⟨k1, k2, k3⟩ := commit_keeps h.good h.fit hB h.cnt hrk hk
  have key : Calls Tryz.prog 52 #[.pointer (some ⟨p, 0, none⟩), .int .i64 id] w (CommitP w p mb N F (fcomS (synB M) k M id) (errV ae (thereK M id))) := by
    cases hs : M id with
    | none => exact fCommit_none w (hE.below h.below) hz id hid hs k
    | some s => exact fCommit_some w hz h.good id hid hs k (h.fit.mono hB) h.cnt hc hrk (hk s hs)
  refine key.mono ?_
  rintro e w' ⟨v, F', Z', he, hr, hb, hz', hg, hx⟩
  obtain ⟨A, cc, rfl, _⟩ := hr.form
  have hsz := h.below.size
  have hsz2 := hg.size
  refine ⟨A, cc, he, hr, hb, F', ⟨⟨mb, Z', hz'⟩, fun b hb => ?_, h.below.trans (hg.below hsz h.ge), k1, k3, k2⟩, hg, hx⟩
  rcases hx b hb with h4 | h4
  · exact h.ge b h4
  · omega
end
end Go.Proofs.YthkjicnnepkghaaGreatDoor
namespace Go.Proofs.YthkjicnnepkghaaGreatDoor
open Go.RowKit
set_option linter.unusedVariables false

structure Op17 where
  kind : Int
  id : Int
  a : Int
  b : Int
  r : R4
  l : List R4
instance : Inhabited Op17 := ⟨⟨0, 0, 0, 0, default, []⟩⟩
def Op17.good (o : Op17) : Prop := I64 o.kind ∧ I64 o.id ∧ I64 o.a ∧ I64 o.b
def Op17.cells (o : Op17) (lv : Value) : Array Value := #[.int .i64 o.kind, .int .i64 o.id, .int .i64 o.a, .int .i64 o.b, .int .i64 o.r.x, .int .i64 o.r.y, .int .i64 o.r.w, .int .i64 o.r.h, lv]

structure TXF (W : World) (p q ob N c B cR : Nat) (M R : Fo) (o : Op17) (lv : Value) (F G : Nat → Prop) (v : Value) (L : List RSf) (w : World) : Prop where
  jx : JX W p q N c B cR M R F G v L w
  op : w.heap[ob]? = some (.cells (o.cells lv) 33 (0, 0))
  obF : ¬ F ob
  obG : ¬ fullR q G v ob
def TX (W : World) (p q ob N c B cR : Nat) (M R : Fo) (o : Op17) (lv : Value) (w : World) : Prop := ∃ F G v L, TXF W p q ob N c B cR M R o lv F G v L w
section
variable {W w w' : World} {p q ob N c B cR : Nat} {M M' R R' : Fo} {o : Op17} {lv : Value} {F G : Nat → Prop} {v : Value} {L : List RSf} {ae : Nat → Addr}
theorem TX.js (h : TX W p q ob N c B cR M R o lv w) : JS W p q N c B cR M R w := by
  obtain ⟨F, G, v, L, h⟩ := h
  exact ⟨F, G, v, L, h.jx⟩
theorem TX.opc (h : TX W p q ob N c B cR M R o lv w) : w.heap[ob]? = some (.cells (o.cells lv) 33 (0, 0)) := by
  obtain ⟨F, G, v, L, h⟩ := h
  exact h.op
theorem TX.c0 (h : TX W p q ob N c B cR M R o lv w) : w.cell? ⟨ob, 0, none⟩ = some (.int .i64 o.kind) := cell_of_row w ob 0 _ _ _ h.opc
theorem TX.c1 (h : TX W p q ob N c B cR M R o lv w) : w.cell? ⟨ob, 1, none⟩ = some (.int .i64 o.id) := cell_of_row w ob 1 _ _ _ h.opc
theorem TX.c2 (h : TX W p q ob N c B cR M R o lv w) : w.cell? ⟨ob, 2, none⟩ = some (.int .i64 o.a) := cell_of_row w ob 2 _ _ _ h.opc
theorem TX.c3 (h : TX W p q ob N c B cR M R o lv w) : w.cell? ⟨ob, 3, none⟩ = some (.int .i64 o.b) := cell_of_row w ob 3 _ _ _ h.opc
theorem TX.c8 (h : TX W p q ob N c B cR M R o lv w) : w.cell? ⟨ob, 8, none⟩ = some lv := cell_of_row w ob 8 _ _ _ h.opc
theorem TXF.keep (h : TXF W p q ob N c B cR M R o lv F G v L w) (hb : Below w.heap.size w w') : TXF W p q ob N c B cR M R o lv F G v L w' :=
  ⟨h.jx.keep hb, (hb.block ob (lt_of_block h.op)).trans h.op, h.obF, h.obG⟩
theorem TX.keep (h : TX W p q ob N c B cR M R o lv w) (hb : Below w.heap.size w w') : TX W p q ob N c B cR M R o lv w' := by
  obtain ⟨F, G, v, L, h⟩ := h
  exact ⟨F, G, v, L, h.keep hb⟩
theorem TX.drew (h : TX W p q ob N c B cR M R o lv w) : TX W p q ob N c B cR M R o lv w.drew := h.keep (below_drewN (Below.refl _ _) 1)
theorem TX.good (h : TX W p q ob N c B cR M R o lv w) : GoodM M ∧ CntM M c ∧ FitM B M := h.js.good
theorem TXF.xout {N' c' B' : Nat} (h : TXF W p q ob N c B cR M R o lv F G v L w) (ho : XOut W p N' c' B' M' F w w') : TX W p q ob N' c' B' cR M' R o lv w' := by
  obtain ⟨F', h1, h2, h3⟩ := ho
  have hlt := lt_of_block h.op
  refine ⟨F', G, v, L, ⟨h1, h.jx.rf.chg h2 fun b hb hF => h.jx.dis b hF hb, h.jx.eqR, h.jx.len, fun b hF hb => ?_⟩, (h2.block ob hlt h.obF).trans h.op, fun hF => ?_, h.obG⟩
  · rcases h3 b hF with h4 | h4
    · exact h.jx.dis b h4 hb
    · have := h.jx.rf.fullLt b hb; omega
  · rcases h3 ob hF with h4 | h4
    · exact h.obF h4
    · omega
theorem TXF.rout {cR' : Nat} (h : TXF W p q ob N c B cR M R o lv F G v L w) (ho : RFOut W.heap.size w q G v R' w') (hcn : CntM R cR → CntM R' cR') : TX W p q ob N c B cR' M R' o lv w' := by
  have hcR : CntM R cR := by rw [← h.jx.eqR, ← h.jx.len]; exact toF_cnt h.jx.rf.ids
  obtain ⟨G', v', L', h1, h2, h3, h4⟩ := ho
  have hlt := lt_of_block h.op
  refine ⟨F, G', v', L', ⟨h.jx.fx.chg h3 (fun b hF hb => h.jx.dis b hF ?_) h.jx.rf.writB, h1, h2, len_cnt h1.ids (by rw [h2]; exact hcn hcR), fun b hF hb => ?_⟩, (h3.block ob hlt fun hb => h.obG ?_).trans h.op, h.obF, fun hb => ?_⟩
  · rcases hb with hb | hb
    · exact .inr (.inl hb)
    · exact .inr (.inr hb)
  · rcases h4 b hb with h5 | h5
    · exact h.jx.dis b hF h5
    · have := h.jx.fx.lt b hF; omega
  · rcases hb with hb | hb
    · exact .inr (.inl hb)
    · exact .inr (.inr hb)
  · rcases h4 ob hb with h5 | h5
    · exact h.obG h5
    · omega
theorem TX.prog {N' c' B' : Nat} {fn : FuncId} {args : Array Value} {e0 : Value} (h : TX W p q ob N c B cR M R o lv w) (hc : ∀ F, FX W p N c B M F w → Calls Tryz.prog fn args w fun e w' => e = .returned e0 ∧ XOut W p N' c' B' M' F w w') :
    Calls Tryz.prog fn args w fun e w' => e = .returned e0 ∧ TX W p q ob N' c' B' cR M' R o lv w' := by
  obtain ⟨F, G, v, L, h⟩ := h
  exact (hc F h.jx.fx).mono fun e w' ⟨he, ho⟩ => ⟨he, h.xout ho⟩
theorem TX.ref {cR' : Nat} {fn : FuncId} {args : Array Value} {e0 : Value} (h : TX W p q ob N c B cR M R o lv w) (hcn : CntM R cR → CntM R' cR')
    (hc : ∀ G v L, RefF W.heap.size w q G v L → toF L = R → L.length = cR → Calls Tryz.prog fn args w fun e w' => e = .returned e0 ∧ RFOut W.heap.size w q G v R' w') :
    Calls Tryz.prog fn args w fun e w' => e = .returned e0 ∧ TX W p q ob N c B cR' M R' o lv w' := by
  obtain ⟨F, G, v, L, h⟩ := h
  exact (hc G v L h.jx.rf h.jx.eqR h.jx.len).mono fun e w' ⟨he, ho⟩ => ⟨he, h.rout ho hcn⟩
theorem tKind17 (hE : Errs W.heap.size W ae) (h : TX W p q ob N c B cR M R o lv w) (k : Nat) (hk : k ≤ 16) :
    Calls Tryz.prog 37 #[errV ae k] w fun e w' => e = .returned (.int .i64 k) ∧ TX W p q ob N c B cR M R o lv w' :=
  (kind_any W.heap.size w ae k (hE.below h.js.below) hk).mono fun _ _ ⟨he, ho⟩ => ⟨he, h.keep ho⟩
theorem tAdd17 (hE : Errs W.heap.size W ae) (h : TX W p q ob N c B cR M R o lv w) (id : Int) (hid : I64 id) (hN : N ≤ 1000000) (hc : c ≤ 1000000) :
    Calls Tryz.prog 38 #[.pointer (some ⟨p, 0, none⟩), .int .i64 id] w fun e w' => e = .returned (errV ae (faddK M c id)) ∧ TX W p q ob (N + 1) (caddC M c id) (B + 1) cR (faddS M c id) R o lv w' :=
  h.prog (fn := 38) fun F hx => yAdd hE.five hx id hid hN hc
theorem tDrop17 (hE : Errs W.heap.size W ae) (h : TX W p q ob N c B cR M R o lv w) (id : Int) (hid : I64 id) (hB : B ≤ 10000) :
    Calls Tryz.prog 40 #[.pointer (some ⟨p, 0, none⟩), .int .i64 id] w fun e w' => e = .returned (errV ae (fdropK M id)) ∧ TX W p q ob (N + 1) (cdropC M c id) B cR (fdropS M id) R o lv w' :=
  h.prog (fn := 40) fun F hx => yDrop hE.five hx id hid hB
theorem tSub17 (hE : Errs W.heap.size W ae) (h : TX W p q ob N c B cR M R o lv w) (id parent : Int) (hid : I64 id) (hp : I64 parent) (hB : B ≤ 10000) :
    Calls Tryz.prog 42 #[.pointer (some ⟨p, 0, none⟩), .int .i64 id, .int .i64 parent] w fun e w' => e = .returned (errV ae (fsubK M id parent)) ∧ TX W p q ob (N + 1) c (B + 2) cR (fsubS M id parent) R o lv w' :=
  h.prog (fn := 42) fun F hx => xSub hE.five hx id parent hid hp hB
theorem tUnsub17 (hE : Errs W.heap.size W ae) (h : TX W p q ob N c B cR M R o lv w) (id : Int) (hid : I64 id) (hB : B ≤ 10000) :
    Calls Tryz.prog 44 #[.pointer (some ⟨p, 0, none⟩), .int .i64 id] w fun e w' => e = .returned (errV ae (childK M id)) ∧ TX W p q ob (N + 1) c B cR (funsubS M id) R o lv w' :=
  h.prog (fn := 44) fun F hx => yUnsub hE.five hx id hid hB
theorem tAttach17 (hE : Errs W.heap.size W ae) (h : TX W p q ob N c B cR M R o lv w) (id b : Int) (hid : I64 id) :
    Calls Tryz.prog 15 #[.pointer (some ⟨p, 0, none⟩), .int .i64 id, .int .i64 b] w fun e w' => e = .returned (errV ae (thereK M id)) ∧ TX W p q ob (N + 1) c B cR (turnS M id (attachT b)) R o lv w' :=
  h.prog (fn := 15) fun F hx => xAttach hE.five hx id b hid
theorem tDamage17 (hE : Errs W.heap.size W ae) (h : TX W p q ob N c B cR M R o lv w) (id : Int) (r : R4) (hid : I64 id) (hB : B ≤ 10000) :
    Calls Tryz.prog 16 #[.pointer (some ⟨p, 0, none⟩), .int .i64 id, .agg #[.int .i64 r.x, .int .i64 r.y, .int .i64 r.w, .int .i64 r.h]] w fun e w' => e = .returned (errV ae (thereK M id)) ∧ TX W p q ob (N + 1) c (B + 1) cR (turnS M id (damageT r)) R o lv w' :=
  h.prog (fn := 16) fun F hx => yDamage hE.five hx id r hid hB
theorem tFrame17 (hE : Errs W.heap.size W ae) (h : TX W p q ob N c B cR M R o lv w) (id x : Int) (hid : I64 id) (hB : B ≤ 10000) :
    Calls Tryz.prog 17 #[.pointer (some ⟨p, 0, none⟩), .int .i64 id, .int .i64 x] w fun e w' => e = .returned (errV ae (thereK M id)) ∧ TX W p q ob (N + 1) c (B + 1) cR (turnS M id (frameT x)) R o lv w' :=
  h.prog (fn := 17) fun F hx => yFrame hE.five hx id x hid hB
theorem tInput17 (hE : Errs W.heap.size W ae) (h : TX W p q ob N c B cR M R o lv w) (id : Int) (al : Bool) (u : Value) (l : List R4) (hid : I64 id) (hv : Rd w u 4 l.length (l.flatMap R4.enc)) (hvF : ∀ F, FX W p N c B M F w → ∀ b, u.ownBlock = some b → ¬ F b) (hl : l.length ≤ B) (hB : B ≤ 10000) :
    Calls Tryz.prog 21 #[.pointer (some ⟨p, 0, none⟩), .int .i64 id, .bool al, u] w fun e w' => e = .returned (errV ae (thereK M id)) ∧ TX W p q ob (N + 1) c B cR (turnS M id (inputT al l)) R o lv w' :=
  h.prog (fn := 21) fun F hx => yInput hE.five hx id al u l hid hv (hvF F hx) hl hB
theorem tPosition17 (hE : Errs W.heap.size W ae) (h : TX W p q ob N c B cR M R o lv w) (id x y : Int) (hid : I64 id) (hB : B ≤ 10000) :
    Calls Tryz.prog 18 #[.pointer (some ⟨p, 0, none⟩), .int .i64 id, .int .i64 x, .int .i64 y] w fun e w' => e = .returned (errV ae (childK M id)) ∧ TX W p q ob (N + 1) c (B + 1) cR (fposS M id x y) R o lv w' :=
  h.prog (fn := 18) fun F hx => xPosition hE.five hx id x y hid hB
theorem tAbove17 (hE : Errs W.heap.size W ae) (h : TX W p q ob N c B cR M R o lv w) (id by' : Int) (hid : I64 id) (hby : I64 by') (hB : B ≤ 10000) :
    Calls Tryz.prog 19 #[.pointer (some ⟨p, 0, none⟩), .int .i64 id, .int .i64 by'] w fun e w' => e = .returned (errV ae (besK M id by')) ∧ TX W p q ob (N + 1) c (B + 1) cR (besS M id by' 1) R o lv w' :=
  h.prog (fn := 19) fun F hx => yAbove hE.five hx id by' hid hby hB
theorem tBelow17 (hE : Errs W.heap.size W ae) (h : TX W p q ob N c B cR M R o lv w) (id by' : Int) (hid : I64 id) (hby : I64 by') (hB : B ≤ 10000) :
    Calls Tryz.prog 20 #[.pointer (some ⟨p, 0, none⟩), .int .i64 id, .int .i64 by'] w fun e w' => e = .returned (errV ae (besK M id by')) ∧ TX W p q ob (N + 1) c (B + 1) cR (besS M id by' 0) R o lv w' :=
  h.prog (fn := 20) fun F hx => xBelow hE.five hx id by' hid hby hB
theorem tSync17 (hE : Errs W.heap.size W ae) (h : TX W p q ob N c B cR M R o lv w) (id : Int) (on : Bool) (hid : I64 id) :
    Calls Tryz.prog 106 #[.pointer (some ⟨p, 0, none⟩), .int .i64 id, .bool on] w fun e w' => e = .returned (errV ae (childK M id)) ∧ TX W p q ob (N + 1) c B cR (fsyncS M id on) R o lv w' :=
  h.prog (fn := 106) fun F hx => ySync hE.five hx id on hid
theorem TX.size (h : TX W p q ob N c B cR M R o lv w) : W.heap.size ≤ w.heap.size := h.js.below.size
theorem FitM.lens (hF : FitM B R) (hB : B ≤ 10000) (i : Int) (t : Sf) (hi : R i = some t) : t.latest.length ≤ 100000 ∧ t.pe.places.length ≤ 99999 := by
  have h1 := latest_len (hF i t hi)
  have h2 := (hF i t hi).p
  omega
theorem FitM.stgs (hF : FitM B R) (hB : B ≤ 10000) (i : Int) (t : Sf) (hi : R i = some t) (j : Nat) (hj : j < 3) : (stS j t).order.length ≤ 1000000 ∧ (stS j t).places.length ≤ 1000000 := by
  have hf := hF i t hi
  have h1 := hf.p
  have h2 := hf.o
  rcases (by omega : j = 0 ∨ j = 1 ∨ j = 2) with rfl | rfl | rfl <;> simp only [stS] <;> constructor <;> simp <;> omega
theorem vAdd17 (h : TX W p q ob N c B cR M R o lv w) (id : Int) (hid : I64 id) (hl : cR ≤ 1000) :
    Calls Tryz.prog 39 #[.pointer (some ⟨q, 0, none⟩), .int .i64 id] w fun e w' => e = .returned (.int .i64 (faddK R cR id)) ∧ TX W p q ob N c B (caddC R cR id) M (faddS R cR id) o lv w' :=
  h.ref (fun hc => hc.addC id) fun G v L hr e1 e2 => by
    have := gAdd_any w h.size hr (by omega) id hid
    rw [e1, e2] at this; exact this
theorem vDrop17 (h : TX W p q ob N c B cR M R o lv w) (hG : GoodM R) (hF : FitM B R) (hB : B ≤ 10000) (id : Int) (hl : cR ≤ 1000) :
    Calls Tryz.prog 41 #[.pointer (some ⟨q, 0, none⟩), .int .i64 id] w fun e w' => e = .returned (.int .i64 (fdropK R id)) ∧ TX W p q ob N c B (cdropC R cR id) M (fdropS R id) o lv w' :=
  h.ref (fun hc => hc.dropC id) fun G v L hr e1 e2 => by
    have := gDrop_any w h.size hr (by omega) (by rw [e1]; exact hG) (by rw [e1]; exact hF.stgs hB) id
    rw [e1] at this; exact this
theorem vSub17 (h : TX W p q ob N c B cR M R o lv w) (hG : GoodM R) (hF : FitM B R) (hB : B ≤ 10000) (id parent : Int) (hl : cR ≤ 1000) :
    Calls Tryz.prog 43 #[.pointer (some ⟨q, 0, none⟩), .int .i64 id, .int .i64 parent] w fun e w' => e = .returned (.int .i64 (fsubK R id parent)) ∧ TX W p q ob N c B cR M (fsubS R id parent) o lv w' :=
  h.ref (fun hc => hc.same (sub_isS parent)) fun G v L hr e1 e2 => by
    have := gSub_any w hr (by omega) (by rw [e1]; exact hG) (by rw [e1]; exact hF.lens hB) id parent
    rw [e1] at this; exact this
theorem vUnsub17 (h : TX W p q ob N c B cR M R o lv w) (hG : GoodM R) (hF : FitM B R) (hB : B ≤ 10000) (id : Int) (hl : cR ≤ 1000) :
    Calls Tryz.prog 45 #[.pointer (some ⟨q, 0, none⟩), .int .i64 id] w fun e w' => e = .returned (.int .i64 (childK R id)) ∧ TX W p q ob N c B cR M (funsubS R id) o lv w' :=
  h.ref (fun hc => hc.same (unsub_isS id)) fun G v L hr e1 e2 => by
    have := gUnsub_any w hr (by omega) (by rw [e1]; exact hG) (by rw [e1]; exact hF.stgs hB) id
    rw [e1] at this; exact this
theorem vPosition17 (h : TX W p q ob N c B cR M R o lv w) (hG : GoodM R) (hF : FitM B R) (hB : B ≤ 10000) (id x y : Int) (hl : cR ≤ 1000) :
    Calls Tryz.prog 48 #[.pointer (some ⟨q, 0, none⟩), .int .i64 id, .int .i64 x, .int .i64 y] w fun e w' => e = .returned (.int .i64 (childK R id)) ∧ TX W p q ob N c B cR M (fposS R id x y) o lv w' :=
  h.ref (fun hc => hc.same (pos_isS x y)) fun G v L hr e1 e2 => by
    have := gPosition_any w hr (by omega) (by rw [e1]; exact hG) (by rw [e1]; exact fun i t hi => by have := hF.lens hB i t hi; omega) id x y
    rw [e1] at this; exact this
theorem vPut17 (h : TX W p q ob N c B cR M R o lv w) (hG : GoodM R) (hF : FitM B R) (hB : B ≤ 10000) (id by' : Int) (kk : Nat) (hkk : kk ≤ 1) (hl : cR ≤ 1000) :
    Calls Tryz.prog 49 #[.pointer (some ⟨q, 0, none⟩), .int .i64 id, .int .i64 by', .int .i64 kk] w fun e w' => e = .returned (.int .i64 (besK R id by')) ∧ TX W p q ob N c B cR M (besS R id by' kk) o lv w' :=
  h.ref (fun hc => hc.same (bes_isS by' kk)) fun G v L hr e1 e2 => by
    have := gPut17_any w hr (by omega) (by rw [e1]; exact hG) (by rw [e1]; exact fun i t hi => by have := hF.lens hB i t hi; omega) id by' kk hkk
    rw [e1] at this; exact this
end
end Go.Proofs.YthkjicnnepkghaaGreatDoor
