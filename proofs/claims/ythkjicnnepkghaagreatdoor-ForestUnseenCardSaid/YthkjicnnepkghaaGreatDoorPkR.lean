/-
  The laws of layer 17: a call at both: Commit, Attach, Take.
  The laws of layer 17: a call at both: Attach, Take, Sync.
  The laws of layer 17: a call at both: Sync, Damage, Frame, Input.
-/
import Derived.Test.YthkjicnnepkghaaGreatDoorPkStep17
namespace Go.Proofs.YthkjicnnepkghaaGreatDoor
open Go.RowKit
set_option linter.unusedVariables false

theorem commit_len {M : Fo} {id : Int} {B : Nat} {rk : Int → Nat} {Bk k c : Nat} (hG : GoodM M) (hF : FitM B M) (hB : B ≤ 50000) (hC : CntM M c) (hc1 : 1 ≤ c ∨ M id = none) (hrk : ∀ j s, M j = some s → rk j ≤ Bk ∧ (s.parent ≠ 0 → rk s.parent < rk j)) (hk : ∀ s, M id = some s → Bk < k + rk id) :
    (fcomS (synB M) k M id).2.length ≤ c := by
  cases hs : M id with
  | none => simp [fcomS, hs]
  | some s =>
    have hq : fcomS (synB M) k M id = if synB M id then (setM M id (some (cacheS s)), []) else comA (synB M) k (setM M id (some (cacheS s)), [id]) id := by simp [fcomS, hs]
    rw [hq]
    have h1 := hG.cache hs
    have h2 := hF.set (id := id) ((hF id s hs).cache)
    have h3 := hC.set hs (cacheS s)
    split
    · simp
    · have hrk2 : ∀ j s', setM M id (some (cacheS s)) j = some s' → rk j ≤ Bk ∧ (s'.parent ≠ 0 → rk s'.parent < rk j) := fun j s' hj => by
        rcases setM_eq hj with ⟨rfl, e⟩ | ⟨_, e⟩
        · cases e; have := hrk j s hs; exact this
        · exact hrk _ _ e
      have hpre : CPre (setM M id (some (cacheS s))) [id] id := ⟨h1, (fun j t hj => ((h2 j t hj).fits hB).1), by simp, (fun y hy => ⟨cacheS s, by simp at hy; subst hy; exact setM_same _ _ _, .inl (by simpa using hy)⟩)⟩
      have := comA_inv (sy := synB M) (rk := rk) (Bk := Bk) k _ [id] id (cacheS s) hpre (setM_same _ _ _) hrk2 (hk s hs)
      have h4 := h3.same this.2.isS
      obtain ⟨l, _, h6, h7⟩ := h4
      rw [← h6]
      refine nodup_len this.1.nd fun y hy => (h7 y).2 ?_
      obtain ⟨t, ht, _⟩ := this.1.mem y hy
      rw [ht]; rfl
section
variable {W w w' : World} {p q ob N c B cR : Nat} {M M' R R' : Fo} {o : Op17} {lv : Value} {F G : Nat → Prop} {v : Value} {L : List RSf} {ae : Nat → Addr}
theorem TXF.xoutF {N' c' B' : Nat} (h : TXF W p q ob N c B cR M R o lv F G v L w) (ho : XOut W p N' c' B' M' F w w') : ∃ F', TXF W p q ob N' c' B' cR M' R o lv F' G v L w' := by
  obtain ⟨F', h1, h2, h3⟩ := ho
  have hlt := lt_of_block h.op
  refine ⟨F', ⟨h1, h.jx.rf.chg h2 fun b hb hF => h.jx.dis b hF hb, h.jx.eqR, h.jx.len, fun b hF hb => ?_⟩, (h2.block ob hlt h.obF).trans h.op, fun hF => ?_, h.obG⟩
  · rcases h3 b hF with h4 | h4
    · exact h.jx.dis b h4 hb
    · have := h.jx.rf.fullLt b hb; omega
  · rcases h3 ob hF with h4 | h4
    · exact h.obF h4
    · omega
theorem tCommit17 (hE : Errs W.heap.size W ae) (h : TXF W p q ob N c B cR M R o lv F G v L w) (id : Int) (hid : I64 id) (hB : B ≤ 50000) (hc : c ≤ 100000) (k : Nat) {rk : Int → Nat} {Bk : Nat}
    (hrk : ∀ j s, M j = some s → rk j ≤ Bk ∧ (s.parent ≠ 0 → rk s.parent < rk j)) (hk : ∀ s, M id = some s → Bk < k + rk id) :
    Calls Tryz.prog 52 #[.pointer (some ⟨p, 0, none⟩), .int .i64 id] w fun e w' => ∃ A cc, e = .returned (.tuple #[.slice A (fcomS (synB M) k M id).2.length cc, errV ae (thereK M id)]) ∧
      Rd w' (.slice A (fcomS (synB M) k M id).2.length cc) 1 (fcomS (synB M) k M id).2.length ((fcomS (synB M) k M id).2.map (Value.int .i64)) ∧ (∀ b, (Value.slice A (fcomS (synB M) k M id).2.length cc).ownBlock = some b → w.heap.size ≤ b) ∧ ∃ F', TXF W p q ob N c B cR (fcomS (synB M) k M id).1 R o lv F' G v L w' := by
  refine (yCommit hE.five h.jx.fx id hid hB hc k hrk hk).mono ?_
  rintro e w' ⟨A, cc, he, hr, hb, ho⟩
  exact ⟨A, cc, he, hr, hb, h.xoutF ho⟩
theorem vCommit17 (h : TXF W p q ob N c B cR M R o lv F G v L w) (hG : GoodM R) (hF : FitM 50000 R) (hl : cR ≤ 1000) (id : Int) (k : Nat) {rk : Int → Nat} {Bk : Nat}
    (hrk : ∀ j s, R j = some s → rk j ≤ Bk ∧ (s.parent ≠ 0 → rk s.parent < rk j)) (hk : ∀ s, R id = some s → Bk < k + rk id) :
    Calls Tryz.prog 53 #[.pointer (some ⟨q, 0, none⟩), .int .i64 id] w fun e w' => ∃ A cc, e = .returned (.tuple #[.slice A (fcomS (synB R) k R id).2.length cc, .int .i64 (thereK R id)]) ∧
      Rd w' (.slice A (fcomS (synB R) k R id).2.length cc) 1 (fcomS (synB R) k R id).2.length ((fcomS (synB R) k R id).2.map (Value.int .i64)) ∧ TX W p q ob N c B cR M (fcomS (synB R) k R id).1 o lv w' ∧ Chg (writR q v) w w' := by
  have e1 := h.jx.eqR
  have := gCommit_any w h.jx.rf (by have := h.jx.len; omega) (by rw [e1]; exact hG) (by rw [e1]; exact hF) (rk := rk) (Bk := Bk) (by rw [e1]; exact hrk) id k (by rw [e1]; exact hk)
  rw [e1] at this
  refine this.mono ?_
  rintro e w' ⟨A, cc, he, hr, ho⟩
  have hc := ho
  obtain ⟨_, _, _, _, _, hc, _⟩ := hc
  exact ⟨A, cc, he, hr, h.rout ho fun hc => hc.same (com_isS _ _), hc⟩
end

set_option maxRecDepth 100000 in
set_option maxHeartbeats 2000000 in
theorem step17_13 {W w : World} {p q N c B : Nat} {M : Fo} {ae : Nat → Addr} (hE : Errs W.heap.size W ae) (h : JS W p q N c B c M M w) (hNd : NodM M) (hlim : N ≤ 1000 ∧ c ≤ 900 ∧ B ≤ 9000 ∧ 20 ≤ B) (o : Op17) (lA : Option Addr) (lc : Nat) (ho : o.good) (hj1 : 13 ≤ o.kind % 19) (hj2 : o.kind % 19 ≤ 17) :
    Calls Tryz.prog 9 #[.pointer (some ⟨p, 0, none⟩), .pointer (some ⟨q, 0, none⟩), .agg (o.cells (.slice lA o.l.length lc))] w (StepP W p q N c B) := by
  obtain ⟨y, hj⟩ : ∃ y, o.kind % 19 = y := ⟨_, rfl⟩
  rw [hj] at hj1 hj2
  obtain ⟨kd, id, a, b, ⟨rx, ry, rw', rh⟩, l⟩ := o
  obtain ⟨g0, g1, g2, g3⟩ := ho
  obtain ⟨l1, l2, l3, l4⟩ := hlim
  dsimp only at g0 g1 g2 g3 hj
  have hT := h.boxed ⟨kd, id, a, b, ⟨rx, ry, rw', rh⟩, l⟩ (.slice lA l.length lc)
  have hG := h.good.1
  have hF := h.good.2.2
  have hP := fun w => place_any kd 19 w (by omega) (by omega)
  rw [hj] at hP
  replace hP := hide hP
  unfold Op17.cells at hT ⊢
  dsimp only at hT ⊢
  clear h hj
  obtain ⟨w0, hw0⟩ : ∃ w0, w0 = w.alloc (.cells #[.int .i64 kd, .int .i64 id, .int .i64 a, .int .i64 b, .int .i64 rx, .int .i64 ry, .int .i64 rw', .int .i64 rh, .slice lA l.length lc] 33) := ⟨_, rfl⟩
  obtain ⟨ob, hob⟩ : ∃ ob, ob = w.heap.size := ⟨_, rfl⟩
  rw [← hob, ← hw0] at hT
  have d0 := hT.c0
  have d1 := hT.c1
  have d2 := hT.c2
  have d3 := hT.c3
  dsimp only at d0 d1 d2 d3
  replace hG := hide hG
  replace hF := hide hF
  replace hNd := hide hNd
  replace hw0 := hide hw0
  replace hob := hide hob
  have y0 : (y == 0) = false := by simp; omega
  have y1 : (y == 1) = false := by simp; omega
  have y2 : (y == 2) = false := by simp; omega
  have y3 : (y == 3) = false := by simp; omega
  have y4 : (y == 4) = false := by simp; omega
  have y5 : (y == 5) = false := by simp; omega
  have y6 : (y == 6) = false := by simp; omega
  have y7 : (y == 7) = false := by simp; omega
  have y8 : (y == 8) = false := by simp; omega
  have y9 : (y == 9) = false := by simp; omega
  have y10 : (y == 10) = false := by simp; omega
  have y11 : (y == 11) = false := by simp; omega
  have y12 : (y == 12) = false := by simp; omega
  have y18 : (y == 18) = false := by simp; omega
  have hk1 := thereK_le M id
  obtain ⟨pv, cS⟩ : ∃ pv : Option Addr, Hid (Calls Tryz.prog 36 #[.pointer (some ⟨q, 0, none⟩), .int .i64 id] w0 fun e w' => e = .returned (.pointer pv) ∧ w0 = w') := by
    cases hs : M id with
    | none => exact ⟨none, hide (hT.sNo (by omega) id hs)⟩
    | some s =>
      obtain ⟨F, G, v, L, k, g, cc, r, _, _, _, hx⟩ := hT.sAt (by omega) id hs
      exact ⟨_, hide hx⟩
  obtain ⟨F, G, v, L, hX⟩ := hT
  obtain ⟨rk, Bk, hrk⟩ := hG.out.rank
  have hkk : ∀ s, M id = some s → Bk < Bk + 1 + rk id := fun s hs => by omega
  have cC := hide (tCommit17 hE hX id g1 (by omega) (by omega) (Bk + 1) hrk hkk)
  have cV := hide (fun (w1 : World) (M1 : Fo) (F1 : Nat → Prop) (h1 : TXF W p q ob N c B c M1 M ⟨kd, id, a, b, ⟨rx, ry, rw', rh⟩, l⟩ (.slice lA l.length lc) F1 G v L w1) => vCommit17 h1 hG.out (hF.out.mono (by omega)) (by omega) id (Bk + 1) hrk hkk)
  have hlen := commit_len (c := c) (k := Bk + 1) (id := id) hG.out (hF.out) (by omega) hX.jx.fx.cnt (by
    cases hs : M id with
    | none => exact .inr rfl
    | some s =>
      refine .inl ?_
      obtain ⟨l', _, h2, h3⟩ := hX.jx.fx.cnt
      have := List.length_pos_of_mem ((h3 id).2 (by rw [hs]; rfl))
      omega) hrk hkk
  have hfl := hX.jx.rf.fullLt
  obtain ⟨Q, hQ⟩ : ∃ Q, Q = fcomS (synB M) (Bk + 1) M id := ⟨_, rfl⟩
  have hNd2 := hide (hNd.out.com (synB M) (Bk + 1) id)
  rw [← hQ] at cC cV hlen hNd2
  replace hQ := hide hQ
  replace hX := hide hX
  obtain ⟨Q1, xs⟩ := Q
  dsimp only at cC cV hlen hNd2
  replace hrk := hide hrk
  clear hkk
  go_enter Tryz.func9, Tryz.ntmps9
  go_wp2_with fail
  rw [← hob.out, ← hw0.out]
  refine cS.out.mono ?_
  rintro e w' ⟨rfl, rfl⟩
  clear cS
  cases pv with
  | none =>
    go_wp2_with (first | (go_at_call 14; refine (hP.out _).mono ?_; rintro e w' ⟨rfl, rfl⟩) | (go_at_call 52; refine cC.out.mono ?_; rintro e w1 ⟨A1, n1, rfl, r1, hb1, F1, hX1⟩; have dc := (TX.c1 ⟨_, _, _, _, hX1⟩); dsimp only at dc) | (go_at_call 53; refine (cV.out _ _ _ hX1).mono ?_; rintro e w2 ⟨A2, n2, rfl, r2, hc2, hch2⟩; have k1 : Rd w2 (.slice A1 xs.length n1) 1 xs.length (xs.map (Value.int .i64)) := r1.keepIn (G := fun b => w0.heap.size ≤ b) (fun _ b hb => hb1 b hb) hch2.size (fun b hb hl => hch2.block b hl fun hw => by have := hfl b (by rcases hw with hw | hw; exact .inr (.inl hw); exact .inr (.inr hw)); omega)) | (go_at_call 23; refine (sameInts_true w2 _ _ xs k1 r2 (by omega)).mono ?_; rintro e w3 ⟨rfl, q3, rfl⟩; have hc := hide (hc2.keep (below_drewN (Below.refl _ w2) q3)); clear r1 r2 k1) | (go_at_call 37; refine (tKind17 hE hc.out (thereK M id) hk1).mono ?_; clear hc; rintro e w' ⟨rfl, hc⟩; replace hc := hide hc))
    go_ret
    exact ⟨rfl, _, _, hc.out.js.mono (by omega) (by omega), hNd2.out, Nat.le_succ _⟩
  | some pa =>
    go_wp2_with (first | (go_at_call 14; refine (hP.out _).mono ?_; rintro e w' ⟨rfl, rfl⟩) | (go_at_call 52; refine cC.out.mono ?_; rintro e w1 ⟨A1, n1, rfl, r1, hb1, F1, hX1⟩; have dc := (TX.c1 ⟨_, _, _, _, hX1⟩); dsimp only at dc) | (go_at_call 53; refine (cV.out _ _ _ hX1).mono ?_; rintro e w2 ⟨A2, n2, rfl, r2, hc2, hch2⟩; have k1 : Rd w2 (.slice A1 xs.length n1) 1 xs.length (xs.map (Value.int .i64)) := r1.keepIn (G := fun b => w0.heap.size ≤ b) (fun _ b hb => hb1 b hb) hch2.size (fun b hb hl => hch2.block b hl fun hw => by have := hfl b (by rcases hw with hw | hw; exact .inr (.inl hw); exact .inr (.inr hw)); omega)) | (go_at_call 23; refine (sameInts_true w2 _ _ xs k1 r2 (by omega)).mono ?_; rintro e w3 ⟨rfl, q3, rfl⟩; have hc := hide (hc2.keep (below_drewN (Below.refl _ w2) q3)); clear r1 r2 k1) | (go_at_call 37; refine (tKind17 hE hc.out (thereK M id) hk1).mono ?_; clear hc; rintro e w' ⟨rfl, hc⟩; replace hc := hide hc))
    go_ret
    exact ⟨rfl, _, _, hc.out.js.mono (by omega) (by omega), hNd2.out, Nat.le_succ _⟩
end Go.Proofs.YthkjicnnepkghaaGreatDoor
namespace Go.Proofs.YthkjicnnepkghaaGreatDoor
open Go.RowKit
set_option linter.unusedVariables false

section
variable {W w w' w1 : World} {p q ob N c B cR : Nat} {M M' R R' : Fo} {o : Op17} {lv : Value} {F G : Nat → Prop} {v : Value} {L : List RSf} {ae : Nat → Addr} {id : Int} {k g cc : Nat} {r r' : RSf}
theorem TXF.turnW (h : TXF W p q ob N c B cR M R o lv F G v L w) (hh : Here W.heap.size w q G v L id k g cc r) (hs : R id = some r.s) (hc : Chg (fun b => b = g) w w1) (hr : RowAt W.heap.size w1 g cc L k r'.enc) (hid : r'.id = r.id) (hok : RSfOk w1 (grownG w w1 G) r') :
    TX W p q ob N c B cR M (setM R id (some r'.s)) o lv w1 := by
  have := h.jx.rf.turnOut2 hh hc hr hid hok
  rw [h.jx.eqR] at this
  exact h.rout this fun hcn => hcn.set hs _
theorem TXF.turnB {w2 : World} (h : TXF W p q ob N c B cR M R o lv F G v L w) (hh : Here W.heap.size w q G v L id k g cc r) (hs : R id = some r.s) (b1 : Below w.heap.size w w2) (hc : Chg (fun b => b = g) w2 w1) (hr : RowAt W.heap.size w1 g cc L k r'.enc) (hid : r'.id = r.id) (hok : RSfOk w2 (grownG w w2 G) r') :
    TX W p q ob N c B cR M (setM R id (some r'.s)) o lv w1 := by
  have := h.jx.rf.turnOut hh b1 hc hr hid hok
  rw [h.jx.eqR] at this
  exact h.rout this fun hcn => hcn.set hs _
theorem TXF.obg (h : TXF W p q ob N c B cR M R o lv F G v L w) (hh : Here W.heap.size w q G v L id k g cc r) : ob ≠ g := fun e => h.obG (by rw [e]; exact .inr (.inr (by rw [hh.form]; rfl)))
theorem turnS_none {f : St → St} (h : M id = none) : turnS M id f = M := by unfold turnS; rw [h]
theorem turnS_some {f : St → St} {s : Sf} (h : M id = some s) : turnS M id f = setM M id (some { s with pe := f s.pe }) := by unfold turnS; rw [h]
theorem thereK_none (h : M id = none) : thereK M id = 5 := by simp [thereK, h]
theorem thereK_some {s : Sf} (h : M id = some s) : thereK M id = 0 := by simp [thereK, h]
end

set_option maxRecDepth 100000 in
set_option maxHeartbeats 2000000 in
theorem step17_5 {W w : World} {p q N c B : Nat} {M : Fo} {ae : Nat → Addr} (hE : Errs W.heap.size W ae) (h : JS W p q N c B c M M w) (hNd : NodM M) (hlim : N ≤ 1000 ∧ c ≤ 900 ∧ B ≤ 9000 ∧ 20 ≤ B) (o : Op17) (lA : Option Addr) (lc : Nat) (ho : o.good) (hj : o.kind % 19 = 5) :
    Calls Tryz.prog 9 #[.pointer (some ⟨p, 0, none⟩), .pointer (some ⟨q, 0, none⟩), .agg (o.cells (.slice lA o.l.length lc))] w (StepP W p q N c B) := by
  obtain ⟨kd, id, a, b, ⟨rx, ry, rw', rh⟩, l⟩ := o
  obtain ⟨g0, g1, g2, g3⟩ := ho
  obtain ⟨l1, l2, l3, l4⟩ := hlim
  dsimp only at g0 g1 g2 g3 hj
  have hT := h.boxed ⟨kd, id, a, b, ⟨rx, ry, rw', rh⟩, l⟩ (.slice lA l.length lc)
  have hG := h.good.1
  have hF := h.good.2.2
  have hP := fun w => place_any kd 19 w (by omega) (by omega)
  rw [hj] at hP
  replace hP := hide hP
  unfold Op17.cells at hT ⊢
  dsimp only at hT ⊢
  clear h hj
  obtain ⟨w0, hw0⟩ : ∃ w0, w0 = w.alloc (.cells #[.int .i64 kd, .int .i64 id, .int .i64 a, .int .i64 b, .int .i64 rx, .int .i64 ry, .int .i64 rw', .int .i64 rh, .slice lA l.length lc] 33) := ⟨_, rfl⟩
  obtain ⟨ob, hob⟩ : ∃ ob, ob = w.heap.size := ⟨_, rfl⟩
  rw [← hob, ← hw0] at hT
  have d0 := hT.c0
  have d1 := hT.c1
  have d2 := hT.c2
  have d3 := hT.c3
  dsimp only at d0 d1 d2 d3
  replace hG := hide hG
  replace hF := hide hF
  replace hNd := hide hNd
  replace hw0 := hide hw0
  replace hob := hide hob
  cases hs : M id with
  | none =>
    have cS := hide (hT.sNo (by omega) id hs)
    have hc := hide hT
    have e1 := thereK_none hs
    have e2 : ∀ f, turnS M id f = M := fun f => turnS_none hs
    replace hT := hide hT
    go_enter Tryz.func9, Tryz.ntmps9
    go_wp2_with fail
    rw [← hob.out, ← hw0.out]
    refine cS.out.mono ?_
    rintro e w' ⟨rfl, rfl⟩
    clear cS
    go_wp2_with (first | (go_at_call 14; refine (hP.out _).mono ?_; rintro e w' ⟨rfl, rfl⟩) | (go_at_call 15; refine (tAttach17 hE hc.out id a g1).mono ?_; clear hc; rw [e1, e2]; rintro e w' ⟨rfl, hc⟩; replace hc := hide hc) | (go_at_call 37; refine (tKind17 hE hc.out 5 (by omega)).mono ?_; clear hc; rintro e w' ⟨rfl, hc⟩; replace hc := hide hc))
    go_ret
    exact ⟨rfl, _, _, hc.out.js.mono (by omega) (by omega), hNd.out, Nat.le_succ _⟩
  | some s =>
    have e1 := thereK_some hs
    have e2 : ∀ f, turnS M id f = setM M id (some { s with pe := f s.pe }) := fun f => turnS_some hs
    obtain ⟨F, G, v, L, k, g, cc, r, hX, hh, rfl, cS⟩ := hT.sAt (by omega) id hs
    replace cS := hide cS
    obtain ⟨W1, hW1⟩ : ∃ W1, W1 = ((w0.setCell ⟨g, k * 33 + 3, none⟩ (.bool true)).setCell ⟨g, k * 33 + 4, none⟩ (.int .i64 a)).drew := ⟨_, rfl⟩
    have hog := hX.obg hh
    have hng := (hh.ng hX.jx.rf).1
    have k3 : w0.cell? ⟨g, k * 33 + 3, none⟩ = some (.bool r.s.pe.attach) := hh.row.cell hh.lt (by decide)
    have k4 : w0.cell? ⟨g, k * 33 + 4, none⟩ = some (.int .i64 r.s.pe.buffer) := hh.row.cell hh.lt (by decide)
    have f3 := hh.row.free (k * 33 + 3)
    have f4 := hh.row.free (k * 33 + 4)
    have s1 : ∀ j u, (w0.setCell ⟨g, j, none⟩ u).cell? ⟨ob, 2, none⟩ = some (.int .i64 a) := fun j u => (World.cell?_setCell_other _ _ _ _ (fun e => hog (congrArg Addr.block e).symm)).trans d2
    have s2 : ∀ j u j' u', ((w0.setCell ⟨g, j, none⟩ u).setCell ⟨g, j', none⟩ u').cell? ⟨ob, 2, none⟩ = some (.int .i64 a) := fun j u j' u' => (World.cell?_setCell_other _ _ _ _ (fun e => hog (congrArg Addr.block e).symm)).trans (s1 j u)
    have hc : Hid (TX W p q ob N c B c M (turnS M id (attachT a)) ⟨kd, id, a, b, ⟨rx, ry, rw', rh⟩, l⟩ (.slice lA l.length lc) W1) := hide (by
      rw [e2, hW1]
      have hok0 : RSfOk w0 G ({ r with s := { r.s with pe := attachT a r.s.pe } } : RSf) := ⟨⟨hh.ok.pe.d, hh.ok.pe.f, hh.ok.pe.r, hh.ok.pe.o, hh.ok.pe.p⟩, hh.ok.ca, hh.ok.cu, ⟨hh.ok.peI.d, hh.ok.peI.f, hh.ok.peI.r, hh.ok.peI.o, hh.ok.peI.p⟩, hh.ok.caI, hh.ok.cuI, hh.ok.id64⟩
      refine (hX.turnW (r' := { r with s := { r.s with pe := attachT a r.s.pe } }) hh hs ?_ ?_ rfl ?_).drew
      · exact (Chg.setCell (F := fun b => b = g) w0 (a := ⟨g, k * 33 + 3, none⟩) rfl _).trans (Chg.setCell (F := fun b => b = g) _ (a := ⟨g, k * 33 + 4, none⟩) rfl _) (Ext.refl _ _)
      · exact (hh.row.set hh.lt (show 3 < 33 by decide) _).set hh.lt (show 4 < 33 by decide) _
      · exact ((hok0.setCell (a := ⟨g, k * 33 + 3, none⟩) hng _).setCell (a := ⟨g, k * 33 + 4, none⟩) hng _).mono fun b hb => .inl hb)
    have dc := hc.out.c1
    have dc2 := hc.out.c2
    dsimp only at dc dc2
    replace hW1 := hide hW1
    replace hs := hide hs
    clear hX hh hT
    go_enter Tryz.func9, Tryz.ntmps9
    go_wp2_with fail
    rw [← hob.out, ← hw0.out]
    refine cS.out.mono ?_
    rintro e w' ⟨rfl, rfl⟩
    clear cS
    go_wp2_with (go_at_call 14; refine (hP.out _).mono ?_; rintro e w' ⟨rfl, rfl⟩)
    go_region_held3 (fun w' => w'.cell? ⟨ob, 2, none⟩ = some (.int .i64 a)) (first | go_keep | exact s1 _ _ | exact s2 _ _ _ _) (fail)
    all_goals
      rw [← hW1.out]
      clear s1 s2
      go_wp2_with (first | (go_at_call 15; refine (tAttach17 hE hc.out id a g1).mono ?_; clear hc; rw [e1]; rintro e w' ⟨rfl, hc⟩; replace hc := hide hc) | (go_at_call 37; refine (tKind17 hE hc.out 0 (by omega)).mono ?_; clear hc; rintro e w' ⟨rfl, hc⟩; replace hc := hide hc))
      go_ret
      exact ⟨rfl, _, _, hc.out.js.mono (by omega) (by omega), hNd.out.turn id (fun _ => rfl), Nat.le_succ _⟩

set_option maxRecDepth 100000 in
set_option maxHeartbeats 2000000 in
theorem step17_18 {W w : World} {p q N c B : Nat} {M : Fo} {ae : Nat → Addr} (hE : Errs W.heap.size W ae) (h : JS W p q N c B c M M w) (hNd : NodM M) (hlim : N ≤ 1000 ∧ c ≤ 900 ∧ B ≤ 9000 ∧ 20 ≤ B) (o : Op17) (lA : Option Addr) (lc : Nat) (ho : o.good) (hj : o.kind % 19 = 18) :
    Calls Tryz.prog 9 #[.pointer (some ⟨p, 0, none⟩), .pointer (some ⟨q, 0, none⟩), .agg (o.cells (.slice lA o.l.length lc))] w (StepP W p q N c B) := by
  obtain ⟨kd, id, a, b, ⟨rx, ry, rw', rh⟩, l⟩ := o
  obtain ⟨g0, g1, g2, g3⟩ := ho
  obtain ⟨l1, l2, l3, l4⟩ := hlim
  dsimp only at g0 g1 g2 g3 hj
  have hT := h.boxed ⟨kd, id, a, b, ⟨rx, ry, rw', rh⟩, l⟩ (.slice lA l.length lc)
  have hG := h.good.1
  have hF := h.good.2.2
  have hP := fun w => place_any kd 19 w (by omega) (by omega)
  rw [hj] at hP
  replace hP := hide hP
  unfold Op17.cells at hT ⊢
  dsimp only at hT ⊢
  clear h hj
  obtain ⟨w0, hw0⟩ : ∃ w0, w0 = w.alloc (.cells #[.int .i64 kd, .int .i64 id, .int .i64 a, .int .i64 b, .int .i64 rx, .int .i64 ry, .int .i64 rw', .int .i64 rh, .slice lA l.length lc] 33) := ⟨_, rfl⟩
  obtain ⟨ob, hob⟩ : ∃ ob, ob = w.heap.size := ⟨_, rfl⟩
  rw [← hob, ← hw0] at hT
  have d0 := hT.c0
  have d1 := hT.c1
  have d2 := hT.c2
  have d3 := hT.c3
  dsimp only at d0 d1 d2 d3
  replace hG := hide hG
  replace hF := hide hF
  replace hNd := hide hNd
  replace hw0 := hide hw0
  replace hob := hide hob
  cases hs : M id with
  | none =>
    have cS := hide (hT.sNo (by omega) id hs)
    have e1 : takeL M id = [] := by simp [takeL, hs]
    have e2 : takeS M id = M := by simp [takeS, hs]
    have cT : Hid (Calls Tryz.prog 51 #[.pointer (some ⟨p, 0, none⟩), .int .i64 id] w0 fun e w' => ∃ A c', e = .returned (.slice A 0 c') ∧ JS W p q (N + 1) c B c M M w') := hide (by
      obtain ⟨F, G, v, L, hX⟩ := hT
      refine (yTake hX.jx.fx id g1).mono ?_
      rintro e w' ⟨A, c', he, _, ho⟩
      rw [e1] at he
      rw [e2] at ho
      exact ⟨A, c', he, hX.jx.prog ho⟩)
    replace hT := hide hT
    go_enter Tryz.func9, Tryz.ntmps9
    go_wp2_with fail
    rw [← hob.out, ← hw0.out]
    refine cS.out.mono ?_
    rintro e w' ⟨rfl, rfl⟩
    clear cS
    go_wp2_with (first | (go_at_call 14; refine (hP.out _).mono ?_; rintro e w' ⟨rfl, rfl⟩) | (go_at_call 51; refine cT.out.mono ?_; rintro e w' ⟨A5, c5, rfl, hc⟩; replace hc := hide hc))
    go_ret
    exact ⟨rfl, _, _, hc.out.mono (by omega) (by omega), hNd.out, Nat.le_succ _⟩
  | some s =>
    obtain ⟨F, G, v, L, k, g, cc, r, hX, hh, rfl, cS⟩ := hT.sAt (by omega) id hs
    replace cS := hide cS
    have e1 : takeL M id = r.s.cu.frames := by simp [takeL, hs]
    have e2 : takeS M id = setM M id (some { r.s with cu := { r.s.cu with frames := [] } }) := by simp [takeS, hs]
    obtain ⟨W1, hW1⟩ : ∃ W1, W1 = w0.setCell ⟨g, k * 33 + 26, none⟩ (.slice none 0 0) := ⟨_, rfl⟩
    have hng := (hh.ng hX.jx.rf).1
    have hrd := hh.ok.cu.f
    have hri := hh.ok.cuI.f
    obtain ⟨Af, cf, hf, _⟩ := hrd.form
    have k26 : w0.cell? ⟨g, k * 33 + 26, none⟩ = some r.cu.f := hh.row.cell hh.lt (by decide)
    rw [hf] at k26 hrd hri
    have f26 := hh.row.free (k * 33 + 26)
    have hfull := hX.jx.rf.fullLt
    have hdis := hX.jx.dis
    have hcg : Chg (fun b => b = g) w0 W1 := by rw [hW1]; exact Chg.setCell (F := fun b => b = g) w0 (a := ⟨g, k * 33 + 26, none⟩) rfl _
    have hr1 : Rd W1 (.slice Af r.s.cu.frames.length cf) 1 r.s.cu.frames.length (r.s.cu.frames.map (Value.int .i64)) := hrd.keepIn hri hcg.size fun b hb hl => hcg.block b hl fun e => hng (e ▸ hb)
    have hc : TX W p q ob N c B c M (takeS M id) ⟨kd, id, a, b, ⟨rx, ry, rw', rh⟩, l⟩ (.slice lA l.length lc) W1 := by
      rw [e2]
      have hok0 : RSfOk w0 G ({ r with s := { r.s with cu := { r.s.cu with frames := [] } }, cu := { r.cu with f := .slice none 0 0 } } : RSf) := ⟨hh.ok.pe, hh.ok.ca, ⟨hh.ok.cu.d, Rd.nil _ _, hh.ok.cu.r, hh.ok.cu.o, hh.ok.cu.p⟩, hh.ok.peI, hh.ok.caI, ⟨hh.ok.cuI.d, BlkIn.nil _ _, hh.ok.cuI.r, hh.ok.cuI.o, hh.ok.cuI.p⟩, hh.ok.id64⟩
      refine hX.turnW (r' := { r with s := { r.s with cu := { r.s.cu with frames := [] } }, cu := { r.cu with f := .slice none 0 0 } }) hh hs hcg ?_ rfl ?_
      · rw [hW1]; exact hh.row.set hh.lt (show 26 < 33 by decide) _
      · rw [hW1]; exact (hok0.setCell (a := ⟨g, k * 33 + 26, none⟩) hng _).mono fun b hb => .inl hb
    have dc := hc.c1
    dsimp only at dc
    have cT : Hid (Calls Tryz.prog 51 #[.pointer (some ⟨p, 0, none⟩), .int .i64 id] W1 fun e w' => ∃ A c', e = .returned (.slice A r.s.cu.frames.length c') ∧ Rd w' (.slice A r.s.cu.frames.length c') 1 r.s.cu.frames.length (r.s.cu.frames.map (Value.int .i64)) ∧ Rd w' (.slice Af r.s.cu.frames.length cf) 1 r.s.cu.frames.length (r.s.cu.frames.map (Value.int .i64)) ∧ JS W p q (N + 1) c B c (takeS M id) (takeS M id) w') := hide (by
      have hfx : FX W p N c B M F W1 := hX.jx.fx.chg hcg (fun b hb e => hdis b hb (by rw [e, hh.form]; exact .inr (.inr rfl))) (fun b e => by rw [e]; exact hX.jx.rf.writB g (by rw [hh.form]; exact .inr rfl))
      refine (yTake hfx id g1).mono ?_
      rintro e w' ⟨A, c', he, hr, ho⟩
      rw [e1] at he hr
      have ho2 := ho
      obtain ⟨F', _, h2, _⟩ := ho2
      refine ⟨A, c', he, hr, hr1.keepIn hri h2.size (fun b hb hl => h2.block b hl fun hF => hdis b hF (.inl hb)), ?_⟩
      have hrf := hX.jx.rf.turnOut2 (r' := { r with s := { r.s with cu := { r.s.cu with frames := [] } }, cu := { r.cu with f := .slice none 0 0 } }) hh hcg (by rw [hW1]; exact hh.row.set hh.lt (show 26 < 33 by decide) _) rfl (by
        have hok0 : RSfOk w0 G ({ r with s := { r.s with cu := { r.s.cu with frames := [] } }, cu := { r.cu with f := .slice none 0 0 } } : RSf) := ⟨hh.ok.pe, hh.ok.ca, ⟨hh.ok.cu.d, Rd.nil _ _, hh.ok.cu.r, hh.ok.cu.o, hh.ok.cu.p⟩, hh.ok.peI, hh.ok.caI, ⟨hh.ok.cuI.d, BlkIn.nil _ _, hh.ok.cuI.r, hh.ok.cuI.o, hh.ok.cuI.p⟩, hh.ok.id64⟩
        rw [hW1]; exact (hok0.setCell (a := ⟨g, k * 33 + 26, none⟩) hng _).mono fun b hb => .inl hb)
      rw [hX.jx.eqR, ← e2] at hrf
      obtain ⟨G', v', L', q1, q2, q3, q4⟩ := hrf
      have hJ : JX W p q N c B c M (takeS M id) F G' v' L' W1 := ⟨hfx, q1, q2, len_cnt q1.ids (by rw [q2]; exact hX.jx.fx.cnt.same (take_isS id)), fun b hF hb => by
        rcases q4 b hb with h5 | h5
        · exact hdis b hF h5
        · have := hX.jx.fx.lt b hF; omega⟩
      exact hJ.prog ho)
    have hlen : r.s.cu.frames.length ≤ 1000000 := by have := (hF.out id _ hs).f; omega
    replace hW1 := hide hW1
    replace hs := hide hs
    replace hf := hide hf
    clear hX hh hT hc hrd hr1
    go_enter Tryz.func9, Tryz.ntmps9
    go_wp2_with fail
    rw [← hob.out, ← hw0.out]
    refine cS.out.mono ?_
    rintro e w' ⟨rfl, rfl⟩
    clear cS
    go_upto_region 46 with (go_at_call 14; refine (hP.out _).mono ?_; rintro e w' ⟨rfl, rfl⟩)
    rw [← hW1.out]
    go_wp2_with (first | (go_at_call 51; refine cT.out.mono ?_; rintro e w3 ⟨A5, c5, rfl, r5, r6, hc⟩; replace hc := hide hc) | (go_at_call 23; refine (sameInts_true w3 _ _ r.s.cu.frames r5 r6 (by omega)).mono ?_; rintro e w4 ⟨rfl, q4, rfl⟩))
    go_ret
    exact ⟨rfl, _, _, (hc.out.drewN q4).mono (by omega) (by omega), hNd.out.take id, Nat.le_succ _⟩
end Go.Proofs.YthkjicnnepkghaaGreatDoor
namespace Go.Proofs.YthkjicnnepkghaaGreatDoor
open Go.RowKit
set_option linter.unusedVariables false

theorem fsyncS_none {M : Fo} {id : Int} {on : Bool} (h : M id = none) : fsyncS M id on = M := by unfold fsyncS; rw [h]
theorem fsyncS_free {M : Fo} {id : Int} {on : Bool} {s : Sf} (h : M id = some s) (hp : s.parent = 0) : fsyncS M id on = M := by unfold fsyncS; rw [h]; dsimp only; rw [if_pos hp]
theorem fsyncS_sub {M : Fo} {id : Int} {on : Bool} {s : Sf} (h : M id = some s) (hp : s.parent ≠ 0) : fsyncS M id on = setM M id (some { s with sync := on }) := by unfold fsyncS; rw [h]; dsimp only; rw [if_neg hp]
set_option maxRecDepth 100000 in
set_option maxHeartbeats 2000000 in
theorem syncs17_any {W w : World} {p q N c B : Nat} {M : Fo} {ae : Nat → Addr} (hE : Errs W.heap.size W ae) (h : JS W p q N c B c M M w) (hNd : NodM M) (hlim : N ≤ 1000 ∧ c ≤ 900 ∧ B ≤ 9000 ∧ 20 ≤ B) (o : Op17) (lA : Option Addr) (lc : Nat) (ho : o.good) (hj : o.kind % 19 = 12) :
    Calls Tryz.prog 50 #[.pointer (some ⟨p, 0, none⟩), .pointer (some ⟨q, 0, none⟩), .agg (o.cells (.slice lA o.l.length lc))] w (StepP W p q N c B) := by
  obtain ⟨kd, id, a, b, ⟨rx, ry, rw', rh⟩, l⟩ := o
  obtain ⟨g0, g1, g2, g3⟩ := ho
  obtain ⟨l1, l2, l3, l4⟩ := hlim
  dsimp only at g0 g1 g2 g3 hj
  have hT := h.boxed ⟨kd, id, a, b, ⟨rx, ry, rw', rh⟩, l⟩ (.slice lA l.length lc)
  have hG := h.good.1
  have hF := h.good.2.2
  have hP := fun w => place_any kd 19 w (by omega) (by omega)
  rw [hj] at hP
  replace hP := hide hP
  unfold Op17.cells at hT ⊢
  dsimp only at hT ⊢
  clear h hj
  obtain ⟨w0, hw0⟩ : ∃ w0, w0 = w.alloc (.cells #[.int .i64 kd, .int .i64 id, .int .i64 a, .int .i64 b, .int .i64 rx, .int .i64 ry, .int .i64 rw', .int .i64 rh, .slice lA l.length lc] 33) := ⟨_, rfl⟩
  obtain ⟨ob, hob⟩ : ∃ ob, ob = w.heap.size := ⟨_, rfl⟩
  rw [← hob, ← hw0] at hT
  have d0 := hT.c0
  have d1 := hT.c1
  have d2 := hT.c2
  have d3 := hT.c3
  dsimp only at d0 d1 d2 d3
  replace hG := hide hG
  replace hF := hide hF
  replace hNd := hide hNd
  replace hw0 := hide hw0
  replace hob := hide hob
  cases hs : M id with
  | none =>
    have cS := hide (hT.sNo (by omega) id hs)
    have hc := hide hT
    have e1 : childK M id = 5 := by simp [childK, hs]
    have e2 := fun on => fsyncS_none (on := on) hs
    replace hT := hide hT
    go_enter Tryz.func50, Tryz.ntmps50
    go_wp2_with fail
    rw [← hob.out, ← hw0.out]
    refine cS.out.mono ?_
    rintro e w' ⟨rfl, rfl⟩
    clear cS
    go_wp2_with (first | (go_at_call 106; refine (tSync17 hE hc.out id (bits BinOp.and IntKind.i64 a 1 == 0) g1).mono ?_; clear hc; rw [e1, e2]; rintro e w' ⟨rfl, hc⟩; replace hc := hide hc) | (go_at_call 37; refine (tKind17 hE hc.out 5 (by omega)).mono ?_; clear hc; rintro e w' ⟨rfl, hc⟩; replace hc := hide hc))
    go_ret
    exact ⟨rfl, _, _, hc.out.js.mono (by omega) (by omega), hNd.out, Nat.le_succ _⟩
  | some s =>
    obtain ⟨F, G, v, L, k, g, cc, r, hX, hh, rfl, cS⟩ := hT.sAt (by omega) id hs
    replace cS := hide cS
    have k1 : w0.cell? ⟨g, k * 33 + 1, none⟩ = some (.int .i64 r.s.parent) := hh.row.cell hh.lt (by decide)
    by_cases hp : r.s.parent = 0
    · have hc := hide hT
      have e1 : childK M id = 10 := by simp [childK, hs, hp]
      have e2 := fun on => fsyncS_free (on := on) hs hp
      rw [hp] at k1
      replace hT := hide hT
      replace hs := hide hs
      clear hX hh
      go_enter Tryz.func50, Tryz.ntmps50
      go_wp2_with fail
      rw [← hob.out, ← hw0.out]
      refine cS.out.mono ?_
      rintro e w' ⟨rfl, rfl⟩
      clear cS
      go_wp2_with (first | (go_at_call 106; refine (tSync17 hE hc.out id (bits BinOp.and IntKind.i64 a 1 == 0) g1).mono ?_; clear hc; rw [e1, e2]; rintro e w' ⟨rfl, hc⟩; replace hc := hide hc) | (go_at_call 37; refine (tKind17 hE hc.out 10 (by omega)).mono ?_; clear hc; rintro e w' ⟨rfl, hc⟩; replace hc := hide hc))
      go_ret
      exact ⟨rfl, _, _, hc.out.js.mono (by omega) (by omega), hNd.out, Nat.le_succ _⟩
    · have hpb : (r.s.parent != 0) = true := by simpa using hp
      have e1 : childK M id = 0 := by simp [childK, hs, hp]
      have e2 := fun on => fsyncS_sub (on := on) hs hp
      have hng := (hh.ng hX.jx.rf).1
      have hog := hX.obg hh
      have k2 : w0.cell? ⟨g, k * 33 + 2, none⟩ = some (.bool r.s.sync) := hh.row.cell hh.lt (by decide)
      have f2 := hh.row.free (k * 33 + 2)
      obtain ⟨W1, hW1⟩ : ∃ W1, W1 = w0.setCell ⟨g, k * 33 + 2, none⟩ (.bool (bits BinOp.and IntKind.i64 a 1 == 0)) := ⟨_, rfl⟩
      have hc : Hid (TX W p q ob N c B c M (fsyncS M id (bits BinOp.and IntKind.i64 a 1 == 0)) ⟨kd, id, a, b, ⟨rx, ry, rw', rh⟩, l⟩ (.slice lA l.length lc) W1) := hide (by
        rw [e2, hW1]
        have hok0 : RSfOk w0 G ({ r with s := { r.s with sync := (bits BinOp.and IntKind.i64 a 1 == 0) } } : RSf) := ⟨hh.ok.pe, hh.ok.ca, hh.ok.cu, hh.ok.peI, hh.ok.caI, hh.ok.cuI, hh.ok.id64⟩
        exact hX.turnW (r' := { r with s := { r.s with sync := (bits BinOp.and IntKind.i64 a 1 == 0) } }) hh hs (Chg.setCell (F := fun b => b = g) w0 (a := ⟨g, k * 33 + 2, none⟩) rfl _) (hh.row.set hh.lt (show 2 < 33 by decide) _) rfl ((hok0.setCell (a := ⟨g, k * 33 + 2, none⟩) hng _).mono fun b hb => .inl hb))
      have dc := hc.out.c1
      have dc2 := hc.out.c2
      dsimp only at dc dc2
      replace hW1 := hide hW1
      replace hs := hide hs
      replace hp := hide hp
      clear hX hh hT
      go_enter Tryz.func50, Tryz.ntmps50
      go_wp2_with fail
      rw [← hob.out, ← hw0.out]
      refine cS.out.mono ?_
      rintro e w' ⟨rfl, rfl⟩
      clear cS
      go_upto_region 8 with fail
      rw [← hW1.out]
      go_wp2_with (first | (go_at_call 106; refine (tSync17 hE hc.out id (bits BinOp.and IntKind.i64 a 1 == 0) g1).mono ?_; clear hc; rw [e1]; rintro e w' ⟨rfl, hc⟩; replace hc := hide hc) | (go_at_call 37; refine (tKind17 hE hc.out 0 (by omega)).mono ?_; clear hc; rintro e w' ⟨rfl, hc⟩; replace hc := hide hc))
      go_ret
      exact ⟨rfl, _, _, hc.out.js.mono (by omega) (by omega), hNd.out.sync id _, Nat.le_succ _⟩
theorem TX.cells {W w : World} {p q ob N c B cR : Nat} {M R : Fo} {o : Op17} {lv : Value} (h : TX W p q ob N c B cR M R o lv w) : w.cell? ⟨ob, 4, none⟩ = some (.int .i64 o.r.x) ∧ w.cell? ⟨ob, 5, none⟩ = some (.int .i64 o.r.y) ∧ w.cell? ⟨ob, 6, none⟩ = some (.int .i64 o.r.w) ∧ w.cell? ⟨ob, 7, none⟩ = some (.int .i64 o.r.h) :=
  ⟨cell_of_row w ob 4 _ _ _ h.opc, cell_of_row w ob 5 _ _ _ h.opc, cell_of_row w ob 6 _ _ _ h.opc, cell_of_row w ob 7 _ _ _ h.opc⟩
set_option maxRecDepth 100000 in
set_option maxHeartbeats 2000000 in
theorem step17_12 {W w : World} {p q N c B : Nat} {M : Fo} {ae : Nat → Addr} (hE : Errs W.heap.size W ae) (h : JS W p q N c B c M M w) (hNd : NodM M) (hlim : N ≤ 1000 ∧ c ≤ 900 ∧ B ≤ 9000 ∧ 20 ≤ B) (o : Op17) (lA : Option Addr) (lc : Nat) (ho : o.good) (hj : o.kind % 19 = 12) :
    Calls Tryz.prog 9 #[.pointer (some ⟨p, 0, none⟩), .pointer (some ⟨q, 0, none⟩), .agg (o.cells (.slice lA o.l.length lc))] w (StepP W p q N c B) := by
  have cY := syncs17_any hE (h.boxed o (.slice lA o.l.length lc)).js hNd hlim o lA lc ho hj
  obtain ⟨kd, id, a, b, ⟨rx, ry, rw', rh⟩, l⟩ := o
  obtain ⟨g0, g1, g2, g3⟩ := ho
  obtain ⟨l1, l2, l3, l4⟩ := hlim
  dsimp only at g0 g1 g2 g3 hj
  have hT := h.boxed ⟨kd, id, a, b, ⟨rx, ry, rw', rh⟩, l⟩ (.slice lA l.length lc)
  have hG := h.good.1
  have hF := h.good.2.2
  have hP := fun w => place_any kd 19 w (by omega) (by omega)
  rw [hj] at hP
  replace hP := hide hP
  unfold Op17.cells at hT ⊢
  dsimp only at hT ⊢
  clear h hj
  obtain ⟨w0, hw0⟩ : ∃ w0, w0 = w.alloc (.cells #[.int .i64 kd, .int .i64 id, .int .i64 a, .int .i64 b, .int .i64 rx, .int .i64 ry, .int .i64 rw', .int .i64 rh, .slice lA l.length lc] 33) := ⟨_, rfl⟩
  obtain ⟨ob, hob⟩ : ∃ ob, ob = w.heap.size := ⟨_, rfl⟩
  rw [← hob, ← hw0] at hT
  have d0 := hT.c0
  have d1 := hT.c1
  have d2 := hT.c2
  have d3 := hT.c3
  dsimp only at d0 d1 d2 d3
  replace hG := hide hG
  replace hF := hide hF
  replace hNd := hide hNd
  replace hw0 := hide hw0
  replace hob := hide hob
  dsimp only [Op17.cells] at cY
  rw [← hw0.out] at cY
  replace cY := hide cY
  obtain ⟨d4, d5, d6, d7⟩ := hT.cells
  have d8 := hT.c8
  dsimp only at d4 d5 d6 d7 d8
  obtain ⟨pv, cS⟩ : ∃ pv : Option Addr, Hid (Calls Tryz.prog 36 #[.pointer (some ⟨q, 0, none⟩), .int .i64 id] w0 fun e w' => e = .returned (.pointer pv) ∧ w0 = w') := by
    cases hs : M id with
    | none => exact ⟨none, hide (hT.sNo (by omega) id hs)⟩
    | some s =>
      obtain ⟨F, G, v, L, k, g, cc, r, _, _, _, hx⟩ := hT.sAt (by omega) id hs
      exact ⟨_, hide hx⟩
  replace hT := hide hT
  go_enter Tryz.func9, Tryz.ntmps9
  go_wp2_with fail
  rw [← hob.out, ← hw0.out]
  refine cS.out.mono ?_
  rintro e w' ⟨rfl, rfl⟩
  clear cS
  cases pv with
  | none =>
    go_wp2_with (first | (go_at_call 14; refine (hP.out _).mono ?_; rintro e w' ⟨rfl, rfl⟩) | (go_at_call 50; refine cY.out.mono ?_; rintro e w' ⟨rfl, hc⟩; replace hc := hide hc))
    go_ret
    exact ⟨rfl, hc.out⟩
  | some pa =>
    go_wp2_with (first | (go_at_call 14; refine (hP.out _).mono ?_; rintro e w' ⟨rfl, rfl⟩) | (go_at_call 50; refine cY.out.mono ?_; rintro e w' ⟨rfl, hc⟩; replace hc := hide hc))
    go_ret
    exact ⟨rfl, hc.out⟩
end Go.Proofs.YthkjicnnepkghaaGreatDoor
