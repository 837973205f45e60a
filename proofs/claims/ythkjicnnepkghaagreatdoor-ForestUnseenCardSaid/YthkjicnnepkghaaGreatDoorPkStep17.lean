/-
  The laws of layer 17: a call at both.
-/
import Derived.Test.YthkjicnnepkghaaGreatDoorPkQ
import Derived.Deep.RegionHeld3
import Derived.Deep.DeepCutAuto
namespace Go.Proofs.YthkjicnnepkghaaGreatDoor
open Go.RowKit
set_option linter.unusedVariables false

theorem faddK_le (M : Fo) (c : Nat) (id : Int) : faddK M c id ≤ 16 := by unfold faddK; split <;> (try split) <;> (try split) <;> omega
theorem fdropK_le (M : Fo) (id : Int) : fdropK M id ≤ 16 := by unfold fdropK; split <;> omega
theorem fsubK_le (M : Fo) (id x : Int) : fsubK M id x ≤ 16 := by unfold fsubK; split <;> (try split) <;> (try split) <;> omega
theorem childK_le (M : Fo) (id : Int) : childK M id ≤ 16 := by unfold childK; split <;> (try split) <;> omega
theorem thereK_le (M : Fo) (id : Int) : thereK M id ≤ 16 := by unfold thereK; split <;> omega
theorem besK_le (M : Fo) (id x : Int) : besK M id x ≤ 16 := by
  unfold besK
  split
  · omega
  · split
    · omega
    · split
      · omega
      · split
        · omega
        · split <;> omega
theorem caddC_le (M : Fo) (c : Nat) (id : Int) : caddC M c id ≤ c + 1 := by unfold caddC; split <;> omega
theorem cdropC_le (M : Fo) (c : Nat) (id : Int) : cdropC M c id ≤ c + 1 := by unfold cdropC; split <;> omega

def StepP (W : World) (p q N c B : Nat) (e : Ending) (w' : World) : Prop := e = .returned (.bool true) ∧ ∃ M' c', JS W p q (N + 1) c' (B + 2) c' M' M' w' ∧ NodM M' ∧ c' ≤ c + 1

theorem JS.boxed {W w : World} {p q N c B : Nat} {M : Fo} (h : JS W p q N c B c M M w) (o : Op17) (lv : Value) : TX W p q w.heap.size N c B c M M o lv (w.alloc (.cells (o.cells lv) 33)) := by
  obtain ⟨F, G, v, L, h⟩ := h
  exact ⟨F, G, v, L, h.keep ((Below.refl _ w).alloc (Nat.le_refl _) _), heap_alloc_new _ _, fun hb => by have := h.fx.lt _ hb; omega, fun hb => by have := h.rf.fullLt _ hb; omega⟩
theorem TX.sNo {W w : World} {p q ob N c B cR : Nat} {M R : Fo} {o : Op17} {lv : Value} (h : TX W p q ob N c B cR M R o lv w) (hl : cR ≤ 1000) (id : Int) (hs : R id = none) :
    Calls Tryz.prog 36 #[.pointer (some ⟨q, 0, none⟩), .int .i64 id] w fun e w' => e = .returned (.pointer none) ∧ w = w' := by
  obtain ⟨F, G, v, L, h⟩ := h
  exact gS_no h.jx.rf (by have := h.jx.len; omega) (by rw [h.jx.eqR]; exact hs)
theorem TX.sAt {W w : World} {p q ob N c B cR : Nat} {M R : Fo} {o : Op17} {lv : Value} (h : TX W p q ob N c B cR M R o lv w) (hl : cR ≤ 1000) (id : Int) {s : Sf} (hs : R id = some s) :
    ∃ F G v L k g cc r, TXF W p q ob N c B cR M R o lv F G v L w ∧ Here W.heap.size w q G v L id k g cc r ∧ r.s = s ∧ Calls Tryz.prog 36 #[.pointer (some ⟨q, 0, none⟩), .int .i64 id] w fun e w' => e = .returned (.pointer (some ⟨g, k * 33, none⟩)) ∧ w = w' := by
  obtain ⟨F, G, v, L, h⟩ := h
  obtain ⟨k, g, cc, r, hh, e⟩ := h.jx.rf.here (id := id) (s := s) (by rw [h.jx.eqR]; exact hs)
  exact ⟨F, G, v, L, k, g, cc, r, h, hh, e, gS_at h.jx.rf (by have := h.jx.len; omega) hh⟩

set_option maxRecDepth 100000 in
set_option maxHeartbeats 2000000 in
theorem step17_0 {W w : World} {p q N c B : Nat} {M : Fo} {ae : Nat → Addr} (hE : Errs W.heap.size W ae) (h : JS W p q N c B c M M w) (hNd : NodM M) (hlim : N ≤ 1000 ∧ c ≤ 900 ∧ B ≤ 9000 ∧ 20 ≤ B) (o : Op17) (lA : Option Addr) (lc : Nat) (ho : o.good) (hj : o.kind % 19 = 0) :
    Calls Tryz.prog 9 #[.pointer (some ⟨p, 0, none⟩), .pointer (some ⟨q, 0, none⟩), .agg (o.cells (.slice lA o.l.length lc))] w (StepP W p q N c B) := by
  obtain ⟨kd, id, a, b, ⟨rx, ry, rw', rh⟩, l⟩ := o
  obtain ⟨g0, g1, g2, g3⟩ := ho
  obtain ⟨l1, l2, l3, l4⟩ := hlim
  dsimp only at g0 g1 g2 g3 hj
  have hT := h.boxed ⟨kd, id, a, b, ⟨rx, ry, rw', rh⟩, l⟩ (.slice lA l.length lc)
  have hG := h.good.1
  have hF := h.good.2.2
  have hP := fun w => place_any kd 19 w (by omega) (by omega)
  rw [hj] at hP
  replace hP := hide hP
  unfold Op17.cells at hT ⊢
  dsimp only at hT ⊢
  clear h hj
  obtain ⟨w0, hw0⟩ : ∃ w0, w0 = w.alloc (.cells #[.int .i64 kd, .int .i64 id, .int .i64 a, .int .i64 b, .int .i64 rx, .int .i64 ry, .int .i64 rw', .int .i64 rh, .slice lA l.length lc] 33) := ⟨_, rfl⟩
  obtain ⟨ob, hob⟩ : ∃ ob, ob = w.heap.size := ⟨_, rfl⟩
  rw [← hob, ← hw0] at hT
  have d0 := hT.c0
  have d1 := hT.c1
  have d2 := hT.c2
  have d3 := hT.c3
  dsimp only at d0 d1 d2 d3
  replace hG := hide hG
  replace hF := hide hF
  replace hNd := hide hNd
  replace hw0 := hide hw0
  replace hob := hide hob
  obtain ⟨pv, cS⟩ : ∃ pv : Option Addr, Hid (Calls Tryz.prog 36 #[.pointer (some ⟨q, 0, none⟩), .int .i64 id] w0 fun e w' => e = .returned (.pointer pv) ∧ w0 = w') := by
    cases hs : M id with
    | none => exact ⟨none, hide (hT.sNo (by omega) id hs)⟩
    | some s =>
      obtain ⟨F, G, v, L, k, g, cc, r, _, _, _, hx⟩ := hT.sAt (by omega) id hs
      exact ⟨_, hide hx⟩
  have hc := hide hT.drew
  replace hT := hide hT
  go_enter Tryz.func9, Tryz.ntmps9
  go_wp2_with fail
  rw [← hob.out, ← hw0.out]
  refine cS.out.mono ?_
  rintro e w' ⟨rfl, rfl⟩
  clear cS
  have hk1 := faddK_le M c id
  cases pv with
  | none =>
    go_wp2_with (go_at_call 14; refine (hP.out _).mono ?_; rintro e w' ⟨rfl, rfl⟩)
    go_region_held3 (fun w' => w'.cell? ⟨ob, 1, none⟩ = some (.int .i64 id)) (go_keep)
      (first
      | (go_at_call 38; refine (tAdd17 hE hc.out id g1 (by omega) (by omega)).mono ?_; clear hc; rintro e w' ⟨rfl, hc⟩; have dc := hc.c1; have dc2 := hc.c2; have dc3 := hc.c3; dsimp only at dc dc2 dc3; replace hc := hide hc)
      | (go_at_call 37; refine (tKind17 hE hc.out (faddK M c id) hk1).mono ?_; clear hc; rintro e w' ⟨rfl, hc⟩; have dc := hc.c1; have dc2 := hc.c2; have dc3 := hc.c3; dsimp only at dc dc2 dc3; replace hc := hide hc)
      | (go_at_call 39; refine (vAdd17 hc.out id g1 (by omega)).mono ?_; clear hc; rintro e w' ⟨rfl, hc⟩; have dc := hc.c1; have dc2 := hc.c2; have dc3 := hc.c3; dsimp only at dc dc2 dc3; replace hc := hide hc)
      )
    go_wp2
    go_ret
    exact ⟨rfl, _, _, hc.out.js.mono (by omega) (by omega), (hNd.out.add _ _), (caddC_le _ _ _)⟩
  | some pa =>
    go_wp2_with (go_at_call 14; refine (hP.out _).mono ?_; rintro e w' ⟨rfl, rfl⟩)
    go_region_held3 (fun w' => w'.cell? ⟨ob, 1, none⟩ = some (.int .i64 id)) (go_keep)
      (first
      | (go_at_call 38; refine (tAdd17 hE hc.out id g1 (by omega) (by omega)).mono ?_; clear hc; rintro e w' ⟨rfl, hc⟩; have dc := hc.c1; have dc2 := hc.c2; have dc3 := hc.c3; dsimp only at dc dc2 dc3; replace hc := hide hc)
      | (go_at_call 37; refine (tKind17 hE hc.out (faddK M c id) hk1).mono ?_; clear hc; rintro e w' ⟨rfl, hc⟩; have dc := hc.c1; have dc2 := hc.c2; have dc3 := hc.c3; dsimp only at dc dc2 dc3; replace hc := hide hc)
      | (go_at_call 39; refine (vAdd17 hc.out id g1 (by omega)).mono ?_; clear hc; rintro e w' ⟨rfl, hc⟩; have dc := hc.c1; have dc2 := hc.c2; have dc3 := hc.c3; dsimp only at dc dc2 dc3; replace hc := hide hc)
      )
    go_wp2
    go_ret
    exact ⟨rfl, _, _, hc.out.js.mono (by omega) (by omega), (hNd.out.add _ _), (caddC_le _ _ _)⟩
set_option maxRecDepth 100000 in
set_option maxHeartbeats 2000000 in
theorem step17_1 {W w : World} {p q N c B : Nat} {M : Fo} {ae : Nat → Addr} (hE : Errs W.heap.size W ae) (h : JS W p q N c B c M M w) (hNd : NodM M) (hlim : N ≤ 1000 ∧ c ≤ 900 ∧ B ≤ 9000 ∧ 20 ≤ B) (o : Op17) (lA : Option Addr) (lc : Nat) (ho : o.good) (hj : o.kind % 19 = 1) :
    Calls Tryz.prog 9 #[.pointer (some ⟨p, 0, none⟩), .pointer (some ⟨q, 0, none⟩), .agg (o.cells (.slice lA o.l.length lc))] w (StepP W p q N c B) := by
  obtain ⟨kd, id, a, b, ⟨rx, ry, rw', rh⟩, l⟩ := o
  obtain ⟨g0, g1, g2, g3⟩ := ho
  obtain ⟨l1, l2, l3, l4⟩ := hlim
  dsimp only at g0 g1 g2 g3 hj
  have hT := h.boxed ⟨kd, id, a, b, ⟨rx, ry, rw', rh⟩, l⟩ (.slice lA l.length lc)
  have hG := h.good.1
  have hF := h.good.2.2
  have hP := fun w => place_any kd 19 w (by omega) (by omega)
  rw [hj] at hP
  replace hP := hide hP
  unfold Op17.cells at hT ⊢
  dsimp only at hT ⊢
  clear h hj
  obtain ⟨w0, hw0⟩ : ∃ w0, w0 = w.alloc (.cells #[.int .i64 kd, .int .i64 id, .int .i64 a, .int .i64 b, .int .i64 rx, .int .i64 ry, .int .i64 rw', .int .i64 rh, .slice lA l.length lc] 33) := ⟨_, rfl⟩
  obtain ⟨ob, hob⟩ : ∃ ob, ob = w.heap.size := ⟨_, rfl⟩
  rw [← hob, ← hw0] at hT
  have d0 := hT.c0
  have d1 := hT.c1
  have d2 := hT.c2
  have d3 := hT.c3
  dsimp only at d0 d1 d2 d3
  replace hG := hide hG
  replace hF := hide hF
  replace hNd := hide hNd
  replace hw0 := hide hw0
  replace hob := hide hob
  obtain ⟨pv, cS⟩ : ∃ pv : Option Addr, Hid (Calls Tryz.prog 36 #[.pointer (some ⟨q, 0, none⟩), .int .i64 id] w0 fun e w' => e = .returned (.pointer pv) ∧ w0 = w') := by
    cases hs : M id with
    | none => exact ⟨none, hide (hT.sNo (by omega) id hs)⟩
    | some s =>
      obtain ⟨F, G, v, L, k, g, cc, r, _, _, _, hx⟩ := hT.sAt (by omega) id hs
      exact ⟨_, hide hx⟩
  have hc := hide hT.drew
  replace hT := hide hT
  go_enter Tryz.func9, Tryz.ntmps9
  go_wp2_with fail
  rw [← hob.out, ← hw0.out]
  refine cS.out.mono ?_
  rintro e w' ⟨rfl, rfl⟩
  clear cS
  have hk1 := fdropK_le M id
  cases pv with
  | none =>
    go_wp2_with (go_at_call 14; refine (hP.out _).mono ?_; rintro e w' ⟨rfl, rfl⟩)
    go_region_held3 (fun w' => w'.cell? ⟨ob, 1, none⟩ = some (.int .i64 id)) (go_keep)
      (first
      | (go_at_call 40; refine (tDrop17 hE hc.out id g1 (by omega)).mono ?_; clear hc; rintro e w' ⟨rfl, hc⟩; have dc := hc.c1; have dc2 := hc.c2; have dc3 := hc.c3; dsimp only at dc dc2 dc3; replace hc := hide hc)
      | (go_at_call 37; refine (tKind17 hE hc.out (fdropK M id) hk1).mono ?_; clear hc; rintro e w' ⟨rfl, hc⟩; have dc := hc.c1; have dc2 := hc.c2; have dc3 := hc.c3; dsimp only at dc dc2 dc3; replace hc := hide hc)
      | (go_at_call 41; refine (vDrop17 hc.out hG.out (hF.out.mono (Nat.le_refl _)) (by omega) id (by omega)).mono ?_; clear hc; rintro e w' ⟨rfl, hc⟩; have dc := hc.c1; have dc2 := hc.c2; have dc3 := hc.c3; dsimp only at dc dc2 dc3; replace hc := hide hc)
      )
    go_wp2
    go_ret
    exact ⟨rfl, _, _, hc.out.js.mono (by omega) (by omega), (hNd.out.dropS _), (cdropC_le _ _ _)⟩
  | some pa =>
    go_wp2_with (go_at_call 14; refine (hP.out _).mono ?_; rintro e w' ⟨rfl, rfl⟩)
    go_region_held3 (fun w' => w'.cell? ⟨ob, 1, none⟩ = some (.int .i64 id)) (go_keep)
      (first
      | (go_at_call 40; refine (tDrop17 hE hc.out id g1 (by omega)).mono ?_; clear hc; rintro e w' ⟨rfl, hc⟩; have dc := hc.c1; have dc2 := hc.c2; have dc3 := hc.c3; dsimp only at dc dc2 dc3; replace hc := hide hc)
      | (go_at_call 37; refine (tKind17 hE hc.out (fdropK M id) hk1).mono ?_; clear hc; rintro e w' ⟨rfl, hc⟩; have dc := hc.c1; have dc2 := hc.c2; have dc3 := hc.c3; dsimp only at dc dc2 dc3; replace hc := hide hc)
      | (go_at_call 41; refine (vDrop17 hc.out hG.out (hF.out.mono (Nat.le_refl _)) (by omega) id (by omega)).mono ?_; clear hc; rintro e w' ⟨rfl, hc⟩; have dc := hc.c1; have dc2 := hc.c2; have dc3 := hc.c3; dsimp only at dc dc2 dc3; replace hc := hide hc)
      )
    go_wp2
    go_ret
    exact ⟨rfl, _, _, hc.out.js.mono (by omega) (by omega), (hNd.out.dropS _), (cdropC_le _ _ _)⟩
set_option maxRecDepth 100000 in
set_option maxHeartbeats 2000000 in
theorem step17_2 {W w : World} {p q N c B : Nat} {M : Fo} {ae : Nat → Addr} (hE : Errs W.heap.size W ae) (h : JS W p q N c B c M M w) (hNd : NodM M) (hlim : N ≤ 1000 ∧ c ≤ 900 ∧ B ≤ 9000 ∧ 20 ≤ B) (o : Op17) (lA : Option Addr) (lc : Nat) (ho : o.good) (hj : o.kind % 19 = 2) :
    Calls Tryz.prog 9 #[.pointer (some ⟨p, 0, none⟩), .pointer (some ⟨q, 0, none⟩), .agg (o.cells (.slice lA o.l.length lc))] w (StepP W p q N c B) := by
  obtain ⟨kd, id, a, b, ⟨rx, ry, rw', rh⟩, l⟩ := o
  obtain ⟨g0, g1, g2, g3⟩ := ho
  obtain ⟨l1, l2, l3, l4⟩ := hlim
  dsimp only at g0 g1 g2 g3 hj
  have hT := h.boxed ⟨kd, id, a, b, ⟨rx, ry, rw', rh⟩, l⟩ (.slice lA l.length lc)
  have hG := h.good.1
  have hF := h.good.2.2
  have hP := fun w => place_any kd 19 w (by omega) (by omega)
  rw [hj] at hP
  replace hP := hide hP
  unfold Op17.cells at hT ⊢
  dsimp only at hT ⊢
  clear h hj
  obtain ⟨w0, hw0⟩ : ∃ w0, w0 = w.alloc (.cells #[.int .i64 kd, .int .i64 id, .int .i64 a, .int .i64 b, .int .i64 rx, .int .i64 ry, .int .i64 rw', .int .i64 rh, .slice lA l.length lc] 33) := ⟨_, rfl⟩
  obtain ⟨ob, hob⟩ : ∃ ob, ob = w.heap.size := ⟨_, rfl⟩
  rw [← hob, ← hw0] at hT
  have d0 := hT.c0
  have d1 := hT.c1
  have d2 := hT.c2
  have d3 := hT.c3
  dsimp only at d0 d1 d2 d3
  replace hG := hide hG
  replace hF := hide hF
  replace hNd := hide hNd
  replace hw0 := hide hw0
  replace hob := hide hob
  obtain ⟨pv, cS⟩ : ∃ pv : Option Addr, Hid (Calls Tryz.prog 36 #[.pointer (some ⟨q, 0, none⟩), .int .i64 id] w0 fun e w' => e = .returned (.pointer pv) ∧ w0 = w') := by
    cases hs : M id with
    | none => exact ⟨none, hide (hT.sNo (by omega) id hs)⟩
    | some s =>
      obtain ⟨F, G, v, L, k, g, cc, r, _, _, _, hx⟩ := hT.sAt (by omega) id hs
      exact ⟨_, hide hx⟩
  have hc := hide hT.drew
  replace hT := hide hT
  go_enter Tryz.func9, Tryz.ntmps9
  go_wp2_with fail
  rw [← hob.out, ← hw0.out]
  refine cS.out.mono ?_
  rintro e w' ⟨rfl, rfl⟩
  clear cS
  have hk1 := fsubK_le M id a
  cases pv with
  | none =>
    go_wp2_with (go_at_call 14; refine (hP.out _).mono ?_; rintro e w' ⟨rfl, rfl⟩)
    go_region_held3 (fun w' => w'.cell? ⟨ob, 1, none⟩ = some (.int .i64 id) ∧ w'.cell? ⟨ob, 2, none⟩ = some (.int .i64 a)) (go_keep)
      (first
      | (go_at_call 42; refine (tSub17 hE hc.out id a g1 g2 (by omega)).mono ?_; clear hc; rintro e w' ⟨rfl, hc⟩; have dc := hc.c1; have dc2 := hc.c2; have dc3 := hc.c3; dsimp only at dc dc2 dc3; replace hc := hide hc)
      | (go_at_call 37; refine (tKind17 hE hc.out (fsubK M id a) hk1).mono ?_; clear hc; rintro e w' ⟨rfl, hc⟩; have dc := hc.c1; have dc2 := hc.c2; have dc3 := hc.c3; dsimp only at dc dc2 dc3; replace hc := hide hc)
      | (go_at_call 43; refine (vSub17 hc.out hG.out (hF.out.mono (by omega)) (by omega) id a (by omega)).mono ?_; clear hc; rintro e w' ⟨rfl, hc⟩; have dc := hc.c1; have dc2 := hc.c2; have dc3 := hc.c3; dsimp only at dc dc2 dc3; replace hc := hide hc)
      )
    go_wp2
    go_ret
    exact ⟨rfl, _, _, hc.out.js.mono (by omega) (by omega), (hNd.out.subS _ _), (Nat.le_succ _)⟩
  | some pa =>
    go_wp2_with (go_at_call 14; refine (hP.out _).mono ?_; rintro e w' ⟨rfl, rfl⟩)
    go_region_held3 (fun w' => w'.cell? ⟨ob, 1, none⟩ = some (.int .i64 id) ∧ w'.cell? ⟨ob, 2, none⟩ = some (.int .i64 a)) (go_keep)
      (first
      | (go_at_call 42; refine (tSub17 hE hc.out id a g1 g2 (by omega)).mono ?_; clear hc; rintro e w' ⟨rfl, hc⟩; have dc := hc.c1; have dc2 := hc.c2; have dc3 := hc.c3; dsimp only at dc dc2 dc3; replace hc := hide hc)
      | (go_at_call 37; refine (tKind17 hE hc.out (fsubK M id a) hk1).mono ?_; clear hc; rintro e w' ⟨rfl, hc⟩; have dc := hc.c1; have dc2 := hc.c2; have dc3 := hc.c3; dsimp only at dc dc2 dc3; replace hc := hide hc)
      | (go_at_call 43; refine (vSub17 hc.out hG.out (hF.out.mono (by omega)) (by omega) id a (by omega)).mono ?_; clear hc; rintro e w' ⟨rfl, hc⟩; have dc := hc.c1; have dc2 := hc.c2; have dc3 := hc.c3; dsimp only at dc dc2 dc3; replace hc := hide hc)
      )
    go_wp2
    go_ret
    exact ⟨rfl, _, _, hc.out.js.mono (by omega) (by omega), (hNd.out.subS _ _), (Nat.le_succ _)⟩
set_option maxRecDepth 100000 in
set_option maxHeartbeats 2000000 in
theorem step17_3 {W w : World} {p q N c B : Nat} {M : Fo} {ae : Nat → Addr} (hE : Errs W.heap.size W ae) (h : JS W p q N c B c M M w) (hNd : NodM M) (hlim : N ≤ 1000 ∧ c ≤ 900 ∧ B ≤ 9000 ∧ 20 ≤ B) (o : Op17) (lA : Option Addr) (lc : Nat) (ho : o.good) (hj : o.kind % 19 = 3) :
    Calls Tryz.prog 9 #[.pointer (some ⟨p, 0, none⟩), .pointer (some ⟨q, 0, none⟩), .agg (o.cells (.slice lA o.l.length lc))] w (StepP W p q N c B) := by
  obtain ⟨kd, id, a, b, ⟨rx, ry, rw', rh⟩, l⟩ := o
  obtain ⟨g0, g1, g2, g3⟩ := ho
  obtain ⟨l1, l2, l3, l4⟩ := hlim
  dsimp only at g0 g1 g2 g3 hj
  have hT := h.boxed ⟨kd, id, a, b, ⟨rx, ry, rw', rh⟩, l⟩ (.slice lA l.length lc)
  have hG := h.good.1
  have hF := h.good.2.2
  have hP := fun w => place_any kd 19 w (by omega) (by omega)
  rw [hj] at hP
  replace hP := hide hP
  unfold Op17.cells at hT ⊢
  dsimp only at hT ⊢
  clear h hj
  obtain ⟨w0, hw0⟩ : ∃ w0, w0 = w.alloc (.cells #[.int .i64 kd, .int .i64 id, .int .i64 a, .int .i64 b, .int .i64 rx, .int .i64 ry, .int .i64 rw', .int .i64 rh, .slice lA l.length lc] 33) := ⟨_, rfl⟩
  obtain ⟨ob, hob⟩ : ∃ ob, ob = w.heap.size := ⟨_, rfl⟩
  rw [← hob, ← hw0] at hT
  have d0 := hT.c0
  have d1 := hT.c1
  have d2 := hT.c2
  have d3 := hT.c3
  dsimp only at d0 d1 d2 d3
  replace hG := hide hG
  replace hF := hide hF
  replace hNd := hide hNd
  replace hw0 := hide hw0
  replace hob := hide hob
  obtain ⟨pv, cS⟩ : ∃ pv : Option Addr, Hid (Calls Tryz.prog 36 #[.pointer (some ⟨q, 0, none⟩), .int .i64 id] w0 fun e w' => e = .returned (.pointer pv) ∧ w0 = w') := by
    cases hs : M id with
    | none => exact ⟨none, hide (hT.sNo (by omega) id hs)⟩
    | some s =>
      obtain ⟨F, G, v, L, k, g, cc, r, _, _, _, hx⟩ := hT.sAt (by omega) id hs
      exact ⟨_, hide hx⟩
  have hc := hide hT.drew
  replace hT := hide hT
  go_enter Tryz.func9, Tryz.ntmps9
  go_wp2_with fail
  rw [← hob.out, ← hw0.out]
  refine cS.out.mono ?_
  rintro e w' ⟨rfl, rfl⟩
  clear cS
  have hk1 := fsubK_le M id a
  cases pv with
  | none =>
    go_wp2_with (go_at_call 14; refine (hP.out _).mono ?_; rintro e w' ⟨rfl, rfl⟩)
    go_region_held3 (fun w' => w'.cell? ⟨ob, 1, none⟩ = some (.int .i64 id) ∧ w'.cell? ⟨ob, 2, none⟩ = some (.int .i64 a)) (go_keep)
      (first
      | (go_at_call 42; refine (tSub17 hE hc.out id a g1 g2 (by omega)).mono ?_; clear hc; rintro e w' ⟨rfl, hc⟩; have dc := hc.c1; have dc2 := hc.c2; have dc3 := hc.c3; dsimp only at dc dc2 dc3; replace hc := hide hc)
      | (go_at_call 37; refine (tKind17 hE hc.out (fsubK M id a) hk1).mono ?_; clear hc; rintro e w' ⟨rfl, hc⟩; have dc := hc.c1; have dc2 := hc.c2; have dc3 := hc.c3; dsimp only at dc dc2 dc3; replace hc := hide hc)
      | (go_at_call 43; refine (vSub17 hc.out hG.out (hF.out.mono (by omega)) (by omega) id a (by omega)).mono ?_; clear hc; rintro e w' ⟨rfl, hc⟩; have dc := hc.c1; have dc2 := hc.c2; have dc3 := hc.c3; dsimp only at dc dc2 dc3; replace hc := hide hc)
      )
    go_wp2
    go_ret
    exact ⟨rfl, _, _, hc.out.js.mono (by omega) (by omega), (hNd.out.subS _ _), (Nat.le_succ _)⟩
  | some pa =>
    go_wp2_with (go_at_call 14; refine (hP.out _).mono ?_; rintro e w' ⟨rfl, rfl⟩)
    go_region_held3 (fun w' => w'.cell? ⟨ob, 1, none⟩ = some (.int .i64 id) ∧ w'.cell? ⟨ob, 2, none⟩ = some (.int .i64 a)) (go_keep)
      (first
      | (go_at_call 42; refine (tSub17 hE hc.out id a g1 g2 (by omega)).mono ?_; clear hc; rintro e w' ⟨rfl, hc⟩; have dc := hc.c1; have dc2 := hc.c2; have dc3 := hc.c3; dsimp only at dc dc2 dc3; replace hc := hide hc)
      | (go_at_call 37; refine (tKind17 hE hc.out (fsubK M id a) hk1).mono ?_; clear hc; rintro e w' ⟨rfl, hc⟩; have dc := hc.c1; have dc2 := hc.c2; have dc3 := hc.c3; dsimp only at dc dc2 dc3; replace hc := hide hc)
      | (go_at_call 43; refine (vSub17 hc.out hG.out (hF.out.mono (by omega)) (by omega) id a (by omega)).mono ?_; clear hc; rintro e w' ⟨rfl, hc⟩; have dc := hc.c1; have dc2 := hc.c2; have dc3 := hc.c3; dsimp only at dc dc2 dc3; replace hc := hide hc)
      )
    go_wp2
    go_ret
    exact ⟨rfl, _, _, hc.out.js.mono (by omega) (by omega), (hNd.out.subS _ _), (Nat.le_succ _)⟩
set_option maxRecDepth 100000 in
set_option maxHeartbeats 2000000 in
theorem step17_4 {W w : World} {p q N c B : Nat} {M : Fo} {ae : Nat → Addr} (hE : Errs W.heap.size W ae) (h : JS W p q N c B c M M w) (hNd : NodM M) (hlim : N ≤ 1000 ∧ c ≤ 900 ∧ B ≤ 9000 ∧ 20 ≤ B) (o : Op17) (lA : Option Addr) (lc : Nat) (ho : o.good) (hj : o.kind % 19 = 4) :
    Calls Tryz.prog 9 #[.pointer (some ⟨p, 0, none⟩), .pointer (some ⟨q, 0, none⟩), .agg (o.cells (.slice lA o.l.length lc))] w (StepP W p q N c B) := by
  obtain ⟨kd, id, a, b, ⟨rx, ry, rw', rh⟩, l⟩ := o
  obtain ⟨g0, g1, g2, g3⟩ := ho
  obtain ⟨l1, l2, l3, l4⟩ := hlim
  dsimp only at g0 g1 g2 g3 hj
  have hT := h.boxed ⟨kd, id, a, b, ⟨rx, ry, rw', rh⟩, l⟩ (.slice lA l.length lc)
  have hG := h.good.1
  have hF := h.good.2.2
  have hP := fun w => place_any kd 19 w (by omega) (by omega)
  rw [hj] at hP
  replace hP := hide hP
  unfold Op17.cells at hT ⊢
  dsimp only at hT ⊢
  clear h hj
  obtain ⟨w0, hw0⟩ : ∃ w0, w0 = w.alloc (.cells #[.int .i64 kd, .int .i64 id, .int .i64 a, .int .i64 b, .int .i64 rx, .int .i64 ry, .int .i64 rw', .int .i64 rh, .slice lA l.length lc] 33) := ⟨_, rfl⟩
  obtain ⟨ob, hob⟩ : ∃ ob, ob = w.heap.size := ⟨_, rfl⟩
  rw [← hob, ← hw0] at hT
  have d0 := hT.c0
  have d1 := hT.c1
  have d2 := hT.c2
  have d3 := hT.c3
  dsimp only at d0 d1 d2 d3
  replace hG := hide hG
  replace hF := hide hF
  replace hNd := hide hNd
  replace hw0 := hide hw0
  replace hob := hide hob
  obtain ⟨pv, cS⟩ : ∃ pv : Option Addr, Hid (Calls Tryz.prog 36 #[.pointer (some ⟨q, 0, none⟩), .int .i64 id] w0 fun e w' => e = .returned (.pointer pv) ∧ w0 = w') := by
    cases hs : M id with
    | none => exact ⟨none, hide (hT.sNo (by omega) id hs)⟩
    | some s =>
      obtain ⟨F, G, v, L, k, g, cc, r, _, _, _, hx⟩ := hT.sAt (by omega) id hs
      exact ⟨_, hide hx⟩
  have hc := hide hT.drew
  replace hT := hide hT
  go_enter Tryz.func9, Tryz.ntmps9
  go_wp2_with fail
  rw [← hob.out, ← hw0.out]
  refine cS.out.mono ?_
  rintro e w' ⟨rfl, rfl⟩
  clear cS
  have hk1 := childK_le M id
  cases pv with
  | none =>
    go_wp2_with (go_at_call 14; refine (hP.out _).mono ?_; rintro e w' ⟨rfl, rfl⟩)
    go_region_held3 (fun w' => w'.cell? ⟨ob, 1, none⟩ = some (.int .i64 id)) (go_keep)
      (first
      | (go_at_call 44; refine (tUnsub17 hE hc.out id g1 (by omega)).mono ?_; clear hc; rintro e w' ⟨rfl, hc⟩; have dc := hc.c1; have dc2 := hc.c2; have dc3 := hc.c3; dsimp only at dc dc2 dc3; replace hc := hide hc)
      | (go_at_call 37; refine (tKind17 hE hc.out (childK M id) hk1).mono ?_; clear hc; rintro e w' ⟨rfl, hc⟩; have dc := hc.c1; have dc2 := hc.c2; have dc3 := hc.c3; dsimp only at dc dc2 dc3; replace hc := hide hc)
      | (go_at_call 45; refine (vUnsub17 hc.out hG.out (hF.out.mono (by omega)) (by omega) id (by omega)).mono ?_; clear hc; rintro e w' ⟨rfl, hc⟩; have dc := hc.c1; have dc2 := hc.c2; have dc3 := hc.c3; dsimp only at dc dc2 dc3; replace hc := hide hc)
      )
    go_wp2
    go_ret
    exact ⟨rfl, _, _, hc.out.js.mono (by omega) (by omega), (hNd.out.unsubS _), (Nat.le_succ _)⟩
  | some pa =>
    go_wp2_with (go_at_call 14; refine (hP.out _).mono ?_; rintro e w' ⟨rfl, rfl⟩)
    go_region_held3 (fun w' => w'.cell? ⟨ob, 1, none⟩ = some (.int .i64 id)) (go_keep)
      (first
      | (go_at_call 44; refine (tUnsub17 hE hc.out id g1 (by omega)).mono ?_; clear hc; rintro e w' ⟨rfl, hc⟩; have dc := hc.c1; have dc2 := hc.c2; have dc3 := hc.c3; dsimp only at dc dc2 dc3; replace hc := hide hc)
      | (go_at_call 37; refine (tKind17 hE hc.out (childK M id) hk1).mono ?_; clear hc; rintro e w' ⟨rfl, hc⟩; have dc := hc.c1; have dc2 := hc.c2; have dc3 := hc.c3; dsimp only at dc dc2 dc3; replace hc := hide hc)
      | (go_at_call 45; refine (vUnsub17 hc.out hG.out (hF.out.mono (by omega)) (by omega) id (by omega)).mono ?_; clear hc; rintro e w' ⟨rfl, hc⟩; have dc := hc.c1; have dc2 := hc.c2; have dc3 := hc.c3; dsimp only at dc dc2 dc3; replace hc := hide hc)
      )
    go_wp2
    go_ret
    exact ⟨rfl, _, _, hc.out.js.mono (by omega) (by omega), (hNd.out.unsubS _), (Nat.le_succ _)⟩
set_option maxRecDepth 100000 in
set_option maxHeartbeats 2000000 in
theorem step17_9 {W w : World} {p q N c B : Nat} {M : Fo} {ae : Nat → Addr} (hE : Errs W.heap.size W ae) (h : JS W p q N c B c M M w) (hNd : NodM M) (hlim : N ≤ 1000 ∧ c ≤ 900 ∧ B ≤ 9000 ∧ 20 ≤ B) (o : Op17) (lA : Option Addr) (lc : Nat) (ho : o.good) (hj : o.kind % 19 = 9) :
    Calls Tryz.prog 9 #[.pointer (some ⟨p, 0, none⟩), .pointer (some ⟨q, 0, none⟩), .agg (o.cells (.slice lA o.l.length lc))] w (StepP W p q N c B) := by
  obtain ⟨kd, id, a, b, ⟨rx, ry, rw', rh⟩, l⟩ := o
  obtain ⟨g0, g1, g2, g3⟩ := ho
  obtain ⟨l1, l2, l3, l4⟩ := hlim
  dsimp only at g0 g1 g2 g3 hj
  have hT := h.boxed ⟨kd, id, a, b, ⟨rx, ry, rw', rh⟩, l⟩ (.slice lA l.length lc)
  have hG := h.good.1
  have hF := h.good.2.2
  have hP := fun w => place_any kd 19 w (by omega) (by omega)
  rw [hj] at hP
  replace hP := hide hP
  unfold Op17.cells at hT ⊢
  dsimp only at hT ⊢
  clear h hj
  obtain ⟨w0, hw0⟩ : ∃ w0, w0 = w.alloc (.cells #[.int .i64 kd, .int .i64 id, .int .i64 a, .int .i64 b, .int .i64 rx, .int .i64 ry, .int .i64 rw', .int .i64 rh, .slice lA l.length lc] 33) := ⟨_, rfl⟩
  obtain ⟨ob, hob⟩ : ∃ ob, ob = w.heap.size := ⟨_, rfl⟩
  rw [← hob, ← hw0] at hT
  have d0 := hT.c0
  have d1 := hT.c1
  have d2 := hT.c2
  have d3 := hT.c3
  dsimp only at d0 d1 d2 d3
  replace hG := hide hG
  replace hF := hide hF
  replace hNd := hide hNd
  replace hw0 := hide hw0
  replace hob := hide hob
  obtain ⟨pv, cS⟩ : ∃ pv : Option Addr, Hid (Calls Tryz.prog 36 #[.pointer (some ⟨q, 0, none⟩), .int .i64 id] w0 fun e w' => e = .returned (.pointer pv) ∧ w0 = w') := by
    cases hs : M id with
    | none => exact ⟨none, hide (hT.sNo (by omega) id hs)⟩
    | some s =>
      obtain ⟨F, G, v, L, k, g, cc, r, _, _, _, hx⟩ := hT.sAt (by omega) id hs
      exact ⟨_, hide hx⟩
  have hc := hide hT.drew
  replace hT := hide hT
  go_enter Tryz.func9, Tryz.ntmps9
  go_wp2_with fail
  rw [← hob.out, ← hw0.out]
  refine cS.out.mono ?_
  rintro e w' ⟨rfl, rfl⟩
  clear cS
  have hk1 := childK_le M id
  cases pv with
  | none =>
    go_wp2_with (go_at_call 14; refine (hP.out _).mono ?_; rintro e w' ⟨rfl, rfl⟩)
    go_region_held3 (fun w' => w'.cell? ⟨ob, 1, none⟩ = some (.int .i64 id) ∧ w'.cell? ⟨ob, 2, none⟩ = some (.int .i64 a) ∧ w'.cell? ⟨ob, 3, none⟩ = some (.int .i64 b)) (go_keep)
      (first
      | (go_at_call 18; refine (tPosition17 hE hc.out id a b g1 (by omega)).mono ?_; clear hc; rintro e w' ⟨rfl, hc⟩; have dc := hc.c1; have dc2 := hc.c2; have dc3 := hc.c3; dsimp only at dc dc2 dc3; replace hc := hide hc)
      | (go_at_call 37; refine (tKind17 hE hc.out (childK M id) hk1).mono ?_; clear hc; rintro e w' ⟨rfl, hc⟩; have dc := hc.c1; have dc2 := hc.c2; have dc3 := hc.c3; dsimp only at dc dc2 dc3; replace hc := hide hc)
      | (go_at_call 48; refine (vPosition17 hc.out hG.out (hF.out.mono (by omega)) (by omega) id a b (by omega)).mono ?_; clear hc; rintro e w' ⟨rfl, hc⟩; have dc := hc.c1; have dc2 := hc.c2; have dc3 := hc.c3; dsimp only at dc dc2 dc3; replace hc := hide hc)
      )
    go_wp2
    go_ret
    exact ⟨rfl, _, _, hc.out.js.mono (by omega) (by omega), (hNd.out.posS _ _ _), (Nat.le_succ _)⟩
  | some pa =>
    go_wp2_with (go_at_call 14; refine (hP.out _).mono ?_; rintro e w' ⟨rfl, rfl⟩)
    go_region_held3 (fun w' => w'.cell? ⟨ob, 1, none⟩ = some (.int .i64 id) ∧ w'.cell? ⟨ob, 2, none⟩ = some (.int .i64 a) ∧ w'.cell? ⟨ob, 3, none⟩ = some (.int .i64 b)) (go_keep)
      (first
      | (go_at_call 18; refine (tPosition17 hE hc.out id a b g1 (by omega)).mono ?_; clear hc; rintro e w' ⟨rfl, hc⟩; have dc := hc.c1; have dc2 := hc.c2; have dc3 := hc.c3; dsimp only at dc dc2 dc3; replace hc := hide hc)
      | (go_at_call 37; refine (tKind17 hE hc.out (childK M id) hk1).mono ?_; clear hc; rintro e w' ⟨rfl, hc⟩; have dc := hc.c1; have dc2 := hc.c2; have dc3 := hc.c3; dsimp only at dc dc2 dc3; replace hc := hide hc)
      | (go_at_call 48; refine (vPosition17 hc.out hG.out (hF.out.mono (by omega)) (by omega) id a b (by omega)).mono ?_; clear hc; rintro e w' ⟨rfl, hc⟩; have dc := hc.c1; have dc2 := hc.c2; have dc3 := hc.c3; dsimp only at dc dc2 dc3; replace hc := hide hc)
      )
    go_wp2
    go_ret
    exact ⟨rfl, _, _, hc.out.js.mono (by omega) (by omega), (hNd.out.posS _ _ _), (Nat.le_succ _)⟩
set_option maxRecDepth 100000 in
set_option maxHeartbeats 2000000 in
theorem step17_10 {W w : World} {p q N c B : Nat} {M : Fo} {ae : Nat → Addr} (hE : Errs W.heap.size W ae) (h : JS W p q N c B c M M w) (hNd : NodM M) (hlim : N ≤ 1000 ∧ c ≤ 900 ∧ B ≤ 9000 ∧ 20 ≤ B) (o : Op17) (lA : Option Addr) (lc : Nat) (ho : o.good) (hj : o.kind % 19 = 10) :
    Calls Tryz.prog 9 #[.pointer (some ⟨p, 0, none⟩), .pointer (some ⟨q, 0, none⟩), .agg (o.cells (.slice lA o.l.length lc))] w (StepP W p q N c B) := by
  obtain ⟨kd, id, a, b, ⟨rx, ry, rw', rh⟩, l⟩ := o
  obtain ⟨g0, g1, g2, g3⟩ := ho
  obtain ⟨l1, l2, l3, l4⟩ := hlim
  dsimp only at g0 g1 g2 g3 hj
  have hT := h.boxed ⟨kd, id, a, b, ⟨rx, ry, rw', rh⟩, l⟩ (.slice lA l.length lc)
  have hG := h.good.1
  have hF := h.good.2.2
  have hP := fun w => place_any kd 19 w (by omega) (by omega)
  rw [hj] at hP
  replace hP := hide hP
  unfold Op17.cells at hT ⊢
  dsimp only at hT ⊢
  clear h hj
  obtain ⟨w0, hw0⟩ : ∃ w0, w0 = w.alloc (.cells #[.int .i64 kd, .int .i64 id, .int .i64 a, .int .i64 b, .int .i64 rx, .int .i64 ry, .int .i64 rw', .int .i64 rh, .slice lA l.length lc] 33) := ⟨_, rfl⟩
  obtain ⟨ob, hob⟩ : ∃ ob, ob = w.heap.size := ⟨_, rfl⟩
  rw [← hob, ← hw0] at hT
  have d0 := hT.c0
  have d1 := hT.c1
  have d2 := hT.c2
  have d3 := hT.c3
  dsimp only at d0 d1 d2 d3
  replace hG := hide hG
  replace hF := hide hF
  replace hNd := hide hNd
  replace hw0 := hide hw0
  replace hob := hide hob
  obtain ⟨pv, cS⟩ : ∃ pv : Option Addr, Hid (Calls Tryz.prog 36 #[.pointer (some ⟨q, 0, none⟩), .int .i64 id] w0 fun e w' => e = .returned (.pointer pv) ∧ w0 = w') := by
    cases hs : M id with
    | none => exact ⟨none, hide (hT.sNo (by omega) id hs)⟩
    | some s =>
      obtain ⟨F, G, v, L, k, g, cc, r, _, _, _, hx⟩ := hT.sAt (by omega) id hs
      exact ⟨_, hide hx⟩
  have hc := hide hT.drew
  replace hT := hide hT
  go_enter Tryz.func9, Tryz.ntmps9
  go_wp2_with fail
  rw [← hob.out, ← hw0.out]
  refine cS.out.mono ?_
  rintro e w' ⟨rfl, rfl⟩
  clear cS
  have hk1 := besK_le M id a
  cases pv with
  | none =>
    go_wp2_with (go_at_call 14; refine (hP.out _).mono ?_; rintro e w' ⟨rfl, rfl⟩)
    go_region_held3 (fun w' => w'.cell? ⟨ob, 1, none⟩ = some (.int .i64 id) ∧ w'.cell? ⟨ob, 2, none⟩ = some (.int .i64 a)) (go_keep)
      (first
      | (go_at_call 19; refine (tAbove17 hE hc.out id a g1 g2 (by omega)).mono ?_; clear hc; rintro e w' ⟨rfl, hc⟩; have dc := hc.c1; have dc2 := hc.c2; have dc3 := hc.c3; dsimp only at dc dc2 dc3; replace hc := hide hc)
      | (go_at_call 37; refine (tKind17 hE hc.out (besK M id a) hk1).mono ?_; clear hc; rintro e w' ⟨rfl, hc⟩; have dc := hc.c1; have dc2 := hc.c2; have dc3 := hc.c3; dsimp only at dc dc2 dc3; replace hc := hide hc)
      | (go_at_call 49; refine (vPut17 hc.out hG.out (hF.out.mono (by omega)) (by omega) id a 1 (by omega) (by omega)).mono ?_; clear hc; rintro e w' ⟨rfl, hc⟩; have dc := hc.c1; have dc2 := hc.c2; have dc3 := hc.c3; dsimp only at dc dc2 dc3; replace hc := hide hc)
      )
    go_wp2
    go_ret
    exact ⟨rfl, _, _, hc.out.js.mono (by omega) (by omega), (hNd.out.bes _ _ _), (Nat.le_succ _)⟩
  | some pa =>
    go_wp2_with (go_at_call 14; refine (hP.out _).mono ?_; rintro e w' ⟨rfl, rfl⟩)
    go_region_held3 (fun w' => w'.cell? ⟨ob, 1, none⟩ = some (.int .i64 id) ∧ w'.cell? ⟨ob, 2, none⟩ = some (.int .i64 a)) (go_keep)
      (first
      | (go_at_call 19; refine (tAbove17 hE hc.out id a g1 g2 (by omega)).mono ?_; clear hc; rintro e w' ⟨rfl, hc⟩; have dc := hc.c1; have dc2 := hc.c2; have dc3 := hc.c3; dsimp only at dc dc2 dc3; replace hc := hide hc)
      | (go_at_call 37; refine (tKind17 hE hc.out (besK M id a) hk1).mono ?_; clear hc; rintro e w' ⟨rfl, hc⟩; have dc := hc.c1; have dc2 := hc.c2; have dc3 := hc.c3; dsimp only at dc dc2 dc3; replace hc := hide hc)
      | (go_at_call 49; refine (vPut17 hc.out hG.out (hF.out.mono (by omega)) (by omega) id a 1 (by omega) (by omega)).mono ?_; clear hc; rintro e w' ⟨rfl, hc⟩; have dc := hc.c1; have dc2 := hc.c2; have dc3 := hc.c3; dsimp only at dc dc2 dc3; replace hc := hide hc)
      )
    go_wp2
    go_ret
    exact ⟨rfl, _, _, hc.out.js.mono (by omega) (by omega), (hNd.out.bes _ _ _), (Nat.le_succ _)⟩
set_option maxRecDepth 100000 in
set_option maxHeartbeats 2000000 in
theorem step17_11 {W w : World} {p q N c B : Nat} {M : Fo} {ae : Nat → Addr} (hE : Errs W.heap.size W ae) (h : JS W p q N c B c M M w) (hNd : NodM M) (hlim : N ≤ 1000 ∧ c ≤ 900 ∧ B ≤ 9000 ∧ 20 ≤ B) (o : Op17) (lA : Option Addr) (lc : Nat) (ho : o.good) (hj : o.kind % 19 = 11) :
    Calls Tryz.prog 9 #[.pointer (some ⟨p, 0, none⟩), .pointer (some ⟨q, 0, none⟩), .agg (o.cells (.slice lA o.l.length lc))] w (StepP W p q N c B) := by
  obtain ⟨kd, id, a, b, ⟨rx, ry, rw', rh⟩, l⟩ := o
  obtain ⟨g0, g1, g2, g3⟩ := ho
  obtain ⟨l1, l2, l3, l4⟩ := hlim
  dsimp only at g0 g1 g2 g3 hj
  have hT := h.boxed ⟨kd, id, a, b, ⟨rx, ry, rw', rh⟩, l⟩ (.slice lA l.length lc)
  have hG := h.good.1
  have hF := h.good.2.2
  have hP := fun w => place_any kd 19 w (by omega) (by omega)
  rw [hj] at hP
  replace hP := hide hP
  unfold Op17.cells at hT ⊢
  dsimp only at hT ⊢
  clear h hj
  obtain ⟨w0, hw0⟩ : ∃ w0, w0 = w.alloc (.cells #[.int .i64 kd, .int .i64 id, .int .i64 a, .int .i64 b, .int .i64 rx, .int .i64 ry, .int .i64 rw', .int .i64 rh, .slice lA l.length lc] 33) := ⟨_, rfl⟩
  obtain ⟨ob, hob⟩ : ∃ ob, ob = w.heap.size := ⟨_, rfl⟩
  rw [← hob, ← hw0] at hT
  have d0 := hT.c0
  have d1 := hT.c1
  have d2 := hT.c2
  have d3 := hT.c3
  dsimp only at d0 d1 d2 d3
  replace hG := hide hG
  replace hF := hide hF
  replace hNd := hide hNd
  replace hw0 := hide hw0
  replace hob := hide hob
  obtain ⟨pv, cS⟩ : ∃ pv : Option Addr, Hid (Calls Tryz.prog 36 #[.pointer (some ⟨q, 0, none⟩), .int .i64 id] w0 fun e w' => e = .returned (.pointer pv) ∧ w0 = w') := by
    cases hs : M id with
    | none => exact ⟨none, hide (hT.sNo (by omega) id hs)⟩
    | some s =>
      obtain ⟨F, G, v, L, k, g, cc, r, _, _, _, hx⟩ := hT.sAt (by omega) id hs
      exact ⟨_, hide hx⟩
  have hc := hide hT.drew
  replace hT := hide hT
  go_enter Tryz.func9, Tryz.ntmps9
  go_wp2_with fail
  rw [← hob.out, ← hw0.out]
  refine cS.out.mono ?_
  rintro e w' ⟨rfl, rfl⟩
  clear cS
  have hk1 := besK_le M id a
  cases pv with
  | none =>
    go_wp2_with (go_at_call 14; refine (hP.out _).mono ?_; rintro e w' ⟨rfl, rfl⟩)
    go_region_held3 (fun w' => w'.cell? ⟨ob, 1, none⟩ = some (.int .i64 id) ∧ w'.cell? ⟨ob, 2, none⟩ = some (.int .i64 a)) (go_keep)
      (first
      | (go_at_call 20; refine (tBelow17 hE hc.out id a g1 g2 (by omega)).mono ?_; clear hc; rintro e w' ⟨rfl, hc⟩; have dc := hc.c1; have dc2 := hc.c2; have dc3 := hc.c3; dsimp only at dc dc2 dc3; replace hc := hide hc)
      | (go_at_call 37; refine (tKind17 hE hc.out (besK M id a) hk1).mono ?_; clear hc; rintro e w' ⟨rfl, hc⟩; have dc := hc.c1; have dc2 := hc.c2; have dc3 := hc.c3; dsimp only at dc dc2 dc3; replace hc := hide hc)
      | (go_at_call 49; refine (vPut17 hc.out hG.out (hF.out.mono (by omega)) (by omega) id a 0 (by omega) (by omega)).mono ?_; clear hc; rintro e w' ⟨rfl, hc⟩; have dc := hc.c1; have dc2 := hc.c2; have dc3 := hc.c3; dsimp only at dc dc2 dc3; replace hc := hide hc)
      )
    go_wp2
    go_ret
    exact ⟨rfl, _, _, hc.out.js.mono (by omega) (by omega), (hNd.out.bes _ _ _), (Nat.le_succ _)⟩
  | some pa =>
    go_wp2_with (go_at_call 14; refine (hP.out _).mono ?_; rintro e w' ⟨rfl, rfl⟩)
    go_region_held3 (fun w' => w'.cell? ⟨ob, 1, none⟩ = some (.int .i64 id) ∧ w'.cell? ⟨ob, 2, none⟩ = some (.int .i64 a)) (go_keep)
      (first
      | (go_at_call 20; refine (tBelow17 hE hc.out id a g1 g2 (by omega)).mono ?_; clear hc; rintro e w' ⟨rfl, hc⟩; have dc := hc.c1; have dc2 := hc.c2; have dc3 := hc.c3; dsimp only at dc dc2 dc3; replace hc := hide hc)
      | (go_at_call 37; refine (tKind17 hE hc.out (besK M id a) hk1).mono ?_; clear hc; rintro e w' ⟨rfl, hc⟩; have dc := hc.c1; have dc2 := hc.c2; have dc3 := hc.c3; dsimp only at dc dc2 dc3; replace hc := hide hc)
      | (go_at_call 49; refine (vPut17 hc.out hG.out (hF.out.mono (by omega)) (by omega) id a 0 (by omega) (by omega)).mono ?_; clear hc; rintro e w' ⟨rfl, hc⟩; have dc := hc.c1; have dc2 := hc.c2; have dc3 := hc.c3; dsimp only at dc dc2 dc3; replace hc := hide hc)
      )
    go_wp2
    go_ret
    exact ⟨rfl, _, _, hc.out.js.mono (by omega) (by omega), (hNd.out.bes _ _ _), (Nat.le_succ _)⟩
end Go.Proofs.YthkjicnnepkghaaGreatDoor
