/-
  The laws of layer 17: a call at both: Damage, Frame, Input.
-/
import Derived.Test.YthkjicnnepkghaaGreatDoorPkR
import Derived.Test.YthkjicnnepkghaaGreatDoorPkB
namespace Go.Proofs.YthkjicnnepkghaaGreatDoor
open Go.RowKit
set_option linter.unusedVariables false

theorem Tryz.infoIntE : (Tryz.prog.info? 3).map (fun i => (i.zero, i.size, i.bytes)) = some (some (.int .i64 0), 1, 8) := by kernel_rfl
theorem Tryz.infoRectE : (Tryz.prog.info? 30).map (fun i => (i.zero, i.size, i.bytes)) = some (some (.agg #[.int .i64 0, .int .i64 0, .int .i64 0, .int .i64 0]), 4, 32) := by kernel_rfl
theorem rd_made1 (w : World) {x : Value} {t : TypeId} : Rd (w.alloc (.cells #[x] t)) (.slice (some ⟨w.heap.size, 0, none⟩) 1 1) 1 1 [x] := by
  have hb := heap_alloc_new w (.cells #[x] t)
  refine ⟨rfl, _, 1, rfl, Nat.le_refl _, fun _ => ⟨w.heap.size, 0, rfl, lt_of_block hb, fun j u hu => ?_⟩⟩
  rw [cell_of_row _ _ (0 + j) _ _ _ hb]
  simpa using hu
theorem rd_made4 (w : World) {x y z u' : Value} {t : TypeId} : Rd (w.alloc (.cells #[x, y, z, u'] t)) (.slice (some ⟨w.heap.size, 0, none⟩) 1 1) 4 1 [x, y, z, u'] := by
  have hb := heap_alloc_new w (.cells #[x, y, z, u'] t)
  refine ⟨rfl, _, 1, rfl, Nat.le_refl _, fun _ => ⟨w.heap.size, 0, rfl, lt_of_block hb, fun j u hu => ?_⟩⟩
  rw [cell_of_row _ _ (0 + j) _ _ _ hb]
  simpa using hu
section
variable {W w w' w1 w3 : World} {p q ob N c B cR : Nat} {M M' R R' : Fo} {o : Op17} {lv : Value} {F G : Nat → Prop} {v : Value} {L : List RSf} {ae : Nat → Addr} {id : Int} {k g cc : Nat} {r r' : RSf}
theorem TXF.framed (h : TXF W p q ob N c B cR M R o lv F G v L w) (hh : Here W.heap.size w q G v L id k g cc r) (hs : R id = some r.s) (a : Int) (b3 : Below w.heap.size w w3) {v3 : Value} (o3 : w3.ownsRow w.heap.size 3 1 v3 (r.s.pe.frames ++ [a]).length ((r.s.pe.frames ++ [a]).map (Value.int .i64))) :
    TX W p q ob N c B cR M (setM R id (some { r.s with pe := frameT a r.s.pe })) o lv (w3.setCell ⟨g, k * 33 + 6, none⟩ v3) := by
  have hu := hh.ok.up b3
  exact h.turnB (r' := { r with s := { r.s with pe := frameT a r.s.pe }, pe := { r.pe with f := v3 } }) hh hs b3 (Chg.setCell (F := fun b => b = g) w3 (a := ⟨g, k * 33 + 6, none⟩) rfl _) ((hh.row.below b3).set hh.lt (show 6 < 33 by decide) _) rfl
    ⟨⟨hu.pe.d, Rd.of_own o3, hu.pe.r, hu.pe.o, hu.pe.p⟩, hu.ca, hu.cu, ⟨hu.peI.d, fun _ b hb => .inr (o3.lt b hb), hu.peI.r, hu.peI.o, hu.peI.p⟩, hu.caI, hu.cuI, hu.id64⟩
theorem TXF.damaged (h : TXF W p q ob N c B cR M R o lv F G v L w) (hh : Here W.heap.size w q G v L id k g cc r) (hs : R id = some r.s) (x : R4) (b3 : Below w.heap.size w w3) {v3 : Value} (o3 : w3.ownsRow w.heap.size 30 4 v3 (r.s.pe.damage ++ [x]).length ((r.s.pe.damage ++ [x]).flatMap R4.enc)) :
    TX W p q ob N c B cR M (setM R id (some { r.s with pe := damageT x r.s.pe })) o lv (w3.setCell ⟨g, k * 33 + 5, none⟩ v3) := by
  have hu := hh.ok.up b3
  exact h.turnB (r' := { r with s := { r.s with pe := damageT x r.s.pe }, pe := { r.pe with d := v3 } }) hh hs b3 (Chg.setCell (F := fun b => b = g) w3 (a := ⟨g, k * 33 + 5, none⟩) rfl _) ((hh.row.below b3).set hh.lt (show 5 < 33 by decide) _) rfl
    ⟨⟨Rd.of_own o3, hu.pe.f, hu.pe.r, hu.pe.o, hu.pe.p⟩, hu.ca, hu.cu, ⟨fun _ b hb => .inr (o3.lt b hb), hu.peI.f, hu.peI.r, hu.peI.o, hu.peI.p⟩, hu.caI, hu.cuI, hu.id64⟩
end

set_option maxRecDepth 100000 in
set_option maxHeartbeats 4000000 in
theorem step17_7 {W w : World} {p q N c B : Nat} {M : Fo} {ae : Nat → Addr} (hE : Errs W.heap.size W ae) (h : JS W p q N c B c M M w) (hNd : NodM M) (hlim : N ≤ 1000 ∧ c ≤ 900 ∧ B ≤ 9000 ∧ 20 ≤ B) (o : Op17) (lA : Option Addr) (lc : Nat) (ho : o.good) (hj : o.kind % 19 = 7) :
    Calls Tryz.prog 9 #[.pointer (some ⟨p, 0, none⟩), .pointer (some ⟨q, 0, none⟩), .agg (o.cells (.slice lA o.l.length lc))] w (StepP W p q N c B) := by
  obtain ⟨kd, id, a, b, ⟨rx, ry, rw', rh⟩, l⟩ := o
  obtain ⟨g0, g1, g2, g3⟩ := ho
  obtain ⟨l1, l2, l3, l4⟩ := hlim
  dsimp only at g0 g1 g2 g3 hj
  have hT := h.boxed ⟨kd, id, a, b, ⟨rx, ry, rw', rh⟩, l⟩ (.slice lA l.length lc)
  have hG := h.good.1
  have hF := h.good.2.2
  have hP := fun w => place_any kd 19 w (by omega) (by omega)
  rw [hj] at hP
  replace hP := hide hP
  unfold Op17.cells at hT ⊢
  dsimp only at hT ⊢
  clear h hj
  obtain ⟨w0, hw0⟩ : ∃ w0, w0 = w.alloc (.cells #[.int .i64 kd, .int .i64 id, .int .i64 a, .int .i64 b, .int .i64 rx, .int .i64 ry, .int .i64 rw', .int .i64 rh, .slice lA l.length lc] 33) := ⟨_, rfl⟩
  obtain ⟨ob, hob⟩ : ∃ ob, ob = w.heap.size := ⟨_, rfl⟩
  rw [← hob, ← hw0] at hT
  have d0 := hT.c0
  have d1 := hT.c1
  have d2 := hT.c2
  have d3 := hT.c3
  dsimp only at d0 d1 d2 d3
  replace hG := hide hG
  replace hF := hide hF
  replace hNd := hide hNd
  replace hw0 := hide hw0
  replace hob := hide hob
  cases hs : M id with
  | none =>
    have cS := hide (hT.sNo (by omega) id hs)
    have hc := hide hT
    have e1 := thereK_none hs
    have e2 : ∀ f, turnS M id f = M := fun f => turnS_none hs
    replace hT := hide hT
    go_enter Tryz.func9, Tryz.ntmps9
    go_wp2_with fail
    rw [← hob.out, ← hw0.out]
    refine cS.out.mono ?_
    rintro e w' ⟨rfl, rfl⟩
    clear cS
    go_wp2_with (first | (go_at_call 14; refine (hP.out _).mono ?_; rintro e w' ⟨rfl, rfl⟩) | (go_at_call 17; refine (tFrame17 hE hc.out id a g1 (by omega)).mono ?_; clear hc; rw [e1, e2]; rintro e w' ⟨rfl, hc⟩; replace hc := hide hc) | (go_at_call 37; refine (tKind17 hE hc.out 5 (by omega)).mono ?_; clear hc; rintro e w' ⟨rfl, hc⟩; replace hc := hide hc))
    go_ret
    exact ⟨rfl, _, _, hc.out.js.mono (by omega) (by omega), hNd.out, Nat.le_succ _⟩
  | some s =>
    obtain ⟨i0, hi, hz0, hz1, hz2⟩ := info_parts Tryz.infoIntE
    have e1 := thereK_some hs
    have e2 : ∀ f, turnS M id f = setM M id (some { s with pe := f s.pe }) := fun f => turnS_some hs
    obtain ⟨F, G, v, L, k, g, cc, r, hX, hh, rfl, cS⟩ := hT.sAt (by omega) id hs
    replace cS := hide cS
    have hfr := hh.ok.pe.f
    obtain ⟨Af, cf, hf, _⟩ := hfr.form
    have hlen : r.s.pe.frames.length ≤ 100000 := by have := (hF.out id _ hs).f; omega
    obtain ⟨n, hn⟩ : ∃ n, n = r.s.pe.frames.length := ⟨_, rfl⟩
    have kS := fun (W1 : World) (hb : Below w0.heap.size w0 W1) => (show W1.cell? ⟨ob, 2, none⟩ = some (.int .i64 a) ∧ W1.cell? ⟨g, k * 33 + 6, none⟩ = some (.slice Af n cf) ∧ W1.frozen? ⟨g, k * 33 + 6, none⟩ = false from
      ⟨(hb.cell (p := ⟨ob, 2, none⟩) (lt_of_block hX.op)).trans d2, by rw [(hh.row.below hb).cell hh.lt (show 6 < 33 by decide), hn, ← hf]; rfl, (hh.row.below hb).free _⟩)
    obtain ⟨_, k6, f6⟩ := kS w0 (Below.refl _ _)
    have cI := hide (fun (W1 : World) (hb : Below w0.heap.size w0 W1) => (show Calls Tryz.prog 47 #[.slice Af n cf] W1 fun e w' => ∃ v', e = .returned v' ∧ w'.ownsRow W1.heap.size 3 1 v' n (r.s.pe.frames.map (Value.int .i64)) ∧ Below W1.heap.size W1 w' from by
      have := ints_any W1 (.slice Af n cf) r.s.pe.frames (by rw [hf] at hfr; rw [hn]; exact hfr.below hb (Nat.le_refl _)) (by omega)
      rw [← hn] at this
      exact this))
    have hfin := hide (fun (w3 : World) (A3 : Option Addr) (c3 : Nat) (b3 : Below w0.heap.size w0 w3) (o3 : w3.ownsRow w0.heap.size 3 1 (.slice A3 (n + 1) c3) (n + 1) (r.s.pe.frames.map (Value.int .i64) ++ [.int .i64 a])) => (show TX W p q ob N c B c M (turnS M id (frameT a)) ⟨kd, id, a, b, ⟨rx, ry, rw', rh⟩, l⟩ (.slice lA l.length lc) (w3.setCell ⟨g, k * 33 + 6, none⟩ (.slice A3 (n + 1) c3)) from by
      rw [e2]
      exact hX.framed hh hs a b3 (by rw [hn] at o3 ⊢; simpa using o3)))
    rw [← hn] at hlen
    have hobl := lt_of_block hX.op
    have hgl := (hh.ng hX.jx.rf).2
    have c2a := fun o => (World.cell?_alloc_past (w := w0) o ob 2 hobl).trans d2
    have c6a := fun o => (World.cell?_alloc_past (w := w0) o g (k * 33 + 6) hgl).trans k6
    replace kS := hide kS
    replace hn := hide hn
    replace hs := hide hs
    replace hf := hide hf
    clear hX hh hT hfr
    go_enter Tryz.func9, Tryz.ntmps9
    go_wp2_with fail
    rw [← hob.out, ← hw0.out]
    refine cS.out.mono ?_
    rintro e w' ⟨rfl, rfl⟩
    clear cS
    go_wp2_with (go_at_call 14; refine (hP.out _).mono ?_; rintro e w' ⟨rfl, rfl⟩)
    go_region_law (first
        | (go_simp; go_at_call 47; refine (cI.out _ (by first | exact below_drewN (Below.refl _ w0) 1 | exact (below_drewN (Below.refl _ w0) 1).alloc (Nat.le_refl _) _)).mono ?_; rintro e wI ⟨vI, rfl, oI, bI⟩; obtain ⟨AI, nI, rfl, hnI⟩ := own_form oI; have BI : Below w0.heap.size w0 wI := (by first | exact (below_drewN (Below.refl _ w0) 1).trans (bI.mono (Nat.le_refl _)) | exact ((below_drewN (Below.refl _ w0) 1).alloc (Nat.le_refl _) _).trans (bI.mono (by simp))); have oJ : wI.ownsRow w0.heap.size 3 1 (.slice AI n nI) n (r.s.pe.frames.map (Value.int .i64)) := own_le oI (by simp); obtain ⟨kI2, kI6, fI6⟩ := kS.out wI BI; have kA2 := fun o => (World.cell?_alloc_past (w := wI) o ob 2 (Nat.lt_of_lt_of_le hobl BI.size)).trans kI2; try have hcb : Rd wI (.slice (some ⟨w0.heap.size, 0, none⟩) 1 1) 1 1 [.int .i64 a] := (rd_made1 w0.drew).below bI (Nat.le_refl _))
        | (refine step_append_rd rfl _ _ 38 rfl w0.heap.size 3 i0 _ 1 8 Tryz.underlying38 hi hz0 hz1 hz2 rfl (by decide) _ _ _ (by first | rfl | simp [Act.eval, Act.put]) (oJ.alloc _) (some ⟨wI.heap.size, 0, none⟩) 1 1 [.int .i64 a] (by first | rfl | simp [Act.eval, Act.put]) (rd_made1 _) (by intro u hu; simp at hu; subst hu; rfl) (by unfold maxLen; omega) (by omega) (by have := BI.size; simp; omega) ?_; intro v3 w3 o3 hg3; have b3 := (BI.alloc BI.size _).grown hg3 (by have := BI.size; simp; omega) (fun k hk => (oJ.lt k hk).1); obtain ⟨A3, n3, rfl, _⟩ := own_form o3; obtain ⟨k32, k36, f36⟩ := kS.out w3 b3)
        | (refine step_append_rd rfl _ _ 38 rfl w0.heap.size 3 i0 _ 1 8 Tryz.underlying38 hi hz0 hz1 hz2 rfl (by decide) _ _ _ (by first | rfl | simp [Act.eval, Act.put]) oJ (some ⟨w0.heap.size, 0, none⟩) 1 1 [.int .i64 a] (by first | rfl | simp [Act.eval, Act.put]) hcb (by intro u hu; simp at hu; subst hu; rfl) (by unfold maxLen; omega) (by omega) BI.size ?_; intro v3 w3 o3 hg3; have b3 := BI.grown hg3 BI.size (fun k hk => (oJ.lt k hk).1); obtain ⟨A3, n3, rfl, _⟩ := own_form o3; obtain ⟨k32, k36, f36⟩ := kS.out w3 b3))
    all_goals
      have hc := hide (hfin.out w3 A3 n3 b3 o3)
      obtain ⟨W1, hW1⟩ : ∃ W1, W1 = w3.setCell ⟨g, k * 33 + 6, none⟩ (.slice A3 (n + 1) n3) := ⟨_, rfl⟩
      rw [← hW1] at hc ⊢
      have dc := hc.out.c1
      have dc2 := hc.out.c2
      dsimp only at dc dc2
      replace hW1 := hide hW1
      go_wp2_with (first | (go_at_call 17; refine (tFrame17 hE hc.out id a g1 (by omega)).mono ?_; clear hc; rw [e1]; rintro e w' ⟨rfl, hc⟩; replace hc := hide hc) | (go_at_call 37; refine (tKind17 hE hc.out 0 (by omega)).mono ?_; clear hc; rintro e w' ⟨rfl, hc⟩; replace hc := hide hc))
      go_ret
      exact ⟨rfl, _, _, hc.out.js.mono (by omega) (by omega), hNd.out.turn id (fun _ => rfl), Nat.le_succ _⟩
set_option maxRecDepth 100000 in
set_option maxHeartbeats 4000000 in
theorem step17_6 {W w : World} {p q N c B : Nat} {M : Fo} {ae : Nat → Addr} (hE : Errs W.heap.size W ae) (h : JS W p q N c B c M M w) (hNd : NodM M) (hlim : N ≤ 1000 ∧ c ≤ 900 ∧ B ≤ 9000 ∧ 20 ≤ B) (o : Op17) (lA : Option Addr) (lc : Nat) (ho : o.good) (hj : o.kind % 19 = 6) :
    Calls Tryz.prog 9 #[.pointer (some ⟨p, 0, none⟩), .pointer (some ⟨q, 0, none⟩), .agg (o.cells (.slice lA o.l.length lc))] w (StepP W p q N c B) := by
  obtain ⟨kd, id, a, b, ⟨rx, ry, rw', rh⟩, l⟩ := o
  obtain ⟨g0, g1, g2, g3⟩ := ho
  obtain ⟨l1, l2, l3, l4⟩ := hlim
  dsimp only at g0 g1 g2 g3 hj
  have hT := h.boxed ⟨kd, id, a, b, ⟨rx, ry, rw', rh⟩, l⟩ (.slice lA l.length lc)
  have hG := h.good.1
  have hF := h.good.2.2
  have hP := fun w => place_any kd 19 w (by omega) (by omega)
  rw [hj] at hP
  replace hP := hide hP
  unfold Op17.cells at hT ⊢
  dsimp only at hT ⊢
  clear h hj
  obtain ⟨w0, hw0⟩ : ∃ w0, w0 = w.alloc (.cells #[.int .i64 kd, .int .i64 id, .int .i64 a, .int .i64 b, .int .i64 rx, .int .i64 ry, .int .i64 rw', .int .i64 rh, .slice lA l.length lc] 33) := ⟨_, rfl⟩
  obtain ⟨ob, hob⟩ : ∃ ob, ob = w.heap.size := ⟨_, rfl⟩
  rw [← hob, ← hw0] at hT
  have d0 := hT.c0
  have d1 := hT.c1
  have d2 := hT.c2
  have d3 := hT.c3
  dsimp only at d0 d1 d2 d3
  replace hG := hide hG
  replace hF := hide hF
  replace hNd := hide hNd
  replace hw0 := hide hw0
  replace hob := hide hob
  obtain ⟨d4, d5, d6, d7⟩ := hT.cells
  dsimp only at d4 d5 d6 d7
  cases hs : M id with
  | none =>
    have cS := hide (hT.sNo (by omega) id hs)
    have hc := hide hT
    have e1 := thereK_none hs
    have e2 : ∀ f, turnS M id f = M := fun f => turnS_none hs
    replace hT := hide hT
    go_enter Tryz.func9, Tryz.ntmps9
    go_wp2_with fail
    rw [← hob.out, ← hw0.out]
    refine cS.out.mono ?_
    rintro e w' ⟨rfl, rfl⟩
    clear cS
    go_wp2_with (first | (go_at_call 14; refine (hP.out _).mono ?_; rintro e w' ⟨rfl, rfl⟩) | (go_at_call 16; refine (tDamage17 hE hc.out id ⟨rx, ry, rw', rh⟩ g1 (by omega)).mono ?_; clear hc; rw [e1, e2]; rintro e w' ⟨rfl, hc⟩; replace hc := hide hc) | (go_at_call 37; refine (tKind17 hE hc.out 5 (by omega)).mono ?_; clear hc; rintro e w' ⟨rfl, hc⟩; replace hc := hide hc))
    go_ret
    exact ⟨rfl, _, _, hc.out.js.mono (by omega) (by omega), hNd.out, Nat.le_succ _⟩
  | some s =>
    obtain ⟨i0, hi, hz0, hz1, hz2⟩ := info_parts Tryz.infoRectE
    have e1 := thereK_some hs
    have e2 : ∀ f, turnS M id f = setM M id (some { s with pe := f s.pe }) := fun f => turnS_some hs
    obtain ⟨F, G, v, L, k, g, cc, r, hX, hh, rfl, cS⟩ := hT.sAt (by omega) id hs
    replace cS := hide cS
    have hfr := hh.ok.pe.d
    obtain ⟨Af, cf, hf, _⟩ := hfr.form
    have hlen : r.s.pe.damage.length ≤ 100000 := by have := (hF.out id _ hs).d; omega
    obtain ⟨n, hn⟩ : ∃ n, n = r.s.pe.damage.length := ⟨_, rfl⟩
    have kS := fun (W1 : World) (hb : Below w0.heap.size w0 W1) => (show W1.cell? ⟨ob, 4, none⟩ = some (.int .i64 rx) ∧ W1.cell? ⟨ob, 5, none⟩ = some (.int .i64 ry) ∧ W1.cell? ⟨ob, 6, none⟩ = some (.int .i64 rw') ∧ W1.cell? ⟨ob, 7, none⟩ = some (.int .i64 rh) ∧ W1.cell? ⟨g, k * 33 + 5, none⟩ = some (.slice Af n cf) ∧ W1.frozen? ⟨g, k * 33 + 5, none⟩ = false from
      ⟨(hb.cell (p := ⟨ob, 4, none⟩) (lt_of_block hX.op)).trans d4, (hb.cell (p := ⟨ob, 5, none⟩) (lt_of_block hX.op)).trans d5, (hb.cell (p := ⟨ob, 6, none⟩) (lt_of_block hX.op)).trans d6, (hb.cell (p := ⟨ob, 7, none⟩) (lt_of_block hX.op)).trans d7, by rw [(hh.row.below hb).cell hh.lt (show 5 < 33 by decide), hn, ← hf]; rfl, (hh.row.below hb).free _⟩)
    obtain ⟨_, _, _, _, k6, f6⟩ := kS w0 (Below.refl _ _)
    have cI := hide (fun (W1 : World) (hb : Below w0.heap.size w0 W1) => (show Calls Tryz.prog 46 #[.slice Af n cf] W1 fun e w' => ∃ v', e = .returned v' ∧ w'.ownsRow W1.heap.size 30 4 v' n (r.s.pe.damage.flatMap R4.enc) ∧ Below W1.heap.size W1 w' from by
      have := lRects_any W1 (.slice Af n cf) r.s.pe.damage (by rw [hf] at hfr; rw [hn]; exact hfr.below hb (Nat.le_refl _)) (by omega)
      rw [← hn] at this
      exact this))
    have hfin := hide (fun (w3 : World) (A3 : Option Addr) (c3 : Nat) (b3 : Below w0.heap.size w0 w3) (o3 : w3.ownsRow w0.heap.size 30 4 (.slice A3 (n + 1) c3) (n + 1) (r.s.pe.damage.flatMap R4.enc ++ [.int .i64 rx, .int .i64 ry, .int .i64 rw', .int .i64 rh])) => (show TX W p q ob N c B c M (turnS M id (damageT ⟨rx, ry, rw', rh⟩)) ⟨kd, id, a, b, ⟨rx, ry, rw', rh⟩, l⟩ (.slice lA l.length lc) (w3.setCell ⟨g, k * 33 + 5, none⟩ (.slice A3 (n + 1) c3)) from by
      rw [e2]
      exact hX.damaged hh hs ⟨rx, ry, rw', rh⟩ b3 (by rw [hn] at o3 ⊢; simpa [R4.enc] using o3)))
    rw [← hn] at hlen
    have hobl := lt_of_block hX.op
    have hgl := (hh.ng hX.jx.rf).2
    have c4a := fun o => (World.cell?_alloc_past (w := w0) o ob 4 hobl).trans d4
    have c5a := fun o => (World.cell?_alloc_past (w := w0) o ob 5 hobl).trans d5
    have c6b := fun o => (World.cell?_alloc_past (w := w0) o ob 6 hobl).trans d6
    have c7a := fun o => (World.cell?_alloc_past (w := w0) o ob 7 hobl).trans d7
    have c6a := fun o => (World.cell?_alloc_past (w := w0) o g (k * 33 + 5) hgl).trans k6
    replace kS := hide kS
    replace hn := hide hn
    replace hs := hide hs
    replace hf := hide hf
    clear hX hh hT hfr
    go_enter Tryz.func9, Tryz.ntmps9
    go_wp2_with fail
    rw [← hob.out, ← hw0.out]
    refine cS.out.mono ?_
    rintro e w' ⟨rfl, rfl⟩
    clear cS
    go_wp2_with (go_at_call 14; refine (hP.out _).mono ?_; rintro e w' ⟨rfl, rfl⟩)
    go_region_law (first
        | (go_simp; go_at_call 46; refine (cI.out _ (by first | exact below_drewN (Below.refl _ w0) 1 | exact (below_drewN (Below.refl _ w0) 1).alloc (Nat.le_refl _) _)).mono ?_; rintro e wI ⟨vI, rfl, oI, bI⟩; obtain ⟨AI, nI, rfl, hnI⟩ := own_form oI; have BI : Below w0.heap.size w0 wI := (by first | exact (below_drewN (Below.refl _ w0) 1).trans (bI.mono (Nat.le_refl _)) | exact ((below_drewN (Below.refl _ w0) 1).alloc (Nat.le_refl _) _).trans (bI.mono (by simp))); have oJ : wI.ownsRow w0.heap.size 30 4 (.slice AI n nI) n (r.s.pe.damage.flatMap R4.enc) := own_le oI (by simp); obtain ⟨kI4, kI5, kI6', kI7, kI6, fI6⟩ := kS.out wI BI; try have hcb : Rd wI (.slice (some ⟨w0.heap.size, 0, none⟩) 1 1) 4 1 [.int .i64 rx, .int .i64 ry, .int .i64 rw', .int .i64 rh] := (rd_made4 w0.drew).below bI (Nat.le_refl _))
        | (refine step_append_rd rfl _ _ 31 rfl w0.heap.size 30 i0 _ 4 32 Tryz.underlying31 hi hz0 hz1 hz2 rfl (by decide) _ _ _ (by first | rfl | simp [Act.eval, Act.put]) (oJ.alloc _) (some ⟨wI.heap.size, 0, none⟩) 1 1 [.int .i64 rx, .int .i64 ry, .int .i64 rw', .int .i64 rh] (by first | rfl | simp [Act.eval, Act.put]) (rd_made4 _) (by intro u hu; simp at hu; rcases hu with rfl | rfl | rfl | rfl <;> rfl) (by unfold maxLen; omega) (by omega) (by have := BI.size; simp; omega) ?_; intro v3 w3 o3 hg3; have b3 := (BI.alloc BI.size _).grown hg3 (by have := BI.size; simp; omega) (fun k hk => (oJ.lt k hk).1); obtain ⟨A3, n3, rfl, _⟩ := own_form o3; obtain ⟨k34, k35, k36', k37, k36, f36⟩ := kS.out w3 b3)
        | (refine step_append_rd rfl _ _ 31 rfl w0.heap.size 30 i0 _ 4 32 Tryz.underlying31 hi hz0 hz1 hz2 rfl (by decide) _ _ _ (by first | rfl | simp [Act.eval, Act.put]) oJ (some ⟨w0.heap.size, 0, none⟩) 1 1 [.int .i64 rx, .int .i64 ry, .int .i64 rw', .int .i64 rh] (by first | rfl | simp [Act.eval, Act.put]) hcb (by intro u hu; simp at hu; rcases hu with rfl | rfl | rfl | rfl <;> rfl) (by unfold maxLen; omega) (by omega) BI.size ?_; intro v3 w3 o3 hg3; have b3 := BI.grown hg3 BI.size (fun k hk => (oJ.lt k hk).1); obtain ⟨A3, n3, rfl, _⟩ := own_form o3; obtain ⟨k34, k35, k36', k37, k36, f36⟩ := kS.out w3 b3))
    all_goals
      have hc := hide (hfin.out w3 A3 n3 b3 o3)
      obtain ⟨W1, hW1⟩ : ∃ W1, W1 = w3.setCell ⟨g, k * 33 + 5, none⟩ (.slice A3 (n + 1) n3) := ⟨_, rfl⟩
      rw [← hW1] at hc ⊢
      have dc := hc.out.c1
      obtain ⟨x4, x5, x6, x7⟩ := hc.out.cells
      dsimp only at dc x4 x5 x6 x7
      replace hW1 := hide hW1
      go_wp2_with (first | (go_at_call 16; refine (tDamage17 hE hc.out id ⟨rx, ry, rw', rh⟩ g1 (by omega)).mono ?_; clear hc; rw [e1]; rintro e w' ⟨rfl, hc⟩; replace hc := hide hc) | (go_at_call 37; refine (tKind17 hE hc.out 0 (by omega)).mono ?_; clear hc; rintro e w' ⟨rfl, hc⟩; replace hc := hide hc))
      go_ret
      exact ⟨rfl, _, _, hc.out.js.mono (by omega) (by omega), hNd.out.turn id (fun _ => rfl), Nat.le_succ _⟩
end Go.Proofs.YthkjicnnepkghaaGreatDoor
