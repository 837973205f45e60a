/-
  The laws of layer 17: a call at both: Input; all of them.
-/
import Derived.Test.YthkjicnnepkghaaGreatDoorPkStep17e
namespace Go.Proofs.YthkjicnnepkghaaGreatDoor
open Go.RowKit
set_option linter.unusedVariables false

section
variable {W w w' w1 w3 : World} {p q ob N c B cR : Nat} {M M' R R' : Fo} {o : Op17} {lv : Value} {F G : Nat → Prop} {v : Value} {L : List RSf} {ae : Nat → Addr} {id : Int} {k g cc : Nat} {r r' : RSf}
theorem TXF.addG (h : TXF W p q ob N c B cR M R o lv F G v L w) (X : Nat → Prop) (hX : ∀ b, X b → b < W.heap.size) (hob : W.heap.size ≤ ob) : TXF W p q ob N c B cR M R o lv F (fun b => G b ∨ X b) v L w := by
  have hz := h.jx.fx.below.size
  refine ⟨⟨h.jx.fx, ⟨h.jx.rf.cells, h.jx.rf.row, fun r hr => (h.jx.rf.ok r hr).mono fun b hb => .inl hb, h.jx.rf.ids, h.jx.rf.qB, ?_, ?_, ?_⟩, h.jx.eqR, h.jx.len, ?_⟩, h.op, h.obF, ?_⟩
  · rintro (hb | hb)
    · exact h.jx.rf.gq hb
    · have := hX _ hb; have := h.jx.rf.qB; omega
  · rintro b hb (hg | hg)
    · exact h.jx.rf.gv b hb hg
    · have := hX _ hg; have := (h.jx.rf.row.lt b hb).1; omega
  · rintro b (hb | hb)
    · exact h.jx.rf.glt b hb
    · have := hX _ hb; omega
  · rintro b hF (hb | hb)
    · rcases hb with hb | hb
      · exact h.jx.dis b hF (.inl hb)
      · have := hX _ hb; have := h.jx.fx.ge b hF; omega
    · exact h.jx.dis b hF (.inr hb)
  · rintro (hb | hb)
    · rcases hb with hb | hb
      · exact h.obG (.inl hb)
      · have := hX _ hb; omega
    · exact h.obG (.inr hb)
theorem Here.addG {B0 : Nat} (h : Here B0 w q G v L id k g cc r) (X : Nat → Prop) : Here B0 w q (fun b => G b ∨ X b) v L id k g cc r := ⟨h.lt, h.form, h.row, h.at_, h.id_, h.s, h.ok.mono fun b hb => .inl hb⟩
def TXI (W : World) (p q ob N c B cR : Nat) (M R : Fo) (o : Op17) (lv u : Value) (l : List R4) (w : World) : Prop := ∃ F G v L, TXF W p q ob N c B cR M R o lv F G v L w ∧ Rd w u 4 l.length (l.flatMap R4.enc) ∧ ∀ b, u.ownBlock = some b → ¬ F b
theorem TXI.tx {u : Value} {l : List R4} (h : TXI W p q ob N c B cR M R o lv u l w) : TX W p q ob N c B cR M R o lv w := by
  obtain ⟨F, G, v, L, h, _⟩ := h
  exact ⟨F, G, v, L, h⟩
theorem tRects17 (h : TX W p q ob N c B cR M R o lv w) (v : Value) (l : List R4) (hv : Rd W v 4 l.length (l.flatMap R4.enc)) (hl : l.length ≤ 1000000) :
    Calls Tryz.prog 46 #[v] w fun e w' => ∃ A cc, e = .returned (.slice A l.length cc) ∧ TXI W p q ob N c B cR M R o lv (.slice A l.length cc) l w' := by
  refine (lRects_any w v l (hv.below h.js.below (Nat.le_refl _)) hl).mono ?_
  rintro e w' ⟨v', rfl, o1, b1⟩
  obtain ⟨A, cc, rfl, _⟩ := own_form o1
  obtain ⟨F, G, v, L, h⟩ := h
  exact ⟨A, cc, rfl, F, G, v, L, h.keep b1, Rd.of_own o1, fun b hb hF => by have := (o1.lt b hb).1; have := h.jx.fx.lt b hF; omega⟩
theorem tInp17 (hE : Errs W.heap.size W ae) {u : Value} {l : List R4} (h : TXI W p q ob N c B cR M R o lv u l w) (id : Int) (al : Bool) (hid : I64 id) (hl : l.length ≤ B) (hB : B ≤ 10000) :
    Calls Tryz.prog 21 #[.pointer (some ⟨p, 0, none⟩), .int .i64 id, .bool al, u] w fun e w' => e = .returned (errV ae (thereK M id)) ∧ TX W p q ob (N + 1) c B cR (turnS M id (inputT al l)) R o lv w' := by
  obtain ⟨F, G, v, L, h, hr, hF⟩ := h
  refine (yInput hE.five h.jx.fx id al u l hid hr hF hl hB).mono ?_
  rintro e w' ⟨he, ho⟩
  exact ⟨he, h.xout ho⟩
end

set_option maxRecDepth 100000 in
set_option maxHeartbeats 4000000 in
theorem step17_8 {W w : World} {p q N c B : Nat} {M : Fo} {ae : Nat → Addr} (hE : Errs W.heap.size W ae) (h : JS W p q N c B c M M w) (hNd : NodM M) (hlim : N ≤ 1000 ∧ c ≤ 900 ∧ B ≤ 9000 ∧ 20 ≤ B) (o : Op17) (lA : Option Addr) (lc : Nat) (ho : o.good) (hj : o.kind % 19 = 8)
    (hrl : Rd W (.slice lA o.l.length lc) 4 o.l.length (o.l.flatMap R4.enc)) (hl20 : o.l.length ≤ 20) :
    Calls Tryz.prog 9 #[.pointer (some ⟨p, 0, none⟩), .pointer (some ⟨q, 0, none⟩), .agg (o.cells (.slice lA o.l.length lc))] w (StepP W p q N c B) := by
  have h0 := h.below.size
  obtain ⟨kd, id, a, b, ⟨rx, ry, rw', rh⟩, l⟩ := o
  obtain ⟨g0, g1, g2, g3⟩ := ho
  obtain ⟨l1, l2, l3, l4⟩ := hlim
  dsimp only at g0 g1 g2 g3 hj
  have hT := h.boxed ⟨kd, id, a, b, ⟨rx, ry, rw', rh⟩, l⟩ (.slice lA l.length lc)
  have hG := h.good.1
  have hF := h.good.2.2
  have hP := fun w => place_any kd 19 w (by omega) (by omega)
  rw [hj] at hP
  replace hP := hide hP
  unfold Op17.cells at hT ⊢
  dsimp only at hT ⊢
  clear h hj
  obtain ⟨w0, hw0⟩ : ∃ w0, w0 = w.alloc (.cells #[.int .i64 kd, .int .i64 id, .int .i64 a, .int .i64 b, .int .i64 rx, .int .i64 ry, .int .i64 rw', .int .i64 rh, .slice lA l.length lc] 33) := ⟨_, rfl⟩
  obtain ⟨ob, hob⟩ : ∃ ob, ob = w.heap.size := ⟨_, rfl⟩
  rw [← hob, ← hw0] at hT
  have d0 := hT.c0
  have d1 := hT.c1
  have d2 := hT.c2
  have d3 := hT.c3
  dsimp only at d0 d1 d2 d3
  replace hG := hide hG
  replace hF := hide hF
  replace hNd := hide hNd
  replace hw0 := hide hw0
  replace hob := hide hob
  have d8 := hT.c8
  change Rd W (.slice lA l.length lc) 4 l.length (l.flatMap R4.enc) at hrl
  change l.length ≤ 20 at hl20
  replace hrl := hide hrl
  cases hs : M id with
  | none =>
    have cS := hide (hT.sNo (by omega) id hs)
    have hc := hide hT.drew
    have e1 := thereK_none hs
    have e2 : ∀ f, turnS M id f = M := fun f => turnS_none hs
    replace hT := hide hT
    go_enter Tryz.func9, Tryz.ntmps9
    go_wp2_with fail
    rw [← hob.out, ← hw0.out]
    refine cS.out.mono ?_
    rintro e w' ⟨rfl, rfl⟩
    clear cS
    go_wp2_with (go_at_call 14; refine (hP.out _).mono ?_; rintro e w' ⟨rfl, rfl⟩)
    go_region_held3 (fun w' => w'.cell? ⟨ob, 1, none⟩ = some (.int .i64 id) ∧ w'.cell? ⟨ob, 2, none⟩ = some (.int .i64 a) ∧ w'.cell? ⟨ob, 8, none⟩ = some (.slice lA l.length lc)) (go_keep)
      (first
        | (go_at_call 46; refine (tRects17 hc.out _ l hrl.out (by omega)).mono ?_; clear hc; rintro e w' ⟨A7, n7, rfl, hi⟩; have dc := hi.tx.c1; have dc2 := hi.tx.c2; have dc8 := hi.tx.c8; dsimp only at dc dc2 dc8; replace hi := hide hi)
        | (go_at_call 21; refine (tInp17 hE hi.out id _ g1 (by omega) (by omega)).mono ?_; clear hi; rw [e1, e2]; rintro e w' ⟨rfl, hc⟩; have dc := hc.c1; have dc2 := hc.c2; have dc8 := hc.c8; dsimp only at dc dc2 dc8; replace hc := hide hc)
        | (go_at_call 37; refine (tKind17 hE hc.out 5 (by omega)).mono ?_; clear hc; rintro e w' ⟨rfl, hc⟩; have dc := hc.c1; have dc2 := hc.c2; have dc8 := hc.c8; dsimp only at dc dc2 dc8; replace hc := hide hc))
    go_wp2
    go_ret
    exact ⟨rfl, _, _, hc.out.js.mono (by omega) (by omega), hNd.out, Nat.le_succ _⟩
  | some s =>
    have e1 := thereK_some hs
    have e2 : ∀ f, turnS M id f = setM M id (some { s with pe := f s.pe }) := fun f => turnS_some hs
    obtain ⟨F, G0, v, L, k, g, cc, r, hX0, hh0, rfl, cS⟩ := hT.sAt (by omega) id hs
    replace cS := hide cS
    have hobW : W.heap.size ≤ ob := by rw [hob.out]; exact h0
    obtain ⟨G, hGd⟩ : ∃ G, G = fun b => G0 b ∨ (0 < l.length ∧ (Value.slice lA l.length lc).ownBlock = some b) := ⟨_, rfl⟩
    have hX := hX0.addG (fun b => 0 < l.length ∧ (Value.slice lA l.length lc).ownBlock = some b) (fun b hb => hrl.out.inSize hb.1 b hb.2) hobW
    have hh := hh0.addG (fun b => 0 < l.length ∧ (Value.slice lA l.length lc).ownBlock = some b)
    rw [← hGd] at hX hh
    have hlG : BlkIn G (.slice lA l.length lc) l.length := fun hn b hb => by rw [hGd]; exact .inr ⟨hn, hb⟩
    clear hX0 hh0 hGd
    have hog := hX.obg hh
    have hng := (hh.ng hX.jx.rf).1
    have hrw := hrl.out.below hT.js.below (Nat.le_refl _)
    have k7 : w0.cell? ⟨g, k * 33 + 7, none⟩ = some (.bool r.s.pe.input) := hh.row.cell hh.lt (by decide)
    have k8 : w0.cell? ⟨g, k * 33 + 8, none⟩ = some (.bool r.s.pe.all) := hh.row.cell hh.lt (by decide)
    have k9 : w0.cell? ⟨g, k * 33 + 9, none⟩ = some r.pe.r := hh.row.cell hh.lt (by decide)
    have f7 := hh.row.free (k * 33 + 7)
    have f8 := hh.row.free (k * 33 + 8)
    have f9 := hh.row.free (k * 33 + 9)
    have s1 : ∀ j u, (w0.setCell ⟨g, j, none⟩ u).cell? ⟨ob, 2, none⟩ = some (.int .i64 a) := fun j u => (World.cell?_setCell_other _ _ _ _ (fun e => hog (congrArg Addr.block e).symm)).trans d2
    have s2 : ∀ j u j' u', ((w0.setCell ⟨g, j, none⟩ u).setCell ⟨g, j', none⟩ u').cell? ⟨ob, 2, none⟩ = some (.int .i64 a) := fun j u j' u' => (World.cell?_setCell_other _ _ _ _ (fun e => hog (congrArg Addr.block e).symm)).trans (s1 j u)
    have s3 : ∀ j u j' u' j'' u'', (((w0.setCell ⟨g, j, none⟩ u).setCell ⟨g, j', none⟩ u').setCell ⟨g, j'', none⟩ u'').cell? ⟨ob, 2, none⟩ = some (.int .i64 a) := fun j u j' u' j'' u'' => (World.cell?_setCell_other _ _ _ _ (fun e => hog (congrArg Addr.block e).symm)).trans (s2 j u j' u')
    obtain ⟨al, hal⟩ : ∃ al, al = (bits BinOp.and IntKind.i64 a 1 == 0) := ⟨_, rfl⟩
    obtain ⟨W3, hW3⟩ : ∃ W3, W3 = (((w0.setCell ⟨g, k * 33 + 7, none⟩ (.bool true)).setCell ⟨g, k * 33 + 8, none⟩ (.bool al)).setCell ⟨g, k * 33 + 9, none⟩ (.slice none 0 0)).drew := ⟨_, rfl⟩
    have hc3 : Chg (fun b => b = g) w0 W3 := by
      rw [hW3]
      exact (((Chg.setCell (F := fun b => b = g) w0 (a := ⟨g, k * 33 + 7, none⟩) rfl _).trans (Chg.setCell (F := fun b => b = g) _ (a := ⟨g, k * 33 + 8, none⟩) rfl _) (Ext.refl _ _)).trans (Chg.setCell (F := fun b => b = g) _ (a := ⟨g, k * 33 + 9, none⟩) rfl _) (Ext.refl _ _)).drewN 1
    have hr3 : RowAt W.heap.size W3 g cc L k (RSf.enc { r with s := { r.s with pe := { r.s.pe with input := true, all := al, region := [] } }, pe := { r.pe with r := .slice none 0 0 } }) := by
      rw [hW3]
      exact (((hh.row.set hh.lt (show 7 < 33 by decide) _).set hh.lt (show 8 < 33 by decide) _).set hh.lt (show 9 < 33 by decide) _).below (below_drewN (Below.refl _ _) 1)
    have hok0 : RSfOk w0 G ({ r with s := { r.s with pe := inputT true l r.s.pe }, pe := { r.pe with r := .slice none 0 0 } } : RSf) := ⟨⟨hh.ok.pe.d, hh.ok.pe.f, Rd.nil _ _, hh.ok.pe.o, hh.ok.pe.p⟩, hh.ok.ca, hh.ok.cu, ⟨hh.ok.peI.d, hh.ok.peI.f, BlkIn.nil _ _, hh.ok.peI.o, hh.ok.peI.p⟩, hh.ok.caI, hh.ok.cuI, hh.ok.id64⟩
    have hok1 : RSfOk w0 G ({ r with s := { r.s with pe := inputT false l r.s.pe }, pe := { r.pe with r := .slice lA l.length lc } } : RSf) := ⟨⟨hh.ok.pe.d, hh.ok.pe.f, hrw, hh.ok.pe.o, hh.ok.pe.p⟩, hh.ok.ca, hh.ok.cu, ⟨hh.ok.peI.d, hh.ok.peI.f, hlG, hh.ok.peI.o, hh.ok.peI.p⟩, hh.ok.caI, hh.ok.cuI, hh.ok.id64⟩
    cases al with
    | true =>
      have hnb : (bits BinOp.and IntKind.i64 a 1 != 0) = false := by
        have : (bits BinOp.and IntKind.i64 a 1 == 0) = true := hal.symm
        simp [bne, this]
      have hc : Hid (TX W p q ob N c B c M (turnS M id (inputT true l)) ⟨kd, id, a, b, ⟨rx, ry, rw', rh⟩, l⟩ (.slice lA l.length lc) W3) := hide (by
        rw [e2]
        exact hX.turnW (r' := { r with s := { r.s with pe := inputT true l r.s.pe }, pe := { r.pe with r := .slice none 0 0 } }) hh hs hc3 hr3 rfl ((hok0.stay hc3 hng).mono fun b hb => .inl hb))
      have hal' : (bits BinOp.and IntKind.i64 a 1 == 0) = true := hal.symm
      have dc := hc.out.c1
      have dc2 := hc.out.c2
      have dc8 := hc.out.c8
      dsimp only at dc dc2 dc8
      replace hc := hide hc.out.drew
      replace hs := hide hs
      replace hW3 := hide hW3
      clear hX hh hT hok0 hok1 hr3 hc3 hrw hal
      go_enter Tryz.func9, Tryz.ntmps9
      go_wp2_with fail
      rw [← hob.out, ← hw0.out]
      refine cS.out.mono ?_
      rintro e w' ⟨rfl, rfl⟩
      clear cS
      go_wp2_with (go_at_call 14; refine (hP.out _).mono ?_; rintro e w' ⟨rfl, rfl⟩)
      go_region_held3 (fun w' => w'.cell? ⟨ob, 2, none⟩ = some (.int .i64 a)) (first | go_keep | exact s1 _ _ | exact s2 _ _ _ _ | exact s3 _ _ _ _ _ _) (fail)
      all_goals
        clear s1 s2 s3
        rw [← hW3.out]
        go_wp2_with fail
        go_region_held3 (fun w' => w'.cell? ⟨ob, 1, none⟩ = some (.int .i64 id) ∧ w'.cell? ⟨ob, 2, none⟩ = some (.int .i64 a) ∧ w'.cell? ⟨ob, 8, none⟩ = some (.slice lA l.length lc)) (go_keep)
          (first
            | (go_at_call 46; refine (tRects17 hc.out _ l hrl.out (by omega)).mono ?_; clear hc; rintro e w' ⟨A7, n7, rfl, hi⟩; have dc := hi.tx.c1; have dc2 := hi.tx.c2; have dc8 := hi.tx.c8; dsimp only at dc dc2 dc8; replace hi := hide hi)
            | (go_at_call 21; refine (tInp17 hE hi.out id true g1 (by omega) (by omega)).mono ?_; clear hi; rw [e1]; rintro e w' ⟨rfl, hc⟩; have dc := hc.c1; have dc2 := hc.c2; have dc8 := hc.c8; dsimp only at dc dc2 dc8; replace hc := hide hc)
            | (go_at_call 37; refine (tKind17 hE hc.out 0 (by omega)).mono ?_; clear hc; rintro e w' ⟨rfl, hc⟩; have dc := hc.c1; have dc2 := hc.c2; have dc8 := hc.c8; dsimp only at dc dc2 dc8; replace hc := hide hc))
        go_wp2
        go_ret
        exact ⟨rfl, _, _, hc.out.js.mono (by omega) (by omega), hNd.out.turn id (fun _ => rfl), Nat.le_succ _⟩
    | false =>
      have hnb : (bits BinOp.and IntKind.i64 a 1 != 0) = true := by
        have : (bits BinOp.and IntKind.i64 a 1 == 0) = false := hal.symm
        simp [bne, this]
      obtain ⟨W4, hW4⟩ : ∃ W4, W4 = W3.setCell ⟨g, k * 33 + 9, none⟩ (.slice lA l.length lc) := ⟨_, rfl⟩
      have hc4 : Chg (fun b => b = g) w0 W4 := by rw [hW4]; exact hc3.trans (Chg.setCell (F := fun b => b = g) _ (a := ⟨g, k * 33 + 9, none⟩) rfl _) (Ext.refl _ _)
      have hc : Hid (TX W p q ob N c B c M (turnS M id (inputT false l)) ⟨kd, id, a, b, ⟨rx, ry, rw', rh⟩, l⟩ (.slice lA l.length lc) W4) := hide (by
        rw [e2]
        refine hX.turnW (r' := { r with s := { r.s with pe := inputT false l r.s.pe }, pe := { r.pe with r := .slice lA l.length lc } }) hh hs hc4 ?_ rfl ((hok1.stay hc4 hng).mono fun b hb => .inl hb)
        rw [hW4]
        exact hr3.set hh.lt (show 9 < 33 by decide) _)
      have hal' : (bits BinOp.and IntKind.i64 a 1 == 0) = false := hal.symm
      have dc := hc.out.c1
      have dc2 := hc.out.c2
      have dc8 := hc.out.c8
      dsimp only at dc dc2 dc8
      have x2 := (World.cell?_of_block (a := ⟨ob, 2, none⟩) (hc3.block ob (lt_of_block hX.op) hog)).trans d2
      have x8 := (World.cell?_of_block (a := ⟨ob, 8, none⟩) (hc3.block ob (lt_of_block hX.op) hog)).trans d8
      have x9 : W3.cell? ⟨g, k * 33 + 9, none⟩ = some (.slice none 0 0) := hr3.cell hh.lt (by decide)
      have y9 := hr3.free (k * 33 + 9)
      replace hc := hide hc.out.drew
      replace hs := hide hs
      replace hW3 := hide hW3
      replace hW4 := hide hW4
      clear hX hh hT hok0 hok1 hr3 hc3 hc4 hrw hal
      go_enter Tryz.func9, Tryz.ntmps9
      go_wp2_with fail
      rw [← hob.out, ← hw0.out]
      refine cS.out.mono ?_
      rintro e w' ⟨rfl, rfl⟩
      clear cS
      go_wp2_with (go_at_call 14; refine (hP.out _).mono ?_; rintro e w' ⟨rfl, rfl⟩)
      go_region_held3 (fun w' => w'.cell? ⟨ob, 2, none⟩ = some (.int .i64 a)) (first | go_keep | exact s1 _ _ | exact s2 _ _ _ _ | exact s3 _ _ _ _ _ _) (fail)
      all_goals
        clear s1 s2 s3
        rw [← hW3.out]
        go_wp2_with fail
        rw [← hW4.out]
        go_region_held3 (fun w' => w'.cell? ⟨ob, 1, none⟩ = some (.int .i64 id) ∧ w'.cell? ⟨ob, 2, none⟩ = some (.int .i64 a) ∧ w'.cell? ⟨ob, 8, none⟩ = some (.slice lA l.length lc)) (go_keep)
          (first
            | (go_at_call 46; refine (tRects17 hc.out _ l hrl.out (by omega)).mono ?_; clear hc; rintro e w' ⟨A7, n7, rfl, hi⟩; have dc := hi.tx.c1; have dc2 := hi.tx.c2; have dc8 := hi.tx.c8; dsimp only at dc dc2 dc8; replace hi := hide hi)
            | (go_at_call 21; refine (tInp17 hE hi.out id false g1 (by omega) (by omega)).mono ?_; clear hi; rw [e1]; rintro e w' ⟨rfl, hc⟩; have dc := hc.c1; have dc2 := hc.c2; have dc8 := hc.c8; dsimp only at dc dc2 dc8; replace hc := hide hc)
            | (go_at_call 37; refine (tKind17 hE hc.out 0 (by omega)).mono ?_; clear hc; rintro e w' ⟨rfl, hc⟩; have dc := hc.c1; have dc2 := hc.c2; have dc8 := hc.c8; dsimp only at dc dc2 dc8; replace hc := hide hc))
        go_wp2
        go_ret
        exact ⟨rfl, _, _, hc.out.js.mono (by omega) (by omega), hNd.out.turn id (fun _ => rfl), Nat.le_succ _⟩

theorem step17_any {W w : World} {p q N c B : Nat} {M : Fo} {ae : Nat → Addr} (hE : Errs W.heap.size W ae) (h : JS W p q N c B c M M w) (hNd : NodM M) (hlim : N ≤ 1000 ∧ c ≤ 900 ∧ B ≤ 9000 ∧ 20 ≤ B) (o : Op17) (lA : Option Addr) (lc : Nat) (ho : o.good)
    (hrl : Rd W (.slice lA o.l.length lc) 4 o.l.length (o.l.flatMap R4.enc)) (hl20 : o.l.length ≤ 20) :
    Calls Tryz.prog 9 #[.pointer (some ⟨p, 0, none⟩), .pointer (some ⟨q, 0, none⟩), .agg (o.cells (.slice lA o.l.length lc))] w (StepP W p q N c B) := by
  have p1 := Int.emod_nonneg o.kind (show (19 : Int) ≠ 0 by decide)
  have p2 := Int.emod_lt_of_pos o.kind (show (0 : Int) < 19 by decide)
  rcases (show o.kind % 19 = 0 ∨ o.kind % 19 = 1 ∨ o.kind % 19 = 2 ∨ o.kind % 19 = 3 ∨ o.kind % 19 = 4 ∨ o.kind % 19 = 5 ∨ o.kind % 19 = 6 ∨ o.kind % 19 = 7 ∨ o.kind % 19 = 8 ∨ o.kind % 19 = 9 ∨ o.kind % 19 = 10 ∨ o.kind % 19 = 11 ∨ o.kind % 19 = 12 ∨ (13 ≤ o.kind % 19 ∧ o.kind % 19 ≤ 17) ∨ o.kind % 19 = 18 by omega) with hj | hj | hj | hj | hj | hj | hj | hj | hj | hj | hj | hj | hj | hj | hj
  · exact step17_0 hE h hNd hlim o lA lc ho hj
  · exact step17_1 hE h hNd hlim o lA lc ho hj
  · exact step17_2 hE h hNd hlim o lA lc ho hj
  · exact step17_3 hE h hNd hlim o lA lc ho hj
  · exact step17_4 hE h hNd hlim o lA lc ho hj
  · exact step17_5 hE h hNd hlim o lA lc ho hj
  · exact step17_6 hE h hNd hlim o lA lc ho hj
  · exact step17_7 hE h hNd hlim o lA lc ho hj
  · exact step17_8 hE h hNd hlim o lA lc ho hj hrl hl20
  · exact step17_9 hE h hNd hlim o lA lc ho hj
  · exact step17_10 hE h hNd hlim o lA lc ho hj
  · exact step17_11 hE h hNd hlim o lA lc ho hj
  · exact step17_12 hE h hNd hlim o lA lc ho hj
  · exact step17_13 hE h hNd hlim o lA lc ho hj.1 hj.2
  · exact step17_18 hE h hNd hlim o lA lc ho hj
end Go.Proofs.YthkjicnnepkghaaGreatDoor
