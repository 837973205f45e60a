/-
  Package forest: Sub.
-/
import Derived.Test.YthkjicnnepkghaaDoorForest4
namespace Go.Proofs.YthkjicnnepkghaaDoor
open Go.RowKit
set_option linter.unusedVariables false

/-- Over the same map: the surfaces' places in memory are Z'. -/
def FZOut (w : World) (p mb n : Nat) (F : Nat → Prop) (Z' : Int → Option SfV) (M' : Fo) (w' : World) : Prop := ∃ F', ForZ w' p mb F' n Z' M' ∧ Chg F w w' ∧ Ext F F' w.heap.size
section
variable {w w' w1 : World} {p mb n : Nat} {F : Nat → Prop} {Z : Int → Option SfV} {M : Fo} {id : Int} {t t' : Sf} {z z' : SfV}
theorem FZOut.outN {Z' : Int → Option SfV} {M' : Fo} (h : FZOut w p mb n F Z' M' w') : FOutN w p n F M' w' := by
  obtain ⟨F', h1, h2, h3⟩ := h
  exact ⟨F', ⟨mb, _, h1⟩, h2, h3⟩
theorem FZOut.stayB (h : ForZ w p mb F n Z M) (hb : Below w.heap.size w w') : FZOut w p mb n F Z M w' := ⟨F, h.below hb, Chg.of_below hb F, Ext.refl _ _⟩
theorem FZOut.trans {w2 : World} {Z1 Z2 : Int → Option SfV} {M1 M2 : Fo} (h : FZOut w p mb n F Z1 M1 w1) (h2 : ∀ F', ForZ w1 p mb F' n Z1 M1 → FZOut w1 p mb n F' Z2 M2 w2) : FZOut w p mb n F Z2 M2 w2 := by
  obtain ⟨F', a1, a2, a3⟩ := h
  obtain ⟨F'', b1, b2, b3⟩ := h2 F' a1
  exact ⟨F'', b1, a2.trans b2 a3, a3.trans b3 a2.size⟩
theorem ForZ.turnZ (h : ForZ w p mb F n Z M) (hz : Z id = some z) (hc : Chg z.F w w') (ha : z'.a = z.a) (hs' : SurfAt w' id t' z' ∧ (∀ b, z'.F b → z.F b ∨ w.heap.size ≤ b)) :
    FZOut w p mb n F (setZ Z id (some z')) (setM M id (some t')) w' :=
  ⟨_, h.turn hz hc ha hs'.1 hs'.2, hc.mono (fun b _ hb => h.inF id z hz b hb), fun b hb => by
    rcases hb with hb | hb
    · exact .inl hb
    · rcases hs'.2 b hb with h1 | h1
      · exact .inl (h.inF id z hz b h1)
      · exact .inr h1⟩
theorem ForZ.orderedZ (h : ForZ w p mb F n Z M) (hz : Z id = some z) (ht : SurfAt w id t z) (L : List Int) {A : Option Addr} {l k : Nat} (b1 : Below w.heap.size w w1)
    (o1 : w1.ownsRow w.heap.size 3 1 (.slice A l k) L.length (L.map (Value.int .i64))) :
    ∃ z', z'.a = z.a ∧ z'.pe.p = z.pe.p ∧ FZOut w p mb n F (setZ Z id (some z')) (setM M id (some (orderT t L))) ((w1.setCell ⟨z.a, 10, none⟩ (.bool true)).setCell ⟨z.a, 11, none⟩ (.slice A l k)) := by
  have hlt := ht.lt z.a (.inl rfl)
  have hb1 : w1.heap[z.a]? = some (.cells (sfCells id t z) 60 (0, 0)) := (b1.block z.a hlt).trans ht.blk
  refine ⟨{ z with pe := { z.pe with o := .slice A l k }, G := grownG w ((w1.setCell ⟨z.a, 10, none⟩ (.bool true)).setCell ⟨z.a, 11, none⟩ (.slice A l k)) z.G }, rfl, rfl, h.turnZ hz ?_ rfl (ht.froz ?_ rfl rfl ?_ (.inl ⟨rfl, rfl⟩) (.inl ⟨rfl, rfl⟩) .same ?_ .same .same .same)⟩
  · exact (Chg.of_below b1 _).trans (chg2 w1 z.a 10 11 _ _ (.inl rfl)) (Ext.refl _ _)
  · exact (Chg.of_below b1 _).trans (chg2e w1 z.a 10 11 _ _) (Ext.refl _ _)
  · exact set_cells2 (t := t) hb1 10 11 _ _ rfl
  · exact .own (own_setOther (own_setOther o1 hlt _) hlt _) (Nat.le_refl _)
theorem ForZ.placedZ (h : ForZ w p mb F n Z M) (hz : Z id = some z) (ht : SurfAt w id t z) (c : Ch) {A : Option Addr} {l k : Nat} (b1 : Below w.heap.size w w1)
    (o1 : w1.ownsRow w.heap.size 51 3 (.slice A l k) (putP t.pe.places c).length ((putP t.pe.places c).flatMap Ch.enc)) :
    ∃ z', z'.a = z.a ∧ FZOut w p mb n F (setZ Z id (some z')) (setM M id (some (placeT t c))) (w1.setCell ⟨z.a, 12, none⟩ (.slice A l k)) := by
  have hlt := ht.lt z.a (.inl rfl)
  have hb1 : w1.heap[z.a]? = some (.cells (sfCells id t z) 60 (0, 0)) := (b1.block z.a hlt).trans ht.blk
  refine ⟨{ z with pe := { z.pe with p := .slice A l k }, G := grownG w (w1.setCell ⟨z.a, 12, none⟩ (.slice A l k)) z.G }, rfl, h.turnZ hz ?_ rfl (ht.froz ?_ rfl rfl ?_ (.inl ⟨rfl, rfl⟩) (.inl ⟨rfl, rfl⟩) .same .same ?_ .same .same)⟩
  · exact (Chg.of_below b1 _).trans (chg1 w1 z.a 12 _ (.inl rfl)) (Ext.refl _ _)
  · exact (Chg.of_below b1 _).trans (chg1e w1 z.a 12 _) (Ext.refl _ _)
  · rw [heap_setCell_same w1 z.a 12 _ _ _ hb1]; rfl
  · exact .own (own_setOther o1 hlt _) (Nat.le_refl _)
theorem setM_setM (M : Fo) (id : Int) (a b : Option Sf) : setM (setM M id a) id b = setM M id b := by
  funext i
  unfold setM
  split <;> rfl
theorem setZ_same (Z : Int → Option SfV) (id : Int) (v : Option SfV) : setZ Z id v id = v := by simp [setZ]
theorem setZ_other (Z : Int → Option SfV) {id j : Int} (v : Option SfV) (h : j ≠ id) : setZ Z id v j = Z j := by simp [setZ, h]

set_option maxRecDepth 100000 in
set_option maxHeartbeats 2000000 in
theorem fSub_any {B : Nat} (w : World) {ae : Nat → Addr} (hE : ErrF B w ae) (h : ForZ w p mb F n Z M) (hG : GoodM M) (id parent : Int) (hid : I64 id) (hpi : I64 parent) (hlen : ∀ i t, M i = some t → t.latest.length ≤ 1000000 ∧ t.pe.places.length ≤ 10000) :
    Calls Tryd.prog 10 #[.pointer (some ⟨p, 0, none⟩), .int .i64 id, .int .i64 parent] w fun e w' => e = .returned (errV ae (fsubK M id parent)) ∧ FOutN w p n F (fsubS M id parent) w' := by
  have hc := h.cellP
  have g4 : w.cell? ⟨1, 0, none⟩ = _ := hE.glob 4 (by decide)
  have g9 : w.cell? ⟨3, 0, none⟩ = _ := hE.glob 9 (by decide)
  have g10 : w.cell? ⟨4, 0, none⟩ = _ := hE.glob 10 (by decide)
  have hout := hide (fun q => FOutN.stayB h.out (below_drewN (Below.refl _ w) q))
  have hl1 := fun q => (h.drewN q).look hid
  have hl2 := fun q => (h.drewN q).look hpi
  cases hs : M id with
  | none =>
    have e1 : fsubK M id parent = 5 := by simp [fsubK, hs]
    have e2 : fsubS M id parent = M := by unfold fsubS; rw [if_neg (by rw [e1]; decide)]
    rw [e1, e2]
    rw [h.zNone hs] at hl1
    simp only [Option.map_none, Option.getD_none] at hl1
    obtain ⟨v2, hv2⟩ : ∃ v2, v2 = ((Z parent).map SfV.ptr).getD (.pointer none) := ⟨_, rfl⟩
    rw [← hv2] at hl2
    clear h hG hE hs e1 e2 hlen g9 g10 hv2
    go_enter Tryd.func10, Tryd.ntmps10
    go_wp2
    go_quiet (fail)
    all_goals
      go_wp2
      go_ret
      exact ⟨rfl, hout.out _⟩
  | some t =>
    obtain ⟨z, hz, ht⟩ := h.find hs
    rw [hz] at hl1
    simp only [Option.map_some, Option.getD_some, SfV.ptr] at hl1
    cases hs2 : M parent with
    | none =>
      have e1 : fsubK M id parent = 5 := by unfold fsubK; rw [hs, hs2]
      have e2 : fsubS M id parent = M := by unfold fsubS; rw [if_neg (by rw [e1]; decide)]
      rw [e1, e2]
      rw [h.zNone hs2] at hl2
      simp only [Option.map_none, Option.getD_none] at hl2
      clear h hG hE hs e1 e2 hlen g9 g10 hs2 hz ht
      go_enter Tryd.func10, Tryd.ntmps10
      go_wp2
      go_quiet (fail)
      all_goals
        go_wp2
        go_ret
        exact ⟨rfl, hout.out _⟩
    | some t2 =>
      obtain ⟨z2, hz2, ht2⟩ := h.find hs2
      rw [hz2] at hl2
      simp only [Option.map_some, Option.getD_some, SfV.ptr] at hl2
      have c1 : w.cell? ⟨z.a, 1, none⟩ = some (.int .i64 t.parent) := ht.cell 1
      have hnn := hG.par_nn hs
      by_cases hp : t.parent = 0
      · rw [hp] at c1
        have hpos := (hG.pos _ _ hs2).1
        obtain ⟨rk, Bk, hr⟩ := hG.rank
        obtain ⟨m, hm⟩ : ∃ m : Int → Nat, ∀ x, m x = if (M x).isSome then rk x + 1 else 0 := ⟨_, fun x => rfl⟩
        replace hm := hide hm
        replace hr := hide hr
        have cP := hide (fun q x hx => fParent_any (w.drewN q) (h.drewN q) x hx)
        have c2 : w.cell? ⟨z.a, 2, none⟩ = some (.bool t.sync) := ht.cell 2
        have f1 := ht.free 1
        have f2 := ht.free 2
        have hh := hide h
        have hGG := hide hG
        have hlen' := hide hlen
        have hzh := hide hz
        have hsh := hide hs
        have hth := hide ht
        have hz2h := hide hz2
        have hs2h := hide hs2
        have ht2h := hide ht2
        have hph := hide hp
        clear h hG hE hs hlen g9 hs2 hz ht g4 hz2 ht2 hp hnn
        go_enter Tryd.func10, Tryd.ntmps10
        go_wp2
        go_quiet (fail)
        go_wp2
        go_loopg [9] (m parent) (fun k s wr => ∃ x : Int, s = .int .i64 x ∧ k = m x ∧ I64 x ∧ 0 ≤ x ∧ Hid (x = 0 ∨ ∃ t, M x = some t) ∧ Hid (Up M id parent ↔ Up M id x) ∧ wr = w.drewN nq)
        case atStart => exact ⟨parent, rfl, rfl, hpi, by omega, hide (.inr ⟨_, hs2h.out⟩), hide Iff.rfl, rfl⟩
        case round =>
          obtain ⟨x, rfl, rfl, hxi, hx0, hxs, hup, rfl⟩ := hrel
          by_cases hxz : x = 0
          · subst hxz
            have hnu := hide (fun hu : Up M id parent => by have := (hup.out.1 hu).pos; omega : ¬ Up M id parent)
            clear hup hxs hx0 hxi
            have hne : parent ≠ id := fun e => hnu.out (by rw [e]; exact .here (by have := (hGG.out.pos _ _ hsh.out).1; omega))
            have e1 := hide (show fsubK M id parent = 0 by
              unfold fsubK; rw [hsh.out, hs2h.out]; dsimp only
              rw [if_neg (by simp [hph.out]), if_neg hnu.out])
            obtain ⟨L, hL⟩ : ∃ L, L = without t2.latest id ++ [id] := ⟨_, rfl⟩
            have e2 : Hid (fsubS M id parent = setM (setM M id (some { t with parent := parent, sync := true })) parent (some (placeT (orderT t2 L) ⟨id, 0, 0⟩))) := hide (by
              unfold fsubS; rw [if_pos e1.out]; unfold subbed; rw [hsh.out, hs2h.out]; dsimp only; rw [← hL])
            replace hL := hide hL
            obtain ⟨F1, k1, q1, x1⟩ := (hh.out.drewN nq).turnZ (t' := { t with parent := parent, sync := true }) (z' := { z with G := grownG (w.drewN nq) (((w.drewN nq).setCell ⟨z.a, 1, none⟩ (.int .i64 parent)).setCell ⟨z.a, 2, none⟩ (.bool true)) z.G }) hzh.out (chg2 (w.drewN nq) z.a 1 2 (.int .i64 parent) (.bool true) (.inl rfl)) rfl
              (((hh.out.drewN nq).surf _ _ _ hzh.out hsh.out).froz (chg2e (w.drewN nq) z.a 1 2 (.int .i64 parent) (.bool true)) rfl rfl (set_cells2 (t := t) ((hh.out.drewN nq).surf _ _ _ hzh.out hsh.out).blk 1 2 _ _ rfl) (.inl ⟨rfl, rfl⟩) (.inl ⟨rfl, rfl⟩) .same .same .same .same .same)
            obtain ⟨Z1, hZ1⟩ : ∃ Z1, Z1 = setZ Z id (some { z with G := grownG (w.drewN nq) (((w.drewN nq).setCell ⟨z.a, 1, none⟩ (.int .i64 parent)).setCell ⟨z.a, 2, none⟩ (.bool true)) z.G }) := ⟨_, rfl⟩
            rw [← hZ1] at k1
            have hz2' : Z1 parent = some z2 := by rw [hZ1, setZ_other _ _ hne]; exact hz2h.out
            have hs2' : setM M id (some { t with parent := parent, sync := true }) parent = some t2 := by rw [setM_other _ _ hne]; exact hs2h.out
            obtain ⟨M1, hM1⟩ : ∃ M1, M1 = setM M id (some { t with parent := parent, sync := true }) := ⟨_, rfl⟩
            rw [← hM1] at k1 hs2' e2
            replace hM1 := hide hM1
            replace hZ1 := hide hZ1
            have hle1 := hide (hlen'.out _ _ hs2h.out)
            clear cP hl1 hl2 hnu
            replace k1 := hide k1
            replace q1 := hide q1
            replace x1 := hide x1
            replace hz2' := hide hz2'
            replace hs2' := hide hs2'
            go_wp2_with fail
            replace k1 := k1.out
            replace q1 := q1.out
            replace x1 := x1.out
            replace hz2' := hz2'.out
            replace hs2' := hs2'.out
            clear c1 c2 f1 f2
            generalize ((w.drewN nq).setCell ⟨z.a, 1, none⟩ (.int .i64 parent)).setCell ⟨z.a, 2, none⟩ (.bool true) = W1 at k1 q1 x1 ⊢
            have s2 := k1.surf parent z2 t2 hz2' hs2'
            have cL := sLatest_any W1 s2
            have hrd := latV_rd s2
            obtain ⟨Av, cv, hlv, _⟩ := hrd.form
            rw [hlv] at cL hrd
            have cT := hide (top_any W1 _ t2.latest id hrd hle1.out.1)
            replace k1 := hide k1
            replace s2 := hide s2
            replace hz2' := hide hz2'
            replace hs2' := hide hs2'
            replace q1 := hide q1
            replace x1 := hide x1
            clear hrd hlv
            refine cL.mono ?_
            rintro e w' ⟨rfl, rfl⟩
            go_wp2_with fail
            refine cT.out.mono ?_
            rintro e w2 ⟨v2, rfl, o2, b2⟩
            have o2' : w2.ownsRow W1.heap.size 3 1 v2 L.length (L.map (Value.int .i64)) := by rw [hL.out]; simpa using o2
            obtain ⟨A2, k2, rfl, _⟩ := own_form o2'
            obtain ⟨z3, a3, p3, F3, k3, q3, x3⟩ := k1.out.orderedZ hz2'.out s2.out _ b2 o2'
            have cO := hide (sOrder_any w2 ((k1.out.below b2).surf parent z2 t2 hz2'.out hs2'.out) A2 L.length k2)
            have hz3 : setZ Z1 parent (some z3) parent = some z3 := setZ_same _ _ _
            have hs3 : setM M1 parent (some (orderT t2 L)) parent = some (orderT t2 L) := setM_same _ _ _
            replace b2 := hide b2
            clear o2 o2' cT cL
            go_wp2_with fail
            refine cO.out.mono ?_
            rintro e w' ⟨rfl, rfl⟩
            generalize (w2.setCell ⟨z2.a, 10, none⟩ (.bool true)).setCell ⟨z2.a, 11, none⟩ (.slice A2 L.length k2) = W3 at k3 q3 x3 ⊢
            have s3 := k3.surf parent z3 _ hz3 hs3
            have c12 : W3.cell? ⟨z2.a, 12, none⟩ = some z2.pe.p := by rw [← a3, ← p3]; exact s3.cell 12
            have hpl := s3.peP
            rw [p3] at hpl
            obtain ⟨Ap, cp, hpv, _⟩ := hpl.form
            rw [hpv] at c12 hpl
            have cP := hide (put_any W3 _ _ ⟨id, 0, 0⟩ hpl (Nat.le_trans hle1.out.2 (by decide)))
            unfold Ch.val at cP
            dsimp only at cP
            have hblk := hide s3.blk
            rw [a3] at hblk
            have hlt3 := s3.lt z3.a (.inl rfl)
            rw [a3] at hlt3
            have hw12 : ∀ w1 : World, w1.heap[z2.a]? = some (.cells (sfCells parent (orderT t2 L) z3) 60 (0, 0)) → w1.cell? ⟨z2.a, 12, none⟩ = some z3.pe.p ∧ w1.frozen? ⟨z2.a, 12, none⟩ = false := fun w1 h1 => ⟨cell_of_row w1 z2.a 12 _ _ _ h1, frozen_of_row w1 z2.a 12 _ _ h1⟩
            replace hw12 := hide hw12
            replace k3 := hide k3
            replace s3 := hide s3
            replace a3 := hide a3
            replace p3 := hide p3
            replace q3 := hide q3
            replace x3 := hide x3
            replace hz3 := hide hz3
            replace hs3 := hide hs3
            replace hpv := hide hpv
            have e4 : (orderT t2 L).pe.places = t2.pe.places := rfl
            rw [e4] at c12
            clear hpl e4
            go_wp2_with fail
            refine cP.out.mono ?_
            rintro e w4 ⟨v4, rfl, o4, b4⟩
            have hbk := hide ((b4.block z2.a hlt3).trans hblk.out)
            have k12 := (hw12.out w4 hbk.out).1
            have f12 := (hw12.out w4 hbk.out).2
            obtain ⟨A4, k4, rfl, _⟩ := own_form o4
            replace o4 := hide o4
            replace b4 := hide b4
            go_wp2
            go_ret
            obtain ⟨z5, _, F5, k5, q5, x5⟩ := k3.out.placedZ hz3.out s3.out ⟨id, 0, 0⟩ b4.out o4.out
            rw [a3.out, setM_setM] at k5
            rw [a3.out] at q5
            refine ⟨by rw [e1.out] <;> rfl, ?_⟩
            rw [e2.out]
            have hd0 : Chg F w (w.drewN nq) := (Chg.refl F w).drewN nq
            exact ⟨F5, ⟨mb, _, k5⟩, ((hd0.trans q1.out (Ext.refl _ _)).trans q3.out x1.out).trans q5 (x1.out.trans x3.out q1.out.size), (x1.out.trans x3.out q1.out.size).trans x5 (Nat.le_trans q1.out.size q3.out.size)⟩
          · have hxp : 0 < x := by omega
            by_cases hxe : x = id
            · subst hxe
              have e1 : fsubK M x parent = 11 := by
                unfold fsubK; rw [hsh.out, hs2h.out]; dsimp only
                rw [if_neg (by simp [hph.out]), if_pos (hup.out.2 (.here hxp))]
              have e2 : fsubS M x parent = M := by unfold fsubS; rw [if_neg (by rw [e1]; decide)]
              have e1' := hide e1
              have e2' := hide e2
              clear e1 e2
              go_wp2
              go_ret
              exact ⟨by rw [e1'.out] <;> rfl, by rw [e2'.out]; exact hout.out _⟩
            · have hne : (x == id) = false := by simpa using hxe
              obtain ⟨tx, htx⟩ := hxs.out.resolve_left hxz
              have hpx := parM_some htx
              have hup2 : Hid (Up M id parent ↔ Up M id (parM M x)) := hide (hup.out.trans ⟨fun h => h.parent hxe, fun h => .up hxp h⟩)
              have hnn2 := hGG.out.par_nn htx
              rw [← hpx] at hnn2
              have hxs2 : Hid (parM M x = 0 ∨ ∃ t, M (parM M x) = some t) := hide (by
                by_cases h0 : tx.parent = 0
                · exact .inl (hpx.trans h0)
                · rw [hpx]; exact .inr (hGG.out.par _ _ htx h0))
              have hmeas : Hid (m (parM M x) < m x) := hide (by
                rw [hm.out, hm.out, htx]
                simp only [Option.isSome_some, if_true]
                by_cases h0 : tx.parent = 0
                · rw [hpx, h0]
                  cases hz0 : M 0 with
                  | none => simp
                  | some t0 => have := (hGG.out.pos _ _ hz0).1; omega
                · rw [hpx]
                  have := (hr.out _ _ htx).2 h0
                  split <;> omega)
              have cPx := hide (cP.out nq x hxi)
              generalize parM M x = y at hup2 hnn2 hxs2 hmeas cPx
              clear htx hpx hxs hup
              go_wp2_with fail
              refine cPx.out.mono ?_
              rintro e w' ⟨rfl, rfl⟩
              go_wp2
              go_roundg (m y)
              case measure => exact hmeas.out
              case rel => exact ⟨y, rfl, rfl, hnn2.2, hnn2.1, hxs2, hup2, rfl⟩
      · have h0 : (0 : Int) < t.parent := by omega
        have e1 : fsubK M id parent = 10 := by unfold fsubK; rw [hs, hs2]; dsimp only; rw [if_pos hp]
        have e2 : fsubS M id parent = M := by unfold fsubS; rw [if_neg (by rw [e1]; decide)]
        rw [e1, e2]
        clear h hG hE hs e1 e2 hlen g4 g10 hs2 hz ht hz2 ht2 hp hnn
        go_enter Tryd.func10, Tryd.ntmps10
        go_wp2
        go_quiet (fail)
        all_goals
          go_wp2
          go_ret
          exact ⟨rfl, hout.out _⟩
end
end Go.Proofs.YthkjicnnepkghaaDoor
