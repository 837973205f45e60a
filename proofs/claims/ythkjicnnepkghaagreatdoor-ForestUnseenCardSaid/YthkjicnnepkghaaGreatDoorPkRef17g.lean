/-
  tableauref17: Unsub.
-/
import Derived.Test.YthkjicnnepkghaaGreatDoorPkP
import Derived.Test.YthkjicnnepkghaaGreatDoorPkK
import Derived.Test.YthkjicnnepkghaaGreatDoorPkB
namespace Go.Proofs.YthkjicnnepkghaaGreatDoor
open Go.RowKit
set_option linter.unusedVariables false

theorem gOut_open {w w' : World} {va v' : StV} {a : St} {id : Int} {e : Ending} (he : e = .returned (stVal (cutT a id) v')) (ho : OutV w w' va v' (cutT a id)) (hb : Below w.heap.size w w') :
    ∃ A c B d, e = .returned (.agg #[.bool a.attach, .int .i64 a.buffer, va.d, va.f, .bool a.input, .bool a.all, va.r, .bool a.ordered, .slice A (without a.order id).length c, .slice B (dropP a.places id).length d]) ∧ w'.ownsRow w.heap.size 3 1 (.slice A (without a.order id).length c) (without a.order id).length ((without a.order id).map (Value.int .i64)) ∧
      w'.ownsRow w.heap.size 62 3 (.slice B (dropP a.places id).length d) (dropP a.places id).length ((dropP a.places id).flatMap Ch.enc) ∧ Below w.heap.size w w' := by
  obtain ⟨h1, h2, h3, h4, h5⟩ := ho
  obtain ⟨A, c, e4, _⟩ := own_form h4
  obtain ⟨B, d, e5, _⟩ := own_form h5
  refine ⟨A, c, B, d, ?_, ?_, ?_, hb⟩
  · rw [he]
    unfold stVal
    rw [h1, h2, h3, e4, e5]
    rfl
  · rw [e4] at h4; exact h4
  · rw [e5] at h5; exact h5
theorem cut_in {W : World} {G : Nat → Prop} {base : Nat} {va : StV} {a : St} {id : Int} (hr : StRd W va a) (hi : StIn G va a) {u1 u2 : Value} (o : W.ownsRow base 3 1 u1 (without a.order id).length ((without a.order id).map (Value.int .i64)))
    (p : W.ownsRow base 62 3 u2 (dropP a.places id).length ((dropP a.places id).flatMap Ch.enc)) (hG : ∀ b, base ≤ b → b < W.heap.size → G b) :
    StRd W ⟨va.d, va.f, va.r, u1, u2⟩ (cutT a id) ∧ StIn G ⟨va.d, va.f, va.r, u1, u2⟩ (cutT a id) :=
  ⟨⟨hr.d, hr.f, hr.r, Rd.of_own o, Rd.of_own p⟩, ⟨hi.d, hi.f, hi.r, fun _ b hb => hG b (o.lt b hb).1 (o.lt b hb).2, fun _ b hb => hG b (p.lt b hb).1 (p.lt b hb).2⟩⟩
theorem own_chg17 {base n sz g : Nat} {e : TypeId} {v : Value} {cs : List Value} {w w' : World} (hg : g < base) (h : w.ownsRow base e sz v n cs) (hc : Chg (fun b => b = g) w w') : w'.ownsRow base e sz v n cs :=
  own_keepF h fun b hb => hc.block b (h.lt b hb).2 (by have := (h.lt b hb).1; omega)
def SPC.cut {g base : Nat} (hg : g < base) (a : St) (id : Int) (v2 v3 v6 : Value) : SPC (fun b => b = g) :=
  ⟨fun v w => ∃ A c B d, v = .agg #[.bool a.attach, .int .i64 a.buffer, v2, v3, .bool a.input, .bool a.all, v6, .bool a.ordered, .slice A (without a.order id).length c, .slice B (dropP a.places id).length d] ∧ w.ownsRow base 3 1 (.slice A (without a.order id).length c) (without a.order id).length ((without a.order id).map (Value.int .i64)) ∧ w.ownsRow base 62 3 (.slice B (dropP a.places id).length d) (dropP a.places id).length ((dropP a.places id).flatMap Ch.enc),
   fun v w w' ⟨A, c, B, d, h1, h2, h3⟩ hc => ⟨A, c, B, d, h1, own_chg17 hg h2 hc, own_chg17 hg h3 hc⟩⟩
def UnS (B0 : Nat) (w : World) (q : Nat) (G : Nat → Prop) (v : Value) (L : List RSf) (pa : Int) (k g c : Nat) (r : RSf) (id : Int) (s : Nat) (W : World) : Prop :=
  (s = 0 → Below w.heap.size w W) ∧ (s = 1 → ∃ G1 u, Tur B0 w q G v L pa k g c W G1 (r.setPe (cutT r.s.pe id) u) ∧ ∀ b, w.heap.size ≤ b → b < W.heap.size → G1 b) ∧
    (s = 2 → ∃ G1 u u2, Tur B0 w q G v L pa k g c W G1 ((r.setPe (cutT r.s.pe id) u).setCa (cutT r.s.ca id) u2) ∧ ∀ b, w.heap.size ≤ b → b < W.heap.size → G1 b)
theorem setM_comm (M : Fo) {i j : Int} (h : i ≠ j) (a b : Option Sf) : setM (setM M i a) j b = setM (setM M j b) i a := by
  funext x
  unfold setM
  by_cases h1 : x = i
  · subst h1; simp [h]
  · simp [h1]
set_option maxRecDepth 100000 in
set_option maxHeartbeats 4000000 in
theorem gUnsub_any {B0 : Nat} (w : World) {q : Nat} {G : Nat → Prop} {v : Value} {L : List RSf} (h : RefF B0 w q G v L) (hl : L.length ≤ 1000) (hG : GoodM (toF L)) (hlen : ∀ i t, toF L i = some t → ∀ j, j < 3 → (stS j t).order.length ≤ 1000000 ∧ (stS j t).places.length ≤ 1000000) (id : Int) :
    Calls Tryz.prog 45 #[.pointer (some ⟨q, 0, none⟩), .int .i64 id] w fun e w' => e = .returned (.int .i64 (childK (toF L) id)) ∧ RFOut B0 w q G v (funsubS (toF L) id) w' := by
  cases hs : toF L id with
  | none =>
    have cS := hide (gS_no h hl hs)
    have e1 : childK (toF L) id = 5 := by unfold childK; rw [hs]
    have e2 : funsubS (toF L) id = toF L := by unfold funsubS; rw [hs]
    rw [e1, e2]
    replace h := hide h
    clear hG hlen e1 e2
    go_enter Tryz.func45, Tryz.ntmps45
    go_wp2_with fail
    refine (cS.out).mono ?_
    rintro e w' ⟨rfl, rfl⟩
    go_wp2
    go_ret
    exact ⟨rfl, h.out.stay⟩
  | some s =>
    obtain ⟨k, g, c, r, hh, rfl⟩ := h.here hs
    have cS := hide (gS_at h hl hh)
    have k1 : w.cell? ⟨g, k * 33 + 1, none⟩ = some (.int .i64 r.s.parent) := hh.row.cell hh.lt (by decide)
    by_cases hp : r.s.parent = 0
    · have e1 : childK (toF L) id = 10 := by unfold childK; rw [hs]; dsimp only; rw [if_pos hp]
      have e2 : funsubS (toF L) id = toF L := by unfold funsubS; rw [hs]; dsimp only; split <;> simp [hp]
      rw [e1, e2]
      rw [hp] at k1
      replace h := hide h
      clear hG hlen e1 e2 hh
      go_enter Tryz.func45, Tryz.ntmps45
      go_wp2_with fail
      refine (cS.out).mono ?_
      rintro e w' ⟨rfl, rfl⟩
      go_wp2
      go_ret
      exact ⟨rfl, h.out.stay⟩
    · have hpb : (r.s.parent == 0) = false := by simpa using hp
      obtain ⟨t2, ht2⟩ := hG.par _ _ hs hp
      obtain ⟨k2, g2, c2, r2, hh2, rfl⟩ := h.here ht2
      have cS2 := hide (gS_at h hl hh2)
      have e1 : childK (toF L) id = 0 := by unfold childK; rw [hs]; dsimp only; rw [if_neg hp]
      have hne : r.s.parent ≠ id := hG.par_ne hs hp
      have hv := hh.form
      have hv2 := hh2.form
      rw [hv] at hv2
      simp only [Value.slice.injEq, Option.some.injEq, Addr.mk.injEq, and_true, true_and] at hv2
      obtain ⟨rfl, rfl⟩ := hv2
      have hkk : k ≠ k2 := fun e => hne (by rw [← hh.id_, ← hh2.id_, ← hh.at_, ← hh2.at_, e])
      have e2 : funsubS (toF L) id = setM (setM (toF L) r.s.parent (some (cutSf r2.s id))) id (some { r.s with parent := 0 }) := by
        unfold funsubS
        rw [hs]
        dsimp only
        rw [ht2]
        dsimp only
        rw [if_neg hp, setM_comm _ (Ne.symm hne)]
      rw [e1, e2]
      obtain ⟨hgG, hglt⟩ := hh.ng h
      obtain ⟨Pd, Pdc, Pf, Pfc, Pr, Prc, Po, Poc, Pp, Ppc, hvpe⟩ := hh2.ok.pe.forms
      obtain ⟨Cd, Cdc, Cf, Cfc, Cr, Crc, Co, Coc, Cp, Cpc, hvca⟩ := hh2.ok.ca.forms
      obtain ⟨Ud, Udc, Uf, Ufc, Ur, Urc, Uo, Uoc, Up, Upc, hvcu⟩ := hh2.ok.cu.forms
      have hl2 := hlen _ _ ht2
      have okpe := hh2.ok.pe
      have okca := hh2.ok.ca
      have okcu := hh2.ok.cu
      have inpe := hh2.ok.peI
      have inca := hh2.ok.caI
      have incu := hh2.ok.cuI
      have kS : ∀ w', Below w.heap.size w w' → (w'.cell? ⟨g, k2 * 33 + 3, none⟩ = some (.bool r2.s.pe.attach) ∧ w'.cell? ⟨g, k2 * 33 + 4, none⟩ = some (.int .i64 r2.s.pe.buffer) ∧ w'.cell? ⟨g, k2 * 33 + 5, none⟩ = some (.slice Pd r2.s.pe.damage.length Pdc) ∧ w'.cell? ⟨g, k2 * 33 + 6, none⟩ = some (.slice Pf r2.s.pe.frames.length Pfc) ∧ w'.cell? ⟨g, k2 * 33 + 7, none⟩ = some (.bool r2.s.pe.input) ∧ w'.cell? ⟨g, k2 * 33 + 8, none⟩ = some (.bool r2.s.pe.all) ∧ w'.cell? ⟨g, k2 * 33 + 9, none⟩ = some (.slice Pr r2.s.pe.region.length Prc) ∧ w'.cell? ⟨g, k2 * 33 + 10, none⟩ = some (.bool r2.s.pe.ordered) ∧ w'.cell? ⟨g, k2 * 33 + 11, none⟩ = some (.slice Po r2.s.pe.order.length Poc) ∧ w'.cell? ⟨g, k2 * 33 + 12, none⟩ = some (.slice Pp r2.s.pe.places.length Ppc) ∧ w'.cell? ⟨g, k2 * 33 + 13, none⟩ = some (.bool r2.s.ca.attach) ∧ w'.cell? ⟨g, k2 * 33 + 14, none⟩ = some (.int .i64 r2.s.ca.buffer) ∧ w'.cell? ⟨g, k2 * 33 + 15, none⟩ = some (.slice Cd r2.s.ca.damage.length Cdc) ∧ w'.cell? ⟨g, k2 * 33 + 16, none⟩ = some (.slice Cf r2.s.ca.frames.length Cfc) ∧ w'.cell? ⟨g, k2 * 33 + 17, none⟩ = some (.bool r2.s.ca.input) ∧ w'.cell? ⟨g, k2 * 33 + 18, none⟩ = some (.bool r2.s.ca.all) ∧ w'.cell? ⟨g, k2 * 33 + 19, none⟩ = some (.slice Cr r2.s.ca.region.length Crc) ∧ w'.cell? ⟨g, k2 * 33 + 20, none⟩ = some (.bool r2.s.ca.ordered) ∧ w'.cell? ⟨g, k2 * 33 + 21, none⟩ = some (.slice Co r2.s.ca.order.length Coc) ∧ w'.cell? ⟨g, k2 * 33 + 22, none⟩ = some (.slice Cp r2.s.ca.places.length Cpc) ∧ w'.cell? ⟨g, k2 * 33 + 23, none⟩ = some (.bool r2.s.cu.attach) ∧ w'.cell? ⟨g, k2 * 33 + 24, none⟩ = some (.int .i64 r2.s.cu.buffer) ∧ w'.cell? ⟨g, k2 * 33 + 25, none⟩ = some (.slice Ud r2.s.cu.damage.length Udc) ∧ w'.cell? ⟨g, k2 * 33 + 26, none⟩ = some (.slice Uf r2.s.cu.frames.length Ufc) ∧ w'.cell? ⟨g, k2 * 33 + 27, none⟩ = some (.bool r2.s.cu.input) ∧ w'.cell? ⟨g, k2 * 33 + 28, none⟩ = some (.bool r2.s.cu.all) ∧ w'.cell? ⟨g, k2 * 33 + 29, none⟩ = some (.slice Ur r2.s.cu.region.length Urc) ∧ w'.cell? ⟨g, k2 * 33 + 30, none⟩ = some (.bool r2.s.cu.ordered) ∧ w'.cell? ⟨g, k2 * 33 + 31, none⟩ = some (.slice Uo r2.s.cu.order.length Uoc) ∧ w'.cell? ⟨g, k2 * 33 + 32, none⟩ = some (.slice Up r2.s.cu.places.length Upc)) := fun w' hb => by
        have hr := hh2.row.below hb
        have hc := fun j (hj : j < 33) => hr.cell hh2.lt hj
        refine ⟨(hc 3 (by decide)).trans ?_, (hc 4 (by decide)).trans ?_, (hc 5 (by decide)).trans ?_, (hc 6 (by decide)).trans ?_, (hc 7 (by decide)).trans ?_, (hc 8 (by decide)).trans ?_, (hc 9 (by decide)).trans ?_, (hc 10 (by decide)).trans ?_, (hc 11 (by decide)).trans ?_, (hc 12 (by decide)).trans ?_, (hc 13 (by decide)).trans ?_, (hc 14 (by decide)).trans ?_, (hc 15 (by decide)).trans ?_, (hc 16 (by decide)).trans ?_, (hc 17 (by decide)).trans ?_, (hc 18 (by decide)).trans ?_, (hc 19 (by decide)).trans ?_, (hc 20 (by decide)).trans ?_, (hc 21 (by decide)).trans ?_, (hc 22 (by decide)).trans ?_, (hc 23 (by decide)).trans ?_, (hc 24 (by decide)).trans ?_, (hc 25 (by decide)).trans ?_, (hc 26 (by decide)).trans ?_, (hc 27 (by decide)).trans ?_, (hc 28 (by decide)).trans ?_, (hc 29 (by decide)).trans ?_, (hc 30 (by decide)).trans ?_, (hc 31 (by decide)).trans ?_, (hc 32 (by decide)).trans ?_⟩
        all_goals first | rfl | (show some _ = some _; first | rw [hvpe] | rw [hvca] | rw [hvcu])
      rw [hvpe] at okpe inpe
      rw [hvca] at okca inca
      rw [hvcu] at okcu incu
      have cO1 := hide (fun W (hB : Below w.heap.size w W) => (show Calls Tryz.prog 102 #[.agg #[.bool r2.s.pe.attach, .int .i64 r2.s.pe.buffer, .slice Pd r2.s.pe.damage.length Pdc, .slice Pf r2.s.pe.frames.length Pfc, .bool r2.s.pe.input, .bool r2.s.pe.all, .slice Pr r2.s.pe.region.length Prc, .bool r2.s.pe.ordered, .slice Po r2.s.pe.order.length Poc, .slice Pp r2.s.pe.places.length Ppc], .int .i64 id] W (fun e w' => ∃ A c B d, e = .returned (.agg #[.bool r2.s.pe.attach, .int .i64 r2.s.pe.buffer, .slice Pd r2.s.pe.damage.length Pdc, .slice Pf r2.s.pe.frames.length Pfc, .bool r2.s.pe.input, .bool r2.s.pe.all, .slice Pr r2.s.pe.region.length Prc, .bool r2.s.pe.ordered, .slice A (without r2.s.pe.order id).length c, .slice B (dropP r2.s.pe.places id).length d]) ∧ w'.ownsRow W.heap.size 3 1 (.slice A (without r2.s.pe.order id).length c) (without r2.s.pe.order id).length ((without r2.s.pe.order id).map (Value.int .i64)) ∧ w'.ownsRow W.heap.size 62 3 (.slice B (dropP r2.s.pe.places id).length d) (dropP r2.s.pe.places id).length ((dropP r2.s.pe.places id).flatMap Ch.enc) ∧ Below W.heap.size W w') from (gOut_any W _ r2.s.pe id (okpe.below hB (Nat.le_refl _)) (hl2 0 (by decide)).1 (hl2 0 (by decide)).2).mono (fun e w' ⟨v', he, ho, hb⟩ => gOut_open he ho hb)))
      have cO2 := hide (fun W (hB : Below w.heap.size w W) => (show Calls Tryz.prog 102 #[.agg #[.bool r2.s.ca.attach, .int .i64 r2.s.ca.buffer, .slice Cd r2.s.ca.damage.length Cdc, .slice Cf r2.s.ca.frames.length Cfc, .bool r2.s.ca.input, .bool r2.s.ca.all, .slice Cr r2.s.ca.region.length Crc, .bool r2.s.ca.ordered, .slice Co r2.s.ca.order.length Coc, .slice Cp r2.s.ca.places.length Cpc], .int .i64 id] W (fun e w' => ∃ A c B d, e = .returned (.agg #[.bool r2.s.ca.attach, .int .i64 r2.s.ca.buffer, .slice Cd r2.s.ca.damage.length Cdc, .slice Cf r2.s.ca.frames.length Cfc, .bool r2.s.ca.input, .bool r2.s.ca.all, .slice Cr r2.s.ca.region.length Crc, .bool r2.s.ca.ordered, .slice A (without r2.s.ca.order id).length c, .slice B (dropP r2.s.ca.places id).length d]) ∧ w'.ownsRow W.heap.size 3 1 (.slice A (without r2.s.ca.order id).length c) (without r2.s.ca.order id).length ((without r2.s.ca.order id).map (Value.int .i64)) ∧ w'.ownsRow W.heap.size 62 3 (.slice B (dropP r2.s.ca.places id).length d) (dropP r2.s.ca.places id).length ((dropP r2.s.ca.places id).flatMap Ch.enc) ∧ Below W.heap.size W w') from (gOut_any W _ r2.s.ca id (okca.below hB (Nat.le_refl _)) (hl2 1 (by decide)).1 (hl2 1 (by decide)).2).mono (fun e w' ⟨v', he, ho, hb⟩ => gOut_open he ho hb)))
      have cO3 := hide (fun W (hB : Below w.heap.size w W) => (show Calls Tryz.prog 102 #[.agg #[.bool r2.s.cu.attach, .int .i64 r2.s.cu.buffer, .slice Ud r2.s.cu.damage.length Udc, .slice Uf r2.s.cu.frames.length Ufc, .bool r2.s.cu.input, .bool r2.s.cu.all, .slice Ur r2.s.cu.region.length Urc, .bool r2.s.cu.ordered, .slice Uo r2.s.cu.order.length Uoc, .slice Up r2.s.cu.places.length Upc], .int .i64 id] W (fun e w' => ∃ A c B d, e = .returned (.agg #[.bool r2.s.cu.attach, .int .i64 r2.s.cu.buffer, .slice Ud r2.s.cu.damage.length Udc, .slice Uf r2.s.cu.frames.length Ufc, .bool r2.s.cu.input, .bool r2.s.cu.all, .slice Ur r2.s.cu.region.length Urc, .bool r2.s.cu.ordered, .slice A (without r2.s.cu.order id).length c, .slice B (dropP r2.s.cu.places id).length d]) ∧ w'.ownsRow W.heap.size 3 1 (.slice A (without r2.s.cu.order id).length c) (without r2.s.cu.order id).length ((without r2.s.cu.order id).map (Value.int .i64)) ∧ w'.ownsRow W.heap.size 62 3 (.slice B (dropP r2.s.cu.places id).length d) (dropP r2.s.cu.places id).length ((dropP r2.s.cu.places id).flatMap Ch.enc) ∧ Below W.heap.size W w') from (gOut_any W _ r2.s.cu id (okcu.below hB (Nat.le_refl _)) (hl2 2 (by decide)).1 (hl2 2 (by decide)).2).mono (fun e w' ⟨v', he, ho, hb⟩ => gOut_open he ho hb)))
      have kS0 := kS w (Below.refl _ _)
      replace kS := hide kS
      obtain ⟨n3, n4, n5, n6, n7, n8, n9, n10, n11, n12, n13, n14, n15, n16, n17, n18, n19, n20, n21, n22, n23, n24, n25, n26, n27, n28, n29, n30, n31, n32⟩ := kS0
      have fr := fun (w' : World) (hb : Below w.heap.size w w') (i : Nat) => (hh2.row.below hb).free i
      replace fr := hide fr
      have okpe := hide okpe
      have okca := hide okca
      have okcu := hide okcu
      have inpe := hide inpe
      have inca := hide inca
      have incu := hide incu
      have h' := hide h
      have hh' := hide hh
      have hh2' := hide hh2
      have k1w := fun w' (hb : Below w.heap.size w w') => (show w'.cell? ⟨g, k * 33 + 1, none⟩ = some (.int .i64 r.s.parent) from (hh.row.below hb).cell hh.lt (by decide))
      replace k1w := hide k1w
      have hs' := hide hs
      replace hvca := hide hvca
      replace hvcu := hide hvcu
      replace hvpe := hide hvpe
      have hpar := hide ht2
      have hne' := hide hne
      have hv' := hide hv
      have hdiff := hide hkk
      clear hG hlen e1 e2 h hh hh2 hs ht2 hl2 hv hne hkk
      go_enter Tryz.func45, Tryz.ntmps45
      go_wp2_with fail
      refine (cS.out).mono ?_
      rintro e w' ⟨rfl, rfl⟩
      go_wp2_with fail
      refine (cS2.out).mono ?_
      rintro e w' ⟨rfl, rfl⟩
      go_upto_region 7 with fail
      go_cut [] (fun wx => Hid (∃ G3 u1 u2 u3, Tur B0 w q G v L r.s.parent k2 g c wx G3 (((r2.setPe (cutT r2.s.pe id) u1).setCa (cutT r2.s.ca id) u2).setCu (cutT r2.s.cu id) u3)))
      case first =>
        rename_i J K' hJ hK
        refine wp_region_three (F := fun b => b = g) (Ω := UnS B0 w q G v L r.s.parent k2 g c r2 id) (m := 29) (n := 55) (s1 := 23) (s2 := 26) (l := [.is (.pointer (some ⟨g, k2 * 33, none⟩)), .is (.pointer (some ⟨g, k2 * 33, none⟩)), .is (.pointer (some ⟨g, k2 * 33, none⟩)), .is (.pointer (some ⟨g, k2 * 33, none⟩)), .is (.pointer (some ⟨g, k2 * 33, none⟩)), .is (.pointer (some ⟨g, k2 * 33 + 3, none⟩)), .is (.agg #[.bool r2.s.pe.attach, .int .i64 r2.s.pe.buffer, .slice Pd r2.s.pe.damage.length Pdc, .slice Pf r2.s.pe.frames.length Pfc, .bool r2.s.pe.input, .bool r2.s.pe.all, .slice Pr r2.s.pe.region.length Prc, .bool r2.s.pe.ordered, .slice Po r2.s.pe.order.length Poc, .slice Pp r2.s.pe.places.length Ppc]), .is (.int .i64 id), SPC.cut hglt r2.s.pe id (.slice Pd r2.s.pe.damage.length Pdc) (.slice Pf r2.s.pe.frames.length Pfc) (.slice Pr r2.s.pe.region.length Prc), .is (.pointer (some ⟨g, k2 * 33, none⟩)), .is (.pointer (some ⟨g, k2 * 33, none⟩)), .is (.pointer (some ⟨g, k2 * 33 + 13, none⟩)), .is (.agg #[.bool r2.s.ca.attach, .int .i64 r2.s.ca.buffer, .slice Cd r2.s.ca.damage.length Cdc, .slice Cf r2.s.ca.frames.length Cfc, .bool r2.s.ca.input, .bool r2.s.ca.all, .slice Cr r2.s.ca.region.length Crc, .bool r2.s.ca.ordered, .slice Co r2.s.ca.order.length Coc, .slice Cp r2.s.ca.places.length Cpc]), .is (.int .i64 id), SPC.cut hglt r2.s.ca id (.slice Cd r2.s.ca.damage.length Cdc) (.slice Cf r2.s.ca.frames.length Cfc) (.slice Cr r2.s.ca.region.length Crc), .is (.pointer (some ⟨g, k2 * 33, none⟩)), .is (.pointer (some ⟨g, k2 * 33, none⟩)), .is (.pointer (some ⟨g, k2 * 33 + 23, none⟩)), .is (.agg #[.bool r2.s.cu.attach, .int .i64 r2.s.cu.buffer, .slice Ud r2.s.cu.damage.length Udc, .slice Uf r2.s.cu.frames.length Ufc, .bool r2.s.cu.input, .bool r2.s.cu.all, .slice Ur r2.s.cu.region.length Urc, .bool r2.s.cu.ordered, .slice Uo r2.s.cu.order.length Uoc, .slice Up r2.s.cu.places.length Upc]), .is (.int .i64 id), SPC.cut hglt r2.s.cu id (.slice Ud r2.s.cu.damage.length Udc) (.slice Uf r2.s.cu.frames.length Ufc) (.slice Ur r2.s.cu.region.length Urc), .is (.pointer (some ⟨g, k2 * 33, none⟩)), .is (.pointer (some ⟨g, k2 * 33 + 3, none⟩)), SPC.top, .is (.pointer (some ⟨g, k2 * 33, none⟩)), .is (.pointer (some ⟨g, k2 * 33 + 13, none⟩)), SPC.top, .is (.pointer (some ⟨g, k2 * 33, none⟩)), .is (.pointer (some ⟨g, k2 * 33 + 23, none⟩))]) rfl rfl (by kernel_rfl) rfl ⟨rfl, rfl⟩ ⟨fun _ => below_drewN (Below.refl _ w) 1, fun e => absurd e (by decide), fun e => absurd e (by decide)⟩ ?_ ?_
        · show AllBelow _ 29
          refine ⟨⟨⟨⟨⟨⟨⟨⟨⟨⟨⟨⟨⟨⟨⟨⟨⟨⟨⟨⟨⟨⟨⟨⟨⟨⟨⟨⟨⟨trivial, ?_⟩, ?_⟩, ?_⟩, ?_⟩, ?_⟩, ?_⟩, ?_⟩, ?_⟩, ?_⟩, ?_⟩, ?_⟩, ?_⟩, ?_⟩, ?_⟩, ?_⟩, ?_⟩, ?_⟩, ?_⟩, ?_⟩, ?_⟩, ?_⟩, ?_⟩, ?_⟩, ?_⟩, ?_⟩, ?_⟩, ?_⟩, ?_⟩, ?_⟩
          · intro o ho s c1 c2 c3 c4 a1 w1 hk hb F; obtain rfl := Option.some.inj ho; have f : a1.tmps[6]?.getD undef = .pointer (some ⟨g, k2 * 33, none⟩) := (Array.getD_eq_getD_getElem?).symm.trans (hk.free (j := 6) rfl); refine wpOp_val rfl rfl (v := .pointer (some ⟨g, k2 * 33, none⟩)) ?_ ⟨_, rfl, Chg.refl _ _, hb, rfl⟩; simp [execOp, Act.eval, go_sem, f]
          · intro o ho s c1 c2 c3 c4 a1 w1 hk hb F; obtain rfl := Option.some.inj ho; have f : a1.tmps[6]?.getD undef = .pointer (some ⟨g, k2 * 33, none⟩) := (Array.getD_eq_getD_getElem?).symm.trans (hk.free (j := 6) rfl); refine wpOp_val rfl rfl (v := .pointer (some ⟨g, k2 * 33, none⟩)) ?_ ⟨_, rfl, Chg.refl _ _, hb, rfl⟩; simp [execOp, Act.eval, go_sem, f]
          · intro o ho s c1 c2 c3 c4 a1 w1 hk hb F; obtain rfl := Option.some.inj ho; have f : a1.tmps[6]?.getD undef = .pointer (some ⟨g, k2 * 33, none⟩) := (Array.getD_eq_getD_getElem?).symm.trans (hk.free (j := 6) rfl); refine wpOp_val rfl rfl (v := .pointer (some ⟨g, k2 * 33, none⟩)) ?_ ⟨_, rfl, Chg.refl _ _, hb, rfl⟩; simp [execOp, Act.eval, go_sem, f]
          · intro o ho s c1 c2 c3 c4 a1 w1 hk hb F; obtain rfl := Option.some.inj ho; have f : a1.tmps[6]?.getD undef = .pointer (some ⟨g, k2 * 33, none⟩) := (Array.getD_eq_getD_getElem?).symm.trans (hk.free (j := 6) rfl); refine wpOp_val rfl rfl (v := .pointer (some ⟨g, k2 * 33, none⟩)) ?_ ⟨_, rfl, Chg.refl _ _, hb, rfl⟩; simp [execOp, Act.eval, go_sem, f]
          · intro o ho s c1 c2 c3 c4 a1 w1 hk hb F; obtain rfl := Option.some.inj ho; have f : a1.tmps[28]?.getD undef = .pointer (some ⟨g, k2 * 33, none⟩) := (Array.getD_eq_getD_getElem?).symm.trans (F 3 _ rfl rfl); refine wpOp_val rfl rfl (v := .pointer (some ⟨g, k2 * 33, none⟩)) ?_ ⟨_, rfl, Chg.refl _ _, hb, rfl⟩; simp [execOp, Act.eval, go_sem, f]
          · intro o ho s c1 c2 c3 c4 a1 w1 hk hb F; obtain rfl := Option.some.inj ho; have f : a1.tmps[29]?.getD undef = .pointer (some ⟨g, k2 * 33, none⟩) := (Array.getD_eq_getD_getElem?).symm.trans (F 4 _ rfl rfl); refine wpOp_val rfl rfl (v := .pointer (some ⟨g, k2 * 33 + 3, none⟩)) ?_ ⟨_, rfl, Chg.refl _ _, hb, rfl⟩; simp [execOp, Act.eval, go_sem, f]
          · intro o ho s c1 c2 c3 c4 a1 w1 hk hb F; obtain rfl := Option.some.inj ho; obtain rfl := c1 rfl; have hB := hb.1 rfl; have f : a1.tmps[30]?.getD undef = .pointer (some ⟨g, k2 * 33 + 3, none⟩) := (Array.getD_eq_getD_getElem?).symm.trans (F 5 _ rfl rfl); obtain ⟨m3, m4, m5, m6, m7, m8, m9, m10, m11, m12, m13, m14, m15, m16, m17, m18, m19, m20, m21, m22, m23, m24, m25, m26, m27, m28, m29, m30, m31, m32⟩ := kS.out w1 hB; refine wpOp_val rfl rfl (v := .agg #[.bool r2.s.pe.attach, .int .i64 r2.s.pe.buffer, .slice Pd r2.s.pe.damage.length Pdc, .slice Pf r2.s.pe.frames.length Pfc, .bool r2.s.pe.input, .bool r2.s.pe.all, .slice Pr r2.s.pe.region.length Prc, .bool r2.s.pe.ordered, .slice Po r2.s.pe.order.length Poc, .slice Pp r2.s.pe.places.length Ppc]) ?_ ⟨_, rfl, Chg.refl _ _, hb, rfl⟩; simp [execOp, Act.eval, go_sem, f, m3, m4, m5, m6, m7, m8, m9, m10, m11, m12]
          · intro o ho s c1 c2 c3 c4 a1 w1 hk hb F; obtain rfl := Option.some.inj ho; have f : a1.tmps[1]?.getD undef = .int .i64 id := (Array.getD_eq_getD_getElem?).symm.trans (hk.free (j := 1) rfl); refine wpOp_val rfl rfl (v := .int .i64 id) ?_ ⟨_, rfl, Chg.refl _ _, hb, rfl⟩; simp [execOp, Act.eval, go_sem, f]
          · intro o ho s c1 c2 c3 c4 a1 w1 hk hb F; obtain rfl := Option.some.inj ho; obtain rfl := c1 rfl
            have hB := hb.1 rfl
            have f : a1.tmps[31]?.getD undef = .agg #[.bool r2.s.pe.attach, .int .i64 r2.s.pe.buffer, .slice Pd r2.s.pe.damage.length Pdc, .slice Pf r2.s.pe.frames.length Pfc, .bool r2.s.pe.input, .bool r2.s.pe.all, .slice Pr r2.s.pe.region.length Prc, .bool r2.s.pe.ordered, .slice Po r2.s.pe.order.length Poc, .slice Pp r2.s.pe.places.length Ppc] := (Array.getD_eq_getD_getElem?).symm.trans (F 6 _ rfl rfl)
            have f2 : a1.tmps[32]?.getD undef = .int .i64 id := (Array.getD_eq_getD_getElem?).symm.trans (F 7 _ rfl rfl)
            refine wpOp_call rfl rfl (f := 102) (args := #[.agg #[.bool r2.s.pe.attach, .int .i64 r2.s.pe.buffer, .slice Pd r2.s.pe.damage.length Pdc, .slice Pf r2.s.pe.frames.length Pfc, .bool r2.s.pe.input, .bool r2.s.pe.all, .slice Pr r2.s.pe.region.length Prc, .bool r2.s.pe.ordered, .slice Po r2.s.pe.order.length Poc, .slice Pp r2.s.pe.places.length Ppc], .int .i64 id]) ?_ ((cO1.out _ hB).mono fun e w2 ⟨A, cc, B, dd, he, o1, o2, b2⟩ => ⟨_, he, _, rfl, Chg.of_below b2 _, ⟨fun _ => hB.trans (b2.mono hB.size), fun e => absurd e (by decide), fun e => absurd e (by decide)⟩, A, cc, B, dd, rfl, own_le o1 hB.size, own_le o2 hB.size⟩)
            simp [execOp, Act.eval, go_sem, f, f2]
          · intro o ho s c1 c2 c3 c4 a1 w1 hk hb F; obtain rfl := Option.some.inj ho; have f : a1.tmps[6]?.getD undef = .pointer (some ⟨g, k2 * 33, none⟩) := (Array.getD_eq_getD_getElem?).symm.trans (hk.free (j := 6) rfl); refine wpOp_val rfl rfl (v := .pointer (some ⟨g, k2 * 33, none⟩)) ?_ ⟨_, rfl, Chg.refl _ _, hb, rfl⟩; simp [execOp, Act.eval, go_sem, f]
          · intro o ho s c1 c2 c3 c4 a1 w1 hk hb F; obtain rfl := Option.some.inj ho; have f : a1.tmps[34]?.getD undef = .pointer (some ⟨g, k2 * 33, none⟩) := (Array.getD_eq_getD_getElem?).symm.trans (F 9 _ rfl rfl); refine wpOp_val rfl rfl (v := .pointer (some ⟨g, k2 * 33, none⟩)) ?_ ⟨_, rfl, Chg.refl _ _, hb, rfl⟩; simp [execOp, Act.eval, go_sem, f]
          · intro o ho s c1 c2 c3 c4 a1 w1 hk hb F; obtain rfl := Option.some.inj ho; have f : a1.tmps[35]?.getD undef = .pointer (some ⟨g, k2 * 33, none⟩) := (Array.getD_eq_getD_getElem?).symm.trans (F 10 _ rfl rfl); refine wpOp_val rfl rfl (v := .pointer (some ⟨g, k2 * 33 + 13, none⟩)) ?_ ⟨_, rfl, Chg.refl _ _, hb, rfl⟩; simp [execOp, Act.eval, go_sem, f]
          · intro o ho s c1 c2 c3 c4 a1 w1 hk hb F; obtain rfl := Option.some.inj ho; obtain rfl := c1 rfl; have hB := hb.1 rfl; have f : a1.tmps[36]?.getD undef = .pointer (some ⟨g, k2 * 33 + 13, none⟩) := (Array.getD_eq_getD_getElem?).symm.trans (F 11 _ rfl rfl); obtain ⟨m3, m4, m5, m6, m7, m8, m9, m10, m11, m12, m13, m14, m15, m16, m17, m18, m19, m20, m21, m22, m23, m24, m25, m26, m27, m28, m29, m30, m31, m32⟩ := kS.out w1 hB; refine wpOp_val rfl rfl (v := .agg #[.bool r2.s.ca.attach, .int .i64 r2.s.ca.buffer, .slice Cd r2.s.ca.damage.length Cdc, .slice Cf r2.s.ca.frames.length Cfc, .bool r2.s.ca.input, .bool r2.s.ca.all, .slice Cr r2.s.ca.region.length Crc, .bool r2.s.ca.ordered, .slice Co r2.s.ca.order.length Coc, .slice Cp r2.s.ca.places.length Cpc]) ?_ ⟨_, rfl, Chg.refl _ _, hb, rfl⟩; simp [execOp, Act.eval, go_sem, f, m13, m14, m15, m16, m17, m18, m19, m20, m21, m22]
          · intro o ho s c1 c2 c3 c4 a1 w1 hk hb F; obtain rfl := Option.some.inj ho; have f : a1.tmps[1]?.getD undef = .int .i64 id := (Array.getD_eq_getD_getElem?).symm.trans (hk.free (j := 1) rfl); refine wpOp_val rfl rfl (v := .int .i64 id) ?_ ⟨_, rfl, Chg.refl _ _, hb, rfl⟩; simp [execOp, Act.eval, go_sem, f]
          · intro o ho s c1 c2 c3 c4 a1 w1 hk hb F; obtain rfl := Option.some.inj ho; obtain rfl := c1 rfl
            have hB := hb.1 rfl
            have f : a1.tmps[37]?.getD undef = .agg #[.bool r2.s.ca.attach, .int .i64 r2.s.ca.buffer, .slice Cd r2.s.ca.damage.length Cdc, .slice Cf r2.s.ca.frames.length Cfc, .bool r2.s.ca.input, .bool r2.s.ca.all, .slice Cr r2.s.ca.region.length Crc, .bool r2.s.ca.ordered, .slice Co r2.s.ca.order.length Coc, .slice Cp r2.s.ca.places.length Cpc] := (Array.getD_eq_getD_getElem?).symm.trans (F 12 _ rfl rfl)
            have f2 : a1.tmps[38]?.getD undef = .int .i64 id := (Array.getD_eq_getD_getElem?).symm.trans (F 13 _ rfl rfl)
            refine wpOp_call rfl rfl (f := 102) (args := #[.agg #[.bool r2.s.ca.attach, .int .i64 r2.s.ca.buffer, .slice Cd r2.s.ca.damage.length Cdc, .slice Cf r2.s.ca.frames.length Cfc, .bool r2.s.ca.input, .bool r2.s.ca.all, .slice Cr r2.s.ca.region.length Crc, .bool r2.s.ca.ordered, .slice Co r2.s.ca.order.length Coc, .slice Cp r2.s.ca.places.length Cpc], .int .i64 id]) ?_ ((cO2.out _ hB).mono fun e w2 ⟨A, cc, B, dd, he, o1, o2, b2⟩ => ⟨_, he, _, rfl, Chg.of_below b2 _, ⟨fun _ => hB.trans (b2.mono hB.size), fun e => absurd e (by decide), fun e => absurd e (by decide)⟩, A, cc, B, dd, rfl, own_le o1 hB.size, own_le o2 hB.size⟩)
            simp [execOp, Act.eval, go_sem, f, f2]
          · intro o ho s c1 c2 c3 c4 a1 w1 hk hb F; obtain rfl := Option.some.inj ho; have f : a1.tmps[6]?.getD undef = .pointer (some ⟨g, k2 * 33, none⟩) := (Array.getD_eq_getD_getElem?).symm.trans (hk.free (j := 6) rfl); refine wpOp_val rfl rfl (v := .pointer (some ⟨g, k2 * 33, none⟩)) ?_ ⟨_, rfl, Chg.refl _ _, hb, rfl⟩; simp [execOp, Act.eval, go_sem, f]
          · intro o ho s c1 c2 c3 c4 a1 w1 hk hb F; obtain rfl := Option.some.inj ho; have f : a1.tmps[40]?.getD undef = .pointer (some ⟨g, k2 * 33, none⟩) := (Array.getD_eq_getD_getElem?).symm.trans (F 15 _ rfl rfl); refine wpOp_val rfl rfl (v := .pointer (some ⟨g, k2 * 33, none⟩)) ?_ ⟨_, rfl, Chg.refl _ _, hb, rfl⟩; simp [execOp, Act.eval, go_sem, f]
          · intro o ho s c1 c2 c3 c4 a1 w1 hk hb F; obtain rfl := Option.some.inj ho; have f : a1.tmps[41]?.getD undef = .pointer (some ⟨g, k2 * 33, none⟩) := (Array.getD_eq_getD_getElem?).symm.trans (F 16 _ rfl rfl); refine wpOp_val rfl rfl (v := .pointer (some ⟨g, k2 * 33 + 23, none⟩)) ?_ ⟨_, rfl, Chg.refl _ _, hb, rfl⟩; simp [execOp, Act.eval, go_sem, f]
          · intro o ho s c1 c2 c3 c4 a1 w1 hk hb F; obtain rfl := Option.some.inj ho; obtain rfl := c1 rfl; have hB := hb.1 rfl; have f : a1.tmps[42]?.getD undef = .pointer (some ⟨g, k2 * 33 + 23, none⟩) := (Array.getD_eq_getD_getElem?).symm.trans (F 17 _ rfl rfl); obtain ⟨m3, m4, m5, m6, m7, m8, m9, m10, m11, m12, m13, m14, m15, m16, m17, m18, m19, m20, m21, m22, m23, m24, m25, m26, m27, m28, m29, m30, m31, m32⟩ := kS.out w1 hB; refine wpOp_val rfl rfl (v := .agg #[.bool r2.s.cu.attach, .int .i64 r2.s.cu.buffer, .slice Ud r2.s.cu.damage.length Udc, .slice Uf r2.s.cu.frames.length Ufc, .bool r2.s.cu.input, .bool r2.s.cu.all, .slice Ur r2.s.cu.region.length Urc, .bool r2.s.cu.ordered, .slice Uo r2.s.cu.order.length Uoc, .slice Up r2.s.cu.places.length Upc]) ?_ ⟨_, rfl, Chg.refl _ _, hb, rfl⟩; simp [execOp, Act.eval, go_sem, f, m23, m24, m25, m26, m27, m28, m29, m30, m31, m32]
          · intro o ho s c1 c2 c3 c4 a1 w1 hk hb F; obtain rfl := Option.some.inj ho; have f : a1.tmps[1]?.getD undef = .int .i64 id := (Array.getD_eq_getD_getElem?).symm.trans (hk.free (j := 1) rfl); refine wpOp_val rfl rfl (v := .int .i64 id) ?_ ⟨_, rfl, Chg.refl _ _, hb, rfl⟩; simp [execOp, Act.eval, go_sem, f]
          · intro o ho s c1 c2 c3 c4 a1 w1 hk hb F; obtain rfl := Option.some.inj ho; obtain rfl := c1 rfl
            have hB := hb.1 rfl
            have f : a1.tmps[43]?.getD undef = .agg #[.bool r2.s.cu.attach, .int .i64 r2.s.cu.buffer, .slice Ud r2.s.cu.damage.length Udc, .slice Uf r2.s.cu.frames.length Ufc, .bool r2.s.cu.input, .bool r2.s.cu.all, .slice Ur r2.s.cu.region.length Urc, .bool r2.s.cu.ordered, .slice Uo r2.s.cu.order.length Uoc, .slice Up r2.s.cu.places.length Upc] := (Array.getD_eq_getD_getElem?).symm.trans (F 18 _ rfl rfl)
            have f2 : a1.tmps[44]?.getD undef = .int .i64 id := (Array.getD_eq_getD_getElem?).symm.trans (F 19 _ rfl rfl)
            refine wpOp_call rfl rfl (f := 102) (args := #[.agg #[.bool r2.s.cu.attach, .int .i64 r2.s.cu.buffer, .slice Ud r2.s.cu.damage.length Udc, .slice Uf r2.s.cu.frames.length Ufc, .bool r2.s.cu.input, .bool r2.s.cu.all, .slice Ur r2.s.cu.region.length Urc, .bool r2.s.cu.ordered, .slice Uo r2.s.cu.order.length Uoc, .slice Up r2.s.cu.places.length Upc], .int .i64 id]) ?_ ((cO3.out _ hB).mono fun e w2 ⟨A, cc, B, dd, he, o1, o2, b2⟩ => ⟨_, he, _, rfl, Chg.of_below b2 _, ⟨fun _ => hB.trans (b2.mono hB.size), fun e => absurd e (by decide), fun e => absurd e (by decide)⟩, A, cc, B, dd, rfl, own_le o1 hB.size, own_le o2 hB.size⟩)
            simp [execOp, Act.eval, go_sem, f, f2]
          · intro o ho s c1 c2 c3 c4 a1 w1 hk hb F; obtain rfl := Option.some.inj ho; have f : a1.tmps[25]?.getD undef = .pointer (some ⟨g, k2 * 33, none⟩) := (Array.getD_eq_getD_getElem?).symm.trans (F 0 _ rfl rfl); refine wpOp_val rfl rfl (v := .pointer (some ⟨g, k2 * 33, none⟩)) ?_ ⟨_, rfl, Chg.refl _ _, hb, rfl⟩; simp [execOp, Act.eval, go_sem, f]
          · intro o ho s c1 c2 c3 c4 a1 w1 hk hb F; obtain rfl := Option.some.inj ho; have f : a1.tmps[46]?.getD undef = .pointer (some ⟨g, k2 * 33, none⟩) := (Array.getD_eq_getD_getElem?).symm.trans (F 21 _ rfl rfl); refine wpOp_val rfl rfl (v := .pointer (some ⟨g, k2 * 33 + 3, none⟩)) ?_ ⟨_, rfl, Chg.refl _ _, hb, rfl⟩; simp [execOp, Act.eval, go_sem, f]
          · intro o ho s c1 c2 c3 c4 a1 w1 hk hb F; obtain rfl := Option.some.inj ho; obtain rfl := c3 rfl
            obtain ⟨A, cc, B, dd, fv, o1, o2⟩ := F 8 _ rfl rfl
            have hB := hb.1 rfl
            have T0 := Tur.start h'.out hh2'.out
            have hrow := hh2'.out.row.below hB
            have hok := cut_in (id := id) (okpe.out.below hB (Nat.le_refl _)) ((inpe.out).mono (G' := grownG w w1 G) fun b hb => .inl hb) o1 o2 (fun b h1 h2 => .inr ⟨h1, h2⟩)
            have T1 := T0.pe hB hok
            have hGG : ∀ b, w.heap.size ≤ b → b < w1.heap.size → grownG w w1 G b := fun b h1 h2 => .inr ⟨h1, h2⟩
            have hlt2 := hh2'.out.lt
            have q3 := hrow.free (k2 * 33 + 3)
            have q4 := hrow.free (k2 * 33 + 4)
            have q5 := hrow.free (k2 * 33 + 5)
            have q6 := hrow.free (k2 * 33 + 6)
            have q7 := hrow.free (k2 * 33 + 7)
            have q8 := hrow.free (k2 * 33 + 8)
            have q9 := hrow.free (k2 * 33 + 9)
            have q10 := hrow.free (k2 * 33 + 10)
            have q11 := hrow.free (k2 * 33 + 11)
            have q12 := hrow.free (k2 * 33 + 12)
            obtain ⟨x3, m3⟩ : ∃ x, w1.cell? ⟨g, k2 * 33 + 3, none⟩ = some x := ⟨_, hrow.cell hh2'.out.lt (show 3 < 33 by decide)⟩
            obtain ⟨x4, m4⟩ : ∃ x, w1.cell? ⟨g, k2 * 33 + 4, none⟩ = some x := ⟨_, hrow.cell hh2'.out.lt (show 4 < 33 by decide)⟩
            obtain ⟨x5, m5⟩ : ∃ x, w1.cell? ⟨g, k2 * 33 + 5, none⟩ = some x := ⟨_, hrow.cell hh2'.out.lt (show 5 < 33 by decide)⟩
            obtain ⟨x6, m6⟩ : ∃ x, w1.cell? ⟨g, k2 * 33 + 6, none⟩ = some x := ⟨_, hrow.cell hh2'.out.lt (show 6 < 33 by decide)⟩
            obtain ⟨x7, m7⟩ : ∃ x, w1.cell? ⟨g, k2 * 33 + 7, none⟩ = some x := ⟨_, hrow.cell hh2'.out.lt (show 7 < 33 by decide)⟩
            obtain ⟨x8, m8⟩ : ∃ x, w1.cell? ⟨g, k2 * 33 + 8, none⟩ = some x := ⟨_, hrow.cell hh2'.out.lt (show 8 < 33 by decide)⟩
            obtain ⟨x9, m9⟩ : ∃ x, w1.cell? ⟨g, k2 * 33 + 9, none⟩ = some x := ⟨_, hrow.cell hh2'.out.lt (show 9 < 33 by decide)⟩
            obtain ⟨x10, m10⟩ : ∃ x, w1.cell? ⟨g, k2 * 33 + 10, none⟩ = some x := ⟨_, hrow.cell hh2'.out.lt (show 10 < 33 by decide)⟩
            obtain ⟨x11, m11⟩ : ∃ x, w1.cell? ⟨g, k2 * 33 + 11, none⟩ = some x := ⟨_, hrow.cell hh2'.out.lt (show 11 < 33 by decide)⟩
            obtain ⟨x12, m12⟩ : ∃ x, w1.cell? ⟨g, k2 * 33 + 12, none⟩ = some x := ⟨_, hrow.cell hh2'.out.lt (show 12 < 33 by decide)⟩
            have fa : a1.tmps[47]?.getD undef = .pointer (some ⟨g, k2 * 33 + 3, none⟩) := (Array.getD_eq_getD_getElem?).symm.trans (F 22 _ rfl rfl)
            have fw : a1.tmps[33]?.getD undef = .agg #[.bool r2.s.pe.attach, .int .i64 r2.s.pe.buffer, .slice Pd r2.s.pe.damage.length Pdc, .slice Pf r2.s.pe.frames.length Pfc, .bool r2.s.pe.input, .bool r2.s.pe.all, .slice Pr r2.s.pe.region.length Prc, .bool r2.s.pe.ordered, .slice A (without r2.s.pe.order id).length cc, .slice B (dropP r2.s.pe.places id).length dd] := (Array.getD_eq_getD_getElem?).symm.trans fv
            refine wpOp_skip rfl rfl (w' := putSt w1 g (k2 * 33 + 3) (cutT r2.s.pe id) ⟨.slice Pd r2.s.pe.damage.length Pdc, .slice Pf r2.s.pe.frames.length Pfc, .slice Pr r2.s.pe.region.length Prc, .slice A (without r2.s.pe.order id).length cc, .slice B (dropP r2.s.pe.places id).length dd⟩) ?_ ⟨_, rfl, putSt_chg _ _ _ _ _, ⟨fun e => absurd e (by decide), fun _ => ⟨_, _, T1, fun b h1 h2 => hGG b h1 (by rw [putSt_size] at h2; exact h2)⟩, fun e => absurd e (by decide)⟩, trivial⟩
            · simp [execOp, Act.eval, go_sem, fa, fw, putSt, cutT, m3, q3, m4, q4, m5, q5, m6, q6, m7, q7, m8, q8, m9, q9, m10, q10, m11, q11, m12, q12]
              try rfl
          · intro o ho s c1 c2 c3 c4 a1 w1 hk hb F; obtain rfl := Option.some.inj ho; have f : a1.tmps[26]?.getD undef = .pointer (some ⟨g, k2 * 33, none⟩) := (Array.getD_eq_getD_getElem?).symm.trans (F 1 _ rfl rfl); refine wpOp_val rfl rfl (v := .pointer (some ⟨g, k2 * 33, none⟩)) ?_ ⟨_, rfl, Chg.refl _ _, hb, rfl⟩; simp [execOp, Act.eval, go_sem, f]
          · intro o ho s c1 c2 c3 c4 a1 w1 hk hb F; obtain rfl := Option.some.inj ho; have f : a1.tmps[48]?.getD undef = .pointer (some ⟨g, k2 * 33, none⟩) := (Array.getD_eq_getD_getElem?).symm.trans (F 24 _ rfl rfl); refine wpOp_val rfl rfl (v := .pointer (some ⟨g, k2 * 33 + 13, none⟩)) ?_ ⟨_, rfl, Chg.refl _ _, hb, rfl⟩; simp [execOp, Act.eval, go_sem, f]
          · intro o ho s c1 c2 c3 c4 a1 w1 hk hb F; obtain rfl := Option.some.inj ho; obtain rfl := c4 rfl
            obtain ⟨A, cc, B, dd, fv, o1, o2⟩ := F 14 _ rfl rfl
            obtain ⟨G1, u1, T0, hG1⟩ := hb.2.1 rfl
            have hrow := T0.here.row
            have hok0 := T0.here.ok.ca
            have hin0 := T0.here.ok.caI
            change StRd w1 r2.ca r2.s.ca at hok0
            change StIn G1 r2.ca r2.s.ca at hin0
            rw [hvca.out] at hok0 hin0
            have hok := cut_in (id := id) hok0 (hin0.mono (G' := grownG w1 w1 G1) fun b hb => .inl hb) o1 o2 (fun b h1 h2 => .inl (hG1 b h1 h2))
            have T1 := T0.ca (Below.refl _ _) hok
            have hGG : ∀ b, w.heap.size ≤ b → b < w1.heap.size → grownG w1 w1 G1 b := fun b h1 h2 => .inl (hG1 b h1 h2)
            have hlt2 := hh2'.out.lt
            have q13 := hrow.free (k2 * 33 + 13)
            have q14 := hrow.free (k2 * 33 + 14)
            have q15 := hrow.free (k2 * 33 + 15)
            have q16 := hrow.free (k2 * 33 + 16)
            have q17 := hrow.free (k2 * 33 + 17)
            have q18 := hrow.free (k2 * 33 + 18)
            have q19 := hrow.free (k2 * 33 + 19)
            have q20 := hrow.free (k2 * 33 + 20)
            have q21 := hrow.free (k2 * 33 + 21)
            have q22 := hrow.free (k2 * 33 + 22)
            obtain ⟨x13, m13⟩ : ∃ x, w1.cell? ⟨g, k2 * 33 + 13, none⟩ = some x := ⟨_, hrow.cell T0.here.lt (show 13 < 33 by decide)⟩
            obtain ⟨x14, m14⟩ : ∃ x, w1.cell? ⟨g, k2 * 33 + 14, none⟩ = some x := ⟨_, hrow.cell T0.here.lt (show 14 < 33 by decide)⟩
            obtain ⟨x15, m15⟩ : ∃ x, w1.cell? ⟨g, k2 * 33 + 15, none⟩ = some x := ⟨_, hrow.cell T0.here.lt (show 15 < 33 by decide)⟩
            obtain ⟨x16, m16⟩ : ∃ x, w1.cell? ⟨g, k2 * 33 + 16, none⟩ = some x := ⟨_, hrow.cell T0.here.lt (show 16 < 33 by decide)⟩
            obtain ⟨x17, m17⟩ : ∃ x, w1.cell? ⟨g, k2 * 33 + 17, none⟩ = some x := ⟨_, hrow.cell T0.here.lt (show 17 < 33 by decide)⟩
            obtain ⟨x18, m18⟩ : ∃ x, w1.cell? ⟨g, k2 * 33 + 18, none⟩ = some x := ⟨_, hrow.cell T0.here.lt (show 18 < 33 by decide)⟩
            obtain ⟨x19, m19⟩ : ∃ x, w1.cell? ⟨g, k2 * 33 + 19, none⟩ = some x := ⟨_, hrow.cell T0.here.lt (show 19 < 33 by decide)⟩
            obtain ⟨x20, m20⟩ : ∃ x, w1.cell? ⟨g, k2 * 33 + 20, none⟩ = some x := ⟨_, hrow.cell T0.here.lt (show 20 < 33 by decide)⟩
            obtain ⟨x21, m21⟩ : ∃ x, w1.cell? ⟨g, k2 * 33 + 21, none⟩ = some x := ⟨_, hrow.cell T0.here.lt (show 21 < 33 by decide)⟩
            obtain ⟨x22, m22⟩ : ∃ x, w1.cell? ⟨g, k2 * 33 + 22, none⟩ = some x := ⟨_, hrow.cell T0.here.lt (show 22 < 33 by decide)⟩
            have fa : a1.tmps[49]?.getD undef = .pointer (some ⟨g, k2 * 33 + 13, none⟩) := (Array.getD_eq_getD_getElem?).symm.trans (F 25 _ rfl rfl)
            have fw : a1.tmps[39]?.getD undef = .agg #[.bool r2.s.ca.attach, .int .i64 r2.s.ca.buffer, .slice Cd r2.s.ca.damage.length Cdc, .slice Cf r2.s.ca.frames.length Cfc, .bool r2.s.ca.input, .bool r2.s.ca.all, .slice Cr r2.s.ca.region.length Crc, .bool r2.s.ca.ordered, .slice A (without r2.s.ca.order id).length cc, .slice B (dropP r2.s.ca.places id).length dd] := (Array.getD_eq_getD_getElem?).symm.trans fv
            refine wpOp_skip rfl rfl (w' := putSt w1 g (k2 * 33 + 13) (cutT r2.s.ca id) ⟨.slice Cd r2.s.ca.damage.length Cdc, .slice Cf r2.s.ca.frames.length Cfc, .slice Cr r2.s.ca.region.length Crc, .slice A (without r2.s.ca.order id).length cc, .slice B (dropP r2.s.ca.places id).length dd⟩) ?_ ⟨_, rfl, putSt_chg _ _ _ _ _, ⟨fun e => absurd e (by decide), fun e => absurd e (by decide), fun _ => ⟨_, _, _, T1, fun b h1 h2 => hGG b h1 (by rw [putSt_size] at h2; exact h2)⟩⟩, trivial⟩
            · simp [execOp, Act.eval, go_sem, fa, fw, putSt, cutT, m13, q13, m14, q14, m15, q15, m16, q16, m17, q17, m18, q18, m19, q19, m20, q20, m21, q21, m22, q22]
              try rfl
          · intro o ho s c1 c2 c3 c4 a1 w1 hk hb F; obtain rfl := Option.some.inj ho; have f : a1.tmps[27]?.getD undef = .pointer (some ⟨g, k2 * 33, none⟩) := (Array.getD_eq_getD_getElem?).symm.trans (F 2 _ rfl rfl); refine wpOp_val rfl rfl (v := .pointer (some ⟨g, k2 * 33, none⟩)) ?_ ⟨_, rfl, Chg.refl _ _, hb, rfl⟩; simp [execOp, Act.eval, go_sem, f]
          · intro o ho s c1 c2 c3 c4 a1 w1 hk hb F; obtain rfl := Option.some.inj ho; have f : a1.tmps[50]?.getD undef = .pointer (some ⟨g, k2 * 33, none⟩) := (Array.getD_eq_getD_getElem?).symm.trans (F 27 _ rfl rfl); refine wpOp_val rfl rfl (v := .pointer (some ⟨g, k2 * 33 + 23, none⟩)) ?_ ⟨_, rfl, Chg.refl _ _, hb, rfl⟩; simp [execOp, Act.eval, go_sem, f]
        · intro a1 w1 hk hb F
          obtain ⟨A, cc, B, dd, fv, o1, o2⟩ := F 20 _ rfl (by decide)
          obtain ⟨G1, u1, u2, T0, hG1⟩ := hb.2.2 rfl
          have hrow := T0.here.row
          have hok0 := T0.here.ok.cu
          have hin0 := T0.here.ok.cuI
          change StRd w1 r2.cu r2.s.cu at hok0
          change StIn G1 r2.cu r2.s.cu at hin0
          rw [hvcu.out] at hok0 hin0
          have hok := cut_in (id := id) hok0 (hin0.mono (G' := grownG w1 w1 G1) fun b hb => .inl hb) o1 o2 (fun b h1 h2 => .inl (hG1 b h1 h2))
          have T1 := T0.cu (Below.refl _ _) hok
          have hlt2 := hh2'.out.lt
          have q23 := hrow.free (k2 * 33 + 23)
          have q24 := hrow.free (k2 * 33 + 24)
          have q25 := hrow.free (k2 * 33 + 25)
          have q26 := hrow.free (k2 * 33 + 26)
          have q27 := hrow.free (k2 * 33 + 27)
          have q28 := hrow.free (k2 * 33 + 28)
          have q29 := hrow.free (k2 * 33 + 29)
          have q30 := hrow.free (k2 * 33 + 30)
          have q31 := hrow.free (k2 * 33 + 31)
          have q32 := hrow.free (k2 * 33 + 32)
          obtain ⟨x23, m23⟩ : ∃ x, w1.cell? ⟨g, k2 * 33 + 23, none⟩ = some x := ⟨_, hrow.cell T0.here.lt (show 23 < 33 by decide)⟩
          obtain ⟨x24, m24⟩ : ∃ x, w1.cell? ⟨g, k2 * 33 + 24, none⟩ = some x := ⟨_, hrow.cell T0.here.lt (show 24 < 33 by decide)⟩
          obtain ⟨x25, m25⟩ : ∃ x, w1.cell? ⟨g, k2 * 33 + 25, none⟩ = some x := ⟨_, hrow.cell T0.here.lt (show 25 < 33 by decide)⟩
          obtain ⟨x26, m26⟩ : ∃ x, w1.cell? ⟨g, k2 * 33 + 26, none⟩ = some x := ⟨_, hrow.cell T0.here.lt (show 26 < 33 by decide)⟩
          obtain ⟨x27, m27⟩ : ∃ x, w1.cell? ⟨g, k2 * 33 + 27, none⟩ = some x := ⟨_, hrow.cell T0.here.lt (show 27 < 33 by decide)⟩
          obtain ⟨x28, m28⟩ : ∃ x, w1.cell? ⟨g, k2 * 33 + 28, none⟩ = some x := ⟨_, hrow.cell T0.here.lt (show 28 < 33 by decide)⟩
          obtain ⟨x29, m29⟩ : ∃ x, w1.cell? ⟨g, k2 * 33 + 29, none⟩ = some x := ⟨_, hrow.cell T0.here.lt (show 29 < 33 by decide)⟩
          obtain ⟨x30, m30⟩ : ∃ x, w1.cell? ⟨g, k2 * 33 + 30, none⟩ = some x := ⟨_, hrow.cell T0.here.lt (show 30 < 33 by decide)⟩
          obtain ⟨x31, m31⟩ : ∃ x, w1.cell? ⟨g, k2 * 33 + 31, none⟩ = some x := ⟨_, hrow.cell T0.here.lt (show 31 < 33 by decide)⟩
          obtain ⟨x32, m32⟩ : ∃ x, w1.cell? ⟨g, k2 * 33 + 32, none⟩ = some x := ⟨_, hrow.cell T0.here.lt (show 32 < 33 by decide)⟩
          have fa : a1.tmps[51]?.getD undef = .pointer (some ⟨g, k2 * 33 + 23, none⟩) := (Array.getD_eq_getD_getElem?).symm.trans (F 28 _ rfl (by decide))
          have fw : a1.tmps[45]?.getD undef = .agg #[.bool r2.s.cu.attach, .int .i64 r2.s.cu.buffer, .slice Ud r2.s.cu.damage.length Udc, .slice Uf r2.s.cu.frames.length Ufc, .bool r2.s.cu.input, .bool r2.s.cu.all, .slice Ur r2.s.cu.region.length Urc, .bool r2.s.cu.ordered, .slice A (without r2.s.cu.order id).length cc, .slice B (dropP r2.s.cu.places id).length dd] := (Array.getD_eq_getD_getElem?).symm.trans fv
          refine wpOp_skip rfl rfl (w' := putSt w1 g (k2 * 33 + 23) (cutT r2.s.cu id) ⟨.slice Ud r2.s.cu.damage.length Udc, .slice Uf r2.s.cu.frames.length Ufc, .slice Ur r2.s.cu.region.length Urc, .slice A (without r2.s.cu.order id).length cc, .slice B (dropP r2.s.cu.places id).length dd⟩) ?_ ?_
          · simp [execOp, Act.eval, go_sem, fa, fw, putSt, cutT, m23, q23, m24, q24, m25, q25, m26, q26, m27, q27, m28, q28, m29, q29, m30, q30, m31, q31, m32, q32]
            try rfl
          · have e55 := arr_tab a1.tmps 55 hk.size
            have z0 : a1.tmps.getD 0 undef = .pointer (some ⟨q, 0, none⟩) := hk.free (j := 0) rfl
            have z1 : a1.tmps.getD 1 undef = .int .i64 id := hk.free (j := 1) rfl
            have z2 : a1.tmps.getD 2 undef = undef := hk.free (j := 2) rfl
            have z3 : a1.tmps.getD 3 undef = undef := hk.free (j := 3) rfl
            have z4 : a1.tmps.getD 4 undef = .int .i64 0 := hk.free (j := 4) rfl
            have z5 : a1.tmps.getD 5 undef = .pointer (some ⟨g, k * 33, none⟩) := hk.free (j := 5) rfl
            have z6 : a1.tmps.getD 6 undef = .pointer (some ⟨g, k2 * 33, none⟩) := hk.free (j := 6) rfl
            have z7 : a1.tmps.getD 7 undef = .pointer (some ⟨q, 0, none⟩) := hk.free (j := 7) rfl
            have z8 : a1.tmps.getD 8 undef = .int .i64 id := hk.free (j := 8) rfl
            have z9 : a1.tmps.getD 9 undef = _ := hk.free (j := 9) rfl
            have z10 : a1.tmps.getD 10 undef = _ := hk.free (j := 10) rfl
            have z11 : a1.tmps.getD 11 undef = _ := hk.free (j := 11) rfl
            have z12 : a1.tmps.getD 12 undef = _ := hk.free (j := 12) rfl
            have z13 : a1.tmps.getD 13 undef = _ := hk.free (j := 13) rfl
            have z14 : a1.tmps.getD 14 undef = _ := hk.free (j := 14) rfl
            have z15 : a1.tmps.getD 15 undef = _ := hk.free (j := 15) rfl
            have z16 : a1.tmps.getD 16 undef = _ := hk.free (j := 16) rfl
            have z17 : a1.tmps.getD 17 undef = _ := hk.free (j := 17) rfl
            have z18 : a1.tmps.getD 18 undef = _ := hk.free (j := 18) rfl
            have z19 : a1.tmps.getD 19 undef = _ := hk.free (j := 19) rfl
            have z20 : a1.tmps.getD 20 undef = _ := hk.free (j := 20) rfl
            have z21 : a1.tmps.getD 21 undef = _ := hk.free (j := 21) rfl
            have z22 : a1.tmps.getD 22 undef = _ := hk.free (j := 22) rfl
            have z23 : a1.tmps.getD 23 undef = _ := hk.free (j := 23) rfl
            have z24 : a1.tmps.getD 24 undef = _ := hk.free (j := 24) rfl
            have z52 : a1.tmps.getD 52 undef = undef := hk.free (j := 52) rfl
            have z53 : a1.tmps.getD 53 undef = undef := hk.free (j := 53) rfl
            have z54 : a1.tmps.getD 54 undef = undef := hk.free (j := 54) rfl
            simp only [tabT, z0, z1, z2, z3, z4, z5, z6, z7, z8, z9, z10, z11, z12, z13, z14, z15, z16, z17, z18, z19, z20, z21, z22, z23, z24, z52, z53, z54] at e55
            refine hK _ _ (Met.intro (hJ _ _ ?_))
            (repeat apply Exists.intro)
            refine ⟨?rel, ?fr⟩
            case fr => exact act_eq e55 hk.defers
            case rel => exact hide ⟨_, _, _, _, T1⟩
      case rest =>
        obtain ⟨G3, u1, u2, u3, T⟩ := hcut.out
        obtain rfl := hv'.out
        obtain ⟨r3, hr3⟩ : ∃ r3, r3 = (((r2.setPe (cutT r2.s.pe id) u1).setCa (cutT r2.s.ca id) u2).setCu (cutT r2.s.cu id) u3) := ⟨_, rfl⟩
        rw [← hr3] at T
        obtain ⟨L1, hL1⟩ : ∃ L1, L1 = L.set k2 r3 := ⟨_, rfl⟩
        have hlen1 : L1.length = L.length := by rw [hL1, List.length_set]
        have h1 := T.ref
        have hM1 := T.tof
        have hchg := T.chg
        have hext := T.ext
        rw [← hL1] at h1 hM1
        have hk1 : k < L1.length := by rw [hlen1]; exact hh'.out.lt
        rw [← hlen1] at h1
        have hrk : L1.getD k default = r := by
          rw [hL1, ← hh'.out.at_]
          simp [List.getD, List.getElem?_set_ne (Ne.symm hdiff.out)]
        have hH := h1.hereK hk1
        rw [hrk, hh'.out.id_] at hH
        have x1 : wc.cell? ⟨g, k * 33 + 1, none⟩ = some (.int .i64 r.s.parent) := hH.row.cell hk1 (by decide)
        have y1 := hH.row.free (k * 33 + 1)
        have hnG := (hH.ng h1).1
        have hok0 : RSfOk wc G3 ({ r with s := { r.s with parent := 0 } } : RSf) := ⟨hH.ok.pe, hH.ok.ca, hH.ok.cu, hH.ok.peI, hH.ok.caI, hH.ok.cuI, hH.ok.id64⟩
        have hend := hide (h1.turnOut2 (r' := { r with s := { r.s with parent := 0 } }) hH (Chg.setCell (F := fun b => b = g) wc (a := ⟨g, k * 33 + 1, none⟩) rfl (.int .i64 0)) (hH.row.set hk1 (show 1 < 33 by decide) _) rfl ((hok0.setCell (a := ⟨g, k * 33 + 1, none⟩) hnG _).mono fun b hb => .inl hb))
        have hs3 : r3.s = cutSf r2.s id := by rw [hr3]; rfl
        rw [hs3] at hM1
        have hnext := hide (fun (M2 : Fo) (w2 : World) (h2 : RFOut B0 wc q G3 (.slice (some ⟨g, 0, none⟩) L1.length c) M2 w2) =>
          (show RFOut B0 w q G (.slice (some ⟨g, 0, none⟩) L.length c) M2 w2 from RFOut.next (G1 := G3) (v1 := .slice (some ⟨g, 0, none⟩) L1.length c) (hchg.mono fun b _ e => .inr (by rw [e]; rfl)) (fun b hb => by
            rcases hb with hb | hb
            · exact (hext b hb).imp .inl fun h => h.1
            · rcases hb with hb | hb
              · exact .inl (.inr (.inl hb))
              · exact .inl (.inr (.inr hb))) (fun b hb => .inl hb) h2))
        rw [hM1] at hend
        clear T h1 hM1 hchg hext hH hok0 hrk hlen1 hL1 hr3 hs3 cO1 cO2 cO3 kS fr okpe okca okcu inpe inca incu h' hh' hh2'
        go_wp2
        go_ret
        exact ⟨rfl, hnext.out _ _ hend.out⟩
end Go.Proofs.YthkjicnnepkghaaGreatDoor
