/-
  tableauref17: Commit.
-/
import Derived.Test.YthkjicnnepkghaaGreatDoorPkP
namespace Go.Proofs.YthkjicnnepkghaaGreatDoor
open Go.RowKit
set_option linter.unusedVariables false

def BoxSt (W w : World) (u : Value) (S : St) : Prop := ∃ bb D1 d1 D2 d2 D3 d3 D4 d4 D5 d5, u = .pointer (some ⟨bb, 0, none⟩) ∧ w.heap[bb]? = some (.cells #[.bool S.attach, .int .i64 S.buffer, .slice D1 S.damage.length d1, .slice D2 S.frames.length d2, .bool S.input, .bool S.all, .slice D3 S.region.length d3, .bool S.ordered, .slice D4 S.order.length d4, .slice D5 S.places.length d5] 41 (0, 0)) ∧ StOwn w W.heap.size ⟨.slice D1 S.damage.length d1, .slice D2 S.frames.length d2, .slice D3 S.region.length d3, .slice D4 S.order.length d4, .slice D5 S.places.length d5⟩ S ∧ W.heap.size ≤ bb ∧ Below W.heap.size W w

theorem boxA {w w2 : World} {S : St} {D1 D2 D3 D4 D5 : Option Addr} {d1 d2 d3 d4 d5 : Nat} (bb1 : Below w.drew.heap.size w.drew w2) (o1 : StOwn w2 w.drew.heap.size ⟨.slice D1 S.damage.length d1, .slice D2 S.frames.length d2, .slice D3 S.region.length d3, .slice D4 S.order.length d4, .slice D5 S.places.length d5⟩ S) :
    BoxSt w (w2.alloc (.cells #[.bool S.attach, .int .i64 S.buffer, .slice D1 S.damage.length d1, .slice D2 S.frames.length d2, .bool S.input, .bool S.all, .slice D3 S.region.length d3, .bool S.ordered, .slice D4 S.order.length d4, .slice D5 S.places.length d5] 41)) (.pointer (some ⟨w2.heap.size, 0, none⟩)) S := by
  have hb : Below w.heap.size w w2 := (below_drewN (Below.refl _ w) 1).trans bb1
  exact ⟨w2.heap.size, D1, d1, D2, d2, D3, d3, D4, d4, D5, d5, rfl, heap_alloc_new _ _, o1.below ((Below.refl _ w2).alloc (Nat.le_refl _) _) (Nat.le_refl _), hb.size, hb.alloc hb.size _⟩
theorem boxB {w w2 : World} {S : St} {D1 D2 D3 D4 D5 : Option Addr} {d1 d2 d3 d4 d5 : Nat} {o : Obj} (hzb : w2.heap[w.heap.size]? = some (.cells #[.bool false, .int .i64 0, .slice none 0 0, .slice none 0 0, .bool false, .bool false, .slice none 0 0, .bool false, .slice none 0 0, .slice none 0 0] 41 (0, 0))) (bb1 : Below (w.alloc o).drew.heap.size (w.alloc o).drew w2) (o1 : StOwn w2 (w.alloc o).drew.heap.size ⟨.slice D1 S.damage.length d1, .slice D2 S.frames.length d2, .slice D3 S.region.length d3, .slice D4 S.order.length d4, .slice D5 S.places.length d5⟩ S) :
    BoxSt w ((((((((((w2.setCell ⟨w.heap.size, 0, none⟩ (.bool S.attach)).setCell ⟨w.heap.size, 1, none⟩ (.int .i64 S.buffer)).setCell ⟨w.heap.size, 2, none⟩ (.slice D1 S.damage.length d1)).setCell ⟨w.heap.size, 3, none⟩ (.slice D2 S.frames.length d2)).setCell ⟨w.heap.size, 4, none⟩ (.bool S.input)).setCell ⟨w.heap.size, 5, none⟩ (.bool S.all)).setCell ⟨w.heap.size, 6, none⟩ (.slice D3 S.region.length d3)).setCell ⟨w.heap.size, 7, none⟩ (.bool S.ordered)).setCell ⟨w.heap.size, 8, none⟩ (.slice D4 S.order.length d4)).setCell ⟨w.heap.size, 9, none⟩ (.slice D5 S.places.length d5)) (.pointer (some ⟨w.heap.size, 0, none⟩)) S := by
  have hb : Below w.heap.size w w2 := (below_drewN ((Below.refl _ w).alloc (Nat.le_refl _) o) 1).trans (bb1.mono (by show w.heap.size ≤ (w.alloc o).heap.size; simp))
  have hlt : w.heap.size < (w.alloc o).drew.heap.size := by show w.heap.size < (w.alloc o).heap.size; simp
  refine ⟨w.heap.size, D1, d1, D2, d2, D3, d3, D4, d4, D5, d5, rfl, set10 hzb (.bool S.attach) (.int .i64 S.buffer) (.slice D1 S.damage.length d1) (.slice D2 S.frames.length d2) (.bool S.input) (.bool S.all) (.slice D3 S.region.length d3) (.bool S.ordered) (.slice D4 S.order.length d4) (.slice D5 S.places.length d5), ?_, Nat.le_refl _, below10 hb (Nat.le_refl _) (.bool S.attach) (.int .i64 S.buffer) (.slice D1 S.damage.length d1) (.slice D2 S.frames.length d2) (.bool S.input) (.bool S.all) (.slice D3 S.region.length d3) (.bool S.ordered) (.slice D4 S.order.length d4) (.slice D5 S.places.length d5)⟩
  refine ⟨own_le ?_ (Nat.le_of_lt hlt), own_le ?_ (Nat.le_of_lt hlt), own_le ?_ (Nat.le_of_lt hlt), own_le ?_ (Nat.le_of_lt hlt), own_le ?_ (Nat.le_of_lt hlt)⟩
  all_goals
    dsimp only
    iterate 10 refine own_setOther ?_ hlt _
  · exact o1.d
  · exact o1.f
  · exact o1.r
  · exact o1.o
  · exact o1.p

section
variable {rk : Int → Nat} {Bk : Nat} {B0 q : Nat} {v : Value}
theorem gKids_tail {w W3 : World} {G G3 : Nat → Prop} {L : List RSf} {id : Int} {k g c : Nat} {r3 s0 : RSf} (n : Nat) (T : Tur B0 w q G v L id k g c W3 G3 r3) (hl : L.length ≤ 1000) (hI : CInv (setM (toF L) id (some r3.s)) [id]) (hs : toF L id = some s0.s) (hp : r3.s.parent = s0.s.parent) (hy : r3.s.sync = s0.s.sync)
    (hrk : ∀ j s, toF L j = some s → rk j ≤ Bk ∧ (s.parent ≠ 0 → rk s.parent < rk j)) (hn : Bk ≤ n + rk id) :
    Calls Tryz.prog 113 #[.pointer (some ⟨q, 0, none⟩), .slice (some ⟨W3.heap.size, 0, none⟩) 1 1, .int .i64 id] (W3.alloc (.cells #[.int .i64 id] 3)) fun e w' => ∃ A c, e = .returned (.slice A (comF (synB (toF L)) n (setM (toF L) id (some r3.s), [id]) id).2.length c) ∧
      Rd w' (.slice A (comF (synB (toF L)) n (setM (toF L) id (some r3.s), [id]) id).2.length c) 1 (comF (synB (toF L)) n (setM (toF L) id (some r3.s), [id]) id).2.length ((comF (synB (toF L)) n (setM (toF L) id (some r3.s), [id]) id).2.map (Value.int .i64)) ∧ RFOut B0 w q G v (comF (synB (toF L)) n (setM (toF L) id (some r3.s), [id]) id).1 w' := by
  have hsy := synB_turn hs hp hy
  have hrk3 := rk_turn hrk hs hp
  have hbA : Below W3.heap.size W3 (W3.alloc (.cells #[.int .i64 id] 3)) := (Below.refl _ W3).alloc (Nat.le_refl _) _
  have T4 := T.below hbA
  have ho := World.ownsRow_lit (base := W3.heap.size) (e := 3) (size := 1) W3 #[.int .i64 id] 1 (by simp) (by unfold maxLen; omega) (by simp)
  have hglt := T.ref.fullLt
  have cK := gKids_any (rk := rk) (Bk := Bk) (sy := synB (toF L)) (B0 := B0) (Bl := W3.heap.size) (q := q) (v := v) n (W3.alloc (.cells #[.int .i64 id] 3)) G3 (L.set k r3) (.slice (some ⟨W3.heap.size, 0, none⟩) 1 1) [id] id r3.s T4.ref (by rw [List.length_set]; exact hl) ho (fun b hb hf => by
    have e : W3.heap.size = b := Option.some.inj hb
    have := hglt b hf
    omega) hbA.size (by rw [T.tof]; exact hI) (by rw [T.tof, setM_same]) (fun x => by rw [T.tof, hsy]) (by rw [T.tof]; exact hrk3) hn
  rw [T.tof] at cK
  refine cK.mono ?_
  rintro e w' ⟨u', rfl, G', L', h1, h2, h3, h4, h5, h6, h7⟩
  obtain ⟨A, c', rfl, -⟩ := own_form h3
  refine ⟨A, c', rfl, Rd.of_own h3, G', v, L', h1, h2, ?_, ?_⟩
  · have hv := T.here.form
    have hw := T.chg.size
    have e1 : Chg (writR q v) w (W3.alloc (.cells #[.int .i64 id] 3)) := (T4.chg).mono fun b _ e => .inr (by rw [e, hv]; rfl)
    refine e1.trans h5 fun b hb => ?_
    rcases hb with hb | hb
    · exact .inl hb
    · have e : W3.heap.size = b := Option.some.inj hb
      exact .inr (by omega)
  · intro b hb
    have hw := T.chg.size
    rcases h6 b hb with h | h
    · rcases h with h | h
      · exact (T.ext b h).imp .inl fun h => h.1
      · exact .inl (.inr h)
    · have := hbA.size
      exact .inr (by omega)
end

set_option maxRecDepth 100000 in
set_option maxHeartbeats 1500000 in
theorem gCommit_any {B0 : Nat} (w : World) {q : Nat} {G : Nat → Prop} {v : Value} {L : List RSf} (h : RefF B0 w q G v L) (hl : L.length ≤ 1000) (hG : GoodM (toF L)) (hF : FitM 50000 (toF L)) {rk : Int → Nat} {Bk : Nat} (hrk : ∀ j s, toF L j = some s → rk j ≤ Bk ∧ (s.parent ≠ 0 → rk s.parent < rk j)) (id : Int) (kf : Nat) (hk : ∀ s, toF L id = some s → Bk < kf + rk id) :
    Calls Tryz.prog 53 #[.pointer (some ⟨q, 0, none⟩), .int .i64 id] w fun e w' => ∃ A c, e = .returned (.tuple #[.slice A (fcomS (synB (toF L)) kf (toF L) id).2.length c, .int .i64 (thereK (toF L) id)]) ∧ Rd w' (.slice A (fcomS (synB (toF L)) kf (toF L) id).2.length c) 1 (fcomS (synB (toF L)) kf (toF L) id).2.length ((fcomS (synB (toF L)) kf (toF L) id).2.map (Value.int .i64)) ∧ RFOut B0 w q G v (fcomS (synB (toF L)) kf (toF L) id).1 w' := by
  cases hs : toF L id with
  | none =>
    have cS := hide (gS_no h hl hs)
    have e1 : fcomS (synB (toF L)) kf (toF L) id = (toF L, []) := by simp [fcomS, hs]
    have e2 : thereK (toF L) id = 5 := by simp [thereK, hs]
    rw [e1, e2]
    replace h := hide h
    clear hG hF hrk hk e1 e2
    go_enter Tryz.func53, Tryz.ntmps53
    go_wp2_with fail
    refine (cS.out).mono ?_
    rintro e w' ⟨rfl, rfl⟩
    go_wp2
    go_ret2
    exact ⟨none, 0, rfl, Rd.nil _ _, h.out.stay⟩
  | some s =>
    obtain ⟨k, g, c, r, hh, rfl⟩ := h.here hs
    have cS := hide (gS_at h hl hh)
    obtain ⟨B1, b1, B2, b2, B3, b3, B4, b4, B5, b5, hzca⟩ := hh.ok.ca.forms
    obtain ⟨P1, p1, P2, p2, P3, p3, P4, p4, P5, p5, hzpe⟩ := hh.ok.pe.forms
    have hcax := hh.ok.ca
    have hpex := hh.ok.pe
    rw [hzca] at hcax
    rw [hzpe] at hpex
    have hfit : MergeFits r.s.ca r.s.pe := ((hF id _ hs).fits (by decide)).2.1
    obtain ⟨S, hS⟩ : ∃ S, S = mergeT r.s.ca r.s.pe := ⟨_, rfl⟩
    have cM := hide (fun (w1 : World) (hb : Below w.heap.size w w1) => (show Calls Tryz.prog 111 #[.agg #[.bool r.s.ca.attach, .int .i64 r.s.ca.buffer, .slice B1 r.s.ca.damage.length b1, .slice B2 r.s.ca.frames.length b2, .bool r.s.ca.input, .bool r.s.ca.all, .slice B3 r.s.ca.region.length b3, .bool r.s.ca.ordered, .slice B4 r.s.ca.order.length b4, .slice B5 r.s.ca.places.length b5], .agg #[.bool r.s.pe.attach, .int .i64 r.s.pe.buffer, .slice P1 r.s.pe.damage.length p1, .slice P2 r.s.pe.frames.length p2, .bool r.s.pe.input, .bool r.s.pe.all, .slice P3 r.s.pe.region.length p3, .bool r.s.pe.ordered, .slice P4 r.s.pe.order.length p4, .slice P5 r.s.pe.places.length p5]] w1 (BigX w1 S) from by
      rw [hS]
      exact (gMerge15_any w1 _ _ r.s.ca r.s.pe (hcax.below hb (Nat.le_refl _)) (hpex.below hb (Nat.le_refl _)) hfit).mono fun e w' hx => bigX hx))
    have ya := fun (w1 : World) (hb : Below w.heap.size w w1) i (hi : i < 33) => (hh.row.below hb).cell hh.lt hi
    have yc := fun (w1 : World) (hb : Below w.heap.size w w1) => (show w1.cell? ⟨g, k * 33 + 3, none⟩ = some (.bool r.s.pe.attach) ∧ w1.cell? ⟨g, k * 33 + 4, none⟩ = some (.int .i64 r.s.pe.buffer) ∧ w1.cell? ⟨g, k * 33 + 5, none⟩ = some (.slice P1 r.s.pe.damage.length p1) ∧ w1.cell? ⟨g, k * 33 + 6, none⟩ = some (.slice P2 r.s.pe.frames.length p2) ∧ w1.cell? ⟨g, k * 33 + 7, none⟩ = some (.bool r.s.pe.input) ∧ w1.cell? ⟨g, k * 33 + 8, none⟩ = some (.bool r.s.pe.all) ∧ w1.cell? ⟨g, k * 33 + 9, none⟩ = some (.slice P3 r.s.pe.region.length p3) ∧ w1.cell? ⟨g, k * 33 + 10, none⟩ = some (.bool r.s.pe.ordered) ∧ w1.cell? ⟨g, k * 33 + 11, none⟩ = some (.slice P4 r.s.pe.order.length p4) ∧ w1.cell? ⟨g, k * 33 + 12, none⟩ = some (.slice P5 r.s.pe.places.length p5) ∧
      w1.cell? ⟨g, k * 33 + 13, none⟩ = some (.bool r.s.ca.attach) ∧ w1.cell? ⟨g, k * 33 + 14, none⟩ = some (.int .i64 r.s.ca.buffer) ∧ w1.cell? ⟨g, k * 33 + 15, none⟩ = some (.slice B1 r.s.ca.damage.length b1) ∧ w1.cell? ⟨g, k * 33 + 16, none⟩ = some (.slice B2 r.s.ca.frames.length b2) ∧ w1.cell? ⟨g, k * 33 + 17, none⟩ = some (.bool r.s.ca.input) ∧ w1.cell? ⟨g, k * 33 + 18, none⟩ = some (.bool r.s.ca.all) ∧ w1.cell? ⟨g, k * 33 + 19, none⟩ = some (.slice B3 r.s.ca.region.length b3) ∧ w1.cell? ⟨g, k * 33 + 20, none⟩ = some (.bool r.s.ca.ordered) ∧ w1.cell? ⟨g, k * 33 + 21, none⟩ = some (.slice B4 r.s.ca.order.length b4) ∧ w1.cell? ⟨g, k * 33 + 22, none⟩ = some (.slice B5 r.s.ca.places.length b5) from by
      refine ⟨(ya w1 hb 3 (by decide)).trans ?_, (ya w1 hb 4 (by decide)).trans ?_, (ya w1 hb 5 (by decide)).trans ?_, (ya w1 hb 6 (by decide)).trans ?_, (ya w1 hb 7 (by decide)).trans ?_, (ya w1 hb 8 (by decide)).trans ?_, (ya w1 hb 9 (by decide)).trans ?_, (ya w1 hb 10 (by decide)).trans ?_, (ya w1 hb 11 (by decide)).trans ?_, (ya w1 hb 12 (by decide)).trans ?_, (ya w1 hb 13 (by decide)).trans ?_, (ya w1 hb 14 (by decide)).trans ?_, (ya w1 hb 15 (by decide)).trans ?_, (ya w1 hb 16 (by decide)).trans ?_, (ya w1 hb 17 (by decide)).trans ?_, (ya w1 hb 18 (by decide)).trans ?_, (ya w1 hb 19 (by decide)).trans ?_, (ya w1 hb 20 (by decide)).trans ?_, (ya w1 hb 21 (by decide)).trans ?_, (ya w1 hb 22 (by decide)).trans ?_⟩
      all_goals simp only [RSf.enc, List.getElem?_cons_succ, List.getElem?_cons_zero, hzca, hzpe])
    obtain ⟨x3, x4, x5, x6, x7, x8, x9, x10, x11, x12, x13, x14, x15, x16, x17, x18, x19, x20, x21, x22⟩ := yc w (Below.refl _ _)
    replace yc := hide yc
    have hglt := (hh.ng h).2
    have hgne : g ≠ w.heap.size := by omega
    have hgne2 : w.heap.size ≠ g := by omega
    have e2 : thereK (toF L) id = 0 := by simp [thereK, hs]
    rw [e2]
    have hS' := hide hS
    have h' := hide h
    have hh' := hide hh
    have hG' := hide hG
    have hF' := hide hF
    have hrk' := hide hrk
    have hk' := hide hk
    have hs' := hide hs
    have hcax' := hide hcax
    have hpex' := hide hpex
    clear hS h hh hG hF hrk hk hs e2 ya hzca hzpe hcax hpex hfit
    go_enter Tryz.func53, Tryz.ntmps53
    go_wp2_with fail
    refine (cS.out).mono ?_
    rintro e w' ⟨rfl, rfl⟩
    go_upto_region 4 with fail
    go_cut [7] (fun u wx => Hid (BoxSt w wx u S))
    case first =>
      go_region_law (first
        | (go_simp; go_at_call 111; refine (cM.out _ (by first | exact below_drewN (Below.refl _ _) 1 | exact below_drewN ((Below.refl w.heap.size w).alloc (Nat.le_refl _) _) 1)).mono ?_; rintro e w2 ⟨D1, d1, D2, d2, D3, d3, D4, d4, D5, d5, rfl, o1, bb1⟩; try (have hzb := (bb1.block w.heap.size (by simp)).trans (heap_alloc_new w _); obtain ⟨z0, z1, z2, z3, z4, z5, z6, z7, z8, z9⟩ := cells10 hzb; have t0 := frozen_of_row w2 w.heap.size 0 _ _ hzb; have t1 := frozen_of_row w2 w.heap.size 1 _ _ hzb; have t2 := frozen_of_row w2 w.heap.size 2 _ _ hzb; have t3 := frozen_of_row w2 w.heap.size 3 _ _ hzb; have t4 := frozen_of_row w2 w.heap.size 4 _ _ hzb; have t5 := frozen_of_row w2 w.heap.size 5 _ _ hzb; have t6 := frozen_of_row w2 w.heap.size 6 _ _ hzb; have t7 := frozen_of_row w2 w.heap.size 7 _ _ hzb; have t8 := frozen_of_row w2 w.heap.size 8 _ _ hzb; have t9 := frozen_of_row w2 w.heap.size 9 _ _ hzb))
        | fail)
      all_goals
        go_wp2_with fail
        go_meet
        first
          | (have hX := boxB hzb bb1 o1; exact hide hX)
          | (have hX := boxA bb1 o1; exact hide hX)
    case rest =>
      obtain ⟨bb, D1, d1, D2, d2, D3, d3, D4, d4, D5, d5, rfl, hbx, o1, hbb, hbw⟩ := hcut.out
      obtain ⟨W0, hW0⟩ : ∃ W0, W0 = wc := ⟨_, rfl⟩
      subst hW0
      clear x3 x4 x5 x6 x7 x8 x9 x10 x11 x12 x13 x14 x15 x16 x17 x18 x19 x20 x21 x22 cM hcut
      have hS := hS'.out
      have T1 := (Tur.start h'.out hh'.out).pe hbw (stNil _ _)
      have hSI := o1.inG (w := w) (G := G) (Nat.le_refl _)
      have R0 := hh'.out.row.below hbw
      have y := fun i (hi : i < 33) => R0.cell hh'.out.lt hi
      have f0 := R0.free (k * 33 + 3)
      have f1 := R0.free (k * 33 + 4)
      have f2 := R0.free (k * 33 + 5)
      have f3 := R0.free (k * 33 + 6)
      have f4 := R0.free (k * 33 + 7)
      have f5 := R0.free (k * 33 + 8)
      have f6 := R0.free (k * 33 + 9)
      have f7 := R0.free (k * 33 + 10)
      have f8 := R0.free (k * 33 + 11)
      have f9 := R0.free (k * 33 + 12)
      have p0 := y 3 (by decide)
      have p1 := y 4 (by decide)
      have p2 := y 5 (by decide)
      have p3 := y 6 (by decide)
      have p4 := y 7 (by decide)
      have p5 := y 8 (by decide)
      have p6 := y 9 (by decide)
      have p7 := y 10 (by decide)
      have p8 := y 11 (by decide)
      have p9 := y 12 (by decide)
      simp only [RSf.enc, List.getElem?_cons_succ, List.getElem?_cons_zero] at p0 p1 p2 p3 p4 p5 p6 p7 p8 p9
      clear y R0
      obtain ⟨W1, hW1⟩ : ∃ W1, W1 = putSt W0 g (k * 33 + 3) St.zero StV.nil := ⟨_, rfl⟩
      have hx1 := hW1
      unfold putSt St.zero StV.nil at hx1
      dsimp only at hx1
      rw [← hW1] at T1
      have hsz1 : W1.heap.size = W0.heap.size := by rw [hW1]; exact putSt_size _ _ _ _ _
      have hc01 : Chg (fun b => b = g) W0 W1 := by rw [hW1]; exact putSt_chg _ _ _ _ _
      have hgb : g ≠ bb := by omega
      have hgne3 : g ≠ bb := hgb
      have hbx1 := (hc01.block bb (lt_of_block hbx) (fun e => hgb e.symm)).trans hbx
      have hSI1 : StRd W1 ⟨.slice D1 S.damage.length d1, .slice D2 S.frames.length d2, .slice D3 S.region.length d3, .slice D4 S.order.length d4, .slice D5 S.places.length d5⟩ S ∧ StIn (grownG w W0 G) ⟨.slice D1 S.damage.length d1, .slice D2 S.frames.length d2, .slice D3 S.region.length d3, .slice D4 S.order.length d4, .slice D5 S.places.length d5⟩ S :=
        ⟨hSI.1.keep hSI.2 (Nat.le_of_eq hsz1.symm) fun b hb hl => hc01.block b hl fun e => T1.ng.1 (e ▸ hb), hSI.2⟩
      have hsy := synB_turn (s' := (r.setPe St.zero StV.nil).s) hs'.out rfl rfl
      have hrk1 := rk_turn (s' := (r.setPe St.zero StV.nil).s) hrk'.out hs'.out rfl
      rw [← T1.tof] at hsy hrk1
      have cY := gSynced_any W1 q _ v _ T1.ref (by rw [List.length_set]; exact hl) hrk1 (Bk + 1) id (fun t ht => by have := (hrk1 _ _ ht).1; omega)
      rw [hsy] at cY
      obtain ⟨sb, hsb⟩ : ∃ sb, sb = synB (toF L) id := ⟨_, rfl⟩
      rw [← hsb] at cY
      have hfc : fcomS (synB (toF L)) kf (toF L) id = if sb then (setM (toF L) id (some (cacheS r.s)), []) else comA (synB (toF L)) kf (setM (toF L) id (some (cacheS r.s)), [id]) id := by rw [hsb]; simp [fcomS, hs'.out]
      have y1 := fun i (hi : i < 33) => T1.here.row.cell T1.here.lt hi
      have q0 := y1 13 (by decide)
      have q1 := y1 14 (by decide)
      have q2 := y1 15 (by decide)
      have q3 := y1 16 (by decide)
      have q4 := y1 17 (by decide)
      have q5 := y1 18 (by decide)
      have q6 := y1 19 (by decide)
      have q7 := y1 20 (by decide)
      have q8 := y1 21 (by decide)
      have q9 := y1 22 (by decide)
      simp only [RSf.setPe, RSf.enc, List.getElem?_cons_succ, List.getElem?_cons_zero] at q0 q1 q2 q3 q4 q5 q6 q7 q8 q9
      obtain ⟨z0, z1, z2, z3, z4, z5, z6, z7, z8, z9⟩ := cells10 hbx1
      clear y1
      replace hx1 := hide hx1
      replace T1 := hide T1
      replace hbx1 := hide hbx1
      replace o1 := hide o1
      replace hbw := hide hbw
      replace hW1 := hide hW1
      replace hS := hide hS
      replace cY := hide cY
      replace hsb := hide hsb
      replace hfc := hide hfc
      replace hSI1 := hide hSI1
      replace hc01 := hide hc01
      replace hsz1 := hide hsz1
      clear hSI hbx hsy hrk1
      go_upto_region 6 with fail
      rw [← hx1.out]
      clear p0 p1 p2 p3 p4 p5 p6 p7 p8 p9 f0 f1 f2 f3 f4 f5 f6 f7 f8 f9 hx1
      have f0 := T1.out.here.row.free (k * 33 + 13)
      have f1 := T1.out.here.row.free (k * 33 + 14)
      have f2 := T1.out.here.row.free (k * 33 + 15)
      have f3 := T1.out.here.row.free (k * 33 + 16)
      have f4 := T1.out.here.row.free (k * 33 + 17)
      have f5 := T1.out.here.row.free (k * 33 + 18)
      have f6 := T1.out.here.row.free (k * 33 + 19)
      have f7 := T1.out.here.row.free (k * 33 + 20)
      have f8 := T1.out.here.row.free (k * 33 + 21)
      have f9 := T1.out.here.row.free (k * 33 + 22)
      go_wp2_with fail
      refine cY.out.mono ?_
      rintro e w' ⟨rfl, rfl⟩
      cases sb with
      | true =>
        have e4 : fcomS (synB (toF L)) kf (toF L) id = (setM (toF L) id (some (cacheS r.s)), []) := by have := hfc.out; simpa using this
        replace e4 := hide e4
        have T2 := T1.out.ca (Below.refl _ W1) ⟨hSI1.out.1, hSI1.out.2.mono fun b hb => .inl hb⟩
        obtain ⟨W2, hW2⟩ : ∃ W2, W2 = putSt W1 g (k * 33 + 13) S ⟨.slice D1 S.damage.length d1, .slice D2 S.frames.length d2, .slice D3 S.region.length d3, .slice D4 S.order.length d4, .slice D5 S.places.length d5⟩ := ⟨_, rfl⟩
        have hx2 := hW2
        unfold putSt at hx2
        dsimp only at hx2
        rw [← hW2] at T2
        have hfin : Hid (RFOut B0 w q G v (setM (toF L) id (some (cacheS r.s))) W2) := hide (by
          have h5 := T2.out
          rw [hS.out] at h5
          exact h5)
        replace hx2 := hide hx2
        clear T2 hW2
        go_upto_region 8 with fail
        rw [← hx2.out]
        clear q0 q1 q2 q3 q4 q5 q6 q7 q8 q9 f0 f1 f2 f3 f4 f5 f6 f7 f8 f9 z0 z1 z2 z3 z4 z5 z6 z7 z8 z9 hx2
        go_wp2
        go_ret2
        rw [e4.out]
        exact ⟨none, 0, rfl, Rd.nil _ _, hfin.out⟩
      | false =>
        obtain ⟨n', rfl⟩ : ∃ n', kf = n' + 1 := ⟨kf - 1, by have := hk'.out _ hs'.out; have := (hrk'.out _ _ hs'.out).1; omega⟩
        have e4 : fcomS (synB (toF L)) (n' + 1) (toF L) id = comF (synB (toF L)) n' (setM (toF L) id (some (appS (cacheS r.s))), [id]) id := by
          have := hfc.out
          simp only [Bool.false_eq_true, if_false] at this
          rw [this, comA_comF _ _ (setM_same _ _ _), setM_setM]
        replace e4 := hide e4
        obtain ⟨S2, hS2⟩ : ∃ S2, S2 = applyT r.s.cu S := ⟨_, rfl⟩
        have T2 := T1.out.ca (Below.refl _ W1) (stNil _ _)
        obtain ⟨W2, hW2⟩ : ∃ W2, W2 = putSt W1 g (k * 33 + 13) St.zero StV.nil := ⟨_, rfl⟩
        have hx2 := hW2
        unfold putSt St.zero StV.nil at hx2
        dsimp only at hx2
        rw [← hW2] at T2
        have hc12 : Chg (fun b => b = g) W1 W2 := by rw [hW2]; exact putSt_chg _ _ _ _ _
        have hbx2 := (hc12.block bb (lt_of_block hbx1.out) (fun e => hgne3 e.symm)).trans hbx1.out
        have hrdS : StRd W2 ⟨.slice D1 S.damage.length d1, .slice D2 S.frames.length d2, .slice D3 S.region.length d3, .slice D4 S.order.length d4, .slice D5 S.places.length d5⟩ S := by
          have h5 := hSI1.out
          exact h5.1.keep h5.2 hc12.size fun b hb hl => hc12.block b hl fun e => T1.out.ng.1 (e ▸ hb)
        have hrdC : StRd W2 r.cu r.s.cu := T2.here.ok.cu
        have hfits : MergeFits r.s.cu S := by
          have h5 := ((hF'.out.set (id := id) ((hF'.out id _ hs'.out).cache)) id _ (setM_same _ _ _)).fits (Nat.le_refl _)
          rw [hS.out]
          exact h5.1
        have cA := hide (fun (w1 : World) (hb : Below W2.heap.size W2 w1) => (show Calls Tryz.prog 112 #[.agg #[.bool r.s.cu.attach, .int .i64 r.s.cu.buffer, r.cu.d, r.cu.f, .bool r.s.cu.input, .bool r.s.cu.all, r.cu.r, .bool r.s.cu.ordered, r.cu.o, r.cu.p], .agg #[.bool S.attach, .int .i64 S.buffer, .slice D1 S.damage.length d1, .slice D2 S.frames.length d2, .bool S.input, .bool S.all, .slice D3 S.region.length d3, .bool S.ordered, .slice D4 S.order.length d4, .slice D5 S.places.length d5]] w1 (BigX w1 S2) from by
          rw [hS2]
          exact (gApply15_any w1 _ _ r.s.cu S (hrdC.below hb (Nat.le_refl _)) (hrdS.below hb (Nat.le_refl _)) hfits).mono fun e w' hx => bigX hx))
        have y2 := fun i (hi : i < 33) => T2.here.row.cell T2.here.lt hi
        have c0 := y2 23 (by decide)
        have c1 := y2 24 (by decide)
        have c2 := y2 25 (by decide)
        have c3 := y2 26 (by decide)
        have c4 := y2 27 (by decide)
        have c5 := y2 28 (by decide)
        have c6 := y2 29 (by decide)
        have c7 := y2 30 (by decide)
        have c8 := y2 31 (by decide)
        have c9 := y2 32 (by decide)
        simp only [RSf.setCa, RSf.setPe, RSf.enc, List.getElem?_cons_succ, List.getElem?_cons_zero] at c0 c1 c2 c3 c4 c5 c6 c7 c8 c9
        obtain ⟨x0, x1, x2, x3, x4, x5, x6, x7, x8, x9⟩ := cells10 hbx2
        have hcw := hide (fun (w1 : World) (hb : Below W2.heap.size W2 w1) => (show w1.cell? ⟨g, k * 33 + 23, none⟩ = some (.bool r.s.cu.attach) ∧ w1.cell? ⟨g, k * 33 + 24, none⟩ = some (.int .i64 r.s.cu.buffer) ∧ w1.cell? ⟨g, k * 33 + 25, none⟩ = some r.cu.d ∧ w1.cell? ⟨g, k * 33 + 26, none⟩ = some r.cu.f ∧ w1.cell? ⟨g, k * 33 + 27, none⟩ = some (.bool r.s.cu.input) ∧ w1.cell? ⟨g, k * 33 + 28, none⟩ = some (.bool r.s.cu.all) ∧ w1.cell? ⟨g, k * 33 + 29, none⟩ = some r.cu.r ∧ w1.cell? ⟨g, k * 33 + 30, none⟩ = some (.bool r.s.cu.ordered) ∧ w1.cell? ⟨g, k * 33 + 31, none⟩ = some r.cu.o ∧ w1.cell? ⟨g, k * 33 + 32, none⟩ = some r.cu.p from by
          have y3 := fun i (hi : i < 33) => (T2.here.row.below hb).cell T2.here.lt hi
          exact ⟨y3 23 (by decide), y3 24 (by decide), y3 25 (by decide), y3 26 (by decide), y3 27 (by decide), y3 28 (by decide), y3 29 (by decide), y3 30 (by decide), y3 31 (by decide), y3 32 (by decide)⟩))
        have hfr := hide (fun (w1 : World) (hb : Below W2.heap.size W2 w1) (i : Nat) => (T2.here.row.below hb).free i)
        clear y2
        replace hx2 := hide hx2
        replace T2 := hide T2
        replace hS2 := hide hS2
        clear hW2 hrdS hrdC hfits hbx2 cY
        go_upto_region 10 with fail
        rw [← hx2.out]
        clear q0 q1 q2 q3 q4 q5 q6 q7 q8 q9 f0 f1 f2 f3 f4 f5 f6 f7 f8 f9 z0 z1 z2 z3 z4 z5 z6 z7 z8 z9 hx2
        go_region_law (first
          | (go_simp; go_at_call 112; refine (cA.out _ (below_drewN (Below.refl _ _) 1)).mono ?_; rintro e w4 ⟨E1, e1, E2, e2, E3, e3, E4, e4', E5, e5, rfl, o2, b2⟩; have hb2 := (below_drewN (Below.refl W2.heap.size W2) 1).trans b2; obtain ⟨u0, u1, u2, u3, u4, u5, u6, u7, u8, u9⟩ := hcw.out w4 hb2; have fr := hfr.out w4 hb2; have t0 := fr (k * 33 + 23); have t1 := fr (k * 33 + 24); have t2 := fr (k * 33 + 25); have t3 := fr (k * 33 + 26); have t4 := fr (k * 33 + 27); have t5 := fr (k * 33 + 28); have t6 := fr (k * 33 + 29); have t7 := fr (k * 33 + 30); have t8 := fr (k * 33 + 31); have t9 := fr (k * 33 + 32); replace o2 := hide o2; clear fr)
          | fail)
        all_goals
          have T3 := T2.out.cu hb2 (o2.out.inG (w := W2) (Nat.le_refl _))
          obtain ⟨W3, hW3⟩ : ∃ W3, W3 = putSt w4 g (k * 33 + 23) S2 ⟨.slice E1 S2.damage.length e1, .slice E2 S2.frames.length e2, .slice E3 S2.region.length e3, .slice E4 S2.order.length e4', .slice E5 S2.places.length e5⟩ := ⟨_, rfl⟩
          have hx3 := hW3
          unfold putSt at hx3
          dsimp only at hx3
          rw [← hx3]
          rw [← hW3] at T3
          have hr3 : ((((r.setPe St.zero StV.nil).setCa St.zero StV.nil).setCu S2 ⟨.slice E1 S2.damage.length e1, .slice E2 S2.frames.length e2, .slice E3 S2.region.length e3, .slice E4 S2.order.length e4', .slice E5 S2.places.length e5⟩)).s = appS (cacheS r.s) := by
            rw [hS2.out, hS.out]; rfl
          have hpre : CPre (setM (toF L) id (some (cacheS r.s))) [id] id :=
            ⟨hG'.out.cache hs'.out, (fun j t hj => (((hF'.out.set (id := id) ((hF'.out id _ hs'.out).cache)) j t hj).fits (Nat.le_refl _)).1), by simp, (fun y hy => ⟨cacheS r.s, by simp at hy; subst hy; exact setM_same _ _ _, .inl (by simpa using hy)⟩)⟩
          have hinv := (hpre.app (rk := rk) (setM_same _ _ _) (rk id) (Nat.le_refl _)).1
          rw [setM_setM] at hinv
          have cK := gKids_tail (s0 := r) (rk := rk) (Bk := Bk) n' T3 hl (by rw [hr3]; exact hinv) hs'.out rfl rfl hrk'.out (by have := hk'.out _ hs'.out; omega)
          rw [hr3] at cK
          replace cK := hide cK
          clear T3 hW3 hx3 hr3 hpre hinv o2 b2 hb2 u0 u1 u2 u3 u4 u5 u6 u7 u8 u9 t0 t1 t2 t3 t4 t5 t6 t7 t8 t9 x0 x1 x2 x3 x4 x5 x6 x7 x8 x9 c0 c1 c2 c3 c4 c5 c6 c7 c8 c9
          go_wp2_with (refine cK.out.mono ?_; rintro e w6 ⟨A, c6, rfl, rd6, out6⟩; replace rd6 := hide rd6; replace out6 := hide out6)
          go_ret2
          rw [e4.out]
          exact ⟨A, c6, rfl, rd6.out, out6.out⟩
end Go.Proofs.YthkjicnnepkghaaGreatDoor
