/-
  tableauref17: place, edge, Position.
  tableauref17: Put (above, below).
  tableauref17: Sub.
  tableauref17: out, of a state.
-/
import Derived.Test.YthkjicnnepkghaaGreatDoorPkL
import Derived.Test.YthkjicnnepkghaaGreatDoorPkM
import Derived.Deep.RegionLaw
import Derived.Test.YthkjicnnepkghaaGreatDoorPkForest4
import Derived.Test.YthkjicnnepkghaaGreatDoorPkE
import Derived.Test.YthkjicnnepkghaaGreatDoorPkRef15c
namespace Go.Proofs.YthkjicnnepkghaaGreatDoor
open Go.RowKit
set_option linter.unusedVariables false

theorem cell_at (w : World) (g o j : Nat) (v : Value) (h : w.cell? ⟨g, o + j, none⟩ = some v) : w.cell? ⟨g, o + j, none⟩ = some v := h
set_option maxRecDepth 100000 in
theorem gPlace_any {B0 : Nat} (w : World) (g c k : Nat) (L : List RSf) (r : RSf) (hk : k < L.length) (hr : RowAt B0 w g c L k r.enc) (hp : Rd w r.pe.p 3 r.s.pe.places.length (r.s.pe.places.flatMap Ch.enc)) (hl : r.s.pe.places.length ≤ 100000) (x : Ch) :
    Calls Tryz.prog 97 #[.pointer (some ⟨g, k * 33, none⟩), x.val] w fun e w' => e = .returned (.tuple #[]) ∧ ∃ w1 v, w' = w1.setCell ⟨g, k * 33 + 12, none⟩ v ∧ w1.ownsRow w.heap.size 62 3 v (putP r.s.pe.places x).length ((putP r.s.pe.places x).flatMap Ch.enc) ∧ Below w.heap.size w w1 := by
  have hglt : g < w.heap.size := own_lt17 hr.own rfl
  have k12 : ∀ w', Below w.heap.size w w' → w'.cell? ⟨g, k * 33 + 12, none⟩ = some r.pe.p := fun w' hb => (hr.below hb).cell hk (by decide)
  have f12 : ∀ w', Below w.heap.size w w' → w'.frozen? ⟨g, k * 33 + 12, none⟩ = false := fun w' hb => (hr.below hb).free _
  obtain ⟨A, cc, hv, _⟩ := hp.form
  rw [hv] at k12 hp
  obtain ⟨x0, x1, x2⟩ := x
  unfold Ch.val
  dsimp only
  generalize k * 33 = o at k12 f12 ⊢
  obtain ⟨wA, hwA⟩ : ∃ wA, wA = w.alloc (.cells #[.int .i64 x0, .int .i64 x1, .int .i64 x2] 62) := ⟨_, rfl⟩
  have hbA : Below w.heap.size w wA := by rw [hwA]; exact (Below.refl _ _).alloc (Nat.le_refl _) _
  have hbx : wA.heap[w.heap.size]? = some (.cells #[.int .i64 x0, .int .i64 x1, .int .i64 x2] 62 (0, 0)) := by rw [hwA]; exact heap_alloc_new _ _
  have cx0 : wA.cell? ⟨w.heap.size, 0, none⟩ = some (.int .i64 x0) := by rw [cell_of_row wA _ 0 _ _ _ hbx]; rfl
  have cx1 : wA.cell? ⟨w.heap.size, 1, none⟩ = some (.int .i64 x1) := by rw [cell_of_row wA _ 1 _ _ _ hbx]; rfl
  have cx2 : wA.cell? ⟨w.heap.size, 2, none⟩ = some (.int .i64 x2) := by rw [cell_of_row wA _ 2 _ _ _ hbx]; rfl
  have cP := hide (fun q => gPut_any (wA.drewN q) _ r.s.pe.places ⟨x0, x1, x2⟩ (hp.below (below_drewN hbA q) (Nat.le_refl _)) hl)
  have k12A := k12 wA hbA
  have f12A := f12 wA hbA
  unfold Ch.val at cP
  dsimp only at cP
  replace k12 := hide k12
  replace f12 := hide f12
  replace hwA := hide hwA
  generalize r.s.pe.places.length = n at cP k12 k12A hp hl ⊢
  clear hr hbx hv
  go_enter Tryz.func97, Tryz.ntmps97
  go_wp2
  rw [← hwA.out]
  go_region_law (first
    | (go_simp; go_at_call 131; refine (cP.out _).mono ?_; rintro e w1 ⟨v1, rfl, o1, b1⟩; have b2 : Below w.heap.size w w1 := (below_drewN hbA 1).trans (b1.mono hbA.size); have k12B := k12.out w1 b2; have f12B := f12.out w1 b2; obtain ⟨A1, c1, rfl, _⟩ := own_form o1)
    | fail)
  all_goals
    go_wp2
    go_end0
    exact ⟨rfl, _, _, rfl, own_le o1 hbA.size, b2⟩

theorem gEdge_any (w : World) (n : Int) : Calls Tryz.prog 103 #[.int .i64 n] w fun e w' => e = .returned (.int .i64 (cutF n)) ∧ w = w' := by
  go_enter Tryz.func103, Tryz.ntmps103
  go_wp2
  all_goals
    go_ret
    refine ⟨?_, rfl⟩
    first | exact ret_int (by unfold cutF; omega) | (simp only [cutF]; congr 2; omega)

theorem RSfOk.pl {w : World} {G : Nat → Prop} {r : RSf} (h : RSfOk w G r) : Rd w r.pe.p 3 r.s.pe.places.length (r.s.pe.places.flatMap Ch.enc) := h.pe.p
def RSf.placed (r : RSf) (c : Ch) (v : Value) : RSf := { r with s := placeT r.s c, pe := { r.pe with p := v } }
section
variable {B0 : Nat} {w w1 : World} {q : Nat} {G : Nat → Prop} {v : Value} {L : List RSf} {id : Int} {k g c : Nat} {r : RSf}
theorem RSfOk.placed (h : RSfOk w G r) (hb : Below w.heap.size w w1) (x : Ch) {u : Value} (ho : w1.ownsRow w.heap.size 62 3 u (putP r.s.pe.places x).length ((putP r.s.pe.places x).flatMap Ch.enc)) : RSfOk w1 (grownG w w1 G) (r.placed x u) := by
  have h1 := (h.keep hb.size fun b hb' hlt => hb.block b hlt).mono (G' := grownG w w1 G) fun b hb => .inl hb
  exact ⟨⟨h1.pe.d, h1.pe.f, h1.pe.r, h1.pe.o, Rd.of_own ho⟩, h1.ca, h1.cu, ⟨h1.peI.d, h1.peI.f, h1.peI.r, h1.peI.o, fun _ b hb' => .inr ⟨(ho.lt b hb').1, (ho.lt b hb').2⟩⟩, h1.caI, h1.cuI, h1.id64⟩
theorem RSfOk.setCell {a : Addr} (h : RSfOk w G r) (ha : ¬ G a.block) (u : Value) : RSfOk (w.setCell a u) G r :=
  h.keep (by simp [World.setCell]) fun b hb _ => heap_setCell_other w a b u fun e => ha (e ▸ hb)
theorem grownG_self {G : Nat → Prop} {w w' : World} (h : w'.heap.size ≤ w.heap.size) : ∀ b, grownG w w' G b → G b := fun b hb => by
  rcases hb with hb | hb
  · exact hb
  · omega
theorem RefF.turnOut {w' : World} {r' : RSf} (h : RefF B0 w q G v L) (hh : Here B0 w q G v L id k g c r) (b1 : Below w.heap.size w w1) (hc : Chg (fun b => b = g) w1 w') (hrow : RowAt B0 w' g c L k r'.enc) (hid : r'.id = r.id) (hok : RSfOk w1 (grownG w w1 G) r') :
    RFOut B0 w q G v (setM (toF L) id (some r'.s)) w' := by
  obtain rfl := hh.form
  have hg : ¬ G g := h.gv g rfl
  have hlt : g < w.heap.size := own_lt17 h.row rfl
  have h1 := h.putOut hh.lt ((Chg.of_below b1 _).trans hc (Ext.refl _ _)) hrow (by rw [hid, hh.at_]) ((hok.keep hc.size fun b hb hl => hc.block b hl fun e => by
    subst e
    rcases hb with hb | hb
    · exact hg hb
    · omega).mono fun b hb => hb.imp (fun h => h) fun h => ⟨h.1, Nat.lt_of_lt_of_le h.2 hc.size⟩)
  rw [hid, hh.id_] at h1
  exact h1
end

set_option maxRecDepth 100000 in
set_option maxHeartbeats 2000000 in
theorem gPosition_any {B0 : Nat} (w : World) {q : Nat} {G : Nat → Prop} {v : Value} {L : List RSf} (h : RefF B0 w q G v L) (hl : L.length ≤ 1000) (hG : GoodM (toF L)) (hlen : ∀ i t, toF L i = some t → t.pe.places.length ≤ 100000) (id x y : Int) :
    Calls Tryz.prog 48 #[.pointer (some ⟨q, 0, none⟩), .int .i64 id, .int .i64 x, .int .i64 y] w fun e w' => e = .returned (.int .i64 (childK (toF L) id)) ∧ RFOut B0 w q G v (fposS (toF L) id x y) w' := by
  cases hs : toF L id with
  | none =>
    have cS := hide (gS_no h hl hs)
    have e1 : childK (toF L) id = 5 := by unfold childK; rw [hs]
    have e2 : fposS (toF L) id x y = toF L := by unfold fposS; rw [hs]
    rw [e1, e2]
    replace h := hide h
    clear hG hlen e1 e2
    go_enter Tryz.func48, Tryz.ntmps48
    go_wp2_with fail
    refine (cS.out).mono ?_
    rintro e w' ⟨rfl, rfl⟩
    go_wp2
    go_ret
    exact ⟨rfl, h.out.stay⟩
  | some s =>
    obtain ⟨k, g, c, r, hh, rfl⟩ := h.here hs
    have cS := hide (gS_at h hl hh)
    have k1 : w.cell? ⟨g, k * 33 + 1, none⟩ = some (.int .i64 r.s.parent) := hh.row.cell hh.lt (by decide)
    by_cases hp : r.s.parent = 0
    · have e1 : childK (toF L) id = 10 := by unfold childK; rw [hs]; dsimp only; rw [if_pos hp]
      have e2 : fposS (toF L) id x y = toF L := by unfold fposS; rw [hs]; dsimp only; split <;> simp [hp]
      rw [e1, e2]
      rw [hp] at k1
      replace h := hide h
      clear hG hlen e1 e2 hh
      go_enter Tryz.func48, Tryz.ntmps48
      go_wp2_with fail
      refine (cS.out).mono ?_
      rintro e w' ⟨rfl, rfl⟩
      go_wp2
      go_ret
      exact ⟨rfl, h.out.stay⟩
    · have hpb : (r.s.parent == 0) = false := by simpa using hp
      obtain ⟨t2, ht2⟩ := hG.par _ _ hs hp
      obtain ⟨k2, g2, c2, r2, hh2, rfl⟩ := h.here ht2
      have cS2 := hide (gS_at h hl hh2)
      have cP := hide (gPlace_any w g2 c2 k2 L r2 hh2.lt hh2.row hh2.ok.pl (hlen _ _ ht2) ⟨id, cutF x, cutF y⟩)
      have cEx := hide (gEdge_any w x)
      have cEy := hide (gEdge_any w y)
      have e1 : childK (toF L) id = 0 := by unfold childK; rw [hs]; dsimp only; rw [if_neg hp]
      have e2 : fposS (toF L) id x y = setM (toF L) r.s.parent (some (placeT r2.s ⟨id, cutF x, cutF y⟩)) := by unfold fposS; rw [hs]; dsimp only; rw [ht2]; dsimp only; rw [if_neg hp]
      rw [e1, e2]
      have hout := hide (fun (w1 : World) (u : Value) (ho : w1.ownsRow w.heap.size 62 3 u (putP r2.s.pe.places ⟨id, cutF x, cutF y⟩).length ((putP r2.s.pe.places ⟨id, cutF x, cutF y⟩).flatMap Ch.enc)) (b1 : Below w.heap.size w w1) =>
        (show RFOut B0 w q G v (setM (toF L) r.s.parent (some (placeT r2.s ⟨id, cutF x, cutF y⟩))) (w1.setCell ⟨g2, k2 * 33 + 12, none⟩ u) from h.turnOut (r' := r2.placed ⟨id, cutF x, cutF y⟩ u) hh2 b1 (Chg.setCell (F := fun b => b = g2) w1 (a := ⟨g2, k2 * 33 + 12, none⟩) rfl u) ((hh2.row.below b1).set hh2.lt (show 12 < 33 by decide) u) rfl (hh2.ok.placed b1 _ ho)))
      unfold Ch.val at cP
      dsimp only at cP
      generalize r.s.parent = pp at *
      generalize cutF x = cx at *
      generalize cutF y = cy at *
      replace hout := hout
      clear hG hlen e1 e2 hh hh2 hs ht2 hp h
      go_enter Tryz.func48, Tryz.ntmps48
      go_wp2_with fail
      refine (cS.out).mono ?_
      rintro e w' ⟨rfl, rfl⟩
      go_wp2_with fail
      refine (cS2.out).mono ?_
      rintro e w' ⟨rfl, rfl⟩
      go_wp2_with fail
      refine (cEx.out).mono ?_
      rintro e w' ⟨rfl, rfl⟩
      go_wp2_with fail
      refine (cEy.out).mono ?_
      rintro e w' ⟨rfl, rfl⟩
      go_wp2_with fail
      refine (cP.out).mono ?_
      rintro e w' ⟨rfl, w1, u, rfl, ho, b1⟩
      go_wp2
      go_ret
      exact ⟨rfl, hout.out w1 u ho b1⟩
end Go.Proofs.YthkjicnnepkghaaGreatDoor
namespace Go.Proofs.YthkjicnnepkghaaGreatDoor
open Go.RowKit
set_option linter.unusedVariables false

def RSf.ordered (r : RSf) (l : List Int) (v : Value) : RSf := { r with s := orderT r.s l, pe := { r.pe with o := v } }
theorem RSfOk.ordered {w w1 : World} {G : Nat → Prop} {r : RSf} (h : RSfOk w G r) (hb : Below w.heap.size w w1) (l : List Int) {u : Value} (ho : w1.ownsRow w.heap.size 3 1 u l.length (l.map (Value.int .i64))) : RSfOk w1 (grownG w w1 G) (r.ordered l u) := by
  have h1 := (h.keep hb.size fun b hb' hlt => hb.block b hlt).mono (G' := grownG w w1 G) fun b hb => .inl hb
  exact ⟨⟨h1.pe.d, h1.pe.f, h1.pe.r, Rd.of_own ho, h1.pe.p⟩, h1.ca, h1.cu, ⟨h1.peI.d, h1.peI.f, h1.peI.r, fun _ b hb' => .inr ⟨(ho.lt b hb').1, (ho.lt b hb').2⟩, h1.peI.p⟩, h1.caI, h1.cuI, h1.id64⟩

set_option maxRecDepth 100000 in
set_option maxHeartbeats 4000000 in
theorem gPut17_any {B0 : Nat} (w : World) {q : Nat} {G : Nat → Prop} {v : Value} {L : List RSf} (h : RefF B0 w q G v L) (hl : L.length ≤ 1000) (hG : GoodM (toF L)) (hlen : ∀ i t, toF L i = some t → t.latest.length ≤ 1000000) (id by' : Int) (kk : Nat) (hkk : kk ≤ 1) :
    Calls Tryz.prog 49 #[.pointer (some ⟨q, 0, none⟩), .int .i64 id, .int .i64 by', .int .i64 kk] w fun e w' => e = .returned (.int .i64 (besK (toF L) id by')) ∧ RFOut B0 w q G v (besS (toF L) id by' kk) w' := by
  cases hs : toF L id with
  | none =>
    have cS := hide (gS_no h hl hs)
    have e1 : besK (toF L) id by' = 5 := by unfold besK; rw [hs]
    have e2 : besS (toF L) id by' kk = toF L := by unfold besS; rw [if_neg (by rw [e1]; decide)]
    rw [e1, e2]
    replace h := hide h
    clear hG hlen e1 e2
    go_enter Tryz.func49, Tryz.ntmps49
    go_wp2_with fail
    refine (cS.out).mono ?_
    rintro e w' ⟨rfl, rfl⟩
    go_wp2
    go_ret
    exact ⟨rfl, h.out.stay⟩
  | some s =>
    obtain ⟨k, g, c, r, hh, rfl⟩ := h.here hs
    have cS := hide (gS_at h hl hh)
    have k1 : w.cell? ⟨g, k * 33 + 1, none⟩ = some (.int .i64 r.s.parent) := hh.row.cell hh.lt (by decide)
    by_cases hp : r.s.parent = 0
    · have e1 : besK (toF L) id by' = 10 := by unfold besK; rw [hs]; dsimp only; rw [if_pos hp]
      have e2 : besS (toF L) id by' kk = toF L := by unfold besS; rw [if_neg (by rw [e1]; decide)]
      rw [e1, e2]
      rw [hp] at k1
      replace h := hide h
      clear hG hlen e1 e2 hh
      go_enter Tryz.func49, Tryz.ntmps49
      go_wp2_with fail
      refine (cS.out).mono ?_
      rintro e w' ⟨rfl, rfl⟩
      go_wp2
      go_ret
      exact ⟨rfl, h.out.stay⟩
    · have hpb : (r.s.parent == 0) = false := by simpa using hp
      obtain ⟨t2, ht2⟩ := hG.par _ _ hs hp
      obtain ⟨k2, g2, c2, r2, hh2, rfl⟩ := h.here ht2
      have cS2 := hide (gS_at h hl hh2)
      have cL := gLatest_any w g2 c2 k2 L r2 hh2.lt hh2.row
      have hlat := hh2.ok.lat
      obtain ⟨Al, cl, hlv, _⟩ := hlat.1.form
      rw [hlv] at cL hlat
      replace cL := hide cL
      clear hlv
      generalize hnk : besK (toF L) id by' = nk
      generalize hMM : besS (toF L) id by' kk = MM
      by_cases hbp : by' = r.s.parent
      · have hb0 : by' ≠ 0 := by rw [hbp]; exact hp
        have hbk : byK r.s by' = 0 := by unfold byK; rw [if_pos hbp]
        have hbb : (by' == r.s.parent) = true := by simpa using hbp
        go_enter Tryz.func49, Tryz.ntmps49
        go_wp2_with fail
        refine (cS.out).mono ?_
        rintro e w' ⟨rfl, rfl⟩
        go_wp2_with fail
        refine (cS2.out).mono ?_
        rintro e w' ⟨rfl, rfl⟩
        by_cases hb : id ∈ r2.s.latest ∧ (0 : Int) ∈ r2.s.latest ∧ id ≠ (0 : Int)
        · have e1 : besK (toF L) id by' = 0 := by unfold besK; rw [hs]; dsimp only; rw [if_neg hp, if_neg hb0, ht2]; dsimp only; rw [hbk, if_pos hb]
          have e2 : besS (toF L) id by' kk = setM (toF L) r.s.parent (some (orderT r2.s (putL r2.s.latest id ((0 : Int)) kk))) := by unfold besS; rw [if_pos e1, hs]; dsimp only; rw [ht2]; dsimp only; rw [hbk]
          replace hnk := hide (hnk.symm.trans e1)
          replace hMM := hide (hMM.symm.trans e2)
          have cU := hide (rPut_ok w _ r2.s.latest id ((0 : Int)) kk hlat.1 (hlen _ _ ht2) hb.1 hb.2.1 hb.2.2 hkk)
          have cO := hide (fun (w1 : World) (A : Option Addr) (l cc : Nat) (b1 : Below w.heap.size w w1) => gOrder_any w1 g2 c2 k2 L r2.enc hh2.lt (hh2.row.below b1) A l cc)
          obtain ⟨LL, hLL⟩ : ∃ LL, LL = putL r2.s.latest id ((0 : Int)) kk := ⟨_, rfl⟩
          rw [← hLL] at cU
          rw [← hLL] at hMM
          have hout := hide (fun (w1 : World) (A : Option Addr) (cc : Nat) (ho : w1.ownsRow w.heap.size 3 1 (.slice A LL.length cc) LL.length (LL.map (Value.int .i64))) (b1 : Below w.heap.size w w1) =>
            (show RFOut B0 w q G v (setM (toF L) r.s.parent (some (orderT r2.s LL))) (putOrd w1 g2 (k2 * 33) (.slice A LL.length cc)) from
              h.turnOut (r' := r2.ordered LL (.slice A LL.length cc)) hh2 b1 ((Chg.setCell (F := fun b => b = g2) w1 (a := ⟨g2, k2 * 33 + 10, none⟩) rfl _).trans (Chg.setCell (F := fun b => b = g2) _ (a := ⟨g2, k2 * 33 + 11, none⟩) rfl _) (Ext.refl _ _)) (((hh2.row.below b1).set hh2.lt (show 10 < 33 by decide) _).set hh2.lt (show 11 < 33 by decide) _) rfl (hh2.ok.ordered b1 _ ho)))
          clear hG hlen e1 e2 hh hh2 hs ht2 hp h hlat hbk hLL hb hb0
          go_wp2_with fail
          refine (cL.out).mono ?_
          rintro e w' ⟨rfl, rfl⟩
          go_wp2_with fail
          refine (cU.out).mono ?_
          rintro e w1 ⟨v1, rfl, o1, b1⟩
          obtain ⟨A1, cc1, rfl, _⟩ := own_form o1
          have cO1 := hide (cO.out w1 A1 LL.length cc1 b1)
          replace o1 := hide o1
          replace b1 := hide b1
          go_wp2_with fail
          refine (cO1.out).mono ?_
          rintro e w' ⟨rfl, rfl⟩
          go_wp2
          go_ret
          exact ⟨by rw [hnk.out]; rfl, by rw [hMM.out]; exact hout.out w1 A1 cc1 o1.out b1.out⟩
        · have e1 : besK (toF L) id by' = 11 := by unfold besK; rw [hs]; dsimp only; rw [if_neg hp, if_neg hb0, ht2]; dsimp only; rw [hbk, if_neg hb]
          have e2 : besS (toF L) id by' kk = toF L := by unfold besS; rw [if_neg (by rw [e1]; decide)]
          replace hnk := hide (hnk.symm.trans e1)
          replace hMM := hide (hMM.symm.trans e2)
          have cU := hide (rPut_bad w _ r2.s.latest id ((0 : Int)) kk hlat.1 (hlen _ _ ht2) (by
            by_cases h1 : id ∈ r2.s.latest
            · by_cases h2 : (0 : Int) ∈ r2.s.latest
              · exact .inr (.inr (Classical.byContradiction fun h3 => hb ⟨h1, h2, h3⟩))
              · exact .inr (.inl h2)
            · exact .inl h1))
          replace h := hide h
          clear hG hlen e1 e2 hh hh2 hs ht2 hp hlat hbk hb hb0
          go_wp2_with fail
          refine (cL.out).mono ?_
          rintro e w' ⟨rfl, rfl⟩
          go_wp2_with fail
          refine (cU.out).mono ?_
          rintro e w1 ⟨rfl, rfl⟩
          go_wp2
          go_ret
          exact ⟨by rw [hnk.out]; rfl, by rw [hMM.out]; exact h.out.stay⟩
      · have hbb : (by' == r.s.parent) = false := by simpa using hbp
        have hbk : byK r.s by' = by' := by unfold byK; rw [if_neg hbp]
        by_cases hb0 : by' = 0
        · have e1 : besK (toF L) id by' = 11 := by unfold besK; rw [hs]; dsimp only; rw [if_neg hp, if_pos hb0]
          have e2 : besS (toF L) id by' kk = toF L := by unfold besS; rw [if_neg (by rw [e1]; decide)]
          rw [← hnk, ← hMM, e1, e2]
          have hz : (by' == 0) = true := by simpa using hb0
          replace h := hide h
          clear hG hlen e1 e2 hh hh2 hs ht2 hlat hbk
          go_enter Tryz.func49, Tryz.ntmps49
          go_wp2_with fail
          refine (cS.out).mono ?_
          rintro e w' ⟨rfl, rfl⟩
          go_wp2_with fail
          refine (cS2.out).mono ?_
          rintro e w' ⟨rfl, rfl⟩
          go_wp2
          go_ret
          exact ⟨rfl, h.out.stay⟩
        · have hz : (by' == 0) = false := by simpa using hb0
          by_cases hbi : by' = id
          · have e1 : besK (toF L) id by' = 11 := by unfold besK; rw [hs]; dsimp only; rw [if_neg hp, if_neg hb0, ht2]; dsimp only; rw [hbk, if_neg (fun h => h.2.2 hbi.symm)]
            have e2 : besS (toF L) id by' kk = toF L := by unfold besS; rw [if_neg (by rw [e1]; decide)]
            rw [← hnk, ← hMM, e1, e2]
            have hi : (by' == id) = true := by simpa using hbi
            replace h := hide h
            clear hG hlen e1 e2 hh hh2 hs ht2 hlat hbk
            go_enter Tryz.func49, Tryz.ntmps49
            go_wp2_with fail
            refine (cS.out).mono ?_
            rintro e w' ⟨rfl, rfl⟩
            go_wp2_with fail
            refine (cS2.out).mono ?_
            rintro e w' ⟨rfl, rfl⟩
            go_wp2
            go_ret
            exact ⟨rfl, h.out.stay⟩
          · have hi : (by' == id) = false := by simpa using hbi
            have cH := rHas_any w _ r2.s.latest by' hlat.1 (hlen _ _ ht2)
            by_cases hm : by' ∈ r2.s.latest
            · rw [decide_eq_true hm] at cH
              replace cH := hide cH
              go_enter Tryz.func49, Tryz.ntmps49
              go_wp2_with fail
              refine (cS.out).mono ?_
              rintro e w' ⟨rfl, rfl⟩
              go_wp2_with fail
              refine (cS2.out).mono ?_
              rintro e w' ⟨rfl, rfl⟩
              go_wp2_with fail
              refine (cL.out).mono ?_
              rintro e w' ⟨rfl, rfl⟩
              go_wp2_with fail
              refine (cH.out).mono ?_
              rintro e w' ⟨rfl, rfl⟩
              by_cases hb : id ∈ r2.s.latest ∧ by' ∈ r2.s.latest ∧ id ≠ by'
              · have e1 : besK (toF L) id by' = 0 := by unfold besK; rw [hs]; dsimp only; rw [if_neg hp, if_neg hb0, ht2]; dsimp only; rw [hbk, if_pos hb]
                have e2 : besS (toF L) id by' kk = setM (toF L) r.s.parent (some (orderT r2.s (putL r2.s.latest id (by') kk))) := by unfold besS; rw [if_pos e1, hs]; dsimp only; rw [ht2]; dsimp only; rw [hbk]
                replace hnk := hide (hnk.symm.trans e1)
                replace hMM := hide (hMM.symm.trans e2)
                have cU := hide (rPut_ok w _ r2.s.latest id (by') kk hlat.1 (hlen _ _ ht2) hb.1 hb.2.1 hb.2.2 hkk)
                have cO := hide (fun (w1 : World) (A : Option Addr) (l cc : Nat) (b1 : Below w.heap.size w w1) => gOrder_any w1 g2 c2 k2 L r2.enc hh2.lt (hh2.row.below b1) A l cc)
                obtain ⟨LL, hLL⟩ : ∃ LL, LL = putL r2.s.latest id (by') kk := ⟨_, rfl⟩
                rw [← hLL] at cU
                rw [← hLL] at hMM
                have hout := hide (fun (w1 : World) (A : Option Addr) (cc : Nat) (ho : w1.ownsRow w.heap.size 3 1 (.slice A LL.length cc) LL.length (LL.map (Value.int .i64))) (b1 : Below w.heap.size w w1) =>
                  (show RFOut B0 w q G v (setM (toF L) r.s.parent (some (orderT r2.s LL))) (putOrd w1 g2 (k2 * 33) (.slice A LL.length cc)) from
                    h.turnOut (r' := r2.ordered LL (.slice A LL.length cc)) hh2 b1 ((Chg.setCell (F := fun b => b = g2) w1 (a := ⟨g2, k2 * 33 + 10, none⟩) rfl _).trans (Chg.setCell (F := fun b => b = g2) _ (a := ⟨g2, k2 * 33 + 11, none⟩) rfl _) (Ext.refl _ _)) (((hh2.row.below b1).set hh2.lt (show 10 < 33 by decide) _).set hh2.lt (show 11 < 33 by decide) _) rfl (hh2.ok.ordered b1 _ ho)))
                clear hG hlen e1 e2 hh hh2 hs ht2 hp h hlat hbk hLL hb hb0
                go_wp2_with fail
                refine (cL.out).mono ?_
                rintro e w' ⟨rfl, rfl⟩
                go_wp2_with fail
                refine (cU.out).mono ?_
                rintro e w1 ⟨v1, rfl, o1, b1⟩
                obtain ⟨A1, cc1, rfl, _⟩ := own_form o1
                have cO1 := hide (cO.out w1 A1 LL.length cc1 b1)
                replace o1 := hide o1
                replace b1 := hide b1
                go_wp2_with fail
                refine (cO1.out).mono ?_
                rintro e w' ⟨rfl, rfl⟩
                go_wp2
                go_ret
                exact ⟨by rw [hnk.out]; rfl, by rw [hMM.out]; exact hout.out w1 A1 cc1 o1.out b1.out⟩
              · have e1 : besK (toF L) id by' = 11 := by unfold besK; rw [hs]; dsimp only; rw [if_neg hp, if_neg hb0, ht2]; dsimp only; rw [hbk, if_neg hb]
                have e2 : besS (toF L) id by' kk = toF L := by unfold besS; rw [if_neg (by rw [e1]; decide)]
                replace hnk := hide (hnk.symm.trans e1)
                replace hMM := hide (hMM.symm.trans e2)
                have cU := hide (rPut_bad w _ r2.s.latest id (by') kk hlat.1 (hlen _ _ ht2) (by
                  by_cases h1 : id ∈ r2.s.latest
                  · by_cases h2 : by' ∈ r2.s.latest
                    · exact .inr (.inr (Classical.byContradiction fun h3 => hb ⟨h1, h2, h3⟩))
                    · exact .inr (.inl h2)
                  · exact .inl h1))
                replace h := hide h
                clear hG hlen e1 e2 hh hh2 hs ht2 hp hlat hbk hb hb0
                go_wp2_with fail
                refine (cL.out).mono ?_
                rintro e w' ⟨rfl, rfl⟩
                go_wp2_with fail
                refine (cU.out).mono ?_
                rintro e w1 ⟨rfl, rfl⟩
                go_wp2
                go_ret
                exact ⟨by rw [hnk.out]; rfl, by rw [hMM.out]; exact h.out.stay⟩
            · rw [decide_eq_false hm] at cH
              replace cH := hide cH
              have e1 : besK (toF L) id by' = 11 := by unfold besK; rw [hs]; dsimp only; rw [if_neg hp, if_neg hb0, ht2]; dsimp only; rw [hbk, if_neg (fun h => hm h.2.1)]
              have e2 : besS (toF L) id by' kk = toF L := by unfold besS; rw [if_neg (by rw [e1]; decide)]
              rw [← hnk, ← hMM, e1, e2]
              replace h := hide h
              clear hG hlen e1 e2 hh hh2 hs ht2 hlat hbk
              go_enter Tryz.func49, Tryz.ntmps49
              go_wp2_with fail
              refine (cS.out).mono ?_
              rintro e w' ⟨rfl, rfl⟩
              go_wp2_with fail
              refine (cS2.out).mono ?_
              rintro e w' ⟨rfl, rfl⟩
              go_wp2_with fail
              refine (cL.out).mono ?_
              rintro e w' ⟨rfl, rfl⟩
              go_wp2_with fail
              refine (cH.out).mono ?_
              rintro e w' ⟨rfl, rfl⟩
              go_wp2
              go_ret
              exact ⟨rfl, h.out.stay⟩
end Go.Proofs.YthkjicnnepkghaaGreatDoor
namespace Go.Proofs.YthkjicnnepkghaaGreatDoor
open Go.RowKit
set_option linter.unusedVariables false

section
variable {B0 : Nat} {w w1 w2 : World} {q : Nat} {G : Nat → Prop} {v : Value} {L : List RSf} {id : Int} {k g c : Nat} {r : RSf}
theorem RefF.turnOut2 {w' : World} {r' : RSf} (h : RefF B0 w q G v L) (hh : Here B0 w q G v L id k g c r) (hc : Chg (fun b => b = g) w w') (hrow : RowAt B0 w' g c L k r'.enc) (hid : r'.id = r.id) (hok : RSfOk w' (grownG w w' G) r') :
    RFOut B0 w q G v (setM (toF L) id (some r'.s)) w' := by
  obtain rfl := hh.form
  have h1 := h.putOut hh.lt hc hrow (by rw [hid, hh.at_]) hok
  rw [hid, hh.id_] at h1
  exact h1
theorem RefF.hereK (h : RefF B0 w q G (.slice (some ⟨g, 0, none⟩) L.length c) L) (hk : k < L.length) : Here B0 w q G (.slice (some ⟨g, 0, none⟩) L.length c) L (L.getD k default).id k g c (L.getD k default) := by
  obtain ⟨g', c', hv, hr⟩ := h.at hk
  simp only [Value.slice.injEq, Option.some.injEq, Addr.mk.injEq, and_true, true_and] at hv
  obtain ⟨rfl, rfl⟩ := hv
  exact ⟨hk, rfl, hr, rfl, rfl, toF_some h.ids hk, h.ok _ (getD_mem17 hk)⟩
theorem RFOut.next {M2 : Fo} {G1 : Nat → Prop} {v1 : Value} (hc : Chg (writR q v) w w1) (he : Ext (fullR q G v) (fullR q G1 v1) w.heap.size) (hv : ∀ b, v1.ownBlock = some b → v.ownBlock = some b ∨ w.heap.size ≤ b) (h2 : RFOut B0 w1 q G1 v1 M2 w2) : RFOut B0 w q G v M2 w2 := by
  obtain ⟨G', v', L', k1, k2, k3, k4⟩ := h2
  refine ⟨G', v', L', k1, k2, hc.trans k3 fun b hb => ?_, he.trans k4 hc.size⟩
  rcases hb with hb | hb
  · exact .inl (.inl hb)
  · exact (hv b hb).imp .inr (fun h => h)
theorem RSfOk.setG {a : Addr} (h : RSfOk w G r) (ha : ¬ G a.block) (u : Value) : RSfOk (w.setCell a u) G r := h.setCell ha u
theorem Here.ng (hh : Here B0 w q G v L id k g c r) (h : RefF B0 w q G v L) : ¬ G g ∧ g < w.heap.size := by
  obtain rfl := hh.form
  exact ⟨h.gv g rfl, own_lt17 h.row rfl⟩
theorem size_setCell (w : World) (a : Addr) (u : Value) : (w.setCell a u).heap.size = w.heap.size := by simp [World.setCell]
theorem Here.ordAt (hh : Here B0 w q G v L id k g c r) (h : RefF B0 w q G v L) (b1 : Below w.heap.size w w1) {l : List Int} {u : Value} (ho : w1.ownsRow w.heap.size 3 1 u l.length (l.map (Value.int .i64))) :
    RowAt B0 (putOrd w1 g (k * 33) u) g c L k (r.ordered l u).enc ∧ RSfOk (putOrd w1 g (k * 33) u) (grownG w w1 G) (r.ordered l u) ∧ Chg (fun b => b = g) w1 (putOrd w1 g (k * 33) u) ∧ (putOrd w1 g (k * 33) u).heap.size = w1.heap.size := by
  have hg := hh.ng h
  have hng : ¬ grownG w w1 G g := fun hb => by
    rcases hb with hb | hb
    · exact hg.1 hb
    · omega
  exact ⟨((hh.row.below b1).set hh.lt (show 10 < 33 by decide) _).set hh.lt (show 11 < 33 by decide) _, ((hh.ok.ordered b1 l ho).setCell (a := ⟨g, k * 33 + 10, none⟩) hng _).setCell (a := ⟨g, k * 33 + 11, none⟩) hng _,
    (Chg.setCell (F := fun b => b = g) w1 (a := ⟨g, k * 33 + 10, none⟩) rfl _).trans (Chg.setCell (F := fun b => b = g) _ (a := ⟨g, k * 33 + 11, none⟩) rfl _) (Ext.refl _ _), (size_setCell _ _ _).trans (size_setCell _ _ _)⟩
theorem Here.subTail (hh : Here B0 w q G v L id k g c r) (h : RefF B0 w q G v L) (b1 : Below w.heap.size w w1) {l : List Int} {u : Value} (ho : w1.ownsRow w.heap.size 3 1 u l.length (l.map (Value.int .i64)))
    {w4 : World} {x : Ch} {u4 : Value} (b4 : Below (putOrd w1 g (k * 33) u).heap.size (putOrd w1 g (k * 33) u) w4) (o4 : w4.ownsRow (putOrd w1 g (k * 33) u).heap.size 62 3 u4 (putP r.s.pe.places x).length ((putP r.s.pe.places x).flatMap Ch.enc)) :
    RFOut B0 w q G v (setM (toF L) id (some (placeT (orderT r.s l) x))) (w4.setCell ⟨g, k * 33 + 12, none⟩ u4) := by
  obtain ⟨k1, k2, k3, k4⟩ := hh.ordAt h b1 ho
  have hg := hh.ng h
  have hz1 := b1.size
  have hz4 := b4.size
  have hng : ¬ grownG (putOrd w1 g (k * 33) u) w4 (grownG w w1 G) g := fun hb => by
    rcases hb with hb | hb
    · rcases hb with hb | hb
      · exact hg.1 hb
      · omega
    · omega
  refine h.turnOut2 (r' := (r.ordered l u).placed x u4) hh ?_ ((k1.below b4).set hh.lt (show 12 < 33 by decide) u4) rfl ?_
  · exact (((Chg.of_below b1 _).trans k3 (Ext.refl _ _)).trans (Chg.of_below b4 _) (Ext.refl _ _)).trans (Chg.setCell (F := fun b => b = g) _ (a := ⟨g, k * 33 + 12, none⟩) rfl _) (Ext.refl _ _)
  · refine ((k2.placed b4 x o4).setCell (a := ⟨g, k * 33 + 12, none⟩) hng u4).mono fun b hb => ?_
    rcases hb with hb | hb
    · rcases hb with hb | hb
      · exact .inl hb
      · exact .inr ⟨hb.1, by rw [size_setCell]; omega⟩
    · exact .inr ⟨by omega, by rw [size_setCell]; exact hb.2⟩
def RSf.subd (r : RSf) (parent : Int) : RSf := { r with s := { r.s with parent := parent, sync := true } }
end

set_option maxRecDepth 100000 in
set_option maxHeartbeats 4000000 in
theorem gSub_any {B0 : Nat} (w : World) {q : Nat} {G : Nat → Prop} {v : Value} {L : List RSf} (h : RefF B0 w q G v L) (hl : L.length ≤ 1000) (hG : GoodM (toF L)) (hlen : ∀ i t, toF L i = some t → t.latest.length ≤ 100000 ∧ t.pe.places.length ≤ 99999) (id parent : Int) :
    Calls Tryz.prog 43 #[.pointer (some ⟨q, 0, none⟩), .int .i64 id, .int .i64 parent] w fun e w' => e = .returned (.int .i64 (fsubK (toF L) id parent)) ∧ RFOut B0 w q G v (fsubS (toF L) id parent) w' := by
  cases hs : toF L id with
  | none =>
    have cS := hide (gS_no h hl hs)
    have cS2 := hide (gS_any w q G v L parent h hl)
    have e1 : fsubK (toF L) id parent = 5 := by unfold fsubK; rw [hs]
    have e2 : fsubS (toF L) id parent = toF L := by unfold fsubS; rw [if_neg (by rw [e1]; decide)]
    rw [e1, e2]
    replace h := hide h
    clear hG hlen e1 e2
    go_enter Tryz.func43, Tryz.ntmps43
    go_wp2_with fail
    refine (cS.out).mono ?_
    rintro e w' ⟨rfl, rfl⟩
    go_wp2_with fail
    refine (cS2.out).mono ?_
    rintro e w' ⟨u, rfl, _, rfl⟩
    go_wp2
    go_ret
    exact ⟨rfl, h.out.stay⟩
  | some s =>
    obtain ⟨k, g, c, r, hh, rfl⟩ := h.here hs
    have cS := hide (gS_at h hl hh)
    have k1 : w.cell? ⟨g, k * 33 + 1, none⟩ = some (.int .i64 r.s.parent) := hh.row.cell hh.lt (by decide)
    have k2 : w.cell? ⟨g, k * 33 + 2, none⟩ = some (.bool r.s.sync) := hh.row.cell hh.lt (by decide)
    have fr1 := hh.row.free (k * 33 + 1)
    have fr2 := hh.row.free (k * 33 + 2)
    cases hs2 : toF L parent with
    | none =>
      have cS2 := hide (gS_no h hl hs2)
      have e1 : fsubK (toF L) id parent = 5 := by unfold fsubK; rw [hs, hs2]
      have e2 : fsubS (toF L) id parent = toF L := by unfold fsubS; rw [if_neg (by rw [e1]; decide)]
      rw [e1, e2]
      replace h := hide h
      clear hG hlen e1 e2 hh
      go_enter Tryz.func43, Tryz.ntmps43
      go_wp2_with fail
      refine (cS.out).mono ?_
      rintro e w' ⟨rfl, rfl⟩
      go_wp2_with fail
      refine (cS2.out).mono ?_
      rintro e w' ⟨rfl, rfl⟩
      go_wp2
      go_ret
      exact ⟨rfl, h.out.stay⟩
    | some s2 =>
      obtain ⟨kp, gp, cp, rp, hhp, rfl⟩ := h.here hs2
      have cS2 := hide (gS_at h hl hhp)
      by_cases hp : r.s.parent = 0
      · rw [hp] at k1
        obtain ⟨rk, Bk, hr⟩ := hG.rank
        have hpos : ∀ {x : Int} {t : Sf}, toF L x = some t → 0 < x := fun {x t} hx => by have := (hG.pos x t hx).1; omega
        have h0 : toF L 0 = none := by
          cases e : toF L 0 with
          | none => rfl
          | some t => have := hpos e; omega
        generalize hnk : fsubK (toF L) id parent = nk
        generalize hMM : fsubS (toF L) id parent = MM
        have hnx := hide (fun (y : Int) (ky gy cy : Nat) (ry : RSf) (hy : Here B0 w q G v L y ky gy cy ry) (hne : y ≠ id) (hu : Up (toF L) id parent ↔ Up (toF L) id y) =>
          (show (toF L ry.s.parent = none ∧ ¬ Up (toF L) id parent) ∨ ∃ k' g' c' r', Here B0 w q G v L ry.s.parent k' g' c' r' ∧ rk ry.s.parent < rk y ∧ (Up (toF L) id parent ↔ Up (toF L) id ry.s.parent) from by
            have hy0 := hpos hy.s
            have hpm : parM (toF L) y = ry.s.parent := parM_some hy.s
            have hu2 : Up (toF L) id y ↔ Up (toF L) id ry.s.parent := by
              rw [← hpm]
              exact ⟨fun h => h.parent hne, fun h => .up hy0 h⟩
            by_cases hz : ry.s.parent = 0
            · left
              rw [hz]
              refine ⟨h0, fun hup => ?_⟩
              have := (hu2.1 (hu.1 hup)).pos
              omega
            · right
              obtain ⟨t, ht⟩ := hG.par _ _ hy.s hz
              obtain ⟨k', g', c', r', h1, _⟩ := h.here ht
              exact ⟨k', g', c', r', h1, (hr _ _ hy.s).2 hz, hu.trans hu2⟩))
        have cSn := hide (fun x hx => gS_no (id := x) h hl hx)
        have cSa := hide (fun x k' g' c' r' (hx : Here B0 w q G v L x k' g' c' r') => gS_at h hl hx)
        have hup := hide (fun (x : Int) (hu : Up (toF L) id parent ↔ Up (toF L) id x) (hx : x = id) (hy0 : 0 < x) => (hu.2 (by rw [hx] at hy0 ⊢; exact .here hy0) : Up (toF L) id parent))
        have hk11 := hide (fun (hu : Up (toF L) id parent) => (⟨by rw [← hnk]; unfold fsubK; rw [hs, hs2]; dsimp only; rw [if_neg (by simp [hp]), if_pos hu], by
          have e1 : fsubK (toF L) id parent = 11 := by unfold fsubK; rw [hs, hs2]; dsimp only; rw [if_neg (by simp [hp]), if_pos hu]
          rw [← hMM]; unfold fsubS; rw [if_neg (by rw [e1]; decide)]⟩ : nk = 11 ∧ MM = toF L))
        have hk0 := hide (fun (hu : ¬ Up (toF L) id parent) => (⟨by rw [← hnk]; unfold fsubK; rw [hs, hs2]; dsimp only; rw [if_neg (by simp [hp]), if_neg hu], by
          have e1 : fsubK (toF L) id parent = 0 := by unfold fsubK; rw [hs, hs2]; dsimp only; rw [if_neg (by simp [hp]), if_neg hu]
          rw [← hMM]; unfold fsubS; rw [if_pos e1]; unfold subbed; rw [hs, hs2]⟩ : nk = 0 ∧ MM = setM (setM (toF L) id (some { r.s with parent := parent, sync := true })) parent (some (placeT (orderT rp.s (without rp.s.latest id ++ [id])) ⟨id, 0, 0⟩))))
        have hnu := hide (fun (hu : ¬ Up (toF L) id parent) (e : parent = id) => hu (by rw [e]; exact .here (hpos hs)))
        have hid0 := hide (fun (x : Int) (k' g' c' : Nat) (r' : RSf) (hx : Here B0 w q G v L x k' g' c' r') => (⟨by have := hx.row.cell hx.lt (show 0 < 33 by decide); rw [show r'.enc[0]? = some (.int .i64 r'.id) from rfl, hx.id_] at this; exact this, hx.row.cell hx.lt (show 1 < 33 by decide), hpos hx.s⟩ : w.cell? ⟨g', k' * 33, none⟩ = some (.int .i64 x) ∧ w.cell? ⟨g', k' * 33 + 1, none⟩ = some (.int .i64 r'.s.parent) ∧ 0 < x))
        have hle := hide (hlen _ _ hs2)
        have h' := hide h
        have hh' := hide hh
        have hhp' := hide hhp
        have hs' := hide hs
        have hs2' := hide hs2
        clear hr hG hlen hnk hMM h0 hp hs hs2
        go_enter Tryz.func43, Tryz.ntmps43
        go_wp2_with fail
        refine (cS.out).mono ?_
        rintro e w' ⟨rfl, rfl⟩
        go_wp2_with fail
        refine (cS2.out).mono ?_
        rintro e w' ⟨rfl, rfl⟩
        go_wp2
        go_loopg [9] (rk parent + 1) (fun m u wr => w = wr ∧ ((u = .pointer none ∧ m = 0 ∧ Hid (¬ Up (toF L) id parent)) ∨ ∃ y ky gy cy ry, u = .pointer (some ⟨gy, ky * 33, none⟩) ∧ m = rk y + 1 ∧ Hid (Here B0 w q G v L y ky gy cy ry) ∧ Hid (Up (toF L) id parent ↔ Up (toF L) id y)))
        case atStart => exact ⟨rfl, .inr ⟨parent, kp, gp, cp, rp, rfl, rfl, hhp', hide Iff.rfl⟩⟩
        case round =>
          obtain ⟨rfl, hrel⟩ := hrel
          rcases hrel with ⟨rfl, rfl, hno⟩ | ⟨y, ky, gy, cy, ry, rfl, rfl, hy, hu⟩
          · obtain ⟨e1, e2⟩ := hk0.out hno.out
            have hne : parent ≠ id := hnu.out hno.out
            clear hnx cSn cSa hk11 hk0 hup hnu hid0
            obtain ⟨W1, hW1⟩ : ∃ W1, W1 = (w.setCell ⟨g, k * 33 + 1, none⟩ (.int .i64 parent)).setCell ⟨g, k * 33 + 2, none⟩ (.bool true) := ⟨_, rfl⟩
            have hc1 : Chg (fun b => b = g) w W1 := by rw [hW1]; exact (Chg.setCell (F := fun b => b = g) w (a := ⟨g, k * 33 + 1, none⟩) rfl _).trans (Chg.setCell (F := fun b => b = g) _ (a := ⟨g, k * 33 + 2, none⟩) rfl _) (Ext.refl _ _)
            have hsz : W1.heap.size = w.heap.size := by rw [hW1, size_setCell, size_setCell]
            obtain ⟨hgG, hglt⟩ := hh.ng h
            have hv := hh.form
            have hv2 := hhp.form
            rw [hv] at hv2
            simp only [Value.slice.injEq, Option.some.injEq, Addr.mk.injEq, and_true, true_and] at hv2
            obtain ⟨rfl, rfl⟩ := hv2
            have hrow1 : RowAt B0 W1 g c L k (r.subd parent).enc := by rw [hW1]; exact (hh.row.set hh.lt (show 1 < 33 by decide) _).set hh.lt (show 2 < 33 by decide) _
            have hG1 : ∀ b, grownG w W1 G b → G b := grownG_self (by omega)
            have hok0 : RSfOk w G (r.subd parent) := ⟨hh.ok.pe, hh.ok.ca, hh.ok.cu, hh.ok.peI, hh.ok.caI, hh.ok.cuI, hh.ok.id64⟩
            have hok1 : RSfOk W1 (grownG w W1 G) (r.subd parent) := by rw [hW1]; exact ((hok0.setCell (a := ⟨g, k * 33 + 1, none⟩) hgG _).setCell (a := ⟨g, k * 33 + 2, none⟩) hgG _).mono fun b hb => .inl hb
            subst hv
            have h1 := h.put (G' := G) hh.lt hc1 hrow1 (by rw [hh.at_]; rfl) hok1 (fun b hb => .inl hb) hG1
            obtain ⟨L1, hL1⟩ : ∃ L1, L1 = L.set k (r.subd parent) := ⟨_, rfl⟩
            have hlen1 : L1.length = L.length := by rw [hL1, List.length_set]
            have hM1 : toF L1 = setM (toF L) id (some { r.s with parent := parent, sync := true }) := by
              rw [hL1, toF_set h.ids hh.lt _ (by rw [hh.at_]; rfl)]
              rw [show (r.subd parent).id = id from hh.id_]; rfl
            have hkk : k ≠ kp := fun e => hne (by rw [← hh.id_, ← hhp.id_, ← hh.at_, ← hhp.at_, e])
            rw [← hL1, ← hlen1] at h1
            have hkp : kp < L1.length := by rw [hlen1]; exact hhp.lt
            have hrp : L1.getD kp default = rp := by
              rw [hL1, ← hhp.at_]
              simp [List.getD, List.getElem?_set_ne hkk]
            have hH := h1.hereK hkp
            rw [hrp, hhp.id_] at hH
            have hnext := hide (fun (M2 : Fo) (w2 : World) (h2 : RFOut B0 W1 q G (.slice (some ⟨g, 0, none⟩) L1.length c) M2 w2) =>
              (show RFOut B0 w q G (.slice (some ⟨g, 0, none⟩) L.length c) M2 w2 from RFOut.next (G1 := G) (v1 := .slice (some ⟨g, 0, none⟩) L1.length c) (hc1.mono fun b _ e => .inr (by rw [e]; rfl)) (fun b hb => .inl (hb.imp (fun h => h) (fun h => h.imp (fun h => h) fun h => h))) (fun b hb => .inl hb) h2))
            obtain ⟨LL, hLL⟩ : ∃ LL, LL = without rp.s.latest id ++ [id] := ⟨_, rfl⟩
            have e2' : MM = setM (toF L1) parent (some (placeT (orderT rp.s LL) ⟨id, 0, 0⟩)) := by rw [e2, hM1, hLL]
            have cL := gLatest_any W1 g c kp L1 rp hkp hH.row
            have hlat := hH.ok.lat
            obtain ⟨Al, cl, hlv, _⟩ := hlat.1.form
            rw [hlv] at cL hlat
            have cT := rtop_any W1 _ rp.s.latest id hlat.1 (by have := hle.out.1; omega)
            have hll : (without rp.s.latest id).length + 1 = LL.length := by rw [hLL]; simp
            rw [← hLL, hll] at cT
            have cO := hide (fun (w1 : World) (A : Option Addr) (l cc : Nat) (b1 : Below W1.heap.size W1 w1) => gOrder_any w1 g c kp L1 rp.enc hkp (hH.row.below b1) A l cc)
            have cP := hide (fun (w1 : World) (u : Value) (b1 : Below W1.heap.size W1 w1) (o1 : w1.ownsRow W1.heap.size 3 1 u LL.length (LL.map (Value.int .i64))) =>
              (show Calls Tryz.prog 97 #[.pointer (some ⟨g, kp * 33, none⟩), .agg #[.int .i64 id, .int .i64 0, .int .i64 0]] (putOrd w1 g (kp * 33) u) _ from
                gPlace_any (putOrd w1 g (kp * 33) u) g c kp L1 (rp.ordered LL u) hkp (hH.ordAt h1 b1 o1).1 (hH.ordAt h1 b1 o1).2.1.pl (by have := hle.out.2; show rp.s.pe.places.length ≤ 100000; omega) ⟨id, 0, 0⟩))
            have hfin := hide (fun (w1 : World) (u : Value) (b1 : Below W1.heap.size W1 w1) (o1 : w1.ownsRow W1.heap.size 3 1 u LL.length (LL.map (Value.int .i64))) (w4 : World) (u4 : Value) b4 o4 => hnext.out _ _ (hH.subTail h1 b1 o1 (w4 := w4) (x := ⟨id, 0, 0⟩) (u4 := u4) b4 o4))
            replace e2' := hide e2'
            replace cL := hide cL
            replace cT := hide cT
            replace hW1 := hide hW1
            clear hlv hlat hll hrp hkp hkk hM1 hL1 hok1 hok0 hG1 hrow1 hH h1 hc1 e2 hLL hnext hno hgG
            go_wp2_with fail
            rw [← hW1.out]
            refine cL.out.mono ?_
            rintro e w' ⟨rfl, rfl⟩
            go_wp2_with fail
            refine (cT.out).mono ?_
            rintro e w2 ⟨v2, rfl, o2, b2⟩
            obtain ⟨A2, cc2, rfl, _⟩ := own_form o2
            have cO1 := hide (cO.out w2 A2 LL.length cc2 b2)
            have cP1 := hide (cP.out w2 _ b2 o2)
            have hf1 := hide (hfin.out w2 _ b2 o2)
            clear o2 b2
            go_wp2_with fail
            refine (cO1.out).mono ?_
            rintro e w' ⟨rfl, rfl⟩
            go_wp2_with fail
            refine (cP1.out).mono ?_
            rintro e w' ⟨rfl, w4, u4, rfl, o4, b4⟩
            go_wp2
            go_ret
            exact ⟨by rw [e1]; rfl, by rw [e2'.out]; exact hf1.out w4 u4 b4 o4⟩
          · obtain ⟨i0, i1, ipos⟩ := hid0.out y ky gy cy ry hy.out
            by_cases he : y = id
            · have hb : (y == id) = true := by simpa using he
              obtain ⟨e1, e2⟩ := hk11.out (hup.out y hu.out he ipos)
              clear hnx cSn cSa hk11 hk0 hup hnu hid0 hy hu
              go_wp2
              go_ret
              exact ⟨by rw [e1]; rfl, by rw [e2]; exact h'.out.stay⟩
            · have hb : (y == id) = false := by simpa using he
              rcases hnx.out y ky gy cy ry hy.out he hu.out with ⟨hn, hno⟩ | ⟨k', g', c', r', hx, hlt, hu2⟩
              · have cN := hide (cSn.out _ hn)
                generalize ry.s.parent = pp at i1 cN
                replace hno := hide hno
                go_wp2_with fail
                refine cN.out.mono ?_
                rintro e w' ⟨rfl, rfl⟩
                go_wp2
                go_roundg 0
                case measure => exact (show 0 < rk y + 1 by omega)
                case rel => exact ⟨rfl, .inl ⟨rfl, rfl, hno⟩⟩
              · have cN := hide (cSa.out _ _ _ _ _ hx)
                generalize ry.s.parent = pp at i1 cN hx hlt hu2
                replace hx := hide hx
                replace hu2 := hide hu2
                go_wp2_with fail
                refine cN.out.mono ?_
                rintro e w' ⟨rfl, rfl⟩
                go_wp2
                go_roundg (rk pp + 1)
                case measure => exact (show rk pp + 1 < rk y + 1 by omega)
                case rel => exact ⟨rfl, .inr ⟨pp, k', g', c', r', rfl, rfl, hx, hu2⟩⟩
      · have hpb : (r.s.parent != 0) = true := by simpa using hp
        have e1 : fsubK (toF L) id parent = 10 := by unfold fsubK; rw [hs, hs2]; dsimp only; rw [if_pos hp]
        have e2 : fsubS (toF L) id parent = toF L := by unfold fsubS; rw [if_neg (by rw [e1]; decide)]
        rw [e1, e2]
        generalize r.s.parent = pp at k1 hpb
        replace h := hide h
        clear hG hlen e1 e2 hh hp hhp
        go_enter Tryz.func43, Tryz.ntmps43
        go_wp2_with fail
        refine (cS.out).mono ?_
        rintro e w' ⟨rfl, rfl⟩
        go_wp2_with fail
        refine (cS2.out).mono ?_
        rintro e w' ⟨rfl, rfl⟩
        go_wp2
        go_ret
        exact ⟨rfl, h.out.stay⟩
end Go.Proofs.YthkjicnnepkghaaGreatDoor
namespace Go.Proofs.YthkjicnnepkghaaGreatDoor
open Go.RowKit
set_option linter.unusedVariables false

theorem dropP_hit {l : List Ch} {k : Nat} {id : Int} (hk : k < l.length) (h : (l.getD k default).id ≠ id) : dropP (l.take (k + 1)) id = dropP (l.take k) id ++ [l.getD k default] := by
  have e : l.take (k + 1) = l.take k ++ [l.getD k default] := by
    rw [List.take_succ_eq_append_getElem hk]
    simp [List.getD, hk]
  unfold dropP
  rw [e, List.filter_append]
  congr 1
  rw [List.filter_cons_of_pos (by simpa using h)]; rfl
theorem dropP_miss {l : List Ch} {k : Nat} {id : Int} (hk : k < l.length) (h : (l.getD k default).id = id) : dropP (l.take (k + 1)) id = dropP (l.take k) id := by
  have e : l.take (k + 1) = l.take k ++ [l.getD k default] := by
    rw [List.take_succ_eq_append_getElem hk]
    simp [List.getD, hk]
  unfold dropP
  rw [e, List.filter_append, List.filter_cons_of_neg (by simpa using h)]; simp
theorem dropP_len (l : List Ch) (k : Nat) (id : Int) : (dropP (l.take k) id).length ≤ k := by
  unfold dropP
  exact Nat.le_trans (List.length_filter_le _ _) (by rw [List.length_take]; omega)
structure OutV (w w' : World) (va v' : StV) (s : St) : Prop where
  d : v'.d = va.d
  f : v'.f = va.f
  r : v'.r = va.r
  o : w'.ownsRow w.heap.size 3 1 v'.o s.order.length (s.order.map (Value.int .i64))
  p : w'.ownsRow w.heap.size 62 3 v'.p s.places.length (s.places.flatMap Ch.enc)

set_option maxRecDepth 100000 in
set_option maxHeartbeats 4000000 in
theorem gOut_any (w : World) (va : StV) (a : St) (id : Int) (ha : StRd w va a) (ho : a.order.length ≤ 1000000) (hp : a.places.length ≤ 1000000) :
    Calls Tryz.prog 102 #[stVal a va, .int .i64 id] w fun e w' => ∃ v', e = .returned (stVal (cutT a id) v') ∧ OutV w w' va v' (cutT a id) ∧ Below w.heap.size w w' := by
  obtain ⟨i0, hi, hz0, hz1, hz2⟩ := info_parts Tryz.infoCchild
  obtain ⟨vd, vf, vr, vo, vp⟩ := va
  obtain ⟨had, haf, har, hao, hap⟩ := ha
  dsimp only at had haf har hao hap
  obtain ⟨dA, dc, rfl, _⟩ := had.form
  obtain ⟨fA, fc, rfl, _⟩ := haf.form
  obtain ⟨rA, rc, rfl, _⟩ := har.form
  obtain ⟨oA, oc, rfl, _⟩ := hao.form
  obtain ⟨pA, pc, rfl, _⟩ := hap.form
  unfold stVal
  dsimp only
  obtain ⟨W2, hW2⟩ : ∃ W2, W2 = (w.alloc (.cells #[.bool a.attach, .int .i64 a.buffer, .slice dA a.damage.length dc, .slice fA a.frames.length fc, .bool a.input, .bool a.all, .slice rA a.region.length rc, .bool a.ordered, .slice oA a.order.length oc, .slice pA a.places.length pc] 41)).alloc (.cells #[.bool false, .int .i64 0, .slice none 0 0, .slice none 0 0, .bool false, .bool false, .slice none 0 0, .bool false, .slice none 0 0, .slice none 0 0] 41) := ⟨_, rfl⟩
  have hb2 : Below w.heap.size w W2 := by rw [hW2]; exact ((Below.refl _ w).alloc (Nat.le_refl _) _).alloc (by simp) _
  have hsz : W2.heap.size = w.heap.size + 2 := by rw [hW2]; simp
  have hk2 : W2.heap[w.heap.size]? = some (.cells #[.bool a.attach, .int .i64 a.buffer, .slice dA a.damage.length dc, .slice fA a.frames.length fc, .bool a.input, .bool a.all, .slice rA a.region.length rc, .bool a.ordered, .slice oA a.order.length oc, .slice pA a.places.length pc] 41 (0, 0)) := by rw [hW2]; exact heap_alloc2_old _ _ _
  have hk3 : W2.heap[w.heap.size + 1]? = some (.cells #[.bool false, .int .i64 0, .slice none 0 0, .slice none 0 0, .bool false, .bool false, .slice none 0 0, .bool false, .slice none 0 0, .slice none 0 0] 41 (0, 0)) := by rw [hW2]; exact heap_alloc2_new _ _ _
  have cD := hide (rdrop_any W2 _ a.order id (hao.below hb2 (Nat.le_refl _)) ho)
  obtain ⟨b0, b1, b2, b3, b4, b5, b6, b7, b8, b9⟩ := cells10 hk2
  have hap' := hide hap
  obtain ⟨n, hn⟩ : ∃ n, n = a.places.length := ⟨_, rfl⟩
  rw [← hn] at hp
  replace hn := hide hn
  replace hW2 := hide hW2
  replace hk2 := hide hk2
  replace hk3 := hide hk3
  replace hb2 := hide hb2
  obtain ⟨Q, hQ⟩ : ∃ Q, Q = without a.order id := ⟨_, rfl⟩
  rw [← hQ] at cD
  obtain ⟨q8, hq8⟩ : ∃ q8, q8 = Q.length := ⟨_, rfl⟩
  rw [← hq8] at cD
  obtain ⟨R, hR⟩ : ∃ R, R = dropP a.places id := ⟨_, rfl⟩
  have hcut : cutT a id = { a with order := Q, places := R } := by rw [hQ, hR]; rfl
  rw [hcut]
  replace hq8 := hide hq8
  replace hR := hide hR
  clear had haf har hao hap hQ hcut ho
  go_enter Tryz.func102, Tryz.ntmps102
  go_wp2_with fail
  rw [← hW2.out]
  refine cD.out.mono ?_
  rintro e w3 ⟨v8, rfl, o8, b8'⟩
  obtain ⟨A8, c8, rfl, _⟩ := own_form o8
  have hkA : w3.heap[w.heap.size]? = some (.cells #[.bool a.attach, .int .i64 a.buffer, .slice dA a.damage.length dc, .slice fA a.frames.length fc, .bool a.input, .bool a.all, .slice rA a.region.length rc, .bool a.ordered, .slice oA a.order.length oc, .slice pA a.places.length pc] 41 (0, 0)) := (b8'.block _ (by omega)).trans hk2.out
  have hkB : w3.heap[w.heap.size + 1]? = some (.cells #[.bool false, .int .i64 0, .slice none 0 0, .slice none 0 0, .bool false, .bool false, .slice none 0 0, .bool false, .slice none 0 0, .slice none 0 0] 41 (0, 0)) := (b8'.block _ (by omega)).trans hk3.out
  have e8 : w3.cell? ⟨w.heap.size, 8, none⟩ = some (.slice oA a.order.length oc) := (cells10 hkA).2.2.2.2.2.2.2.2.1
  have f8 := frozen_of_row w3 w.heap.size 8 _ _ hkA
  obtain ⟨w4, hw4⟩ : ∃ w4, w4 = w3.setCell ⟨w.heap.size, 8, none⟩ (.slice A8 q8 c8) := ⟨_, rfl⟩
  have hkC : Hid (w4.heap[w.heap.size]? = some (.cells #[.bool a.attach, .int .i64 a.buffer, .slice dA a.damage.length dc, .slice fA a.frames.length fc, .bool a.input, .bool a.all, .slice rA a.region.length rc, .bool a.ordered, .slice A8 q8 c8, .slice pA a.places.length pc] 41 (0, 0))) := hide (by rw [hw4]; exact heap_setCell_same w3 _ 8 _ _ _ hkA)
  have hkD : Hid (w4.heap[w.heap.size + 1]? = some (.cells #[.bool false, .int .i64 0, .slice none 0 0, .slice none 0 0, .bool false, .bool false, .slice none 0 0, .bool false, .slice none 0 0, .slice none 0 0] 41 (0, 0))) := hide (by rw [hw4]; exact (heap_setCell_other w3 _ _ _ (by show w.heap.size + 1 ≠ w.heap.size; omega)).trans hkB)
  have hB4 : Hid (Below w.heap.size w w4) := hide (by rw [hw4]; exact (hb2.out.trans (b8'.mono hb2.out.size)).setCell (p := ⟨w.heap.size, 8, none⟩) (Nat.le_refl _) _)
  have hO4 : Hid (w4.ownsRow W2.heap.size 3 1 (.slice A8 q8 c8) q8 (Q.map (Value.int .i64))) := hide (by rw [hw4]; exact own_setOther o8 (by omega) _)
  obtain ⟨Bu, hBu⟩ : ∃ Bu, Bu = w4.heap.size := ⟨_, rfl⟩
  have hz4 : W2.heap.size ≤ Bu := by rw [hBu, hw4, size_setCell]; exact b8'.size
  have hl8 : Hid (∀ b, (Value.slice A8 q8 c8).ownBlock = some b → b < Bu) := hide fun b hb => by rw [hBu]; exact (hO4.out.lt b hb).2
  replace hw4 := hide hw4
  clear hkA hkB o8 b8' b0 b1 b2 b3 b4 b5 b6 b7 b8 b9 cD
  go_wp2
  rw [← hw4.out]
  go_loopw [5, 6] (fun u i wr => ∃ k : Nat, k ≤ n ∧ i = .int .i64 k ∧ Hid (wr.ownsRow Bu 62 3 u (dropP (a.places.take k) id).length ((dropP (a.places.take k) id).flatMap Ch.enc)) ∧ Hid (wr.heap[w.heap.size]? = some (.cells #[.bool a.attach, .int .i64 a.buffer, .slice dA a.damage.length dc, .slice fA a.frames.length fc, .bool a.input, .bool a.all, .slice rA a.region.length rc, .bool a.ordered, .slice A8 q8 c8, .slice pA a.places.length pc] 41 (0, 0))) ∧ Hid (wr.heap[w.heap.size + 1]? = some (.cells #[.bool false, .int .i64 0, .slice none 0 0, .slice none 0 0, .bool false, .bool false, .slice none 0 0, .bool false, .slice none 0 0, .slice none 0 0] 41 (0, 0))) ∧ Hid (wr.ownsRow W2.heap.size 3 1 (.slice A8 q8 c8) q8 (Q.map (Value.int .i64))) ∧ Hid (Below w.heap.size w wr ∧ Bu ≤ wr.heap.size))
    (fun _ i _ => n - (intOf i).toNat)
  case atStart => exact ⟨0, Nat.zero_le _, rfl, hide (World.ownsRow_nil _ _ _ _), hkC, hkD, hO4, hide ⟨hB4.out, by rw [hBu]; exact Nat.le_refl _⟩⟩
  clear hkC hkD hO4 hB4 e8 f8 hw4 hBu
  case round =>
    obtain ⟨k, hk, rfl, hU, hX, hY, hO, hB⟩ := hrel
    obtain ⟨wC, hC⟩ : ∃ wC, wC = wr := ⟨_, rfl⟩
    subst hC
    obtain ⟨A4, c4, rfl, hc4⟩ := own_form hU.out
    obtain ⟨x0, x1, x2, x3, x4, x5, x6, x7, x8, x9⟩ := cells10 hX.out
    have hle := dropP_len a.places k id
    have hxl := lt_of_block hX.out
    have hyl := lt_of_block hY.out
    by_cases hlt : k < n
    · obtain ⟨b, off, rfl, hbl, hcell⟩ := (hap'.out.below hB.out.1 (Nat.le_refl _)).chCells rfl (by rw [← hn.out]; omega)
      obtain ⟨k0, k1, k2⟩ := hcell k (by rw [← hn.out]; exact hlt)
      have hkl : k < a.places.length := by rw [← hn.out]; exact hlt
      have hhit := hide (fun h => dropP_hit (id := id) hkl h)
      have hmiss := hide (fun h => dropP_miss (id := id) hkl h)
      obtain ⟨y, hy⟩ : ∃ y, y = a.places.getD k default := ⟨_, rfl⟩
      rw [← hy] at k0 k1 k2 hhit hmiss
      have hnl : (a.places.length : Int) = n := by rw [← hn.out]
      clear hcell hbl hy
      obtain ⟨y0, y1, y2⟩ := y
      dsimp only at k0 k1 k2
      by_cases he : y0 = id
      · have hb : (y0 != id) = false := by simpa using he
        have hm := hide (hmiss.out he)
        clear hhit hmiss
        go_wp2
        go_roundw
        case rel => exact ⟨k + 1, by omega, by go_num, hide (by rw [hm.out]; exact hU.out), hX, hY, hO, hB⟩
        case measure => simp [intOf]; omega
      · have hb : (y0 != id) = true := by simpa using he
        have hm := hide (hhit.out he)
        clear hhit hmiss
        have hBs := hB.out.2
        go_wp2_with (at_builtin; refine wpList_append_own _ rfl _ _ 36 rfl Bu 62 i0 _ 3 24 Tryz.underlying36 hi hz0 hz1 hz2 rfl (by decide) _ _ _ rfl (hU.out.alloc _) ⟨wC.heap.size, 0, none⟩ 1 1 [.int .i64 y0, .int .i64 y1, .int .i64 y2] rfl rfl (cells_newR _ _ _) (by intro u hu; simp at hu; rcases hu with rfl | rfl | rfl <;> rfl) (by unfold maxLen; omega) (by omega) (by simp; omega) ?_; intro v5 w5 o5 hg5 hat5)
        obtain ⟨A5, c5, rfl, _⟩ := own_form o5
        have hkeep : ∀ b, b < w.heap.size + 2 → w5.heap[b]? = wC.heap[b]? := fun b hb => (hg5.block b (by simp; omega) (fun e => by have := (hU.out.lt b e.symm).1; omega)).trans (Below.heap_alloc _ _ _ (by omega))
        have hX5 := hide ((hkeep w.heap.size (by omega)).trans hX.out)
        have hY5 := hide ((hkeep (w.heap.size + 1) (by omega)).trans hY.out)
        have hO5 : Hid (w5.ownsRow W2.heap.size 3 1 (.slice A8 q8 c8) q8 (Q.map (Value.int .i64))) := hide (own_keepF (hO.out.alloc _) fun b hb => hg5.block b ((hO.out.alloc _).lt b hb).2 (fun e => by have h1 := hl8.out b hb; have h2 := (hU.out.lt b e.symm).1; omega))
        have hB5 := hide (show Below w.heap.size w w5 ∧ Bu ≤ w5.heap.size from ⟨(hB.out.1.alloc hB.out.1.size _).grown hg5 (by have := hB.out.1.size; simp; omega) (fun q hq => by have := (hU.out.lt q hq).1; omega), by have := hg5.size; simp at this; omega⟩)
        go_wp2
        go_roundw
        case rel => exact ⟨k + 1, by omega, by go_num, hide (by rw [hm.out, List.length_append, List.flatMap_append]; simpa [Ch.enc] using o5), hX5, hY5, hO5, hB5⟩
        case measure => simp [intOf]; omega
    · obtain rfl : k = n := by omega
      have ht : a.places.take k = a.places := by rw [hn.out]; exact List.take_length
      rw [ht, ← hR.out] at hU
      have htl : dropP (a.places.take k) id = R := by rw [ht, hR.out]
      rw [htl] at hc4 ⊢
      obtain ⟨q9, hq9⟩ : ∃ q9, q9 = R.length := ⟨_, rfl⟩
      rw [← hq9] at hU hc4 ⊢
      replace hq9 := hide hq9
      have y := cells10 hY.out
      obtain ⟨y0, y1, y2, y3, y4, y5, y6, y7, y8, y9⟩ := y
      have hnl : (a.places.length : Int) = k := by rw [← hn.out]
      have g9 := frozen_of_row wC w.heap.size 9 _ _ hX.out
      have g0 := frozen_of_row wC (w.heap.size + 1) 0 _ _ hY.out
      have g1 := frozen_of_row wC (w.heap.size + 1) 1 _ _ hY.out
      have g2 := frozen_of_row wC (w.heap.size + 1) 2 _ _ hY.out
      have g3 := frozen_of_row wC (w.heap.size + 1) 3 _ _ hY.out
      have g4 := frozen_of_row wC (w.heap.size + 1) 4 _ _ hY.out
      have g5 := frozen_of_row wC (w.heap.size + 1) 5 _ _ hY.out
      have g6 := frozen_of_row wC (w.heap.size + 1) 6 _ _ hY.out
      have g7 := frozen_of_row wC (w.heap.size + 1) 7 _ _ hY.out
      have g8 := frozen_of_row wC (w.heap.size + 1) 8 _ _ hY.out
      have g9' := frozen_of_row wC (w.heap.size + 1) 9 _ _ hY.out
      have hY2 : (wC.setCell ⟨w.heap.size, 9, none⟩ (.slice A4 q9 c4)).heap[w.heap.size + 1]? = some (.cells #[.bool false, .int .i64 0, .slice none 0 0, .slice none 0 0, .bool false, .bool false, .slice none 0 0, .bool false, .slice none 0 0, .slice none 0 0] 41 (0, 0)) := (heap_setCell_other wC _ _ _ (by show w.heap.size + 1 ≠ w.heap.size; omega)).trans hY.out
      have hR2 := hide (set10 hY2 (.bool a.attach) (.int .i64 a.buffer) (.slice dA a.damage.length dc) (.slice fA a.frames.length fc) (.bool a.input) (.bool a.all) (.slice rA a.region.length rc) (.bool a.ordered) (.slice A8 q8 c8) (.slice A4 q9 c4))
      have hbf := hide (below10 (hB.out.1.setCell (p := ⟨w.heap.size, 9, none⟩) (Nat.le_refl _) (.slice A4 q9 c4)) (Nat.le_succ w.heap.size) (.bool a.attach) (.int .i64 a.buffer) (.slice dA a.damage.length dc) (.slice fA a.frames.length fc) (.bool a.input) (.bool a.all) (.slice rA a.region.length rc) (.bool a.ordered) (.slice A8 q8 c8) (.slice A4 q9 c4))
      have key : ∀ (base : Nat) (e : TypeId) (sz m : Nat) (v : Value) (cs : List Value) (W : World) (b c : Nat) (u : Value), w.heap.size + 2 ≤ base → b < w.heap.size + 2 → W.ownsRow base e sz v m cs → (W.setCell ⟨b, c, none⟩ u).ownsRow base e sz v m cs := fun base e sz m v cs W b c u hb hb2 h => own_keepF h fun b' hb' => heap_setCell_other W _ b' _ (by have := (h.lt b' hb').1; show b' ≠ b; omega)
      replace key := hide key
      replace hY2 := hide hY2
      go_wp2
      try simp only [Exit.inBlock, Exit.then]
      refine bodyPost_ret (results_cell_row rfl _ _ (w.heap.size + 1) 41 #[.bool a.attach, .int .i64 a.buffer, .slice dA a.damage.length dc, .slice fA a.frames.length fc, .bool a.input, .bool a.all, .slice rA a.region.length rc, .bool a.ordered, .slice A8 q8 c8, .slice A4 q9 c4] (0, 0) _ rfl hR2.out Tryz.underlying41 rfl (by kernel_rfl)) rfl ?_
      refine ⟨⟨.slice dA a.damage.length dc, .slice fA a.frames.length fc, .slice rA a.region.length rc, .slice A8 q8 c8, .slice A4 q9 c4⟩, rfl, ⟨rfl, rfl, rfl, ?_, ?_⟩, hbf.out⟩
      · dsimp only
        rw [← hq8.out]
        refine own_le ?_ (show w.heap.size ≤ W2.heap.size by omega)
        iterate 11 refine key.out _ _ _ _ _ _ _ _ _ _ (by omega) (by omega) ?_
        exact hO.out
      · dsimp only
        rw [← hq9.out]
        refine own_le ?_ (show w.heap.size ≤ Bu by omega)
        iterate 11 refine key.out _ _ _ _ _ _ _ _ _ _ (by omega) (by omega) ?_
        exact hU.out
end Go.Proofs.YthkjicnnepkghaaGreatDoor
