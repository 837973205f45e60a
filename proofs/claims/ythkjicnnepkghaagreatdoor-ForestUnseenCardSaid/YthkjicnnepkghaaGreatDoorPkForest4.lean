/-
  Package forest: Frame, Position, beside, Above, Below.
-/
import Derived.Test.YthkjicnnepkghaaGreatDoorPkC
namespace Go.Proofs.YthkjicnnepkghaaGreatDoor
open Go.RowKit
set_option linter.unusedVariables false

def FOutN (w : World) (p n : Nat) (F : Nat → Prop) (M' : Fo) (w' : World) : Prop := ∃ F', ForAt w' p F' n M' ∧ Chg F w w' ∧ Ext F F' w.heap.size
theorem FOutN.out {w w' : World} {p n : Nat} {F : Nat → Prop} {M' : Fo} (h : FOutN w p n F M' w') : FOut w p n F M' w' := by
  obtain ⟨F', h1, h2, h3⟩ := h
  exact ⟨F', h1.mono (Nat.le_succ n), h2, h3⟩
theorem FOutN.trans {w w1 w2 : World} {p n : Nat} {F : Nat → Prop} {M1 M2 : Fo} (h : FOutN w p n F M1 w1) (h2 : ∀ F', ForAt w1 p F' n M1 → FOutN w1 p n F' M2 w2) : FOutN w p n F M2 w2 := by
  obtain ⟨F', a1, a2, a3⟩ := h
  obtain ⟨F'', b1, b2, b3⟩ := h2 F' a1
  exact ⟨F'', b1, a2.trans b2 a3, a3.trans b3 a2.size⟩
theorem FOutN.stay {w : World} {p n : Nat} {F : Nat → Prop} {M : Fo} (h : ForAt w p F n M) : FOutN w p n F M w := ⟨F, h, Chg.refl _ _, Ext.refl _ _⟩
theorem FOutN.stayB {w w' : World} {p n : Nat} {F : Nat → Prop} {M : Fo} (h : ForAt w p F n M) (hb : Below w.heap.size w w') : FOutN w p n F M w' := ⟨F, h.below hb, Chg.of_below hb F, Ext.refl _ _⟩
section
variable {w w' w1 : World} {p mb n : Nat} {F : Nat → Prop} {Z : Int → Option SfV} {M : Fo} {id : Int} {t t' : Sf} {z z' : SfV}
theorem ForZ.turnN (h : ForZ w p mb F n Z M) (hz : Z id = some z) (hc : Chg z.F w w') (ha : z'.a = z.a) (hs' : SurfAt w' id t' z' ∧ (∀ b, z'.F b → z.F b ∨ w.heap.size ≤ b)) :
    FOutN w p n F (setM M id (some t')) w' :=
  ⟨_, ⟨mb, _, h.turn hz hc ha hs'.1 hs'.2⟩, hc.mono (fun b _ hb => h.inF id z hz b hb), fun b hb => by
    rcases hb with hb | hb
    · exact .inl hb
    · rcases hs'.2 b hb with h1 | h1
      · exact .inl (h.inF id z hz b h1)
      · exact .inr h1⟩
theorem ForZ.placed (h : ForZ w p mb F n Z M) (hz : Z id = some z) (ht : SurfAt w id t z) (c : Ch) {A : Option Addr} {l k : Nat} (b1 : Below w.heap.size w w1)
    (o1 : w1.ownsRow w.heap.size 62 3 (.slice A l k) (putP t.pe.places c).length ((putP t.pe.places c).flatMap Ch.enc)) :
    FOutN w p n F (setM M id (some (placeT t c))) (w1.setCell ⟨z.a, 12, none⟩ (.slice A l k)) := by
  have hlt := ht.lt z.a (.inl rfl)
  have hb1 : w1.heap[z.a]? = some (.cells (sfCells id t z) 97 (0, 0)) := (b1.block z.a hlt).trans ht.blk
  refine h.turnN (z' := { z with pe := { z.pe with p := .slice A l k }, G := grownG w _ z.G }) hz ?_ rfl (ht.froz ?_ rfl rfl ?_ (.inl ⟨rfl, rfl⟩) (.inl ⟨rfl, rfl⟩) .same .same ?_ .same .same)
  · exact (Chg.of_below b1 _).trans (chg1 w1 z.a 12 _ (.inl rfl)) (Ext.refl _ _)
  · exact (Chg.of_below b1 _).trans (chg1e w1 z.a 12 _) (Ext.refl _ _)
  · rw [heap_setCell_same w1 z.a 12 _ _ _ hb1]; rfl
  · exact .own (own_setOther o1 hlt _) (Nat.le_refl _)
theorem ForZ.ordered (h : ForZ w p mb F n Z M) (hz : Z id = some z) (ht : SurfAt w id t z) (L : List Int) {A : Option Addr} {l k : Nat} (b1 : Below w.heap.size w w1)
    (o1 : w1.ownsRow w.heap.size 3 1 (.slice A l k) L.length (L.map (Value.int .i64))) :
    FOutN w p n F (setM M id (some (orderT t L))) ((w1.setCell ⟨z.a, 10, none⟩ (.bool true)).setCell ⟨z.a, 11, none⟩ (.slice A l k)) := by
  have hlt := ht.lt z.a (.inl rfl)
  have hb1 : w1.heap[z.a]? = some (.cells (sfCells id t z) 97 (0, 0)) := (b1.block z.a hlt).trans ht.blk
  refine h.turnN (z' := { z with pe := { z.pe with o := .slice A l k }, G := grownG w _ z.G }) hz ?_ rfl (ht.froz ?_ rfl rfl ?_ (.inl ⟨rfl, rfl⟩) (.inl ⟨rfl, rfl⟩) .same ?_ .same .same .same)
  · exact (Chg.of_below b1 _).trans (chg2 w1 z.a 10 11 _ _ (.inl rfl)) (Ext.refl _ _)
  · exact (Chg.of_below b1 _).trans (chg2e w1 z.a 10 11 _ _) (Ext.refl _ _)
  · exact set_cells2 (t := t) hb1 10 11 _ _ rfl
  · exact .own (own_setOther (own_setOther o1 hlt _) hlt _) (Nat.le_refl _)
end
theorem fcut_any (x : Int) (w : World) : Calls Tryz.prog 67 #[.int .i64 x] w fun e w' => e = .returned (.int .i64 (cutF x)) ∧ w = w' := by
  unfold cutF
  go_enter Tryz.func67, Tryz.ntmps67
  go_wp2
  go_ret
  exact ⟨rfl, rfl⟩

section
variable {p mb n : Nat} {F : Nat → Prop} {Z : Int → Option SfV} {M : Fo}
set_option maxRecDepth 100000 in
theorem fFrame_any {B : Nat} (w : World) {ae : Nat → Addr} (hE : ErrF B w ae) (h : ForZ w p mb F n Z M) (id c : Int) (hid : I64 id) (hlen : ∀ t, M id = some t → t.pe.frames.length ≤ 100000) :
    Calls Tryz.prog 17 #[.pointer (some ⟨p, 0, none⟩), .int .i64 id, .int .i64 c] w fun e w' => e = .returned (errV ae (thereK M id)) ∧ FOut w p n F (turnS M id (frameT c)) w' := by
  have hE1 := fun o => hE.alloc o
  have hB : ∀ o, Below w.heap.size w (w.alloc o) := fun o => (Below.refl _ w).alloc (Nat.le_refl _) o
  have h1 := fun o => h.below (hB o)
  cases hs : M id with
  | none =>
    have e1 : thereK M id = 5 := by simp [thereK, hs]
    have e2 : turnS M id (frameT c) = M := by simp [turnS, hs]
    rw [e1, e2]
    have cT := hide (fun o caps => turn_frame_none (w.alloc o) (hE1 o) (h1 o) id hid caps hs)
    have hout := hide (fun o => h.out.stayB (hB o))
    clear h h1 hE hE1 e1 e2 hs hB hlen
    go_enter Tryz.func17, Tryz.ntmps17
    go_wp2_with fail
    refine (cT.out _ _).mono ?_
    rintro e w' ⟨rfl, rfl⟩
    go_wp2
    go_ret
    exact ⟨rfl, hout.out _⟩
  | some t =>
    obtain ⟨z, hz, ht⟩ := h.find hs
    have e1 : thereK M id = 0 := by simp [thereK, hs]
    have e2 : turnS M id (frameT c) = setM M id (some { t with pe := frameT c t.pe }) := by simp [turnS, hs]
    rw [e1, e2]
    have hcc := cell_one_new w (.int .i64 c) 3 0 _ rfl
    rw [addr_add] at hcc
    have cA := frame1_any (w.alloc (.cells #[.int .i64 c] 3)) ((h1 _).surf id z t hz hs) w.heap.size c hcc (hlen t hs)
    have cT := hide (turn_frame_some (w.alloc (.cells #[.int .i64 c] 3)) (h1 _) id hid (.pointer (some ⟨w.heap.size, 0, none⟩)) hz cA)
    have hh := hide h
    have hz' := hide hz
    have hb1 := hide (hB (.cells #[.int .i64 c] 3))
    clear h h1 hE hE1 e1 e2 hs hB hz ht cA hcc hlen
    go_enter Tryz.func17, Tryz.ntmps17
    go_wp2_with fail
    refine cT.out.mono ?_
    rintro e w' ⟨rfl, z', ha, hc, hs', hF⟩
    replace ha := hide ha
    go_wp2
    go_ret
    refine ⟨rfl, hh.out.turnOut (z' := z') hz'.out ((Chg.of_below hb1.out _).trans hc (Ext.refl _ _)) ha.out ⟨hs', fun b hb => (hF b hb).imp (fun h => h) fun h => ?_⟩⟩
    have := hb1.out.size
    omega

set_option maxRecDepth 100000 in
set_option maxHeartbeats 1000000 in
theorem fPosition_any {B : Nat} (w : World) {ae : Nat → Addr} (hE : ErrF B w ae) (h : ForZ w p mb F n Z M) (hG : GoodM M) (id x y : Int) (hid : I64 id) (hlen : ∀ i t, M i = some t → t.pe.places.length ≤ 10000) :
    Calls Tryz.prog 18 #[.pointer (some ⟨p, 0, none⟩), .int .i64 id, .int .i64 x, .int .i64 y] w fun e w' => e = .returned (errV ae (childK M id)) ∧ FOut w p n F (fposS M id x y) w' := by
  have cC := fChild_any w hE h hG id hid
  cases hs : M id with
  | none =>
    have e1 : childK M id = 5 := by simp [childK, hs]
    have e2 : fposS M id x y = M := by simp [fposS, hs]
    have e3 : childV Z M id = (.pointer none, .pointer none) := by simp [childV, hs]
    rw [e1, e3, show errV ae 5 = .iface 205 (.pointer (some (ae 4))) from rfl] at cC
    rw [e1, e2]
    have hout := hide (fun q => h.out.stayN q)
    replace cC := hide cC
    clear h hG hE hs e1 e2 e3
    go_enter Tryz.func18, Tryz.ntmps18
    go_wp2_with fail
    refine cC.out.mono ?_
    rintro e w' ⟨rfl, q, rfl⟩
    go_wp2
    go_ret
    exact ⟨rfl, hout.out _⟩
  | some t =>
    by_cases hp : t.parent = 0
    · have e1 : childK M id = 10 := by simp [childK, hs, hp]
      have e2 : fposS M id x y = M := by
        unfold fposS; rw [hs]; dsimp only; split
        · rfl
        · rw [if_pos hp]
      have e3 : childV Z M id = (.pointer none, .pointer none) := by simp [childV, hs, hp]
      rw [e1, e3, show errV ae 10 = .iface 205 (.pointer (some (ae 9))) from rfl] at cC
      rw [e1, e2]
      have hout := hide (fun q => h.out.stayN q)
      replace cC := hide cC
      clear h hG hE hs e1 e2 e3 hp
      go_enter Tryz.func18, Tryz.ntmps18
      go_wp2_with fail
      refine cC.out.mono ?_
      rintro e w' ⟨rfl, q, rfl⟩
      go_wp2
      go_ret
      exact ⟨rfl, hout.out _⟩
    · obtain ⟨z, hz, ht⟩ := h.find hs
      obtain ⟨t2, ht2⟩ := hG.par id t hs hp
      obtain ⟨z2, hz2, hs2⟩ := h.find ht2
      have e1 : childK M id = 0 := by simp [childK, hs, hp]
      have e2 : fposS M id x y = setM M t.parent (some (placeT t2 ⟨id, cutF x, cutF y⟩)) := by unfold fposS; rw [hs]; dsimp only; rw [ht2]; dsimp only; rw [if_neg hp]
      have e3 : childV Z M id = (.pointer (some ⟨z.a, 0, none⟩), .pointer (some ⟨z2.a, 0, none⟩)) := by simp [childV, hs, hp, hz, hz2, SfV.ptr]
      rw [e1, e3, show errV ae 0 = .nilIface from rfl] at cC
      rw [e1, e2]
      replace cC := hide cC
      have c12 : w.cell? ⟨z2.a, 12, none⟩ = some z2.pe.p := hs2.cell 12
      have f12 := hs2.free 12
      have hlt := hs2.lt z2.a (.inl rfl)
      have hpl := hs2.peP
      obtain ⟨Ap, cp, hpv, _⟩ := hpl.form
      rw [hpv] at c12 hpl
      have cP := hide (fun q => put_any (w.drewN q) _ _ ⟨id, cutF x, cutF y⟩ (hpl.below (below_drewN (Below.refl _ w) q) (Nat.le_refl _)) (by have := hlen _ _ ht2; omega))
      unfold Ch.val at cP
      dsimp only at cP
      have hblk := hide hs2.blk
      have hw12 : ∀ w1 : World, w1.heap[z2.a]? = some (.cells (sfCells t.parent t2 z2) 97 (0, 0)) → w1.cell? ⟨z2.a, 12, none⟩ = some z2.pe.p ∧ w1.frozen? ⟨z2.a, 12, none⟩ = false := fun w1 h1 => ⟨cell_of_row w1 z2.a 12 _ _ _ h1, frozen_of_row w1 z2.a 12 _ _ h1⟩
      replace hw12 := hide hw12
      have cCut := hide (fun x w => fcut_any x w)
      have hh := hide h
      have hz' := hide hz2
      have ht' := hide hs2
      have hpvv := hide hpv
      generalize hL : t2.pe.places = L at cP c12 hpl
      replace hL := hide hL
      clear h hG hE hs e1 e2 e3 hp hz ht hz2 ht2 hlen hpv hs2
      go_enter Tryz.func18, Tryz.ntmps18
      go_wp2_with fail
      refine cC.out.mono ?_
      rintro e w' ⟨rfl, q, rfl⟩
      go_wp2
      go_region_law (first
        | (go_simp; go_at_call 67; refine (cCut.out _ _).mono ?_; rintro e w' ⟨rfl, rfl⟩)
        | (go_simp; go_at_call 66; refine (cP.out _).mono ?_; rintro e w1 ⟨v1, rfl, o1, b1⟩; have hbk := hide ((b1.block z2.a (by simpa using hlt)).trans hblk.out); have k2 := (hw12.out w1 hbk.out).1; have k3 := (hw12.out w1 hbk.out).2; obtain ⟨A1, c1, rfl, _⟩ := own_form o1; replace o1 := hide o1; replace b1 := hide b1))
      all_goals
        go_wp2
        go_ret
        have hLo := hL.out
        subst hLo
        have hbb := b1.out
        have hoo := o1.out
        exact ⟨rfl, (hh.out.placed hz'.out ht'.out ⟨id, cutF x, cutF y⟩ ((below_drewN (Below.refl w.heap.size w) _).trans hbb) hoo).out⟩

def byK (s : Sf) (by' : Int) : Int := if by' = s.parent then 0 else by'
def besK (M : Fo) (id by' : Int) : Nat := match M id with
  | none => 5
  | some s => if s.parent = 0 then 10 else if by' = 0 then 11 else match M s.parent with
    | none => 0
    | some p => if id ∈ p.latest ∧ byK s by' ∈ p.latest ∧ id ≠ byK s by' then 0 else 11
def besS (M : Fo) (id by' : Int) (k : Nat) : Fo := if besK M id by' = 0 then match M id with
  | none => M
  | some s => match M s.parent with
    | none => M
    | some p => setM M s.parent (some (orderT p (putL p.latest id (byK s by') k))) else M
set_option maxRecDepth 100000 in
set_option maxHeartbeats 1000000 in
theorem beside_below {B : Nat} (w : World) {ae : Nat → Addr} (hE : ErrF B w ae) (hBs : B ≤ w.heap.size) (h : ForZ w p mb F n Z M) (hG : GoodM M) (id by' : Int) (hid : I64 id) (hby : I64 by') (hlen : ∀ i t, M i = some t → t.latest.length ≤ 1000000) :
    Calls Tryz.prog 68 #[.pointer (some ⟨p, 0, none⟩), .int .i64 id, .int .i64 by', .func (.func 70) #[] #[]] w fun e w' => e = .returned (errV ae (besK M id by')) ∧ FOutN w p n F (besS M id by' 0) w' := by
  have cC := fChild_any w hE h hG id hid
  have g10 : w.cell? ⟨10, 0, none⟩ = _ := hE.glob 10 (by decide)
  cases hs : M id with
  | none =>
    have e1 : besK M id by' = 5 := by simp [besK, hs]
    have e2 : besS M id by' 0 = M := by unfold besS; rw [if_neg (by rw [e1]; decide)]
    have e3 : childV Z M id = (.pointer none, .pointer none) := by simp [childV, hs]
    have e4 : childK M id = 5 := by simp [childK, hs]
    rw [e4, e3, show errV ae 5 = .iface 205 (.pointer (some (ae 4))) from rfl] at cC
    rw [e1, e2]
    have hout := hide (fun q => FOutN.stayB h.out (below_drewN (Below.refl _ w) q))
    replace cC := hide cC
    clear h hG hE hs e1 e2 e3 e4 hlen g10
    go_enter Tryz.func68, Tryz.ntmps68
    go_wp2_with fail
    refine cC.out.mono ?_
    rintro e w' ⟨rfl, q, rfl⟩
    go_wp2
    go_ret
    exact ⟨rfl, hout.out _⟩
  | some t =>
    by_cases hp : t.parent = 0
    · have e1 : besK M id by' = 10 := by simp [besK, hs, hp]
      have e2 : besS M id by' 0 = M := by unfold besS; rw [if_neg (by rw [e1]; decide)]
      have e3 : childV Z M id = (.pointer none, .pointer none) := by simp [childV, hs, hp]
      have e4 : childK M id = 10 := by simp [childK, hs, hp]
      rw [e4, e3, show errV ae 10 = .iface 205 (.pointer (some (ae 9))) from rfl] at cC
      rw [e1, e2]
      have hout := hide (fun q => FOutN.stayB h.out (below_drewN (Below.refl _ w) q))
      replace cC := hide cC
      clear h hG hE hs e1 e2 e3 e4 hp hlen g10
      go_enter Tryz.func68, Tryz.ntmps68
      go_wp2_with fail
      refine cC.out.mono ?_
      rintro e w' ⟨rfl, q, rfl⟩
      go_wp2
      go_ret
      exact ⟨rfl, hout.out _⟩
    · obtain ⟨z, hz, ht⟩ := h.find hs
      obtain ⟨t2, ht2⟩ := hG.par id t hs hp
      obtain ⟨z2, hz2, hs2⟩ := h.find ht2
      have e3 : childV Z M id = (.pointer (some ⟨z.a, 0, none⟩), .pointer (some ⟨z2.a, 0, none⟩)) := by simp [childV, hs, hp, hz, hz2, SfV.ptr]
      have e4 : childK M id = 0 := by simp [childK, hs, hp]
      rw [e4, e3, show errV ae 0 = .nilIface from rfl] at cC
      replace cC := hide cC
      by_cases hb0 : by' = 0
      · have e1 : besK M id by' = 11 := by simp [besK, hs, hp, hb0]
        have e2 : besS M id by' 0 = M := by unfold besS; rw [if_neg (by rw [e1]; decide)]
        rw [e1, e2]
        subst hb0
        have hout := hide (fun q => FOutN.stayB h.out (below_drewN (Below.refl _ w) q))
        clear h hG hE hs e1 e2 e3 e4 hp hz ht hz2 ht2 hlen hs2
        go_enter Tryz.func68, Tryz.ntmps68
        go_wp2_with fail
        refine cC.out.mono ?_
        rintro e w' ⟨rfl, q, rfl⟩
        go_wp2
        go_ret
        exact ⟨rfl, hout.out _⟩
      · have hb1 : (by' == 0) = false := by simpa using hb0
        have c1 : w.cell? ⟨z.a, 1, none⟩ = some (.int .i64 t.parent) := ht.cell 1
        have cL := hide (fun q => sLatest_any (w.drewN q) ((h.drewN q).surf t.parent z2 t2 hz2 ht2))
        have hrd := latV_rd hs2
        have hrdq := fun q => hrd.below (below_drewN (Below.refl _ w) q) (Nat.le_refl _)
        have hlat := hlen _ _ ht2
        obtain ⟨Av, cv, hlv, _⟩ := hrd.form
        rw [hlv] at cL hrdq
        have key : ∃ k : Int, k = byK t by' ∧ (if by' = t.parent then k = 0 else k = by') := ⟨_, rfl, by unfold byK; split <;> rfl⟩
        obtain ⟨k, hk, hk2⟩ := key
        by_cases hok : id ∈ t2.latest ∧ k ∈ t2.latest ∧ id ≠ k
        · have e1 : besK M id by' = 0 := by unfold besK; rw [hs]; dsimp only; rw [if_neg hp, if_neg hb0, ht2]; dsimp only; rw [← hk, if_pos hok]
          have e2 : besS M id by' 0 = setM M t.parent (some (orderT t2 (putL t2.latest id k 0))) := by unfold besS; rw [if_pos e1, hs]; dsimp only; rw [ht2]; dsimp only; rw [← hk]
          rw [e1, e2]
          have cO := hide (fun q => below_ok (w.drewN q) _ t2.latest id k (hrdq q) hlat hok.1 hok.2.1 hok.2.2)
          have cS := hide (fun (w1 : World) (q : Nat) (hb : Below (w.drewN q).heap.size (w.drewN q) w1) A l c => sOrder_any w1 (((h.drewN q).below hb).surf t.parent z2 t2 hz2 ht2) A l c)
          have hh := hide h
          have hz' := hide hz2
          have ht' := hide hs2
          by_cases hbp : by' = t.parent
          · rw [if_pos hbp] at hk2
            subst hk2
            have hbq : ((by' : Int) == t.parent) = true := by simpa using hbp
            clear h hG hE hs e1 e2 e3 e4 hp hz ht hz2 ht2 hlen hs2 g10 hk hok hrd hrdq hlv hbp
            generalize t.parent = tp at c1 hbq hz' ht' cS ⊢
            go_enter Tryz.func68, Tryz.ntmps68
            go_wp2_with fail
            refine cC.out.mono ?_
            rintro e w' ⟨rfl, q, rfl⟩
            go_wp2_with fail
            refine (cL.out _).mono ?_
            rintro e w' ⟨rfl, rfl⟩
            go_wp2_with fail
            refine (cO.out _).mono ?_
            rintro e w1 ⟨v1, rfl, o1, b1⟩
            obtain ⟨A1, c1', rfl, _⟩ := own_form o1
            replace o1 := hide o1
            have b1' := hide b1
            go_wp2_with fail
            refine (cS.out _ _ b1 _ _ _).mono ?_
            rintro e w' ⟨rfl, rfl⟩
            go_wp2
            go_ret
            exact ⟨rfl, hh.out.ordered hz'.out ht'.out _ ((below_drewN (Below.refl w.heap.size w) _).trans b1'.out) o1.out⟩
          · rw [if_neg hbp] at hk2
            subst hk2
            have hbq : ((k : Int) == t.parent) = false := by simpa using hbp
            clear h hG hE hs e1 e2 e3 e4 hp hz ht hz2 ht2 hlen hs2 g10 hk hok hrd hrdq hlv hbp
            generalize t.parent = tp at c1 hbq hz' ht' cS ⊢
            go_enter Tryz.func68, Tryz.ntmps68
            go_wp2_with fail
            refine cC.out.mono ?_
            rintro e w' ⟨rfl, q, rfl⟩
            go_wp2_with fail
            refine (cL.out _).mono ?_
            rintro e w' ⟨rfl, rfl⟩
            go_wp2_with fail
            refine (cO.out _).mono ?_
            rintro e w1 ⟨v1, rfl, o1, b1⟩
            obtain ⟨A1, c1', rfl, _⟩ := own_form o1
            replace o1 := hide o1
            have b1' := hide b1
            go_wp2_with fail
            refine (cS.out _ _ b1 _ _ _).mono ?_
            rintro e w' ⟨rfl, rfl⟩
            go_wp2
            go_ret
            exact ⟨rfl, hh.out.ordered hz'.out ht'.out _ ((below_drewN (Below.refl w.heap.size w) _).trans b1'.out) o1.out⟩
        · have e1 : besK M id by' = 11 := by unfold besK; rw [hs]; dsimp only; rw [if_neg hp, if_neg hb0, ht2]; dsimp only; rw [← hk, if_neg hok]
          have e2 : besS M id by' 0 = M := by unfold besS; rw [if_neg (by rw [e1]; decide)]
          rw [e1, e2]
          have hno : id ∉ t2.latest ∨ k ∉ t2.latest ∨ id = k := by
            by_cases a1 : id ∈ t2.latest
            · by_cases a2 : k ∈ t2.latest
              · exact .inr (.inr (Classical.byContradiction fun a3 => hok ⟨a1, a2, a3⟩))
              · exact .inr (.inl a2)
            · exact .inl a1
          have cO := hide (fun q => below_bad (w.drewN q) (hE.drewN q) _ t2.latest id k (hrdq q) hlat hno)
          have hout := hide (fun q => FOutN.stayB h.out (below_drewN (Below.refl _ w) q))
          by_cases hbp : by' = t.parent
          · rw [if_pos hbp] at hk2
            subst hk2
            have hbq : ((by' : Int) == t.parent) = true := by simpa using hbp
            clear h hG hE hs e1 e2 e3 e4 hp hz ht hz2 ht2 hlen hs2 g10 hk hok hrd hrdq hlv hbp hno
            generalize t.parent = tp at c1 hbq ⊢
            go_enter Tryz.func68, Tryz.ntmps68
            go_wp2_with fail
            refine cC.out.mono ?_
            rintro e w' ⟨rfl, q, rfl⟩
            go_wp2_with fail
            refine (cL.out _).mono ?_
            rintro e w' ⟨rfl, rfl⟩
            go_wp2_with fail
            refine (cO.out _).mono ?_
            rintro e w1 ⟨rfl, q1, rfl⟩
            rw [show errV ae 11 = .iface 205 (.pointer (some (ae 10))) from rfl]
            go_wp2
            go_ret
            exact ⟨rfl, hout.out _⟩
          · rw [if_neg hbp] at hk2
            subst hk2
            have hbq : ((k : Int) == t.parent) = false := by simpa using hbp
            clear h hG hE hs e1 e2 e3 e4 hp hz ht hz2 ht2 hlen hs2 g10 hk hok hrd hrdq hlv hbp hno
            generalize t.parent = tp at c1 hbq ⊢
            go_enter Tryz.func68, Tryz.ntmps68
            go_wp2_with fail
            refine cC.out.mono ?_
            rintro e w' ⟨rfl, q, rfl⟩
            go_wp2_with fail
            refine (cL.out _).mono ?_
            rintro e w' ⟨rfl, rfl⟩
            go_wp2_with fail
            refine (cO.out _).mono ?_
            rintro e w1 ⟨rfl, q1, rfl⟩
            rw [show errV ae 11 = .iface 205 (.pointer (some (ae 10))) from rfl]
            go_wp2
            go_ret
            exact ⟨rfl, hout.out _⟩
theorem fBelow_any {B : Nat} (w : World) {ae : Nat → Addr} (hE : ErrF B w ae) (hBs : B ≤ w.heap.size) (h : ForZ w p mb F n Z M) (hG : GoodM M) (id by' : Int) (hid : I64 id) (hby : I64 by') (hlen : ∀ i t, M i = some t → t.latest.length ≤ 1000000) :
    Calls Tryz.prog 20 #[.pointer (some ⟨p, 0, none⟩), .int .i64 id, .int .i64 by'] w fun e w' => e = .returned (errV ae (besK M id by')) ∧ FOutN w p n F (besS M id by' 0) w' := by
  have cB := hide (beside_below w hE hBs h hG id by' hid hby hlen)
  clear h hG hE hlen
  go_enter Tryz.func20, Tryz.ntmps20
  go_wp2_with fail
  refine cB.out.mono ?_
  rintro e w1 ⟨rfl, hf⟩
  replace hf := hide hf
  go_wp2
  go_ret
  exact ⟨rfl, hf.out⟩
set_option maxRecDepth 100000 in
set_option maxHeartbeats 1000000 in
theorem beside_above {B : Nat} (w : World) {ae : Nat → Addr} (hE : ErrF B w ae) (hBs : B ≤ w.heap.size) (h : ForZ w p mb F n Z M) (hG : GoodM M) (id by' : Int) (hid : I64 id) (hby : I64 by') (hlen : ∀ i t, M i = some t → t.latest.length ≤ 1000000) :
    Calls Tryz.prog 68 #[.pointer (some ⟨p, 0, none⟩), .int .i64 id, .int .i64 by', .func (.func 69) #[] #[]] w fun e w' => e = .returned (errV ae (besK M id by')) ∧ FOutN w p n F (besS M id by' 1) w' := by
  have cC := fChild_any w hE h hG id hid
  have g10 : w.cell? ⟨10, 0, none⟩ = _ := hE.glob 10 (by decide)
  cases hs : M id with
  | none =>
    have e1 : besK M id by' = 5 := by simp [besK, hs]
    have e2 : besS M id by' 1 = M := by unfold besS; rw [if_neg (by rw [e1]; decide)]
    have e3 : childV Z M id = (.pointer none, .pointer none) := by simp [childV, hs]
    have e4 : childK M id = 5 := by simp [childK, hs]
    rw [e4, e3, show errV ae 5 = .iface 205 (.pointer (some (ae 4))) from rfl] at cC
    rw [e1, e2]
    have hout := hide (fun q => FOutN.stayB h.out (below_drewN (Below.refl _ w) q))
    replace cC := hide cC
    clear h hG hE hs e1 e2 e3 e4 hlen g10
    go_enter Tryz.func68, Tryz.ntmps68
    go_wp2_with fail
    refine cC.out.mono ?_
    rintro e w' ⟨rfl, q, rfl⟩
    go_wp2
    go_ret
    exact ⟨rfl, hout.out _⟩
  | some t =>
    by_cases hp : t.parent = 0
    · have e1 : besK M id by' = 10 := by simp [besK, hs, hp]
      have e2 : besS M id by' 1 = M := by unfold besS; rw [if_neg (by rw [e1]; decide)]
      have e3 : childV Z M id = (.pointer none, .pointer none) := by simp [childV, hs, hp]
      have e4 : childK M id = 10 := by simp [childK, hs, hp]
      rw [e4, e3, show errV ae 10 = .iface 205 (.pointer (some (ae 9))) from rfl] at cC
      rw [e1, e2]
      have hout := hide (fun q => FOutN.stayB h.out (below_drewN (Below.refl _ w) q))
      replace cC := hide cC
      clear h hG hE hs e1 e2 e3 e4 hp hlen g10
      go_enter Tryz.func68, Tryz.ntmps68
      go_wp2_with fail
      refine cC.out.mono ?_
      rintro e w' ⟨rfl, q, rfl⟩
      go_wp2
      go_ret
      exact ⟨rfl, hout.out _⟩
    · obtain ⟨z, hz, ht⟩ := h.find hs
      obtain ⟨t2, ht2⟩ := hG.par id t hs hp
      obtain ⟨z2, hz2, hs2⟩ := h.find ht2
      have e3 : childV Z M id = (.pointer (some ⟨z.a, 0, none⟩), .pointer (some ⟨z2.a, 0, none⟩)) := by simp [childV, hs, hp, hz, hz2, SfV.ptr]
      have e4 : childK M id = 0 := by simp [childK, hs, hp]
      rw [e4, e3, show errV ae 0 = .nilIface from rfl] at cC
      replace cC := hide cC
      by_cases hb0 : by' = 0
      · have e1 : besK M id by' = 11 := by simp [besK, hs, hp, hb0]
        have e2 : besS M id by' 1 = M := by unfold besS; rw [if_neg (by rw [e1]; decide)]
        rw [e1, e2]
        subst hb0
        have hout := hide (fun q => FOutN.stayB h.out (below_drewN (Below.refl _ w) q))
        clear h hG hE hs e1 e2 e3 e4 hp hz ht hz2 ht2 hlen hs2
        go_enter Tryz.func68, Tryz.ntmps68
        go_wp2_with fail
        refine cC.out.mono ?_
        rintro e w' ⟨rfl, q, rfl⟩
        go_wp2
        go_ret
        exact ⟨rfl, hout.out _⟩
      · have hb1 : (by' == 0) = false := by simpa using hb0
        have c1 : w.cell? ⟨z.a, 1, none⟩ = some (.int .i64 t.parent) := ht.cell 1
        have cL := hide (fun q => sLatest_any (w.drewN q) ((h.drewN q).surf t.parent z2 t2 hz2 ht2))
        have hrd := latV_rd hs2
        have hrdq := fun q => hrd.below (below_drewN (Below.refl _ w) q) (Nat.le_refl _)
        have hlat := hlen _ _ ht2
        obtain ⟨Av, cv, hlv, _⟩ := hrd.form
        rw [hlv] at cL hrdq
        have key : ∃ k : Int, k = byK t by' ∧ (if by' = t.parent then k = 0 else k = by') := ⟨_, rfl, by unfold byK; split <;> rfl⟩
        obtain ⟨k, hk, hk2⟩ := key
        by_cases hok : id ∈ t2.latest ∧ k ∈ t2.latest ∧ id ≠ k
        · have e1 : besK M id by' = 0 := by unfold besK; rw [hs]; dsimp only; rw [if_neg hp, if_neg hb0, ht2]; dsimp only; rw [← hk, if_pos hok]
          have e2 : besS M id by' 1 = setM M t.parent (some (orderT t2 (putL t2.latest id k 1))) := by unfold besS; rw [if_pos e1, hs]; dsimp only; rw [ht2]; dsimp only; rw [← hk]
          rw [e1, e2]
          have cO := hide (fun q => above_ok (w.drewN q) (hE.drewN q) hBs _ t2.latest id k (hrdq q) hlat hok.1 hok.2.1 hok.2.2)
          have cS := hide (fun (w1 : World) (q : Nat) (hb : Below (w.drewN q).heap.size (w.drewN q) w1) A l c => sOrder_any w1 (((h.drewN q).below hb).surf t.parent z2 t2 hz2 ht2) A l c)
          have hh := hide h
          have hz' := hide hz2
          have ht' := hide hs2
          by_cases hbp : by' = t.parent
          · rw [if_pos hbp] at hk2
            subst hk2
            have hbq : ((by' : Int) == t.parent) = true := by simpa using hbp
            clear h hG hE hs e1 e2 e3 e4 hp hz ht hz2 ht2 hlen hs2 g10 hk hok hrd hrdq hlv hbp
            generalize t.parent = tp at c1 hbq hz' ht' cS ⊢
            go_enter Tryz.func68, Tryz.ntmps68
            go_wp2_with fail
            refine cC.out.mono ?_
            rintro e w' ⟨rfl, q, rfl⟩
            go_wp2_with fail
            refine (cL.out _).mono ?_
            rintro e w' ⟨rfl, rfl⟩
            go_wp2_with fail
            refine (cO.out _).mono ?_
            rintro e w1 ⟨v1, rfl, o1, b1⟩
            obtain ⟨A1, c1', rfl, _⟩ := own_form o1
            replace o1 := hide o1
            have b1' := hide b1
            go_wp2_with fail
            refine (cS.out _ _ b1 _ _ _).mono ?_
            rintro e w' ⟨rfl, rfl⟩
            go_wp2
            go_ret
            exact ⟨rfl, hh.out.ordered hz'.out ht'.out _ ((below_drewN (Below.refl w.heap.size w) _).trans b1'.out) o1.out⟩
          · rw [if_neg hbp] at hk2
            subst hk2
            have hbq : ((k : Int) == t.parent) = false := by simpa using hbp
            clear h hG hE hs e1 e2 e3 e4 hp hz ht hz2 ht2 hlen hs2 g10 hk hok hrd hrdq hlv hbp
            generalize t.parent = tp at c1 hbq hz' ht' cS ⊢
            go_enter Tryz.func68, Tryz.ntmps68
            go_wp2_with fail
            refine cC.out.mono ?_
            rintro e w' ⟨rfl, q, rfl⟩
            go_wp2_with fail
            refine (cL.out _).mono ?_
            rintro e w' ⟨rfl, rfl⟩
            go_wp2_with fail
            refine (cO.out _).mono ?_
            rintro e w1 ⟨v1, rfl, o1, b1⟩
            obtain ⟨A1, c1', rfl, _⟩ := own_form o1
            replace o1 := hide o1
            have b1' := hide b1
            go_wp2_with fail
            refine (cS.out _ _ b1 _ _ _).mono ?_
            rintro e w' ⟨rfl, rfl⟩
            go_wp2
            go_ret
            exact ⟨rfl, hh.out.ordered hz'.out ht'.out _ ((below_drewN (Below.refl w.heap.size w) _).trans b1'.out) o1.out⟩
        · have e1 : besK M id by' = 11 := by unfold besK; rw [hs]; dsimp only; rw [if_neg hp, if_neg hb0, ht2]; dsimp only; rw [← hk, if_neg hok]
          have e2 : besS M id by' 1 = M := by unfold besS; rw [if_neg (by rw [e1]; decide)]
          rw [e1, e2]
          have hno : id ∉ t2.latest ∨ k ∉ t2.latest ∨ id = k := by
            by_cases a1 : id ∈ t2.latest
            · by_cases a2 : k ∈ t2.latest
              · exact .inr (.inr (Classical.byContradiction fun a3 => hok ⟨a1, a2, a3⟩))
              · exact .inr (.inl a2)
            · exact .inl a1
          have cO := hide (fun q => above_bad (w.drewN q) (hE.drewN q) _ t2.latest id k (hrdq q) hlat hno)
          have hout := hide (fun q => FOutN.stayB h.out (below_drewN (Below.refl _ w) q))
          by_cases hbp : by' = t.parent
          · rw [if_pos hbp] at hk2
            subst hk2
            have hbq : ((by' : Int) == t.parent) = true := by simpa using hbp
            clear h hG hE hs e1 e2 e3 e4 hp hz ht hz2 ht2 hlen hs2 g10 hk hok hrd hrdq hlv hbp hno
            generalize t.parent = tp at c1 hbq ⊢
            go_enter Tryz.func68, Tryz.ntmps68
            go_wp2_with fail
            refine cC.out.mono ?_
            rintro e w' ⟨rfl, q, rfl⟩
            go_wp2_with fail
            refine (cL.out _).mono ?_
            rintro e w' ⟨rfl, rfl⟩
            go_wp2_with fail
            refine (cO.out _).mono ?_
            rintro e w1 ⟨rfl, q1, rfl⟩
            rw [show errV ae 11 = .iface 205 (.pointer (some (ae 10))) from rfl]
            go_wp2
            go_ret
            exact ⟨rfl, hout.out _⟩
          · rw [if_neg hbp] at hk2
            subst hk2
            have hbq : ((k : Int) == t.parent) = false := by simpa using hbp
            clear h hG hE hs e1 e2 e3 e4 hp hz ht hz2 ht2 hlen hs2 g10 hk hok hrd hrdq hlv hbp hno
            generalize t.parent = tp at c1 hbq ⊢
            go_enter Tryz.func68, Tryz.ntmps68
            go_wp2_with fail
            refine cC.out.mono ?_
            rintro e w' ⟨rfl, q, rfl⟩
            go_wp2_with fail
            refine (cL.out _).mono ?_
            rintro e w' ⟨rfl, rfl⟩
            go_wp2_with fail
            refine (cO.out _).mono ?_
            rintro e w1 ⟨rfl, q1, rfl⟩
            rw [show errV ae 11 = .iface 205 (.pointer (some (ae 10))) from rfl]
            go_wp2
            go_ret
            exact ⟨rfl, hout.out _⟩
theorem fAbove_any {B : Nat} (w : World) {ae : Nat → Addr} (hE : ErrF B w ae) (hBs : B ≤ w.heap.size) (h : ForZ w p mb F n Z M) (hG : GoodM M) (id by' : Int) (hid : I64 id) (hby : I64 by') (hlen : ∀ i t, M i = some t → t.latest.length ≤ 1000000) :
    Calls Tryz.prog 19 #[.pointer (some ⟨p, 0, none⟩), .int .i64 id, .int .i64 by'] w fun e w' => e = .returned (errV ae (besK M id by')) ∧ FOutN w p n F (besS M id by' 1) w' := by
  have cB := hide (beside_above w hE hBs h hG id by' hid hby hlen)
  clear h hG hE hlen
  go_enter Tryz.func19, Tryz.ntmps19
  go_wp2_with fail
  refine cB.out.mono ?_
  rintro e w1 ⟨rfl, hf⟩
  replace hf := hide hf
  go_wp2
  go_ret
  exact ⟨rfl, hf.out⟩
end
end Go.Proofs.YthkjicnnepkghaaGreatDoor
