/-
  A surface that is gone (Drop).
  Package forest: Drop.
-/
import Derived.Test.YthkjicnnepkghaaDoorForest5
import Derived.Test.YthkjicnnepkghaaDoorIRange
import Derived.Test.YthkjicnnepkghaaDoorForest12
namespace Go.Proofs.YthkjicnnepkghaaDoor
open Go.RowKit
set_option linter.unusedVariables false

section
variable {w w' w1 : World} {p mb n : Nat} {F : Nat → Prop} {Z : Int → Option SfV} {M : Fo} {id : Int} {t t' : Sf} {z z' : SfV}
theorem ForZ.less (h : ForZ w p mb F n Z M) (hc : Chg (fun b => b = mb) w w') (hm : MapAt Tryd.prog 3 w' mb n (delM (fun id => (Z id).map SfV.ptr) id)) :
    ForZ w' p mb F n (setZ Z id none) (setM M id none) := by
  obtain ⟨es, cl, hmb⟩ := h.map.isMapBlock
  have hpm : p ≠ mb := ne_of_typesF h.cell hmb (by simp)
  have hk : ∀ b, F b → b ≠ mb → w'.heap[b]? = w.heap[b]? := fun b hb h1 => hc.block b (h.lt b hb) h1
  have old : ∀ {j y}, setZ Z id none j = some y → j ≠ id ∧ Z j = some y := fun {j y} hy => by
    rcases setZ_eq hy with ⟨_, e⟩ | e
    · cases e
    · exact e
  refine ⟨(hk p h.pF hpm).trans h.cell, ?_, h.pF, h.mF, ?_, ?_, ?_, ?_, ?_, ?_⟩
  · refine hm.congr fun j hj => ?_
    unfold setZ delM
    by_cases e : j = id <;> simp [e]
  · intro j y s hy hs2
    obtain ⟨e1, e⟩ := old hy
    rw [setM_other _ _ e1] at hs2
    exact (h.surf j y s e hs2).keep hc.size fun b hb => hk b (h.inF j y e b hb) fun hb2 => (h.pz j y e).2 (hb2 ▸ hb)
  · intro j y hy
    exact h.inF j y (old hy).2
  · intro j
    by_cases e : j = id
    · subst e; rw [setM_same]; simp [setZ]
    · rw [setM_other _ _ e]; simp [setZ, e, h.dom j]
  · intro i j y1 y2 h1 h2 hij
    exact h.one i j y1 y2 (old h1).2 (old h2).2 hij
  · intro i y hy
    exact h.pz i y (old hy).2
  · exact fun b hb => Nat.lt_of_lt_of_le (h.lt b hb) hc.size
/-- Drop's loop: a surface that stood in id stands alone now. -/
theorem ForZ.freed (h : ForZ w p mb F n Z M) {j : Int} (hz : Z j = some z) (hs : M j = some t) :
    ∃ z', z'.a = z.a ∧ FZOut w p mb n F (setZ Z j (some z')) (setM M j (some { t with parent := 0 })) (w.setCell ⟨z.a, 1, none⟩ (.int .i64 0)) := by
  have ht := h.surf _ _ _ hz hs
  exact ⟨{ z with G := grownG w (w.setCell ⟨z.a, 1, none⟩ (.int .i64 0)) z.G }, rfl, h.turnZ (t' := { t with parent := 0 }) hz (chg1 w z.a 1 (.int .i64 0) (.inl rfl)) rfl
    (ht.froz (chg1e w z.a 1 (.int .i64 0)) rfl rfl (set_cells ht 1 _ rfl) (.inl ⟨rfl, rfl⟩) (.inl ⟨rfl, rfl⟩) .same .same .same .same .same)⟩

/-- Those of id's children that the loop has passed stand alone. -/
def orphL (M : Fo) (id : Int) (L : Int → Bool) : Fo := fun j => (M j).map fun s => if s.parent = id ∧ L j = false then { s with parent := 0 } else s
theorem orphL_start (M : Fo) (id : Int) : orphL M id (fun j => (M j).isSome) = M := by
  funext j
  unfold orphL
  cases h : M j with
  | none => rfl
  | some s => simp [h]
theorem orphL_end {M : Fo} {id : Int} {L : Int → Bool} (h : ∀ j, (M j).isSome → L j = false) : orphL M id L = orphan M id := by
  funext j
  unfold orphL orphan
  cases e : M j with
  | none => rfl
  | some s => simp [h j (by rw [e]; rfl)]
theorem orphan_gone (M : Fo) (id : Int) : orphan (setM M id none) id = setM (orphan M id) id none := by
  funext j
  unfold orphan setM
  split <;> rfl
theorem orphL_skip {M : Fo} {id x : Int} {L : Int → Bool} {s : Sf} (hs : M x = some s) (hp : s.parent ≠ id) : orphL M id (fun z => L z && z != x) = orphL M id L := by
  funext j
  unfold orphL
  by_cases e : j = x
  · subst e; rw [hs]; simp [hp]
  · have : (j != x) = true := by simpa using e
    simp [this]
theorem orphL_take {M : Fo} {id x : Int} {L : Int → Bool} {s : Sf} (hs : M x = some s) (hp : s.parent = id) (hL : L x = true) :
    orphL M id L x = some s ∧ orphL M id (fun z => L z && z != x) = setM (orphL M id L) x (some { s with parent := 0 }) := by
  refine ⟨by unfold orphL; rw [hs]; simp [hL], ?_⟩
  funext j
  by_cases e : j = x
  · subst e; rw [setM_same]; unfold orphL; rw [hs]; simp [hp]
  · rw [setM_other _ _ e]
    unfold orphL
    have : (j != x) = true := by simpa using e
    simp [this]
theorem grown_setCellF (w : World) (a k : Nat) (u : Value) : w.grownBy (w.setCell ⟨a, k, none⟩ u) (some a) :=
  have c := chg1e w a k u
  ⟨c.os, c.tape, c.output, c.size, fun b hb hn => c.block b hb (fun e => hn (by rw [e]))⟩
/-- A surface's cell is no part of the map, nor of its iterator. -/
theorem range_setCell {ki : TypeId} {r cnt : Nat} {N : Int → Option Value} {L : Int → Bool} (h : RangeAt Tryd.prog ki w mb r n N L cnt) {a k : Nat} {u : Value} (h1 : a ≠ mb) (h2 : a ≠ r) : RangeAt Tryd.prog ki (w.setCell ⟨a, k, none⟩ u) mb r n N L cnt :=
  h.kept (grown_setCellF w a k u) (fun e => h1 (Option.some.inj e).symm) (fun e => h2 (Option.some.inj e).symm)
end

set_option linter.unusedVariables false

theorem orphL_all {M : Fo} {id : Int} {L : Int → Bool} (h : ∀ j, (M j).isSome → L j = true) : orphL M id L = M := by
  funext j
  unfold orphL
  cases e : M j with
  | none => rfl
  | some s => simp [h j (by rw [e]; rfl)]
section
variable {w w' w1 : World} {p mb n : Nat} {F : Nat → Prop} {Z : Int → Option SfV} {M : Fo} {id : Int} {t t' : Sf} {z z' : SfV}
set_option maxRecDepth 100000 in
set_option maxHeartbeats 2000000 in
/-- Drop of what is not there. -/
theorem fDrop_none {B : Nat} (w : World) {ae : Nat → Addr} (hE : ErrF B w ae) (h : ForZ w p mb F n Z M) (id : Int) (hid : I64 id) (hs : M id = none) :
    Calls Tryd.prog 24 #[.pointer (some ⟨p, 0, none⟩), .int .i64 id] w fun e w' => e = .returned (errV ae 5) ∧ w' = w := by
  have g4 : w.cell? ⟨1, 0, none⟩ = _ := hE.glob 4 (by decide)
  have cH := fHas_any w h id hid
  rw [hs] at cH
  simp only [Option.isSome_none] at cH
  replace cH := hide cH
  clear h hE hs
  go_enter Tryd.func24, Tryd.ntmps24
  go_wp2_with (go_at_call 25; refine cH.out.mono ?_; rintro e w' ⟨rfl, rfl⟩)
  go_ret
  exact ⟨rfl, rfl⟩

set_option maxRecDepth 100000 in
set_option maxHeartbeats 2000000 in
/-- Drop of what stands alone. -/
theorem fDrop_free (w : World) (h : ForZ w p mb F n Z M) (id : Int) (hid : I64 id) (hs : M id = some t) (h0 : t.parent = 0) :
    Calls Tryd.prog 24 #[.pointer (some ⟨p, 0, none⟩), .int .i64 id] w fun e w' => e = .returned .nilIface ∧ FOutN w p n F (setM (orphan M id) id none) w' := by
  have hc := h.cellP
  have cH := fHas_any w h id hid
  have cP := fParent_any w h id hid
  have e0 : parM M id = 0 := by simp [parM, hs, h0]
  rw [hs] at cH
  rw [e0] at cP
  simp only [Option.isSome_some] at cH
  replace cH := hide cH
  replace cP := hide cP
  have hh := hide h
  have hsh := hide hs
  clear h hs h0 e0
  go_enter Tryd.func24, Tryd.ntmps24
  go_wp2_with (first
    | (go_at_call 25; refine cH.out.mono ?_; rintro e w' ⟨rfl, rfl⟩)
    | (go_at_call 20; refine cP.out.mono ?_; rintro e w' ⟨rfl, rfl⟩)
    | (at_delete; refine wpList_del rfl _ _ 54 3 rfl 57 Tryd.underlying3 Tryd.underlying54 mb n _ rfl hh.out.map id rfl hid ?_; intro w1 hm2 hg2; have h1 := hide (hh.out.less (Chg.grown hg2 (F := fun b => b = mb) (fun b hb => (Option.some.inj hb).symm)) hm2); have hc1 := h1.out.cellP)
    | (at_range; refine wpList_rangeM rfl _ _ rfl 3 57 Tryd.underlying3 Tryd.underlying54 mb n _ rfl h1.out.map ?_; intro w2 cnt hR hgr hsz))
  have hrl : ¬ F w1.heap.size := fun hf => by have := hh.out.lt _ hf; have := hg2.size; omega
  have hF2 := hide (h1.out.below (Chg.below (Chg.grown hgr (F := fun _ => False) (fun b hb => by cases hb)) (Nat.le_refl _) (fun _ hb => hb.elim)))
  have hc2 : Hid (Chg F w w2) := hide (((Chg.grown hg2 (F := fun b => b = mb) (fun b hb => (Option.some.inj hb).symm)).mono (fun b _ hb => hb ▸ hh.out.mF)).trans (Chg.grown hgr (F := F) (fun b hb => by cases hb)) (Ext.refl _ _))
  replace hR := hide hR
  have hrs : w1.heap.size < w2.heap.size := by omega
  have hw1 := hide (hg2.size)
  clear hgr hg2 hm2 hc1 hc h1
  go_frame
  go_loopw [6] (fun _ wr => ∃ (L : Int → Bool) (cnt : Nat), Hid (RangeAt Tryd.prog 3 wr mb w1.heap.size n (fun j => (setZ Z id none j).map SfV.ptr) L cnt) ∧
      Hid (∃ Fr Zr, ForZ wr p mb Fr n Zr (orphL (setM M id none) id L) ∧ Chg F w wr ∧ Ext F Fr w2.heap.size ∧ w2.heap.size ≤ wr.heap.size ∧ ∀ j, (Zr j).map SfV.ptr = (setZ Z id none j).map SfV.ptr)) (fun _ wr => wr.rangeLeft mb w1.heap.size)
  case atStart =>
    refine ⟨_, cnt, hR, hide ⟨F, _, ?_, hc2.out, Ext.refl _ _, Nat.le_refl _, fun _ => rfl⟩⟩
    rw [orphL_all fun j hj => by have := hF2.out.dom j; rw [hj] at this; simpa using this]
    exact hF2.out
  case round =>
    obtain ⟨L, cnt, hR, hZ⟩ := hrel
    obtain ⟨wC, hwC⟩ : ∃ wC, wC = wr := ⟨_, rfl⟩
    subst hwC
    go_wp2_with (at_next; refine wpList_nextM rfl _ rfl 3 Tryd.underlying3 mb w1.heap.size n _ L cnt rfl hR.out ?_ ?_)
    · intro hDone
      have hL : ∀ j, (setM M id none j).isSome → L j = false := fun j hj => by
        obtain ⟨s, hs⟩ := Option.isSome_iff_exists.1 hj
        obtain ⟨z, hz, ht⟩ := hF2.out.find hs
        exact hDone j ht.id64
      have hfin : Hid (FOutN w p n F (setM (orphan M id) id none) wC) := hide (by
        obtain ⟨Fr, Zr, k1, k2, k3, _⟩ := hZ.out
        rw [orphL_end hL, orphan_gone] at k1
        exact ⟨Fr, ⟨mb, Zr, k1⟩, k2, fun b hb => (k3 b hb).imp (fun x => x) fun h => Nat.le_trans hc2.out.size h⟩)
      clear hDone hL hR hZ
      go_wp2
      go_ret
      exact ⟨rfl, hfin.out⟩
    · intro x v w3 cnt' hx hL z' hzz hvv hR' hlt hgr hsz hen
      obtain ⟨Fr, Zr, k1, k2, k3, k5, k4⟩ := hZ.out
      have hv := (k4 x).trans (congrArg (Option.map SfV.ptr) hzz)
      obtain ⟨z, hz, hzp⟩ := Option.map_eq_some_iff.1 hv
      rw [← hvv, ← hzp] at hen ⊢
      have hnr : ¬ Fr w1.heap.size := fun hf => by rcases k3 _ hf with h | h; exact hrl h; omega
      have k1' := k1.chg (Chg.grown hgr (F := fun b => b = w1.heap.size) (fun b hb => (Option.some.inj hb).symm)) (fun b hb e => hnr (e ▸ hb))
      have hsx : ∃ s, orphL (setM M id none) id L x = some s := Option.isSome_iff_exists.1 (by have := k1.dom x; rw [hz] at this; exact this.symm)
      obtain ⟨s, hsx⟩ := hsx
      have ht := k1'.surf _ _ _ hz hsx
      have c1 : w3.cell? ⟨z.a, 1, none⟩ = some (.int .i64 s.parent) := ht.cell 1
      have f1 := ht.free 1
      have hc3 : Chg F w w3 := k2.trans (Chg.grown hgr (F := fun b => b = w1.heap.size) (fun b hb => (Option.some.inj hb).symm)) (fun b hb => .inr (by subst hb; exact hw1.out))
      have hR3 := hide hR'
      have hlt3 : w3.rangeLeft mb w1.heap.size < wC.rangeLeft mb w1.heap.size := by rw [hR'.left_eq, hR.out.left_eq]; exact hlt
      have hsM : setM M id none x = some s := by
        unfold orphL at hsx
        cases e : setM M id none x with
        | none => rw [e] at hsx; cases hsx
        | some s' => rw [e] at hsx; simpa [hL] using hsx
      simp only [SfV.ptr] at hen
      by_cases hp : s.parent = id
      · have hq : (s.parent == id) = true := by simpa using hp
        obtain ⟨z3, e1, Fr2, a1, a2, a3⟩ := k1'.freed hz hsx
        rw [← (orphL_take hsM hp hL).2] at a1
        have hsz4 := a2.size
        have hnew : Hid (∃ Fr Zr, ForZ (w3.setCell ⟨z.a, 1, none⟩ (.int .i64 0)) p mb Fr n Zr (orphL (setM M id none) id fun z => L z && z != x) ∧ Chg F w (w3.setCell ⟨z.a, 1, none⟩ (.int .i64 0)) ∧ Ext F Fr w2.heap.size ∧ w2.heap.size ≤ (w3.setCell ⟨z.a, 1, none⟩ (.int .i64 0)).heap.size ∧ ∀ j, (Zr j).map SfV.ptr = (setZ Z id none j).map SfV.ptr) :=
          hide ⟨Fr2, _, a1, hc3.trans a2 (fun b hb => (k3 b hb).imp (fun x => x) fun h => Nat.le_trans hc2.out.size h), k3.trans a3 (by omega), by omega, fun j => by
            by_cases e : j = x
            · subst e; rw [setZ_same, ← k4 j, hz]; simp [SfV.ptr, e1]
            · rw [setZ_other _ _ e]; exact k4 j⟩
        have hpz := k1'.pz x z hz
        have hRs := hide (range_setCell (k := 1) (u := .int .i64 0) hR3.out (a := z.a) (fun e => hpz.2 (.inl e.symm)) (fun e => hnr (e ▸ k1'.inF x z hz z.a (.inl rfl))))
        have hlt4 : (w3.setCell ⟨z.a, 1, none⟩ (.int .i64 0)).rangeLeft mb w1.heap.size < wC.rangeLeft mb w1.heap.size := by rw [hRs.out.left_eq, hR.out.left_eq]; exact hlt
        clear hp hsM hsx k1' k1 hZ a1 a2 a3
        go_wp2
        go_roundw
        case rel => exact ⟨_, cnt', hRs, hnew⟩
        case measure => exact hlt4
      · have hq : (s.parent == id) = false := by simpa using hp
        have hnew : Hid (∃ Fr Zr, ForZ w3 p mb Fr n Zr (orphL (setM M id none) id fun z => L z && z != x) ∧ Chg F w w3 ∧ Ext F Fr w2.heap.size ∧ w2.heap.size ≤ w3.heap.size ∧ ∀ j, (Zr j).map SfV.ptr = (setZ Z id none j).map SfV.ptr) :=
          hide ⟨Fr, Zr, by rw [orphL_skip hsM hp]; exact k1', hc3, k3, by omega, k4⟩
        clear hp hsM hsx k1' k1 hZ
        go_wp2
        go_roundw
        case rel => exact ⟨_, cnt', hR3, hnew⟩
        case measure => exact hlt3

set_option maxRecDepth 100000 in
set_option maxHeartbeats 2000000 in
/-- Drop of a subsurface. -/
theorem fDrop_sub {B : Nat} (w0 : World) {ae : Nat → Addr} (hE : ErrF B w0 ae) (hBs : B ≤ w0.heap.size) {F0 : Nat → Prop} {Z0 : Int → Option SfV} {M0 : Fo} {mb0 : Nat} (h : ForZ w0 p mb0 F0 n Z0 M0) (hG : GoodM M0) (id : Int) (hid : I64 id) (hs : M0 id = some t) (h0 : 0 < t.parent)
    (hlen : ∀ i t, M0 i = some t → ∀ j, j < 3 → (stS j t).order.length ≤ 1000000 ∧ (stS j t).places.length ≤ 1000000) :
    Calls Tryd.prog 24 #[.pointer (some ⟨p, 0, none⟩), .int .i64 id] w0 fun e w' => e = .returned .nilIface ∧ FOutN w0 p n F0 (setM (orphan (funsubS M0 id) id) id none) w' := by
  have cU := fUnsub_any w0 hE hBs h hG id hid hlen
  have ek : childK M0 id = 0 := by unfold childK; rw [hs]; dsimp only; rw [if_neg (by omega)]
  rw [ek] at cU
  have cH := fHas_any w0 h id hid
  have cP := fParent_any w0 h id hid
  have e0 : parM M0 id = t.parent := by simp [parM, hs]
  rw [hs] at cH
  rw [e0] at cP
  simp only [Option.isSome_some] at cH
  replace cH := hide cH
  replace cP := hide cP
  replace cU := hide cU
  have hq0 : decide (0 < t.parent) = true := by simpa using h0
  obtain ⟨M, hMM⟩ : ∃ M, M = funsubS M0 id := ⟨_, rfl⟩
  clear h hs e0 ek hE hG hlen
  go_enter Tryd.func24, Tryd.ntmps24
  go_wp2_with (first
    | (go_at_call 25; refine cH.out.mono ?_; rintro e w' ⟨rfl, rfl⟩)
    | (go_at_call 20; refine cP.out.mono ?_; rintro e w' ⟨rfl, rfl⟩)
    | (go_at_call 53; refine cU.out.mono ?_; rintro e w ⟨rfl, F, ⟨mb, Z, hh⟩, hcA, hxA⟩; rw [← hMM] at hh; have hc := hh.cellP; replace hh := hide hh; replace hcA := hide hcA; replace hxA := hide hxA)
    | (at_delete; refine wpList_del rfl _ _ 54 3 rfl 57 Tryd.underlying3 Tryd.underlying54 mb n _ rfl hh.out.map id rfl hid ?_; intro w1 hm2 hg2; have h1 := hide (hh.out.less (Chg.grown hg2 (F := fun b => b = mb) (fun b hb => (Option.some.inj hb).symm)) hm2); have hc1 := h1.out.cellP)
    | (at_range; refine wpList_rangeM rfl _ _ rfl 3 57 Tryd.underlying3 Tryd.underlying54 mb n _ rfl h1.out.map ?_; intro w2 cnt hR hgr hsz))
  have hrl : ¬ F w1.heap.size := fun hf => by have := hh.out.lt _ hf; have := hg2.size; omega
  have hF2 := hide (h1.out.below (Chg.below (Chg.grown hgr (F := fun _ => False) (fun b hb => by cases hb)) (Nat.le_refl _) (fun _ hb => hb.elim)))
  have hc2 : Hid (Chg F w w2) := hide (((Chg.grown hg2 (F := fun b => b = mb) (fun b hb => (Option.some.inj hb).symm)).mono (fun b _ hb => hb ▸ hh.out.mF)).trans (Chg.grown hgr (F := F) (fun b hb => by cases hb)) (Ext.refl _ _))
  replace hR := hide hR
  have hrs : w1.heap.size < w2.heap.size := by omega
  have hw1 := hide (hg2.size)
  clear hgr hg2 hm2 hc1 hc h1
  go_frame
  go_loopw [6] (fun _ wr => ∃ (L : Int → Bool) (cnt : Nat), Hid (RangeAt Tryd.prog 3 wr mb w1.heap.size n (fun j => (setZ Z id none j).map SfV.ptr) L cnt) ∧
      Hid (∃ Fr Zr, ForZ wr p mb Fr n Zr (orphL (setM M id none) id L) ∧ Chg F w wr ∧ Ext F Fr w2.heap.size ∧ w2.heap.size ≤ wr.heap.size ∧ ∀ j, (Zr j).map SfV.ptr = (setZ Z id none j).map SfV.ptr)) (fun _ wr => wr.rangeLeft mb w1.heap.size)
  case atStart =>
    refine ⟨_, cnt, hR, hide ⟨F, _, ?_, hc2.out, Ext.refl _ _, Nat.le_refl _, fun _ => rfl⟩⟩
    rw [orphL_all fun j hj => by have := hF2.out.dom j; rw [hj] at this; simpa using this]
    exact hF2.out
  case round =>
    obtain ⟨L, cnt, hR, hZ⟩ := hrel
    obtain ⟨wC, hwC⟩ : ∃ wC, wC = wr := ⟨_, rfl⟩
    subst hwC
    go_wp2_with (at_next; refine wpList_nextM rfl _ rfl 3 Tryd.underlying3 mb w1.heap.size n _ L cnt rfl hR.out ?_ ?_)
    · intro hDone
      have hL : ∀ j, (setM M id none j).isSome → L j = false := fun j hj => by
        obtain ⟨s, hs⟩ := Option.isSome_iff_exists.1 hj
        obtain ⟨z, hz, ht⟩ := hF2.out.find hs
        exact hDone j ht.id64
      have hfin : Hid (FOutN w p n F (setM (orphan M id) id none) wC) := hide (by
        obtain ⟨Fr, Zr, k1, k2, k3, _⟩ := hZ.out
        rw [orphL_end hL, orphan_gone] at k1
        exact ⟨Fr, ⟨mb, Zr, k1⟩, k2, fun b hb => (k3 b hb).imp (fun x => x) fun h => Nat.le_trans hc2.out.size h⟩)
      clear hDone hL hR hZ
      go_wp2
      go_ret
      exact ⟨rfl, hMM ▸ hfin.out.elim fun F9 q => ⟨F9, q.1, hcA.out.trans q.2.1 hxA.out, hxA.out.trans q.2.2 hcA.out.size⟩⟩
    · intro x v w3 cnt' hx hL z' hzz hvv hR' hlt hgr hsz hen
      obtain ⟨Fr, Zr, k1, k2, k3, k5, k4⟩ := hZ.out
      have hv := (k4 x).trans (congrArg (Option.map SfV.ptr) hzz)
      obtain ⟨z, hz, hzp⟩ := Option.map_eq_some_iff.1 hv
      rw [← hvv, ← hzp] at hen ⊢
      have hnr : ¬ Fr w1.heap.size := fun hf => by rcases k3 _ hf with h | h; exact hrl h; omega
      have k1' := k1.chg (Chg.grown hgr (F := fun b => b = w1.heap.size) (fun b hb => (Option.some.inj hb).symm)) (fun b hb e => hnr (e ▸ hb))
      have hsx : ∃ s, orphL (setM M id none) id L x = some s := Option.isSome_iff_exists.1 (by have := k1.dom x; rw [hz] at this; exact this.symm)
      obtain ⟨s, hsx⟩ := hsx
      have ht := k1'.surf _ _ _ hz hsx
      have c1 : w3.cell? ⟨z.a, 1, none⟩ = some (.int .i64 s.parent) := ht.cell 1
      have f1 := ht.free 1
      have hc3 : Chg F w w3 := k2.trans (Chg.grown hgr (F := fun b => b = w1.heap.size) (fun b hb => (Option.some.inj hb).symm)) (fun b hb => .inr (by subst hb; exact hw1.out))
      have hR3 := hide hR'
      have hlt3 : w3.rangeLeft mb w1.heap.size < wC.rangeLeft mb w1.heap.size := by rw [hR'.left_eq, hR.out.left_eq]; exact hlt
      have hsM : setM M id none x = some s := by
        unfold orphL at hsx
        cases e : setM M id none x with
        | none => rw [e] at hsx; cases hsx
        | some s' => rw [e] at hsx; simpa [hL] using hsx
      simp only [SfV.ptr] at hen
      by_cases hp : s.parent = id
      · have hq : (s.parent == id) = true := by simpa using hp
        obtain ⟨z3, e1, Fr2, a1, a2, a3⟩ := k1'.freed hz hsx
        rw [← (orphL_take hsM hp hL).2] at a1
        have hsz4 := a2.size
        have hnew : Hid (∃ Fr Zr, ForZ (w3.setCell ⟨z.a, 1, none⟩ (.int .i64 0)) p mb Fr n Zr (orphL (setM M id none) id fun z => L z && z != x) ∧ Chg F w (w3.setCell ⟨z.a, 1, none⟩ (.int .i64 0)) ∧ Ext F Fr w2.heap.size ∧ w2.heap.size ≤ (w3.setCell ⟨z.a, 1, none⟩ (.int .i64 0)).heap.size ∧ ∀ j, (Zr j).map SfV.ptr = (setZ Z id none j).map SfV.ptr) :=
          hide ⟨Fr2, _, a1, hc3.trans a2 (fun b hb => (k3 b hb).imp (fun x => x) fun h => Nat.le_trans hc2.out.size h), k3.trans a3 (by omega), by omega, fun j => by
            by_cases e : j = x
            · subst e; rw [setZ_same, ← k4 j, hz]; simp [SfV.ptr, e1]
            · rw [setZ_other _ _ e]; exact k4 j⟩
        have hpz := k1'.pz x z hz
        have hRs := hide (range_setCell (k := 1) (u := .int .i64 0) hR3.out (a := z.a) (fun e => hpz.2 (.inl e.symm)) (fun e => hnr (e ▸ k1'.inF x z hz z.a (.inl rfl))))
        have hlt4 : (w3.setCell ⟨z.a, 1, none⟩ (.int .i64 0)).rangeLeft mb w1.heap.size < wC.rangeLeft mb w1.heap.size := by rw [hRs.out.left_eq, hR.out.left_eq]; exact hlt
        clear hp hsM hsx k1' k1 hZ a1 a2 a3
        go_wp2
        go_roundw
        case rel => exact ⟨_, cnt', hRs, hnew⟩
        case measure => exact hlt4
      · have hq : (s.parent == id) = false := by simpa using hp
        have hnew : Hid (∃ Fr Zr, ForZ w3 p mb Fr n Zr (orphL (setM M id none) id fun z => L z && z != x) ∧ Chg F w w3 ∧ Ext F Fr w2.heap.size ∧ w2.heap.size ≤ w3.heap.size ∧ ∀ j, (Zr j).map SfV.ptr = (setZ Z id none j).map SfV.ptr) :=
          hide ⟨Fr, Zr, by rw [orphL_skip hsM hp]; exact k1', hc3, k3, by omega, k4⟩
        clear hp hsM hsx k1' k1 hZ
        go_wp2
        go_roundw
        case rel => exact ⟨_, cnt', hR3, hnew⟩
        case measure => exact hlt3
end
end Go.Proofs.YthkjicnnepkghaaDoor
