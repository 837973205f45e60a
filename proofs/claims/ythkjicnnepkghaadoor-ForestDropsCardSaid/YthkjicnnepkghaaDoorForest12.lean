/-
  A surface whose k-th state's order, or places, is stored anew (Unsub's rounds).
  Package forest: Unsub.
-/
import Derived.Test.YthkjicnnepkghaaDoorForest5
import Derived.Test.YthkjicnnepkghaaDoorFDel
import Derived.Test.YthkjicnnepkghaaDoorFDel
namespace Go.Proofs.YthkjicnnepkghaaDoor
open Go.RowKit
set_option linter.unusedVariables false

/-- The k-th state: pending, cached, current. -/
def upS (k : Nat) (f : St → St) (t : Sf) : Sf := if k = 0 then { t with pe := f t.pe } else if k = 1 then { t with ca := f t.ca } else { t with cu := f t.cu }
def stS (k : Nat) (t : Sf) : St := if k = 0 then t.pe else if k = 1 then t.ca else t.cu
def upV (k : Nat) (f : StV → StV) (z : SfV) : SfV := if k = 0 then { z with pe := f z.pe } else if k = 1 then { z with ca := f z.ca } else { z with cu := f z.cu }
def stV (k : Nat) (z : SfV) : StV := if k = 0 then z.pe else if k = 1 then z.ca else z.cu
theorem cut3 (t : Sf) (id : Int) : upS 2 (cutT · id) (upS 1 (cutT · id) (upS 0 (cutT · id) t)) = cutSf t id := rfl

section
variable {w w' w1 : World} {p mb n : Nat} {F : Nat → Prop} {Z : Int → Option SfV} {M : Fo} {id : Int} {t t' : Sf} {z z' : SfV}
theorem rd_setOther {v : Value} {sz m : Nat} {cs : List Value} {base a k : Nat} {u : Value} (h : Rd w v sz m cs) (hi : BlkIn (fun b => base ≤ b) v m) (ha : a < base) : Rd (w.setCell ⟨a, k, none⟩ u) v sz m cs :=
  h.keepIn hi (Chg.size (chg1e w a k u)) fun b hb hl => (chg1e w a k u).block b hl (by intro e; omega)
theorem cells_o (k : Nat) (hk : k < 3) (id : Int) (t : Sf) (z : SfV) (v : Value) (xs : List Int) (G : Nat → Prop) :
    (sfCells id t z).setIfInBounds (3 + k * 10 + 8) v = sfCells id (upS k (fun s => { s with order := xs }) t) { upV k (fun s => { s with o := v }) z with G := G } := by
  rcases (by omega : k = 0 ∨ k = 1 ∨ k = 2) with rfl | rfl | rfl <;> rfl
theorem cells_p (k : Nat) (hk : k < 3) (id : Int) (t : Sf) (z : SfV) (v : Value) (xs : List Ch) (G : Nat → Prop) :
    (sfCells id t z).setIfInBounds (3 + k * 10 + 9) v = sfCells id (upS k (fun s => { s with places := xs }) t) { upV k (fun s => { s with p := v }) z with G := G } := by
  rcases (by omega : k = 0 ∨ k = 1 ∨ k = 2) with rfl | rfl | rfl <;> rfl
theorem ForZ.cutO (h : ForZ w p mb F n Z M) (hz : Z id = some z) (ht : SurfAt w id t z) (k : Nat) (hk : k < 3) (xs : List Int) {v : Value} (b1 : Below w.heap.size w w1)
    (r1 : Rd w1 v 1 xs.length (xs.map (Value.int .i64))) (i1 : BlkIn (fun b => w.heap.size ≤ b) v xs.length) :
    ∃ z', z'.a = z.a ∧ (∀ j, (stV j z').p = (stV j z).p) ∧ (∀ j, j ≠ k → j < 3 → (stV j z').o = (stV j z).o) ∧
      FZOut w p mb n F (setZ Z id (some z')) (setM M id (some (upS k (fun s => { s with order := xs }) t))) (w1.setCell ⟨z.a, 3 + k * 10 + 8, none⟩ v) := by
  have hlt := ht.lt z.a (.inl rfl)
  have hb1 : w1.heap[z.a]? = some (.cells (sfCells id t z) 60 (0, 0)) := (b1.block z.a hlt).trans ht.blk
  have hr := rd_setOther (k := 3 + k * 10 + 8) (u := v) r1 i1 hlt
  have hbl : (w1.setCell ⟨z.a, 3 + k * 10 + 8, none⟩ v).heap[z.a]? = _ := (heap_setCell_same w1 z.a (3 + k * 10 + 8) _ _ v hb1).trans (by rw [cells_o k hk id t z v xs (grownG w (w1.setCell ⟨z.a, 3 + k * 10 + 8, none⟩ v) z.G)])
  have c1 := (Chg.of_below b1 z.F).trans (chg1 w1 z.a (3 + k * 10 + 8) v (.inl rfl)) (Ext.refl _ _)
  have c2 := (Chg.of_below b1 (fun b => b = z.a)).trans (chg1e w1 z.a (3 + k * 10 + 8) v) (Ext.refl _ _)
  refine ⟨{ upV k (fun s => { s with o := v }) z with G := grownG w (w1.setCell ⟨z.a, 3 + k * 10 + 8, none⟩ v) z.G }, ?_, ?_, ?_, h.turnZ hz c1 ?_ (ht.froz c2 ?_ ?_ hbl ?_ ?_ ?_ ?_ ?_ ?_ ?_)⟩
  all_goals rcases (by omega : k = 0 ∨ k = 1 ∨ k = 2) with rfl | rfl | rfl
  all_goals first
    | exact rfl
    | exact .inl ⟨rfl, rfl⟩
    | exact .same
    | exact .inr ⟨hr, i1⟩
    | exact ⟨.same, .same, .same, .inr ⟨hr, i1⟩, .same⟩
    | (intro j; simp only [stV, upV]; split <;> first | rfl | (split <;> rfl))
    | (intro j h1 h2; rcases (by omega : j = 0 ∨ j = 1 ∨ j = 2) with rfl | rfl | rfl <;> first | rfl | exact absurd rfl h1)
theorem ForZ.cutP (h : ForZ w p mb F n Z M) (hz : Z id = some z) (ht : SurfAt w id t z) (k : Nat) (hk : k < 3) (xs : List Ch) {v : Value} (b1 : Below w.heap.size w w1)
    (r1 : Rd w1 v 3 xs.length (xs.flatMap Ch.enc)) (i1 : BlkIn (fun b => w.heap.size ≤ b) v xs.length) :
    ∃ z', z'.a = z.a ∧ (∀ j, (stV j z').o = (stV j z).o) ∧ (∀ j, j ≠ k → j < 3 → (stV j z').p = (stV j z).p) ∧
      FZOut w p mb n F (setZ Z id (some z')) (setM M id (some (upS k (fun s => { s with places := xs }) t))) (w1.setCell ⟨z.a, 3 + k * 10 + 9, none⟩ v) := by
  have hlt := ht.lt z.a (.inl rfl)
  have hb1 : w1.heap[z.a]? = some (.cells (sfCells id t z) 60 (0, 0)) := (b1.block z.a hlt).trans ht.blk
  have hr := rd_setOther (k := 3 + k * 10 + 9) (u := v) r1 i1 hlt
  have hbl : (w1.setCell ⟨z.a, 3 + k * 10 + 9, none⟩ v).heap[z.a]? = _ := (heap_setCell_same w1 z.a (3 + k * 10 + 9) _ _ v hb1).trans (by rw [cells_p k hk id t z v xs (grownG w (w1.setCell ⟨z.a, 3 + k * 10 + 9, none⟩ v) z.G)])
  have c1 := (Chg.of_below b1 z.F).trans (chg1 w1 z.a (3 + k * 10 + 9) v (.inl rfl)) (Ext.refl _ _)
  have c2 := (Chg.of_below b1 (fun b => b = z.a)).trans (chg1e w1 z.a (3 + k * 10 + 9) v) (Ext.refl _ _)
  refine ⟨{ upV k (fun s => { s with p := v }) z with G := grownG w (w1.setCell ⟨z.a, 3 + k * 10 + 9, none⟩ v) z.G }, ?_, ?_, ?_, h.turnZ hz c1 ?_ (ht.froz c2 ?_ ?_ hbl ?_ ?_ ?_ ?_ ?_ ?_ ?_)⟩
  all_goals rcases (by omega : k = 0 ∨ k = 1 ∨ k = 2) with rfl | rfl | rfl
  all_goals first
    | exact rfl
    | exact .inl ⟨rfl, rfl⟩
    | exact .same
    | exact .inr ⟨hr, i1⟩
    | exact ⟨.same, .same, .same, .same, .inr ⟨hr, i1⟩⟩
    | (intro j; simp only [stV, upV]; split <;> first | rfl | (split <;> rfl))
    | (intro j h1 h2; rcases (by omega : j = 0 ∨ j = 1 ∨ j = 2) with rfl | rfl | rfl <;> first | rfl | exact absurd rfl h1)

/-- Unsub's loop: the parent's surface is T now. -/
def CutAt (wB : World) (p mb n a2 : Nat) (F : Nat → Prop) (par : Int) (M1 : Fo) (T : Sf) (wr : World) : Prop :=
  ∃ F' Z' z', ForZ wr p mb F' n Z' (setM M1 par (some T)) ∧ Z' par = some z' ∧ z'.a = a2 ∧ Chg F wB wr ∧ Ext F F' wB.heap.size
variable {wB wr : World} {a2 : Nat} {par : Int} {M1 : Fo} {T : Sf}
theorem CutAt.surf (h : CutAt wB p mb n a2 F par M1 T wr) : ∃ z', z'.a = a2 ∧ SurfAt wr par T z' := by
  obtain ⟨F', Z', z', h1, h2, h3, _⟩ := h
  obtain ⟨z'', h4, h5⟩ := h1.find (setM_same _ _ _)
  rw [h2] at h4; cases h4
  exact ⟨z', h3, h5⟩
theorem CutAt.keep (h : CutAt wB p mb n a2 F par M1 T wr) (hb : Below wr.heap.size wr w1) : CutAt wB p mb n a2 F par M1 T w1 := by
  obtain ⟨F', Z', z', h1, h2, h3, h4, h5⟩ := h
  exact ⟨F', Z', z', h1.below hb, h2, h3, h4.trans (Chg.of_below hb F') h5, h5⟩
theorem CutAt.box (h : CutAt wB p mb n a2 F par M1 T wr) {b : Nat} (hb : b < wB.heap.size) (hF : ¬ F b) : wr.heap[b]? = wB.heap[b]? := by
  obtain ⟨F', Z', z', h1, h2, h3, h4, h5⟩ := h
  exact h4.block b hb hF
theorem CutAt.orderAt (h : CutAt wB p mb n a2 F par M1 T wr) (k : Nat) (hk : k < 3) : ∃ v, wr.cell? ⟨a2, 3 + k * 10 + 8, none⟩ = some v ∧ Rd wr v 1 (stS k T).order.length ((stS k T).order.map (Value.int .i64)) := by
  obtain ⟨z', rfl, hs⟩ := h.surf
  rcases (by omega : k = 0 ∨ k = 1 ∨ k = 2) with rfl | rfl | rfl
  · exact ⟨_, cell_of_row _ z'.a 11 _ _ _ hs.blk, hs.peO⟩
  · exact ⟨_, cell_of_row _ z'.a 21 _ _ _ hs.blk, hs.ca.o⟩
  · exact ⟨_, cell_of_row _ z'.a 31 _ _ _ hs.blk, hs.cu.o⟩
theorem CutAt.placesAt (h : CutAt wB p mb n a2 F par M1 T wr) (k : Nat) (hk : k < 3) : ∃ v, wr.cell? ⟨a2, 3 + k * 10 + 9, none⟩ = some v ∧ Rd wr v 3 (stS k T).places.length ((stS k T).places.flatMap Ch.enc) := by
  obtain ⟨z', rfl, hs⟩ := h.surf
  rcases (by omega : k = 0 ∨ k = 1 ∨ k = 2) with rfl | rfl | rfl
  · exact ⟨_, cell_of_row _ z'.a 12 _ _ _ hs.blk, hs.peP⟩
  · exact ⟨_, cell_of_row _ z'.a 22 _ _ _ hs.blk, hs.ca.p⟩
  · exact ⟨_, cell_of_row _ z'.a 32 _ _ _ hs.blk, hs.cu.p⟩
theorem CutAt.free (h : CutAt wB p mb n a2 F par M1 T wr) (k : Nat) : wr.frozen? ⟨a2, k, none⟩ = false := by
  obtain ⟨z', rfl, hs⟩ := h.surf
  exact hs.free k
theorem CutAt.setO (h : CutAt wB p mb n a2 F par M1 T wr) (k : Nat) (hk : k < 3) (xs : List Int) {v : Value} (b1 : Below wr.heap.size wr w1)
    (r1 : Rd w1 v 1 xs.length (xs.map (Value.int .i64))) (i1 : BlkIn (fun b => wr.heap.size ≤ b) v xs.length) :
    CutAt wB p mb n a2 F par M1 (upS k (fun s => { s with order := xs }) T) (w1.setCell ⟨a2, 3 + k * 10 + 8, none⟩ v) := by
  obtain ⟨F', Z', z', h1, h2, h3, h4, h5⟩ := h
  obtain ⟨z'', h6, h7⟩ := h1.find (setM_same _ _ _)
  rw [h2] at h6; cases h6
  subst h3
  obtain ⟨z3, e1, _, _, F3, f1, f2, f3⟩ := h1.cutO h2 h7 k hk xs b1 r1 i1
  rw [setM_setM] at f1
  exact ⟨F3, _, z3, f1, setZ_same _ _ _, e1, h4.trans f2 h5, h5.trans f3 h4.size⟩
theorem CutAt.setP (h : CutAt wB p mb n a2 F par M1 T wr) (k : Nat) (hk : k < 3) (xs : List Ch) {v : Value} (b1 : Below wr.heap.size wr w1)
    (r1 : Rd w1 v 3 xs.length (xs.flatMap Ch.enc)) (i1 : BlkIn (fun b => wr.heap.size ≤ b) v xs.length) :
    CutAt wB p mb n a2 F par M1 (upS k (fun s => { s with places := xs }) T) (w1.setCell ⟨a2, 3 + k * 10 + 9, none⟩ v) := by
  obtain ⟨F', Z', z', h1, h2, h3, h4, h5⟩ := h
  obtain ⟨z'', h6, h7⟩ := h1.find (setM_same _ _ _)
  rw [h2] at h6; cases h6
  subst h3
  obtain ⟨z3, e1, _, _, F3, f1, f2, f3⟩ := h1.cutP h2 h7 k hk xs b1 r1 i1
  rw [setM_setM] at f1
  exact ⟨F3, _, z3, f1, setZ_same _ _ _, e1, h4.trans f2 h5, h5.trans f3 h4.size⟩
theorem CutAt.out (h : CutAt wB p mb n a2 F par M1 T wr) (c0 : Chg F w wB) (hB : w.heap.size ≤ wB.heap.size) : FOutN w p n F (setM M1 par (some T)) wr := by
  obtain ⟨F', Z', z', h1, h2, h3, h4, h5⟩ := h
  exact ⟨F', ⟨mb, Z', h1⟩, c0.trans h4 (Ext.refl _ _), fun b hb => (h5 b hb).imp id fun h => Nat.le_trans hB h⟩
/-- k states are cut. -/
def cuts (t : Sf) (id : Int) : Nat → Sf
  | 0 => t
  | k + 1 => upS k (fun s => { s with places := dropP (stS k t).places id }) (upS k (fun s => { s with order := without (stS k t).order id }) (cuts t id k))
theorem cuts_all (t : Sf) (id : Int) : cuts t id 3 = cutSf t id := rfl
theorem cuts_o (t : Sf) (id : Int) (k : Nat) (hk : k < 3) : stS k (cuts t id k) = stS k t := by rcases (by omega : k = 0 ∨ k = 1 ∨ k = 2) with rfl | rfl | rfl <;> rfl
theorem cuts_p (t : Sf) (id : Int) (k : Nat) (hk : k < 3) (xs : List Int) : (stS k (upS k (fun s => { s with order := xs }) (cuts t id k))).places = (stS k t).places := by rcases (by omega : k = 0 ∨ k = 1 ∨ k = 2) with rfl | rfl | rfl <;> rfl
end

set_option linter.unusedVariables false

theorem Tryd.arr3_0 (x y z : Value) (w : World) : (Instr.index 102 (.agg #[x, y, z]) (.int .i64 0)).run Tryd.prog w = .ok x w := by kernel_rfl
theorem Tryd.arr3_1 (x y z : Value) (w : World) : (Instr.index 102 (.agg #[x, y, z]) (.int .i64 1)).run Tryd.prog w = .ok y w := by kernel_rfl
theorem Tryd.arr3_2 (x y z : Value) (w : World) : (Instr.index 102 (.agg #[x, y, z]) (.int .i64 2)).run Tryd.prog w = .ok z w := by kernel_rfl
section
variable {w w' w1 : World} {p mb n : Nat} {F : Nat → Prop} {Z : Int → Option SfV} {M : Fo} {id : Int} {t t' : Sf} {z z' : SfV}
set_option maxRecDepth 100000 in
set_option maxHeartbeats 2000000 in
theorem fUnsub_any {B : Nat} (w : World) {ae : Nat → Addr} (hE : ErrF B w ae) (hBs : B ≤ w.heap.size) (h : ForZ w p mb F n Z M) (hG : GoodM M) (id : Int) (hid : I64 id)
    (hlen : ∀ i t, M i = some t → ∀ j, j < 3 → (stS j t).order.length ≤ 1000000 ∧ (stS j t).places.length ≤ 1000000) :
    Calls Tryd.prog 53 #[.pointer (some ⟨p, 0, none⟩), .int .i64 id] w fun e w' => e = .returned (errV ae (childK M id)) ∧ FOutN w p n F (funsubS M id) w' := by
  have cC := fun o => fChild_any (w.alloc o) (hE.below ((Below.refl _ w).alloc hBs o)) (h.below ((Below.refl _ w).alloc (Nat.le_refl _) o)) hG id hid
  have hout := hide (fun o q => FOutN.stayB h.out (below_drewN ((Below.refl w.heap.size w).alloc (Nat.le_refl _) o) q))
  cases hs : M id with
  | none =>
    have e1 : childK M id = 5 := by simp [childK, hs]
    have e2 : funsubS M id = M := by simp [funsubS, hs]
    have e3 : childV Z M id = (.pointer none, .pointer none) := by simp [childV, hs]
    rw [e1, e3, show errV ae 5 = .iface 151 (.pointer (some (ae 4))) from rfl] at cC
    rw [e1, e2]
    replace cC := hide cC
    clear h hG hE hs e1 e2 e3 hlen
    go_enter Tryd.func53, Tryd.ntmps53
    go_wp2_with (go_at_call 38; refine (cC.out _).mono ?_; rintro e w' ⟨rfl, q, rfl⟩)
    go_ret
    exact ⟨rfl, hout.out _ _⟩
  | some t =>
    by_cases hp : t.parent = 0
    · have e1 : childK M id = 10 := by simp [childK, hs, hp]
      have e2 : funsubS M id = M := by unfold funsubS; rw [hs]; dsimp only; split <;> simp [hp]
      have e3 : childV Z M id = (.pointer none, .pointer none) := by simp [childV, hs, hp]
      rw [e1, e3, show errV ae 10 = .iface 151 (.pointer (some (ae 9))) from rfl] at cC
      rw [e1, e2]
      replace cC := hide cC
      clear h hG hE hs e1 e2 e3 hlen hp
      go_enter Tryd.func53, Tryd.ntmps53
      go_wp2_with (go_at_call 38; refine (cC.out _).mono ?_; rintro e w' ⟨rfl, q, rfl⟩)
      go_ret
      exact ⟨rfl, hout.out _ _⟩
    · obtain ⟨z, hz, ht⟩ := h.find hs
      obtain ⟨t2, ht2⟩ := hG.par id t hs hp
      obtain ⟨z2, hz2, hs2⟩ := h.find ht2
      have e1 : childK M id = 0 := by simp [childK, hs, hp]
      have e3 : childV Z M id = (.pointer (some ⟨z.a, 0, none⟩), .pointer (some ⟨z2.a, 0, none⟩)) := by simp [childV, hs, hp, hz, hz2, SfV.ptr]
      rw [e1, e3, show errV ae 0 = .nilIface from rfl] at cC
      rw [e1]
      replace cC := hide cC
      have hne : t.parent ≠ id := hG.par_ne hs hp
      have hb1 : ∀ o, (w.alloc o).heap[z.a]? = some (.cells (sfCells id t z) 60 (0, 0)) := fun o => (((Below.refl w.heap.size w).alloc (Nat.le_refl _) o).block z.a (ht.lt z.a (.inl rfl))).trans ht.blk
      have c1 : ∀ o, (w.alloc o).cell? ⟨z.a, 1, none⟩ = some (.int .i64 t.parent) := fun o => cell_of_row _ z.a 1 _ _ _ (hb1 o)
      have f1 : ∀ o, (w.alloc o).frozen? ⟨z.a, 1, none⟩ = false := fun o => frozen_of_row _ z.a 1 _ _ (hb1 o)
      have e2 : funsubS M id = setM (setM M id (some { t with parent := 0 })) t.parent (some (cutSf t2 id)) := by unfold funsubS; rw [hs]; dsimp only; rw [ht2]; dsimp only; rw [if_neg hp]
      rw [e2]
      clear e1 e2 e3 hE
      go_enter Tryd.func53, Tryd.ntmps53
      go_wp2_with (go_at_call 38; refine (cC.out _).mono ?_; rintro e w' ⟨rfl, q, rfl⟩)
      go_wp2
      go_quiet (fail)
      go_wp2
      obtain ⟨wA, hwA⟩ : ∃ wA, wA = (w.alloc (.cells #[.int .i64 id] 3)).drewN q := ⟨_, rfl⟩
      rw [← hwA]
      have bA : Below w.heap.size w wA := by rw [hwA]; exact below_drewN ((Below.refl _ w).alloc (Nat.le_refl _) _) q
      have boxA : wA.heap[w.heap.size]? = some (.cells #[.int .i64 id] 3 (0, 0)) := by rw [hwA]; exact heap_alloc_new _ _
      have boxlt : w.heap.size < wA.heap.size := by rw [hwA]; show w.heap.size < (w.alloc _).heap.size; simp
      have boxF : ¬ F w.heap.size := fun hf => Nat.lt_irrefl _ (h.lt _ hf)
      clear hwA c1 f1 hb1 hout cC
      have hA := h.below bA
      have htA := hA.surf _ _ _ hz hs
      obtain ⟨M1, hM1⟩ : ∃ M1, M1 = setM M id (some { t with parent := 0 }) := ⟨_, rfl⟩
      have hM1' := hide hM1
      have st0 : CutAt wA p mb n z2.a F t.parent M1 (cuts t2 id 0) ((wA.setCell ⟨z.a, 1, none⟩ (.int .i64 0)).drewN nq) := by
        obtain ⟨F1, k1, q1, x1⟩ := hA.turnZ (t' := { t with parent := 0 }) (z' := { z with G := grownG wA (wA.setCell ⟨z.a, 1, none⟩ (.int .i64 0)) z.G }) hz (chg1 wA z.a 1 (.int .i64 0) (.inl rfl)) rfl
          (htA.froz (chg1e wA z.a 1 (.int .i64 0)) rfl rfl (set_cells htA 1 _ rfl) (.inl ⟨rfl, rfl⟩) (.inl ⟨rfl, rfl⟩) .same .same .same .same .same)
        have e : setM M1 t.parent (some t2) = M1 := by
          funext j; unfold setM; split
          · rename_i h; rw [h, hM1, setM_other _ _ hne, ht2]
          · rfl
        rw [← hM1, ← e] at k1
        exact CutAt.keep ⟨F1, _, z2, k1, (setZ_other _ _ hne).trans hz2, rfl, q1, x1⟩ (below_drewN (Below.refl _ _) nq)
      have hl0 := hide (hlen _ _ ht2)
      have cO := hide (fun w v xs => drop_any w v xs id)
      have boxA' := hide boxA
      have bA' := hide bA
      clear h hG hs hp hz ht ht2 hz2 hs2 hA htA hM1 hlen hne boxA bA
      replace st0 := hide st0
      go_loopw [33] (fun i wr => ∃ (k : Nat) (x : Int), (k = 0 ∧ x = 0 ∨ k = 1 ∧ x = 1 ∨ k = 2 ∧ x = 2 ∨ k = 3 ∧ x = 3) ∧ i = .int .i64 x ∧ Hid (CutAt wA p mb n z2.a F t.parent M1 (cuts t2 id k) wr)) (fun i _ => 3 - (intOf i).toNat)
      case atStart => exact ⟨0, 0, by omega, rfl, st0⟩
      case round =>
        obtain ⟨k, x, hkx, rfl, hC⟩ := hrel
        obtain ⟨wC, hwC⟩ : ∃ wC, wC = wr := ⟨_, rfl⟩
        subst hwC
        clear st0
        rcases hkx with ⟨rfl, rfl⟩ | ⟨rfl, rfl⟩ | ⟨rfl, rfl⟩ | ⟨rfl, rfl⟩
        · skip
          obtain ⟨vo, co, ro⟩ : ∃ v, wC.cell? ⟨z2.a, 11, none⟩ = some v ∧ Rd wC v 1 (stS 0 t2).order.length ((stS 0 t2).order.map (Value.int .i64)) := by
            have := hC.out.orderAt 0 (by decide)
            rw [cuts_o t2 id 0 (by decide)] at this
            exact this
          have fo := hC.out.free 11
          have bx : wC.cell? ⟨w.heap.size, 0, none⟩ = some (.int .i64 id) := cell_of_one ((hC.out.box boxlt boxF).trans boxA'.out)
          obtain ⟨Ao, lc, rfl, _⟩ := ro.form
          have cD := hide (fun q => drop_any (wC.drewN q) _ _ id (ro.below (below_drewN (Below.refl _ wC) q) (Nat.le_refl _)) (hl0.out 0 (by decide)).1)
          clear ro
          have ix := Tryd.arr3_0
          go_wp2
          go_region_law (first
            | (go_simp; go_at_call 58; refine (cD.out _).mono ?_; rintro e w1 ⟨v1, rfl, o1, b1⟩; have hC1 := hide (hC.out.keep ((below_drewN (Below.refl wC.heap.size wC) _).trans b1)); obtain ⟨vx, k2⟩ : ∃ v, w1.cell? ⟨z2.a, 11, none⟩ = some v := (hC1.out.orderAt 0 (by decide)).imp fun _ e => e.1; have k3 := hC1.out.free 11; obtain ⟨A1, c1, rfl, _⟩ := own_form o1; replace o1 := hide o1; replace b1 := hide b1)
            | fail)
          all_goals
            have b0 := (below_drewN (Below.refl wC.heap.size wC) 1).trans b1.out
            have hC2 : CutAt wA p mb n z2.a F t.parent M1 (upS 0 (fun s => { s with order := without (stS 0 t2).order id }) (cuts t2 id 0)) (w1.setCell ⟨z2.a, 11, none⟩ (.slice A1 (without (stS 0 t2).order id).length c1)) :=
              CutAt.setO hC.out 0 (by decide) _ b0 (Rd.of_own o1.out) (fun _ b hb => (o1.out.lt b hb).1)
            generalize hwD : w1.setCell ⟨z2.a, 11, none⟩ (.slice A1 (without (stS 0 t2).order id).length c1) = wD at hC2 ⊢
            clear hwD b0 b1 o1 k2 k3 hC1 bx co fo cD hC
            obtain ⟨vp, cp, rp⟩ : ∃ v, wD.cell? ⟨z2.a, 12, none⟩ = some v ∧ Rd wD v 3 (stS 0 t2).places.length ((stS 0 t2).places.flatMap Ch.enc) := by
              have := hC2.placesAt 0 (by decide)
              rw [cuts_p t2 id 0 (by decide)] at this
              exact this
            have bx : wD.cell? ⟨w.heap.size, 0, none⟩ = some (.int .i64 id) := cell_of_one ((hC2.box boxlt boxF).trans boxA'.out)
            have bxl : w.heap.size < wD.heap.size := block_lt_of_cell bx
            obtain ⟨Ap, lp, rfl, _⟩ := rp.form
            have cK := hide (cloneC_any wD _ _ rp (hl0.out 0 (by decide)).2)
            have hll := (hl0.out 0 (by decide)).2
            replace hC2 := hide hC2
            clear rp
            go_wp2_with (first
              | (go_at_call 71; refine cK.out.mono ?_; rintro e w2 ⟨v2, rfl, o2, b2⟩; have bx2 : w2.cell? ⟨w.heap.size, 0, none⟩ = some (.int .i64 id) := (b2.cell (p := ⟨w.heap.size, 0, none⟩) bxl).trans bx; obtain ⟨A2, c2, rfl, _⟩ := own_form o2; have cE := hide (delC_any w2 _ _ _ w.heap.size id o2 hll bx2 (fun e => Nat.lt_irrefl _ (Nat.lt_of_lt_of_le bxl (o2.lt _ e).1))); replace o2 := hide o2; replace b2 := hide b2)
              | (go_at_call 70; refine cE.out.mono ?_; rintro e w3 ⟨A3, c3, rfl, r3, g3, h3⟩; have b3 : Below wD.heap.size wD w3 := b2.out.trans (h3.below b2.out.size (fun b hb => (o2.out.lt b hb).1)); have hC3 := hide (hC2.out.keep b3); obtain ⟨vx, k2⟩ : ∃ v, w3.cell? ⟨z2.a, 12, none⟩ = some v := (hC3.out.placesAt 0 (by decide)).imp fun _ e => e.1; have k3 := hC3.out.free 12; have i3 := hide (fun (_ : 0 < (dropP (stS 0 t2).places id).length) b (hb : (Value.slice A3 (dropP (stS 0 t2).places id).length c3).ownBlock = some b) => (by cases A3 with | none => cases hb | some g => exact (by simpa [Value.ownBlock] using hb : g.block = b) ▸ (o2.out.lt _ (g3 g rfl)).1 : wD.heap.size ≤ b)); replace r3 := hide r3; replace b3 := hide b3; clear g3 h3))
            all_goals
              go_roundw
              case rel => exact ⟨0 + 1, 0 + 1, by omega, by go_num, hide (by first | exact CutAt.setP hC2.out 0 (by decide) _ b3.out r3.out i3.out | exact (CutAt.setP hC2.out 0 (by decide) _ b3.out r3.out i3.out).keep (below_drewN (Below.refl _ _) _))⟩
              case measure => simp [intOf]
        · skip
          obtain ⟨vo, co, ro⟩ : ∃ v, wC.cell? ⟨z2.a, 21, none⟩ = some v ∧ Rd wC v 1 (stS 1 t2).order.length ((stS 1 t2).order.map (Value.int .i64)) := by
            have := hC.out.orderAt 1 (by decide)
            rw [cuts_o t2 id 1 (by decide)] at this
            exact this
          have fo := hC.out.free 21
          have bx : wC.cell? ⟨w.heap.size, 0, none⟩ = some (.int .i64 id) := cell_of_one ((hC.out.box boxlt boxF).trans boxA'.out)
          obtain ⟨Ao, lc, rfl, _⟩ := ro.form
          have cD := hide (fun q => drop_any (wC.drewN q) _ _ id (ro.below (below_drewN (Below.refl _ wC) q) (Nat.le_refl _)) (hl0.out 1 (by decide)).1)
          clear ro
          have ix := Tryd.arr3_1
          go_wp2
          go_region_law (first
            | (go_simp; go_at_call 58; refine (cD.out _).mono ?_; rintro e w1 ⟨v1, rfl, o1, b1⟩; have hC1 := hide (hC.out.keep ((below_drewN (Below.refl wC.heap.size wC) _).trans b1)); obtain ⟨vx, k2⟩ : ∃ v, w1.cell? ⟨z2.a, 21, none⟩ = some v := (hC1.out.orderAt 1 (by decide)).imp fun _ e => e.1; have k3 := hC1.out.free 21; obtain ⟨A1, c1, rfl, _⟩ := own_form o1; replace o1 := hide o1; replace b1 := hide b1)
            | fail)
          all_goals
            have b0 := (below_drewN (Below.refl wC.heap.size wC) 1).trans b1.out
            have hC2 : CutAt wA p mb n z2.a F t.parent M1 (upS 1 (fun s => { s with order := without (stS 1 t2).order id }) (cuts t2 id 1)) (w1.setCell ⟨z2.a, 21, none⟩ (.slice A1 (without (stS 1 t2).order id).length c1)) :=
              CutAt.setO hC.out 1 (by decide) _ b0 (Rd.of_own o1.out) (fun _ b hb => (o1.out.lt b hb).1)
            generalize hwD : w1.setCell ⟨z2.a, 21, none⟩ (.slice A1 (without (stS 1 t2).order id).length c1) = wD at hC2 ⊢
            clear hwD b0 b1 o1 k2 k3 hC1 bx co fo cD hC
            obtain ⟨vp, cp, rp⟩ : ∃ v, wD.cell? ⟨z2.a, 22, none⟩ = some v ∧ Rd wD v 3 (stS 1 t2).places.length ((stS 1 t2).places.flatMap Ch.enc) := by
              have := hC2.placesAt 1 (by decide)
              rw [cuts_p t2 id 1 (by decide)] at this
              exact this
            have bx : wD.cell? ⟨w.heap.size, 0, none⟩ = some (.int .i64 id) := cell_of_one ((hC2.box boxlt boxF).trans boxA'.out)
            have bxl : w.heap.size < wD.heap.size := block_lt_of_cell bx
            obtain ⟨Ap, lp, rfl, _⟩ := rp.form
            have cK := hide (cloneC_any wD _ _ rp (hl0.out 1 (by decide)).2)
            have hll := (hl0.out 1 (by decide)).2
            replace hC2 := hide hC2
            clear rp
            go_wp2_with (first
              | (go_at_call 71; refine cK.out.mono ?_; rintro e w2 ⟨v2, rfl, o2, b2⟩; have bx2 : w2.cell? ⟨w.heap.size, 0, none⟩ = some (.int .i64 id) := (b2.cell (p := ⟨w.heap.size, 0, none⟩) bxl).trans bx; obtain ⟨A2, c2, rfl, _⟩ := own_form o2; have cE := hide (delC_any w2 _ _ _ w.heap.size id o2 hll bx2 (fun e => Nat.lt_irrefl _ (Nat.lt_of_lt_of_le bxl (o2.lt _ e).1))); replace o2 := hide o2; replace b2 := hide b2)
              | (go_at_call 70; refine cE.out.mono ?_; rintro e w3 ⟨A3, c3, rfl, r3, g3, h3⟩; have b3 : Below wD.heap.size wD w3 := b2.out.trans (h3.below b2.out.size (fun b hb => (o2.out.lt b hb).1)); have hC3 := hide (hC2.out.keep b3); obtain ⟨vx, k2⟩ : ∃ v, w3.cell? ⟨z2.a, 22, none⟩ = some v := (hC3.out.placesAt 1 (by decide)).imp fun _ e => e.1; have k3 := hC3.out.free 22; have i3 := hide (fun (_ : 0 < (dropP (stS 1 t2).places id).length) b (hb : (Value.slice A3 (dropP (stS 1 t2).places id).length c3).ownBlock = some b) => (by cases A3 with | none => cases hb | some g => exact (by simpa [Value.ownBlock] using hb : g.block = b) ▸ (o2.out.lt _ (g3 g rfl)).1 : wD.heap.size ≤ b)); replace r3 := hide r3; replace b3 := hide b3; clear g3 h3))
            all_goals
              go_roundw
              case rel => exact ⟨1 + 1, 1 + 1, by omega, by go_num, hide (by first | exact CutAt.setP hC2.out 1 (by decide) _ b3.out r3.out i3.out | exact (CutAt.setP hC2.out 1 (by decide) _ b3.out r3.out i3.out).keep (below_drewN (Below.refl _ _) _))⟩
              case measure => simp [intOf]
        · skip
          obtain ⟨vo, co, ro⟩ : ∃ v, wC.cell? ⟨z2.a, 31, none⟩ = some v ∧ Rd wC v 1 (stS 2 t2).order.length ((stS 2 t2).order.map (Value.int .i64)) := by
            have := hC.out.orderAt 2 (by decide)
            rw [cuts_o t2 id 2 (by decide)] at this
            exact this
          have fo := hC.out.free 31
          have bx : wC.cell? ⟨w.heap.size, 0, none⟩ = some (.int .i64 id) := cell_of_one ((hC.out.box boxlt boxF).trans boxA'.out)
          obtain ⟨Ao, lc, rfl, _⟩ := ro.form
          have cD := hide (fun q => drop_any (wC.drewN q) _ _ id (ro.below (below_drewN (Below.refl _ wC) q) (Nat.le_refl _)) (hl0.out 2 (by decide)).1)
          clear ro
          have ix := Tryd.arr3_2
          go_wp2
          go_region_law (first
            | (go_simp; go_at_call 58; refine (cD.out _).mono ?_; rintro e w1 ⟨v1, rfl, o1, b1⟩; have hC1 := hide (hC.out.keep ((below_drewN (Below.refl wC.heap.size wC) _).trans b1)); obtain ⟨vx, k2⟩ : ∃ v, w1.cell? ⟨z2.a, 31, none⟩ = some v := (hC1.out.orderAt 2 (by decide)).imp fun _ e => e.1; have k3 := hC1.out.free 31; obtain ⟨A1, c1, rfl, _⟩ := own_form o1; replace o1 := hide o1; replace b1 := hide b1)
            | fail)
          all_goals
            have b0 := (below_drewN (Below.refl wC.heap.size wC) 1).trans b1.out
            have hC2 : CutAt wA p mb n z2.a F t.parent M1 (upS 2 (fun s => { s with order := without (stS 2 t2).order id }) (cuts t2 id 2)) (w1.setCell ⟨z2.a, 31, none⟩ (.slice A1 (without (stS 2 t2).order id).length c1)) :=
              CutAt.setO hC.out 2 (by decide) _ b0 (Rd.of_own o1.out) (fun _ b hb => (o1.out.lt b hb).1)
            generalize hwD : w1.setCell ⟨z2.a, 31, none⟩ (.slice A1 (without (stS 2 t2).order id).length c1) = wD at hC2 ⊢
            clear hwD b0 b1 o1 k2 k3 hC1 bx co fo cD hC
            obtain ⟨vp, cp, rp⟩ : ∃ v, wD.cell? ⟨z2.a, 32, none⟩ = some v ∧ Rd wD v 3 (stS 2 t2).places.length ((stS 2 t2).places.flatMap Ch.enc) := by
              have := hC2.placesAt 2 (by decide)
              rw [cuts_p t2 id 2 (by decide)] at this
              exact this
            have bx : wD.cell? ⟨w.heap.size, 0, none⟩ = some (.int .i64 id) := cell_of_one ((hC2.box boxlt boxF).trans boxA'.out)
            have bxl : w.heap.size < wD.heap.size := block_lt_of_cell bx
            obtain ⟨Ap, lp, rfl, _⟩ := rp.form
            have cK := hide (cloneC_any wD _ _ rp (hl0.out 2 (by decide)).2)
            have hll := (hl0.out 2 (by decide)).2
            replace hC2 := hide hC2
            clear rp
            go_wp2_with (first
              | (go_at_call 71; refine cK.out.mono ?_; rintro e w2 ⟨v2, rfl, o2, b2⟩; have bx2 : w2.cell? ⟨w.heap.size, 0, none⟩ = some (.int .i64 id) := (b2.cell (p := ⟨w.heap.size, 0, none⟩) bxl).trans bx; obtain ⟨A2, c2, rfl, _⟩ := own_form o2; have cE := hide (delC_any w2 _ _ _ w.heap.size id o2 hll bx2 (fun e => Nat.lt_irrefl _ (Nat.lt_of_lt_of_le bxl (o2.lt _ e).1))); replace o2 := hide o2; replace b2 := hide b2)
              | (go_at_call 70; refine cE.out.mono ?_; rintro e w3 ⟨A3, c3, rfl, r3, g3, h3⟩; have b3 : Below wD.heap.size wD w3 := b2.out.trans (h3.below b2.out.size (fun b hb => (o2.out.lt b hb).1)); have hC3 := hide (hC2.out.keep b3); obtain ⟨vx, k2⟩ : ∃ v, w3.cell? ⟨z2.a, 32, none⟩ = some v := (hC3.out.placesAt 2 (by decide)).imp fun _ e => e.1; have k3 := hC3.out.free 32; have i3 := hide (fun (_ : 0 < (dropP (stS 2 t2).places id).length) b (hb : (Value.slice A3 (dropP (stS 2 t2).places id).length c3).ownBlock = some b) => (by cases A3 with | none => cases hb | some g => exact (by simpa [Value.ownBlock] using hb : g.block = b) ▸ (o2.out.lt _ (g3 g rfl)).1 : wD.heap.size ≤ b)); replace r3 := hide r3; replace b3 := hide b3; clear g3 h3))
            all_goals
              go_roundw
              case rel => exact ⟨2 + 1, 2 + 1, by omega, by go_num, hide (by first | exact CutAt.setP hC2.out 2 (by decide) _ b3.out r3.out i3.out | exact (CutAt.setP hC2.out 2 (by decide) _ b3.out r3.out i3.out).keep (below_drewN (Below.refl _ _) _))⟩
              case measure => simp [intOf]
        · go_wp2
          go_ret
          refine ⟨rfl, ?_⟩
          have := (hC.out.out (Chg.of_below bA'.out F) bA'.out.size)
          rw [cuts_all, hM1'.out] at this
          exact this
end
end Go.Proofs.YthkjicnnepkghaaDoor
