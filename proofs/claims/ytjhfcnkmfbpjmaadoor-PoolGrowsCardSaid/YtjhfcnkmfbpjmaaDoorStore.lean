/-
  Package pool: pools and buffers, as functions of their numbers.
-/
import Derived.Test.YtjhfcnkmfbpjmaaDoorIMap
import Derived.Test.YtjhfcnkmfbpjmaaDoorHeap
import Derived.Test.YtjhfcnkmfbpjmaaDoorPool
import Derived.Deep.DeepCutAuto
import Derived.Deep.RegionHeld3
namespace Go.Proofs.YtjhfcnkmfbpjmaaDoor
open Go.RowKit

structure PInfo where
  key : Int
  off : Int
  w : Int
  h : Int
  stride : Int
  format : Int
instance : Inhabited PInfo := ⟨⟨0, 0, 0, 0, 0, 0⟩⟩

def polV (x : Int × Int) : Value := .agg #[.int .i64 x.1, .int .i64 x.2]
def infA (i : PInfo) : Array Value := #[.int .i64 i.key, .int .i64 i.off, .int .i64 i.w, .int .i64 i.h, .int .i64 i.stride, .int .i64 i.format]
def bufV (x : PInfo × Bool) : Value := .agg #[.int .i64 x.1.key, .int .i64 x.1.off, .int .i64 x.1.w, .int .i64 x.1.h, .int .i64 x.1.stride, .int .i64 x.1.format, .bool x.2]

def setF {α : Type} (M : Int → Option α) (j : Int) (v : Option α) : Int → Option α := fun i => if i = j then v else M i
theorem setF_same {α : Type} {M : Int → Option α} {j : Int} {v : Option α} : setF M j v j = v := by unfold setF; rw [if_pos rfl]
theorem setF_other {α : Type} {M : Int → Option α} {j k : Int} {v : Option α} (h : k ≠ j) : setF M j v k = M k := by unfold setF; rw [if_neg h]

/-- A store at s: its maps the blocks pm, bm, of no more than n entries each: P, B. -/
structure StoreAt (w : World) (s pm bm n : Nat) (P : Int → Option (Int × Int)) (B : Int → Option (PInfo × Bool)) : Prop where
  cells : w.heap[s]? = some (.cells #[.map (some pm), .map (some bm)] 96 (0, 0))
  ps : pm ≠ s
  bs : bm ≠ s
  pb : pm ≠ bm
  pools : MapAt Tryd.prog 3 w pm n (fun j => (P j).map polV)
  bufs : MapAt Tryd.prog 3 w bm n (fun j => (B j).map bufV)

section
variable {w w' : World} {s pm bm n : Nat} {P P' : Int → Option (Int × Int)} {B B' : Int → Option (PInfo × Bool)}

theorem StoreAt.cellP (h : StoreAt w s pm bm n P B) : w.cell? ⟨s, 0, none⟩ = some (.map (some pm)) := by rw [cell_of_row w s 0 _ _ _ h.cells]; rfl
theorem StoreAt.cellB (h : StoreAt w s pm bm n P B) : w.cell? ⟨s, 1, none⟩ = some (.map (some bm)) := by rw [cell_of_row w s 1 _ _ _ h.cells]; rfl
theorem StoreAt.lt (h : StoreAt w s pm bm n P B) : s < w.heap.size ∧ pm < w.heap.size ∧ bm < w.heap.size := ⟨lt_of_block h.cells, h.pools.lt, h.bufs.lt⟩
theorem StoreAt.chg {G : Nat → Prop} (h : StoreAt w s pm bm n P B) (hg : Chg G w w') (h1 : ¬ G s) (h2 : ¬ G pm) (h3 : ¬ G bm) : StoreAt w' s pm bm n P B :=
  ⟨(hg.block s h.lt.1 h1).trans h.cells, h.ps, h.bs, h.pb, h.pools.block (hg.block pm h.lt.2.1 h2), h.bufs.block (hg.block bm h.lt.2.2 h3)⟩
theorem StoreAt.below (h : StoreAt w s pm bm n P B) (hb : Below w.heap.size w w') : StoreAt w' s pm bm n P B :=
  h.chg (Chg.of_below hb (fun _ => False)) (fun h => h) (fun h => h) (fun h => h)
theorem StoreAt.alloc (h : StoreAt w s pm bm n P B) (o : Obj) : StoreAt (w.alloc o) s pm bm n P B := h.below ((Below.refl _ _).alloc (Nat.le_refl _) o)
theorem StoreAt.drew (h : StoreAt w s pm bm n P B) : StoreAt w.drew s pm bm n P B := h.below (below_drewN (Below.refl _ _) 1)
theorem StoreAt.mono (h : StoreAt w s pm bm n P B) : StoreAt w s pm bm (n + 1) P B := ⟨h.cells, h.ps, h.bs, h.pb, h.pools.mono (Nat.le_succ _), h.bufs.mono (Nat.le_succ _)⟩

theorem StoreAt.putP (h : StoreAt w s pm bm n P B) {j : Int} {v : Int × Int} (hm : MapAt Tryd.prog 3 w' pm (n + 1) (putM (fun j => (P j).map polV) j (polV v))) (hg : w.grownBy w' (some pm)) : StoreAt w' s pm bm (n + 1) (setF P j (some v)) B :=
  ⟨(hg.block s h.lt.1 (by intro e; cases e; exact h.ps rfl)).trans h.cells, h.ps, h.bs, h.pb, hm.congr fun i _ => by unfold putM setF; split <;> simp, (h.bufs.kept hg (by intro e; cases e; exact h.pb rfl)).mono (Nat.le_succ _)⟩
theorem StoreAt.delP (h : StoreAt w s pm bm n P B) {j : Int} (hm : MapAt Tryd.prog 3 w' pm n (delM (fun j => (P j).map polV) j)) (hg : w.grownBy w' (some pm)) : StoreAt w' s pm bm (n + 1) (setF P j none) B :=
  ⟨(hg.block s h.lt.1 (by intro e; cases e; exact h.ps rfl)).trans h.cells, h.ps, h.bs, h.pb, (hm.mono (Nat.le_succ _)).congr fun i _ => by unfold delM setF; split <;> simp, (h.bufs.kept hg (by intro e; cases e; exact h.pb rfl)).mono (Nat.le_succ _)⟩
theorem StoreAt.putB (h : StoreAt w s pm bm n P B) {j : Int} {v : PInfo × Bool} (hm : MapAt Tryd.prog 3 w' bm (n + 1) (putM (fun j => (B j).map bufV) j (bufV v))) (hg : w.grownBy w' (some bm)) : StoreAt w' s pm bm (n + 1) P (setF B j (some v)) :=
  ⟨(hg.block s h.lt.1 (by intro e; cases e; exact h.bs rfl)).trans h.cells, h.ps, h.bs, h.pb, (h.pools.kept hg (by intro e; cases e; exact h.pb rfl)).mono (Nat.le_succ _), hm.congr fun i _ => by unfold putM setF; split <;> simp⟩
theorem StoreAt.delB (h : StoreAt w s pm bm n P B) {j : Int} (hm : MapAt Tryd.prog 3 w' bm n (delM (fun j => (B j).map bufV) j)) (hg : w.grownBy w' (some bm)) : StoreAt w' s pm bm (n + 1) P (setF B j none) :=
  ⟨(hg.block s h.lt.1 (by intro e; cases e; exact h.bs rfl)).trans h.cells, h.ps, h.bs, h.pb, (h.pools.kept hg (by intro e; cases e; exact h.pb rfl)).mono (Nat.le_succ _), (hm.mono (Nat.le_succ _)).congr fun i _ => by unfold delM setF; split <;> simp⟩

def polD (P : Int → Option (Int × Int)) (j : Int) : Int × Int := (P j).getD (0, 0)
def bufD (B : Int → Option (PInfo × Bool)) (j : Int) : PInfo × Bool := (B j).getD (default, false)

theorem StoreAt.lookP (h : StoreAt w s pm bm n P B) {j : Int} (hj : I64 j) : (Instr.lookup 93 (.map (some pm)) (.int .i64 j) true).run Tryd.prog w = .ok (.tuple #[polV (polD P j), .bool (P j).isSome]) w := by
  rw [h.pools.lookOk Tryd.underlying3 Tryd.underlying93 (Tryd.zeroValue98 _) hj]
  unfold polD
  cases P j with
  | none => rfl
  | some x => rfl
theorem StoreAt.lookB (h : StoreAt w s pm bm n P B) {j : Int} (hj : I64 j) : (Instr.lookup 94 (.map (some bm)) (.int .i64 j) true).run Tryd.prog w = .ok (.tuple #[bufV (bufD B j), .bool (B j).isSome]) w := by
  rw [h.bufs.lookOk Tryd.underlying3 Tryd.underlying94 (Tryd.zeroValue101 _) hj]
  unfold bufD
  cases B j with
  | none => rfl
  | some x => rfl
theorem StoreAt.lookB1 (h : StoreAt w s pm bm n P B) {j : Int} (hj : I64 j) : (Instr.lookup 94 (.map (some bm)) (.int .i64 j) false).run Tryd.prog w = .ok (bufV (bufD B j)) w := by
  rw [h.bufs.look Tryd.underlying3 Tryd.underlying94 (Tryd.zeroValue101 _) hj]
  unfold bufD
  cases B j with
  | none => rfl
  | some x => rfl
end

theorem grown_cell {w w' : World} {b : Nat} (hg : w.grownBy w' (some b)) (a : Addr) (hlt : a.block < w.heap.size) (hne : a.block ≠ b) : w'.cell? a = w.cell? a :=
  World.cell?_of_block (hg.block a.block hlt (by intro e; cases e; exact hne rfl))

/-- What a call has left. -/
def StoreOut (w : World) (s pm bm n : Nat) (P : Int → Option (Int × Int)) (B : Int → Option (PInfo × Bool)) (w' : World) : Prop := StoreAt w' s pm bm (n + 1) P B ∧ Chg (fun b => b = pm ∨ b = bm) w w'

theorem StoreAt.stay {w : World} {s pm bm n : Nat} {P : Int → Option (Int × Int)} {B : Int → Option (PInfo × Bool)} (h : StoreAt w s pm bm n P B) {w' : World} (hb : Below w.heap.size w w') : StoreOut w s pm bm n P B w' :=
  ⟨(h.below hb).mono, Chg.of_below hb _⟩
theorem StoreAt.outP {w w1 w2 : World} {s pm bm n : Nat} {P' : Int → Option (Int × Int)} {B : Int → Option (PInfo × Bool)} (hs : StoreAt w2 s pm bm (n + 1) P' B) (hb : Below w.heap.size w w1) (hg : w1.grownBy w2 (some pm)) : StoreOut w s pm bm n P' B w2 :=
  ⟨hs, (Chg.of_below hb _).trans (Chg.grown (F := fun b => b = pm ∨ b = bm) hg fun b hb => by cases hb; exact .inl rfl) (Ext.refl _ _)⟩
theorem StoreAt.outB {w w1 w2 : World} {s pm bm n : Nat} {P : Int → Option (Int × Int)} {B' : Int → Option (PInfo × Bool)} (hs : StoreAt w2 s pm bm (n + 1) P B') (hb : Below w.heap.size w w1) (hg : w1.grownBy w2 (some bm)) : StoreOut w s pm bm n P B' w2 :=
  ⟨hs, (Chg.of_below hb _).trans (Chg.grown (F := fun b => b = pm ∨ b = bm) hg fun b hb => by cases hb; exact .inr rfl) (Ext.refl _ _)⟩

theorem below1 (w : World) (o : Obj) : Below w.heap.size w (w.alloc o) := (Below.refl _ _).alloc (Nat.le_refl _) o
theorem below2 (w : World) (o o' : Obj) : Below w.heap.size w ((w.alloc o).alloc o') := (below1 w o).alloc (by simp) o'

theorem below1d (w : World) (o : Obj) : Below w.heap.size w (w.alloc o).drew := below_drewN (below1 w o) 1
theorem below2d (w : World) (o o' : Obj) : Below w.heap.size w ((w.alloc o).alloc o').drew := below_drewN (below2 w o o') 1

set_option maxRecDepth 100000 in
theorem pNew_any (w : World) : Calls Tryd.prog 33 #[] w fun e w' => ∃ s pm bm, e = .returned (.pointer (some ⟨s, 0, none⟩)) ∧ StoreAt w' s pm bm 0 (fun _ => none) (fun _ => none) ∧ Below w.heap.size w w' ∧ w.heap.size ≤ s ∧ w.heap.size ≤ pm ∧ w.heap.size ≤ bm := by
  have hmm := @run_makeMap Tryd.prog
  have hm0 := MapAt.made w Tryd.prog 3
  have hm1 := MapAt.made (w.alloc (.map #[] 0)) Tryd.prog 3
  go_enter Tryd.func33, Tryd.ntmps33
  go_wp2
  go_ret
  have e1 : (w.alloc (.map #[] 0)).heap.size = w.heap.size + 1 := by simp
  rw [e1] at hm1
  have hA := hm0.kept (World.grownBy_alloc (w.alloc (.map #[] 0)) (.map #[] 0) none) (by simp)
  refine ⟨w.heap.size + 2, w.heap.size, w.heap.size + 1, rfl, ⟨?_, by omega, by omega, by omega, hA.kept (World.grownBy_alloc _ _ none) (by simp), hm1.kept (World.grownBy_alloc _ _ none) (by simp)⟩, (below2 w _ _).alloc (by simp; omega) _, by omega, Nat.le_refl _, by omega⟩
  have := heap_alloc_new ((w.alloc (.map #[] 0)).alloc (.map #[] 0)) (.cells #[.map (some w.heap.size), .map (some (w.heap.size + 1))] 96)
  simpa using this

def poolK (P : Int → Option (Int × Int)) (id size mem : Int) : Nat := if (P id).isSome then 5 else if size < 1 ∨ 65536 < size then 8 else if mem < size then 9 else 0
def poolS (P : Int → Option (Int × Int)) (id key size mem : Int) : Int → Option (Int × Int) := if poolK P id size mem = 0 then setF P id (some (key, size)) else P
def resK (P : Int → Option (Int × Int)) (id size mem : Int) : Nat := match P id with | none => 5 | some (_, z) => if size < z ∨ 65536 < size then 8 else if mem < size then 9 else 0
def resS (P : Int → Option (Int × Int)) (id size mem : Int) : Int → Option (Int × Int) := if resK P id size mem = 0 then setF P id (some ((polD P id).1, size)) else P
def sizeI (P : Int → Option (Int × Int)) (id : Int) : Int := match P id with | none => -1 | some (_, z) => z
def dpolK (P : Int → Option (Int × Int)) (id : Int) : Nat := if (P id).isSome then 0 else 5
def dpolS (P : Int → Option (Int × Int)) (id : Int) : Int → Option (Int × Int) := if (P id).isSome then setF P id none else P


set_option maxRecDepth 100000 in
theorem pPool_any {C : Nat} (w : World) {ae : Nat → Addr} (hE : Errs C w ae) (s pm bm n : Nat) (P : Int → Option (Int × Int)) (B : Int → Option (PInfo × Bool)) (id key size mem : Int) (hid : I64 id) (h : StoreAt w s pm bm n P B) (hn : n ≤ 1000000) :
    Calls Tryd.prog 34 #[.pointer (some ⟨s, 0, none⟩), .int .i64 id, .int .i64 key, .int .i64 size, .int .i64 mem] w fun e w' => e = .returned (errV ae (poolK P id size mem)) ∧ StoreOut w s pm bm n (poolS P id key size mem) B w' := by
  have hc := h.cellP
  have hl := h.lookP hid
  have hcB := h.cellB
  have hca := fun o => (h.alloc o).cellP
  have hcaB := fun o => (h.alloc o).cellB
  have hst := hide (fun w' hb => h.stay (w' := w') hb)
  have g4 := fun o => (hE.alloc o).glob 4 (by decide)
  have g7 := fun o => (hE.alloc o).glob 7 (by decide)
  have g8 := fun o => (hE.alloc o).glob 8 (by decide)
  have g4' : ∀ o, (w.alloc o).cell? ⟨1, 0, none⟩ = _ := g4
  have g7' : ∀ o, (w.alloc o).cell? ⟨7, 0, none⟩ = _ := g7
  have g8' : ∀ o, (w.alloc o).cell? ⟨8, 0, none⟩ = _ := g8
  clear g4 g7 g8
  unfold polV polD at hl
  cases hP : P id with
  | some x =>
    have e1 : poolK P id size mem = 5 := by simp [poolK, hP]
    rw [show poolS P id key size mem = P by unfold poolS; rw [if_neg (by rw [e1]; decide)], e1]
    rw [hP] at hl
    clear hE e1 h hP
    go_enter Tryd.func34, Tryd.ntmps34
    go_wp2
    go_ret
    exact ⟨rfl, hst.out _ (by first | exact Below.refl _ _ | exact below1 _ _ | exact below2 _ _ _)⟩
  | none =>
    rw [hP] at hl
    dsimp only [Option.getD, Option.isSome] at hl
    rcases (show size < 1 ∨ (1 ≤ size ∧ 65536 < size) ∨ (1 ≤ size ∧ size ≤ 65536 ∧ mem < size) ∨ (1 ≤ size ∧ size ≤ 65536 ∧ size ≤ mem) by omega) with h1 | ⟨h1, h2⟩ | ⟨h1, h2, h3⟩ | ⟨h1, h2, h3⟩
    · have e1 : poolK P id size mem = 8 := by unfold poolK; rw [hP, if_neg (by simp), if_pos (by omega)]
      rw [show poolS P id key size mem = P by unfold poolS; rw [if_neg (by rw [e1]; decide)], e1]
      clear hE e1 h hP
      go_enter Tryd.func34, Tryd.ntmps34
      go_wp2
      go_ret
      exact ⟨rfl, hst.out _ (by first | exact Below.refl _ _ | exact below1 _ _ | exact below2 _ _ _)⟩
    · have e1 : poolK P id size mem = 8 := by unfold poolK; rw [hP, if_neg (by simp), if_pos (by omega)]
      rw [show poolS P id key size mem = P by unfold poolS; rw [if_neg (by rw [e1]; decide)], e1]
      clear hE e1 h hP
      go_enter Tryd.func34, Tryd.ntmps34
      go_wp2
      go_ret
      exact ⟨rfl, hst.out _ (by first | exact Below.refl _ _ | exact below1 _ _ | exact below2 _ _ _)⟩
    · have e1 : poolK P id size mem = 9 := by unfold poolK; rw [hP, if_neg (by simp), if_neg (by omega), if_pos (by omega)]
      rw [show poolS P id key size mem = P by unfold poolS; rw [if_neg (by rw [e1]; decide)], e1]
      clear hE e1 h hP
      go_enter Tryd.func34, Tryd.ntmps34
      go_wp2
      go_ret
      exact ⟨rfl, hst.out _ (by first | exact Below.refl _ _ | exact below1 _ _ | exact below2 _ _ _)⟩
    · have e1 : poolK P id size mem = 0 := by unfold poolK; rw [hP, if_neg (by simp), if_neg (by omega), if_neg (by omega)]
      rw [show poolS P id key size mem = setF P id (some (key, size)) by unfold poolS; rw [if_pos e1], e1]
      have Ha := hide (fun o => h.alloc o)
      clear hE e1 h hP hst g4' g7' g8'
      go_enter Tryd.func34, Tryd.ntmps34
      go_wp2_with (at_mapUpdate; refine wpList_put rfl _ _ _ 93 rfl 3 98 Tryd.underlying3 Tryd.underlying93 pm n _ rfl (Ha.out _).pools (by unfold maxLen; omega) id _ rfl rfl hid ?_; intro w1 hm2 hg2)
      go_ret
      exact ⟨rfl, ((Ha.out _).putP (v := (key, size)) hm2 hg2).outP (below1 _ _) hg2⟩

theorem sizeI_none {P : Int → Option (Int × Int)} {id : Int} (h : P id = none) : sizeI P id = -1 := by simp [sizeI, h]
theorem sizeI_some {P : Int → Option (Int × Int)} {id : Int} {x : Int × Int} (h : P id = some x) : sizeI P id = x.2 := by simp [sizeI, h]

set_option maxRecDepth 100000 in
theorem pSize_any (w : World) (s pm bm n : Nat) (P : Int → Option (Int × Int)) (B : Int → Option (PInfo × Bool)) (id : Int) (hid : I64 id) (h : StoreAt w s pm bm n P B) :
    Calls Tryd.prog 37 #[.pointer (some ⟨s, 0, none⟩), .int .i64 id] w fun e w' => e = .returned (.int .i64 (sizeI P id)) ∧ Below w.heap.size w w' := by
  have hc := h.cellP
  have hl := h.lookP hid
  unfold polV polD at hl
  cases hP : P id with
  | none =>
    rw [sizeI_none hP]
    rw [hP] at hl
    dsimp only [Option.getD, Option.isSome] at hl
    clear h hP
    go_enter Tryd.func37, Tryd.ntmps37
    go_wp2
    go_ret
    exact ⟨rfl, below1 _ _⟩
  | some x =>
    rw [sizeI_some hP]
    rw [hP] at hl
    dsimp only [Option.getD, Option.isSome] at hl
    obtain ⟨x0, x1⟩ := x
    dsimp only at hl
    clear h hP
    go_enter Tryd.func37, Tryd.ntmps37
    go_wp2
    go_ret
    exact ⟨rfl, below1 _ _⟩

set_option maxRecDepth 100000 in
theorem pDropPool_any {C : Nat} (w : World) {ae : Nat → Addr} (hE : Errs C w ae) (s pm bm n : Nat) (P : Int → Option (Int × Int)) (B : Int → Option (PInfo × Bool)) (id : Int) (hid : I64 id) (h : StoreAt w s pm bm n P B) :
    Calls Tryd.prog 39 #[.pointer (some ⟨s, 0, none⟩), .int .i64 id] w fun e w' => e = .returned (errV ae (dpolK P id)) ∧ StoreOut w s pm bm n (dpolS P id) B w' := by
  have hc := h.cellP
  have hl := h.lookP hid
  have hcB := h.cellB
  have hca := fun o => (h.alloc o).cellP
  have hcaB := fun o => (h.alloc o).cellB
  have hst := hide (fun w' hb => h.stay (w' := w') hb)
  have g4 := fun o => (hE.alloc o).glob 4 (by decide)
  have g7 := fun o => (hE.alloc o).glob 7 (by decide)
  have g8 := fun o => (hE.alloc o).glob 8 (by decide)
  have g4' : ∀ o, (w.alloc o).cell? ⟨1, 0, none⟩ = _ := g4
  have g7' : ∀ o, (w.alloc o).cell? ⟨7, 0, none⟩ = _ := g7
  have g8' : ∀ o, (w.alloc o).cell? ⟨8, 0, none⟩ = _ := g8
  clear g4 g7 g8
  unfold polV polD at hl
  cases hP : P id with
  | none =>
    have e1 : dpolK P id = 5 := by simp [dpolK, hP]
    rw [show dpolS P id = P by unfold dpolS; rw [hP, if_neg (by simp)], e1]
    rw [hP] at hl
    dsimp only [Option.getD, Option.isSome] at hl
    clear hE e1 h hP
    go_enter Tryd.func39, Tryd.ntmps39
    go_wp2
    go_ret
    exact ⟨rfl, hst.out _ (by first | exact Below.refl _ _ | exact below1 _ _ | exact below2 _ _ _)⟩
  | some x =>
    have e1 : dpolK P id = 0 := by simp [dpolK, hP]
    rw [show dpolS P id = setF P id none by simp [dpolS, hP], e1]
    rw [hP] at hl
    dsimp only [Option.getD, Option.isSome] at hl
    have Ha := hide (fun o => h.alloc o)
    clear hE e1 h hP hst g4' g7' g8'
    go_enter Tryd.func39, Tryd.ntmps39
    go_wp2_with (at_delete; refine wpList_del rfl _ _ 93 3 rfl 98 Tryd.underlying3 Tryd.underlying93 pm n _ rfl (Ha.out _).pools id rfl hid ?_; intro w1 hm2 hg2)
    go_ret
    exact ⟨rfl, ((Ha.out _).delP hm2 hg2).outP (below1 _ _) hg2⟩

/-- A store of an entry, behind a draw, as a run's equation: with what a walk's region asks of the cells behind it. -/
theorem StoreAt.runP {w : World} {s pm bm n : Nat} {P : Int → Option (Int × Int)} {B : Int → Option (PInfo × Bool)} (h : StoreAt w s pm bm n P B) (hn : n ≤ 1000000) {id : Int} (hid : I64 id) (v : Int × Int) :
    ∃ w1, (Instr.mapUpdate 93 (.map (some pm)) (.int .i64 id) (polV v)).run Tryd.prog w.drew = .ok () w1 ∧ StoreAt w1 s pm bm (n + 1) (setF P id (some v)) B ∧ w.drew.grownBy w1 (some pm) := by
  obtain ⟨w1, h1, h2, h3⟩ := h.drew.pools.putRun Tryd.underlying3 Tryd.underlying93 (by unfold maxLen; omega) hid (polV v)
  exact ⟨w1, h1, h.drew.putP h2 h3, h3⟩

theorem resK_none {P : Int → Option (Int × Int)} {id size mem : Int} (h : P id = none) : resK P id size mem = 5 := by simp [resK, h]
theorem resK_big {P : Int → Option (Int × Int)} {id size mem : Int} {x : Int × Int} (h : P id = some x) (h1 : size < x.2 ∨ 65536 < size) : resK P id size mem = 8 := by simp [resK, h, h1]
theorem resK_mem {P : Int → Option (Int × Int)} {id size mem : Int} {x : Int × Int} (h : P id = some x) (h1 : ¬ (size < x.2 ∨ 65536 < size)) (h2 : mem < size) : resK P id size mem = 9 := by simp [resK, h, h1, h2]
theorem resK_ok {P : Int → Option (Int × Int)} {id size mem : Int} {x : Int × Int} (h : P id = some x) (h1 : ¬ (size < x.2 ∨ 65536 < size)) (h2 : ¬ mem < size) : resK P id size mem = 0 := by simp [resK, h, h1, h2]

set_option maxRecDepth 100000 in
theorem pResize_any {C : Nat} (w : World) {ae : Nat → Addr} (hE : Errs C w ae) (s pm bm n : Nat) (P : Int → Option (Int × Int)) (B : Int → Option (PInfo × Bool)) (id size mem : Int) (hid : I64 id) (h : StoreAt w s pm bm n P B) (hn : n ≤ 1000000) :
    Calls Tryd.prog 36 #[.pointer (some ⟨s, 0, none⟩), .int .i64 id, .int .i64 size, .int .i64 mem] w fun e w' => e = .returned (errV ae (resK P id size mem)) ∧ StoreOut w s pm bm n (resS P id size mem) B w' := by
  have hc := h.cellP
  have hl := h.lookP hid
  have hcB := h.cellB
  have hca := fun o => (h.alloc o).cellP
  have hcaB := fun o => (h.alloc o).cellB
  have hst := hide (fun w' hb => h.stay (w' := w') hb)
  have g4 := fun o => (hE.alloc o).glob 4 (by decide)
  have g7 := fun o => (hE.alloc o).glob 7 (by decide)
  have g8 := fun o => (hE.alloc o).glob 8 (by decide)
  have g4' : ∀ o, (w.alloc o).cell? ⟨1, 0, none⟩ = _ := g4
  have g7' : ∀ o, (w.alloc o).cell? ⟨7, 0, none⟩ = _ := g7
  have g8' : ∀ o, (w.alloc o).cell? ⟨8, 0, none⟩ = _ := g8
  clear g4 g7 g8
  unfold polV polD at hl
  cases hP : P id with
  | none =>
    have e1 : resK P id size mem = 5 := resK_none hP
    rw [show resS P id size mem = P by unfold resS; rw [if_neg (by rw [e1]; decide)], e1]
    rw [hP] at hl
    dsimp only [Option.getD, Option.isSome] at hl
    clear hE e1 h hP
    go_enter Tryd.func36, Tryd.ntmps36
    go_wp2
    go_ret
    exact ⟨rfl, hst.out _ (by first | exact Below.refl _ _ | exact below1 _ _ | exact below2 _ _ _)⟩
  | some x =>
    rw [hP] at hl
    dsimp only [Option.getD, Option.isSome] at hl
    obtain ⟨x0, x1⟩ := x
    dsimp only at hl
    rcases (show size < x1 ∨ (x1 ≤ size ∧ 65536 < size) ∨ (x1 ≤ size ∧ size ≤ 65536 ∧ mem < size) ∨ (x1 ≤ size ∧ size ≤ 65536 ∧ size ≤ mem) by omega) with h1 | ⟨h1, h2⟩ | ⟨h1, h2, h3⟩ | ⟨h1, h2, h3⟩
    · have e1 : resK P id size mem = 8 := resK_big hP (.inl h1)
      rw [show resS P id size mem = P by unfold resS; rw [if_neg (by rw [e1]; decide)], e1]
      clear hE e1 h hP
      go_enter Tryd.func36, Tryd.ntmps36
      go_wp2
      go_ret
      exact ⟨rfl, hst.out _ (by first | exact Below.refl _ _ | exact below1 _ _ | exact below2 _ _ _)⟩
    · have e1 : resK P id size mem = 8 := resK_big hP (.inr h2)
      rw [show resS P id size mem = P by unfold resS; rw [if_neg (by rw [e1]; decide)], e1]
      clear hE e1 h hP
      go_enter Tryd.func36, Tryd.ntmps36
      go_wp2
      go_ret
      exact ⟨rfl, hst.out _ (by first | exact Below.refl _ _ | exact below1 _ _ | exact below2 _ _ _)⟩
    · have e1 : resK P id size mem = 9 := resK_mem hP (by dsimp only; omega) h3
      rw [show resS P id size mem = P by unfold resS; rw [if_neg (by rw [e1]; decide)], e1]
      clear hE e1 h hP
      go_enter Tryd.func36, Tryd.ntmps36
      go_wp2
      go_ret
      exact ⟨rfl, hst.out _ (by first | exact Below.refl _ _ | exact below1 _ _ | exact below2 _ _ _)⟩
    · have e1 : resK P id size mem = 0 := resK_ok hP (by dsimp only; omega) (by omega)
      rw [show resS P id size mem = setF P id (some (x0, size)) by unfold resS polD; rw [if_pos e1, hP]; rfl, e1]
      obtain ⟨w1, hrun, hs1, hg1⟩ := (h.alloc (.cells #[.int .i64 x0, .int .i64 x1] 98)).runP hn hid (x0, size)
      unfold polV at hrun
      dsimp only at hrun
      replace hs1 := hide hs1
      replace hg1 := hide hg1
      have k0 := (h.alloc (.cells #[.int .i64 x0, .int .i64 x1] 98)).cellP
      have k1 := hs1.out.cellP
      have hpl := h.lt
      have k2 : w1.cell? ⟨w.heap.size, 0, none⟩ = some (.int .i64 x0) := by
        rw [grown_cell hg1.out ⟨w.heap.size, 0, none⟩ (by show w.heap.size < (w.alloc _).heap.size; simp) (by show w.heap.size ≠ pm; omega)]
        show (w.alloc _).cell? _ = _
        simp
      clear hE e1 h hP hst g4' g7' g8' hca hcaB hcB
      go_enter Tryd.func36, Tryd.ntmps36
      go_wp2
      go_region_held3 (fun w' => w'.cell? ⟨s, 0, none⟩ = some (.map (some pm)) ∧ w'.cell? ⟨w.heap.size, 0, none⟩ = some (.int .i64 x0)) (go_keep) (fail)
      go_wp2
      go_ret
      exact ⟨rfl, hs1.out.outP (below1d _ _) hg1.out⟩
end Go.Proofs.YtjhfcnkmfbpjmaaDoor
