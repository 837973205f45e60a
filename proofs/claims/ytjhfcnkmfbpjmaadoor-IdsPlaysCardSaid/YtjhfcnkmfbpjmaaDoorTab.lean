/-
  Package ids: a client's objects, as a function of their numbers; New, Add, Drop, Want, Face, Version.
-/
import Derived.Test.YtjhfcnkmfbpjmaaDoorIMap
import Derived.Test.YtjhfcnkmfbpjmaaDoorHeap
import Derived.Test.YtjhfcnkmfbpjmaaDoorErrs
import Derived.Deep.DeepCutAuto
namespace Go.Proofs.YtjhfcnkmfbpjmaaDoor
open Go.RowKit

/-- What a world holds of two of the errors: the argument's, the object's. -/
structure Err2 (B : Nat) (w : World) (ae : Nat → Addr) : Prop where
  g0 : w.cell? ⟨0, 0, none⟩ = some (.iface 152 (.pointer (some (ae 0))))
  g4 : w.cell? ⟨1, 0, none⟩ = some (.iface 152 (.pointer (some (ae 4))))
  lt : 0 < B ∧ 1 < B

theorem Err2.below {B : Nat} {w w' : World} {ae : Nat → Addr} (h : Err2 B w ae) (hb : Below B w w') : Err2 B w' ae :=
  ⟨(hb.cell (p := ⟨0, 0, none⟩) h.lt.1).trans h.g0, (hb.cell (p := ⟨1, 0, none⟩) h.lt.2).trans h.g4, h.lt⟩
theorem Err2.alloc {B : Nat} {w : World} {ae : Nat → Addr} (h : Err2 B w ae) (o : Obj) : Err2 B (w.alloc o) ae :=
  ⟨by rw [World.cell?_alloc_past _ _ _ (block_lt_of_cell h.g0)]; exact h.g0, by rw [World.cell?_alloc_past _ _ _ (block_lt_of_cell h.g4)]; exact h.g4, h.lt⟩
theorem Err2.wider {B B' : Nat} {w : World} {ae : Nat → Addr} (h : Err2 B w ae) (hb : B ≤ B') : Err2 B' w ae := ⟨h.g0, h.g4, by have := h.lt; omega⟩
theorem Errs.two {B : Nat} {w : World} {ae : Nat → Addr} (h : Errs B w ae) : Err2 B w ae := ⟨h.glob 0 (by decide), h.glob 4 (by decide), (h.lt 0 (by decide)).2, (h.lt 4 (by decide)).2⟩

/-- An object, as a value. -/
def obV (x : Int × Int) : Value := .agg #[.int .i64 x.1, .int .i64 x.2]

/-- A table at p, its map the block mb, of no more than n objects: M. -/
def TabAt (w : World) (p mb n : Nat) (M : Int → Option (Int × Int)) : Prop :=
  w.heap[p]? = some (.cells #[.map (some mb)] 81 (0, 0)) ∧ mb ≠ p ∧ MapAt Tryd.prog 3 w mb n (fun j => (M j).map obV)

def setT (M : Int → Option (Int × Int)) (j : Int) (v : Option (Int × Int)) : Int → Option (Int × Int) := fun i => if i = j then v else M i

section
variable {w w' : World} {p mb n : Nat} {M : Int → Option (Int × Int)}

theorem TabAt.cell (h : TabAt w p mb n M) : w.cell? ⟨p, 0, none⟩ = some (.map (some mb)) := by rw [cell_of_row w p 0 _ _ _ h.1]; rfl
theorem TabAt.chg {G : Nat → Prop} (h : TabAt w p mb n M) (hg : Chg G w w') (h1 : ¬ G p) (h2 : ¬ G mb) : TabAt w' p mb n M :=
  ⟨(hg.block p (lt_of_block h.1) h1).trans h.1, h.2.1, h.2.2.block (hg.block mb h.2.2.lt h2)⟩
theorem TabAt.below {B : Nat} (h : TabAt w p mb n M) (hg : Below B w w') (h1 : p < B) (h2 : mb < B) : TabAt w' p mb n M :=
  ⟨(hg.block p h1).trans h.1, h.2.1, h.2.2.block (hg.block mb h2)⟩
theorem TabAt.lt (h : TabAt w p mb n M) : p < w.heap.size ∧ mb < w.heap.size := ⟨lt_of_block h.1, h.2.2.lt⟩
theorem TabAt.put (h : TabAt w p mb n M) {j : Int} {v : Int × Int} (hm : MapAt Tryd.prog 3 w' mb (n + 1) (putM (fun j => (M j).map obV) j (obV v))) (hg : w.grownBy w' (some mb)) : TabAt w' p mb (n + 1) (setT M j (some v)) :=
  ⟨(hg.block p (lt_of_block h.1) (by intro e; cases e; exact h.2.1 rfl)).trans h.1, h.2.1, hm.congr fun i _ => by unfold putM setT; split <;> simp⟩
theorem TabAt.del (h : TabAt w p mb n M) {j : Int} (hm : MapAt Tryd.prog 3 w' mb n (delM (fun j => (M j).map obV) j)) (hg : w.grownBy w' (some mb)) : TabAt w' p mb n (setT M j none) :=
  ⟨(hg.block p (lt_of_block h.1) (by intro e; cases e; exact h.2.1 rfl)).trans h.1, h.2.1, hm.congr fun i _ => by unfold delM setT; split <;> simp⟩
end

/-- What a call has left: the table, and nothing else turned. -/
def TabOut (w : World) (p mb n : Nat) (M : Int → Option (Int × Int)) (w' : World) : Prop := TabAt w' p mb (n + 1) M ∧ Chg (fun b => b = mb) w w'

theorem TabAt.stay {w : World} {p mb n : Nat} {M : Int → Option (Int × Int)} (h : TabAt w p mb n M) : TabOut w p mb n M w := ⟨⟨h.1, h.2.1, h.2.2.mono (Nat.le_succ _)⟩, Chg.refl _ _⟩

theorem TabAt.stay2 {w : World} {p mb n : Nat} {M : Int → Option (Int × Int)} (h : TabAt w p mb n M) {o : Obj} : TabOut w p mb n M (w.alloc o) :=
  ⟨(h.stay.1.below ((Below.refl _ _).alloc (Nat.le_refl _) o) h.lt.1 h.lt.2), (Chg.refl _ _).alloc o⟩
theorem TabAt.putOut {w w1 : World} {p mb n : Nat} {M : Int → Option (Int × Int)} {o : Obj} {j : Int} {v : Int × Int} (h : TabAt w p mb n M) (hm : MapAt Tryd.prog 3 w1 mb (n + 1) (putM (fun j => (M j).map obV) j (obV v))) (hg : (w.alloc o).grownBy w1 (some mb)) : TabOut w p mb n (setT M j (some v)) w1 :=
  ⟨(h.below ((Below.refl _ _).alloc (Nat.le_refl _) o) h.lt.1 h.lt.2).put hm hg, ((Chg.refl _ w).alloc o).trans (Chg.grown hg fun b hb => by cases hb; rfl) (Ext.refl _ _)⟩
theorem TabAt.delOut {w w1 : World} {p mb n : Nat} {M : Int → Option (Int × Int)} {o : Obj} {j : Int} (h : TabAt w p mb n M) (hm : MapAt Tryd.prog 3 w1 mb n (delM (fun j => (M j).map obV) j)) (hg : (w.alloc o).grownBy w1 (some mb)) : TabOut w p mb n (setT M j none) w1 :=
  ⟨by have h2 := (h.below ((Below.refl _ _).alloc (Nat.le_refl _) o) h.lt.1 h.lt.2).del hm hg; exact ⟨h2.1, h2.2.1, h2.2.2.mono (Nat.le_succ _)⟩, ((Chg.refl _ w).alloc o).trans (Chg.grown hg fun b hb => by cases hb; rfl) (Ext.refl _ _)⟩

def tab0 : Int → Option (Int × Int) := fun j => if j = 1 then some (1, 1) else none

set_option maxRecDepth 100000 in
theorem tNew_any (w : World) : Calls Tryd.prog 12 #[] w fun e w' => ∃ p mb, e = .returned (.pointer (some ⟨p, 0, none⟩)) ∧ TabAt w' p mb 1 tab0 ∧ Below w.heap.size w w' ∧ w.heap.size ≤ p ∧ w.heap.size ≤ mb := by
  have hmm := @run_makeMap Tryd.prog
  have hm0 := MapAt.made w Tryd.prog 3
  go_enter Tryd.func12, Tryd.ntmps12
  go_wp2_with (refine wpList_ins rfl _ _ _ 79 rfl 3 78 Tryd.underlying3 Tryd.underlying79 _ 0 _ rfl hm0 (by unfold maxLen; omega) 1 _ rfl rfl (by unfold I64; omega) ?_; intro w1 hm2 hg2)
  go_ret
  have hl1 := hm2.lt
  refine ⟨w1.heap.size, w.heap.size, rfl, ⟨heap_alloc_new _ _, by omega, (hm2.kept (World.grownBy_alloc w1 _ none) (by simp)).congr fun j _ => ?_⟩, (((Below.refl _ _).alloc (Nat.le_refl _) _).trans (grown_below hg2 (Nat.le_refl _) (by simp))).alloc (by omega) _, by omega, Nat.le_refl _⟩
  unfold tab0 putM
  split <;> rfl

def addIK (M : Int → Option (Int × Int)) (id f v : Int) : Nat := if f < 1 ∨ 17 < f ∨ v < 1 then 1 else if (M id).isSome ∨ id < 2 ∨ 255 < id then 5 else 0
def addIS (M : Int → Option (Int × Int)) (id f v : Int) : Int → Option (Int × Int) := if addIK M id f v = 0 then setT M id (some (f, v)) else M
def dropIK (M : Int → Option (Int × Int)) (id : Int) : Nat := if (M id).isSome ∧ id ≠ 1 then 0 else 5
def dropIS (M : Int → Option (Int × Int)) (id : Int) : Int → Option (Int × Int) := if dropIK M id = 0 then setT M id none else M
def wantIK (M : Int → Option (Int × Int)) (id f : Int) : Nat := match M id with | some (g, _) => if g = f then 0 else 5 | none => 5
def faceI (M : Int → Option (Int × Int)) (id : Int) : Int := match M id with | some (g, _) => g | none => 0
def versI (M : Int → Option (Int × Int)) (id : Int) : Int := match M id with | some (_, v) => v | none => 0

section
variable {w : World} {p mb n : Nat} {M : Int → Option (Int × Int)}
theorem TabAt.look (h : TabAt w p mb n M) {j : Int} (hj : I64 j) :
    (Instr.lookup 79 (.map (some mb)) (.int .i64 j) false).run Tryd.prog w = .ok (.agg #[.int .i64 (faceI M j), .int .i64 (versI M j)]) w := by
  rw [h.2.2.look Tryd.underlying3 Tryd.underlying79 (Tryd.zeroValue78 _) hj]
  unfold faceI versI
  cases M j with
  | none => rfl
  | some x => rfl
theorem TabAt.lookOk (h : TabAt w p mb n M) {j : Int} (hj : I64 j) :
    (Instr.lookup 79 (.map (some mb)) (.int .i64 j) true).run Tryd.prog w = .ok (.tuple #[.agg #[.int .i64 (faceI M j), .int .i64 (versI M j)], .bool (M j).isSome]) w := by
  rw [h.2.2.lookOk Tryd.underlying3 Tryd.underlying79 (Tryd.zeroValue78 _) hj]
  unfold faceI versI
  cases M j with
  | none => rfl
  | some x => rfl
end

theorem Tryd.obFace (a b : Int) (w : World) : (Instr.field 78 (.agg #[.int .i64 a, .int .i64 b]) 0).run Tryd.prog w = .ok (.int .i64 a) w := by kernel_rfl
theorem Tryd.obVersion (a b : Int) (w : World) : (Instr.field 78 (.agg #[.int .i64 a, .int .i64 b]) 1).run Tryd.prog w = .ok (.int .i64 b) w := by kernel_rfl

set_option maxRecDepth 100000 in
theorem tFace_any (w : World) (p mb n : Nat) (M : Int → Option (Int × Int)) (id : Int) (hid : I64 id) (h : TabAt w p mb n M) :
    Calls Tryd.prog 16 #[.pointer (some ⟨p, 0, none⟩), .int .i64 id] w fun e w' => e = .returned (.int .i64 (faceI M id)) ∧ Below w.heap.size w w' := by
  have hc := h.cell
  have hl := h.look hid
  have ob0 := Tryd.obFace
  have ob1 := Tryd.obVersion
  clear h
  go_enter Tryd.func16, Tryd.ntmps16
  go_wp2
  go_ret
  exact ⟨rfl, Below.refl _ _⟩

set_option maxRecDepth 100000 in
theorem tVersion_any (w : World) (p mb n : Nat) (M : Int → Option (Int × Int)) (id : Int) (hid : I64 id) (h : TabAt w p mb n M) :
    Calls Tryd.prog 17 #[.pointer (some ⟨p, 0, none⟩), .int .i64 id] w fun e w' => e = .returned (.int .i64 (versI M id)) ∧ Below w.heap.size w w' := by
  have hc := h.cell
  have hl := h.look hid
  have ob0 := Tryd.obFace
  have ob1 := Tryd.obVersion
  clear h
  go_enter Tryd.func17, Tryd.ntmps17
  go_wp2
  go_ret
  exact ⟨rfl, Below.refl _ _⟩

set_option maxRecDepth 100000 in
theorem tWant_any {B : Nat} (w : World) {ae : Nat → Addr} (hE : Err2 B w ae) (p mb n : Nat) (M : Int → Option (Int × Int)) (id f : Int) (hid : I64 id) (h : TabAt w p mb n M) :
    Calls Tryd.prog 18 #[.pointer (some ⟨p, 0, none⟩), .int .i64 id, .int .i64 f] w fun e w' => e = .returned (errV ae (wantIK M id f)) ∧ Below w.heap.size w w' := by
  have hc := h.cell
  have hl := h.lookOk hid
  have ob0 := Tryd.obFace
  have ob1 := Tryd.obVersion
  have g4 := hE.g4
  have g4a := fun o => (hE.alloc o).g4
  clear h hE
  cases hM : M id with
  | none =>
    have e1 : wantIK M id f = 5 := by simp [wantIK, hM]
    have e2 : faceI M id = 0 := by simp [faceI, hM]
    have e3 : versI M id = 0 := by simp [versI, hM]
    rw [e2, e3, hM] at hl
    rw [e1]
    clear e1 e2 e3 hM
    go_enter Tryd.func18, Tryd.ntmps18
    go_wp2
    go_ret
    exact ⟨rfl, (Below.refl _ _).alloc (Nat.le_refl _) _⟩
  | some x =>
    obtain ⟨g, v⟩ := x
    have e2 : faceI M id = g := by simp [faceI, hM]
    have e3 : versI M id = v := by simp [versI, hM]
    rw [e2, e3, hM] at hl
    by_cases hg : g = f
    · subst hg
      have e1 : wantIK M id g = 0 := by simp [wantIK, hM]
      rw [e1]
      clear e1 e2 e3 hM
      go_enter Tryd.func18, Tryd.ntmps18
      go_wp2
      go_ret
      exact ⟨rfl, (Below.refl _ _).alloc (Nat.le_refl _) _⟩
    · have e1 : wantIK M id f = 5 := by simp [wantIK, hM, hg]
      rw [e1]
      have hg' : (g != f) = true := by simpa using hg
      clear e1 e2 e3 hM
      go_enter Tryd.func18, Tryd.ntmps18
      go_wp2
      go_ret
      exact ⟨rfl, (Below.refl _ _).alloc (Nat.le_refl _) _⟩


theorem addIK_bad {M : Int → Option (Int × Int)} {id f v : Int} (h : f < 1 ∨ 17 < f ∨ v < 1) : addIK M id f v = 1 := by unfold addIK; rw [if_pos h]
theorem addIK_obj {M : Int → Option (Int × Int)} {id f v : Int} (h : 1 ≤ f ∧ f ≤ 17 ∧ 1 ≤ v) (h' : (M id).isSome ∨ id < 2 ∨ 255 < id) : addIK M id f v = 5 := by unfold addIK; rw [if_neg (by omega), if_pos h']
theorem addIK_ok {M : Int → Option (Int × Int)} {id f v : Int} (h : 1 ≤ f ∧ f ≤ 17 ∧ 1 ≤ v) (h' : M id = none) (h2 : 2 ≤ id) (h3 : id ≤ 255) : addIK M id f v = 0 := by unfold addIK; rw [if_neg (by omega), if_neg (by rw [h']; simp; omega)]
theorem addIS_same {M : Int → Option (Int × Int)} {id f v : Int} (h : addIK M id f v ≠ 0) : addIS M id f v = M := by unfold addIS; rw [if_neg h]
theorem addIS_put {M : Int → Option (Int × Int)} {id f v : Int} (h : addIK M id f v = 0) : addIS M id f v = setT M id (some (f, v)) := by unfold addIS; rw [if_pos h]

set_option maxRecDepth 100000 in
theorem tAdd_any {B : Nat} (w : World) {ae : Nat → Addr} (hE : Err2 B w ae) (p mb n : Nat) (M : Int → Option (Int × Int)) (id f v : Int) (hid : I64 id) (h : TabAt w p mb n M) (hn : n ≤ 1000000) :
    Calls Tryd.prog 14 #[.pointer (some ⟨p, 0, none⟩), .int .i64 id, .int .i64 f, .int .i64 v] w fun e w' => e = .returned (errV ae (addIK M id f v)) ∧ TabOut w p mb n (addIS M id f v) w' := by
  by_cases hf : f < 1 ∨ 17 < f ∨ v < 1
  · have e1 : addIK M id f v = 1 := addIK_bad hf
    rw [addIS_same (by rw [e1]; decide), e1]
    have hst := hide h.stay
    have g0 := hE.g0
    clear hE e1 h
    rcases (show f < 1 ∨ (1 ≤ f ∧ 17 < f) ∨ (1 ≤ f ∧ f ≤ 17 ∧ v < 1) by omega) with h1 | ⟨h1, h2⟩ | ⟨h1, h2, h3⟩
    · clear hf
      go_enter Tryd.func14, Tryd.ntmps14
      go_wp2
      go_ret
      exact ⟨rfl, hst.out⟩
    · clear hf
      go_enter Tryd.func14, Tryd.ntmps14
      go_wp2
      go_ret
      exact ⟨rfl, hst.out⟩
    · clear hf
      go_enter Tryd.func14, Tryd.ntmps14
      go_wp2
      go_ret
      exact ⟨rfl, hst.out⟩
  · have hf' : 1 ≤ f ∧ f ≤ 17 ∧ 1 ≤ v := by omega
    obtain ⟨hf1, hf2, hf3⟩ := hf'
    clear hf
    have hst := hide (fun o => h.stay2 (o := o))
    have hc := h.cell
    have hl := h.lookOk hid
    have ob0 := Tryd.obFace
    have ob1 := Tryd.obVersion
    have g0 := hE.g0
    have g4 := hE.g4
    have g4a := fun o => (hE.alloc o).g4
    cases hM : M id with
    | some x =>
      have e1 : addIK M id f v = 5 := addIK_obj ⟨hf1, hf2, hf3⟩ (.inl (by simp [hM]))
      rw [addIS_same (by rw [e1]; decide), e1]
      rw [hM] at hl
      clear hE e1 h hM
      go_enter Tryd.func14, Tryd.ntmps14
      go_wp2
      go_ret
      exact ⟨rfl, hst.out _⟩
    | none =>
      have e2 : faceI M id = 0 := by simp [faceI, hM]
      have e3 : versI M id = 0 := by simp [versI, hM]
      rw [e2, e3, hM] at hl
      clear e2 e3
      rcases (show id < 2 ∨ (2 ≤ id ∧ 255 < id) ∨ (2 ≤ id ∧ id ≤ 255) by omega) with h1 | ⟨h1, h2⟩ | ⟨h1, h2⟩
      · have e1 : addIK M id f v = 5 := addIK_obj ⟨hf1, hf2, hf3⟩ (.inr (.inl h1))
        rw [addIS_same (by rw [e1]; decide), e1]
        clear hE e1 h hM
        go_enter Tryd.func14, Tryd.ntmps14
        go_wp2
        go_ret
        exact ⟨rfl, hst.out _⟩
      · have e1 : addIK M id f v = 5 := addIK_obj ⟨hf1, hf2, hf3⟩ (.inr (.inr h2))
        rw [addIS_same (by rw [e1]; decide), e1]
        clear hE e1 h hM
        go_enter Tryd.func14, Tryd.ntmps14
        go_wp2
        go_ret
        exact ⟨rfl, hst.out _⟩
      · have e1 : addIK M id f v = 0 := addIK_ok ⟨hf1, hf2, hf3⟩ hM h1 h2
        rw [addIS_put e1, e1]
        have hca : ∀ o, (w.alloc o).cell? ⟨p, 0, none⟩ = some (.map (some mb)) := fun o => by rw [World.cell?_alloc_past _ _ _ h.lt.1]; exact hc
        have hma : ∀ o, MapAt Tryd.prog 3 (w.alloc o) mb n (fun j => (M j).map obV) := fun o => h.2.2.kept (World.grownBy_alloc w o none) (by simp)
        have Ha := hide h
        replace hma := hide hma
        clear hE e1 h hM hst g0 g4 g4a
        go_enter Tryd.func14, Tryd.ntmps14
        go_wp2_with (at_mapUpdate; refine wpList_put rfl _ _ _ 79 rfl 3 78 Tryd.underlying3 Tryd.underlying79 mb n _ rfl (hma.out _) (by unfold maxLen; omega) id _ rfl rfl hid ?_; intro w1 hm2 hg2)
        go_ret
        exact ⟨rfl, Ha.out.putOut hm2 hg2⟩

set_option maxRecDepth 100000 in
theorem tDrop_any {B : Nat} (w : World) {ae : Nat → Addr} (hE : Err2 B w ae) (p mb n : Nat) (M : Int → Option (Int × Int)) (id : Int) (hid : I64 id) (h : TabAt w p mb n M) :
    Calls Tryd.prog 15 #[.pointer (some ⟨p, 0, none⟩), .int .i64 id] w fun e w' => e = .returned (errV ae (dropIK M id)) ∧ TabOut w p mb n (dropIS M id) w' := by
  have hst := hide (fun o => h.stay2 (o := o))
  have hc := h.cell
  have hl := h.lookOk hid
  have ob0 := Tryd.obFace
  have ob1 := Tryd.obVersion
  have g0 := hE.g0
  have g4 := hE.g4
  have g4a := fun o => (hE.alloc o).g4
  cases hM : M id with
  | none =>
    have e1 : dropIK M id = 5 := by simp [dropIK, hM]
    have e2 : faceI M id = 0 := by simp [faceI, hM]
    have e3 : versI M id = 0 := by simp [versI, hM]
    rw [e2, e3, hM] at hl
    rw [show dropIS M id = M by unfold dropIS; rw [if_neg (by rw [e1]; decide)], e1]
    clear hE e1 h hM e2 e3
    go_enter Tryd.func15, Tryd.ntmps15
    go_wp2
    go_ret
    exact ⟨rfl, hst.out _⟩
  | some x =>
    rw [hM] at hl
    by_cases h1 : id = 1
    · have e1 : dropIK M id = 5 := by simp [dropIK, h1]
      rw [show dropIS M id = M by unfold dropIS; rw [if_neg (by rw [e1]; decide)], e1]
      have hb : (id == 1) = true := by simpa using h1
      clear hE e1 h hM h1
      go_enter Tryd.func15, Tryd.ntmps15
      go_wp2
      go_ret
      exact ⟨rfl, hst.out _⟩
    · have e1 : dropIK M id = 0 := by simp [dropIK, hM, h1]
      rw [show dropIS M id = setT M id none by unfold dropIS; rw [if_pos e1], e1]
      have hb : (id == 1) = false := by simpa using h1
      have hca : ∀ o, (w.alloc o).cell? ⟨p, 0, none⟩ = some (.map (some mb)) := fun o => by rw [World.cell?_alloc_past _ _ _ h.lt.1]; exact hc
      have hma : ∀ o, MapAt Tryd.prog 3 (w.alloc o) mb n (fun j => (M j).map obV) := fun o => h.2.2.kept (World.grownBy_alloc w o none) (by simp)
      replace hma := hide hma
      have Ha := hide h
      clear hE e1 h hM h1 hst g0 g4 g4a
      go_enter Tryd.func15, Tryd.ntmps15
      go_wp2_with (at_delete; refine wpList_del rfl _ _ 79 3 rfl 78 Tryd.underlying3 Tryd.underlying79 mb n _ rfl (hma.out _) id rfl hid ?_; intro w1 hm2 hg2)
      go_ret
      exact ⟨rfl, Ha.out.delOut hm2 hg2⟩
end Go.Proofs.YtjhfcnkmfbpjmaaDoor
