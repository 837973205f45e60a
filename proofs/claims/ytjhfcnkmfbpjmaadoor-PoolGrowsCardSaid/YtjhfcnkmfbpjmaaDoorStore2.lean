/-
  Package pool: its buffers.
-/
import Derived.Test.YtjhfcnkmfbpjmaaDoorStore
import Derived.Test.YtjhfcnkmfbpjmaaDoorSorted
import Derived.Test.YtjhfcnkmfbpjmaaDoorResults
namespace Go.Proofs.YtjhfcnkmfbpjmaaDoor
open Go.RowKit Go.Shelf

section
variable {w : World} {s pm bm n : Nat} {P : Int → Option (Int × Int)} {B : Int → Option (PInfo × Bool)}
theorem StoreAt.runB (h : StoreAt w s pm bm n P B) (hn : n ≤ 1000000) {id : Int} (hid : I64 id) (v : PInfo × Bool) :
    ∃ w1, (Instr.mapUpdate 94 (.map (some bm)) (.int .i64 id) (bufV v)).run Tryd.prog w.drew = .ok () w1 ∧ StoreAt w1 s pm bm (n + 1) P (setF B id (some v)) ∧ w.drew.grownBy w1 (some bm) := by
  obtain ⟨w1, h1, h2, h3⟩ := h.drew.bufs.putRun Tryd.underlying3 Tryd.underlying94 (by unfold maxLen; omega) hid (bufV v)
  exact ⟨w1, h1, h.drew.putB h2 h3, h3⟩
end

theorem Tryd.bufLive (a b c d e f : Int) (l : Bool) (w : World) : (Instr.field 101 (.agg #[.int .i64 a, .int .i64 b, .int .i64 c, .int .i64 d, .int .i64 e, .int .i64 f, .bool l]) 1).run Tryd.prog w = .ok (.bool l) w := by kernel_rfl

def liveB (B : Int → Option (PInfo × Bool)) (id : Int) : Bool := (bufD B id).2

set_option maxRecDepth 100000 in
theorem pLive_any (w : World) (s pm bm n : Nat) (P : Int → Option (Int × Int)) (B : Int → Option (PInfo × Bool)) (id : Int) (hid : I64 id) (h : StoreAt w s pm bm n P B) :
    Calls Tryd.prog 40 #[.pointer (some ⟨s, 0, none⟩), .int .i64 id] w fun e w' => e = .returned (.bool (liveB B id)) ∧ Below w.heap.size w w' := by
  have hc := h.cellB
  have hl := h.lookB1 hid
  have hf := Tryd.bufLive
  unfold bufV at hl
  unfold liveB
  generalize bufD B id = x at hl ⊢
  obtain ⟨⟨x0, x1, x2, x3, x4, x5⟩, l⟩ := x
  dsimp only at hl
  clear h
  go_enter Tryd.func40, Tryd.ntmps40
  go_wp2
  go_ret
  exact ⟨rfl, Below.refl _ _⟩

set_option maxRecDepth 100000 in
theorem pInfo_any (w : World) (s pm bm n : Nat) (P : Int → Option (Int × Int)) (B : Int → Option (PInfo × Bool)) (id : Int) (hid : I64 id) (h : StoreAt w s pm bm n P B) :
    Calls Tryd.prog 38 #[.pointer (some ⟨s, 0, none⟩), .int .i64 id] w fun e w' => e = .returned (.tuple #[.agg (infA (bufD B id).1), .bool (B id).isSome]) ∧ Below w.heap.size w w' := by
  have hl := fun o => (h.alloc o).lookB hid
  have hca := fun o => (h.alloc o).cellB
  unfold bufV at hl
  generalize bufD B id = x at hl ⊢
  generalize (B id).isSome = ok at hl ⊢
  obtain ⟨⟨x0, x1, x2, x3, x4, x5⟩, l⟩ := x
  dsimp only at hl
  clear h
  go_enter Tryd.func38, Tryd.ntmps38
  go_wp2
  try simp only [Exit.inBlock, Exit.then]
  refine bodyPost_ret (results_cell_tmp_row rfl _ _ w.heap.size 58 (infA ⟨x0, x1, x2, x3, x4, x5⟩) (0, 0) _ rfl (heap_alloc2_old _ _ _) Tryd.underlying58 rfl (by kernel_rfl)) rfl ?_
  exact ⟨rfl, below2 _ _ _⟩

def dbufK (B : Int → Option (PInfo × Bool)) (id : Int) : Nat := if liveB B id then 0 else 5
def dbufS (B : Int → Option (PInfo × Bool)) (id : Int) : Int → Option (PInfo × Bool) := if liveB B id then setF B id (some ((bufD B id).1, false)) else B

set_option maxRecDepth 100000 in
theorem pDropBuffer_any {C : Nat} (w : World) {ae : Nat → Addr} (hE : Errs C w ae) (s pm bm n : Nat) (P : Int → Option (Int × Int)) (B : Int → Option (PInfo × Bool)) (id : Int) (hid : I64 id) (h : StoreAt w s pm bm n P B) (hn : n ≤ 1000000) :
    Calls Tryd.prog 41 #[.pointer (some ⟨s, 0, none⟩), .int .i64 id] w fun e w' => e = .returned (errV ae (dbufK B id)) ∧ StoreOut w s pm bm n P (dbufS B id) w' := by
  have hl := h.lookB1 hid
  have hc := h.cellB
  have hca := fun o => (h.alloc o).cellB
  have hst := hide (fun w' hb => h.stay (w' := w') hb)
  have g4 : ∀ o, (w.alloc o).cell? ⟨1, 0, none⟩ = _ := fun o => (hE.alloc o).glob 4 (by decide)
  unfold bufV at hl
  obtain ⟨x, hx⟩ : ∃ x, x = bufD B id := ⟨_, rfl⟩
  rw [← hx] at hl
  obtain ⟨i, l⟩ := x
  cases l with
  | false =>
    have e1 : dbufK B id = 5 := by simp [dbufK, liveB, ← hx]
    rw [show dbufS B id = B by simp [dbufS, liveB, ← hx], e1]
    obtain ⟨x0, x1, x2, x3, x4, x5⟩ := i
    dsimp only at hl
    clear hE e1 h hx
    go_enter Tryd.func41, Tryd.ntmps41
    go_wp2
    go_ret
    exact ⟨rfl, hst.out _ (below1 _ _)⟩
  | true =>
    have e1 : dbufK B id = 0 := by simp [dbufK, liveB, ← hx]
    rw [show dbufS B id = setF B id (some (i, false)) by simp [dbufS, liveB, ← hx], e1]
    obtain ⟨w1, hrun, hs1, hg1⟩ := (h.alloc (.cells #[.int .i64 i.key, .int .i64 i.off, .int .i64 i.w, .int .i64 i.h, .int .i64 i.stride, .int .i64 i.format, .bool false] 101)).runB hn hid (i, false)
    unfold bufV at hrun
    have hpl := h.lt
    have kk := hide (fun (j : Nat) (hj : j < 7) => grown_cell hg1 ⟨w.heap.size, j, none⟩ (by show w.heap.size < (w.alloc _).heap.size; simp) (by show w.heap.size ≠ bm; omega))
    have k1 := hs1.cellB
    have k2 := kk.out 0 (by decide)
    have k3 := kk.out 1 (by decide)
    have k4 := kk.out 2 (by decide)
    have k5 := kk.out 3 (by decide)
    have k6 := kk.out 4 (by decide)
    have k7 := kk.out 5 (by decide)
    have k8 := kk.out 6 (by decide)
    simp at k2 k3 k4 k5 k6 k7 k8
    obtain ⟨x0, x1, x2, x3, x4, x5⟩ := i
    dsimp only at hl hrun k2 k3 k4 k5 k6 k7
    replace hs1 := hide hs1
    replace hg1 := hide hg1
    clear hE e1 h hx hst g4
    go_enter Tryd.func41, Tryd.ntmps41
    go_wp2
    go_region_held3 (fun w' => w'.cell? ⟨s, 1, none⟩ = some (.map (some bm)) ∧ w'.cell? ⟨w.heap.size, 0, none⟩ = some (.int .i64 x0) ∧ w'.cell? ⟨w.heap.size, 1, none⟩ = some (.int .i64 x1) ∧ w'.cell? ⟨w.heap.size, 2, none⟩ = some (.int .i64 x2) ∧ w'.cell? ⟨w.heap.size, 3, none⟩ = some (.int .i64 x3) ∧ w'.cell? ⟨w.heap.size, 4, none⟩ = some (.int .i64 x4) ∧ w'.cell? ⟨w.heap.size, 5, none⟩ = some (.int .i64 x5) ∧ w'.cell? ⟨w.heap.size, 6, none⟩ = some (.bool false)) (go_keep) (fail)
    go_wp2
    go_ret
    exact ⟨rfl, hs1.out.outB (below1d _ _) hg1.out⟩

set_option maxRecDepth 100000 in
theorem pForget_any (w : World) (s pm bm n : Nat) (P : Int → Option (Int × Int)) (B : Int → Option (PInfo × Bool)) (id : Int) (hid : I64 id) (h : StoreAt w s pm bm n P B) :
    Calls Tryd.prog 46 #[.pointer (some ⟨s, 0, none⟩), .int .i64 id] w fun e w' => e = .returned (.tuple #[]) ∧ StoreOut w s pm bm n P (setF B id none) w' := by
  have hc := h.cellB
  have Ha := hide h
  clear h
  go_enter Tryd.func46, Tryd.ntmps46
  go_wp2_with (at_delete; refine wpList_del rfl _ _ 94 3 rfl 101 Tryd.underlying3 Tryd.underlying94 bm n _ rfl Ha.out.bufs id rfl hid ?_; intro w1 hm2 hg2)
  go_end0
  exact ⟨rfl, (Ha.out.delB hm2 hg2).outB (Below.refl _ _) hg2⟩

set_option maxRecDepth 100000 in
theorem pAll_any (w : World) (s pm bm n : Nat) (P : Int → Option (Int × Int)) (B : Int → Option (PInfo × Bool)) (h : StoreAt w s pm bm n P B) (hn : n ≤ 1000000) :
    Calls Tryd.prog 51 #[.pointer (some ⟨s, 0, none⟩)] w fun e w' => ∃ (v : Value) (l : List Int), e = .returned v ∧ KeysOf (fun j => (B j).map bufV) l ∧ l.length ≤ n ∧ w'.ownsRow w.heap.size 3 1 v l.length (l.map (Value.int .i64)) ∧ Below w.heap.size w w' := by
  have hc := h.cellB
  obtain ⟨c1, c2⟩ := sortedKeys_pool w bm n _ h.bufs hn
  replace c1 := hide c1
  replace c2 := hide c2
  clear h
  go_enter Tryd.func51, Tryd.ntmps51
  go_wp2_with fail
  refine (c1.out).mono ?_
  rintro e w' ⟨rfl, rfl⟩
  go_wp2_with fail
  refine (c2.out).mono ?_
  rintro e w' ⟨v, l, rfl, hk, hl, hr, hnil, hb⟩
  go_wp2
  go_ret
  exact ⟨v, l, rfl, hk, hl, hr, hb⟩

/-- What Buffer answers. -/
def bufK (P : Int → Option (Int × Int)) (B : Int → Option (PInfo × Bool)) (id pool off w h stride format : Int) : Nat :=
  match P pool with | none => 5 | some (_, z) => if (B id).isSome then 5 else roomK z off w h stride format
def bufS (P : Int → Option (Int × Int)) (B : Int → Option (PInfo × Bool)) (id pool off w h stride format : Int) : Int → Option (PInfo × Bool) :=
  if bufK P B id pool off w h stride format = 0 then setF B id (some (⟨(polD P pool).1, off, w, h, stride, format⟩, true)) else B

theorem bufK_none {P : Int → Option (Int × Int)} {B : Int → Option (PInfo × Bool)} {id pool off w h stride format : Int} (hp : P pool = none) : bufK P B id pool off w h stride format = 5 := by simp [bufK, hp]
theorem bufK_there {P : Int → Option (Int × Int)} {B : Int → Option (PInfo × Bool)} {id pool off w h stride format : Int} {x : Int × Int} (hp : P pool = some x) (hb : (B id).isSome = true) : bufK P B id pool off w h stride format = 5 := by simp [bufK, hp, hb]
theorem bufK_room {P : Int → Option (Int × Int)} {B : Int → Option (PInfo × Bool)} {id pool off w h stride format : Int} {x : Int × Int} (hp : P pool = some x) (hb : (B id).isSome = false) : bufK P B id pool off w h stride format = roomK x.2 off w h stride format := by simp [bufK, hp, hb]

set_option maxRecDepth 100000 in
set_option maxHeartbeats 1000000 in
theorem pBuffer_any {C : Nat} (w : World) {ae : Nat → Addr} (hE : Errs C w ae) (s pm bm n : Nat) (P : Int → Option (Int × Int)) (B : Int → Option (PInfo × Bool)) (id pool off iw ih stride format : Int) (hid : I64 id) (hpl : I64 pool) (hst0 : I64 stride)
    (hz : ∀ x, P pool = some x → I64 x.2) (h : StoreAt w s pm bm n P B) (hn : n ≤ 1000000) :
    Calls Tryd.prog 35 #[.pointer (some ⟨s, 0, none⟩), .int .i64 id, .int .i64 pool, .int .i64 off, .int .i64 iw, .int .i64 ih, .int .i64 stride, .int .i64 format] w
      fun e w' => e = .returned (errV ae (bufK P B id pool off iw ih stride format)) ∧ StoreOut w s pm bm n P (bufS P B id pool off iw ih stride format) w' := by
  have hc := h.cellP
  have hl := h.lookP hpl
  have hcaB := fun o => (h.alloc o).cellB
  have hlB := fun o => (h.alloc o).lookB hid
  have hst := hide (fun w' hb => h.stay (w' := w') hb)
  have g4 : ∀ o o', ((w.alloc o).alloc o').cell? ⟨1, 0, none⟩ = _ := fun o o' => ((hE.alloc o).alloc o').glob 4 (by decide)
  unfold polV polD at hl
  unfold bufV at hlB
  obtain ⟨bd, hbd⟩ : ∃ bd, bd = bufD B id := ⟨_, rfl⟩
  rw [← hbd] at hlB
  obtain ⟨⟨b0, b1, b2, b3, b4, b5⟩, bl⟩ := bd
  dsimp only at hlB
  clear hbd
  cases hP : P pool with
  | none =>
    have e1 : bufK P B id pool off iw ih stride format = 5 := bufK_none hP
    rw [show bufS P B id pool off iw ih stride format = B by unfold bufS; rw [if_neg (by rw [e1]; decide)], e1]
    rw [hP] at hl
    dsimp only [Option.getD, Option.isSome] at hl
    clear hE e1 h hP
    go_enter Tryd.func35, Tryd.ntmps35
    go_wp2
    go_ret
    exact ⟨rfl, hst.out _ (below2 _ _ _)⟩
  | some x =>
    have hzx := hz x hP
    rw [hP] at hl
    dsimp only [Option.getD, Option.isSome] at hl
    obtain ⟨x0, x1⟩ := x
    dsimp only at hl hzx
    cases hB : (B id).isSome with
    | true =>
      have e1 : bufK P B id pool off iw ih stride format = 5 := bufK_there hP hB
      rw [show bufS P B id pool off iw ih stride format = B by unfold bufS; rw [if_neg (by rw [e1]; decide)], e1]
      rw [hB] at hlB
      clear hE e1 h hP hB
      go_enter Tryd.func35, Tryd.ntmps35
      go_wp2
      go_ret
      exact ⟨rfl, hst.out _ (below2 _ _ _)⟩
    | false =>
      rw [hB] at hlB
      have e1 : bufK P B id pool off iw ih stride format = roomK x1 off iw ih stride format := bufK_room hP hB
      have hR := fun o o' => room_any C ((w.alloc o).alloc o') ae x1 off iw ih stride format ((hE.alloc o).alloc o') hzx hst0
      cases hk : roomK x1 off iw ih stride format with
      | succ k =>
        rw [hk] at e1 hR
        rw [show bufS P B id pool off iw ih stride format = B by unfold bufS; rw [if_neg (by rw [e1]; omega)], e1]
        dsimp only [errV] at hR
        replace hR := hide hR
        clear hE e1 h hP hB g4
        go_enter Tryd.func35, Tryd.ntmps35
        go_wp2_with fail
        refine (hR.out _ _).mono ?_
        rintro e w3 ⟨rfl, rfl⟩
        go_wp2
        go_ret
        exact ⟨rfl, hst.out _ (below2 _ _ _)⟩
      | zero =>
        rw [hk] at e1 hR
        rw [show bufS P B id pool off iw ih stride format = setF B id (some (⟨x0, off, iw, ih, stride, format⟩, true)) by unfold bufS polD; rw [if_pos e1, hP]; rfl, e1]
        dsimp only [errV] at hR
        obtain ⟨w1, hrun, hs1, hg1⟩ := ((h.alloc (.cells #[.int .i64 x0, .int .i64 x1] 98)).alloc (.cells #[.int .i64 b0, .int .i64 b1, .int .i64 b2, .int .i64 b3, .int .i64 b4, .int .i64 b5, .bool bl] 101)).runB hn hid (⟨x0, off, iw, ih, stride, format⟩, true)
        unfold bufV at hrun
        dsimp only at hrun
        have k0 := ((h.alloc (.cells #[.int .i64 x0, .int .i64 x1] 98)).alloc (.cells #[.int .i64 b0, .int .i64 b1, .int .i64 b2, .int .i64 b3, .int .i64 b4, .int .i64 b5, .bool bl] 101)).cellB
        have k1 := hs1.cellB
        have hlt := h.lt
        have k2 : w1.cell? ⟨w.heap.size, 0, none⟩ = some (.int .i64 x0) := by
          rw [grown_cell hg1 ⟨w.heap.size, 0, none⟩ (by show w.heap.size < ((w.alloc _).alloc _).heap.size; simp; omega) (by show w.heap.size ≠ bm; omega)]
          show ((w.alloc _).alloc _).cell? _ = _
          rw [World.cell?_alloc_past _ _ _ (by simp)]
          simp
        replace hs1 := hide hs1
        replace hg1 := hide hg1
        replace hR := hide hR
        clear hE e1 h hP hB g4 hst hlt
        go_enter Tryd.func35, Tryd.ntmps35
        go_wp2_with fail
        refine (hR.out _ _).mono ?_
        rintro e w3 ⟨rfl, rfl⟩
        go_wp2
        go_region_held3 (fun w' => w'.cell? ⟨s, 1, none⟩ = some (.map (some bm)) ∧ w'.cell? ⟨w.heap.size, 0, none⟩ = some (.int .i64 x0)) (go_keep) (fail)
        go_wp2
        go_ret
        exact ⟨rfl, hs1.out.outB (below2d _ _ _) hg1.out⟩
end Go.Proofs.YtjhfcnkmfbpjmaaDoor
