/-
  The seat: New, Move, Look, Keys, Gone, Focus, Place.
-/
import Derived.Test.YtfekldcpjoiipaaAt
import Derived.Test.YtfekldcpjoiipaaTurn
import Derived.Deep.RegionHeld3
import Derived.Deep.DeepCutAuto
import Derived.BigQuiet
import Derived.Deep.QuietTactic
namespace Go.Proofs.Ytfekldcpjoiipaa
open Go.RowKit Go.Shelf
set_option linter.unusedVariables false

theorem seNew_any (w : World) : Calls Try.prog 11 #[] w fun e w' => e = .returned (.pointer (some ⟨w.heap.size, 0, none⟩)) ∧ SeatAt w' w.heap.size 0 0 0 0 ∧ Below w.heap.size w w' := by
  have h1 : SeatAt (w.alloc (.cells #[.int .i64 0, .int .i64 0, .int .i64 0, .int .i64 0] 74)) w.heap.size 0 0 0 0 := heap_alloc_new _ _
  have h2 : Below w.heap.size w (w.alloc (.cells #[.int .i64 0, .int .i64 0, .int .i64 0, .int .i64 0] 74)) := (Below.refl _ _).alloc (Nat.le_refl _) _
  replace h1 := hide h1
  replace h2 := hide h2
  go_enter Try.func11, Try.ntmps11
  go_wp2
  go_ret
  exact ⟨rfl, h1.out, h2.out⟩

def cutE (n : Int) : Int := max (-16777216) (min n 16777216)
theorem cut_any (w : World) (n : Int) : Calls Try.prog 29 #[.int .i64 n] w fun e w' => e = .returned (.int .i64 (cutE n)) ∧ w = w' := by
  rcases (show n ≤ -16777216 ∨ (-16777216 < n ∧ n ≤ 16777216) ∨ 16777216 < n by omega) with h | ⟨h, h2⟩ | h
  · have e : cutE n = -16777216 := by unfold cutE; omega
    rw [e]
    have h2 : n ≤ 16777216 := by omega
    clear e
    go_enter Try.func29, Try.ntmps29
    go_wp2
    go_ret
    exact ⟨rfl, rfl⟩
  · have e : cutE n = n := by unfold cutE; omega
    rw [e]
    clear e
    go_enter Try.func29, Try.ntmps29
    go_wp2
    go_ret
    exact ⟨rfl, rfl⟩
  · have e : cutE n = 16777216 := by unfold cutE; omega
    rw [e]
    clear e
    go_enter Try.func29, Try.ntmps29
    go_wp2
    go_ret
    exact ⟨rfl, rfl⟩

theorem turn_any (w : World) (a : Addr) (tg x y : Int) :
    Calls Try.prog 31 #[.pointer (some a), .int .i64 tg, .int .i64 x, .int .i64 y] w fun e w' => e = .returned (.func (.func 40) #[] #[.pointer (some ⟨w.heap.size, 0, none⟩), .pointer (some ⟨w.heap.size + 1, 0, none⟩), .pointer (some ⟨w.heap.size + 1 + 1, 0, none⟩), .pointer (some ⟨w.heap.size + 1 + 1 + 1, 0, none⟩)]) ∧
      w' = (((w.alloc (.cells #[.pointer (some a)] 80)).alloc (.cells #[.int .i64 tg] 3)).alloc (.cells #[.int .i64 x] 3)).alloc (.cells #[.int .i64 y] 3) := by
  go_enter Try.func31, Try.ntmps31
  go_wp2
  go_ret
  exact ⟨rfl, rfl⟩
theorem turn_box (w : World) (sb so : Nat) (tg x y : Int) :
    Calls Try.prog 31 #[.pointer (some ⟨sb, so, none⟩), .int .i64 tg, .int .i64 x, .int .i64 y] w fun e w' => e = .returned (.func (.func 40) #[] #[.pointer (some ⟨w.heap.size, 0, none⟩), .pointer (some ⟨w.heap.size + 1, 0, none⟩), .pointer (some ⟨w.heap.size + 1 + 1, 0, none⟩), .pointer (some ⟨w.heap.size + 1 + 1 + 1, 0, none⟩)]) ∧
      TurnBox w.heap.size (w.heap.size + 1) (w.heap.size + 1 + 1) (w.heap.size + 1 + 1 + 1) sb so tg x y w' ∧ Below w.heap.size w w' := by
  refine (turn_any w ⟨sb, so, none⟩ tg x y).mono ?_
  rintro e w' ⟨rfl, rfl⟩
  refine ⟨rfl, ?_, (((((Below.refl _ _).alloc (Nat.le_refl _) _).alloc (by simp) _).alloc (by simp; omega) _).alloc (by simp; omega) _)⟩
  have b1 := (((Boxed.new w 80 (.pointer (some ⟨sb, so, none⟩))).alloc (.cells #[.int .i64 tg] 3)).alloc (.cells #[.int .i64 x] 3)).alloc (.cells #[.int .i64 y] 3)
  have b2 := ((Boxed.new (w.alloc (.cells #[.pointer (some ⟨sb, so, none⟩)] 80)) 3 (.int .i64 tg)).alloc (.cells #[.int .i64 x] 3)).alloc (.cells #[.int .i64 y] 3)
  have b3 := (Boxed.new ((w.alloc (.cells #[.pointer (some ⟨sb, so, none⟩)] 80)).alloc (.cells #[.int .i64 tg] 3)) 3 (.int .i64 x)).alloc (.cells #[.int .i64 y] 3)
  have b4 := Boxed.new (((w.alloc (.cells #[.pointer (some ⟨sb, so, none⟩)] 80)).alloc (.cells #[.int .i64 tg] 3)).alloc (.cells #[.int .i64 x] 3)) 3 (.int .i64 y)
  simp only [World.size_alloc] at b2 b3 b4
  exact ⟨b1, b2, b3, b4⟩

/-- Notes that the call has laid. -/
def NotesOut (w : World) (p : Nat) (x y k f : Int) (N : List Note) (e : Ending) (w' : World) : Prop :=
  ∃ v, e = .returned v ∧ w'.ownsRow w.heap.size 47 4 v N.length (N.flatMap Note.enc) ∧ SeatAt w' p x y k f ∧ Chg (fun b => b = p) w w'

theorem SeatAt.lt {w : World} {p : Nat} {x y k f : Int} (h : SeatAt w p x y k f) : p < w.heap.size := lt_of_block h
theorem SeatAt.below {w w' : World} {p : Nat} {x y k f : Int} (h : SeatAt w p x y k f) (hb : Below w.heap.size w w') : SeatAt w' p x y k f := (hb.block p h.lt).trans h
theorem SeatAt.cells {w : World} {p : Nat} {x y k f : Int} (h : SeatAt w p x y k f) :
    w.cell? ⟨p, 0, none⟩ = some (.int .i64 x) ∧ w.cell? ⟨p, 1, none⟩ = some (.int .i64 y) ∧ w.cell? ⟨p, 2, none⟩ = some (.int .i64 k) ∧ w.cell? ⟨p, 3, none⟩ = some (.int .i64 f) :=
  ⟨by rw [cell_of_row w p 0 _ _ _ h]; rfl, by rw [cell_of_row w p 1 _ _ _ h]; rfl, by rw [cell_of_row w p 2 _ _ _ h]; rfl, by rw [cell_of_row w p 3 _ _ _ h]; rfl⟩

set_option maxRecDepth 100000 in
theorem keys_any (w : World) (p : Nat) (x y k f s : Int) (h : SeatAt w p x y k f) :
    Calls Try.prog 17 #[.pointer (some ⟨p, 0, none⟩), .int .i64 s] w (NotesOut w p x y k s (if s = f then [] else turnN f s 0 0)) := by
  obtain ⟨c0, c1, c2, c3⟩ := h.cells
  by_cases hs : s = f
  · subst hs
    rw [if_pos rfl]
    replace h := hide h
    go_enter Try.func17, Try.ntmps17
    go_wp2
    go_ret
    exact ⟨_, rfl, World.ownsRow_nil _ _ _ _, h.out, Chg.refl _ _⟩
  · rw [if_neg hs]
    have hq : (s == f) = false := by simpa using hs
    have cT := hide (turn_box w p 3 s 0 0)
    have cN := hide (fun w2 hb (hB : Below w.heap.size w w2) => notes_any w2 w.heap.size (w.heap.size + 1) (w.heap.size + 1 + 1) (w.heap.size + 1 + 1 + 1) p 3 f s 0 0 _ (h.below hB) rfl hb)
    have hsz := hide h.lt
    clear h c0 c1 c2 hs
    go_enter Try.func17, Try.ntmps17
    go_wp2_with (first
      | (go_at_call 31; refine cT.out.mono ?_; rintro e w2 ⟨rfl, hb, hB⟩)
      | (go_at_call 30; refine (cN.out _ hb hB).mono ?_; rintro e w3 ⟨v, rfl, o3, s3, C3⟩))
    go_ret
    exact ⟨_, rfl, own_le o3 hB.size, s3, (Chg.of_below hB _).trans C3 (Ext.refl _ _)⟩

set_option maxRecDepth 100000 in
theorem gone_any (w : World) (p : Nat) (x y k f s : Int) (h : SeatAt w p x y k f) :
    Calls Try.prog 16 #[.pointer (some ⟨p, 0, none⟩), .int .i64 s] w fun e w' => (∃ v, e = .returned v) ∧ SeatAt w' p x y (if k = s then 0 else k) (if f = s then 0 else f) ∧ Chg (fun b => b = p) w w' := by
  obtain ⟨c0, c1, c2, c3⟩ := h.cells
  have f2 := frozen_of_row w p 2 _ _ h
  have f3 := frozen_of_row w p 3 _ _ h
  have H := hide h
  clear h
  by_cases h1 : k = s
  · by_cases h2 : f = s
    · subst h1 h2
      rw [if_pos rfl]
      go_enter Try.func16, Try.ntmps16
      go_wp2
      go_end0
      exact ⟨⟨_, rfl⟩, heap_setCell_same _ _ _ _ _ _ (heap_setCell_same _ _ _ _ _ _ H.out), (Chg.setCell (F := fun b => b = p) w rfl _).trans (Chg.setCell (F := fun b => b = p) _ rfl _) (Ext.refl _ _)⟩
    · have hq : (f == s) = false := by simpa using h2
      subst h1
      rw [if_pos rfl, if_neg h2]
      clear h2
      go_enter Try.func16, Try.ntmps16
      go_wp2
      go_end0
      exact ⟨⟨_, rfl⟩, heap_setCell_same _ _ _ _ _ _ H.out, Chg.setCell (F := fun b => b = p) w rfl _⟩
  · have hq : (k == s) = false := by simpa using h1
    rw [if_neg h1]
    by_cases h2 : f = s
    · subst h2
      rw [if_pos rfl]
      clear h1
      go_enter Try.func16, Try.ntmps16
      go_wp2
      go_end0
      exact ⟨⟨_, rfl⟩, heap_setCell_same _ _ _ _ _ _ H.out, Chg.setCell (F := fun b => b = p) w rfl _⟩
    · have hq2 : (f == s) = false := by simpa using h2
      rw [if_neg h2]
      clear h1 h2
      go_enter Try.func16, Try.ntmps16
      go_wp2
      go_end0
      exact ⟨⟨_, rfl⟩, H.out, Chg.refl _ _⟩

set_option maxRecDepth 100000 in
theorem focus_any (w : World) (p : Nat) (x y k f : Int) (h : SeatAt w p x y k f) :
    Calls Try.prog 15 #[.pointer (some ⟨p, 0, none⟩)] w fun e w' => e = .returned (.tuple #[.int .i64 k, .int .i64 f]) ∧ ∃ n, w' = w.drewN n := by
  obtain ⟨c0, c1, c2, c3⟩ := h.cells
  clear h
  go_enter Try.func15, Try.ntmps15
  go_wp2
  go_quiet (fail)
  go_wp2
  go_ret2
  exact ⟨rfl, _, rfl⟩
set_option maxRecDepth 100000 in
theorem place_seat (w : World) (p : Nat) (x y k f : Int) (h : SeatAt w p x y k f) :
    Calls Try.prog 24 #[.pointer (some ⟨p, 0, none⟩)] w fun e w' => e = .returned (.tuple #[.int .i64 x, .int .i64 y]) ∧ ∃ n, w' = w.drewN n := by
  obtain ⟨c0, c1, c2, c3⟩ := h.cells
  clear h
  go_enter Try.func24, Try.ntmps24
  go_wp2
  go_quiet (fail)
  go_wp2
  go_ret2
  exact ⟨rfl, _, rfl⟩

def lookN (L : List Hit) (x y k : Int) : List Note := if (atH L x y).1 = k then [] else turnN k (atH L x y).1 (atH L x y).2.1 (atH L x y).2.2
def moveN (L : List Hit) (x y k : Int) : List Note := if (atH L x y).1 = k then (if k = 0 then [] else [⟨3, k, (atH L x y).2.1, (atH L x y).2.2⟩]) else turnN k (atH L x y).1 (atH L x y).2.1 (atH L x y).2.2

set_option maxRecDepth 100000 in
set_option maxHeartbeats 1000000 in
theorem look_any (w : World) (p : Nat) (x y k f : Int) (v : Value) (L : List Hit) (h : SeatAt w p x y k f) (hL : RdH w v L) (hg : ∀ h ∈ L, h.good) (hx : I64 x) (hy : I64 y) (hl : L.length ≤ 1000000) :
    Calls Try.prog 14 #[.pointer (some ⟨p, 0, none⟩), v] w (NotesOut w p x y (atH L x y).1 f (lookN L x y k)) := by
  have cA := fun m => at_any (w.drewN m) v L x y (hL.below (below_drewN (Below.refl _ w) m) (Nat.le_refl _)) hg hx hy hl
  unfold lookN
  generalize (atH L x y).1 = id at cA ⊢
  generalize (atH L x y).2.1 = ax at cA ⊢
  generalize (atH L x y).2.2 = ay at cA ⊢
  obtain ⟨c0, c1, c2, c3⟩ := h.cells
  have hd := h.below (below_drewN (Below.refl _ w) 1)
  replace cA := hide cA
  have hBd : Below w.heap.size w w.drew := below_drewN (Below.refl _ w) 1
  have H := hide hd
  have HB := hide hBd
  clear hd hBd h hL hg
  by_cases hik : id = k
  · have hq : (id == k) = true := by simpa using hik
    rw [if_pos hik]
    have HS : Hid (SeatAt w.drew p x y id f) := by rw [hik]; exact H
    clear hik
    go_enter Try.func14, Try.ntmps14
    go_wp2
    go_region_held3 (fun w' => w'.cell? ⟨p, 0, none⟩ = some (.int .i64 x) ∧ w'.cell? ⟨p, 1, none⟩ = some (.int .i64 y)) (first | go_keep | exact ⟨(hb2.cell (p := ⟨p, 0, none⟩) H.out.lt).trans c0, (hb2.cell (p := ⟨p, 1, none⟩) H.out.lt).trans c1⟩)
      (first | (go_at_call 8; refine (cA.out 1).mono ?_; rintro e w2 ⟨rfl, hb2⟩; have k2 := (hb2.cell (p := ⟨p, 2, none⟩) H.out.lt).trans c2))
    go_wp2
    go_ret
    exact ⟨_, rfl, World.ownsRow_nil _ _ _ _, HS.out.below (hb2.mono (by simp)), Chg.of_below (HB.out.trans (hb2.mono (by simp))) _⟩
  · have hq : (id == k) = false := by simpa using hik
    rw [if_neg hik]
    have cT := hide (fun w2 => turn_box w2 p 2 id ax ay)
    have cN := hide (fun (w1 w2 : World) hb (hB0 : Below w.drew.heap.size w.drew w1) (hB : Below w1.heap.size w1 w2) => notes_any w2 w1.heap.size (w1.heap.size + 1) (w1.heap.size + 1 + 1) (w1.heap.size + 1 + 1 + 1) p 2 k id ax ay _ ((H.out.below hB0).below hB) rfl hb)
    clear hik
    go_enter Try.func14, Try.ntmps14
    go_wp2
    go_region_held3 (fun w' => w'.cell? ⟨p, 0, none⟩ = some (.int .i64 x) ∧ w'.cell? ⟨p, 1, none⟩ = some (.int .i64 y)) (first | go_keep | exact ⟨(hb2.cell (p := ⟨p, 0, none⟩) H.out.lt).trans c0, (hb2.cell (p := ⟨p, 1, none⟩) H.out.lt).trans c1⟩)
      (first | (go_at_call 8; refine (cA.out 1).mono ?_; rintro e w2 ⟨rfl, hb2⟩; have k2 := (hb2.cell (p := ⟨p, 2, none⟩) H.out.lt).trans c2))
    go_wp2_with (first
      | (go_at_call 31; refine (cT.out _).mono ?_; rintro e w3 ⟨rfl, hb, hB⟩)
      | (go_at_call 30; refine (cN.out _ _ hb hb2 hB).mono ?_; rintro e w4 ⟨v, rfl, o3, s3, C3⟩))
    go_ret
    exact ⟨_, rfl, own_le o3 (Nat.le_trans hb2.size hB.size), s3, (Chg.of_below ((HB.out.trans (hb2.mono (by simp))).trans (hB.mono (by have := hb2.size; simpa using this))) _).trans C3 (Ext.refl _ _)⟩

set_option maxRecDepth 100000 in
set_option maxHeartbeats 1000000 in
theorem move_any (w : World) (p : Nat) (x y k f mx my : Int) (v : Value) (L : List Hit) (h : SeatAt w p x y k f) (hL : RdH w v L) (hg : ∀ h ∈ L, h.good) (hvp : v.ownBlock ≠ some p) (hrp : ∀ h ∈ L, h.reg.ownBlock ≠ some p) (hl : L.length ≤ 1000000) :
    Calls Try.prog 13 #[.pointer (some ⟨p, 0, none⟩), .int .i64 mx, .int .i64 my, v] w (NotesOut w p (cutE mx) (cutE my) (atH L (cutE mx) (cutE my)).1 f (moveN L (cutE mx) (cutE my) k)) := by
  have hf0 := frozen_of_row w p 0 _ _ h
  have hf1 := frozen_of_row w p 1 _ _ h
  have hs1 : SeatAt (w.setCell ⟨p, 0, none⟩ (.int .i64 (cutE mx))) p (cutE mx) y k f := heap_setCell_same _ _ _ _ _ _ h
  have hs2 : SeatAt ((w.setCell ⟨p, 0, none⟩ (.int .i64 (cutE mx))).setCell ⟨p, 1, none⟩ (.int .i64 (cutE my))) p (cutE mx) (cutE my) k f := heap_setCell_same _ _ _ _ _ _ hs1
  have hC2 : Chg (fun b => b = p) w ((w.setCell ⟨p, 0, none⟩ (.int .i64 (cutE mx))).setCell ⟨p, 1, none⟩ (.int .i64 (cutE my))) := (Chg.setCell (F := fun b => b = p) w rfl _).trans (Chg.setCell (F := fun b => b = p) _ rfl _) (Ext.refl _ _)
  have hL2 : RdH ((w.setCell ⟨p, 0, none⟩ (.int .i64 (cutE mx))).setCell ⟨p, 1, none⟩ (.int .i64 (cutE my))) v L :=
    ⟨(hL.row.setCell hvp _).setCell hvp _, fun h hh => (Rd.setCell (Rd.setCell (hL.reg h hh) (hrp h hh) _) (hrp h hh) _)⟩
  have hx : I64 (cutE mx) := by unfold cutE I64; omega
  have hy : I64 (cutE my) := by unfold cutE I64; omega
  obtain ⟨c0, c1, c2, c3⟩ := h.cells
  unfold moveN
  obtain ⟨w2, hw2⟩ : ∃ w2, w2 = ((w.setCell ⟨p, 0, none⟩ (.int .i64 (cutE mx))).setCell ⟨p, 1, none⟩ (.int .i64 (cutE my))) := ⟨_, rfl⟩
  rw [← hw2] at hs2 hC2 hL2
  have hszw : w.heap.size = w2.heap.size := by rw [hw2]; simp [World.setCell]
  have cA := fun m => at_any (w2.drewN m) v L (cutE mx) (cutE my) (hL2.below (below_drewN (Below.refl _ w2) m) (Nat.le_refl _)) hg hx hy hl
  generalize (atH L (cutE mx) (cutE my)).1 = id at cA ⊢
  generalize (atH L (cutE mx) (cutE my)).2.1 = ax at cA ⊢
  generalize (atH L (cutE mx) (cutE my)).2.2 = ay at cA ⊢
  obtain ⟨d0, d1, d2, d3⟩ := hs2.cells
  have H : Hid (SeatAt w2.drew p (cutE mx) (cutE my) k f) := hide (hs2.below (below_drewN (Below.refl _ w2) 1))
  have HB : Hid (Below w2.heap.size w2 w2.drew) := hide (below_drewN (Below.refl _ w2) 1)
  have HC := hide hC2
  have HZ := hide hszw
  replace hw2 := hide hw2
  replace cA := hide cA
  clear hs1 hs2 hC2 hL2 h hL hrp hvp hg hszw
  by_cases hik : id = k
  · have HS : Hid (SeatAt w2.drew p (cutE mx) (cutE my) id f) := by rw [hik]; exact H
    rw [if_pos hik]
    by_cases hk0 : k = 0
    · have hq : (id == k) = true := by simpa using hik
      have hq2 : (id == 0) = true := by simpa [hik] using hk0
      rw [if_pos hk0]
      clear hik hk0
      go_enter Try.func13, Try.ntmps13
      go_upto_region 2 with (go_at_call 29; refine (cut_any _ _).mono ?_; rintro e w' ⟨rfl, rfl⟩)
      rw [← hw2.out]
      go_region_held3 (fun w' => w'.cell? ⟨p, 0, none⟩ = some (.int .i64 (cutE mx)) ∧ w'.cell? ⟨p, 1, none⟩ = some (.int .i64 (cutE my))) (first | go_keep | exact ⟨(hb2.cell (p := ⟨p, 0, none⟩) H.out.lt).trans d0, (hb2.cell (p := ⟨p, 1, none⟩) H.out.lt).trans d1⟩)
        (first | (go_at_call 8; refine (cA.out 1).mono ?_; rintro e w3 ⟨rfl, hb2⟩; have k2 := (hb2.cell (p := ⟨p, 2, none⟩) H.out.lt).trans d2))
      go_wp2
      go_ret
      exact ⟨_, rfl, World.ownsRow_nil _ _ _ _, HS.out.below (hb2.mono (by simp)), HC.out.trans (Chg.of_below (HB.out.trans (hb2.mono (by simp))) (fun b => b = p)) (Ext.refl _ _)⟩
    · have hq : (id == k) = true := by simpa using hik
      have hq2 : (id == 0) = false := by simpa [hik] using hk0
      rw [if_neg hk0]
      have hN : Hid ([⟨3, k, ax, ay⟩] = ([⟨3, id, ax, ay⟩] : List Note)) := hide (by rw [hik])
      rw [hN.out]
      clear hik hk0
      go_enter Try.func13, Try.ntmps13
      go_upto_region 2 with (go_at_call 29; refine (cut_any _ _).mono ?_; rintro e w' ⟨rfl, rfl⟩)
      rw [← hw2.out]
      go_region_held3 (fun w' => w'.cell? ⟨p, 0, none⟩ = some (.int .i64 (cutE mx)) ∧ w'.cell? ⟨p, 1, none⟩ = some (.int .i64 (cutE my))) (first | go_keep | exact ⟨(hb2.cell (p := ⟨p, 0, none⟩) H.out.lt).trans d0, (hb2.cell (p := ⟨p, 1, none⟩) H.out.lt).trans d1⟩)
        (first | (go_at_call 8; refine (cA.out 1).mono ?_; rintro e w3 ⟨rfl, hb2⟩; have k2 := (hb2.cell (p := ⟨p, 2, none⟩) H.out.lt).trans d2))
      go_wp2
      go_ret
      have hbl : Below w3.heap.size w3 (w3.alloc (.cells #[.int .i64 3, .int .i64 id, .int .i64 ax, .int .i64 ay] 47)) := (Below.refl _ _).alloc (Nat.le_refl _) _
      have ho := World.ownsRow_lit (base := w.heap.size) (e := 47) (size := 4) w3 #[.int .i64 3, .int .i64 id, .int .i64 ax, .int .i64 ay] 1 (by rw [HZ.out]; have := hb2.size; simpa using this) (by unfold maxLen; omega) rfl
      exact ⟨_, rfl, ho, (HS.out.below (hb2.mono (by simp))).below hbl, HC.out.trans (Chg.of_below ((HB.out.trans (hb2.mono (by simp))).trans (hbl.mono (by have := hb2.size; simpa using this))) (fun b => b = p)) (Ext.refl _ _)⟩
  · have hq : (id == k) = false := by simpa using hik
    rw [if_neg hik]
    have cT := hide (fun w2 => turn_box w2 p 2 id ax ay)
    have cN := hide (fun (w1 w3 : World) hb (hB0 : Below w2.drew.heap.size w2.drew w1) (hB : Below w1.heap.size w1 w3) => notes_any w3 w1.heap.size (w1.heap.size + 1) (w1.heap.size + 1 + 1) (w1.heap.size + 1 + 1 + 1) p 2 k id ax ay _ ((H.out.below hB0).below hB) rfl hb)
    clear hik
    go_enter Try.func13, Try.ntmps13
    go_upto_region 2 with (go_at_call 29; refine (cut_any _ _).mono ?_; rintro e w' ⟨rfl, rfl⟩)
    rw [← hw2.out]
    go_region_held3 (fun w' => w'.cell? ⟨p, 0, none⟩ = some (.int .i64 (cutE mx)) ∧ w'.cell? ⟨p, 1, none⟩ = some (.int .i64 (cutE my))) (first | go_keep | exact ⟨(hb2.cell (p := ⟨p, 0, none⟩) H.out.lt).trans d0, (hb2.cell (p := ⟨p, 1, none⟩) H.out.lt).trans d1⟩)
      (first | (go_at_call 8; refine (cA.out 1).mono ?_; rintro e w3 ⟨rfl, hb2⟩; have k2 := (hb2.cell (p := ⟨p, 2, none⟩) H.out.lt).trans d2))
    go_wp2_with (first
      | (go_at_call 31; refine (cT.out _).mono ?_; rintro e w4 ⟨rfl, hb, hB⟩)
      | (go_at_call 30; refine (cN.out _ _ hb hb2 hB).mono ?_; rintro e w5 ⟨v, rfl, o3, s3, C3⟩))
    go_ret
    exact ⟨_, rfl, own_le o3 (Nat.le_trans (by rw [HZ.out]; have := hb2.size; simpa using this) hB.size), s3, (HC.out.trans (Chg.of_below ((HB.out.trans (hb2.mono (by simp))).trans (hB.mono (by have := hb2.size; simpa using this))) (fun b => b = p)) (Ext.refl _ _)).trans C3 (Ext.refl _ _)⟩
end Go.Proofs.Ytfekldcpjoiipaa
