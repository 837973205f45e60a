/-
  Where input comes: a surface's region, and whether it takes a point.
-/
import Derived.Test.YtfekldcpjoiipaaRect
namespace Go.Proofs.Ytfekldcpjoiipaa
open Go.RowKit
set_option linter.unusedVariables false

theorem cell_new1 (w : World) (v : Value) (t : TypeId) : (w.alloc (.cells #[v] t)).cell? ⟨w.heap.size, 0, none⟩ = some v := by
  have := cell_one_new w v t 0 v rfl
  rwa [addr_add] at this
theorem cell_new2 (w : World) (o : Obj) (v : Value) (t : TypeId) {n : Nat} (h : n = w.heap.size + 1) : ((w.alloc o).alloc (.cells #[v] t)).cell? ⟨n, 0, none⟩ = some v := by
  subst h
  have := cell_new1 (w.alloc o) v t
  rwa [World.size_alloc] at this

/-- A region: v reads as rectangles. -/
def RdR (w : World) (v : Value) (L : List Rect) : Prop := Rd w v 4 L.length (L.flatMap Rect.enc)
theorem rect_row {L : List Rect} {k : Nat} (hk : k < L.length) (j : Nat) (hj : j < 4) : (L.flatMap Rect.enc)[k * 4 + j]? = ((L.getD k default).enc)[j]? := by
  induction L generalizing k with
  | nil => simp at hk
  | cons r L ih =>
    rw [List.flatMap_cons]
    have hr : r.enc.length = 4 := rfl
    cases k with
    | zero =>
      rw [List.getElem?_append_left (by rw [hr]; omega)]
      simp
    | succ k =>
      rw [List.getElem?_append_right (by rw [hr]; omega), hr, show (k + 1) * 4 + j - 4 = k * 4 + j by omega, ih (by simpa using hk)]
      simp
theorem RdR.form {w : World} {v : Value} {L : List Rect} (h : RdR w v L) : ∃ A c, v = .slice A L.length c ∧ L.length ≤ c := by
  obtain ⟨_, A, c, rfl, hc, _⟩ := h
  exact ⟨A, c, rfl, hc⟩
theorem RdR.cells {w : World} {A : Option Addr} {c n : Nat} {L : List Rect} (h : Rd w (.slice A n c) 4 n (L.flatMap Rect.enc)) (hn : n = L.length) (h0 : 0 < n) :
    ∃ b off, A = some ⟨b, off, none⟩ ∧ b < w.heap.size ∧ ∀ k, k < n → w.cell? ⟨b, off + k * 4, none⟩ = some (.int .i64 (L.getD k default).x) ∧ w.cell? ⟨b, off + k * 4 + 1, none⟩ = some (.int .i64 (L.getD k default).y) ∧
      w.cell? ⟨b, off + k * 4 + 2, none⟩ = some (.int .i64 (L.getD k default).w) ∧ w.cell? ⟨b, off + k * 4 + 3, none⟩ = some (.int .i64 (L.getD k default).h) := by
  obtain ⟨h1, A', c', hv, hc, h2⟩ := h
  simp only [Value.slice.injEq] at hv
  obtain ⟨rfl, _, rfl⟩ := hv
  obtain ⟨b, off, rfl, hb, hcell⟩ := h2 h0
  refine ⟨b, off, rfl, hb, fun k hk => ?_⟩
  have H := fun j hj u (e : ((L.getD k default).enc)[j]? = some u) => hcell (k * 4 + j) u (by rw [rect_row (by omega) j hj]; exact e)
  exact ⟨H 0 (by decide) _ rfl, by rw [show off + k * 4 + 1 = off + (k * 4 + 1) by omega]; exact H 1 (by decide) _ rfl,
    by rw [show off + k * 4 + 2 = off + (k * 4 + 2) by omega]; exact H 2 (by decide) _ rfl, by rw [show off + k * 4 + 3 = off + (k * 4 + 3) by omega]; exact H 3 (by decide) _ rfl⟩
theorem getD_mem {α : Type} [Inhabited α] {L : List α} {k : Nat} (hk : k < L.length) : L.getD k default ∈ L := by
  have e : L.getD k default = L[k] := by simp [List.getD, hk]
  rw [e]; exact List.getElem_mem hk

def anyR (L : List Rect) (x y : Int) : Bool := L.any fun r => hasR r x y
theorem anyR_true {L : List Rect} {x y : Int} {k : Nat} (hk : k < L.length) (h : hasR (L.getD k default) x y = true) : anyR L x y = true :=
  List.any_eq_true.2 ⟨_, getD_mem hk, h⟩
theorem anyR_false {L : List Rect} {x y : Int} (h : ∀ k, k < L.length → hasR (L.getD k default) x y = false) : anyR L x y = false := by
  refine List.any_eq_false.2 fun r hr => ?_
  obtain ⟨k, hk, rfl⟩ := List.getElem_of_mem hr
  have := h k hk
  simpa [List.getD, hk] using this

set_option maxRecDepth 100000 in
theorem takes1_any (w : World) (r : Rect) (x y : Int) (px py : Nat) (hr : r.good) (hx : I64 x) (hy : I64 y) (cx : w.cell? ⟨px, 0, none⟩ = some (.int .i64 x)) (cy : w.cell? ⟨py, 0, none⟩ = some (.int .i64 y)) :
    Calls Try.prog 39 #[r.val, .pointer (some ⟨px, 0, none⟩), .pointer (some ⟨py, 0, none⟩)] w fun e w' => e = .returned (.bool (hasR r x y)) ∧ Below w.heap.size w w' := by
  have lx := block_lt_of_cell cx
  have ly := block_lt_of_cell cy
  have cH := hide (fun w => rHas_any w r x y hr hx hy)
  obtain ⟨a, b, u, v⟩ := r
  have hb : Below w.heap.size w (w.alloc (.cells #[.int .i64 a, .int .i64 b, .int .i64 u, .int .i64 v] 26)) := (Below.refl _ _).alloc (Nat.le_refl _) _
  have HB := hide hb
  clear hb hr
  unfold Rect.val at cH ⊢
  dsimp only at cH lx ly ⊢
  generalize hasR ⟨a, b, u, v⟩ x y = q at cH ⊢
  have cx2 := fun o => (World.cell?_alloc_past (w := w) o px 0 lx).trans cx
  have cy2 := fun o => (World.cell?_alloc_past (w := w) o py 0 ly).trans cy
  go_enter Try.func39, Try.ntmps39
  go_wp2_with (go_at_call 26; refine (cH.out _).mono ?_; rintro e w2 ⟨rfl, hb2⟩)
  go_ret
  exact ⟨rfl, HB.out.trans (hb2.mono (by simp))⟩

set_option maxRecDepth 100000 in
theorem idxF_any (w : World) (v : Value) (L : List Rect) (x y : Int) (px py : Nat) (hL : RdR w v L) (hr : ∀ r ∈ L, r.good) (hx : I64 x) (hy : I64 y) (hl : L.length ≤ 1000000)
    (cx : w.cell? ⟨px, 0, none⟩ = some (.int .i64 x)) (cy : w.cell? ⟨py, 0, none⟩ = some (.int .i64 y)) :
    Calls Try.prog 43 #[v, .func (.func 39) #[] #[.pointer (some ⟨px, 0, none⟩), .pointer (some ⟨py, 0, none⟩)]] w fun e w' => ∃ i : Int, e = .returned (.int .i64 i) ∧ anyR L x y = decide (0 ≤ i) ∧ Below w.heap.size w w' := by
  have lx := block_lt_of_cell cx
  have ly := block_lt_of_cell cy
  dsimp only at lx ly
  obtain ⟨A, c, rfl, hcc⟩ := hL.form
  obtain ⟨n, hn⟩ : ∃ n, n = L.length := ⟨_, rfl⟩
  unfold RdR at hL
  rw [← hn] at hL hcc hl ⊢
  have hc := hide (fun h0 => RdR.cells hL hn h0)
  have hr' : Hid (∀ k, k < n → (L.getD k default).good) := hide fun k hk => hr _ (getD_mem (by omega))
  replace hn := hide hn
  clear hL hr
  go_enter Try.func43, Try.ntmps43
  go_wp2
  go_loopw [8] (fun i wr => ∃ k : Nat, k ≤ n ∧ i = .int .i64 k ∧ Hid (∀ j, j < k → hasR (L.getD j default) x y = false) ∧ Below w.heap.size w wr)
    (fun i _ => n - (intOf i).toNat)
  case atStart => exact ⟨0, Nat.zero_le _, rfl, hide (fun j hj => absurd hj (by omega)), Below.refl _ _⟩
  case round =>
    obtain ⟨k, hk, rfl, hT, hB⟩ := hrel
    by_cases hlt : k < n
    · obtain ⟨b, off, rfl, hbl, hcell⟩ := hc.out (by omega)
      obtain ⟨k0, k1, k2, k3⟩ := hcell k hlt
      have e0 := (hB.cell (p := ⟨b, off + k * 4, none⟩) hbl).trans k0
      have e1 := (hB.cell (p := ⟨b, off + k * 4 + 1, none⟩) hbl).trans k1
      have e2 := (hB.cell (p := ⟨b, off + k * 4 + 2, none⟩) hbl).trans k2
      have e3 := (hB.cell (p := ⟨b, off + k * 4 + 3, none⟩) hbl).trans k3
      have cC := takes1_any wr (L.getD k default) x y px py (hr'.out k hlt) hx hy ((hB.cell (p := ⟨px, 0, none⟩) lx).trans cx) ((hB.cell (p := ⟨py, 0, none⟩) ly).trans cy)
      have hT2 : ∀ j, j < k + 1 → hasR (L.getD k default) x y = false → hasR (L.getD j default) x y = false := fun j hj h0 => by
        rcases (show j = k ∨ j < k by omega) with rfl | h
        · exact h0
        · exact hT.out j h
      have hT3 := hide (fun (h0 : hasR (L.getD k default) x y = true) => anyR_true (x := x) (y := y) (L := L) (k := k) (by rw [← hn.out]; exact hlt) h0)
      obtain ⟨q, hq⟩ : ∃ q, q = hasR (L.getD k default) x y := ⟨_, rfl⟩
      rw [← hq] at cC hT2 hT3
      unfold Rect.val at cC
      replace hT2 := hide hT2
      replace cC := hide cC
      replace hq := hide hq
      have hsz := hB.size
      clear hcell k0 k1 k2 k3 hT
      have hB3 := hide (fun w2 (hb2 : Below wr.heap.size wr w2) => hB.trans (hb2.mono hsz))
      cases q
      · have hT4 := hide (fun j hj => hT2.out j hj rfl)
        clear hT2 hT3
        go_wp2_with (go_at_call 39; refine cC.out.mono ?_; rintro e w2 ⟨rfl, hb2⟩)
        go_roundw
        case rel => exact ⟨k + 1, by omega, by go_num, hT4, hB3.out _ hb2⟩
        case measure => simp [intOf]; omega
      · have hT4 := hide (hT3.out rfl)
        clear hT2 hT3
        go_wp2_with (go_at_call 39; refine cC.out.mono ?_; rintro e w2 ⟨rfl, hb2⟩)
        go_ret
        exact ⟨_, rfl, by rw [hT4.out]; simp, hB3.out _ hb2⟩
    · obtain rfl : k = n := by omega
      go_wp2
      go_ret
      exact ⟨_, rfl, by rw [anyR_false (fun j hj => hT.out j (by rw [hn.out]; exact hj))]; rfl, hB⟩

set_option maxRecDepth 100000 in
theorem conF_any (w : World) (v : Value) (L : List Rect) (x y : Int) (px py : Nat) (hL : RdR w v L) (hr : ∀ r ∈ L, r.good) (hx : I64 x) (hy : I64 y) (hl : L.length ≤ 1000000)
    (cx : w.cell? ⟨px, 0, none⟩ = some (.int .i64 x)) (cy : w.cell? ⟨py, 0, none⟩ = some (.int .i64 y)) :
    Calls Try.prog 38 #[v, .func (.func 39) #[] #[.pointer (some ⟨px, 0, none⟩), .pointer (some ⟨py, 0, none⟩)]] w fun e w' => e = .returned (.bool (anyR L x y)) ∧ Below w.heap.size w w' := by
  have cI := hide (idxF_any w v L x y px py hL hr hx hy hl cx cy)
  clear hL hr cx cy
  go_enter Try.func38, Try.ntmps38
  go_wp2_with (go_at_call 43; refine cI.out.mono ?_; rintro e w2 ⟨i, rfl, hi, hb2⟩; replace hi := hide hi)
  go_ret
  exact ⟨congrArg Ending.returned (congrArg Value.bool hi.out.symm), hb2⟩

/-- A surface that the pointer may be on. -/
structure Hit where
  s : Int
  x : Int
  y : Int
  w : Int
  h : Int
  all : Bool
  reg : Value
  rects : List Rect
instance : Inhabited Hit := ⟨⟨0, 0, 0, 0, 0, false, .slice none 0 0, []⟩⟩
def Hit.enc (h : Hit) : List Value := [.int .i64 h.s, .int .i64 h.x, .int .i64 h.y, .int .i64 h.w, .int .i64 h.h, .bool h.all, h.reg]
def Hit.val (h : Hit) : Value := .agg #[.int .i64 h.s, .int .i64 h.x, .int .i64 h.y, .int .i64 h.w, .int .i64 h.h, .bool h.all, h.reg]
structure Hit.good (t : Hit) : Prop where
  s : I64 t.s
  x : I64 t.x
  y : I64 t.y
  w : I64 t.w
  h : I64 t.h
  r : ∀ r ∈ t.rects, r.good
  l : t.rects.length ≤ 1000000
def takesH (h : Hit) (x y : Int) : Bool := h.all || anyR h.rects x y

set_option maxRecDepth 100000 in
theorem takes_any (w : World) (h : Hit) (x y : Int) (hg : h.good) (hR : RdR w h.reg h.rects) (hx : I64 x) (hy : I64 y) :
    Calls Try.prog 27 #[h.val, .int .i64 x, .int .i64 y] w fun e w' => e = .returned (.bool (takesH h x y)) ∧ Below w.heap.size w w' := by
  obtain ⟨s, a, b, u, v, al, rg, L⟩ := h
  have hr := hg.r
  have hl := hg.l
  dsimp only at hR hr hl
  unfold Hit.val takesH
  dsimp only
  clear hg
  have hb : Below w.heap.size w (((w.alloc (.cells #[.int .i64 s, .int .i64 a, .int .i64 b, .int .i64 u, .int .i64 v, .bool al, rg] 28)).alloc (.cells #[.int .i64 x] 3)).alloc (.cells #[.int .i64 y] 3)) :=
    (((Below.refl _ _).alloc (Nat.le_refl _) _).alloc (by simp) _).alloc (by simp; omega) _
  have HB := hide hb
  have hR2 : RdR _ rg L := Rd.below hR hb (Nat.le_refl _)
  have hB2 := hide (fun w' (h2 : Below (((w.alloc (.cells #[.int .i64 s, .int .i64 a, .int .i64 b, .int .i64 u, .int .i64 v, .bool al, rg] 28)).alloc (.cells #[.int .i64 x] 3)).alloc (.cells #[.int .i64 y] 3)).heap.size (((w.alloc (.cells #[.int .i64 s, .int .i64 a, .int .i64 b, .int .i64 u, .int .i64 v, .bool al, rg] 28)).alloc (.cells #[.int .i64 x] 3)).alloc (.cells #[.int .i64 y] 3)) w') => hb.trans (h2.mono hb.size))
  have cC := conF_any _ rg L x y (w.heap.size + 1) (w.heap.size + 2) hR2 hr hx hy hl ((World.cell?_alloc_past _ _ _ (by simp)).trans (cell_new2 _ _ _ _ rfl)) (cell_new2 _ _ _ _ (by simp))
  generalize anyR L x y = q at cC ⊢
  replace cC := hide cC
  clear hR hR2 hb
  cases al
  all_goals
    go_enter Try.func27, Try.ntmps27
    go_wp2_with (go_at_call 38; refine cC.out.mono ?_; rintro e w2 ⟨rfl, hb2⟩)
    go_ret
    first
    | exact ⟨by simp, HB.out⟩
    | exact ⟨by simp, hB2.out _ hb2⟩
end Go.Proofs.Ytfekldcpjoiipaa
