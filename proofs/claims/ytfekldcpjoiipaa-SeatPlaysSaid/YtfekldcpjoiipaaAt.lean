/-
  At: the uppermost surface at a point.
-/
import Derived.Test.YtfekldcpjoiipaaHits
import Derived.Test.YtfekldcpjoiipaaRound
import Derived.IntWalk
namespace Go.Proofs.Ytfekldcpjoiipaa
open Go.RowKit Go.Shelf
set_option linter.unusedVariables false
attribute [local go_sem] Oper.semAt_some

def hitB (h : Hit) (x y : Int) : Bool := hasR ⟨h.x, h.y, h.w, h.h⟩ x y && takesH h (x - h.x) (y - h.y)
theorem hasR_in {r : Rect} {x y : Int} (h : hasR r x y = true) : 0 ≤ x - r.x ∧ x - r.x < r.w ∧ 0 ≤ y - r.y ∧ y - r.y < r.h := by
  unfold hasR hasN at h
  simp only [Bool.and_eq_true, decide_eq_true_eq] at h
  omega
def atH (L : List Hit) (x y : Int) : Int × Int × Int :=
  match L.reverse.find? fun h => hitB h x y with
  | some h => (h.s, x - h.x, y - h.y)
  | none => (0, 0, 0)

theorem KeepsFrom.of_below {B : Nat} {W W' : World} (h : Below W.heap.size W W') : KeepsFrom B W W' :=
  ⟨h.size, fun k o _ hk _ => (h.block k (Array.getElem?_eq_some_iff.1 hk).1).trans hk⟩
/-- A block of cells stands where no block of cells is turned. -/
theorem cells_kept {W W' : World} {row : Option Nat} {b : Nat} {cs : Array Value} {t : TypeId} (h : W.heap[b]? = some (.cells cs t (0, 0))) (hg : W.grownBy W' row) (hr : ∀ r, row = some r → ∃ o : Obj, W.heap[r]? = some o ∧ o.isCells = false) :
    W'.heap[b]? = some (.cells cs t (0, 0)) := by
  refine (hg.block b (Array.getElem?_eq_some_iff.1 h).1 fun e => ?_).trans h
  obtain ⟨o, ho, hc⟩ := hr b e.symm
  rw [h] at ho; cases ho; cases hc
/-- The function's own boxes: the point, the answer. -/
structure AtBox (B : Nat) (x y a b c : Int) (W : World) : Prop where
  x : Boxed W B 3 (.int .i64 x)
  y : Boxed W (B + 1) 3 (.int .i64 y)
  a : Boxed W (B + 1 + 1) 3 (.int .i64 a)
  b : Boxed W (B + 1 + 1 + 1) 3 (.int .i64 b)
  c : Boxed W (B + 1 + 1 + 1 + 1) 3 (.int .i64 c)
theorem AtBox.kept {B : Nat} {x y a b c : Int} {W W' : World} {row : Option Nat} (h : AtBox B x y a b c W) (hg : W.grownBy W' row) (hr : ∀ r, row = some r → ∃ o : Obj, W.heap[r]? = some o ∧ o.isCells = false) : AtBox B x y a b c W' :=
  ⟨cells_kept h.x hg hr, cells_kept h.y hg hr, cells_kept h.a hg hr, cells_kept h.b hg hr, cells_kept h.c hg hr⟩
theorem AtBox.below {B : Nat} {x y a b c : Int} {W W' : World} (h : AtBox B x y a b c W) (hb : Below W.heap.size W W') : AtBox B x y a b c W' :=
  ⟨(hb.block _ h.x.lt).trans h.x, (hb.block _ h.y.lt).trans h.y, (hb.block _ h.a.lt).trans h.a, (hb.block _ h.b.lt).trans h.b, (hb.block _ h.c.lt).trans h.c⟩

theorem AtBox.store3 {B : Nat} {x y a b c : Int} {W : World} (h : AtBox B x y a b c W) (a' b' c' : Int) :
    AtBox B x y a' b' c' (((W.setCell ⟨B + 1 + 1, 0, none⟩ (.int .i64 a')).setCell ⟨B + 1 + 1 + 1, 0, none⟩ (.int .i64 b')).setCell ⟨B + 1 + 1 + 1 + 1, 0, none⟩ (.int .i64 c')) :=
  ⟨((h.x.other (by omega) _).other (by omega) _).other (by omega) _, ((h.y.other (by omega) _).other (by omega) _).other (by omega) _, ((h.a.set _).other (by omega) _).other (by omega) _,
    ((h.b.other (by omega) _).set _).other (by omega) _, ((h.c.other (by omega) _).other (by omega) _).set _⟩
theorem noOut_normal {Q : Exit → Act → World → Prop} {a : Act} {w : World} (h : Q .normal a w) : NoOut Q .normal a w := h
theorem at_none {L : List Hit} {x y : Int} (h : ∀ k, k < L.length → hitB (L.getD k default) x y = false) : atH L x y = (0, 0, 0) := by
  unfold atH
  rw [List.find?_eq_none.2]
  intro r hr
  obtain ⟨k, hk, rfl⟩ := List.getElem_of_mem (List.mem_reverse.1 hr)
  have := h k hk
  simp only [List.getD, List.getElem?_eq_getElem hk, Option.getD_some] at this
  simp [this]
theorem at_some {L : List Hit} {x y : Int} {k : Nat} (hk : k < L.length) (h : hitB (L.getD k default) x y = true) (hn : ∀ j, k < j → j < L.length → hitB (L.getD j default) x y = false) :
    atH L x y = ((L.getD k default).s, x - (L.getD k default).x, y - (L.getD k default).y) := by
  have e : L.getD k default = L[k] := by simp [List.getD, hk]
  have hL : L.reverse = (L.drop (k + 1)).reverse ++ (L[k] :: (L.take k).reverse) := by
    conv => lhs; rw [← List.take_append_drop (k + 1) L, List.take_succ_eq_append_getElem hk]
    simp
  have h0 : (L.drop (k + 1)).reverse.find? (fun h => hitB h x y) = none := by
    rw [List.find?_eq_none]
    intro r hr
    obtain ⟨i, hi, rfl⟩ := List.getElem_of_mem (List.mem_reverse.1 hr)
    have hlen : (k + 1) + i < L.length := by simp at hi; omega
    have := hn (k + 1 + i) (by omega) hlen
    simp only [List.getD, List.getElem?_eq_getElem hlen, Option.getD_some] at this
    simp [List.getElem_drop, this]
  unfold atH
  rw [hL, List.find?_append, h0, e]
  rw [e] at h
  simp [h]

/-- Between two rounds. -/
def AtI (L : List Hit) (n B s : Nat) (x y : Int) (w : World) (pre : List (Below' n)) (W : World) : Prop :=
  AtBox B x y 0 0 0 W ∧ Below B w W ∧ (∀ k ∈ pre, hitB (L.getD k.1 default) x y = false) ∧ s ≤ W.heap.size
/-- A round has left. -/
def AtIx (L : List Hit) (n B s : Nat) (x y : Int) (w : World) (cd : Code) (pre : List (Below' n)) (W : World) : Prop :=
  cd = .ret ∧ ∃ ini last, pre = ini ++ [last] ∧ (∀ k ∈ ini, hitB (L.getD k.1 default) x y = false) ∧ hitB (L.getD last.1 default) x y = true ∧
    AtBox B x y (L.getD last.1 default).s (x - (L.getD last.1 default).x) (y - (L.getD last.1 default).y) W ∧ Below B w W ∧ s ≤ W.heap.size

set_option maxRecDepth 100000 in
set_option maxHeartbeats 1000000 in
theorem at_any (w : World) (v : Value) (L : List Hit) (x y : Int) (hL : RdH w v L) (hg : ∀ h ∈ L, h.good) (hx : I64 x) (hy : I64 y) (hl : L.length ≤ 1000000) :
    Calls Try.prog 8 #[v, .int .i64 x, .int .i64 y] w fun e w' => e = .returned (.tuple #[.int .i64 (atH L x y).1, .int .i64 (atH L x y).2.1, .int .i64 (atH L x y).2.2]) ∧ Below w.heap.size w w' := by
  obtain ⟨A, c, rfl, hcc⟩ := hL.form
  obtain ⟨n, hn⟩ : ∃ n, n = L.length := ⟨_, rfl⟩
  rw [← hn] at hl ⊢
  have hrow := hL.row
  rw [← hn] at hrow
  have hcell := hide (fun h0 => RdH.cells hrow hn h0)
  have hreg := hide (fun k (hk : k < n) => hL.reg (L.getD k default) (getD_mem (by omega)))
  have hgood := hide (fun k (hk : k < n) => hg (L.getD k default) (getD_mem (by omega)))
  have hnn := hn
  replace hnn := hide hnn
  clear hn hL hrow hg
  have f1 : Fence.wide.fn 26 := trivial
  have f2 : Fence.wide.fn 27 := trivial
  have f3 : Fence.wide.fn 25 := trivial
  refine (callsIn_wide (n := 5)).1 ?_
  refine callsIn_of_wp_marks Try.func8 rfl trivial ?_ rfl
  simp only [Try.ntmps8, List.size_toArray, List.length_cons, List.length_nil, Nat.reduceAdd, Nat.reduceSub, Array.replicate_succ, Array.replicate_zero, List.push_toArray, List.append_toArray, List.nil_append, List.cons_append]
  gi_wp2_with (gi_at_call 25; refine (backw_in Fence.wide _ trivial rfl _ _ _ _).mono ?_; rintro e w' ⟨rfl, rfl⟩)
  obtain ⟨W0, hW0⟩ : ∃ W0, ((((((w.alloc (.cells #[.int .i64 x] 3)).alloc (.cells #[.int .i64 y] 3)).alloc (.cells #[.int .i64 0] 3)).alloc (.cells #[.int .i64 0] 3)).alloc (.cells #[.int .i64 0] 3)).alloc (.cells #[.slice A n c] 23)) = W0 := ⟨_, rfl⟩
  have hB0 : Below w.heap.size w W0 := by
    rw [← hW0]
    exact ((((((Below.refl _ w).alloc (Nat.le_refl _) _).alloc (by simp) _).alloc (by simp; omega) _).alloc (by simp; omega) _).alloc (by simp; omega) _).alloc (by simp; omega) _
  have hs0 : W0.heap.size = w.heap.size + 6 := by rw [← hW0]; simp
  have hs1 : W0.heap.size ≤ w.heap.size + 6 := by omega
  have hs2 : w.heap.size + 6 ≤ W0.heap.size := by omega
  clear hs0
  have bx0 : AtBox w.heap.size x y 0 0 0 W0 := by
    have b1 := ((((Boxed.new w 3 (.int .i64 x)).alloc (.cells #[.int .i64 y] 3)).alloc (.cells #[.int .i64 0] 3)).alloc (.cells #[.int .i64 0] 3)).alloc (.cells #[.int .i64 0] 3) |>.alloc (.cells #[.slice A n c] 23)
    have b2 := (((Boxed.new (w.alloc (.cells #[.int .i64 x] 3)) 3 (.int .i64 y)).alloc (.cells #[.int .i64 0] 3)).alloc (.cells #[.int .i64 0] 3)).alloc (.cells #[.int .i64 0] 3) |>.alloc (.cells #[.slice A n c] 23)
    have b3 := ((Boxed.new ((w.alloc (.cells #[.int .i64 x] 3)).alloc (.cells #[.int .i64 y] 3)) 3 (.int .i64 0)).alloc (.cells #[.int .i64 0] 3)).alloc (.cells #[.int .i64 0] 3) |>.alloc (.cells #[.slice A n c] 23)
    have b4 := (Boxed.new (((w.alloc (.cells #[.int .i64 x] 3)).alloc (.cells #[.int .i64 y] 3)).alloc (.cells #[.int .i64 0] 3)) 3 (.int .i64 0)).alloc (.cells #[.int .i64 0] 3) |>.alloc (.cells #[.slice A n c] 23)
    have b5 := (Boxed.new ((((w.alloc (.cells #[.int .i64 x] 3)).alloc (.cells #[.int .i64 y] 3)).alloc (.cells #[.int .i64 0] 3)).alloc (.cells #[.int .i64 0] 3)) 3 (.int .i64 0)) |>.alloc (.cells #[.slice A n c] 23)
    rw [hW0] at b1 b2 b3 b4 b5
    simp only [World.size_alloc] at b2 b3 b4 b5
    exact ⟨b1, b2, b3, b4, b5⟩
  have bsl : Boxed W0 (w.heap.size + 1 + 1 + 1 + 1 + 1) 23 (.slice A n c) := by
    have b6 := Boxed.new (((((w.alloc (.cells #[.int .i64 x] 3)).alloc (.cells #[.int .i64 y] 3)).alloc (.cells #[.int .i64 0] 3)).alloc (.cells #[.int .i64 0] 3)).alloc (.cells #[.int .i64 0] 3)) 23 (.slice A n c)
    rw [hW0] at b6
    simp only [World.size_alloc] at b6
    exact b6
  rw [hW0]
  clear hW0
  refine wpIn_rangeFunc_ownH rfl (by omega) (gf := 35) (lb := #[.pointer (some ⟨w.heap.size + 1 + 1 + 1 + 1 + 1, 0, none⟩)]) rfl trivial (enters_of Try.func35 (by kernel_rfl) rfl)
    (back_stops Fence.wide 4 trivial rfl (by omega) (w.heap.size + 1 + 1 + 1 + 1 + 1) (w.heap.size + 6) L A n c hnn.out hl W0 (by omega) (by omega) (by omega) bsl.cell
      (fun h0 => by obtain ⟨b, off, e, hb, hk⟩ := hcell.out h0; exact ⟨b, off, e, by omega, fun k hk2 => (hk k hk2).below hB0 hb⟩)) belowK_t (belowK_b (by omega)) (Below.refl _ _) (fun _ => rfl)
    (AtI L n w.heap.size W0.heap.size x y w)
    (AtIx L n w.heap.size W0.heap.size x y w)
    (fun s X Y row hs hg hr => ⟨hs.1.kept hg (fun r e => (hr r e).2), hs.2.1.grown hg hs.2.1.size (fun k e => by have := (hr k e).1; omega), hs.2.2.1, Nat.le_trans hs.2.2.2 hg.size⟩)
    (fun cd s X Y row hs hg hr => by
      obtain ⟨h1, ini, last, h2, h3, h4, h5, h6, h7⟩ := hs
      exact ⟨h1, ini, last, h2, h3, h4, h5.kept hg (fun r e => (hr r e).2), h6.grown hg h6.size (fun k e => by have := (hr k e).1; omega), Nat.le_trans h7 hg.size⟩)
    ⟨bx0, hB0, by simp, Nat.le_refl _⟩
    (fun k a' W => ∃ Bx, w.heap.size + 6 ≤ Bx ∧ W.heap[Bx]? = some (.cells (L.getD k.1 default).enc.toArray 28 (0, 0)) ∧
      a' = { tmps := #[.slice A n c, .int .i64 x, .int .i64 y, undef, .pointer (some ⟨w.heap.size, 0, none⟩), .pointer (some ⟨w.heap.size + 1, 0, none⟩), .pointer (some ⟨w.heap.size + 1 + 1, 0, none⟩), .pointer (some ⟨w.heap.size + 1 + 1 + 1, 0, none⟩), .pointer (some ⟨w.heap.size + 1 + 1 + 1 + 1, 0, none⟩), undef, .pointer (some ⟨Bx, 0, none⟩), .slice A n c, .func (.func 35) #[] #[.pointer (some ⟨w.heap.size + 1 + 1 + 1 + 1 + 1, 0, none⟩)], .int .i64 (k.1 : Int), (L.getD k.1 default).val, undef, undef, undef, undef, undef, undef, undef, undef, undef, undef, undef, undef, undef, undef, undef, undef, undef, undef, undef, undef, undef, undef, undef, undef, undef, undef, undef, undef, undef, undef, undef, undef, undef, undef], defers := [] })
    (fun k a' _ X Y row hs hg hr => by obtain ⟨Bx, h1, h2, h3⟩ := hs; exact ⟨Bx, h1, cells_kept h2 hg (fun r e => (hr r e).2), h3⟩)
    ?assign ?body ?done ?stop
  case assign =>
    rintro l pre k W K ⟨hbx, hB, hp, hsz⟩ hK
    obtain ⟨Ar, cr, hrg, _⟩ := (hreg.out k.1 k.2).form
    obtain ⟨h, hh⟩ : ∃ h, h = L.getD k.1 default := ⟨_, rfl⟩
    rw [← hh] at hK hrg ⊢
    obtain ⟨s, a, b, u, v, al, rg, rs⟩ := h
    dsimp only at hrg
    subst hrg
    unfold Hit.val at hK ⊢
    unfold Hit.enc at hK
    dsimp only at hK ⊢
    have hal : ∀ o, Below W.heap.size W (W.alloc o) := fun o => (Below.refl _ _).alloc (Nat.le_refl _) o
    clear hh
    replace hK := hide hK
    gi_wp2
    exact hK.out _ _ ((KeepsOthers.alloc _ _).from _) ((hal _).mono (by omega)) ⟨hbx.below (hal _), hB.trans ((hal _).mono hB.size), hp, by simp; omega⟩ ⟨W.heap.size, by omega, World.alloc_heap_new W _, rfl⟩
  case body =>
    rintro l pre k a' W hlw ⟨rec, hrec⟩ ⟨hbx, hB, hp, hsz⟩ ⟨Bx, hBx, hblk, rfl⟩ hlen
    have hG := hgood.out k.1 k.2
    have hR : RdR W (L.getD k.1 default).reg (L.getD k.1 default).rects := Rd.below (hreg.out k.1 k.2) hB (Nat.le_refl _)
    have hpk : Hid (∀ q, hitB (L.getD k.1 default) x y = q → q = false → ∀ k' ∈ pre ++ [k], hitB (L.getD k'.1 default) x y = false) := hide fun q h0 h1 k' hk' => by
      rcases List.mem_append.1 hk' with h2 | h2
      · exact hp k' h2
      · have : k' = k := by simpa using h2
        subst this
        rw [h0, h1]
    obtain ⟨Ar, cr, hrg, _⟩ := hR.form
    have hBl := (Array.getElem?_eq_some_iff.1 hblk).1
    obtain ⟨h, hh⟩ : ∃ h, h = L.getD k.1 default := ⟨_, rfl⟩
    rw [← hh] at hG hR hblk hpk hrg ⊢
    have hitD : hitB h x y = (hasR ⟨h.x, h.y, h.w, h.h⟩ x y && takesH h (x - h.x) (y - h.y)) := rfl
    have cx := hbx.x.cell
    have cy := hbx.y.cell
    have k0 : W.cell? ⟨Bx, 0, none⟩ = some (.int .i64 h.s) := by rw [cell_of_row W Bx 0 _ _ _ hblk]; rfl
    have k1 : W.cell? ⟨Bx, 1, none⟩ = some (.int .i64 h.x) := by rw [cell_of_row W Bx 1 _ _ _ hblk]; rfl
    have k2 : W.cell? ⟨Bx, 2, none⟩ = some (.int .i64 h.y) := by rw [cell_of_row W Bx 2 _ _ _ hblk]; rfl
    have k3 : W.cell? ⟨Bx, 3, none⟩ = some (.int .i64 h.w) := by rw [cell_of_row W Bx 3 _ _ _ hblk]; rfl
    have k4 : W.cell? ⟨Bx, 4, none⟩ = some (.int .i64 h.h) := by rw [cell_of_row W Bx 4 _ _ _ hblk]; rfl
    have k5 : W.cell? ⟨Bx, 5, none⟩ = some (.bool h.all) := by rw [cell_of_row W Bx 5 _ _ _ hblk]; rfl
    have k6 : W.cell? ⟨Bx, 6, none⟩ = some (.slice Ar h.rects.length cr) := by rw [cell_of_row W Bx 6 _ _ _ hblk, ← hrg]; rfl
    generalize hrl : h.rects.length = rl at k6
    replace hrl := hide hrl
    replace hrg := hide hrg
    replace hh := hide hh
    clear hblk
    have cH := hide (rHas_any W ⟨h.x, h.y, h.w, h.h⟩ x y ⟨hG.x, hG.y, hG.w, hG.h⟩ hx hy)
    unfold Rect.val at cH
    dsimp only at cH
    have hsW := hB.size
    cases hq : hasR ⟨h.x, h.y, h.w, h.h⟩ x y with
    | false =>
      rw [hq] at hitD cH
      have hnot := hide (hpk.out false hitD rfl)
      clear hitD hq hpk
      gi_wp2_with (gi_at_call 26; refine (CallsIn.inRound l (callsIn_wide.2 cH.out)).mono ?_; rintro e w2 ⟨rfl, hb2⟩)
      have B2 : Below w.heap.size w w2 := hB.trans (hb2.mono hsW)
      gi_wp2
      exact ⟨KeepsFrom.of_below hb2, hb2.mono (by omega), hbx.below hb2, B2, hnot.out, by have := hb2.size; omega⟩
    | true =>
      rw [hq] at hitD cH
      have hin := hasR_in hq
      dsimp only at hin
      have hx1 : I64 (x - h.x) := ⟨by omega, by have := hG.w.2; omega⟩
      have hy1 : I64 (y - h.y) := ⟨by omega, by have := hG.h.2; omega⟩
      have cT := hide (fun w2 (hb2 : Below W.heap.size W w2) => takes_any w2 h (x - h.x) (y - h.y) hG (Rd.below hR hb2 (Nat.le_refl _)) hx1 hy1)
      rw [Bool.true_and] at hitD
      obtain ⟨hx2, hx3⟩ := hx1
      obtain ⟨hy2, hy3⟩ := hy1
      clear hq hin
      generalize takesH h (x - h.x) (y - h.y) = tq at cT hitD
      unfold Hit.val at cT
      rw [hrg.out] at cT
      rw [hrl.out] at cT
      cases tq with
      | false =>
        have hnot := hide (hpk.out false hitD rfl)
        clear hitD hpk
        gi_wp2_with (first
          | (gi_at_call 26; refine (CallsIn.inRound l (callsIn_wide.2 cH.out)).mono ?_; rintro e w2 ⟨rfl, hb2⟩; have m0 := (hb2.cell (p := ⟨Bx, 0, none⟩) hBl).trans k0; have m1 := (hb2.cell (p := ⟨Bx, 1, none⟩) hBl).trans k1; have m2 := (hb2.cell (p := ⟨Bx, 2, none⟩) hBl).trans k2; have m3 := (hb2.cell (p := ⟨Bx, 3, none⟩) hBl).trans k3; have m4 := (hb2.cell (p := ⟨Bx, 4, none⟩) hBl).trans k4; have m5 := (hb2.cell (p := ⟨Bx, 5, none⟩) hBl).trans k5; have m6 := (hb2.cell (p := ⟨Bx, 6, none⟩) hBl).trans k6; have mx := (hb2.cell (p := ⟨w.heap.size, 0, none⟩) hbx.x.lt).trans cx; have my := (hb2.cell (p := ⟨w.heap.size + 1, 0, none⟩) hbx.y.lt).trans cy)
          | (gi_at_call 27; refine (CallsIn.inRound l (callsIn_wide.2 (cT.out _ hb2))).mono ?_; rintro e w3 ⟨rfl, hb3⟩))
        have hb4 := hb2.trans (hb3.mono hb2.size)
        exact ⟨KeepsFrom.of_below hb4, hb4.mono (by omega), hbx.below hb4, hB.trans (hb4.mono hsW), hnot.out, by have := hb4.size; omega⟩
      | true =>
        gi_wp2_with (first
          | (gi_at_call 26; refine (CallsIn.inRound l (callsIn_wide.2 cH.out)).mono ?_; rintro e w2 ⟨rfl, hb2⟩; have m0 := (hb2.cell (p := ⟨Bx, 0, none⟩) hBl).trans k0; have m1 := (hb2.cell (p := ⟨Bx, 1, none⟩) hBl).trans k1; have m2 := (hb2.cell (p := ⟨Bx, 2, none⟩) hBl).trans k2; have m3 := (hb2.cell (p := ⟨Bx, 3, none⟩) hBl).trans k3; have m4 := (hb2.cell (p := ⟨Bx, 4, none⟩) hBl).trans k4; have m5 := (hb2.cell (p := ⟨Bx, 5, none⟩) hBl).trans k5; have m6 := (hb2.cell (p := ⟨Bx, 6, none⟩) hBl).trans k6; have mx := (hb2.cell (p := ⟨w.heap.size, 0, none⟩) hbx.x.lt).trans cx; have my := (hb2.cell (p := ⟨w.heap.size + 1, 0, none⟩) hbx.y.lt).trans cy)
          | (gi_at_call 27; refine (CallsIn.inRound l (callsIn_wide.2 (cT.out _ hb2))).mono ?_; rintro e w3 ⟨rfl, hb3⟩; have hb4 := hb2.trans (hb3.mono hb2.size); have p0 := (hb4.cell (p := ⟨Bx, 0, none⟩) hBl).trans k0; have p1 := (hb4.cell (p := ⟨Bx, 1, none⟩) hBl).trans k1; have p2 := (hb4.cell (p := ⟨Bx, 2, none⟩) hBl).trans k2; have px := (hb4.cell (p := ⟨w.heap.size, 0, none⟩) hbx.x.lt).trans cx; have py := (hb4.cell (p := ⟨w.heap.size + 1, 0, none⟩) hbx.y.lt).trans cy; have hbx3 := hbx.below hb4))
        have hbx4 : AtBox w.heap.size x y 0 0 0 w3.drew := hbx3.below (below_drewN (Below.refl _ w3) 1)
        have hn1 : ∀ (W5 : World) (b : Nat), b ≠ w.heap.size ∧ b ≠ w.heap.size + 1 ∧ b ≠ Bx → ∀ u, (fun (wS : World) => wS.cell? ⟨Bx, 0, none⟩ = some (.int .i64 h.s) ∧ wS.cell? ⟨Bx, 1, none⟩ = some (.int .i64 h.x) ∧ wS.cell? ⟨Bx, 2, none⟩ = some (.int .i64 h.y) ∧ wS.cell? ⟨w.heap.size, 0, none⟩ = some (.int .i64 x) ∧ wS.cell? ⟨w.heap.size + 1, 0, none⟩ = some (.int .i64 y)) W5 → (fun (wS : World) => wS.cell? ⟨Bx, 0, none⟩ = some (.int .i64 h.s) ∧ wS.cell? ⟨Bx, 1, none⟩ = some (.int .i64 h.x) ∧ wS.cell? ⟨Bx, 2, none⟩ = some (.int .i64 h.y) ∧ wS.cell? ⟨w.heap.size, 0, none⟩ = some (.int .i64 x) ∧ wS.cell? ⟨w.heap.size + 1, 0, none⟩ = some (.int .i64 y)) (W5.setCell ⟨b, 0, none⟩ u) := fun W5 b hb u ⟨s0, s1, s2, s3, s4⟩ =>
          ⟨(World.cell?_setCell_far _ _ _ _ (by simp; omega)).trans s0, (World.cell?_setCell_far _ _ _ _ (by simp; omega)).trans s1, (World.cell?_setCell_far _ _ _ _ (by simp; omega)).trans s2, (World.cell?_setCell_far _ _ _ _ (by simp; omega)).trans s3, (World.cell?_setCell_far _ _ _ _ (by simp; omega)).trans s4⟩
        have hwx : IntKind.i64.wrap (x - h.x) = x - h.x := IntWalk.i64_in _ (by omega)
        have hwy : IntKind.i64.wrap (y - h.y) = y - h.y := IntWalk.i64_in _ (by omega)
        have g4 := hbx3.a.frozen
        have g5 := hbx3.b.frozen
        have g6 := hbx3.c.frozen
        have c4 := hbx3.a.cell
        have c5 := hbx3.b.cell
        have c6 := hbx3.c.cell
        have g1 := hbx4.a.frozen
        have g2 := hbx4.b.frozen
        have g3 := hbx4.c.frozen
        have c1 := hbx4.a.cell
        have c2 := hbx4.b.cell
        have c3 := hbx4.c.cell
        refine wpIn_region_round (S := fun (wS : World) => wS.cell? ⟨Bx, 0, none⟩ = some (.int .i64 h.s) ∧ wS.cell? ⟨Bx, 1, none⟩ = some (.int .i64 h.x) ∧ wS.cell? ⟨Bx, 2, none⟩ = some (.int .i64 h.y) ∧ wS.cell? ⟨w.heap.size, 0, none⟩ = some (.int .i64 x) ∧ wS.cell? ⟨w.heap.size + 1, 0, none⟩ = some (.int .i64 y)) (by kernel_rfl) (by kernel_rfl) ⟨p0, p1, p2, px, py⟩ (fun hS => ?_)
        refine wpAnyH_take (i := 0) (oi := { dst := some 39, op := Op.fieldAddr 28 (Operand.tmp 10) 0, type := _, pos := _, after := _, guard := _ }) (v := .pointer (some ⟨Bx, 0, none⟩)) rfl (by kernel_rfl) (by kernel_rfl) (by kernel_rfl) (fun _ _ _ h => h) (Or.inl ⟨by rfl, ?_⟩) hS ?_
        · intro wS hSw; obtain ⟨s0, s1, s2, s3, s4⟩ := hSw; go_simp
        try simp only [Act.put, List.setIfInBounds_toArray, List.set_cons_zero, List.set_cons_succ]
        refine wpAnyH_take (i := 1) (oi := { dst := some 40, op := Op.load 3 (Operand.tmp 39), type := _, pos := _, after := _, guard := _ }) (v := .int .i64 h.s) rfl (by kernel_rfl) (by kernel_rfl) (by kernel_rfl) (fun _ _ _ h => h) (Or.inl ⟨by rfl, ?_⟩) hS ?_
        · intro wS hSw; obtain ⟨s0, s1, s2, s3, s4⟩ := hSw; go_simp
        try simp only [Act.put, List.setIfInBounds_toArray, List.set_cons_zero, List.set_cons_succ]
        refine wpAnyH_take (i := 2) (oi := { dst := some 41, op := Op.load 3 (Operand.tmp 4), type := _, pos := _, after := _, guard := _ }) (v := .int .i64 x) rfl (by kernel_rfl) (by kernel_rfl) (by kernel_rfl) (fun _ _ _ h => h) (Or.inl ⟨by rfl, ?_⟩) hS ?_
        · intro wS hSw; obtain ⟨s0, s1, s2, s3, s4⟩ := hSw; go_simp
        try simp only [Act.put, List.setIfInBounds_toArray, List.set_cons_zero, List.set_cons_succ]
        refine wpAnyH_take (i := 3) (oi := { dst := some 42, op := Op.fieldAddr 28 (Operand.tmp 10) 1, type := _, pos := _, after := _, guard := _ }) (v := .pointer (some ⟨Bx, 1, none⟩)) rfl (by kernel_rfl) (by kernel_rfl) (by kernel_rfl) (fun _ _ _ h => h) (Or.inl ⟨by rfl, ?_⟩) hS ?_
        · intro wS hSw; obtain ⟨s0, s1, s2, s3, s4⟩ := hSw; go_simp
        try simp only [Act.put, List.setIfInBounds_toArray, List.set_cons_zero, List.set_cons_succ]
        refine wpAnyH_take (i := 4) (oi := { dst := some 43, op := Op.load 3 (Operand.tmp 42), type := _, pos := _, after := _, guard := _ }) (v := .int .i64 h.x) rfl (by kernel_rfl) (by kernel_rfl) (by kernel_rfl) (fun _ _ _ h => h) (Or.inl ⟨by rfl, ?_⟩) hS ?_
        · intro wS hSw; obtain ⟨s0, s1, s2, s3, s4⟩ := hSw; go_simp
        try simp only [Act.put, List.setIfInBounds_toArray, List.set_cons_zero, List.set_cons_succ]
        refine wpAnyH_take (i := 5) (oi := { dst := some 44, op := Op.binOp BinOp.sub 3 (Operand.tmp 41) (Operand.tmp 43) 3, type := _, pos := _, after := _, guard := _ }) (v := .int .i64 (x - h.x)) rfl (by kernel_rfl) (by kernel_rfl) (by kernel_rfl) (fun _ _ _ h => h) (Or.inl ⟨by rfl, ?_⟩) hS ?_
        · intro wS hSw; obtain ⟨s0, s1, s2, s3, s4⟩ := hSw; go_simp
        try simp only [Act.put, List.setIfInBounds_toArray, List.set_cons_zero, List.set_cons_succ]
        refine wpAnyH_take (i := 6) (oi := { dst := some 45, op := Op.load 3 (Operand.tmp 5), type := _, pos := _, after := _, guard := _ }) (v := .int .i64 y) rfl (by kernel_rfl) (by kernel_rfl) (by kernel_rfl) (fun _ _ _ h => h) (Or.inl ⟨by rfl, ?_⟩) hS ?_
        · intro wS hSw; obtain ⟨s0, s1, s2, s3, s4⟩ := hSw; go_simp
        try simp only [Act.put, List.setIfInBounds_toArray, List.set_cons_zero, List.set_cons_succ]
        refine wpAnyH_take (i := 7) (oi := { dst := some 46, op := Op.fieldAddr 28 (Operand.tmp 10) 2, type := _, pos := _, after := _, guard := _ }) (v := .pointer (some ⟨Bx, 2, none⟩)) rfl (by kernel_rfl) (by kernel_rfl) (by kernel_rfl) (fun _ _ _ h => h) (Or.inl ⟨by rfl, ?_⟩) hS ?_
        · intro wS hSw; obtain ⟨s0, s1, s2, s3, s4⟩ := hSw; go_simp
        try simp only [Act.put, List.setIfInBounds_toArray, List.set_cons_zero, List.set_cons_succ]
        refine wpAnyH_take (i := 8) (oi := { dst := some 47, op := Op.load 3 (Operand.tmp 46), type := _, pos := _, after := _, guard := _ }) (v := .int .i64 h.y) rfl (by kernel_rfl) (by kernel_rfl) (by kernel_rfl) (fun _ _ _ h => h) (Or.inl ⟨by rfl, ?_⟩) hS ?_
        · intro wS hSw; obtain ⟨s0, s1, s2, s3, s4⟩ := hSw; go_simp
        try simp only [Act.put, List.setIfInBounds_toArray, List.set_cons_zero, List.set_cons_succ]
        refine wpAnyH_take (i := 9) (oi := { dst := some 48, op := Op.binOp BinOp.sub 3 (Operand.tmp 45) (Operand.tmp 47) 3, type := _, pos := _, after := _, guard := _ }) (v := .int .i64 (y - h.y)) rfl (by kernel_rfl) (by kernel_rfl) (by kernel_rfl) (fun _ _ _ h => h) (Or.inl ⟨by rfl, ?_⟩) hS ?_
        · intro wS hSw; obtain ⟨s0, s1, s2, s3, s4⟩ := hSw; go_simp
        try simp only [Act.put, List.setIfInBounds_toArray, List.set_cons_zero, List.set_cons_succ]
        refine wpAnyH_ready (rs := [10]) (by kernel_rfl) (by simp) (AllReadyH.cons (o := { dst := none, op := Op.store 3 (Operand.tmp 6) (Operand.tmp 40), type := _, pos := _, after := _, guard := _ }) rfl (fun K hK => ?_) AllReadyH.nil)
        go_simp
        refine hK.out _ _ (hn1 _ (w.heap.size + 1 + 1) (by omega) _ hS) (fun hS2 => ?_)
        clear hK K
        refine wpAnyH_ready (rs := [11]) (by kernel_rfl) (by simp) (AllReadyH.cons (o := { dst := none, op := Op.store 3 (Operand.tmp 7) (Operand.tmp 44), type := _, pos := _, after := _, guard := _ }) rfl (fun K hK => ?_) AllReadyH.nil)
        go_simp
        refine hK.out _ _ (hn1 _ (w.heap.size + 1 + 1 + 1) (by omega) _ hS2) (fun hS2 => ?_)
        clear hK K
        refine wpAnyH_ready (rs := [12]) (by kernel_rfl) (by simp) (AllReadyH.cons (o := { dst := none, op := Op.store 3 (Operand.tmp 8) (Operand.tmp 48), type := _, pos := _, after := _, guard := _ }) rfl (fun K hK => ?_) AllReadyH.nil)
        go_simp
        refine hK.out _ _ (hn1 _ (w.heap.size + 1 + 1 + 1 + 1) (by omega) _ (by assumption)) (fun hS2 => ?_)
        clear hK K
        refine wpAnyH_done (by kernel_rfl) (noOut_normal ?_) _
        have hbx5 : AtBox w.heap.size x y h.s (x - h.x) (y - h.y) _ := hbx3.store3 h.s (x - h.x) (y - h.y)
        have hB5 : Below w.heap.size w _ := below_drewN ((((hB.trans (hb4.mono hsW)).setCell (p := ⟨w.heap.size + 1 + 1, 0, none⟩) (by simp; omega) (.int .i64 h.s)).setCell (p := ⟨w.heap.size + 1 + 1 + 1, 0, none⟩) (by simp; omega) (.int .i64 (x - h.x))).setCell (p := ⟨w.heap.size + 1 + 1 + 1 + 1, 0, none⟩) (by simp; omega) (.int .i64 (y - h.y))) 1
        have hK5 : KeepsFrom W0.heap.size W _ := (KeepsFrom.of_below hb4).trans (((((KeepsOthers.setCell w3 ⟨w.heap.size + 1 + 1, 0, none⟩ (.int .i64 h.s)).trans (KeepsOthers.setCell _ ⟨w.heap.size + 1 + 1 + 1, 0, none⟩ (.int .i64 (x - h.x)))).trans (KeepsOthers.setCell _ ⟨w.heap.size + 1 + 1 + 1 + 1, 0, none⟩ (.int .i64 (y - h.y)))).trans (KeepsOthers.drew _)).from _)
        have hs5 := hK5.size
        replace hbx5 := hide hbx5
        replace hB5 := hide hB5
        replace hK5 := hide hK5
        gi_wp2
        exact ⟨hK5.out, rfl, pre, k, rfl, hp, by rw [← hh.out]; exact hitD, by rw [← hh.out]; exact hbx5.out.below (below_drewN (Below.refl _ _) 1), hB5.out, by omega⟩
  case done =>
    rintro D ys W hD hys ⟨hbx, hB, hp, hsz⟩ hK
    have ca := hbx.a.cell
    have cb := hbx.b.cell
    have cc := hbx.c.cell
    have fa := hbx.a.frozen
    have fb := hbx.b.frozen
    have fc := hbx.c.frozen
    have hno : atH L x y = (0, 0, 0) := at_none fun j hj => by
      rw [← hnn.out] at hj
      have hm : j ∈ downTo n n := by
        unfold downTo
        exact List.mem_map.2 ⟨n - 1 - j, List.mem_range.2 (by omega), by omega⟩
      rw [← hys] at hm
      obtain ⟨k, hk, rfl⟩ := List.mem_map.1 hm
      exact hp k hk
    have hbx5 := hbx.store3 0 0 0
    have hB5 : Below w.heap.size w _ := (((hB.setCell (p := ⟨w.heap.size + 1 + 1, 0, none⟩) (by simp; omega) (.int .i64 0)).setCell (p := ⟨w.heap.size + 1 + 1 + 1, 0, none⟩) (by simp; omega) (.int .i64 0)).setCell (p := ⟨w.heap.size + 1 + 1 + 1 + 1, 0, none⟩) (by simp; omega) (.int .i64 0))
    have hK5 := (((KeepsOthers.setCell W ⟨w.heap.size + 1 + 1, 0, none⟩ (.int .i64 0)).trans (KeepsOthers.setCell _ ⟨w.heap.size + 1 + 1 + 1, 0, none⟩ (.int .i64 0))).trans (KeepsOthers.setCell _ ⟨w.heap.size + 1 + 1 + 1 + 1, 0, none⟩ (.int .i64 0))).same D _ hK rfl
    replace hno := hide hno
    replace hbx5 := hide hbx5
    replace hB5 := hide hB5
    replace hK5 := hide hK5
    clear hys hp
    gi_wp2
    refine ⟨by simp, .inl ⟨_, _, rfl, run_takeDeferred hK5.out, ?_⟩⟩
    have c5 := cell_kept hbx5.out.a.cell (grownBy_putObj' _ D (.deferred none)) (fun r e => by cases e; exact ⟨_, hK5.out, rfl⟩)
    have c6 := cell_kept hbx5.out.b.cell (grownBy_putObj' _ D (.deferred none)) (fun r e => by cases e; exact ⟨_, hK5.out, rfl⟩)
    have c7 := cell_kept hbx5.out.c.cell (grownBy_putObj' _ D (.deferred none)) (fun r e => by cases e; exact ⟨_, hK5.out, rfl⟩)
    refine ⟨.tuple #[.int .i64 0, .int .i64 0, .int .i64 0], ?_, by rw [hno.out], hB5.out.trans (belowK_b (w := w) (Nat.le_refl _) _ D _ _ (by omega) hK5.out rfl rfl)⟩
    simp [results, Try.f8, go_sem, c5, c6, c7]
  case stop =>
    rintro D cd pre W hD ⟨m, hm, hpre⟩ ⟨rfl, ini, last, rfl, hini, hlast, hbx, hB, hsz⟩ hK
    have hat : atH L x y = ((L.getD last.1 default).s, x - (L.getD last.1 default).x, y - (L.getD last.1 default).y) := by
      obtain ⟨m', rfl⟩ : ∃ m', m = m' + 1 := by
        cases m with
        | zero => simp [downTo] at hpre
        | succ m' => exact ⟨m', rfl⟩
      rw [downTo_succ, List.map_append, List.map_cons, List.map_nil] at hpre
      obtain ⟨e1, e2⟩ := List.append_inj' hpre rfl
      have e3 : last.1 = n - 1 - m' := by simpa using e2
      refine at_some (by rw [← hnn.out]; exact last.2) hlast fun j hj1 hj2 => ?_
      rw [← hnn.out] at hj2
      have hmem : j ∈ downTo n m' := by
        unfold downTo
        exact List.mem_map.2 ⟨n - 1 - j, List.mem_range.2 (by omega), by omega⟩
      rw [← e1] at hmem
      obtain ⟨k, hk, rfl⟩ := List.mem_map.1 hmem
      exact hini k hk
    generalize (L.getD last.1 default).s = v1 at hbx hat
    generalize x - (L.getD last.1 default).x = v2 at hbx hat
    generalize y - (L.getD last.1 default).y = v3 at hbx hat
    replace hat := hide hat
    clear hpre hini hlast
    gi_wp2
    refine ⟨by simp, .inl ⟨_, _, rfl, run_takeDeferred hK, ?_⟩⟩
    have c5 := cell_kept hbx.a.cell (grownBy_putObj' _ D (.deferred none)) (fun r e => by cases e; exact ⟨_, hK, rfl⟩)
    have c6 := cell_kept hbx.b.cell (grownBy_putObj' _ D (.deferred none)) (fun r e => by cases e; exact ⟨_, hK, rfl⟩)
    have c7 := cell_kept hbx.c.cell (grownBy_putObj' _ D (.deferred none)) (fun r e => by cases e; exact ⟨_, hK, rfl⟩)
    refine ⟨.tuple #[.int .i64 v1, .int .i64 v2, .int .i64 v3], ?_, by rw [hat.out], hB.trans (belowK_b (w := w) (Nat.le_refl _) _ D _ _ (by omega) hK rfl rfl)⟩
    simp [results, Try.f8, go_sem, c5, c6, c7]
end Go.Proofs.Ytfekldcpjoiipaa
