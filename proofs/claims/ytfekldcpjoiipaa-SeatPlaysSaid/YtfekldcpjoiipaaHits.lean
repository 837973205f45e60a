/-
  Lists of surfaces that the pointer may be on, in memory; slices.Backward over them.
-/
import Derived.Test.YtfekldcpjoiipaaTakes
import Derived.RangeFuncNested
import Derived.RangeFuncBound
import Derived.RangeFuncCalls
import Derived.RangeFuncLeaves
import Derived.Shelf.Abstract
import Derived.OwnWalkIn
import Derived.TacticsInMore
import Derived.LoopNIn
import Derived.LoopIn
namespace Go.Proofs.Ytfekldcpjoiipaa
open Go.RowKit Go.Shelf
set_option linter.unusedVariables false
attribute [local go_sem] Oper.semAt_some

structure RdH (w : World) (v : Value) (L : List Hit) : Prop where
  row : Rd w v 7 L.length (L.flatMap Hit.enc)
  reg : ∀ h ∈ L, RdR w h.reg h.rects
theorem RdH.below {B : Nat} {w w' : World} {v : Value} {L : List Hit} (h : RdH w v L) (hb : Below B w w') (hB : w.heap.size ≤ B) : RdH w' v L :=
  ⟨h.row.below hb hB, fun x hx => Rd.below (h.reg x hx) hb hB⟩
theorem RdH.form {w : World} {v : Value} {L : List Hit} (h : RdH w v L) : ∃ A c, v = .slice A L.length c ∧ L.length ≤ c := by
  obtain ⟨_, A, c, rfl, hc, _⟩ := h.row
  exact ⟨A, c, rfl, hc⟩
theorem hit_row {L : List Hit} {k : Nat} (hk : k < L.length) (j : Nat) (hj : j < 7) : (L.flatMap Hit.enc)[k * 7 + j]? = ((L.getD k default).enc)[j]? := by
  induction L generalizing k with
  | nil => simp at hk
  | cons r L ih =>
    rw [List.flatMap_cons]
    have hr : r.enc.length = 7 := rfl
    cases k with
    | zero =>
      rw [List.getElem?_append_left (by rw [hr]; omega)]
      simp
    | succ k =>
      rw [List.getElem?_append_right (by rw [hr]; omega), hr, show (k + 1) * 7 + j - 7 = k * 7 + j by omega, ih (by simpa using hk)]
      simp
/-- One surface's cells. -/
structure HitCells (w : World) (b o : Nat) (h : Hit) : Prop where
  c0 : w.cell? ⟨b, o, none⟩ = some (.int .i64 h.s)
  c1 : w.cell? ⟨b, o + 1, none⟩ = some (.int .i64 h.x)
  c2 : w.cell? ⟨b, o + 2, none⟩ = some (.int .i64 h.y)
  c3 : w.cell? ⟨b, o + 3, none⟩ = some (.int .i64 h.w)
  c4 : w.cell? ⟨b, o + 4, none⟩ = some (.int .i64 h.h)
  c5 : w.cell? ⟨b, o + 5, none⟩ = some (.bool h.all)
  c6 : w.cell? ⟨b, o + 6, none⟩ = some h.reg
theorem HitCells.below {B : Nat} {w w' : World} {b o : Nat} {h : Hit} (c : HitCells w b o h) (hb : Below B w w') (hB : b < B) : HitCells w' b o h :=
  ⟨(hb.cell (p := ⟨b, o, none⟩) hB).trans c.c0, (hb.cell (p := ⟨b, o + 1, none⟩) hB).trans c.c1, (hb.cell (p := ⟨b, o + 2, none⟩) hB).trans c.c2, (hb.cell (p := ⟨b, o + 3, none⟩) hB).trans c.c3,
    (hb.cell (p := ⟨b, o + 4, none⟩) hB).trans c.c4, (hb.cell (p := ⟨b, o + 5, none⟩) hB).trans c.c5, (hb.cell (p := ⟨b, o + 6, none⟩) hB).trans c.c6⟩
theorem RdH.cells {w : World} {A : Option Addr} {c n : Nat} {L : List Hit} (h : Rd w (.slice A n c) 7 n (L.flatMap Hit.enc)) (hn : n = L.length) (h0 : 0 < n) :
    ∃ b off, A = some ⟨b, off, none⟩ ∧ b < w.heap.size ∧ ∀ k, k < n → HitCells w b (off + k * 7) (L.getD k default) := by
  obtain ⟨h1, A', c', hv, hc, h2⟩ := h
  simp only [Value.slice.injEq] at hv
  obtain ⟨rfl, _, rfl⟩ := hv
  obtain ⟨b, off, rfl, hb, hcell⟩ := h2 h0
  refine ⟨b, off, rfl, hb, fun k hk => ?_⟩
  have H := fun j hj u (e : ((L.getD k default).enc)[j]? = some u) => hcell (k * 7 + j) u (by rw [hit_row (by omega) j hj]; exact e)
  exact ⟨H 0 (by decide) _ rfl, by rw [show off + k * 7 + 1 = off + (k * 7 + 1) by omega]; exact H 1 (by decide) _ rfl,
    by rw [show off + k * 7 + 2 = off + (k * 7 + 2) by omega]; exact H 2 (by decide) _ rfl, by rw [show off + k * 7 + 3 = off + (k * 7 + 3) by omega]; exact H 3 (by decide) _ rfl,
    by rw [show off + k * 7 + 4 = off + (k * 7 + 4) by omega]; exact H 4 (by decide) _ rfl, by rw [show off + k * 7 + 5 = off + (k * 7 + 5) by omega]; exact H 5 (by decide) _ rfl,
    by rw [show off + k * 7 + 6 = off + (k * 7 + 6) by omega]; exact H 6 (by decide) _ rfl⟩

/-- The first m of n numbers, from the last one down. -/
def downTo (n m : Nat) : List Nat := (List.range m).map fun j => n - 1 - j
theorem downTo_succ (n m : Nat) : downTo n (m + 1) = downTo n m ++ [n - 1 - m] := by simp [downTo, List.range_succ]
theorem downTo_length (n m : Nat) : (downTo n m).length = m := by simp [downTo]

abbrev Below' (n : Nat) := { k : Nat // k < n }

set_option maxRecDepth 100000 in
set_option maxHeartbeats 2000000 in
theorem back1_in (F : Fence) (n : Nat) (h35 : F.fn 35) (hro : F.round = none) (hn : 1 ≤ n) (l Bs n₀ : Nat) (L : List Hit) (A : Option Addr) (len cap : Nat) (hlen : len = L.length) (hbig : len ≤ 1000000)
    (J Jx : List (Below' len) → World → Prop)
    (hY : ∀ pre x W, J pre W → pre.length < len → YieldAt F (n - 1) Try.prog l #[.int .i64 (x.1 : Int), (L.getD x.1 default).val] W fun e W' =>
      (e = .returned (.bool true) ∧ J (pre ++ [x]) W' ∧ Below n₀ W W') ∨ (e = .returned (.bool false) ∧ Jx (pre ++ [x]) W'))
    (W : World) (hBs : W.cell? ⟨Bs, 0, none⟩ = some (.slice A len cap)) (hBn : Bs < n₀) (hc : 0 < len → ∃ b off, A = some ⟨b, off, none⟩ ∧ b < n₀ ∧ ∀ k, k < len → HitCells W b (off + k * 7) (L.getD k default)) (h0 : J [] W) :
    CallsIn F n Try.prog 35 #[.func (.yield l) #[] #[], .pointer (some ⟨Bs, 0, none⟩)] W fun e W' => (∃ v, e = .returned v) ∧
      ((∃ ys : List (Below' len), ys.map (·.1) = downTo len len ∧ J ys W') ∨ (∃ pre : List (Below' len), (∃ k, k ≤ len ∧ pre.map (·.1) = downTo len k) ∧ Jx pre W')) := by
  replace hlen := hide hlen
  replace hc := hide hc
  refine callsIn_of_wp Try.func35 rfl h35 ?_ hro
  simp only [Try.ntmps35, List.size_toArray, List.length_cons, List.length_nil, Nat.reduceAdd, Nat.reduceSub, Array.replicate_succ, Array.replicate_zero, List.push_toArray, List.append_toArray, List.nil_append, List.cons_append]
  gi_wp2
  gi_loopw [3] (fun i wr => ∃ (r : Nat) (pre : List (Below' len)), r ≤ len ∧ i = .int .i64 ((r : Int) - 1) ∧ Hid (pre.map (·.1) = downTo len (len - r)) ∧ J pre wr ∧ Below n₀ W wr)
    (fun i _ => (intOf i + 1).toNat)
  case atStart => exact ⟨len, [], Nat.le_refl _, rfl, hide (by simp [downTo]), h0, Below.refl _ _⟩
  case round =>
    obtain ⟨r, pre, hr, rfl, hp, hJs, hnx⟩ := hrel
    rcases r with _ | q
    · gi_wp2
      go_end0
      exact ⟨⟨_, rfl⟩, .inl ⟨pre, hp.out, hJs⟩⟩
    · obtain ⟨b, off, rfl, hb, hcell⟩ := hc.out (by omega)
      have hcs := (hcell q (by omega)).below hnx hb
      have hBs2 := (hnx.cell (p := ⟨Bs, 0, none⟩) hBn).trans hBs
      have hpl : pre.length < len := by
        have h1 := congrArg List.length hp.out
        rw [List.length_map, downTo_length] at h1
        omega
      obtain ⟨fn, tmps, assign, body, hy, hR⟩ := hY pre ⟨q, by omega⟩ wr hJs hpl
      have e1 : ((q + 1 : Nat) : Int) - 1 = (q : Int) := by omega
      rw [e1]
      obtain ⟨k0, k1, k2, k3, k4, k5, k6⟩ := hcs
      obtain ⟨x, hx⟩ : ∃ x, x = L.getD q default := ⟨_, rfl⟩
      rw [← hx] at hy k0 k1 k2 k3 k4 k5 k6
      unfold Hit.val at hy
      dsimp only at hy
      have hp2 : Hid ((pre ++ [(⟨q, by omega⟩ : Below' len)]).map (·.1) = downTo len (len - q)) := hide (by
        rw [List.map_append, hp.out, show len - q = len - (q + 1) + 1 by omega, downTo_succ, List.map_cons, List.map_nil, show len - 1 - (len - (q + 1)) = q by omega])
      have hqq : q < len := by omega
      clear hcell hx e1 hp
      gi_wp2
      refine hR.mono ?_
      rintro e W3 (⟨rfl, hJ3, hk3⟩ | ⟨rfl, hJx3⟩)
      · gi_wp2
        go_roundw
        case rel => exact ⟨q, _, by omega, rfl, hp2, hJ3, hnx.trans hk3⟩
        case measure => (simp [intOf] <;> omega)
      · gi_wp2
        refine bodyPost_ret (results_none rfl _ _ _) rfl ?_
        exact ⟨⟨_, rfl⟩, .inr ⟨_, ⟨len - q, by omega, hp2.out⟩, hJx3⟩⟩

set_option maxHeartbeats 1000000 in
theorem backw_in (F : Fence) (n : Nat) (h25 : F.fn 25) (hro : F.round = none) (a : Option Addr) (len cap : Nat) (w : World) :
    CallsIn F n Try.prog 25 #[.slice a len cap] w fun e w' => e = .returned (.func (.func 35) #[] #[.pointer (some ⟨w.heap.size, 0, none⟩)]) ∧ w' = w.alloc (.cells #[.slice a len cap] 23) := by
  refine callsIn_of_wp Try.func25 rfl h25 ?_ hro
  simp only [Try.ntmps25, List.size_toArray, List.length_cons, List.length_nil, Nat.reduceAdd, Nat.reduceSub, Array.replicate_succ, Array.replicate_zero, List.push_toArray, List.append_toArray, List.nil_append, List.cons_append]
  gi_wp2
  go_ret
  exact ⟨rfl, rfl⟩

theorem back_stops (F : Fence) (n : Nat) (h35 : F.fn 35) (hro : F.round = none) (hn : 1 ≤ n) (Bs n₀ : Nat) (L : List Hit) (A : Option Addr) (len cap : Nat) (hlen : len = L.length) (hbig : len ≤ 1000000)
    (w : World) (hBs : Bs < w.heap.size) (hBn : Bs < n₀) (hn₀ : n₀ ≤ w.heap.size) (hcell : w.cell? ⟨Bs, 0, none⟩ = some (.slice A len cap))
    (hc : 0 < len → ∃ b off, A = some ⟨b, off, none⟩ ∧ b < n₀ ∧ ∀ k, k < len → HitCells w b (off + k * 7) (L.getD k default)) :
    SeqStopsK F n Try.prog 35 #[.pointer (some ⟨Bs, 0, none⟩)] (fun x : Below' len => #[Value.int .i64 (x.1 : Int), (L.getD x.1 default).val]) (Below n₀) (fun ys => ys.map (·.1) = downTo len len)
      (fun pre => ∃ k, k ≤ len ∧ pre.map (·.1) = downTo len k) len w := fun l J Jx W hW _ _ hY h0 =>
  back1_in F n h35 hro hn l Bs n₀ L A len cap hlen hbig J Jx hY W ((hW.cell (p := ⟨Bs, 0, none⟩) hBs).trans hcell) hBn
    (fun h => let ⟨b, off, e, hb, hk⟩ := hc h; ⟨b, off, e, hb, fun k h2 => (hk k h2).below hW (by omega)⟩) h0
end Go.Proofs.Ytfekldcpjoiipaa
