/-
  Rows: a part of one, append of any row; tableaulaw00.Ints (for seats without the shelf's slices).
-/
import Derived.Test.YthkjicnnepkghaaDoorBase
import Derived.Test.YthkjicnnepkghaaDoorProg
import Derived.Laws.AppendOwnNone
namespace Go.Proofs.YthkjicnnepkghaaDoor
open Go.RowKit

theorem Tryd.infoIntA : (Tryd.prog.info? 3).map (fun i => (i.zero, i.size, i.bytes)) = some (some (.int .i64 0), 1, 8) := by kernel_rfl

theorem Rd.take {w : World} {A : Option Addr} {n c sz : Nat} {cs : List Value} (h : Rd w (.slice A n c) sz n cs) (m : Nat) (hm : m ≤ n) : Rd w (.slice A m c) sz m (cs.take (m * sz)) := by
  obtain ⟨h1, A', c', hv, hc, h2⟩ := h
  simp only [Value.slice.injEq] at hv
  obtain ⟨rfl, _, rfl⟩ := hv
  have h3 : m * sz ≤ n * sz := Nat.mul_le_mul_right _ hm
  refine ⟨by simp; omega, A, c, rfl, by omega, fun h0 => ?_⟩
  obtain ⟨b, off, rfl, hb, hcell⟩ := h2 (by omega)
  refine ⟨b, off, rfl, hb, fun j u hj => hcell j u ?_⟩
  rw [List.getElem?_take] at hj
  split at hj
  · exact hj
  · cases hj

theorem Rd.drop {w : World} {b off : Nat} {n c sz : Nat} {cs : List Value} (h : Rd w (.slice (some ⟨b, off, none⟩) n c) sz n cs) (m : Nat) (hm : m ≤ n) : Rd w (.slice (some ⟨b, off + m * sz, none⟩) (n - m) (c - m)) sz (n - m) (cs.drop (m * sz)) := by
  obtain ⟨h1, A', c', hv, hc, h2⟩ := h
  simp only [Value.slice.injEq] at hv
  obtain ⟨rfl, _, rfl⟩ := hv
  refine ⟨by simp [h1, Nat.sub_mul], _, c - m, rfl, by omega, fun h0 => ?_⟩
  obtain ⟨b', off', hh, hb, hcell⟩ := h2 (by omega)
  simp only [Option.some.injEq, Addr.mk.injEq, and_true] at hh
  obtain ⟨rfl, rfl⟩ := hh
  refine ⟨b, off + m * sz, rfl, hb, fun j u hj => ?_⟩
  rw [Nat.add_assoc]
  exact hcell _ u (by rwa [List.getElem?_drop] at hj)

/-- append(v, x...): v our own, x any row. -/
theorem wpList_append_rd {P : Program} {w : World} {ops : Array Oper} {rest : List Oper} {o : Oper} {a : Act} {Q : Exit → Act → World → Prop} (hgd : o.guard = none) (s x : Operand) (t : TypeId)
    (ho : o.op = .call { callee := .builtin .append, args := #[s, x], argTypes := #[t, t] })
    (base : Nat) (e : TypeId) (i : TypeInfo) (z : Value) (size bytes : Nat) (ht : P.underlying t = some (.slice e)) (hi : P.info? e = some i) (hz : i.zero = some z)
    (hsize : i.size = size) (hby : i.bytes = bytes) (hzs : z.cells.size = size) (hsz : 0 < size)
    (v : Value) (n : Nat) (xs : List Value) (hs : a.eval s = v) (hown : w.ownsRow base e size v n xs)
    (A : Option Addr) (m c : Nat) (news : List Value) (hx : a.eval x = .slice A m c) (hr : Rd w (.slice A m c) size m news) (h1 : ∀ u ∈ news, u.oneCell' = true)
    (h63 : n + m ≤ maxLen) (hbytes : (n + m) * bytes ≤ 140737488355328) (hbase : base ≤ w.heap.size)
    (h : ∀ v' w', w'.ownsRow base e size v' (n + m) (xs ++ news) → w.grownBy w' v.ownBlock → wpList P ops Q rest (a.put o.dst v') w') : wpList P ops Q (o :: rest) a w := by
  obtain ⟨h1', A', c', hv, hc, h2⟩ := hr
  simp only [Value.slice.injEq] at hv
  obtain ⟨rfl, _, rfl⟩ := hv
  cases A with
  | some ad =>
    refine wpList_append_own w hgd s x t ho base e i z size bytes ht hi hz hsize hby hzs hsz v n xs hs hown ad m c news hx h1' (fun j u hj => ?_) h1 h63 hbytes hbase fun v' w' a1 a2 _ => h v' w' a1 a2
    by_cases hm : 0 < m
    · obtain ⟨b, off, hb, _, hc2⟩ := h2 hm
      simp only [Option.some.injEq] at hb
      subst hb
      rw [addr_add]; exact hc2 j u hj
    · obtain rfl : m = 0 := by omega
      simp at h1'; subst h1'; simp at hj
  | none =>
    have hm : m = 0 := by
      rcases Nat.eq_zero_or_pos m with h | h
      · exact h
      · obtain ⟨b, off, hb, _⟩ := h2 h; cases hb
    subst hm
    obtain rfl : news = [] := by simpa using h1'
    refine wpList_plain hgd fun K hK => ?_
    have hrun : (Builtin.append_ #[t, t] o.type #[v, .slice none 0 c]).run P w = .ok v w := by
      rcases hown.2 with ⟨rfl, rfl⟩ | ⟨g, cap, cur, rfl, _, _, hnc, _⟩
      · simp [Builtin.append_, run_underlying ht, sizeOf, typeInfo, hi, Builtin.lenOf, Builtin.firstCells]
      · simp [Builtin.append_, run_underlying ht, sizeOf, typeInfo, hi, Builtin.lenOf, Builtin.firstCells, hnc, storeCells]
    unfold Oper.wp
    simp [execOp, ho, resolve, invoke, builtin, hs, hx, hrun, Result.andThen]
    exact hK _ _ (h v w (by simpa using hown) ⟨rfl, rfl, rfl, Nat.le_refl _, fun _ _ _ => rfl⟩)

end Go.Proofs.YthkjicnnepkghaaDoor
