/-
  Maps keyed by int, of any elements: what they hold, as a function of the key. Steps for the walk.
-/
import Derived.Test.YthkjicnnepkghaaDoorBase
import Derived.Maps.OwnOps
import Derived.Maps.OwnSet
namespace Go.Proofs.YthkjicnnepkghaaDoor
open Go.RowKit Go.Maps

/-- An element reads as itself. -/
def heldR : Value → Option (DataW Value × List MemPlace) := fun v => some (.held v, [])

/-- Block b is a map of at most n entries that holds M. -/
def MapAt (P : Program) (k : TypeId) (w : World) (b n : Nat) (M : Int → Option Value) : Prop :=
  ∃ D : DataW Value, w.ownsMap P k heldR b n D ∧ ∀ j, I64 j → Maps.has D (.int .i64 j) = (M j).isSome ∧ ∀ z, D.atKey (.int .i64 j) (.held z) = .held ((M j).getD z)

section
variable {P : Program} {k e t : TypeId} {w w' : World} {b n : Nat} {M : Int → Option Value}

theorem wf_of_i64 {x : Int} (h : I64 x) : (Lit.int .i64 x).wf = true := by
  have h1 : IntKind.i64.min = -9223372036854775808 := by decide
  have h2 : IntKind.i64.max = 9223372036854775807 := by decide
  unfold I64 at h
  simp only [Lit.wf, h1, h2, Bool.and_eq_true, decide_eq_true_eq]
  exact h

theorem MapAt.made (w : World) (P : Program) (k : TypeId) : MapAt P k (w.alloc (.map #[] 0)) w.heap.size 0 (fun _ => none) :=
  ⟨.map [], World.ownsMap_made _ _ _ _, fun _ _ => ⟨rfl, fun _ => rfl⟩⟩

theorem MapAt.kept {row : Option Nat} (h : MapAt P k w b n M) (hg : w.grownBy w' row) (hne : some b ≠ row) : MapAt P k w' b n M := by
  obtain ⟨D, h1, h2⟩ := h
  exact ⟨D, h1.kept hg hne, h2⟩

theorem MapAt.block (h : MapAt P k w b n M) (hb : w'.heap[b]? = w.heap[b]?) : MapAt P k w' b n M := by
  obtain ⟨D, ⟨es, clock, h1, h2, h3, h4⟩, h5⟩ := h
  exact ⟨D, ⟨es, clock, hb.trans h1, h2, h3, h4⟩, h5⟩

theorem MapAt.isMapBlock (h : MapAt P k w b n M) : ∃ es c, w.heap[b]? = some (.map es c) := by
  obtain ⟨D, ⟨es, clock, h1, _⟩, _⟩ := h
  exact ⟨es, clock, h1⟩

theorem MapAt.lt (h : MapAt P k w b n M) : b < w.heap.size := by
  obtain ⟨D, h1, _⟩ := h
  exact h1.lt

theorem MapAt.mono {n' : Nat} (h : MapAt P k w b n M) (hn : n ≤ n') : MapAt P k w b n' M := by
  obtain ⟨D, h1, h2⟩ := h
  exact ⟨D, h1.mono hn, h2⟩

theorem MapAt.congr {M' : Int → Option Value} (h : MapAt P k w b n M) (he : ∀ j, I64 j → M' j = M j) : MapAt P k w b n M' := by
  obtain ⟨D, h1, h2⟩ := h
  exact ⟨D, h1, fun j hj => by rw [he j hj]; exact h2 j hj⟩

/-- 'm[j]'. -/
theorem MapAt.look (h : MapAt P k w b n M) (hk : P.underlying k = some (.int .i64)) (ht : P.underlying t = some (.map k e)) {z : Value} (hz : (zeroValue e).run P w = .ok z w) {j : Int} (hj : I64 j) :
    (Instr.lookup t (.map (some b)) (.int .i64 j) false).run P w = .ok ((M j).getD z) w := by
  obtain ⟨D, h1, h2⟩ := h
  obtain ⟨v, ps, hrun, hv⟩ := h1.lookup (int_keyed hk) ht hz (zd := .held z) (zp := []) rfl (keyOf_int_mk hk (wf_of_i64 hj))
  rw [(h2 j hj).2 z] at hv
  simp only [heldR, Option.some.injEq, Prod.mk.injEq, DataW.held.injEq] at hv
  rw [hrun, hv.1]

/-- 'v, ok := m[j]'. -/
theorem MapAt.lookOk (h : MapAt P k w b n M) (hk : P.underlying k = some (.int .i64)) (ht : P.underlying t = some (.map k e)) {z : Value} (hz : (zeroValue e).run P w = .ok z w) {j : Int} (hj : I64 j) :
    (Instr.lookup t (.map (some b)) (.int .i64 j) true).run P w = .ok (.tuple #[(M j).getD z, .bool (M j).isSome]) w := by
  obtain ⟨D, h1, h2⟩ := h
  obtain ⟨v, ps, hrun, hv⟩ := h1.look_ok (int_keyed hk) ht hz (zd := .held z) (zp := []) rfl (keyOf_int_mk hk (wf_of_i64 hj))
  rw [(h2 j hj).2 z] at hv
  simp only [heldR, Option.some.injEq, Prod.mk.injEq, DataW.held.injEq] at hv
  rw [hrun, hv.1, (h2 j hj).1]

theorem int_ne {i j : Int} (h : i ≠ j) : Lit.int .i64 i ≠ Lit.int .i64 j := fun e => h (by simpa using e)

/-- What a map holds behind a store. -/
def putM (M : Int → Option Value) (j : Int) (v : Value) : Int → Option Value := fun i => if i = j then some v else M i
def delM (M : Int → Option Value) (j : Int) : Int → Option Value := fun i => if i = j then none else M i

theorem MapAt.ofPut {D : DataW Value} {j : Int} {v : Value} (h1 : w.ownsMap P k heldR b n D) (h2 : ∀ j, I64 j → Maps.has D (.int .i64 j) = (M j).isSome ∧ ∀ z, D.atKey (.int .i64 j) (.held z) = .held ((M j).getD z))
    (h : w'.ownsMap P k heldR b (n + 1) (D.put (.int .i64 j) (.held v))) : MapAt P k w' b (n + 1) (putM M j v) := by
  refine ⟨_, h, fun i hi => ?_⟩
  unfold putM
  by_cases e : i = j
  · subst e
    rw [if_pos rfl]
    exact ⟨Maps.has_put_same h1.isMap (show WideAt.IsKeyLit (.int .i64 i) from trivial) _, fun z => Maps.atKey_put_same h1.isMap (show WideAt.IsKeyLit (.int .i64 i) from trivial) _ _⟩
  · rw [if_neg e, Maps.has_put_other (int_ne e)]
    exact ⟨(h2 i hi).1, fun z => by rw [Maps.atKey_put_other (int_ne e)]; exact (h2 i hi).2 z⟩

/-- 'm[j] = v', as a run's equation. -/
theorem MapAt.putRun (h : MapAt P k w b n M) (hk : P.underlying k = some (.int .i64)) (ht : P.underlying t = some (.map k e)) (hn : n < maxLen) {j : Int} (hj : I64 j) (val : Value) :
    ∃ w', (Instr.mapUpdate t (.map (some b)) (.int .i64 j) val).run P w = .ok () w' ∧ MapAt P k w' b (n + 1) (putM M j val) ∧ w.grownBy w' (some b) := by
  obtain ⟨D, h1, h2⟩ := h
  obtain ⟨w', hrun, r1, r2⟩ := h1.update (int_keyed hk) ht hn (keyOf_int_mk hk (wf_of_i64 hj)) (d := .held val) (ps := []) (val := val) rfl
  exact ⟨w', hrun, MapAt.ofPut h1 h2 r1, r2⟩

/-- 'm[j] = v' at the operation: behind it 'intro w1 hm1 hg1'. -/
theorem wpList_put {ops : Array Oper} {rest : List Oper} {o : Oper} {a : Act} {Q : Exit → Act → World → Prop}
    (hg : o.guard = none) (m x v : Operand) (t : TypeId) (hop : o.op = Op.mapUpdate t m x v)
    (k e : TypeId) (hk : P.underlying k = some (.int .i64)) (ht : P.underlying t = some (.map k e)) (b n : Nat) (M : Int → Option Value)
    (hm : a.eval m = .map (some b)) (hown : MapAt P k w b n M) (hn : n < maxLen) (j : Int) (val : Value) (hx : a.eval x = .int .i64 j) (hv : a.eval v = val) (hj : I64 j)
    (hK : ∀ w', MapAt P k w' b (n + 1) (putM M j val) → w.grownBy w' (some b) → wpList P ops Q rest (a.put o.dst undef) w') :
    wpList P ops Q (o :: rest) a w := by
  obtain ⟨D, h1, h2⟩ := hown
  exact wpList_mapUpdate_own w hg m x v t hop k e (int_keyed hk) ht heldR b n D hm h1 hn _ val _ hx hv (keyOf_int_mk hk (wf_of_i64 hj)) (.held val) [] rfl
    fun w' r1 r2 => hK w' (MapAt.ofPut h1 h2 r1) r2

/-- An entry of a map's literal: as 'm[j] = v'. -/
theorem wpList_ins {ops : Array Oper} {rest : List Oper} {o : Oper} {a : Act} {Q : Exit → Act → World → Prop}
    (hg : o.guard = none) (m x v : Operand) (t : TypeId) (hop : o.op = Op.insert t m x v)
    (k e : TypeId) (hk : P.underlying k = some (.int .i64)) (ht : P.underlying t = some (.map k e)) (b n : Nat) (M : Int → Option Value)
    (hm : a.eval m = .map (some b)) (hown : MapAt P k w b n M) (hn : n < maxLen) (j : Int) (val : Value) (hx : a.eval x = .int .i64 j) (hv : a.eval v = val) (hj : I64 j)
    (hK : ∀ w', MapAt P k w' b (n + 1) (putM M j val) → w.grownBy w' (some b) → wpList P ops Q rest (a.put o.dst undef) w') :
    wpList P ops Q (o :: rest) a w := by
  obtain ⟨D, h1, h2⟩ := hown
  refine wpList_plain hg fun K' hK' => ?_
  obtain ⟨w', hrun, r1, r2⟩ := h1.update (int_keyed hk) ht hn (keyOf_int_mk hk (wf_of_i64 hj)) (d := .held val) (ps := []) (val := val) rfl
  unfold Oper.wp
  simp [execOp, hop, hm, hx, hv, hrun, Result.andThen]
  exact hK' _ _ (hK w' (MapAt.ofPut h1 h2 r1) r2)

/-- 'delete(m, j)' at the operation: behind it 'intro w1 hm1 hg1'. -/
theorem wpList_del {ops : Array Oper} {rest : List Oper} {o : Oper} {a : Act} {Q : Exit → Act → World → Prop}
    (hg : o.guard = none) (m x : Operand) (t k : TypeId) (hop : o.op = Op.call { callee := Callee.builtin Builtin.delete, args := #[m, x], argTypes := #[t, k] })
    (e : TypeId) (hk : P.underlying k = some (.int .i64)) (ht : P.underlying t = some (.map k e)) (b n : Nat) (M : Int → Option Value)
    (hm : a.eval m = .map (some b)) (hown : MapAt P k w b n M) (j : Int) (hx : a.eval x = .int .i64 j) (hj : I64 j)
    (hK : ∀ w', MapAt P k w' b n (delM M j) → w.grownBy w' (some b) → wpList P ops Q rest (a.put o.dst (.tuple #[])) w') :
    wpList P ops Q (o :: rest) a w := by
  obtain ⟨D, h1, h2⟩ := hown
  refine wpList_delete_own w hg m x t k hop e (int_keyed hk) ht heldR b n D hm h1 _ _ hx (keyOf_int_mk hk (wf_of_i64 hj)) fun w' r1 r2 => hK w' ⟨_, r1, fun i hi => ?_⟩ r2.grown
  unfold delM
  by_cases e : i = j
  · subst e
    rw [if_pos rfl]
    exact ⟨Maps.has_del_same, fun z => Maps.atKey_del_same _⟩
  · rw [if_neg e, Maps.has_del_other (int_ne e)]
    exact ⟨(h2 i hi).1, fun z => by rw [Maps.atKey_del_other (int_ne e)]; exact (h2 i hi).2 z⟩
end
end Go.Proofs.YthkjicnnepkghaaDoor
