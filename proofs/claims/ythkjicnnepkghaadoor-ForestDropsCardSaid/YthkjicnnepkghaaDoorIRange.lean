/-
  A range over a map keyed by int, of any elements; a map cloned.
-/
import Derived.Test.YthkjicnnepkghaaDoorIMap
import Derived.Maps.RangeWalk
namespace Go.Proofs.YthkjicnnepkghaaDoor
open Go.RowKit Go.Maps

/-- Block b is a map of at most n entries that holds M; block r an iterator over it; L: who is still to come, cnt many. -/
def RangeAt (P : Program) (k : TypeId) (w : World) (b r n : Nat) (M : Int → Option Value) (L : Int → Bool) (cnt : Nat) : Prop :=
  ∃ (D : DataW Value) (left : Lit → Bool), w.ranges P k heldR b r n D left cnt ∧ (∀ j, I64 j → Maps.has D (.int .i64 j) = (M j).isSome ∧ ∀ z, D.atKey (.int .i64 j) (.held z) = .held ((M j).getD z)) ∧ ∀ j, I64 j → left (.int .i64 j) = L j

section
variable {P : Program} {k e t : TypeId} {w w' : World} {b r n cnt : Nat} {M : Int → Option Value} {L : Int → Bool}

theorem RangeAt.kept {row : Option Nat} (h : RangeAt P k w b r n M L cnt) (hg : w.grownBy w' row) (hb : some b ≠ row) (hr : some r ≠ row) : RangeAt P k w' b r n M L cnt := by
  obtain ⟨D, left, h1, h2⟩ := h
  exact ⟨D, left, h1.kept hg hb hr, h2⟩
theorem RangeAt.map (h : RangeAt P k w b r n M L cnt) : MapAt P k w b n M := by
  obtain ⟨D, left, h1, h2, _⟩ := h
  exact ⟨D, h1.owns, h2⟩
theorem RangeAt.left_eq (h : RangeAt P k w b r n M L cnt) : w.rangeLeft b r = cnt := by
  obtain ⟨D, left, h1, h2⟩ := h
  exact h1.left_eq
theorem RangeAt.lt (h : RangeAt P k w b r n M L cnt) : r < w.heap.size := by
  obtain ⟨D, left, h1, h2⟩ := h
  exact h1.lt

/-- A map's clone. -/
theorem MapAt.cloned {es : Array MapEntry} {c : Nat} (h : MapAt P k w b n M) (hb : w.heap[b]? = some (.map es c)) : MapAt P k (w.alloc (.map es c)) w.heap.size n M := by
  obtain ⟨D, ⟨es', clock, h1, h2, h3, h4⟩, h5⟩ := h
  rw [hb] at h1
  cases h1
  exact ⟨D, ⟨es, c, heap_alloc_new _ _, h2, h3, h4⟩, h5⟩

/-- 'range m' at the operation. -/
theorem wpList_rangeM {ops : Array Oper} {rest : List Oper} {o : Oper} {a : Act} {Q : Exit → Act → World → Prop}
    (hg : o.guard = none) (m : Operand) (t : TypeId) (hop : o.op = Op.range t m) (k e : TypeId) (hk : P.underlying k = some (.int .i64)) (ht : P.underlying t = some (.map k e)) (b n : Nat) (M : Int → Option Value)
    (hm : a.eval m = .map (some b)) (hown : MapAt P k w b n M)
    (hK : ∀ w' cnt, RangeAt P k w' b w.heap.size n M (fun x => (M x).isSome) cnt → w.grownBy w' none → w'.heap.size = w.heap.size + 1 → wpList P ops Q rest (a.put o.dst (.pointer (some ⟨w.heap.size, 0, none⟩))) w') :
    wpList P ops Q (o :: rest) a w := by
  obtain ⟨D, h1, h2⟩ := hown
  exact wpList_range_own w hg m t hop k e (int_keyed hk) ht heldR b n D hm h1 fun w' hr hg hs => hK w' _ ⟨D, _, hr, h2, fun j hj => (h2 j hj).1⟩ hg hs

/-- The step. -/
theorem wpList_nextM {ops : Array Oper} {rest : List Oper} {o : Oper} {a : Act} {Q : Exit → Act → World → Prop}
    (hg : o.guard = none) (it : Operand) (hop : o.op = Op.next it false) (k : TypeId) (hk : P.underlying k = some (.int .i64)) (b r n : Nat) (M : Int → Option Value) (L : Int → Bool) (cnt : Nat)
    (hit : a.eval it = .pointer (some ⟨r, 0, none⟩)) (h : RangeAt P k w b r n M L cnt)
    (hDone : (∀ x, I64 x → L x = false) → wpList P ops Q rest (a.put o.dst (.tuple #[.bool false])) w)
    (hMore : ∀ (x : Int) (v : Value) (w' : World) (cnt' : Nat), I64 x → L x = true → M x = some v → RangeAt P k w' b r n M (fun z => L z && z != x) cnt' → cnt' < cnt →
      w.grownBy w' (some r) → w'.heap.size = w.heap.size → (Instr.entry (.pointer (some ⟨r, 0, none⟩))).run P w' = .ok (.tuple #[.int .i64 x, v]) w' → wpList P ops Q rest (a.put o.dst (.tuple #[.bool true, .int .i64 x, v])) w') :
    wpList P ops Q (o :: rest) a w := by
  obtain ⟨D, left, h1, h2, h3⟩ := h
  refine wpList_next_ranges w hg it hop k (int_keyed hk) heldR (Value.int .i64) (fun v : Value => v) (fun key kl hkey => by obtain ⟨x, rfl, _⟩ := Maps.keyOf_int_inv hk hkey; exact ⟨x, rfl⟩) (fun v y _ => ⟨v, rfl⟩) b r n D left cnt hit h1
    (fun _ hl => hDone fun x hx => by rw [← h3 x hx]; exact hl _) fun x c kl y w' cnt' hkey hlk hv hat hrg hlt hgr hsz hen => ?_
  obtain ⟨x', ex, rfl, hwx⟩ := Maps.keyOf_int_inv hk hkey
  cases ex
  have hx := i64_of_wf hwx
  have hat' : (M x) = some c := by
    have a1 := hat (.held .nilIface)
    have a2 := (h2 x hx).2 .nilIface
    have a3 := (h2 x hx).1
    rw [Maps.has_true_of_atKey hat] at a3
    cases hM : M x with
    | none => rw [hM] at a3; cases a3
    | some c' =>
      rw [hM] at a2
      rw [a2] at a1
      simp only [heldR, Option.some.injEq] at hv
      rw [← hv] at a1
      simp only [Option.getD_some, DataW.held.injEq] at a1
      rw [a1]
  refine hMore x c w' cnt' hx (by rw [← h3 x hx]; exact hlk) hat' ⟨D, _, hrg, h2, fun j hj => ?_⟩ hlt hgr hsz hen
  show (left (.int .i64 j) && !(Lit.int .i64 j).sameKey (.int .i64 x)) = (L j && j != x)
  rw [h3 j hj]
  congr 1
  by_cases e : j = x
  · subst e
    simp [Lit.sameKey]
  · have : (Lit.int .i64 j).sameKey (.int .i64 x) = false := Maps.sameKey_ne (fun e' => e (by simpa using e'))
    rw [this]
    simp [e]
end
end Go.Proofs.YthkjicnnepkghaaDoor
