/-
  Words for memory, of our own: a slice that reads as a list of cells, nil let in; kept over growth.
  Maps keyed by int, of any elements: what they hold, as a function of the key. Steps for the walk.
  The library's iterator contracts that this text's walks use, laid at this translation by the kit's own commands.
  slices.Sorted over maps.Keys of a map keyed by int: its keys, rising.
  Contracts of package order and of small helpers.
  Forests as plain data: states, surfaces, what the calls make of them.
  Rows: a part of one, append of any row; tableaulaw00.Ints (for seats without the shelf's slices).
  Two results, the first one out of a cell of a struct's.
  What holds of every forest, as plain data; each call keeps it.
  What a call may turn: the blocks of a footprint, and new ones.
  slices.Insert of one number, where there is room: the kit's two contracts, laid here.
  The library's contracts that this text's walks use, laid at this translation by the kit's own commands.
  Contracts of the laws' own helpers (tableaulaw00): Place, SameInts.
-/
import Derived.WalkKit
import Derived.WalkSpells
import Derived.Laws.CopyOwn
import Derived.Maps.AppendAt
import Derived.Deep.Draws
import Derived.Maps.OwnOps
import Derived.Maps.OwnSet
import Derived.Shelf.SlGeneric
import Derived.Shelf.SlIterI.Nil
import Derived.Shelf.SortM.Plain
import Derived.Shelf.SortM.SortNone
import Derived.Ground.GgzProg
import Derived.Ground.SlgfProg
import Derived.Ground.SlgmProg
import Derived.Shelf.SlicesE.DeleteFunc
import Derived.Test.YthkjicnnepkghaaGreatDoorProg
import Derived.Laws.AppendOwnNone
import Derived.Laws.ResultCell
import Derived.Laws.Rows
import Derived.Shelf.Spec.SlicesInsert
import Derived.Shelf.Small.Bits
import Derived.Shelf.Small.Wraps
import Derived.Shelf.Strconv.Itoa0
import Derived.Shelf.Sort.Plain
import Derived.Shelf.Slices.Turned
import Derived.Shelf.Slices.Reverse
import Derived.Ground.Names2Prog
import Derived.Shelf.Slices.CompactI
import Derived.Shelf.Slices.SearchI
import Derived.Shelf.Slices.Cells
import Derived.Shelf.Slices.In.SortNone
import Derived.Ground.SlgnProg
import Derived.Shelf.SlicesE.Index
import Derived.Shelf.SlicesE.Reverse
import Derived.Shelf.SlicesE.Compact
import Derived.Shelf.SlicesE.IndexFunc
import Derived.Deep.QuietTactic
import Derived.BigQuiet
namespace Go.Proofs.YthkjicnnepkghaaGreatDoor
open Go.RowKit

def Rd (w : World) (v : Value) (sz n : Nat) (cs : List Value) : Prop :=
  cs.length = n * sz ∧ ∃ A c, v = .slice A n c ∧ n ≤ c ∧
    (0 < n → ∃ b off, A = some ⟨b, off, none⟩ ∧ b < w.heap.size ∧ ∀ j u, cs[j]? = some u → w.cell? ⟨b, off + j, none⟩ = some u)

section
variable {w w' : World} {v : Value} {sz n : Nat} {cs : List Value}

theorem Rd.nil (w : World) (sz : Nat) : Rd w (.slice none 0 0) sz 0 [] := ⟨by simp, none, 0, rfl, Nat.le_refl _, fun h => absurd h (by omega)⟩

theorem Rd.keep (h : Rd w v sz n cs) (hz : w.heap.size ≤ w'.heap.size) (hk : ∀ b, v.ownBlock = some b → b < w.heap.size → w'.heap[b]? = w.heap[b]?) : Rd w' v sz n cs := by
  obtain ⟨h1, A, c, rfl, hc, h2⟩ := h
  refine ⟨h1, A, c, rfl, hc, fun hn => ?_⟩
  obtain ⟨b, off, rfl, hb, hcell⟩ := h2 hn
  exact ⟨b, off, rfl, by omega, fun j u hu => (World.cell?_of_block (a := ⟨b, off + j, none⟩) (hk b rfl hb)).trans (hcell j u hu)⟩

theorem Rd.below {B : Nat} (h : Rd w v sz n cs) (hb : Below B w w') (hB : w.heap.size ≤ B) : Rd w' v sz n cs :=
  h.keep hb.size fun b _ hlt => hb.block b (by omega)

theorem Rd.grown {row : Option Nat} (h : Rd w v sz n cs) (hg : w.grownBy w' row) (hne : ∀ B, row = some B → v.ownBlock ≠ some B) : Rd w' v sz n cs :=
  h.keep hg.size fun b hb hlt => hg.block b hlt fun e => hne b e.symm hb

theorem Rd.alloc (h : Rd w v sz n cs) (o : Obj) : Rd (w.alloc o) v sz n cs := h.below (((Below.refl w.heap.size w).alloc (Nat.le_refl _) o)) (Nat.le_refl _)
theorem Rd.drew (h : Rd w v sz n cs) : Rd w.drew v sz n cs := h
theorem Rd.setCell (h : Rd w v sz n cs) {a : Addr} (ha : v.ownBlock ≠ some a.block) (u : Value) : Rd (w.setCell a u) v sz n cs :=
  h.keep (by simp [World.setCell]) fun b hb _ => Below.heap_setCell w a u b (by rintro rfl; exact ha hb)

theorem addr_add (b off j : Nat) : (⟨b, off, none⟩ : Addr).add j = ⟨b, off + j, none⟩ := by
  unfold Addr.add; split <;> simp_all

theorem Rd.of_own {base : Nat} {e : TypeId} (h : w.ownsRow base e sz v n cs) : Rd w v sz n cs := by
  refine ⟨h.1, ?_⟩
  rcases h.2 with ⟨rfl, rfl⟩ | ⟨g, cap, cur, rfl, hb, hg, hnc, hm, hs, ht⟩
  · exact ⟨none, 0, rfl, Nat.le_refl _, fun h => absurd h (by omega)⟩
  · refine ⟨_, cap, rfl, hnc, fun hn => ⟨g, 0, rfl, ?_, fun j u hu => ?_⟩⟩
    · rcases Nat.lt_or_ge g w.heap.size with hlt | hge
      · exact hlt
      · rw [Array.getElem?_eq_none hge] at hg; cases hg
    · have := h.cells (g := g) rfl j u hu
      rwa [addr_add] at this

theorem Rd.lit (w : World) (cs : List Value) (t : TypeId) (n : Nat) (hs : cs.length = n * sz) (hm : n ≤ maxLen) : Rd (w.alloc (.cells cs.toArray t)) (.slice (some ⟨w.heap.size, 0, none⟩) n n) sz n cs := by
  have := Rd.of_own (World.ownsRow_lit (base := 0) (e := t) (size := sz) w cs.toArray n (Nat.zero_le _) hm (by simpa using hs))
  simpa using this

theorem own_base {base : Nat} {e : TypeId} (h : w.ownsRow base e sz v n cs) {B : Nat} (hB : B < base) : v.ownBlock ≠ some B := fun he => by
  have := (h.lt B he).1; omega

theorem own_le {base base' : Nat} {e : TypeId} (h : w.ownsRow base e sz v n cs) (hB : base' ≤ base) : w.ownsRow base' e sz v n cs := by
  refine ⟨h.1, ?_⟩
  rcases h.2 with h2 | ⟨g, cap, cur, hv, hb, r⟩
  · exact .inl h2
  · exact .inr ⟨g, cap, cur, hv, by omega, r⟩

theorem own_form {base : Nat} {e : TypeId} (h : w.ownsRow base e sz v n cs) : ∃ A c, v = .slice A n c ∧ n ≤ c := by
  rcases h.2 with ⟨rfl, rfl⟩ | ⟨g, cap, cur, rfl, _, _, hnc, _⟩
  · exact ⟨none, 0, rfl, Nat.le_refl _⟩
  · exact ⟨_, cap, rfl, hnc⟩

theorem Rd.cell1 {A : Option Addr} {c k : Nat} (h : Rd w (.slice A n c) 1 n cs) (hk : k < n) :
    ∃ b off u, A = some ⟨b, off, none⟩ ∧ b < w.heap.size ∧ cs[k]? = some u ∧ w.cell? ⟨b, off + k, none⟩ = some u := by
  obtain ⟨h1, A', c', hv, hc, h2⟩ := h
  simp only [Value.slice.injEq] at hv
  obtain ⟨rfl, _, rfl⟩ := hv
  obtain ⟨b, off, rfl, hb, hcell⟩ := h2 (by omega)
  have hl : k < cs.length := by omega
  exact ⟨b, off, cs[k], rfl, hb, List.getElem?_eq_getElem hl, hcell k _ (List.getElem?_eq_getElem hl)⟩

theorem Rd.open1 {A : Option Addr} {c : Nat} {xs : List Int} (h : Rd w (.slice A n c) 1 n (xs.map (Value.int .i64))) (hn : 0 < n) :
    ∃ b off, A = some ⟨b, off, none⟩ ∧ b < w.heap.size ∧ ∀ k, k < n → w.cell? ⟨b, off + k, none⟩ = some (.int .i64 (xs.getD k 0)) := by
  obtain ⟨h1, A', c', hv, hc, h2⟩ := h
  simp only [Value.slice.injEq] at hv
  obtain ⟨rfl, _, rfl⟩ := hv
  obtain ⟨b, off, rfl, hb, hcell⟩ := h2 hn
  refine ⟨b, off, rfl, hb, fun k hk => hcell k _ ?_⟩
  have hl : k < xs.length := by simpa using (show k < (xs.map (Value.int .i64)).length by omega)
  simp [List.getD, hl]
end

theorem below_drewN {B : Nat} {a w : World} (h : Below B a w) (n : Nat) : Below B a (w.drewN n) := ⟨h.os, h.tape, h.output, h.size, h.block⟩
theorem grown_below {w w' : World} {b B : Nat} (hg : w.grownBy w' (some b)) (hB : B ≤ b) (hs : B ≤ w.heap.size) : Below B w w' :=
  ⟨hg.os, hg.tape, hg.output, hg.size, fun k hk => hg.block k (by omega) (by intro h; cases h; omega)⟩
theorem hide {p : Prop} (h : p) : Hid p := h
def I64 (x : Int) : Prop := -9223372036854775808 ≤ x ∧ x ≤ 9223372036854775807
theorem i64_zero : I64 0 := by unfold I64; omega
theorem i64_getD {l : List Int} (h : ∀ x ∈ l, I64 x) (k : Nat) : I64 (l.getD k 0) := by
  by_cases hk : k < l.length
  · have e : l.getD k 0 = l[k] := by simp [List.getD, hk]
    rw [e]; exact h _ (List.getElem_mem hk)
  · have e : l.getD k 0 = 0 := by simp [List.getD, hk]
    rw [e]; exact i64_zero
theorem i64_of_wf {x : Int} (h : (Lit.int .i64 x).wf = true) : I64 x := by
  unfold I64
  have h1 : IntKind.i64.min = -9223372036854775808 := by decide
  have h2 : IntKind.i64.max = 9223372036854775807 := by decide
  have := h
  simp only [Lit.wf, h1, h2, Bool.and_eq_true, decide_eq_true_eq] at this
  exact this
theorem rd_row {w : World} {a : Option Addr} {len cap : Nat} {zs : List Int}
    (h : (a = none ∧ len = 0 ∧ cap = 0 ∧ zs = []) ∨ ∃ x, a = some x ∧ len ≤ cap ∧ cap ≤ maxLen ∧ zs.length = cap ∧ (∀ i, i < zs.length → w.cell? (x.add i) = some (.int .i64 (zs.getD i 0))) ∧ ∀ n ∈ zs, (Lit.int .i64 n).wf = true) :
    ∃ l : List Int, l.length = len ∧ l.length ≤ 9223372036854775807 ∧ (∀ x ∈ l, I64 x) ∧ Rd w (.slice a len cap) 1 len (l.map (Value.int .i64)) ∧ l = zs.take len := by
  rcases h with ⟨rfl, rfl, rfl, rfl⟩ | ⟨x, rfl, hl, hm, hz, hcell, hwf⟩
  · exact ⟨[], rfl, by simp, by simp, Rd.nil _ _, rfl⟩
  · have hlen : (zs.take len).length = len := by simp; omega
    refine ⟨zs.take len, hlen, by rw [hlen]; unfold maxLen at hm; omega, fun y hy => i64_of_wf (hwf y (List.mem_of_mem_take hy)), ⟨by simp; omega, _, cap, rfl, hl, fun hn => ?_⟩, rfl⟩
    have h0 := hcell 0 (by omega)
    have hx : x.spot = none := by
      cases hs : x.spot with
      | none => rfl
      | some s =>
        exfalso
        have : x.add 0 = x := by simp [Addr.add]
        rw [this] at h0
        unfold World.cell? at h0
        split at h0
        · simp [hs] at h0
        · cases h0
    obtain ⟨b, off, sp⟩ := x
    obtain rfl : sp = none := hx
    refine ⟨b, off, rfl, ?_, fun j u hu => ?_⟩
    · have := block_lt_of_cell h0
      rwa [addr_add] at this
    · have hj : j < len := by
        have := (List.getElem?_eq_some_iff.1 hu).1
        simp at this; omega
      have := hcell j (by omega)
      rw [addr_add] at this
      rw [this]
      have e : (List.map (Value.int IntKind.i64) (List.take len zs))[j]? = some (.int .i64 (zs.getD j 0)) := by
        simp [hj, List.getD, show j < zs.length by omega]
      rw [e] at hu
      exact hu
def CameIn (P : Program) (w : World) (T : TypeId) (a : Option Addr) (len cap : Nat) : Prop :=
  ∃ (H : Type) (enc : TypeId × Value → H) (d : DataW H) (p : List MemPlace), DataW.Trod enc P w 0 (fun _ => true) true T (.slice a len cap) d p
theorem ret_eq {a b : Value} (h : a = b) : Ending.returned a = .returned b := by rw [h]
theorem ret_int {k : IntKind} {a b : Int} (h : a = b) : Ending.returned (.int k a) = .returned (.int k b) := by rw [h]
end Go.Proofs.YthkjicnnepkghaaGreatDoor
namespace Go.Proofs.YthkjicnnepkghaaGreatDoor
open Go.RowKit Go.Maps

def heldR : Value → Option (DataW Value × List MemPlace) := fun v => some (.held v, [])

def MapAt (P : Program) (k : TypeId) (w : World) (b n : Nat) (M : Int → Option Value) : Prop :=
  ∃ D : DataW Value, w.ownsMap P k heldR b n D ∧ ∀ j, I64 j → Maps.has D (.int .i64 j) = (M j).isSome ∧ ∀ z, D.atKey (.int .i64 j) (.held z) = .held ((M j).getD z)

section
variable {P : Program} {k e t : TypeId} {w w' : World} {b n : Nat} {M : Int → Option Value}

theorem wf_of_i64 {x : Int} (h : I64 x) : (Lit.int .i64 x).wf = true := by
  have h1 : IntKind.i64.min = -9223372036854775808 := by decide
  have h2 : IntKind.i64.max = 9223372036854775807 := by decide
  unfold I64 at h
  simp only [Lit.wf, h1, h2, Bool.and_eq_true, decide_eq_true_eq]
  exact h

theorem MapAt.made (w : World) (P : Program) (k : TypeId) : MapAt P k (w.alloc (.map #[] 0)) w.heap.size 0 (fun _ => none) :=
  ⟨.map [], World.ownsMap_made _ _ _ _, fun _ _ => ⟨rfl, fun _ => rfl⟩⟩

theorem MapAt.kept {row : Option Nat} (h : MapAt P k w b n M) (hg : w.grownBy w' row) (hne : some b ≠ row) : MapAt P k w' b n M := by
  obtain ⟨D, h1, h2⟩ := h
  exact ⟨D, h1.kept hg hne, h2⟩

theorem MapAt.block (h : MapAt P k w b n M) (hb : w'.heap[b]? = w.heap[b]?) : MapAt P k w' b n M := by
  obtain ⟨D, ⟨es, clock, h1, h2, h3, h4⟩, h5⟩ := h
  exact ⟨D, ⟨es, clock, hb.trans h1, h2, h3, h4⟩, h5⟩

theorem MapAt.isMapBlock (h : MapAt P k w b n M) : ∃ es c, w.heap[b]? = some (.map es c) := by
  obtain ⟨D, ⟨es, clock, h1, _⟩, _⟩ := h
  exact ⟨es, clock, h1⟩

theorem MapAt.lt (h : MapAt P k w b n M) : b < w.heap.size := by
  obtain ⟨D, h1, _⟩ := h
  exact h1.lt

theorem MapAt.mono {n' : Nat} (h : MapAt P k w b n M) (hn : n ≤ n') : MapAt P k w b n' M := by
  obtain ⟨D, h1, h2⟩ := h
  exact ⟨D, h1.mono hn, h2⟩

theorem MapAt.congr {M' : Int → Option Value} (h : MapAt P k w b n M) (he : ∀ j, I64 j → M' j = M j) : MapAt P k w b n M' := by
  obtain ⟨D, h1, h2⟩ := h
  exact ⟨D, h1, fun j hj => by rw [he j hj]; exact h2 j hj⟩

theorem MapAt.look (h : MapAt P k w b n M) (hk : P.underlying k = some (.int .i64)) (ht : P.underlying t = some (.map k e)) {z : Value} (hz : (zeroValue e).run P w = .ok z w) {j : Int} (hj : I64 j) :
    (Instr.lookup t (.map (some b)) (.int .i64 j) false).run P w = .ok ((M j).getD z) w := by
  obtain ⟨D, h1, h2⟩ := h
  obtain ⟨v, ps, hrun, hv⟩ := h1.lookup (int_keyed hk) ht hz (zd := .held z) (zp := []) rfl (keyOf_int_mk hk (wf_of_i64 hj))
  rw [(h2 j hj).2 z] at hv
  simp only [heldR, Option.some.injEq, Prod.mk.injEq, DataW.held.injEq] at hv
  rw [hrun, hv.1]

theorem MapAt.lookOk (h : MapAt P k w b n M) (hk : P.underlying k = some (.int .i64)) (ht : P.underlying t = some (.map k e)) {z : Value} (hz : (zeroValue e).run P w = .ok z w) {j : Int} (hj : I64 j) :
    (Instr.lookup t (.map (some b)) (.int .i64 j) true).run P w = .ok (.tuple #[(M j).getD z, .bool (M j).isSome]) w := by
  obtain ⟨D, h1, h2⟩ := h
  obtain ⟨v, ps, hrun, hv⟩ := h1.look_ok (int_keyed hk) ht hz (zd := .held z) (zp := []) rfl (keyOf_int_mk hk (wf_of_i64 hj))
  rw [(h2 j hj).2 z] at hv
  simp only [heldR, Option.some.injEq, Prod.mk.injEq, DataW.held.injEq] at hv
  rw [hrun, hv.1, (h2 j hj).1]

theorem int_ne {i j : Int} (h : i ≠ j) : Lit.int .i64 i ≠ Lit.int .i64 j := fun e => h (by simpa using e)

def putM (M : Int → Option Value) (j : Int) (v : Value) : Int → Option Value := fun i => if i = j then some v else M i
def delM (M : Int → Option Value) (j : Int) : Int → Option Value := fun i => if i = j then none else M i

theorem MapAt.ofPut {D : DataW Value} {j : Int} {v : Value} (h1 : w.ownsMap P k heldR b n D) (h2 : ∀ j, I64 j → Maps.has D (.int .i64 j) = (M j).isSome ∧ ∀ z, D.atKey (.int .i64 j) (.held z) = .held ((M j).getD z))
    (h : w'.ownsMap P k heldR b (n + 1) (D.put (.int .i64 j) (.held v))) : MapAt P k w' b (n + 1) (putM M j v) := by
  refine ⟨_, h, fun i hi => ?_⟩
  unfold putM
  by_cases e : i = j
  · subst e
    rw [if_pos rfl]
    exact ⟨Maps.has_put_same h1.isMap (show WideAt.IsKeyLit (.int .i64 i) from trivial) _, fun z => Maps.atKey_put_same h1.isMap (show WideAt.IsKeyLit (.int .i64 i) from trivial) _ _⟩
  · rw [if_neg e, Maps.has_put_other (int_ne e)]
    exact ⟨(h2 i hi).1, fun z => by rw [Maps.atKey_put_other (int_ne e)]; exact (h2 i hi).2 z⟩

theorem MapAt.putRun (h : MapAt P k w b n M) (hk : P.underlying k = some (.int .i64)) (ht : P.underlying t = some (.map k e)) (hn : n < maxLen) {j : Int} (hj : I64 j) (val : Value) :
    ∃ w', (Instr.mapUpdate t (.map (some b)) (.int .i64 j) val).run P w = .ok () w' ∧ MapAt P k w' b (n + 1) (putM M j val) ∧ w.grownBy w' (some b) := by
  obtain ⟨D, h1, h2⟩ := h
  obtain ⟨w', hrun, r1, r2⟩ := h1.update (int_keyed hk) ht hn (keyOf_int_mk hk (wf_of_i64 hj)) (d := .held val) (ps := []) (val := val) rfl
  exact ⟨w', hrun, MapAt.ofPut h1 h2 r1, r2⟩

theorem wpList_put {ops : Array Oper} {rest : List Oper} {o : Oper} {a : Act} {Q : Exit → Act → World → Prop}
    (hg : o.guard = none) (m x v : Operand) (t : TypeId) (hop : o.op = Op.mapUpdate t m x v)
    (k e : TypeId) (hk : P.underlying k = some (.int .i64)) (ht : P.underlying t = some (.map k e)) (b n : Nat) (M : Int → Option Value)
    (hm : a.eval m = .map (some b)) (hown : MapAt P k w b n M) (hn : n < maxLen) (j : Int) (val : Value) (hx : a.eval x = .int .i64 j) (hv : a.eval v = val) (hj : I64 j)
    (hK : ∀ w', MapAt P k w' b (n + 1) (putM M j val) → w.grownBy w' (some b) → wpList P ops Q rest (a.put o.dst undef) w') :
    wpList P ops Q (o :: rest) a w := by
  obtain ⟨D, h1, h2⟩ := hown
  exact wpList_mapUpdate_own w hg m x v t hop k e (int_keyed hk) ht heldR b n D hm h1 hn _ val _ hx hv (keyOf_int_mk hk (wf_of_i64 hj)) (.held val) [] rfl
    fun w' r1 r2 => hK w' (MapAt.ofPut h1 h2 r1) r2

theorem wpList_ins {ops : Array Oper} {rest : List Oper} {o : Oper} {a : Act} {Q : Exit → Act → World → Prop}
    (hg : o.guard = none) (m x v : Operand) (t : TypeId) (hop : o.op = Op.insert t m x v)
    (k e : TypeId) (hk : P.underlying k = some (.int .i64)) (ht : P.underlying t = some (.map k e)) (b n : Nat) (M : Int → Option Value)
    (hm : a.eval m = .map (some b)) (hown : MapAt P k w b n M) (hn : n < maxLen) (j : Int) (val : Value) (hx : a.eval x = .int .i64 j) (hv : a.eval v = val) (hj : I64 j)
    (hK : ∀ w', MapAt P k w' b (n + 1) (putM M j val) → w.grownBy w' (some b) → wpList P ops Q rest (a.put o.dst undef) w') :
    wpList P ops Q (o :: rest) a w := by
  obtain ⟨D, h1, h2⟩ := hown
  refine wpList_plain hg fun K' hK' => ?_
  obtain ⟨w', hrun, r1, r2⟩ := h1.update (int_keyed hk) ht hn (keyOf_int_mk hk (wf_of_i64 hj)) (d := .held val) (ps := []) (val := val) rfl
  unfold Oper.wp
  simp [execOp, hop, hm, hx, hv, hrun, Result.andThen]
  exact hK' _ _ (hK w' (MapAt.ofPut h1 h2 r1) r2)

theorem wpList_del {ops : Array Oper} {rest : List Oper} {o : Oper} {a : Act} {Q : Exit → Act → World → Prop}
    (hg : o.guard = none) (m x : Operand) (t k : TypeId) (hop : o.op = Op.call { callee := Callee.builtin Builtin.delete, args := #[m, x], argTypes := #[t, k] })
    (e : TypeId) (hk : P.underlying k = some (.int .i64)) (ht : P.underlying t = some (.map k e)) (b n : Nat) (M : Int → Option Value)
    (hm : a.eval m = .map (some b)) (hown : MapAt P k w b n M) (j : Int) (hx : a.eval x = .int .i64 j) (hj : I64 j)
    (hK : ∀ w', MapAt P k w' b n (delM M j) → w.grownBy w' (some b) → wpList P ops Q rest (a.put o.dst (.tuple #[])) w') :
    wpList P ops Q (o :: rest) a w := by
  obtain ⟨D, h1, h2⟩ := hown
  refine wpList_delete_own w hg m x t k hop e (int_keyed hk) ht heldR b n D hm h1 _ _ hx (keyOf_int_mk hk (wf_of_i64 hj)) fun w' r1 r2 => hK w' ⟨_, r1, fun i hi => ?_⟩ r2.grown
  unfold delM
  by_cases e : i = j
  · subst e
    rw [if_pos rfl]
    exact ⟨Maps.has_del_same, fun z => Maps.atKey_del_same _⟩
  · rw [if_neg e, Maps.has_del_other (int_ne e)]
    exact ⟨(h2 i hi).1, fun z => by rw [Maps.atKey_del_other (int_ne e)]; exact (h2 i hi).2 z⟩
end
end Go.Proofs.YthkjicnnepkghaaGreatDoor
namespace Go.Proofs
open Go.Shelf
def Tryz.sortR_ren : Go.Shelf.Ren := ⟨fun | 5 => 55 | 8 => 115 | 7 => 114 | 19 => 150 | 20 => 151 | 10 => 141 | 11 => 142 | 12 => 143 | 13 => 144 | 14 => 145 | 15 => 146 | 16 => 147 | 17 => 148 | 18 => 149 | 30 => 162 | 31 => 163 | 32 => 164 | 33 => 165 | 34 => 166 | 35 => 167 | 40 => 175 | n => n, fun | 23 => 38 | 25 => 3 | 3 => 3 | 32 => 145 | 22 => 38 | 0 => 0 | 44 => 174 | 46 => 176 | 4 => 4 | 36 => 166 | 35 => 165 | 41 => 171 | 5 => 5 | 9 => 9 | 53 => 192 | 57 => 196 | 63 => 202 | 64 => 203 | n => n, fun | n => n⟩
theorem Tryz.sortR : Go.Proofs.SlLaysM.n5 Tryz.prog Tryz.sortR_ren := {
  mixed := by kernel_rfl
  f5 := ⟨Tryz.f55.name, by decide, Tryz.func55.trans (congrArg some (by kernel_rfl))⟩
  f7 := ⟨Tryz.f114.name, by decide, Tryz.func114.trans (congrArg some (by kernel_rfl))⟩
  f8 := Tryz.func115.trans (congrArg some (by kernel_rfl))
  f10 := ⟨Tryz.f141.name, by decide, Tryz.func141.trans (congrArg some (by kernel_rfl))⟩
  f11 := ⟨Tryz.f142.name, by decide, Tryz.func142.trans (congrArg some (by kernel_rfl))⟩
  f12 := ⟨Tryz.f143.name, by decide, Tryz.func143.trans (congrArg some (by kernel_rfl))⟩
  f13 := ⟨Tryz.f144.name, by decide, Tryz.func144.trans (congrArg some (by kernel_rfl))⟩
  f14 := ⟨Tryz.f145.name, by decide, Tryz.func145.trans (congrArg some (by kernel_rfl))⟩
  f15 := ⟨Tryz.f146.name, by decide, Tryz.func146.trans (congrArg some (by kernel_rfl))⟩
  f16 := ⟨Tryz.f147.name, by decide, Tryz.func147.trans (congrArg some (by kernel_rfl))⟩
  f17 := ⟨Tryz.f148.name, by decide, Tryz.func148.trans (congrArg some (by kernel_rfl))⟩
  f18 := ⟨Tryz.f149.name, by decide, Tryz.func149.trans (congrArg some (by kernel_rfl))⟩
  f19 := Tryz.func150.trans (congrArg some (by kernel_rfl))
  f20 := Tryz.func151.trans (congrArg some (by kernel_rfl))
  f30 := ⟨Tryz.f162.name, by decide, Tryz.func162.trans (congrArg some (by kernel_rfl))⟩
  f31 := Tryz.func163.trans (congrArg some (by kernel_rfl))
  f32 := Tryz.func164.trans (congrArg some (by kernel_rfl))
  f33 := ⟨Tryz.f165.name, by decide, Tryz.func165.trans (congrArg some (by kernel_rfl))⟩
  f34 := ⟨Tryz.f166.name, by decide, Tryz.func166.trans (congrArg some (by kernel_rfl))⟩
  f35 := ⟨Tryz.f167.name, by decide, Tryz.func167.trans (congrArg some (by kernel_rfl))⟩
  f40 := ⟨Tryz.f175.name, by decide, Tryz.func175.trans (congrArg some (by kernel_rfl))⟩
  t0 := Tryz.underlying0
  a0 := Tryz.isAgg0
  z0 := Tryz.sizeOf0
  v0 := Tryz.zeroValue0
  t3 := Tryz.underlying3
  a3 := Tryz.isAgg3
  z3 := Tryz.sizeOf3
  v3 := Tryz.zeroValue3
  t4 := Tryz.underlying4
  a4 := Tryz.isAgg4
  z4 := Tryz.sizeOf4
  v4 := Tryz.zeroValue4
  t5 := Tryz.underlying5
  a5 := Tryz.isAgg5
  z5 := Tryz.sizeOf5
  v5 := Tryz.zeroValue5
  t9 := Tryz.underlying9
  a9 := Tryz.isAgg9
  z9 := Tryz.sizeOf9
  v9 := Tryz.zeroValue9
  t22 := Tryz.underlying38
  a22 := Tryz.isAgg38
  z22 := Tryz.sizeOf38
  v22 := Tryz.zeroValue38
  t23 := Tryz.underlying38
  a23 := Tryz.isAgg38
  z23 := Tryz.sizeOf38
  v23 := Tryz.zeroValue38
  t25 := Tryz.underlying3
  a25 := Tryz.isAgg3
  z25 := Tryz.sizeOf3
  v25 := Tryz.zeroValue3
  t32 := Tryz.underlying145
  a32 := Tryz.isAgg145
  z32 := Tryz.sizeOf145
  v32 := Tryz.zeroValue145
  t35 := Tryz.underlying165
  a35 := Tryz.isAgg165
  z35 := Tryz.sizeOf165
  v35 := Tryz.zeroValue165
  t36 := Tryz.underlying166
  a36 := Tryz.isAgg166
  z36 := Tryz.sizeOf166
  v36 := Tryz.zeroValue166
  t41 := Tryz.underlying171
  a41 := Tryz.isAgg171
  z41 := Tryz.sizeOf171
  v41 := Tryz.zeroValue171
  t44 := Tryz.underlying174
  a44 := Tryz.isAgg174
  z44 := Tryz.sizeOf174
  v44 := Tryz.zeroValue174
  t46 := Tryz.underlying176
  a46 := Tryz.isAgg176
  z46 := Tryz.sizeOf176
  v46 := Tryz.zeroValue176
  t53 := Tryz.underlying192
  a53 := Tryz.isAgg192
  z53 := Tryz.sizeOf192
  v53 := Tryz.zeroValue192
  t57 := Tryz.underlying196
  a57 := Tryz.isAgg196
  z57 := Tryz.sizeOf196
  v57 := Tryz.zeroValue196
  t63 := Tryz.underlying202
  a63 := Tryz.isAgg202
  z63 := Tryz.sizeOf202
  v63 := Tryz.zeroValue202
  t64 := Tryz.underlying203
  a64 := Tryz.isAgg203
  z64 := Tryz.sizeOf203
  v64 := Tryz.zeroValue203 }
def Tryz.delFuncR_ren : Go.Shelf.Ren := ⟨fun | 10 => 56 | 6 => 116 | n => n, fun | 22 => 38 | 23 => 3 | 25 => 102 | 3 => 3 | 4 => 4 | 0 => 0 | n => n, fun | n => n⟩
theorem Tryz.delFuncR : Go.Proofs.SlLaysH.n10 Tryz.prog Tryz.delFuncR_ren := {
  mixed := by kernel_rfl
  f6 := ⟨Tryz.f116.name, by decide, Tryz.func116.trans (congrArg some (by kernel_rfl))⟩
  f10 := ⟨Tryz.f56.name, by decide, Tryz.func56.trans (congrArg some (by kernel_rfl))⟩
  t0 := Tryz.underlying0
  a0 := Tryz.isAgg0
  z0 := Tryz.sizeOf0
  v0 := Tryz.zeroValue0
  t3 := Tryz.underlying3
  a3 := Tryz.isAgg3
  z3 := Tryz.sizeOf3
  v3 := Tryz.zeroValue3
  t4 := Tryz.underlying4
  a4 := Tryz.isAgg4
  z4 := Tryz.sizeOf4
  v4 := Tryz.zeroValue4
  t22 := Tryz.underlying38
  a22 := Tryz.isAgg38
  z22 := Tryz.sizeOf38
  v22 := Tryz.zeroValue38
  a23 := Tryz.isAgg3
  z23 := Tryz.sizeOf3
  t25 := Tryz.underlying102
  a25 := Tryz.isAgg102
  z25 := Tryz.sizeOf102
  v25 := Tryz.zeroValue102 }
def Tryz.sortedR_ren : Go.Shelf.Ren := ⟨fun | 6 => 121 | 8 => 157 | 9 => 55 | 11 => 172 | 13 => 115 | 12 => 114 | 23 => 150 | 24 => 151 | 14 => 141 | 15 => 142 | 16 => 143 | 17 => 144 | 18 => 145 | 19 => 146 | 20 => 147 | 21 => 148 | 22 => 149 | 25 => 162 | 26 => 163 | 27 => 164 | 28 => 165 | 29 => 166 | 30 => 167 | 31 => 175 | n => n, fun | 26 => 3 | 28 => 152 | 24 => 38 | 0 => 0 | 3 => 3 | 37 => 145 | 48 => 174 | 50 => 176 | 4 => 4 | 40 => 166 | 39 => 165 | 45 => 171 | 5 => 5 | 9 => 9 | 51 => 192 | 55 => 196 | 57 => 202 | 58 => 203 | 33 => 102 | n => n, fun | n => n⟩
theorem Tryz.sortedR : Go.Proofs.SlLaysZI.n6 Tryz.prog Tryz.sortedR_ren := {
  mixed := by kernel_rfl
  f6 := ⟨Tryz.f121.name, by decide, Tryz.func121.trans (congrArg some (by kernel_rfl))⟩
  f8 := ⟨Tryz.f157.name, by decide, Tryz.func157.trans (congrArg some (by kernel_rfl))⟩
  f11 := ⟨Tryz.f172.name, by decide, Tryz.func172.trans (congrArg some (by kernel_rfl))⟩
  t0 := Tryz.underlying0
  a0 := Tryz.isAgg0
  z0 := Tryz.sizeOf0
  v0 := Tryz.zeroValue0
  t24 := Tryz.underlying38
  a24 := Tryz.isAgg38
  z24 := Tryz.sizeOf38
  v24 := Tryz.zeroValue38
  t26 := Tryz.underlying3
  a26 := Tryz.isAgg3
  z26 := Tryz.sizeOf3
  v26 := Tryz.zeroValue3
  t28 := Tryz.underlying152
  a28 := Tryz.isAgg152
  z28 := Tryz.sizeOf152
  v28 := Tryz.zeroValue152
  i26 := by kernel_rfl }
def Tryz.keysR_Pforest_surface_ren : Go.Shelf.Ren := ⟨fun | 7 => 122 | 10 => 158 | n => n, fun | 23 => 77 | 26 => 3 | 3 => 95 | 28 => 152 | 0 => 0 | 27 => 151 | 33 => 102 | 4 => 4 | n => n, fun | n => n⟩
theorem Tryz.keysR_Pforest_surface : Go.Proofs.SlLaysZI.n7 Tryz.prog Tryz.keysR_Pforest_surface_ren := {
  mixed := by kernel_rfl
  f7 := ⟨Tryz.f122.name, by decide, Tryz.func122.trans (congrArg some (by kernel_rfl))⟩
  f10 := ⟨Tryz.f158.name, by decide, Tryz.func158.trans (congrArg some (by kernel_rfl))⟩
  t0 := Tryz.underlying0
  a0 := Tryz.isAgg0
  z0 := Tryz.sizeOf0
  v0 := Tryz.zeroValue0
  t4 := Tryz.underlying4
  a4 := Tryz.isAgg4
  z4 := Tryz.sizeOf4
  v4 := Tryz.zeroValue4
  t23 := Tryz.underlying77
  a23 := Tryz.isAgg77
  z23 := Tryz.sizeOf77
  v23 := Tryz.zeroValue77
  t26 := Tryz.underlying3
  a26 := Tryz.isAgg3
  z26 := Tryz.sizeOf3
  v26 := Tryz.zeroValue3
  t27 := Tryz.underlying151
  a27 := Tryz.isAgg151
  z27 := Tryz.sizeOf151
  v27 := Tryz.zeroValue151
  t28 := Tryz.underlying152
  a28 := Tryz.isAgg152
  z28 := Tryz.sizeOf152
  v28 := Tryz.zeroValue152
  t33 := Tryz.underlying102
  a33 := Tryz.isAgg102
  z33 := Tryz.sizeOf102
  v33 := Tryz.zeroValue102 }
end Go.Proofs
namespace Go.Proofs.YthkjicnnepkghaaGreatDoor
open Go.RowKit Go.Maps Go.Sort Go.Shelf

def KeysOf (M : Int → Option Value) (l : List Int) : Prop := l.Pairwise (· < ·) ∧ ∀ x, x ∈ l ↔ I64 x ∧ (M x).isSome = true

theorem rising_one : ∀ {l l' : List Int}, l.Pairwise (· < ·) → l'.Pairwise (· < ·) → (∀ x, x ∈ l ↔ x ∈ l') → l = l'
  | [], [], _, _, _ => rfl
  | [], b :: s, _, _, h => by have := (h b).2 (by simp); simp at this
  | a :: r, [], _, _, h => by have := (h a).1 (by simp); simp at this
  | a :: r, b :: s, h1, h2, h => by
    obtain ⟨a1, a2⟩ := List.pairwise_cons.1 h1
    obtain ⟨b1, b2⟩ := List.pairwise_cons.1 h2
    have hab : a = b := by
      rcases List.mem_cons.1 ((h a).1 (by simp)) with e | ha
      · exact e
      · rcases List.mem_cons.1 ((h b).2 (by simp)) with e | hb
        · exact e.symm
        · have := b1 a ha; have := a1 b hb; omega
    subst hab
    rw [rising_one a2 b2 fun p => ⟨fun hp => by
      rcases List.mem_cons.1 ((h p).1 (by simp [hp])) with e | hp'
      · have := a1 p hp; omega
      · exact hp', fun hp => by
      rcases List.mem_cons.1 ((h p).2 (by simp [hp])) with e | hp'
      · have := b1 p hp; omega
      · exact hp'⟩]

theorem KeysOf.unique {M : Int → Option Value} {l l' : List Int} (h : KeysOf M l) (h' : KeysOf M l') : l = l' :=
  rising_one h.1 h'.1 fun x => (h.2 x).trans (h'.2 x).symm

theorem MapAt.keys {P : Program} {k : TypeId} {w : World} {b n : Nat} {M : Int → Option Value} (h : MapAt P k w b n M) (hk : P.underlying k = some (.int .i64)) :
    ∃ D : DataW Value, w.ownsMap P k heldR b n D ∧ Maps.size D ≤ n ∧ (intKeys D).Nodup ∧ ∀ x, x ∈ intKeys D ↔ I64 x ∧ (M x).isSome = true := by
  obtain ⟨D, h1, h2⟩ := h
  refine ⟨D, h1, h1.size_le, ?_⟩
  have hwf := intKeys_wf h1 hk
  obtain ⟨es, hD, hpw, _⟩ := h1.entries (int_keyed hk)
  obtain ⟨es', hD', hko⟩ := h1.keysOf
  obtain rfl : es = es' := by rw [hD] at hD'; simpa using hD'
  subst hD
  have hki : ∀ p ∈ es, ∃ x, p.1 = .int .i64 x := fun p hp => by
    obtain ⟨v, hv⟩ := hko p hp
    obtain ⟨x, _, hx, _⟩ := Maps.keyOf_i64 hk hv
    exact ⟨x, hx⟩
  constructor
  · show (es.map fun p => _root_.Go.intOf p.1).Nodup
    refine List.pairwise_map.2 (hpw.imp_of_mem fun {p q} hp' hq' hne e => hne ?_)
    obtain ⟨a, ha⟩ := hki p hp'
    obtain ⟨b, hb⟩ := hki q hq'
    rw [ha, hb] at e ⊢
    exact congrArg _ e
  · intro x
    have hm : x ∈ intKeys (.map es) ↔ Maps.has (.map es) (.int .i64 x) = true := by
      show x ∈ (es.map fun p => _root_.Go.intOf p.1) ↔ _
      rw [Maps.has_eq, List.any_eq_true, List.mem_map]
      constructor
      · rintro ⟨p, hp', rfl⟩
        obtain ⟨a, ha⟩ := hki p hp'
        exact ⟨p, hp', by rw [ha]; simp [Lit.sameKey, _root_.Go.intOf]⟩
      · rintro ⟨p, hp', hs⟩
        obtain ⟨a, ha⟩ := hki p hp'
        rw [ha] at hs
        exact ⟨p, hp', by rw [ha]; simpa [Lit.sameKey, _root_.Go.intOf] using hs⟩
    constructor
    · intro hx
      have hi := i64_of_wf (hwf x hx)
      exact ⟨hi, by rw [← (h2 x hi).1]; exact hm.1 hx⟩
    · rintro ⟨hi, hs⟩
      exact hm.2 (by rw [(h2 x hi).1]; exact hs)

theorem keysOf_sort {M : Int → Option Value} {ks ss : List Int} (hn : ks.Nodup) (hm : ∀ x, x ∈ ks ↔ I64 x ∧ (M x).isSome = true) (hp : ss.Perm ks) : KeysOf M (ss.mergeSort fun x y => decide (x ≤ y)) := by
  have tr : ∀ a b c : Int, decide (a ≤ b) = true → decide (b ≤ c) = true → decide (a ≤ c) = true := fun a b c h1 h2 => by simp only [decide_eq_true_eq] at *; omega
  have to : ∀ a b : Int, (decide (a ≤ b) || decide (b ≤ a)) = true := fun a b => by simp only [Bool.or_eq_true, decide_eq_true_eq]; omega
  have hs := List.pairwise_mergeSort tr to ss
  have hq := (List.mergeSort_perm ss fun x y => decide (x ≤ y)).trans hp
  have hnd : (ss.mergeSort fun x y => decide (x ≤ y)).Nodup := hq.nodup_iff.2 hn
  refine ⟨?_, fun x => (hq.mem_iff).trans (hm x)⟩
  refine (hs.and hnd).imp fun {a b} ⟨h1, h2⟩ => ?_
  simp only [decide_eq_true_eq] at h1
  have : a ≠ b := h2
  omega

theorem Tryz.sorts (m : Nat) : AnyZI.SortsIn Tryz.prog Tryz.sortedR_ren Fence.wide m :=
  ⟨fun blk off cap ss W hH hblk hsz => callsIn_wide.2 (AnyM.slices_Sort_int Tryz.sortR blk off cap ss W hH hblk hsz),
   fun p cap W => callsIn_wide.2 (AnyM.slices_Sort_int_none Tryz.sortR p cap W)⟩

def SortedKeys (keysF keysFn sortedF : Nat) (mapT intT : TypeId) (P : Program) : Prop :=
  ∀ (W : World) (b n : Nat) (M : Int → Option Value), MapAt P intT W b n M → n ≤ 1000000 →
    Calls P keysF #[.map (some b)] W (fun e w' => e = .returned (.func (.func keysFn) #[] #[.pointer (some ⟨W.heap.size, 0, none⟩)]) ∧ w' = W.alloc (.cells #[.map (some b)] mapT)) ∧
    Calls P sortedF #[.func (.func keysFn) #[] #[.pointer (some ⟨W.heap.size, 0, none⟩)]] (W.alloc (.cells #[.map (some b)] mapT)) (fun e w' => ∃ (v : Value) (l : List Int), e = .returned v ∧ KeysOf M l ∧ l.length ≤ n ∧
      w'.ownsRow W.heap.size intT 1 v l.length (l.map (Value.int .i64)) ∧ (v = .slice none 0 0 ↔ l = []) ∧ Below W.heap.size W w')


end Go.Proofs.YthkjicnnepkghaaGreatDoor
namespace Go.Proofs.YthkjicnnepkghaaGreatDoor
open Go.RowKit

theorem Tryz.infoInt : (Tryz.prog.info? 3).map (fun i => (i.zero, i.size, i.bytes)) = some (some (.int .i64 0), 1, 8) := by kernel_rfl

def without (xs : List Int) (id : Int) : List Int := xs.filter (· != id)
theorem without_le (xs : List Int) (id : Int) : (without xs id).length ≤ xs.length := List.length_filter_le _ _
theorem without_take (xs : List Int) (id : Int) (k : Nat) : (without (xs.take k) id).length ≤ k := Nat.le_trans (without_le _ _) (List.length_take_le _ _)
theorem without_hit (xs : List Int) (id : Int) (k : Nat) (hk : k < xs.length) (h : xs.getD k 0 ≠ id) : without (xs.take (k + 1)) id = without (xs.take k) id ++ [xs.getD k 0] := by
  have e : xs.getD k 0 = xs[k] := by simp [List.getD, hk]
  rw [e] at h ⊢
  unfold without
  rw [List.take_succ_eq_append_getElem hk, List.filter_append]
  simp [h]
theorem without_miss (xs : List Int) (id : Int) (k : Nat) (hk : k < xs.length) (h : xs.getD k 0 = id) : without (xs.take (k + 1)) id = without (xs.take k) id := by
  have e : xs.getD k 0 = xs[k] := by simp [List.getD, hk]
  rw [e] at h
  unfold without
  rw [List.take_succ_eq_append_getElem hk, List.filter_append]
  simp [h]

structure Part (w : World) (g len : Nat) (ys : List Int) : Prop where
  ex : ∃ cur : List Value, cur.length = len ∧ w.heap[g]? = some (.cells cur.toArray 3 (0, 0)) ∧ cur.take ys.length = ys.map (Value.int .i64)

theorem Part.step {w : World} {g len : Nat} {ys : List Int} {x : Int} {cur : List Value} (h1 : cur.length = len) (h3 : cur.take ys.length = ys.map (Value.int .i64)) (hl : ys.length < len)
    (hw : w.heap[g]? = some (.cells (splice cur ys.length [.int .i64 x]).toArray 3 (0, 0))) : Part w g len (ys ++ [x]) := by
  refine ⟨_, ?_, hw, ?_⟩
  · rw [length_splice]; exact h1; simp; omega
  · simp only [splice, List.length_append, List.length_cons, List.length_nil, List.map_append, List.map_cons, List.map_nil, h3]
    rw [List.take_append]
    simp [List.take_of_length_le]

theorem Part.own {w : World} {g len base : Nat} {ys : List Int} (h : Part w g len ys) (hb : base ≤ g) (hl : ys.length ≤ len) (hm : len ≤ maxLen) :
    w.ownsRow base 3 1 (.slice (some ⟨g, 0, none⟩) ys.length len) ys.length (ys.map (Value.int .i64)) := by
  obtain ⟨cur, h1, h2, h3⟩ := h.ex
  exact ⟨by simp, .inr ⟨g, len, cur.toArray, rfl, hb, h2, hl, hm, by simp [h1], by simpa using h3⟩⟩

set_option maxRecDepth 100000 in
theorem drop_at (w : World) (v : Value) (xs : List Int) (id : Int) (hr : Rd w v 1 xs.length (xs.map (Value.int .i64))) (hlen : xs.length ≤ 1000000) :
   Calls Tryz.prog 98 #[v, .int .i64 id] w fun e w' => e = .returned (.slice (some ⟨w.heap.size, 0, none⟩) (without xs id).length xs.length) ∧ Part w' w.heap.size xs.length (without xs id) ∧ Below w.heap.size w w' := by
  obtain ⟨i0, hi, hz0, hz1, hz2⟩ := info_parts Tryz.infoInt
  have hr0 := hr
  obtain ⟨_, A, c, rfl, hc, _⟩ := hr0
  obtain ⟨n, hn⟩ : ∃ n, n = xs.length := ⟨_, rfl⟩
  rw [← hn] at hr hlen hc ⊢
  have HN := hide hn
  clear hn
  go_enter Tryz.func98, Tryz.ntmps98
  go_wp2_with (at_make; refine wpList_make_full _ rfl (.tmp 10) (.tmp 10) 38 rfl w.heap.size 3 i0 (.int .i64 0) 1 Tryz.underlying38 hi hz0 hz1 .i64 .i64 n n n rfl rfl rfl rfl (by rw [hz2]; omega) (by unfold maxLen; omega) (Nat.le_refl _) ?_; intro w1 hown1 hgrow1)
  have hB1 : Below w.heap.size w w1 := (Below.refl _ _).grown hgrow1 (Nat.le_refl _) (fun k e => by cases e)
  have P0 : Part w1 w.heap.size n [] := by
    rcases hown1.2 with ⟨h, _⟩ | ⟨g, cap, cur, h, _, hg, _, _, hs, _⟩
    · simp at h
    · simp only [Value.slice.injEq, Option.some.injEq, Addr.mk.injEq, and_true, true_and] at h
      obtain ⟨rfl, rfl⟩ := h
      exact ⟨cur.toList, by simpa using hs, by simpa using hg, by simp⟩
  clear hown1 hgrow1
  go_loopw [6, 14] (fun m i wr => ∃ k : Nat, k ≤ n ∧ i = .int .i64 k ∧ m = .int .i64 (without (xs.take k) id).length ∧ Part wr w.heap.size n (without (xs.take k) id) ∧ Below w.heap.size w wr)
    (fun _ i _ => n - (intOf i).toNat)
  case atStart => exact ⟨0, Nat.zero_le _, rfl, rfl, P0, hB1⟩
  case round =>
    obtain ⟨k, hk, rfl, rfl, P, hB⟩ := hrel
    have hml := without_take xs id k
    by_cases hlt : k < n
    · obtain ⟨b, off, rfl, hb, hcell⟩ := hr.open1 (by omega)
      have hcx : wr.cell? ⟨b, off + k, none⟩ = some (.int .i64 (xs.getD k 0)) := (hB.cell (p := ⟨b, off + k, none⟩) hb).trans (hcell k hlt)
      clear hcell
      have hit := fun h => without_hit xs id k (by rw [← HN.out]; exact hlt) h
      have miss := fun h => without_miss xs id k (by rw [← HN.out]; exact hlt) h
      have Hit := hide hit
      have Miss := hide miss
      clear hit miss
      obtain ⟨x, hx⟩ : ∃ x, x = xs.getD k 0 := ⟨_, rfl⟩
      rw [← hx] at hcx Hit Miss
      obtain ⟨m, hm⟩ : ∃ m, m = (without (xs.take k) id).length := ⟨_, rfl⟩
      rw [← hm] at hml
      simp only [← hm]
      have Hm := hide hm
      clear hm hx
      obtain ⟨cur, h1, h2, h3⟩ := P.ex
      clear P
      by_cases hxd : x = id
      · go_wp2
        go_roundw
        case rel =>
          refine ⟨k + 1, by omega, by go_num, ?_, ?_, hB⟩
          · rw [Miss.out hxd, ← Hm.out]
          · rw [Miss.out hxd]; exact ⟨cur, h1, h2, h3⟩
        case measure => simp [intOf]; omega
      · have hnew := fun (W : World) => cell_one_new W (.int .i64 x) 3
        have Hnew := hide hnew
        clear hnew
        have hsz : (Tryz.prog.info? 3).map (·.size) = some 1 := by simp [hi, hz1]
        have Hsz := hide hsz
        clear hsz
        have hgs : w.heap.size < wr.heap.size := lt_of_block h2
        go_wp2_with (refine wpList_copy_splice rfl (.tmp 24) (.tmp 26) 38 38 rfl 3 Tryz.underlying38 Hsz.out _ _ _ _ _ _ rfl rfl w.heap.size m cur 3 ?c1 [.int .i64 x] ?c2 ?c3 ?c4 ?c5 w.heap.size w ?c6 (Nat.le_refl _) ?_)
        case c1 => exact (Below.heap_alloc _ _ _ hgs).trans h2
        case c2 => exact (Nat.min_eq_left (show 1 ≤ n - m by omega)).symm
        case c4 => simp; omega
        case c5 => intro u hu; simp at hu; subst hu; rfl
        case c6 => exact hB.alloc (by omega) _
        intro w2 HG hB2
        have hP := Part.step (g := w.heap.size) h1 h3 (by rw [← Hm.out]; omega) (by rw [← Hm.out]; exact HG.out)
        have HP := hide hP
        clear hP HG h2 h3 hB hcx
        go_wp2
        go_roundw
        case rel =>
          refine ⟨k + 1, by omega, by go_num, ?_, ?_, hB2⟩
          · rw [Hit.out hxd, List.length_append, ← Hm.out]; go_num
          · rw [Hit.out hxd]; exact HP.out
        case measure => simp [intOf]; omega
    · have hkn : k = n := by omega
      subst hkn
      have Htk : Hid (xs.take k = xs) := by rw [HN.out]; exact List.take_length
      go_wp2
      go_ret
      simp only [Htk.out] at P ⊢
      exact ⟨rfl, P, hB⟩

theorem drop_any (w : World) (v : Value) (xs : List Int) (id : Int) (hr : Rd w v 1 xs.length (xs.map (Value.int .i64))) (hlen : xs.length ≤ 1000000) :
   Calls Tryz.prog 98 #[v, .int .i64 id] w fun e w' => ∃ v', e = .returned v' ∧ w'.ownsRow w.heap.size 3 1 v' (without xs id).length ((without xs id).map (Value.int .i64)) ∧ Below w.heap.size w w' :=
  (drop_at w v xs id hr hlen).mono fun _ _ ⟨he, P, hB⟩ => ⟨_, he, P.own (Nat.le_refl _) (without_le _ _) (by unfold maxLen; omega), hB⟩

theorem top_any (w : World) (v : Value) (xs : List Int) (d : Int) (hr : Rd w v 1 xs.length (xs.map (Value.int .i64))) (hlen : xs.length ≤ 1000000) :
   Calls Tryz.prog 92 #[v, .int .i64 d] w fun e w' => ∃ v', e = .returned v' ∧ w'.ownsRow w.heap.size 3 1 v' ((without xs d).length + 1) ((without xs d ++ [d]).map (Value.int .i64)) ∧ Below w.heap.size w w' := by
  obtain ⟨i0, hi, hz0, hz1, hz2⟩ := info_parts Tryz.infoInt
  go_enter Tryz.func92, Tryz.ntmps92
  go_wp2_with fail
  refine (drop_any _ v xs d hr hlen).mono ?_
  rintro e w1 ⟨v1, rfl, hown, hB⟩
  have hle := without_le xs d
  obtain ⟨A1, c1, rfl, hc1⟩ := own_form hown
  go_wp2_with (at_builtin; refine wpList_append_own _ rfl _ _ 38 rfl w.heap.size 3 i0 (.int .i64 0) 1 8 Tryz.underlying38 hi hz0 hz1 hz2 rfl (by decide) _ _ _ rfl (hown.alloc _) ⟨w1.heap.size, 0, none⟩ 1 1 [.int .i64 d] rfl rfl (cell_one_new _ _ _) ?c2 (by unfold maxLen; omega) (by omega) (by have := hB.size; simp; omega) ?_)
  case c2 => intro u hu; simp at hu; subst hu; rfl
  intro v' w2 hown' hgrow _
  obtain ⟨A2, c2, rfl, hc2⟩ := own_form hown'
  have hB2 : Below w.heap.size w w2 := (hB.alloc hB.size _).grown hgrow (by have := hB.size; simp; omega) (fun k hk => (hown.lt k hk).1)
  go_wp2
  go_ret
  exact ⟨_, rfl, by simpa using hown', hB2⟩
end Go.Proofs.YthkjicnnepkghaaGreatDoor
namespace Go.Proofs.YthkjicnnepkghaaGreatDoor
open Go.RowKit

structure R4 where
  x : Int
  y : Int
  w : Int
  h : Int
deriving DecidableEq
instance : Inhabited R4 := ⟨⟨0, 0, 0, 0⟩⟩
def R4.enc (r : R4) : List Value := [.int .i64 r.x, .int .i64 r.y, .int .i64 r.w, .int .i64 r.h]
def R4.val (r : R4) : Value := .agg #[.int .i64 r.x, .int .i64 r.y, .int .i64 r.w, .int .i64 r.h]
theorem R4.len (r : R4) : r.enc.length = 4 := rfl
structure Ch where
  id : Int
  x : Int
  y : Int
deriving DecidableEq
instance : Inhabited Ch := ⟨⟨0, 0, 0⟩⟩
def Ch.enc (c : Ch) : List Value := [.int .i64 c.id, .int .i64 c.x, .int .i64 c.y]
def Ch.val (c : Ch) : Value := .agg #[.int .i64 c.id, .int .i64 c.x, .int .i64 c.y]
theorem Ch.len (c : Ch) : c.enc.length = 3 := rfl

structure St where
  attach : Bool
  buffer : Int
  damage : List R4
  frames : List Int
  input : Bool
  all : Bool
  region : List R4
  ordered : Bool
  order : List Int
  places : List Ch
deriving DecidableEq
def St.zero : St := ⟨false, 0, [], [], false, false, [], false, [], []⟩
instance : Inhabited St := ⟨St.zero⟩
def St.first : St := ⟨false, 0, [], [], false, true, [], false, [0], []⟩

def findP (l : List Ch) (id : Int) : Option Ch := l.find? fun c => c.id == id
def putP : List Ch → Ch → List Ch
  | [], c => [c]
  | x :: l, c => if x.id = c.id then c :: l else x :: putP l c
def putsP (a b : List Ch) : List Ch := b.foldl putP a
def dropP (l : List Ch) (id : Int) : List Ch := l.filter fun c => c.id != id
def mergeT (a b : St) : St where
  attach := a.attach || b.attach
  buffer := if b.attach then b.buffer else a.buffer
  damage := a.damage ++ b.damage
  frames := a.frames ++ b.frames
  input := a.input || b.input
  all := if b.input then b.all else a.all
  region := if b.input then b.region else a.region
  ordered := a.ordered || b.ordered
  order := if b.ordered then b.order else a.order
  places := putsP a.places b.places
def applyT (now s : St) : St := { mergeT now s with attach := false, damage := [], input := false, ordered := false }
def noneT (s : St) : Bool := !s.attach && s.damage.isEmpty && s.frames.isEmpty && !s.input && !s.ordered && s.places.isEmpty

theorem putP_len (l : List Ch) (c : Ch) : (putP l c).length ≤ l.length + 1 := by
  induction l with
  | nil => simp [putP]
  | cons x l ih => unfold putP; split <;> simp <;> omega
theorem putP_ge (l : List Ch) (c : Ch) : l.length ≤ (putP l c).length := by
  induction l with
  | nil => simp [putP]
  | cons x l ih => unfold putP; split <;> simp <;> omega
theorem putsP_len (b : List Ch) : ∀ a, (putsP a b).length ≤ a.length + b.length := by
  induction b with
  | nil => intro a; simp [putsP]
  | cons c b ih =>
    intro a
    have h1 := ih (putP a c)
    have h2 := putP_len a c
    unfold putsP at h1 ⊢
    simp only [List.foldl_cons, List.length_cons]
    omega
theorem putsP_snoc (a b : List Ch) (c : Ch) : putsP a (b ++ [c]) = putP (putsP a b) c := by unfold putsP; rw [List.foldl_append]; rfl
theorem putP_none {l : List Ch} {c : Ch} (h : ∀ x ∈ l, x.id ≠ c.id) : putP l c = l ++ [c] := by
  induction l with
  | nil => rfl
  | cons x l ih =>
    unfold putP
    rw [if_neg (h x (by simp)), ih fun y hy => h y (by simp [hy])]
    rfl
theorem putP_at {l : List Ch} {c : Ch} : ∀ {k : Nat}, k < l.length → (l.getD k default).id = c.id → (∀ j, j < k → (l.getD j default).id ≠ c.id) → putP l c = l.set k c := by
  induction l with
  | nil => intro k hk; simp at hk
  | cons x l ih =>
    intro k hk he hf
    cases k with
    | zero =>
      have he : x.id = c.id := he
      unfold putP; rw [if_pos he]; rfl
    | succ k =>
      have h0 : x.id ≠ c.id := hf 0 (by omega)
      unfold putP
      rw [if_neg h0, ih (by simpa using hk) he fun j hj => hf (j + 1) (by omega)]
      rfl

structure Sf where
  parent : Int
  sync : Bool
  pe : St
  ca : St
  cu : St
deriving DecidableEq
instance : Inhabited Sf := ⟨⟨0, false, St.zero, St.zero, St.zero⟩⟩
def Sf.latest (s : Sf) : List Int := if s.pe.ordered then s.pe.order else if s.ca.ordered then s.ca.order else s.cu.order
abbrev Fo := Int → Option Sf
def setM (M : Fo) (id : Int) (v : Option Sf) : Fo := fun i => if i = id then v else M i
def parM (M : Fo) (id : Int) : Int := match M id with | some s => s.parent | none => 0
def CntM (M : Fo) (k : Nat) : Prop := ∃ l : List Int, l.Nodup ∧ l.length = k ∧ ∀ x, x ∈ l ↔ (M x).isSome = true

def faddK (M : Fo) (k : Nat) (id : Int) : Nat := if id < 1 then 1 else if (M id).isSome then 5 else if 40 ≤ k then 4 else 0
def newSf : Sf := ⟨0, false, St.zero, St.zero, St.first⟩
def faddS (M : Fo) (k : Nat) (id : Int) : Fo := if faddK M k id = 0 then setM M id (some newSf) else M

inductive Up (M : Fo) (id : Int) : Int → Prop
  | here : 0 < id → Up M id id
  | up {x : Int} : 0 < x → Up M id (parM M x) → Up M id x
inductive Syn (M : Fo) : Int → Prop
  | here {id : Int} {s : Sf} : M id = some s → s.parent ≠ 0 → s.sync = true → Syn M id
  | up {id : Int} {s : Sf} : M id = some s → s.parent ≠ 0 → Syn M s.parent → Syn M id

open Classical in
noncomputable def fsubK (M : Fo) (id parent : Int) : Nat := match M id, M parent with
  | some s, some _ => if s.parent ≠ 0 then 10 else if Up M id parent then 11 else 0
  | _, _ => 5
def orderT (s : Sf) (l : List Int) : Sf := { s with pe := { s.pe with ordered := true, order := l } }
def placeT (s : Sf) (c : Ch) : Sf := { s with pe := { s.pe with places := putP s.pe.places c } }
def subbed (M : Fo) (id parent : Int) : Fo := match M id, M parent with
  | some s, some p => setM (setM M id (some { s with parent := parent, sync := true })) parent (some (placeT (orderT p (without p.latest id ++ [id])) ⟨id, 0, 0⟩))
  | _, _ => M
noncomputable def fsubS (M : Fo) (id parent : Int) : Fo := if fsubK M id parent = 0 then subbed M id parent else M

def childK (M : Fo) (id : Int) : Nat := match M id with
  | none => 5
  | some s => if s.parent = 0 then 10 else 0
def cutT (s : St) (id : Int) : St := { s with order := without s.order id, places := dropP s.places id }
def cutSf (p : Sf) (id : Int) : Sf := { p with pe := cutT p.pe id, ca := cutT p.ca id, cu := cutT p.cu id }
def funsubS (M : Fo) (id : Int) : Fo := match M id with
  | none => M
  | some s => match M s.parent with
    | none => M
    | some p => if s.parent = 0 then M else setM (setM M id (some { s with parent := 0 })) s.parent (some (cutSf p id))
def fdropK (M : Fo) (id : Int) : Nat := if (M id).isSome then 0 else 5
def orphan (M : Fo) (id : Int) : Fo := fun j => (M j).map fun s => if s.parent = id then { s with parent := 0 } else s
def fdropS (M : Fo) (id : Int) : Fo := if (M id).isSome then setM (orphan (funsubS M id) id) id none else M

def thereK (M : Fo) (id : Int) : Nat := if (M id).isSome then 0 else 5
def turnS (M : Fo) (id : Int) (f : St → St) : Fo := match M id with
  | none => M
  | some s => setM M id (some { s with pe := f s.pe })
def attachT (b : Int) (s : St) : St := { s with attach := true, buffer := b }
def damageT (r : R4) (s : St) : St := { s with damage := s.damage ++ [r] }
def frameT (c : Int) (s : St) : St := { s with frames := s.frames ++ [c] }
def inputT (a : Bool) (l : List R4) (s : St) : St := { s with input := true, all := a, region := if a then [] else l }
def cutF (n : Int) : Int := max (-16777216) (min n 16777216)
def fposS (M : Fo) (id x y : Int) : Fo := match M id with
  | none => M
  | some s => match M s.parent with
    | none => M
    | some p => if s.parent = 0 then M else setM M s.parent (some (placeT p ⟨id, cutF x, cutF y⟩))
def fsyncS (M : Fo) (id : Int) (on : Bool) : Fo := match M id with
  | none => M
  | some s => if s.parent = 0 then M else setM M id (some { s with sync := on })
end Go.Proofs.YthkjicnnepkghaaGreatDoor
namespace Go.Proofs.YthkjicnnepkghaaGreatDoor
open Go.RowKit

theorem Tryz.infoIntA : (Tryz.prog.info? 3).map (fun i => (i.zero, i.size, i.bytes)) = some (some (.int .i64 0), 1, 8) := by kernel_rfl

theorem Rd.take {w : World} {A : Option Addr} {n c sz : Nat} {cs : List Value} (h : Rd w (.slice A n c) sz n cs) (m : Nat) (hm : m ≤ n) : Rd w (.slice A m c) sz m (cs.take (m * sz)) := by
  obtain ⟨h1, A', c', hv, hc, h2⟩ := h
  simp only [Value.slice.injEq] at hv
  obtain ⟨rfl, _, rfl⟩ := hv
  have h3 : m * sz ≤ n * sz := Nat.mul_le_mul_right _ hm
  refine ⟨by simp; omega, A, c, rfl, by omega, fun h0 => ?_⟩
  obtain ⟨b, off, rfl, hb, hcell⟩ := h2 (by omega)
  refine ⟨b, off, rfl, hb, fun j u hj => hcell j u ?_⟩
  rw [List.getElem?_take] at hj
  split at hj
  · exact hj
  · cases hj

theorem Rd.drop {w : World} {b off : Nat} {n c sz : Nat} {cs : List Value} (h : Rd w (.slice (some ⟨b, off, none⟩) n c) sz n cs) (m : Nat) (hm : m ≤ n) : Rd w (.slice (some ⟨b, off + m * sz, none⟩) (n - m) (c - m)) sz (n - m) (cs.drop (m * sz)) := by
  obtain ⟨h1, A', c', hv, hc, h2⟩ := h
  simp only [Value.slice.injEq] at hv
  obtain ⟨rfl, _, rfl⟩ := hv
  refine ⟨by simp [h1, Nat.sub_mul], _, c - m, rfl, by omega, fun h0 => ?_⟩
  obtain ⟨b', off', hh, hb, hcell⟩ := h2 (by omega)
  simp only [Option.some.injEq, Addr.mk.injEq, and_true] at hh
  obtain ⟨rfl, rfl⟩ := hh
  refine ⟨b, off + m * sz, rfl, hb, fun j u hj => ?_⟩
  rw [Nat.add_assoc]
  exact hcell _ u (by rwa [List.getElem?_drop] at hj)

theorem wpList_append_rd {P : Program} {w : World} {ops : Array Oper} {rest : List Oper} {o : Oper} {a : Act} {Q : Exit → Act → World → Prop} (hgd : o.guard = none) (s x : Operand) (t : TypeId)
    (ho : o.op = .call { callee := .builtin .append, args := #[s, x], argTypes := #[t, t] })
    (base : Nat) (e : TypeId) (i : TypeInfo) (z : Value) (size bytes : Nat) (ht : P.underlying t = some (.slice e)) (hi : P.info? e = some i) (hz : i.zero = some z)
    (hsize : i.size = size) (hby : i.bytes = bytes) (hzs : z.cells.size = size) (hsz : 0 < size)
    (v : Value) (n : Nat) (xs : List Value) (hs : a.eval s = v) (hown : w.ownsRow base e size v n xs)
    (A : Option Addr) (m c : Nat) (news : List Value) (hx : a.eval x = .slice A m c) (hr : Rd w (.slice A m c) size m news) (h1 : ∀ u ∈ news, u.oneCell' = true)
    (h63 : n + m ≤ maxLen) (hbytes : (n + m) * bytes ≤ 140737488355328) (hbase : base ≤ w.heap.size)
    (h : ∀ v' w', w'.ownsRow base e size v' (n + m) (xs ++ news) → w.grownBy w' v.ownBlock → wpList P ops Q rest (a.put o.dst v') w') : wpList P ops Q (o :: rest) a w := by
  obtain ⟨h1', A', c', hv, hc, h2⟩ := hr
  simp only [Value.slice.injEq] at hv
  obtain ⟨rfl, _, rfl⟩ := hv
  cases A with
  | some ad =>
    refine wpList_append_own w hgd s x t ho base e i z size bytes ht hi hz hsize hby hzs hsz v n xs hs hown ad m c news hx h1' (fun j u hj => ?_) h1 h63 hbytes hbase fun v' w' a1 a2 _ => h v' w' a1 a2
    by_cases hm : 0 < m
    · obtain ⟨b, off, hb, _, hc2⟩ := h2 hm
      simp only [Option.some.injEq] at hb
      subst hb
      rw [addr_add]; exact hc2 j u hj
    · obtain rfl : m = 0 := by omega
      simp at h1'; subst h1'; simp at hj
  | none =>
    have hm : m = 0 := by
      rcases Nat.eq_zero_or_pos m with h | h
      · exact h
      · obtain ⟨b, off, hb, _⟩ := h2 h; cases hb
    subst hm
    obtain rfl : news = [] := by simpa using h1'
    refine wpList_plain hgd fun K hK => ?_
    have hrun : (Builtin.append_ #[t, t] o.type #[v, .slice none 0 c]).run P w = .ok v w := by
      rcases hown.2 with ⟨rfl, rfl⟩ | ⟨g, cap, cur, rfl, _, _, hnc, _⟩
      · simp [Builtin.append_, run_underlying ht, sizeOf, typeInfo, hi, Builtin.lenOf, Builtin.firstCells]
      · simp [Builtin.append_, run_underlying ht, sizeOf, typeInfo, hi, Builtin.lenOf, Builtin.firstCells, hnc, storeCells]
    unfold Oper.wp
    simp [execOp, ho, resolve, invoke, builtin, hs, hx, hrun, Result.andThen]
    exact hK _ _ (h v w (by simpa using hown) ⟨rfl, rfl, rfl, Nat.le_refl _, fun _ _ _ => rfl⟩)

theorem ints_any (w : World) (v : Value) (xs : List Int) (hr : Rd w v 1 xs.length (xs.map (Value.int .i64))) (hlen : xs.length ≤ 1000000) :
    Calls Tryz.prog 47 #[v] w fun e w' => ∃ v', e = .returned v' ∧ w'.ownsRow w.heap.size 3 1 v' xs.length (xs.map (Value.int .i64)) ∧ Below w.heap.size w w' := by
  obtain ⟨i0, hi, hz0, hz1, hz2⟩ := info_parts Tryz.infoIntA
  have hr0 := hr
  obtain ⟨_, A, c, rfl, hc, _⟩ := hr0
  obtain ⟨n, hn⟩ : ∃ n, n = xs.length := ⟨_, rfl⟩
  rw [← hn] at hr hlen hc ⊢
  go_enter Tryz.func47, Tryz.ntmps47
  go_wp2_with (at_builtin; refine wpList_append_rd rfl _ _ 38 rfl w.heap.size 3 i0 (.int .i64 0) 1 8 Tryz.underlying38 hi hz0 hz1 hz2 rfl (by decide) _ 0 [] rfl (World.ownsRow_nil _ _ _ _) A n c _ rfl hr (by intro u hu; simp at hu; obtain ⟨x, _, rfl⟩ := hu; rfl) (by unfold maxLen; omega) (by omega) (Nat.le_refl _) ?_; intro v2 w2 hown2 hg2)
  have hB : Below w.heap.size w w2 := (Below.refl _ _).grown hg2 (Nat.le_refl _) (fun k e => by cases e)
  obtain ⟨A2, c2, rfl, hc2⟩ := own_form hown2
  go_wp2
  go_ret
  exact ⟨_, rfl, by simpa using hown2, hB⟩
end Go.Proofs.YthkjicnnepkghaaGreatDoor
namespace Go.Proofs.YthkjicnnepkghaaGreatDoor
open Go.RowKit

theorem results_cell_tmp_row {P : Program} {fn : Func} {p u : Tmp} {ty : TypeId} (h : fn.results = #[.cell p ty, .tmp u]) (tmps : Array Value) (w : World) (g : Nat) (t : TypeId) (cs : Array Value) (fr : Nat × Nat) (d : TypeDesc)
    (hp : tmps.getD p undef = .pointer (some ⟨g, 0, none⟩)) (hg : w.heap[g]? = some (.cells cs t fr))
    (hu : P.underlying ty = some d) (hd : (match d with | .struct _ | .array _ _ => true | _ => false) = true) (hi : (P.info? ty).map (·.size) = some cs.size) :
    (results fn tmps).run P w = .ok (.tuple #[.agg cs, tmps.getD u undef]) w := by
  rw [results_cell_tmp h, hp]
  simp [asAddr, run_loadVar_row w g t ty cs fr d hg hu hd hi, Result.andThen]
end Go.Proofs.YthkjicnnepkghaaGreatDoor
namespace Go.Proofs.YthkjicnnepkghaaGreatDoor
open Go.RowKit

def TidyT (s : St) : Prop := (s.attach = false → s.buffer = 0) ∧ (s.input = false → s.all = false ∧ s.region = []) ∧ (s.ordered = false → s.order = [])
def NowT (s : St) : Prop := s.attach = false ∧ s.damage = [] ∧ s.input = false ∧ s.ordered = false
def Kids (M : Fo) (id : Int) (l : List Int) : Prop := ∀ x ∈ l, x = 0 ∨ ∃ k, M x = some k ∧ k.parent = id

structure GoodM (M : Fo) : Prop where
  pos : ∀ id s, M id = some s → 1 ≤ id ∧ I64 id
  par : ∀ id s, M id = some s → s.parent ≠ 0 → ∃ p, M s.parent = some p
  rank : ∃ (rk : Int → Nat) (B : Nat), ∀ id s, M id = some s → rk id ≤ B ∧ (s.parent ≠ 0 → rk s.parent < rk id)
  kids : ∀ id s, M id = some s → Kids M id s.pe.order ∧ Kids M id s.ca.order ∧ Kids M id s.cu.order
  tidy : ∀ id s, M id = some s → TidyT s.pe ∧ TidyT s.ca ∧ NowT s.cu

section
variable {M : Fo} {id : Int} {s : Sf}
theorem setM_same (M : Fo) (id : Int) (v : Option Sf) : setM M id v id = v := by simp [setM]
theorem setM_other (M : Fo) {id j : Int} (v : Option Sf) (h : j ≠ id) : setM M id v j = M j := by simp [setM, h]
theorem setM_eq {M : Fo} {id j : Int} {v : Option Sf} {s : Sf} (h : setM M id v j = some s) : (j = id ∧ v = some s) ∨ (j ≠ id ∧ M j = some s) := by
  unfold setM at h
  by_cases e : j = id
  · rw [if_pos e] at h; exact .inl ⟨e, h⟩
  · rw [if_neg e] at h; exact .inr ⟨e, h⟩
theorem GoodM.empty : GoodM (fun _ => none) := ⟨by simp, by simp, ⟨fun _ => 0, 0, by simp⟩, by simp, by simp⟩
theorem parM_some (h : M id = some s) : parM M id = s.parent := by simp [parM, h]
theorem GoodM.par_pos (h : GoodM M) (hs : M id = some s) (hp : s.parent ≠ 0) : 1 ≤ s.parent ∧ I64 s.parent := by
  obtain ⟨p, hp'⟩ := h.par id s hs hp
  exact h.pos _ _ hp'
theorem GoodM.par_nn (h : GoodM M) (hs : M id = some s) : 0 ≤ s.parent ∧ I64 s.parent := by
  by_cases hp : s.parent = 0
  · rw [hp]; exact ⟨by omega, i64_zero⟩
  · have := h.par_pos hs hp; exact ⟨by omega, this.2⟩
theorem GoodM.par_ne (h : GoodM M) (hs : M id = some s) (hp : s.parent ≠ 0) : s.parent ≠ id := fun e => by
  obtain ⟨rk, B, hr⟩ := h.rank
  have := (hr id s hs).2 hp
  rw [e] at this; omega

theorem Kids.nil (M : Fo) (id : Int) : Kids M id [] := fun x hx => by simp at hx
theorem Kids.mono {M' : Fo} {l : List Int} (h : Kids M id l) (hk : ∀ x k, M x = some k → k.parent = id → ∃ k', M' x = some k' ∧ k'.parent = id) : Kids M' id l := fun x hx => by
  rcases h x hx with h1 | ⟨k, h1, h2⟩
  · exact .inl h1
  · exact .inr (hk x k h1 h2)
theorem Kids.sub {l l' : List Int} (h : Kids M id l) (hl : ∀ x ∈ l', x ∈ l) : Kids M id l' := fun x hx => h x (hl x hx)

theorem GoodM.turn (h : GoodM M) (hs : M id = some s) {s' : Sf} (hp : s'.parent = s.parent) (hk : Kids M id s'.pe.order ∧ Kids M id s'.ca.order ∧ Kids M id s'.cu.order) (ht : TidyT s'.pe ∧ TidyT s'.ca ∧ NowT s'.cu) : GoodM (setM M id (some s')) := by
  have key : ∀ j t, setM M id (some s') j = some t → ∃ t0, M j = some t0 ∧ t.parent = t0.parent := fun j t hj => by
    rcases setM_eq hj with ⟨rfl, e⟩ | ⟨_, e⟩
    · cases e; exact ⟨s, hs, hp⟩
    · exact ⟨t, e, rfl⟩
  have key2 : ∀ j t0, M j = some t0 → ∃ t, setM M id (some s') j = some t ∧ t.parent = t0.parent := fun j t0 hj => by
    by_cases e : j = id
    · subst e; rw [hs] at hj; cases hj; exact ⟨s', setM_same _ _ _, hp⟩
    · exact ⟨t0, by rw [setM_other _ _ e]; exact hj, rfl⟩
  have hkid : ∀ j l, Kids M j l → Kids (setM M id (some s')) j l := fun j l hl => hl.mono fun x k hx hxp => by
    obtain ⟨t, h1, h2⟩ := key2 x k hx
    exact ⟨t, h1, h2.trans hxp⟩
  refine ⟨fun j t hj => ?_, fun j t hj hjp => ?_, ?_, fun j t hj => ?_, fun j t hj => ?_⟩
  · obtain ⟨t0, h1, _⟩ := key j t hj; exact h.pos _ _ h1
  · obtain ⟨t0, h1, h2⟩ := key j t hj
    rw [h2] at hjp ⊢
    obtain ⟨p, h3⟩ := h.par _ _ h1 hjp
    obtain ⟨p', h4, _⟩ := key2 _ _ h3
    exact ⟨p', h4⟩
  · obtain ⟨rk, B, hr⟩ := h.rank
    refine ⟨rk, B, fun j t hj => ?_⟩
    obtain ⟨t0, h1, h2⟩ := key j t hj
    rw [h2]
    exact hr _ _ h1
  · rcases setM_eq hj with ⟨rfl, e⟩ | ⟨_, e⟩
    · cases e
      exact ⟨hkid _ _ hk.1, hkid _ _ hk.2.1, hkid _ _ hk.2.2⟩
    · have := h.kids _ _ e
      exact ⟨hkid _ _ this.1, hkid _ _ this.2.1, hkid _ _ this.2.2⟩
  · rcases setM_eq hj with ⟨rfl, e⟩ | ⟨_, e⟩
    · cases e; exact ht
    · exact h.tidy _ _ e

theorem tidy_zero : TidyT St.zero := ⟨fun _ => rfl, fun _ => ⟨rfl, rfl⟩, fun _ => rfl⟩
theorem now_first : NowT St.first := ⟨rfl, rfl, rfl, rfl⟩

theorem GoodM.add (h : GoodM M) (k : Nat) (hi : I64 id) : GoodM (faddS M k id) := by
  unfold faddS
  split
  · rename_i hk
    have hid : 1 ≤ id := by
      unfold faddK at hk
      by_cases e : id < 1
      · rw [if_pos e] at hk; cases hk
      · omega
    have hn : M id = none := by
      unfold faddK at hk
      rw [if_neg (by omega)] at hk
      cases e : M id with
      | none => rfl
      | some v => rw [e] at hk; simp at hk
    have old : ∀ j t, M j = some t → setM M id (some newSf) j = some t := fun j t hj => by
      have : j ≠ id := fun e => by rw [e, hn] at hj; cases hj
      rw [setM_other _ _ this]; exact hj
    have hkid : ∀ j l, Kids M j l → Kids (setM M id (some newSf)) j l := fun j l hl => hl.mono fun x k hx hxp => ⟨k, old _ _ hx, hxp⟩
    obtain ⟨rk, B, hr⟩ := h.rank
    refine ⟨fun j t hj => ?_, fun j t hj hjp => ?_, ⟨fun j => if j = id then 0 else rk j, B, fun j t hj => ?_⟩, fun j t hj => ?_, fun j t hj => ?_⟩
    · rcases setM_eq hj with ⟨rfl, e⟩ | ⟨_, e⟩
      · exact ⟨hid, hi⟩
      · exact h.pos _ _ e
    · rcases setM_eq hj with ⟨rfl, e⟩ | ⟨_, e⟩
      · cases e; exact absurd rfl hjp
      · obtain ⟨p, h3⟩ := h.par _ _ e hjp
        exact ⟨p, old _ _ h3⟩
    · rcases setM_eq hj with ⟨rfl, e⟩ | ⟨hne, e⟩
      · cases e; exact ⟨by simp, fun hp => absurd rfl hp⟩
      · have := hr _ _ e
        dsimp only
        rw [if_neg hne]
        refine ⟨this.1, fun hp => ?_⟩
        obtain ⟨p, h3⟩ := h.par _ _ e hp
        have hpi : t.parent ≠ id := fun e2 => by rw [e2, hn] at h3; cases h3
        rw [if_neg hpi]
        exact this.2 hp
    · rcases setM_eq hj with ⟨rfl, e⟩ | ⟨_, e⟩
      · cases e
        exact ⟨Kids.nil _ _, Kids.nil _ _, fun x hx => .inl (by simpa [newSf, St.first] using hx)⟩
      · have := h.kids _ _ e
        exact ⟨hkid _ _ this.1, hkid _ _ this.2.1, hkid _ _ this.2.2⟩
    · rcases setM_eq hj with ⟨rfl, e⟩ | ⟨_, e⟩
      · cases e; exact ⟨tidy_zero, tidy_zero, now_first⟩
      · exact h.tidy _ _ e
  · exact h

theorem Up.pos {x : Int} (h : Up M id x) : 0 < x := by cases h <;> assumption
theorem Up.parent {x : Int} (h : Up M id x) (hx : x ≠ id) : Up M id (parM M x) := by
  cases h with
  | here => exact absurd rfl hx
  | up _ h' => exact h'

theorem latest_kids (h : GoodM M) (hs : M id = some s) : Kids M id s.latest := by
  have := h.kids _ _ hs
  unfold Sf.latest
  split
  · exact this.1
  · split
    · exact this.2.1
    · exact this.2.2

theorem GoodM.subs {parent : Int} {p : Sf} (h : GoodM M) (hs : M id = some s) (hp : M parent = some p) (h0 : s.parent = 0) (hu : ¬ Up M id parent) : GoodM (subbed M id parent) := by
  have hip := h.pos _ _ hs
  have hpp := h.pos _ _ hp
  have hne : parent ≠ id := fun e => hu (by rw [e]; exact .here (by omega))
  have e0 : subbed M id parent = setM (setM M id (some { s with parent := parent, sync := true })) parent (some (placeT (orderT p (without p.latest id ++ [id])) ⟨id, 0, 0⟩)) := by
    unfold subbed; rw [hs, hp]
  rw [e0]
  have hM' : ∀ j t, setM (setM M id (some { s with parent := parent, sync := true })) parent (some (placeT (orderT p (without p.latest id ++ [id])) ⟨id, 0, 0⟩)) j = some t →
      (j = parent ∧ t = placeT (orderT p (without p.latest id ++ [id])) ⟨id, 0, 0⟩) ∨ (j = id ∧ t = { s with parent := parent, sync := true }) ∨ (j ≠ parent ∧ j ≠ id ∧ M j = some t) := fun j t hj => by
    rcases setM_eq hj with ⟨rfl, e⟩ | ⟨h1, e⟩
    · exact .inl ⟨rfl, (Option.some.inj e).symm⟩
    · rcases setM_eq e with ⟨h3, e3⟩ | ⟨h2, e2⟩
      · exact .inr (.inl ⟨h3, (Option.some.inj e3).symm⟩)
      · exact .inr (.inr ⟨h1, h2, e2⟩)
  have old : ∀ j t, M j = some t → ∃ t', setM (setM M id (some { s with parent := parent, sync := true })) parent (some (placeT (orderT p (without p.latest id ++ [id])) ⟨id, 0, 0⟩)) j = some t' ∧ (j ≠ id → t'.parent = t.parent) := fun j t hj => by
    by_cases e1 : j = parent
    · subst e1; rw [hp] at hj; cases hj; exact ⟨_, setM_same _ _ _, fun _ => rfl⟩
    · by_cases e2 : j = id
      · subst e2; exact ⟨_, by rw [setM_other _ _ e1]; exact setM_same _ _ _, fun h => absurd rfl h⟩
      · exact ⟨t, by rw [setM_other _ _ e1, setM_other _ _ e2]; exact hj, fun _ => rfl⟩
  have newid : setM (setM M id (some { s with parent := parent, sync := true })) parent (some (placeT (orderT p (without p.latest id ++ [id])) ⟨id, 0, 0⟩)) id = some { s with parent := parent, sync := true } := by
    rw [setM_other _ _ (fun e => hne e.symm)]; exact setM_same _ _ _
  generalize hMM : setM (setM M id (some { s with parent := parent, sync := true })) parent (some (placeT (orderT p (without p.latest id ++ [id])) ⟨id, 0, 0⟩)) = M' at *
  have hkid : ∀ j l, 1 ≤ j → Kids M j l → Kids M' j l := fun j l hj hl x hx => by
    rcases hl x hx with h1 | ⟨k, h1, h2⟩
    · exact .inl h1
    · by_cases e : x = id
      · subst e
        rw [hs] at h1; cases h1
        omega
      · obtain ⟨t', h3, h4⟩ := old _ _ h1
        exact .inr ⟨t', h3, (h4 e).trans h2⟩
  refine ⟨fun j t hj => ?_, fun j t hj hjp => ?_, ?_, fun j t hj => ?_, fun j t hj => ?_⟩
  · rcases hM' j t hj with ⟨rfl, _⟩ | ⟨rfl, _⟩ | ⟨_, _, e⟩
    · exact hpp
    · exact hip
    · exact h.pos _ _ e
  · rcases hM' j t hj with ⟨rfl, rfl⟩ | ⟨rfl, rfl⟩ | ⟨_, _, e⟩
    · obtain ⟨q, hq⟩ := h.par _ _ hp hjp
      obtain ⟨t', h3, _⟩ := old _ _ hq
      exact ⟨t', h3⟩
    · obtain ⟨t', h3, _⟩ := old _ _ hp
      exact ⟨t', h3⟩
    · obtain ⟨q, hq⟩ := h.par _ _ e hjp
      obtain ⟨t', h3, _⟩ := old _ _ hq
      exact ⟨t', h3⟩
  · obtain ⟨rk, B, hr⟩ := h.rank
    refine ⟨fun x => open Classical in if Up M id x then rk x + (rk parent + 1) else rk x, B + (B + 1), fun j t hj => ?_⟩
    have hB : rk parent ≤ B := (hr _ _ hp).1
    have hle : ∀ x t, M x = some t → (open Classical in if Up M id x then rk x + (rk parent + 1) else rk x) ≤ B + (B + 1) := fun x t hx => by
      have := (hr _ _ hx).1
      split <;> omega
    have hup : ∀ x t, M x = some t → x ≠ id → t.parent ≠ 0 → (open Classical in if Up M id t.parent then rk t.parent + (rk parent + 1) else rk t.parent) < (open Classical in if Up M id x then rk x + (rk parent + 1) else rk x) := fun x t hx hxi htp => by
      have h1 := (hr _ _ hx).2 htp
      have h2 := (h.pos _ _ hx).1
      have h3 : Up M id x ↔ Up M id t.parent := by
        rw [← parM_some hx]
        exact ⟨fun h => h.parent hxi, fun h => .up (by omega) h⟩
      by_cases h4 : Up M id x
      · rw [if_pos h4, if_pos (h3.1 h4)]; omega
      · rw [if_neg h4, if_neg (fun h => h4 (h3.2 h))]; exact h1
    rcases hM' j t hj with ⟨rfl, rfl⟩ | ⟨rfl, rfl⟩ | ⟨_, e2, e⟩
    · have k1 := hup _ _ hp hne
      exact ⟨hle _ _ hp, k1⟩
    · refine ⟨hle _ _ hs, fun _ => ?_⟩
      show (open Classical in if Up M j parent then rk parent + (rk parent + 1) else rk parent) < (open Classical in if Up M j j then rk j + (rk parent + 1) else rk j)
      rw [if_neg hu, if_pos (Up.here (by omega))]
      omega
    · exact ⟨hle _ _ e, fun hpp => hup _ _ e e2 hpp⟩
  · rcases hM' j t hj with ⟨rfl, rfl⟩ | ⟨rfl, rfl⟩ | ⟨_, _, e⟩
    · have h1 := h.kids _ _ hp
      refine ⟨fun x hx => ?_, hkid _ _ hpp.1 h1.2.1, hkid _ _ hpp.1 h1.2.2⟩
      have hx : x ∈ without p.latest id ++ [id] := hx
      rcases List.mem_append.1 hx with hx | hx
      · exact hkid _ _ hpp.1 (latest_kids h hp) x (by simp [without] at hx; exact hx.1)
      · obtain rfl : x = id := by simpa using hx
        exact .inr ⟨_, newid, rfl⟩
    · have h1 := h.kids _ _ hs
      exact ⟨hkid _ _ hip.1 h1.1, hkid _ _ hip.1 h1.2.1, hkid _ _ hip.1 h1.2.2⟩
    · have h1 := h.kids _ _ e
      have h2 := (h.pos _ _ e).1
      exact ⟨hkid _ _ h2 h1.1, hkid _ _ h2 h1.2.1, hkid _ _ h2 h1.2.2⟩
  · rcases hM' j t hj with ⟨rfl, rfl⟩ | ⟨rfl, rfl⟩ | ⟨_, _, e⟩
    · have h1 := h.tidy _ _ hp
      exact ⟨⟨h1.1.1, h1.1.2.1, fun h => by cases h⟩, h1.2.1, h1.2.2⟩
    · have k1 := h.tidy _ _ hs
      exact k1
    · exact h.tidy _ _ e

theorem Kids.without {l : List Int} (h : Kids M id l) (x : Int) : Kids M id (without l x) := h.sub fun y hy => by simp [Go.Proofs.YthkjicnnepkghaaGreatDoor.without] at hy; exact hy.1
theorem tidy_cut {t : St} (h : TidyT t) (x : Int) : TidyT (cutT t x) := ⟨h.1, h.2.1, fun e => by show Go.Proofs.YthkjicnnepkghaaGreatDoor.without t.order x = []; rw [h.2.2 e]; rfl⟩
theorem now_cut {t : St} (h : NowT t) (x : Int) : NowT (cutT t x) := h

theorem GoodM.unsub {p : Sf} (h : GoodM M) (hs : M id = some s) (h0 : s.parent ≠ 0) (hp : M s.parent = some p) : GoodM (setM (setM M id (some { s with parent := 0 })) s.parent (some (cutSf p id))) := by
  have hip := h.pos _ _ hs
  have hpp := h.pos _ _ hp
  have hne : s.parent ≠ id := h.par_ne hs h0
  have hM' : ∀ j t, setM (setM M id (some { s with parent := 0 })) s.parent (some (cutSf p id)) j = some t →
      (j = s.parent ∧ t = cutSf p id) ∨ (j = id ∧ t = { s with parent := 0 }) ∨ (j ≠ s.parent ∧ j ≠ id ∧ M j = some t) := fun j t hj => by
    rcases setM_eq hj with ⟨rfl, e⟩ | ⟨h1, e⟩
    · exact .inl ⟨rfl, (Option.some.inj e).symm⟩
    · rcases setM_eq e with ⟨h3, e3⟩ | ⟨h2, e2⟩
      · exact .inr (.inl ⟨h3, (Option.some.inj e3).symm⟩)
      · exact .inr (.inr ⟨h1, h2, e2⟩)
  have old : ∀ j t, M j = some t → ∃ t', setM (setM M id (some { s with parent := 0 })) s.parent (some (cutSf p id)) j = some t' ∧ (j ≠ id → t'.parent = t.parent) := fun j t hj => by
    by_cases e1 : j = s.parent
    · subst e1; rw [hp] at hj; cases hj; exact ⟨_, setM_same _ _ _, fun _ => rfl⟩
    · by_cases e2 : j = id
      · subst e2; exact ⟨_, by rw [setM_other _ _ e1]; exact setM_same _ _ _, fun h => absurd rfl h⟩
      · exact ⟨t, by rw [setM_other _ _ e1, setM_other _ _ e2]; exact hj, fun _ => rfl⟩
  generalize hMM : setM (setM M id (some { s with parent := 0 })) s.parent (some (cutSf p id)) = M' at *
  have hkid : ∀ j l, (j = s.parent → id ∉ l) → Kids M j l → Kids M' j l := fun j l hj hl x hx => by
    rcases hl x hx with h1 | ⟨k, h1, h2⟩
    · exact .inl h1
    · by_cases e : x = id
      · subst e
        rw [hs] at h1; cases h1
        exact absurd hx (hj h2.symm)
      · obtain ⟨t', h3, h4⟩ := old _ _ h1
        exact .inr ⟨t', h3, (h4 e).trans h2⟩
  have hw : ∀ l : List Int, id ∉ Go.Proofs.YthkjicnnepkghaaGreatDoor.without l id := fun l hl => by simp [Go.Proofs.YthkjicnnepkghaaGreatDoor.without] at hl
  refine ⟨fun j t hj => ?_, fun j t hj hjp => ?_, ?_, fun j t hj => ?_, fun j t hj => ?_⟩
  · rcases hM' j t hj with ⟨rfl, _⟩ | ⟨rfl, _⟩ | ⟨_, _, e⟩
    · exact hpp
    · exact hip
    · exact h.pos _ _ e
  · rcases hM' j t hj with ⟨rfl, rfl⟩ | ⟨rfl, rfl⟩ | ⟨_, _, e⟩
    · obtain ⟨q, hq⟩ := h.par _ _ hp hjp
      obtain ⟨t', h3, _⟩ := old _ _ hq
      exact ⟨t', h3⟩
    · exact absurd rfl hjp
    · obtain ⟨q, hq⟩ := h.par _ _ e hjp
      obtain ⟨t', h3, _⟩ := old _ _ hq
      exact ⟨t', h3⟩
  · obtain ⟨rk, B, hr⟩ := h.rank
    refine ⟨rk, B, fun j t hj => ?_⟩
    rcases hM' j t hj with ⟨rfl, rfl⟩ | ⟨rfl, rfl⟩ | ⟨_, _, e⟩
    · have k1 := hr _ _ hp
      exact k1
    · exact ⟨(hr _ _ hs).1, fun h => absurd rfl h⟩
    · exact hr _ _ e
  · rcases hM' j t hj with ⟨rfl, rfl⟩ | ⟨rfl, rfl⟩ | ⟨e1, _, e⟩
    · have h1 := h.kids _ _ hp
      exact ⟨hkid _ _ (fun _ => hw _) (h1.1.without id), hkid _ _ (fun _ => hw _) (h1.2.1.without id), hkid _ _ (fun _ => hw _) (h1.2.2.without id)⟩
    · have h1 := h.kids _ _ hs
      exact ⟨hkid _ _ (fun e => absurd e.symm hne) h1.1, hkid _ _ (fun e => absurd e.symm hne) h1.2.1, hkid _ _ (fun e => absurd e.symm hne) h1.2.2⟩
    · have h1 := h.kids _ _ e
      exact ⟨hkid _ _ (fun e => absurd e e1) h1.1, hkid _ _ (fun e => absurd e e1) h1.2.1, hkid _ _ (fun e => absurd e e1) h1.2.2⟩
  · rcases hM' j t hj with ⟨rfl, rfl⟩ | ⟨rfl, rfl⟩ | ⟨_, _, e⟩
    · have h1 := h.tidy _ _ hp
      exact ⟨tidy_cut h1.1 _, tidy_cut h1.2.1 _, now_cut h1.2.2 _⟩
    · have k1 := h.tidy _ _ hs
      exact k1
    · exact h.tidy _ _ e

theorem GoodM.gone (h : GoodM M) (h0 : ∀ s, M id = some s → s.parent = 0) : GoodM (setM (orphan M id) id none) := by
  have hM' : ∀ j t, setM (orphan M id) id none j = some t → j ≠ id ∧ ∃ t0, M j = some t0 ∧ t = (if t0.parent = id then { t0 with parent := 0 } else t0) := fun j t hj => by
    rcases setM_eq hj with ⟨_, e⟩ | ⟨h1, e⟩
    · cases e
    · unfold orphan at e
      cases hm : M j with
      | none => rw [hm] at e; cases e
      | some t0 => rw [hm] at e; exact ⟨h1, t0, rfl, (Option.some.inj e).symm⟩
  have old : ∀ j t0, j ≠ id → M j = some t0 → setM (orphan M id) id none j = some (if t0.parent = id then { t0 with parent := 0 } else t0) := fun j t0 hj hm => by
    rw [setM_other _ _ hj]; unfold orphan; rw [hm]; rfl
  have hst : ∀ (t0 : Sf), (if t0.parent = id then { t0 with parent := 0 } else t0).pe = t0.pe ∧ (if t0.parent = id then { t0 with parent := 0 } else t0).ca = t0.ca ∧ (if t0.parent = id then { t0 with parent := 0 } else t0).cu = t0.cu := fun t0 => by split <;> exact ⟨rfl, rfl, rfl⟩
  have hpar : ∀ (t0 : Sf), (if t0.parent = id then { t0 with parent := 0 } else t0).parent ≠ 0 → t0.parent ≠ id ∧ (if t0.parent = id then { t0 with parent := 0 } else t0).parent = t0.parent := fun t0 => by
    split
    · intro h; exact absurd rfl h
    · intro _; exact ⟨‹_›, rfl⟩
  have hkid : ∀ j l, j ≠ id → j ≠ 0 → Kids M j l → Kids (setM (orphan M id) id none) j l := fun j l hji hj hl x hx => by
    rcases hl x hx with h1 | ⟨k, h1, h2⟩
    · exact .inl h1
    · have hxi : x ≠ id := fun e => by
        rw [e] at h1
        exact hj (by rw [← h2]; exact h0 k h1)
      refine .inr ⟨_, old x k hxi h1, ?_⟩
      rw [if_neg (by rw [h2]; exact hji)]
      exact h2
  refine ⟨fun j t hj => ?_, fun j t hj hjp => ?_, ?_, fun j t hj => ?_, fun j t hj => ?_⟩
  · obtain ⟨_, t0, h1, _⟩ := hM' j t hj
    exact h.pos _ _ h1
  · obtain ⟨h2, t0, h1, rfl⟩ := hM' j t hj
    obtain ⟨h3, h4⟩ := hpar t0 hjp
    rw [h4] at hjp ⊢
    obtain ⟨q, hq⟩ := h.par _ _ h1 hjp
    exact ⟨_, old _ _ h3 hq⟩
  · obtain ⟨rk, B, hr⟩ := h.rank
    refine ⟨rk, B, fun j t hj => ?_⟩
    obtain ⟨h2, t0, h1, rfl⟩ := hM' j t hj
    refine ⟨(hr _ _ h1).1, fun hjp => ?_⟩
    obtain ⟨h3, h4⟩ := hpar t0 hjp
    rw [h4] at hjp ⊢
    exact (hr _ _ h1).2 hjp
  · obtain ⟨h2, t0, h1, rfl⟩ := hM' j t hj
    obtain ⟨e1, e2, e3⟩ := hst t0
    rw [e1, e2, e3]
    have h3 := h.kids _ _ h1
    have h4 := (h.pos _ _ h1).1
    exact ⟨hkid _ _ h2 (by omega) h3.1, hkid _ _ h2 (by omega) h3.2.1, hkid _ _ h2 (by omega) h3.2.2⟩
  · obtain ⟨h2, t0, h1, rfl⟩ := hM' j t hj
    obtain ⟨e1, e2, e3⟩ := hst t0
    rw [e1, e2, e3]
    exact h.tidy _ _ h1
end
end Go.Proofs.YthkjicnnepkghaaGreatDoor
namespace Go.Proofs.YthkjicnnepkghaaGreatDoor
open Go.RowKit

structure Chg (F : Nat → Prop) (w w' : World) : Prop where
  os : w'.os = w.os
  tape : w'.tape = w.tape
  output : w'.output = w.output
  size : w.heap.size ≤ w'.heap.size
  block : ∀ b, b < w.heap.size → ¬ F b → w'.heap[b]? = w.heap[b]?

section
variable {F F' G G' : Nat → Prop} {w w' w'' : World} {B : Nat}

def Ext (F F' : Nat → Prop) (n : Nat) : Prop := ∀ b, F' b → F b ∨ n ≤ b
theorem Ext.refl (F : Nat → Prop) (n : Nat) : Ext F F n := fun _ h => .inl h
theorem Ext.trans {n m : Nat} {F'' : Nat → Prop} (h : Ext F F' n) (h' : Ext F' F'' m) (hn : n ≤ m) : Ext F F'' n := fun b hb => by
  rcases h' b hb with h1 | h1
  · exact h b h1
  · exact .inr (by omega)

theorem Chg.refl (F : Nat → Prop) (w : World) : Chg F w w := ⟨rfl, rfl, rfl, Nat.le_refl _, fun _ _ _ => rfl⟩
theorem Chg.mono (h : Chg F w w') (hF : ∀ b, b < w.heap.size → F b → G b) : Chg G w w' :=
  ⟨h.os, h.tape, h.output, h.size, fun b hb hn => h.block b hb fun hf => hn (hF b hb hf)⟩
theorem Chg.trans (h : Chg F w w') (h' : Chg F' w' w'') (hF : Ext F F' w.heap.size) : Chg F w w'' :=
  ⟨h'.os.trans h.os, h'.tape.trans h.tape, h'.output.trans h.output, Nat.le_trans h.size h'.size, fun b hb hn =>
    (h'.block b (Nat.lt_of_lt_of_le hb h.size) fun hf => by rcases hF b hf with h1 | h1; exact hn h1; omega).trans (h.block b hb hn)⟩
theorem Chg.of_below (h : Below w.heap.size w w') (F : Nat → Prop) : Chg F w w' := ⟨h.os, h.tape, h.output, h.size, fun b hb _ => h.block b hb⟩
theorem Chg.below (h : Chg F w w') (hB : B ≤ w.heap.size) (hF : ∀ b, F b → B ≤ b) : Below B w w' :=
  ⟨h.os, h.tape, h.output, h.size, fun b hb => h.block b (by omega) fun hf => by have := hF b hf; omega⟩
theorem Chg.grown {row : Option Nat} (h : w.grownBy w' row) (hF : ∀ b, row = some b → F b) : Chg F w w' :=
  ⟨h.os, h.tape, h.output, h.size, fun b hb hn => h.block b hb fun e => hn (hF b e.symm)⟩
theorem Chg.setCell (w : World) {a : Addr} (ha : F a.block) (u : Value) : Chg F w (w.setCell a u) :=
  ⟨rfl, rfl, rfl, by simp [World.setCell], fun b _ hn => Below.heap_setCell w a u b (by rintro rfl; exact hn ha)⟩
theorem Chg.alloc (h : Chg F w w') (o : Obj) : Chg F w (w'.alloc o) :=
  h.trans (Chg.of_below ((Below.refl _ _).alloc (Nat.le_refl _) o) F) (Ext.refl _ _)
theorem Chg.drewN (h : Chg F w w') (q : Nat) : Chg F w (w'.drewN q) := ⟨h.os, h.tape, h.output, h.size, h.block⟩
theorem Chg.andBelow (h : Chg F w w') (h' : Below w'.heap.size w' w'') : Chg F w w'' := h.trans (Chg.of_below h' F) (Ext.refl _ _)

theorem apart_ext {n : Nat} (h : ∀ b, F b → ¬ G b) (hE : Ext F F' n) (hG : ∀ b, G b → b < n) : ∀ b, F' b → ¬ G b := fun b hb hg => by
  rcases hE b hb with h1 | h1
  · exact h b h1 hg
  · have := hG b hg; omega
end
end Go.Proofs.YthkjicnnepkghaaGreatDoor
namespace Go.Proofs.YthkjicnnepkghaaGreatDoor
open Go.RowKit

def Tryz.layIns_ren : Go.Shelf.Ren := ⟨fun | 21 => 154 | 27 => 170 | 28 => 171 | 35 => 176 | 39 => 177 | n => n, fun | 22 => 38 | 3 => 3 | 4 => 4 | 0 => 0 | n => n, fun | n => n⟩
theorem Tryz.layIns : Go.Proofs.Lays2.n21 Tryz.prog Tryz.layIns_ren := {
  mixed := by kernel_rfl
  f21 := Tryz.func154.trans (congrArg some (by kernel_rfl))
  f27 := Tryz.func170.trans (congrArg some (by kernel_rfl))
  f28 := Tryz.func171.trans (congrArg some (by kernel_rfl))
  f35 := Tryz.func176.trans (congrArg some (by kernel_rfl))
  f39 := Tryz.func177.trans (congrArg some (by kernel_rfl))
  t0 := Tryz.underlying0
  a0 := Tryz.isAgg0
  z0 := Tryz.sizeOf0
  v0 := Tryz.zeroValue0
  t3 := Tryz.underlying3
  a3 := Tryz.isAgg3
  z3 := Tryz.sizeOf3
  v3 := Tryz.zeroValue3
  t4 := Tryz.underlying4
  a4 := Tryz.isAgg4
  z4 := Tryz.sizeOf4
  v4 := Tryz.zeroValue4
  t22 := Tryz.underlying38
  a22 := Tryz.isAgg38
  z22 := Tryz.sizeOf38
  v22 := Tryz.zeroValue38
  i3 := by kernel_rfl }
theorem setCells_row (b : Nat) (t : TypeId) : ∀ (vs : List Value) (o : Nat) (w : World) (cur : List Value), w.heap[b]? = some (.cells cur.toArray t (0, 0)) → o + vs.length ≤ cur.length →
    (w.setCells b o vs).heap[b]? = some (.cells (splice cur o vs).toArray t (0, 0)) ∧ Below b w (w.setCells b o vs)
  | [], o, w, cur, h, hl => ⟨by simpa [World.setCells, splice] using h, Below.refl _ _⟩
  | v :: r, o, w, cur, h, hl => by
    have h1 : (w.setCell ⟨b, o, none⟩ v).heap[b]? = some (.cells (cur.set o v).toArray t (0, 0)) := by
      rw [heap_setCell_same w b o _ t v h]; simp
    simp at hl
    obtain ⟨h2, h3⟩ := setCells_row b t r (o + 1) (w.setCell ⟨b, o, none⟩ v) (cur.set o v) h1 (by simp; omega)
    refine ⟨?_, (((Below.refl b w).setCell (p := ⟨b, o, none⟩) (Nat.le_refl _) v)).trans h3⟩
    rw [World.setCells, h2]
    congr 3
    simp only [splice]
    rw [List.take_set, List.take_succ_eq_append_getElem (show o < cur.length by omega), List.drop_set_of_lt (by omega), List.set_append_right _ _ (by simp; omega)]
    simp [List.length_take, Nat.min_eq_left (show o ≤ cur.length by omega), Nat.add_assoc, Nat.add_comm 1]

theorem splice_ins {α : Type} (cur ys : List α) (x : α) (i : Nat) (hi : i < ys.length) (hl : ys.length + 1 ≤ cur.length) (ht : cur.take ys.length = ys) :
    (splice (splice cur (i + 1) (ys.drop i)) i [x]).take (ys.length + 1) = ys.take i ++ x :: ys.drop i := by
  have e1 : cur.take i = ys.take i := by
    have := congrArg (List.take i) ht
    rwa [List.take_take, Nat.min_eq_left (by omega)] at this
  have e2 : (cur.take (i + 1)).length = i + 1 := by simp; omega
  have e3 : (splice cur (i + 1) (ys.drop i)).take i = ys.take i := by
    simp only [splice]
    rw [List.take_append_of_le_length (by omega), List.take_take, Nat.min_eq_left (by omega), e1]
  have e4 : (splice cur (i + 1) (ys.drop i)).drop (i + 1) = ys.drop i ++ cur.drop (i + 1 + (ys.drop i).length) := by
    simp only [splice]
    rw [List.drop_append, List.drop_of_length_le (by omega), e2]; simp
  have e5 : (ys.take i).length = i := by simp; omega
  have e6 : (ys.drop i).length = ys.length - i := by simp
  show ((splice cur (i + 1) (ys.drop i)).take i ++ ([x] ++ (splice cur (i + 1) (ys.drop i)).drop (i + 1))).take (ys.length + 1) = _
  rw [e3, e4, List.take_append, List.take_of_length_le (l := ys.take i) (i := ys.length + 1) (by omega), e5, show ys.length + 1 - i = (ys.length - i) + 1 by omega, List.singleton_append, List.take_succ_cons, List.take_append_of_le_length (by omega), List.take_of_length_le (l := ys.drop i) (by omega)]

theorem insertInts (w : World) (g len : Nat) (ys : List Int) (x : Int) (i vb : Nat) (hP : Part w g len ys) (hi : i ≤ ys.length) (hroom : ys.length + 1 ≤ len) (hlen : len ≤ 1000000) (hvb : vb ≠ g)
    (hv : w.heap[vb]? = some (.cells #[.int .i64 x] 3 (0, 0))) :
    Calls Tryz.prog 154 #[.slice (some ⟨g, 0, none⟩) ys.length len, .int .i64 i, .slice (some ⟨vb, 0, none⟩) 1 1] w fun e w' =>
      e = .returned (.slice (some ⟨g, 0, none⟩) (ys.length + 1) len) ∧ Part w' g len (ys.take i ++ x :: ys.drop i) ∧ Below g w w' := by
  obtain ⟨cur, h1, h2, h3⟩ := hP.ex
  have hcell : ∀ j u, (ys.map (Value.int .i64))[j]? = some u → w.cell? ⟨g, 0 + j, none⟩ = some u := fun j u hj => by
    have hjl : j < ys.length := by have := (List.getElem?_eq_some_iff.1 hj).1; simpa using this
    rw [Nat.zero_add, cell_of_row w g j _ _ _ h2]
    rw [← h3, List.getElem?_take, if_pos hjl] at hj
    simpa using hj
  have hsome : ∀ j, j < len → (w.cell? ⟨g, 0 + j, none⟩).isSome = true := fun j hj => by
    rw [Nat.zero_add, cell_of_row w g j _ _ _ h2]; simp; omega
  have hfz : ∀ j, w.frozen? ⟨g, j, none⟩ = false := fun j => frozen_of_row w g j _ _ h2
  have hvc : ∀ j u, [Value.int .i64 x][j]? = some u → w.cell? ⟨vb, 0 + j, none⟩ = some u := fun j u hj => by
    rw [Nat.zero_add, cell_of_row w vb j _ _ _ hv]; simpa using hj
  have hone : ∀ u ∈ [Value.int .i64 x], u.oneCell' = true := by intro u hu; simp at hu; subst hu; rfl
  have hcl : cur.length = len := h1
  rcases Nat.lt_or_ge i ys.length with hlt | hge
  · refine (Any2.slices_Insert_int_shift Tryz.layIns g 0 ys.length len i vb 0 1 1 (ys.map (Value.int .i64)) [.int .i64 x] w hlt (by omega) hroom (by omega) hvb (by simp) rfl hcell
      (fun j hj => hsome j (by omega)) (fun j _ => hfz _) hvc (by intro u hu; simp at hu; obtain ⟨y, _, rfl⟩ := hu; rfl) hone 3 3 1 len
      (by simp [World.shape?, hv]) (by simp [World.shape?, h2, hcl]) (by omega) (frozen_of_row w vb _ _ _ hv) (frozen_of_row w vb _ _ _ hv)).mono ?_
    rintro e w' ⟨rfl, rfl⟩
    have hl1 : (List.drop i (ys.map (Value.int .i64))).length = ys.length - i := by simp
    obtain ⟨a1, a2⟩ := setCells_row g 3 ((ys.map (Value.int .i64)).drop i) (0 + (i + 1)) w.drew cur h2 (by rw [hl1]; omega)
    have hs1 : (splice cur (0 + (i + 1)) ((ys.map (Value.int .i64)).drop i)).length = cur.length := length_splice _ _ _ (by rw [hl1]; omega)
    obtain ⟨b1, b2⟩ := setCells_row g 3 [.int .i64 x] (0 + i) _ _ a1 (by rw [hs1]; simp; omega)
    refine ⟨rfl, ⟨_, ?_, b1, ?_⟩, (show Below g w w.drew from below_drewN (Below.refl _ _) 1).trans (a2.trans b2)⟩
    · rw [length_splice _ _ _ (by rw [hs1]; simp; omega), hs1, hcl]
    · have := splice_ins cur (ys.map (Value.int .i64)) (.int .i64 x) i (by simpa using hlt) (by simp; omega) (by simpa using h3)
      have e2 : (ys.take i ++ x :: ys.drop i).length = ys.length + 1 := by simp; omega
      rw [e2]
      simpa using this
  · obtain rfl : i = ys.length := by omega
    refine (Any2.slices_Insert_int_end_room Tryz.layIns g 0 ys.length len vb 0 1 1 [.int .i64 x] w (by omega) hroom (by omega) rfl (fun j hj => by rw [Nat.add_assoc]; exact hsome _ (by omega)) (fun j _ => hfz _) hvc hone).mono ?_
    rintro e w' ⟨rfl, rfl⟩
    obtain ⟨a1, a2⟩ := setCells_row g 3 [.int .i64 x] (0 + ys.length) w cur h2 (by simp; omega)
    refine ⟨rfl, ⟨_, ?_, a1, ?_⟩, a2⟩
    · rw [length_splice _ _ _ (by simp; omega), hcl]
    · simp only [splice, Nat.zero_add, h3]
      rw [List.take_append]
      simp [List.take_of_length_le]
end Go.Proofs.YthkjicnnepkghaaGreatDoor
namespace Go.Proofs
open Go.Shelf
def Tryz.lays128_ren : Go.Shelf.Ren := ⟨fun | 128 => 150 | n => n, fun | 51 => 174 | 3 => 3 | 4 => 4 | 46 => 145 | 5 => 5 | 9 => 9 | n => n, fun | n => n⟩
theorem Tryz.lays128 : Go.Proofs.Lays.n128 Tryz.prog Tryz.lays128_ren := {
  mixed := by kernel_rfl
  f128 := Tryz.func150.trans (congrArg some (by kernel_rfl))
  t3 := Tryz.underlying3
  a3 := Tryz.isAgg3
  z3 := Tryz.sizeOf3
  v3 := Tryz.zeroValue3
  t4 := Tryz.underlying4
  a4 := Tryz.isAgg4
  z4 := Tryz.sizeOf4
  v4 := Tryz.zeroValue4
  t5 := Tryz.underlying5
  a5 := Tryz.isAgg5
  z5 := Tryz.sizeOf5
  v5 := Tryz.zeroValue5
  t9 := Tryz.underlying9
  a9 := Tryz.isAgg9
  z9 := Tryz.sizeOf9
  v9 := Tryz.zeroValue9
  t46 := Tryz.underlying145
  a46 := Tryz.isAgg145
  z46 := Tryz.sizeOf145
  v46 := Tryz.zeroValue145
  t51 := Tryz.underlying174
  a51 := Tryz.isAgg174
  z51 := Tryz.sizeOf174
  v51 := Tryz.zeroValue174 }
theorem Tryz.bits_Len32 (x : Int) (w : World) (h0 : 0 ≤ x) (h1 : x ≤ 4294967295) :
    Calls Tryz.prog 150 #[.int .u32 x] w fun e w' => e = .returned (.int .i64 (Lib.bitLen x.toNat)) ∧ w' = w := Any.bits_Len32 Tryz.lays128 x w h0 h1
def Tryz.lays125_ren : Go.Shelf.Ren := ⟨fun | 125 => 115 | 128 => 150 | 129 => 151 | n => n, fun | 46 => 145 | 3 => 3 | 51 => 174 | 53 => 176 | 4 => 4 | 5 => 5 | 9 => 9 | n => n, fun | n => n⟩
theorem Tryz.lays125 : Go.Proofs.Lays.n125 Tryz.prog Tryz.lays125_ren := {
  mixed := by kernel_rfl
  f125 := Tryz.func115.trans (congrArg some (by kernel_rfl))
  f128 := Tryz.func150.trans (congrArg some (by kernel_rfl))
  f129 := Tryz.func151.trans (congrArg some (by kernel_rfl))
  t3 := Tryz.underlying3
  a3 := Tryz.isAgg3
  z3 := Tryz.sizeOf3
  v3 := Tryz.zeroValue3
  t4 := Tryz.underlying4
  a4 := Tryz.isAgg4
  z4 := Tryz.sizeOf4
  v4 := Tryz.zeroValue4
  t5 := Tryz.underlying5
  a5 := Tryz.isAgg5
  z5 := Tryz.sizeOf5
  v5 := Tryz.zeroValue5
  t9 := Tryz.underlying9
  a9 := Tryz.isAgg9
  z9 := Tryz.sizeOf9
  v9 := Tryz.zeroValue9
  t46 := Tryz.underlying145
  a46 := Tryz.isAgg145
  z46 := Tryz.sizeOf145
  v46 := Tryz.zeroValue145
  t51 := Tryz.underlying174
  a51 := Tryz.isAgg174
  z51 := Tryz.sizeOf174
  v51 := Tryz.zeroValue174
  t53 := Tryz.underlying176
  a53 := Tryz.isAgg176
  z53 := Tryz.sizeOf176
  v53 := Tryz.zeroValue176 }
theorem Tryz.bits_Len (x : Int) (w : World) (h0 : 0 ≤ x) (h1 : x ≤ 18446744073709551615) :
    Calls Tryz.prog 115 #[.int .u64 x] w fun e w' => e = .returned (.int .i64 (Lib.bitLen x.toNat)) ∧ w' = w := Any.bits_Len Tryz.lays125 x w h0 h1
def Tryz.lays215_ren : Go.Shelf.Ren := ⟨fun | 215 => 167 | n => n, fun | 3 => 3 | 4 => 4 | n => n, fun | n => n⟩
theorem Tryz.lays215 : Go.Proofs.Lays.n215 Tryz.prog Tryz.lays215_ren := {
  mixed := by kernel_rfl
  f215 := Tryz.func167.trans (congrArg some (by kernel_rfl))
  t3 := Tryz.underlying3
  a3 := Tryz.isAgg3
  z3 := Tryz.sizeOf3
  v3 := Tryz.zeroValue3
  t4 := Tryz.underlying4
  a4 := Tryz.isAgg4
  z4 := Tryz.sizeOf4
  v4 := Tryz.zeroValue4 }
open Go.RowKit in
theorem Tryz.cmp_isNaN_int (x : Int) (w : World) :
    Calls Tryz.prog 167 #[.int .i64 x] w fun e w' => e = .returned (.bool false) ∧ w' = w := Any.cmp_isNaN_int Tryz.lays215 x w
def Tryz.lays129_ren : Go.Shelf.Ren := ⟨fun | 129 => 151 | n => n, fun | 53 => 176 | 3 => 3 | 4 => 4 | 46 => 145 | 5 => 5 | 9 => 9 | n => n, fun | n => n⟩
theorem Tryz.lays129 : Go.Proofs.Lays.n129 Tryz.prog Tryz.lays129_ren := {
  mixed := by kernel_rfl
  f129 := Tryz.func151.trans (congrArg some (by kernel_rfl))
  t3 := Tryz.underlying3
  a3 := Tryz.isAgg3
  z3 := Tryz.sizeOf3
  v3 := Tryz.zeroValue3
  t4 := Tryz.underlying4
  a4 := Tryz.isAgg4
  z4 := Tryz.sizeOf4
  v4 := Tryz.zeroValue4
  t5 := Tryz.underlying5
  a5 := Tryz.isAgg5
  z5 := Tryz.sizeOf5
  v5 := Tryz.zeroValue5
  t9 := Tryz.underlying9
  a9 := Tryz.isAgg9
  z9 := Tryz.sizeOf9
  v9 := Tryz.zeroValue9
  t46 := Tryz.underlying145
  a46 := Tryz.isAgg145
  z46 := Tryz.sizeOf145
  v46 := Tryz.zeroValue145
  t53 := Tryz.underlying176
  a53 := Tryz.isAgg176
  z53 := Tryz.sizeOf176
  v53 := Tryz.zeroValue176 }
theorem Tryz.bits_Len64 (x : Int) (w : World) (h0 : 0 ≤ x) (h1 : x ≤ 18446744073709551615) :
    Calls Tryz.prog 151 #[.int .u64 x] w fun e w' => e = .returned (.int .i64 (Lib.bitLen x.toNat)) ∧ w' = w := Any.bits_Len64 Tryz.lays129 x w h0 h1
def Tryz.lays189_ren : Go.Shelf.Ren := ⟨fun | 189 => 55 | 125 => 115 | 257 => 114 | 128 => 150 | 129 => 151 | 294 => 141 | 295 => 142 | 296 => 143 | 297 => 144 | 298 => 145 | 299 => 146 | 216 => 147 | 300 => 148 | 301 => 149 | 328 => 162 | 329 => 163 | 330 => 164 | 331 => 165 | 332 => 166 | 215 => 167 | 343 => 175 | n => n, fun | 28 => 38 | 3 => 3 | 46 => 145 | 0 => 0 | 51 => 174 | 53 => 176 | 4 => 4 | 183 => 166 | 182 => 165 | 131 => 171 | 5 => 5 | 9 => 9 | 218 => 192 | 222 => 196 | 228 => 202 | 229 => 203 | n => n, fun | n => n⟩
theorem Tryz.lays189 : Go.Proofs.Lays.n189 Tryz.prog Tryz.lays189_ren := {
  mixed := by kernel_rfl
  f125 := Tryz.func115.trans (congrArg some (by kernel_rfl))
  f128 := Tryz.func150.trans (congrArg some (by kernel_rfl))
  f129 := Tryz.func151.trans (congrArg some (by kernel_rfl))
  f189 := Tryz.func55.trans (congrArg some (by kernel_rfl))
  f215 := Tryz.func167.trans (congrArg some (by kernel_rfl))
  f216 := Tryz.func147.trans (congrArg some (by kernel_rfl))
  f257 := Tryz.func114.trans (congrArg some (by kernel_rfl))
  f294 := Tryz.func141.trans (congrArg some (by kernel_rfl))
  f295 := Tryz.func142.trans (congrArg some (by kernel_rfl))
  f296 := Tryz.func143.trans (congrArg some (by kernel_rfl))
  f297 := Tryz.func144.trans (congrArg some (by kernel_rfl))
  f298 := Tryz.func145.trans (congrArg some (by kernel_rfl))
  f299 := Tryz.func146.trans (congrArg some (by kernel_rfl))
  f300 := Tryz.func148.trans (congrArg some (by kernel_rfl))
  f301 := Tryz.func149.trans (congrArg some (by kernel_rfl))
  f328 := Tryz.func162.trans (congrArg some (by kernel_rfl))
  f329 := Tryz.func163.trans (congrArg some (by kernel_rfl))
  f330 := Tryz.func164.trans (congrArg some (by kernel_rfl))
  f331 := Tryz.func165.trans (congrArg some (by kernel_rfl))
  f332 := Tryz.func166.trans (congrArg some (by kernel_rfl))
  f343 := Tryz.func175.trans (congrArg some (by kernel_rfl))
  t0 := Tryz.underlying0
  a0 := Tryz.isAgg0
  z0 := Tryz.sizeOf0
  v0 := Tryz.zeroValue0
  t3 := Tryz.underlying3
  a3 := Tryz.isAgg3
  z3 := Tryz.sizeOf3
  v3 := Tryz.zeroValue3
  t4 := Tryz.underlying4
  a4 := Tryz.isAgg4
  z4 := Tryz.sizeOf4
  v4 := Tryz.zeroValue4
  t5 := Tryz.underlying5
  a5 := Tryz.isAgg5
  z5 := Tryz.sizeOf5
  v5 := Tryz.zeroValue5
  t9 := Tryz.underlying9
  a9 := Tryz.isAgg9
  z9 := Tryz.sizeOf9
  v9 := Tryz.zeroValue9
  t28 := Tryz.underlying38
  a28 := Tryz.isAgg38
  z28 := Tryz.sizeOf38
  v28 := Tryz.zeroValue38
  t46 := Tryz.underlying145
  a46 := Tryz.isAgg145
  z46 := Tryz.sizeOf145
  v46 := Tryz.zeroValue145
  t51 := Tryz.underlying174
  a51 := Tryz.isAgg174
  z51 := Tryz.sizeOf174
  v51 := Tryz.zeroValue174
  t53 := Tryz.underlying176
  a53 := Tryz.isAgg176
  z53 := Tryz.sizeOf176
  v53 := Tryz.zeroValue176
  t131 := Tryz.underlying171
  a131 := Tryz.isAgg171
  z131 := Tryz.sizeOf171
  v131 := Tryz.zeroValue171
  t182 := Tryz.underlying165
  a182 := Tryz.isAgg165
  z182 := Tryz.sizeOf165
  v182 := Tryz.zeroValue165
  t183 := Tryz.underlying166
  a183 := Tryz.isAgg166
  z183 := Tryz.sizeOf166
  v183 := Tryz.zeroValue166
  t218 := Tryz.underlying192
  a218 := Tryz.isAgg192
  z218 := Tryz.sizeOf192
  v218 := Tryz.zeroValue192
  t222 := Tryz.underlying196
  a222 := Tryz.isAgg196
  z222 := Tryz.sizeOf196
  v222 := Tryz.zeroValue196
  t228 := Tryz.underlying202
  a228 := Tryz.isAgg202
  z228 := Tryz.sizeOf202
  v228 := Tryz.zeroValue202
  t229 := Tryz.underlying203
  a229 := Tryz.isAgg203
  z229 := Tryz.sizeOf203
  v229 := Tryz.zeroValue203 }
open Go.Sort Go.RowKit in
theorem Tryz.slices_Sort_int (blk off cap : Nat) (zs : List Int) (w : World) (hH : Holds (Value.int .i64) w blk off zs.toArray) (hblk : blk < w.heap.size) (hsz : zs.length < 4611686018427387904) :
    Calls Tryz.prog 55 #[.slice (some ⟨blk, off, none⟩) zs.length cap] w fun e w' =>
      e = .returned (.tuple #[]) ∧ ∃ n os, w' = grow (putRow (Value.int .i64) (Sort.ahead w n) blk off (zs.mergeSort fun x y => decide (x ≤ y)).toArray) os := Any.slices_Sort_int Tryz.lays189 blk off cap zs w hH hblk hsz
def Tryz.lays108_ren : Go.Shelf.Ren := ⟨fun | 108 => 155 | n => n, fun | 28 => 38 | 3 => 3 | 0 => 0 | 4 => 4 | n => n, fun | n => n⟩
theorem Tryz.lays108 : Go.Proofs.Lays.n108 Tryz.prog Tryz.lays108_ren := {
  mixed := by kernel_rfl
  f108 := Tryz.func155.trans (congrArg some (by kernel_rfl))
  t0 := Tryz.underlying0
  a0 := Tryz.isAgg0
  z0 := Tryz.sizeOf0
  v0 := Tryz.zeroValue0
  t3 := Tryz.underlying3
  a3 := Tryz.isAgg3
  z3 := Tryz.sizeOf3
  v3 := Tryz.zeroValue3
  t4 := Tryz.underlying4
  a4 := Tryz.isAgg4
  z4 := Tryz.sizeOf4
  v4 := Tryz.zeroValue4
  t28 := Tryz.underlying38
  a28 := Tryz.isAgg38
  z28 := Tryz.sizeOf38
  v28 := Tryz.zeroValue38 }
open Go.Lib in
theorem Tryz.slices_Index_int (b off n c : Nat) (zs : List Int) (x : Int) (w : World) (hz : n ≤ zs.length) (hbig : n ≤ 9223372036854775807) (hc : ∀ j, j < zs.length → w.cell? ⟨b, off + j, none⟩ = some (.int .i64 (zs.getD j 0))) :
    Calls Tryz.prog 155 #[.slice (some ⟨b, off, none⟩) n c, .int .i64 x] w fun e w' => e = .returned (.int .i64 (Lib.idxOf (zs.take n) x)) ∧ w' = w := Any.slices_Index_int Tryz.lays108 b off n c zs x w hz hbig hc
open Go.Lib in
theorem Tryz.slices_Index_int_empty (a : Option Addr) (c : Nat) (x : Int) (w : World) :
    Calls Tryz.prog 155 #[.slice a 0 c, .int .i64 x] w fun e w' => e = .returned (.int .i64 (Lib.idxOf [] x)) ∧ w' = w := Any.slices_Index_int_empty Tryz.lays108 a c x w
def Tryz.lays107_ren : Go.Shelf.Ren := ⟨fun | 107 => 169 | 108 => 155 | n => n, fun | 28 => 38 | 3 => 3 | 4 => 4 | 0 => 0 | n => n, fun | n => n⟩
theorem Tryz.lays107 : Go.Proofs.Lays.n107 Tryz.prog Tryz.lays107_ren := {
  mixed := by kernel_rfl
  f107 := Tryz.func169.trans (congrArg some (by kernel_rfl))
  f108 := Tryz.func155.trans (congrArg some (by kernel_rfl))
  t0 := Tryz.underlying0
  a0 := Tryz.isAgg0
  z0 := Tryz.sizeOf0
  v0 := Tryz.zeroValue0
  t3 := Tryz.underlying3
  a3 := Tryz.isAgg3
  z3 := Tryz.sizeOf3
  v3 := Tryz.zeroValue3
  t4 := Tryz.underlying4
  a4 := Tryz.isAgg4
  z4 := Tryz.sizeOf4
  v4 := Tryz.zeroValue4
  t28 := Tryz.underlying38
  a28 := Tryz.isAgg38
  z28 := Tryz.sizeOf38
  v28 := Tryz.zeroValue38 }
open Go.Lib in
theorem Tryz.slices_Contains_int (b off n c : Nat) (zs : List Int) (x : Int) (w : World) (hz : n ≤ zs.length) (hbig : n ≤ 9223372036854775807) (hc : ∀ j, j < zs.length → w.cell? ⟨b, off + j, none⟩ = some (.int .i64 (zs.getD j 0))) :
    Calls Tryz.prog 169 #[.slice (some ⟨b, off, none⟩) n c, .int .i64 x] w fun e w' => e = .returned (.bool ((zs.take n).contains x)) ∧ w' = w := Any.slices_Contains_int Tryz.lays107 b off n c zs x w hz hbig hc
open Go.Lib in
theorem Tryz.slices_Contains_int_empty (a : Option Addr) (c : Nat) (x : Int) (w : World) :
    Calls Tryz.prog 169 #[.slice a 0 c, .int .i64 x] w fun e w' => e = .returned (.bool false) ∧ w' = w := Any.slices_Contains_int_empty Tryz.lays107 a c x w
def Tryz.lays112_ren : Go.Shelf.Ren := ⟨fun | 112 => 177 | n => n, fun | 28 => 38 | 3 => 3 | 4 => 4 | 0 => 0 | n => n, fun | n => n⟩
theorem Tryz.lays112 : Go.Proofs.Lays.n112 Tryz.prog Tryz.lays112_ren := {
  mixed := by kernel_rfl
  f112 := Tryz.func177.trans (congrArg some (by kernel_rfl))
  t0 := Tryz.underlying0
  a0 := Tryz.isAgg0
  z0 := Tryz.sizeOf0
  v0 := Tryz.zeroValue0
  t3 := Tryz.underlying3
  a3 := Tryz.isAgg3
  z3 := Tryz.sizeOf3
  v3 := Tryz.zeroValue3
  t4 := Tryz.underlying4
  a4 := Tryz.isAgg4
  z4 := Tryz.sizeOf4
  v4 := Tryz.zeroValue4
  t28 := Tryz.underlying38
  a28 := Tryz.isAgg38
  z28 := Tryz.sizeOf38
  v28 := Tryz.zeroValue38 }
open Go.RowKit Go.Lib Go.Sort in
theorem Tryz.slices_Reverse_int_arr (blk off cap : Nat) (d : Array Int) (w : World) (hH : Holds encI w blk off d) (hsz : d.size ≤ 9223372036854775807) :
    Calls Tryz.prog 177 #[.slice (some ⟨blk, off, none⟩) d.size cap] w fun e w' => e = .returned (.tuple #[]) ∧ ∃ n, w' = putRow encI (Sort.ahead w n) blk off d.reverse := Any.slices_Reverse_int_arr Tryz.lays112 blk off cap d w hH hsz
open Go.RowKit Go.Lib Go.Sort in
theorem Tryz.slices_Reverse_int (blk off cap : Nat) (zs : List Int) (w : World) (hH : Holds (Value.int .i64) w blk off zs.toArray) (hsz : zs.length ≤ 9223372036854775807) :
    Calls Tryz.prog 177 #[.slice (some ⟨blk, off, none⟩) zs.length cap] w fun e w' => e = .returned (.tuple #[]) ∧ ∃ n, w' = putRow (Value.int .i64) (Sort.ahead w n) blk off zs.reverse.toArray := Any.slices_Reverse_int Tryz.lays112 blk off cap zs w hH hsz
open Go.RowKit Go.Lib Go.Sort in
theorem Tryz.slices_Reverse_int_empty (a : Option Addr) (cap : Nat) (w : World) :
    Calls Tryz.prog 177 #[.slice a 0 cap] w fun e w' => e = .returned (.tuple #[]) ∧ w' = w := Any.slices_Reverse_int_empty Tryz.lays112 a cap w
def Tryz.laysNm220_ren : Go.Shelf.Ren := ⟨fun | 20 => 57 | n => n, fun | 22 => 38 | 3 => 3 | 4 => 4 | 0 => 0 | n => n, fun | n => n⟩
theorem Tryz.laysNm220 : Go.Proofs.Lays2.n20 Tryz.prog Tryz.laysNm220_ren := {
  mixed := by kernel_rfl
  f20 := Tryz.func57.trans (congrArg some (by kernel_rfl))
  t0 := Tryz.underlying0
  a0 := Tryz.isAgg0
  z0 := Tryz.sizeOf0
  v0 := Tryz.zeroValue0
  t3 := Tryz.underlying3
  a3 := Tryz.isAgg3
  z3 := Tryz.sizeOf3
  v3 := Tryz.zeroValue3
  t4 := Tryz.underlying4
  a4 := Tryz.isAgg4
  z4 := Tryz.sizeOf4
  v4 := Tryz.zeroValue4
  t22 := Tryz.underlying38
  a22 := Tryz.isAgg38
  z22 := Tryz.sizeOf38
  v22 := Tryz.zeroValue38
  i3 := by kernel_rfl }
open Go.RowKit Go.Lib Go.Sort in
theorem Tryz.slices_Compact_int_arr (blk off cap : Nat) (d : Array Int) (w : World) (hH : Holds encI w blk off d) (hsz : d.size ≤ 9223372036854775807) (hcap : d.size ≤ cap) :
    Calls Tryz.prog 57 #[.slice (some ⟨blk, off, none⟩) d.size cap] w fun e w' => e = .returned (.slice (some ⟨blk, off, none⟩) (compactUpTo d d.size).length cap) ∧ ∃ q, w' = putRow encI (Sort.ahead w q) blk off (compactUpTo d d.size ++ List.replicate (d.size - (compactUpTo d d.size).length) 0).toArray := Any.slices_Compact_int_arr Tryz.laysNm220 blk off cap d w hH hsz hcap
open Go.RowKit Go.Lib Go.Sort in
theorem Tryz.slices_Compact_int (blk off cap : Nat) (zs : List Int) (w : World) (hH : Holds (Value.int .i64) w blk off zs.toArray) (hsz : zs.length ≤ 9223372036854775807) (hcap : zs.length ≤ cap) :
    Calls Tryz.prog 57 #[.slice (some ⟨blk, off, none⟩) zs.length cap] w fun e w' => e = .returned (.slice (some ⟨blk, off, none⟩) (Lib.compact zs).length cap) ∧ ∃ q, w' = putRow (Value.int .i64) (Sort.ahead w q) blk off (Lib.compact zs ++ List.replicate (zs.length - (Lib.compact zs).length) 0).toArray := Any.slices_Compact_int Tryz.laysNm220 blk off cap zs w hH hsz hcap
open Go.RowKit Go.Lib Go.Sort in
theorem Tryz.slices_Compact_int_empty (a : Option Addr) (cap : Nat) (w : World) :
    Calls Tryz.prog 57 #[.slice a 0 cap] w fun e w' => e = .returned (.slice a 0 cap) ∧ w' = w := Any.slices_Compact_int_empty Tryz.laysNm220 a cap w
def Tryz.laysNm237_ren : Go.Shelf.Ren := ⟨fun | 37 => 167 | n => n, fun | 3 => 3 | 4 => 4 | n => n, fun | n => n⟩
theorem Tryz.laysNm237 : Go.Proofs.Lays2.n37 Tryz.prog Tryz.laysNm237_ren := {
  mixed := by kernel_rfl
  f37 := Tryz.func167.trans (congrArg some (by kernel_rfl))
  t3 := Tryz.underlying3
  a3 := Tryz.isAgg3
  z3 := Tryz.sizeOf3
  v3 := Tryz.zeroValue3
  t4 := Tryz.underlying4
  a4 := Tryz.isAgg4
  z4 := Tryz.sizeOf4
  v4 := Tryz.zeroValue4 }
open Go.RowKit Go.Lib in
theorem Tryz.cmp_isNaN_int2 (x : Int) (w : World) :
    Calls Tryz.prog 167 #[.int .i64 x] w fun e w' => e = .returned (.bool false) ∧ w' = w := Any.cmp_isNaN_int2 Tryz.laysNm237 x w
def Tryz.laysNm231_ren : Go.Shelf.Ren := ⟨fun | 31 => 147 | 37 => 167 | n => n, fun | 3 => 3 | 4 => 4 | n => n, fun | n => n⟩
theorem Tryz.laysNm231 : Go.Proofs.Lays2.n31 Tryz.prog Tryz.laysNm231_ren := {
  mixed := by kernel_rfl
  f31 := Tryz.func147.trans (congrArg some (by kernel_rfl))
  f37 := Tryz.func167.trans (congrArg some (by kernel_rfl))
  t3 := Tryz.underlying3
  a3 := Tryz.isAgg3
  z3 := Tryz.sizeOf3
  v3 := Tryz.zeroValue3
  t4 := Tryz.underlying4
  a4 := Tryz.isAgg4
  z4 := Tryz.sizeOf4
  v4 := Tryz.zeroValue4 }
open Go.RowKit Go.Lib in
theorem Tryz.cmp_Less_int2 (x y : Int) (w : World) :
    Calls Tryz.prog 147 #[.int .i64 x, .int .i64 y] w fun e w' => e = .returned (.bool (decide (x < y))) ∧ w' = w := Any.cmp_Less_int2 Tryz.laysNm231 x y w
open Go.RowKit Go.Lib Go.Sort in
theorem Tryz.slices_Reverse_int_cells (b off n c : Nat) (zs : List Int) (w : World) (hz : n ≤ zs.length) (hbig : n ≤ 9223372036854775807) (hc : ∀ j, j < zs.length → w.cell? ⟨b, off + j, none⟩ = some (.int .i64 (zs.getD j 0))) (hf : ∀ j, j < n → w.frozen? ⟨b, off + j, none⟩ = false) :
    Calls Tryz.prog 177 #[.slice (some ⟨b, off, none⟩) n c] w fun e w' => e = .returned (.tuple #[]) ∧ ∃ q, w' = (w.drewN q).setCells b off ((zs.take n).reverse.map (Value.int .i64)) := Any.slices_Reverse_int_cells Tryz.lays112 b off n c zs w hz hbig hc hf
open Go.RowKit Go.Lib Go.Sort in
theorem Tryz.slices_Compact_int_cells (b off n c : Nat) (zs : List Int) (w : World) (hz : n ≤ zs.length) (hbig : n ≤ 9223372036854775807) (hcap : n ≤ c) (hc : ∀ j, j < zs.length → w.cell? ⟨b, off + j, none⟩ = some (.int .i64 (zs.getD j 0))) (hf : ∀ j, j < n → w.frozen? ⟨b, off + j, none⟩ = false) :
    Calls Tryz.prog 57 #[.slice (some ⟨b, off, none⟩) n c] w fun e w' => e = .returned (.slice (some ⟨b, off, none⟩) (Lib.compact (zs.take n)).length c) ∧ ∃ q, w' = (w.drewN q).setCells b off ((Lib.compact (zs.take n) ++ List.replicate (n - (Lib.compact (zs.take n)).length) 0).map (Value.int .i64)) := Any.slices_Compact_int_cells Tryz.laysNm220 b off n c zs w hz hbig hcap hc hf
open Go.RowKit Go.Sort in
theorem Tryz.slices_Sort_int_none (p : Option Addr) (cap : Nat) (w : World) :
    Calls Tryz.prog 55 #[.slice p 0 cap] w fun e w' => e = .returned (.tuple #[]) ∧ w' = w := Any.slices_Sort_int_none Tryz.lays189 p cap w
def Tryz.laysSlE29_f155_ren : Go.Shelf.Ren := ⟨fun | 29 => 155 | n => n, fun | 22 => 38 | 23 => 3 | 3 => 3 | 0 => 0 | 4 => 4 | n => n, fun | n => n⟩
theorem Tryz.laysSlE29_f155 : Go.Proofs.SlLaysE.n29 Tryz.prog Tryz.laysSlE29_f155_ren := {
  mixed := by kernel_rfl
  f29 := ⟨Tryz.f155.name, by decide, Tryz.func155.trans (congrArg some (by kernel_rfl))⟩
  t0 := Tryz.underlying0
  a0 := Tryz.isAgg0
  z0 := Tryz.sizeOf0
  v0 := Tryz.zeroValue0
  t3 := Tryz.underlying3
  a3 := Tryz.isAgg3
  z3 := Tryz.sizeOf3
  v3 := Tryz.zeroValue3
  t4 := Tryz.underlying4
  a4 := Tryz.isAgg4
  z4 := Tryz.sizeOf4
  v4 := Tryz.zeroValue4
  t22 := Tryz.underlying38
  a22 := Tryz.isAgg38
  z22 := Tryz.sizeOf38
  v22 := Tryz.zeroValue38
  a23 := Tryz.isAgg3
  z23 := Tryz.sizeOf3 }
open Go.Lib in
theorem Tryz.slices_Index {α : Type} [Inhabited α] (enc : α → Value) (eq : α → α → Bool) (heq : EqlAt Tryz.prog 3 enc eq) (b off n c : Nat) (zs : List α) (x : α) (w : World) (hz : n ≤ zs.length) (hbig : n ≤ 9223372036854775807) (hc : ∀ j, j < zs.length → w.cell? ⟨b, off + j, none⟩ = some (enc zs[j]!)) :
    Calls Tryz.prog 155 #[.slice (some ⟨b, off, none⟩) n c, enc x] w fun e w' => e = .returned (.int .i64 (Lib.idxBy eq (zs.take n) x)) ∧ w' = w := AnyE.slices_Index Tryz.laysSlE29_f155 enc eq heq b off n c zs x w hz hbig hc
open Go.Lib in
theorem Tryz.slices_Index_empty {α : Type} [Inhabited α] (a : Option Addr) (c : Nat) (xv : Value) (w : World) :
    Calls Tryz.prog 155 #[.slice a 0 c, xv] w fun e w' => e = .returned (.int .i64 (-1)) ∧ w' = w := AnyE.slices_Index_empty Tryz.laysSlE29_f155 a c xv w
def Tryz.laysSlE31_f169_ren : Go.Shelf.Ren := ⟨fun | 31 => 169 | 29 => 155 | n => n, fun | 22 => 38 | 23 => 3 | 4 => 4 | 3 => 3 | 0 => 0 | n => n, fun | n => n⟩
theorem Tryz.laysSlE31_f169 : Go.Proofs.SlLaysE.n31 Tryz.prog Tryz.laysSlE31_f169_ren := {
  mixed := by kernel_rfl
  f29 := ⟨Tryz.f155.name, by decide, Tryz.func155.trans (congrArg some (by kernel_rfl))⟩
  f31 := ⟨Tryz.f169.name, by decide, Tryz.func169.trans (congrArg some (by kernel_rfl))⟩
  t0 := Tryz.underlying0
  a0 := Tryz.isAgg0
  z0 := Tryz.sizeOf0
  v0 := Tryz.zeroValue0
  t3 := Tryz.underlying3
  a3 := Tryz.isAgg3
  z3 := Tryz.sizeOf3
  v3 := Tryz.zeroValue3
  t4 := Tryz.underlying4
  a4 := Tryz.isAgg4
  z4 := Tryz.sizeOf4
  v4 := Tryz.zeroValue4
  t22 := Tryz.underlying38
  a22 := Tryz.isAgg38
  z22 := Tryz.sizeOf38
  v22 := Tryz.zeroValue38
  a23 := Tryz.isAgg3
  z23 := Tryz.sizeOf3 }
open Go.Lib in
theorem Tryz.slices_Contains {α : Type} [Inhabited α] (enc : α → Value) (eq : α → α → Bool) (heq : EqlAt Tryz.prog 3 enc eq) (b off n c : Nat) (zs : List α) (x : α) (w : World) (hz : n ≤ zs.length) (hbig : n ≤ 9223372036854775807) (hc : ∀ j, j < zs.length → w.cell? ⟨b, off + j, none⟩ = some (enc zs[j]!)) :
    Calls Tryz.prog 169 #[.slice (some ⟨b, off, none⟩) n c, enc x] w fun e w' => e = .returned (.bool ((zs.take n).any fun y => eq x y)) ∧ w' = w := AnyE.slices_Contains Tryz.laysSlE31_f169 enc eq heq b off n c zs x w hz hbig hc
open Go.Lib in
theorem Tryz.slices_Contains_empty {α : Type} [Inhabited α] (a : Option Addr) (c : Nat) (xv : Value) (w : World) :
    Calls Tryz.prog 169 #[.slice a 0 c, xv] w fun e w' => e = .returned (.bool false) ∧ w' = w := AnyE.slices_Contains_empty Tryz.laysSlE31_f169 a c xv w
def Tryz.laysSlE35_f177_ren : Go.Shelf.Ren := ⟨fun | 35 => 177 | n => n, fun | 22 => 38 | 23 => 3 | 3 => 3 | 4 => 4 | 0 => 0 | n => n, fun | n => n⟩
theorem Tryz.laysSlE35_f177 : Go.Proofs.SlLaysE.n35 Tryz.prog Tryz.laysSlE35_f177_ren := {
  mixed := by kernel_rfl
  f35 := ⟨Tryz.f177.name, by decide, Tryz.func177.trans (congrArg some (by kernel_rfl))⟩
  t0 := Tryz.underlying0
  a0 := Tryz.isAgg0
  z0 := Tryz.sizeOf0
  v0 := Tryz.zeroValue0
  t3 := Tryz.underlying3
  a3 := Tryz.isAgg3
  z3 := Tryz.sizeOf3
  v3 := Tryz.zeroValue3
  t4 := Tryz.underlying4
  a4 := Tryz.isAgg4
  z4 := Tryz.sizeOf4
  v4 := Tryz.zeroValue4
  t22 := Tryz.underlying38
  a22 := Tryz.isAgg38
  z22 := Tryz.sizeOf38
  v22 := Tryz.zeroValue38
  a23 := Tryz.isAgg3
  z23 := Tryz.sizeOf3 }
open Go.RowKit Go.Lib Go.Sort in
theorem Tryz.slices_Reverse_arr {α : Type} [Inhabited α] (enc : α → Value) (h1 : OneCell enc) (blk off cap : Nat) (d : Array α) (w : World) (hH : Holds enc w blk off d) (hsz : d.size ≤ 9223372036854775807) :
    Calls Tryz.prog 177 #[.slice (some ⟨blk, off, none⟩) d.size cap] w fun e w' => e = .returned (.tuple #[]) ∧ ∃ n, w' = putRow enc (Sort.ahead w n) blk off d.reverse := AnyE.slices_Reverse_arr Tryz.laysSlE35_f177 enc h1 blk off cap d w hH hsz
open Go.RowKit Go.Lib Go.Sort in
theorem Tryz.slices_Reverse {α : Type} [Inhabited α] (enc : α → Value) (h1 : OneCell enc) (blk off cap : Nat) (zs : List α) (w : World) (hH : Holds enc w blk off zs.toArray) (hsz : zs.length ≤ 9223372036854775807) :
    Calls Tryz.prog 177 #[.slice (some ⟨blk, off, none⟩) zs.length cap] w fun e w' => e = .returned (.tuple #[]) ∧ ∃ n, w' = putRow enc (Sort.ahead w n) blk off zs.reverse.toArray := AnyE.slices_Reverse Tryz.laysSlE35_f177 enc h1 blk off cap zs w hH hsz
open Go.RowKit Go.Lib Go.Sort in
theorem Tryz.slices_Reverse_empty {α : Type} [Inhabited α] (a : Option Addr) (cap : Nat) (w : World) :
    Calls Tryz.prog 177 #[.slice a 0 cap] w fun e w' => e = .returned (.tuple #[]) ∧ w' = w := AnyE.slices_Reverse_empty Tryz.laysSlE35_f177 a cap w
def Tryz.laysSlE43_f57_ren : Go.Shelf.Ren := ⟨fun | 43 => 57 | n => n, fun | 22 => 38 | 23 => 3 | 3 => 3 | 4 => 4 | 0 => 0 | n => n, fun | n => n⟩
theorem Tryz.laysSlE43_f57 : Go.Proofs.SlLaysE.n43 Tryz.prog Tryz.laysSlE43_f57_ren := {
  mixed := by kernel_rfl
  f43 := ⟨Tryz.f57.name, by decide, Tryz.func57.trans (congrArg some (by kernel_rfl))⟩
  t0 := Tryz.underlying0
  a0 := Tryz.isAgg0
  z0 := Tryz.sizeOf0
  v0 := Tryz.zeroValue0
  t3 := Tryz.underlying3
  a3 := Tryz.isAgg3
  z3 := Tryz.sizeOf3
  v3 := Tryz.zeroValue3
  t4 := Tryz.underlying4
  a4 := Tryz.isAgg4
  z4 := Tryz.sizeOf4
  v4 := Tryz.zeroValue4
  t22 := Tryz.underlying38
  a22 := Tryz.isAgg38
  z22 := Tryz.sizeOf38
  v22 := Tryz.zeroValue38
  a23 := Tryz.isAgg3
  z23 := Tryz.sizeOf3 }
open Go.RowKit Go.Lib Go.Sort in
theorem Tryz.slices_Compact {α : Type} [Inhabited α] [DecidableEq α] (enc : α → Value) (hO : OneCell enc) (heq : EqlAt Tryz.prog 3 enc (fun x y => decide (x = y))) (hne : NeqAt Tryz.prog 3 enc (fun x y => decide (x = y))) (zr : α) (v23 : ∀ w, (zeroValue 3).run Tryz.prog w = .ok (enc zr) w) (blk off cap : Nat) (d : Array α) (w : World) (hH : Holds enc w blk off d) (hsz : d.size ≤ 9223372036854775807) (hcap : d.size ≤ cap) :
    Calls Tryz.prog 57 #[.slice (some ⟨blk, off, none⟩) d.size cap] w fun e w' => e = .returned (.slice (some ⟨blk, off, none⟩) (compactUpTo d d.size).length cap) ∧ ∃ q, w' = putRow enc (Sort.ahead w q) blk off (compactUpTo d d.size ++ List.replicate (d.size - (compactUpTo d d.size).length) zr).toArray := AnyE.slices_Compact Tryz.laysSlE43_f57 enc hO heq hne zr v23 blk off cap d w hH hsz hcap
def Tryz.laysSlH6_f116_ren : Go.Shelf.Ren := ⟨fun | 6 => 116 | n => n, fun | 22 => 38 | 23 => 3 | 25 => 102 | 3 => 3 | 0 => 0 | 4 => 4 | n => n, fun | n => n⟩
theorem Tryz.laysSlH6_f116 : Go.Proofs.SlLaysH.n6 Tryz.prog Tryz.laysSlH6_f116_ren := {
  mixed := by kernel_rfl
  f6 := ⟨Tryz.f116.name, by decide, Tryz.func116.trans (congrArg some (by kernel_rfl))⟩
  t0 := Tryz.underlying0
  a0 := Tryz.isAgg0
  z0 := Tryz.sizeOf0
  v0 := Tryz.zeroValue0
  t3 := Tryz.underlying3
  a3 := Tryz.isAgg3
  z3 := Tryz.sizeOf3
  v3 := Tryz.zeroValue3
  t4 := Tryz.underlying4
  a4 := Tryz.isAgg4
  z4 := Tryz.sizeOf4
  v4 := Tryz.zeroValue4
  t22 := Tryz.underlying38
  a22 := Tryz.isAgg38
  z22 := Tryz.sizeOf38
  v22 := Tryz.zeroValue38
  a23 := Tryz.isAgg3
  z23 := Tryz.sizeOf3
  t25 := Tryz.underlying102
  a25 := Tryz.isAgg102
  z25 := Tryz.sizeOf102
  v25 := Tryz.zeroValue102 }
open Go.RowKit Go.Lib in
theorem Tryz.slices_IndexFunc {α : Type} [Inhabited α] (enc : α → Value) (p : α → Bool) (g : Nat) (lb : Array Value) (eg : ∀ args w, (callFunc g args).run Tryz.prog w = .ok (.enter g args) w) (b off n c : Nat) (zs : List α) (w : World) (hp : PredAt Tryz.prog g lb enc p w) (hz : n ≤ zs.length) (hbig : n ≤ 9223372036854775807) (hc : ∀ j, j < zs.length → w.cell? ⟨b, off + j, none⟩ = some (enc zs[j]!)) :
    Calls Tryz.prog 116 #[.slice (some ⟨b, off, none⟩) n c, .func (.func g) #[] lb] w fun e w' => e = .returned (.int .i64 (Lib.idxBy (fun _ y => p y) (zs.take n) default)) ∧ ∃ q, w' = w.drewN q := AnyE.slices_IndexFunc Tryz.laysSlH6_f116 enc p g lb eg b off n c zs w hp hz hbig hc
open Go.RowKit Go.Lib in
theorem Tryz.slices_IndexFunc_empty {α : Type} [Inhabited α] (a : Option Addr) (c : Nat) (fv : Value) (w : World) :
    Calls Tryz.prog 116 #[.slice a 0 c, fv] w fun e w' => e = .returned (.int .i64 (-1)) ∧ w' = w := AnyE.slices_IndexFunc_empty Tryz.laysSlH6_f116 a c fv w
def Tryz.laysSlH10_f56_ren : Go.Shelf.Ren := ⟨fun | 10 => 56 | 6 => 116 | n => n, fun | 22 => 38 | 23 => 3 | 25 => 102 | 3 => 3 | 4 => 4 | 0 => 0 | n => n, fun | n => n⟩
theorem Tryz.laysSlH10_f56 : Go.Proofs.SlLaysH.n10 Tryz.prog Tryz.laysSlH10_f56_ren := {
  mixed := by kernel_rfl
  f6 := ⟨Tryz.f116.name, by decide, Tryz.func116.trans (congrArg some (by kernel_rfl))⟩
  f10 := ⟨Tryz.f56.name, by decide, Tryz.func56.trans (congrArg some (by kernel_rfl))⟩
  t0 := Tryz.underlying0
  a0 := Tryz.isAgg0
  z0 := Tryz.sizeOf0
  v0 := Tryz.zeroValue0
  t3 := Tryz.underlying3
  a3 := Tryz.isAgg3
  z3 := Tryz.sizeOf3
  v3 := Tryz.zeroValue3
  t4 := Tryz.underlying4
  a4 := Tryz.isAgg4
  z4 := Tryz.sizeOf4
  v4 := Tryz.zeroValue4
  t22 := Tryz.underlying38
  a22 := Tryz.isAgg38
  z22 := Tryz.sizeOf38
  v22 := Tryz.zeroValue38
  a23 := Tryz.isAgg3
  z23 := Tryz.sizeOf3
  t25 := Tryz.underlying102
  a25 := Tryz.isAgg102
  z25 := Tryz.sizeOf102
  v25 := Tryz.zeroValue102 }
open Go.RowKit Go.Lib Go.Sort in
theorem Tryz.slices_DeleteFunc {α : Type} [Inhabited α] (enc : α → Value) (hO : OneCell enc) (p : α → Bool) (g : Nat) (lb : Array Value) (eg : ∀ args w, (callFunc g args).run Tryz.prog w = .ok (.enter g args) w) (zr : α) (v23 : ∀ w, (zeroValue 3).run Tryz.prog w = .ok (enc zr) w) (blk off cap : Nat) (d : Array α) (w : World) (hp : PredAt Tryz.prog g lb enc p w) (hpo : PredOver Tryz.prog g lb enc p blk off d.size w) (hH : Holds enc w blk off d) (hsz : d.size ≤ 9223372036854775807) (hcap : d.size ≤ cap) :
    Calls Tryz.prog 56 #[.slice (some ⟨blk, off, none⟩) d.size cap, .func (.func g) #[] lb] w fun e w' => e = .returned (.slice (some ⟨blk, off, none⟩) (d.toList.filter fun x => !p x).length cap) ∧ ∃ q, w' = putRow enc (Sort.ahead w q) blk off ((d.toList.filter fun x => !p x) ++ List.replicate (d.size - (d.toList.filter fun x => !p x).length) zr).toArray := AnyE.slices_DeleteFunc Tryz.laysSlH10_f56 enc hO p g lb eg zr v23 blk off cap d w hp hpo hH hsz hcap
end Go.Proofs
namespace Go.Proofs.YthkjicnnepkghaaGreatDoor
open Go.RowKit

theorem place_any (v n : Int) (w : World) (hn : 0 < n) (hn' : n ≤ 9223372036854775807) : Calls Tryz.prog 14 #[.int .i64 v, .int .i64 n] w fun e w' => e = .returned (.int .i64 (v % n)) ∧ w = w' := by
  have h1 := Int.emod_nonneg v (show n ≠ 0 by omega)
  have h2 := Int.emod_lt_of_pos v hn
  have h0 : v.tmod n = v % n ∨ v.tmod n = v % n - n := by
    rw [Int.tmod_eq_emod]; split
    · left; omega
    · right; omega
  have h5 : -n < v.tmod n ∧ v.tmod n < n := by
    rcases h0 with h | h
    · omega
    · have h6 : v.tmod n ≠ -n := fun h7 => by
        have h8 : v.tmod n = 0 := by
          have : v % n = 0 := by omega
          exact Int.tmod_eq_zero_of_dvd (Int.dvd_of_emod_eq_zero this)
        omega
      omega
  have h3 : v.tmod n < 0 → v % n = v.tmod n + n := fun h => by omega
  have h4 : 0 ≤ v.tmod n → v % n = v.tmod n := fun h => by omega
  obtain ⟨h6, h7⟩ := h5
  clear h0
  have H3 := hide h3
  have H4 := hide h4
  clear h3 h4
  go_enter Tryz.func14, Tryz.ntmps14
  go_wp2
  · have h : v.tmod n < 0 := by assumption
    go_ret
    exact ⟨ret_int (H3.out h).symm, rfl⟩
  · have h : 0 ≤ v.tmod n := by assumption
    go_ret
    exact ⟨ret_int (H4.out h).symm, rfl⟩

theorem sameInts_any (w : World) (v u : Value) (xs ys : List Int) (hx : Rd w v 1 xs.length (xs.map (Value.int .i64))) (hy : Rd w u 1 ys.length (ys.map (Value.int .i64))) (hlx : xs.length ≤ 1000000000) :
    Calls Tryz.prog 23 #[v, u] w fun e w' => e = .returned (.bool (decide (xs = ys))) ∧ ∃ q, w' = w.drewN q := by
  have hx0 := hx
  have hy0 := hy
  obtain ⟨_, A, c, rfl, hc, _⟩ := hx0
  obtain ⟨_, D, d, rfl, hd, _⟩ := hy0
  by_cases hl : xs.length = ys.length
  · obtain ⟨n, hn⟩ : ∃ n, n = xs.length := ⟨_, rfl⟩
    rw [← hl] at hy hd ⊢
    rw [← hn] at hx hy hlx hc hd ⊢
    have hb : ((n : Int) != (n : Int)) = false := by simp
    have Hn := hide hn
    have Hl := hide hl
    clear hn hl
    go_enter Tryz.func23, Tryz.ntmps23
    go_wp2
    go_loopw [5] (fun i wr => ∃ k : Nat, k ≤ n ∧ i = .int .i64 k ∧ Hid (xs.take k = ys.take k) ∧ ∃ q, wr = w.drewN q)
      (fun i _ => n - (intOf i).toNat)
    case atStart => exact ⟨0, Nat.zero_le _, rfl, rfl, 0, rfl⟩
    case round =>
      obtain ⟨k, hk, rfl, E, q, rfl⟩ := hrel
      by_cases hlt : k < n
      · obtain ⟨b, off, rfl, hb1, hcx⟩ := hx.open1 (by omega)
        obtain ⟨b2, off2, rfl, hb2, hcy⟩ := hy.open1 (by omega)
        have kx := hcx k hlt
        have ky := hcy k hlt
        have hkx : k < xs.length := by rw [← Hn.out]; exact hlt
        have hky : k < ys.length := by rw [← Hl.out]; exact hkx
        have ex : xs.getD k 0 = xs[k] := by simp [List.getD, hkx]
        have ey : ys.getD k 0 = ys[k] := by simp [List.getD, hky]
        have tx := List.take_succ_eq_append_getElem hkx
        have ty := List.take_succ_eq_append_getElem hky
        rw [← ex] at tx
        rw [← ey] at ty
        have Tx := hide tx
        have Ty := hide ty
        have hgo : xs.getD k 0 = ys.getD k 0 → xs.take (k + 1) = ys.take (k + 1) := fun h => by rw [Tx.out, Ty.out, E.out, h]
        have hout : ¬ xs.getD k 0 = ys.getD k 0 → ¬ xs = ys := fun h e => h (by rw [e])
        have Hgo := hide hgo
        have Hout := hide hout
        clear hgo hout tx ty Tx Ty ex ey hcx hcy hkx hky hb1 hb2
        obtain ⟨x, hxe⟩ : ∃ x, x = xs.getD k 0 := ⟨_, rfl⟩
        obtain ⟨y, hye⟩ : ∃ y, y = ys.getD k 0 := ⟨_, rfl⟩
        rw [← hxe] at kx Hgo Hout
        rw [← hye] at ky Hgo Hout
        clear hxe hye hx hy
        by_cases hxy : x = y
        · have hbb : (x != y) = false := by simpa using hxy
          go_wp2
          go_quiet (fail)
          all_goals go_wp2
          go_roundw
          case rel => exact ⟨k + 1, by omega, by go_num, Hgo.out hxy, _, rfl⟩
          case measure => simp [intOf]; omega
        · have hbb : (x != y) = true := by simpa using hxy
          go_wp2
          go_quiet (fail)
          all_goals go_wp2
          go_ret
          exact ⟨by simp [Hout.out hxy], _, World.drewN_drewN _ _ _⟩
      · obtain rfl : k = n := by omega
        have heq : xs = ys := by
          have := E.out
          rwa [List.take_of_length_le (by rw [← Hn.out]; exact Nat.le_refl _), List.take_of_length_le (by rw [← Hl.out, ← Hn.out]; exact Nat.le_refl _)] at this
        have Heq := hide heq
        clear heq
        go_wp2
        go_ret
        exact ⟨by simp [Heq.out], _, rfl⟩
  · have hne : ¬ xs = ys := fun h => hl (by rw [h])
    have hb : ((xs.length : Int) != (ys.length : Int)) = true := by simp; omega
    go_enter Tryz.func23, Tryz.ntmps23
    go_wp2
    go_ret
    exact ⟨by simp [hne], 0, rfl⟩

theorem sameInts_true (w : World) (v u : Value) (xs : List Int) (hx : Rd w v 1 xs.length (xs.map (Value.int .i64))) (hy : Rd w u 1 xs.length (xs.map (Value.int .i64))) (hlx : xs.length ≤ 1000000000) :
    Calls Tryz.prog 23 #[v, u] w fun e w' => e = .returned (.bool true) ∧ ∃ q, w' = w.drewN q :=
  (sameInts_any w v u xs xs hx hy hlx).mono fun _ _ ⟨he, hw⟩ => ⟨by rw [he, decide_eq_true rfl], hw⟩
end Go.Proofs.YthkjicnnepkghaaGreatDoor
