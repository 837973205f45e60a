/-
  Words for memory, of our own: a slice that reads as a list of cells, nil let in; kept over growth.
-/
import Derived.WalkKit
import Derived.WalkSpells
import Derived.Laws.CopyOwn
import Derived.Maps.AppendAt
import Derived.Deep.Draws
namespace Go.Proofs.YthkjicnnepkghaaDoor
open Go.RowKit

/-- The slice value v has n elements of sz cells, which read as cs. -/
def Rd (w : World) (v : Value) (sz n : Nat) (cs : List Value) : Prop :=
  cs.length = n * sz ∧ ∃ A c, v = .slice A n c ∧ n ≤ c ∧
    (0 < n → ∃ b off, A = some ⟨b, off, none⟩ ∧ b < w.heap.size ∧ ∀ j u, cs[j]? = some u → w.cell? ⟨b, off + j, none⟩ = some u)

section
variable {w w' : World} {v : Value} {sz n : Nat} {cs : List Value}

theorem Rd.nil (w : World) (sz : Nat) : Rd w (.slice none 0 0) sz 0 [] := ⟨by simp, none, 0, rfl, Nat.le_refl _, fun h => absurd h (by omega)⟩

theorem Rd.keep (h : Rd w v sz n cs) (hz : w.heap.size ≤ w'.heap.size) (hk : ∀ b, v.ownBlock = some b → b < w.heap.size → w'.heap[b]? = w.heap[b]?) : Rd w' v sz n cs := by
  obtain ⟨h1, A, c, rfl, hc, h2⟩ := h
  refine ⟨h1, A, c, rfl, hc, fun hn => ?_⟩
  obtain ⟨b, off, rfl, hb, hcell⟩ := h2 hn
  exact ⟨b, off, rfl, by omega, fun j u hu => (World.cell?_of_block (a := ⟨b, off + j, none⟩) (hk b rfl hb)).trans (hcell j u hu)⟩

theorem Rd.below {B : Nat} (h : Rd w v sz n cs) (hb : Below B w w') (hB : w.heap.size ≤ B) : Rd w' v sz n cs :=
  h.keep hb.size fun b _ hlt => hb.block b (by omega)

theorem Rd.grown {row : Option Nat} (h : Rd w v sz n cs) (hg : w.grownBy w' row) (hne : ∀ B, row = some B → v.ownBlock ≠ some B) : Rd w' v sz n cs :=
  h.keep hg.size fun b hb hlt => hg.block b hlt fun e => hne b e.symm hb

theorem Rd.alloc (h : Rd w v sz n cs) (o : Obj) : Rd (w.alloc o) v sz n cs := h.below (((Below.refl w.heap.size w).alloc (Nat.le_refl _) o)) (Nat.le_refl _)
theorem Rd.drew (h : Rd w v sz n cs) : Rd w.drew v sz n cs := h
theorem Rd.setCell (h : Rd w v sz n cs) {a : Addr} (ha : v.ownBlock ≠ some a.block) (u : Value) : Rd (w.setCell a u) v sz n cs :=
  h.keep (by simp [World.setCell]) fun b hb _ => Below.heap_setCell w a u b (by rintro rfl; exact ha hb)

theorem addr_add (b off j : Nat) : (⟨b, off, none⟩ : Addr).add j = ⟨b, off + j, none⟩ := by
  unfold Addr.add; split <;> simp_all

theorem Rd.of_own {base : Nat} {e : TypeId} (h : w.ownsRow base e sz v n cs) : Rd w v sz n cs := by
  refine ⟨h.1, ?_⟩
  rcases h.2 with ⟨rfl, rfl⟩ | ⟨g, cap, cur, rfl, hb, hg, hnc, hm, hs, ht⟩
  · exact ⟨none, 0, rfl, Nat.le_refl _, fun h => absurd h (by omega)⟩
  · refine ⟨_, cap, rfl, hnc, fun hn => ⟨g, 0, rfl, ?_, fun j u hu => ?_⟩⟩
    · rcases Nat.lt_or_ge g w.heap.size with hlt | hge
      · exact hlt
      · rw [Array.getElem?_eq_none hge] at hg; cases hg
    · have := h.cells (g := g) rfl j u hu
      rwa [addr_add] at this

theorem Rd.lit (w : World) (cs : List Value) (t : TypeId) (n : Nat) (hs : cs.length = n * sz) (hm : n ≤ maxLen) : Rd (w.alloc (.cells cs.toArray t)) (.slice (some ⟨w.heap.size, 0, none⟩) n n) sz n cs := by
  have := Rd.of_own (World.ownsRow_lit (base := 0) (e := t) (size := sz) w cs.toArray n (Nat.zero_le _) hm (by simpa using hs))
  simpa using this

theorem own_base {base : Nat} {e : TypeId} (h : w.ownsRow base e sz v n cs) {B : Nat} (hB : B < base) : v.ownBlock ≠ some B := fun he => by
  have := (h.lt B he).1; omega

theorem own_le {base base' : Nat} {e : TypeId} (h : w.ownsRow base e sz v n cs) (hB : base' ≤ base) : w.ownsRow base' e sz v n cs := by
  refine ⟨h.1, ?_⟩
  rcases h.2 with h2 | ⟨g, cap, cur, hv, hb, r⟩
  · exact .inl h2
  · exact .inr ⟨g, cap, cur, hv, by omega, r⟩

/-- An owned value is a slice. -/
theorem own_form {base : Nat} {e : TypeId} (h : w.ownsRow base e sz v n cs) : ∃ A c, v = .slice A n c ∧ n ≤ c := by
  rcases h.2 with ⟨rfl, rfl⟩ | ⟨g, cap, cur, rfl, _, _, hnc, _⟩
  · exact ⟨none, 0, rfl, Nat.le_refl _⟩
  · exact ⟨_, cap, rfl, hnc⟩

/-- One element's cell (elements of one cell). -/
theorem Rd.cell1 {A : Option Addr} {c k : Nat} (h : Rd w (.slice A n c) 1 n cs) (hk : k < n) :
    ∃ b off u, A = some ⟨b, off, none⟩ ∧ b < w.heap.size ∧ cs[k]? = some u ∧ w.cell? ⟨b, off + k, none⟩ = some u := by
  obtain ⟨h1, A', c', hv, hc, h2⟩ := h
  simp only [Value.slice.injEq] at hv
  obtain ⟨rfl, _, rfl⟩ := hv
  obtain ⟨b, off, rfl, hb, hcell⟩ := h2 (by omega)
  have hl : k < cs.length := by omega
  exact ⟨b, off, cs[k], rfl, hb, List.getElem?_eq_getElem hl, hcell k _ (List.getElem?_eq_getElem hl)⟩

theorem Rd.open1 {A : Option Addr} {c : Nat} {xs : List Int} (h : Rd w (.slice A n c) 1 n (xs.map (Value.int .i64))) (hn : 0 < n) :
    ∃ b off, A = some ⟨b, off, none⟩ ∧ b < w.heap.size ∧ ∀ k, k < n → w.cell? ⟨b, off + k, none⟩ = some (.int .i64 (xs.getD k 0)) := by
  obtain ⟨h1, A', c', hv, hc, h2⟩ := h
  simp only [Value.slice.injEq] at hv
  obtain ⟨rfl, _, rfl⟩ := hv
  obtain ⟨b, off, rfl, hb, hcell⟩ := h2 hn
  refine ⟨b, off, rfl, hb, fun k hk => hcell k _ ?_⟩
  have hl : k < xs.length := by simpa using (show k < (xs.map (Value.int .i64)).length by omega)
  simp [List.getD, hl]
end

theorem below_drewN {B : Nat} {a w : World} (h : Below B a w) (n : Nat) : Below B a (w.drewN n) := ⟨h.os, h.tape, h.output, h.size, h.block⟩
theorem grown_below {w w' : World} {b B : Nat} (hg : w.grownBy w' (some b)) (hB : B ≤ b) (hs : B ≤ w.heap.size) : Below B w w' :=
  ⟨hg.os, hg.tape, hg.output, hg.size, fun k hk => hg.block k (by omega) (by intro h; cases h; omega)⟩
theorem hide {p : Prop} (h : p) : Hid p := h
/-- A number of an int. -/
def I64 (x : Int) : Prop := -9223372036854775808 ≤ x ∧ x ≤ 9223372036854775807
theorem i64_zero : I64 0 := by unfold I64; omega
theorem i64_getD {l : List Int} (h : ∀ x ∈ l, I64 x) (k : Nat) : I64 (l.getD k 0) := by
  by_cases hk : k < l.length
  · have e : l.getD k 0 = l[k] := by simp [List.getD, hk]
    rw [e]; exact h _ (List.getElem_mem hk)
  · have e : l.getD k 0 = 0 := by simp [List.getD, hk]
    rw [e]; exact i64_zero
theorem i64_of_wf {x : Int} (h : (Lit.int .i64 x).wf = true) : I64 x := by
  unfold I64
  have h1 : IntKind.i64.min = -9223372036854775808 := by decide
  have h2 : IntKind.i64.max = 9223372036854775807 := by decide
  have := h
  simp only [Lit.wf, h1, h2, Bool.and_eq_true, decide_eq_true_eq] at this
  exact this
/-- A row of numbers that came in, as 'Rd' reads it. -/
theorem rd_row {w : World} {a : Option Addr} {len cap : Nat} {zs : List Int}
    (h : (a = none ∧ len = 0 ∧ cap = 0 ∧ zs = []) ∨ ∃ x, a = some x ∧ len ≤ cap ∧ cap ≤ maxLen ∧ zs.length = cap ∧ (∀ i, i < zs.length → w.cell? (x.add i) = some (.int .i64 (zs.getD i 0))) ∧ ∀ n ∈ zs, (Lit.int .i64 n).wf = true) :
    ∃ l : List Int, l.length = len ∧ l.length ≤ 9223372036854775807 ∧ (∀ x ∈ l, I64 x) ∧ Rd w (.slice a len cap) 1 len (l.map (Value.int .i64)) ∧ l = zs.take len := by
  rcases h with ⟨rfl, rfl, rfl, rfl⟩ | ⟨x, rfl, hl, hm, hz, hcell, hwf⟩
  · exact ⟨[], rfl, by simp, by simp, Rd.nil _ _, rfl⟩
  · have hlen : (zs.take len).length = len := by simp; omega
    refine ⟨zs.take len, hlen, by rw [hlen]; unfold maxLen at hm; omega, fun y hy => i64_of_wf (hwf y (List.mem_of_mem_take hy)), ⟨by simp; omega, _, cap, rfl, hl, fun hn => ?_⟩, rfl⟩
    have h0 := hcell 0 (by omega)
    have hx : x.spot = none := by
      cases hs : x.spot with
      | none => rfl
      | some s =>
        exfalso
        have : x.add 0 = x := by simp [Addr.add]
        rw [this] at h0
        unfold World.cell? at h0
        split at h0
        · simp [hs] at h0
        · cases h0
    obtain ⟨b, off, sp⟩ := x
    obtain rfl : sp = none := hx
    refine ⟨b, off, rfl, ?_, fun j u hu => ?_⟩
    · have := block_lt_of_cell h0
      rwa [addr_add] at this
    · have hj : j < len := by
        have := (List.getElem?_eq_some_iff.1 hu).1
        simp at this; omega
      have := hcell j (by omega)
      rw [addr_add] at this
      rw [this]
      have e : (List.map (Value.int IntKind.i64) (List.take len zs))[j]? = some (.int .i64 (zs.getD j 0)) := by
        simp [hj, List.getD, show j < zs.length by omega]
      rw [e] at hu
      exact hu
/-- A slice that came in: it reads as some datum. -/
def CameIn (P : Program) (w : World) (T : TypeId) (a : Option Addr) (len cap : Nat) : Prop :=
  ∃ (H : Type) (enc : TypeId × Value → H) (d : DataW H) (p : List MemPlace), DataW.Trod enc P w 0 (fun _ => true) true T (.slice a len cap) d p
theorem ret_eq {a b : Value} (h : a = b) : Ending.returned a = .returned b := by rw [h]
theorem ret_int {k : IntKind} {a b : Int} (h : a = b) : Ending.returned (.int k a) = .returned (.int k b) := by rw [h]
end Go.Proofs.YthkjicnnepkghaaDoor
