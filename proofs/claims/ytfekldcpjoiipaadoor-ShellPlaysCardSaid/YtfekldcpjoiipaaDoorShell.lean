/-
  Package shell in memory: what its blocks hold, over a footprint; how it turns.
-/
import Derived.Test.YtfekldcpjoiipaaDoorInts
import Derived.Test.YtfekldcpjoiipaaDoorIMap
import Derived.Test.YtfekldcpjoiipaaDoorHeap
import Derived.Test.YtfekldcpjoiipaaDoorErrs
namespace Go.Proofs.YtfekldcpjoiipaaDoor
open Go.RowKit

/-- A window in memory: its block, its row's value, its step, its serials. -/
structure Win where
  a : Nat
  x : Value
  st : Nat
  ws : List Int
def Win.ptr (z : Win) : Value := .pointer (some ⟨z.a, 0, none⟩)

structure WinAt (w : World) (F : Nat → Prop) (z : Win) : Prop where
  blk : w.heap[z.a]? = some (.cells #[.int .i64 z.st, z.x] 74 (0, 0))
  inF : F z.a
  row : w.ownsRow 0 3 1 z.x z.ws.length (z.ws.map (Value.int .i64))
  rowF : ∀ g, z.x.ownBlock = some g → F g

structure ShellZ (w : World) (p mb : Nat) (F : Nat → Prop) (n : Nat) (Z : Int → Option Win) : Prop where
  cell : w.heap[p]? = some (.cells #[.map (some mb)] 71 (0, 0))
  map : MapAt Tryd.prog 3 w mb n (fun id => (Z id).map Win.ptr)
  pF : F p
  mF : F mb
  win : ∀ id z, I64 id → Z id = some z → WinAt w F z
  one : ∀ i j y z, I64 i → I64 j → Z i = some y → Z j = some z → y.a = z.a → i = j
  rows : ∀ i j y z g, I64 i → I64 j → Z i = some y → Z j = some z → y.x.ownBlock = some g → z.x.ownBlock = some g → i = j
  lt : ∀ b, F b → b < w.heap.size

/-- The shell at p holds S: of each window its step and the serials that wait. -/
def ShellAt (w : World) (p : Nat) (F : Nat → Prop) (n : Nat) (S : Int → Option (Nat × List Int)) : Prop :=
  ∃ mb Z, ShellZ w p mb F n Z ∧ ∀ id, I64 id → S id = (Z id).map fun z => (z.st, z.ws)

section
variable {w w' : World} {p mb n : Nat} {F G : Nat → Prop} {Z : Int → Option Win} {S : Int → Option (Nat × List Int)}

theorem own_keep {w w' : World} {base : Nat} {e : TypeId} {sz n : Nat} {v : Value} {cs : List Value} (h : w.ownsRow base e sz v n cs) (hk : ∀ b, v.ownBlock = some b → w'.heap[b]? = w.heap[b]?) : w'.ownsRow base e sz v n cs := by
  refine ⟨h.1, ?_⟩
  rcases h.2 with h2 | ⟨g, cap, cur, rfl, hb, hg, r⟩
  · exact .inl h2
  · exact .inr ⟨g, cap, cur, rfl, hb, (hk g rfl).trans hg, r⟩

theorem own_type {w : World} {base : Nat} {e : TypeId} {sz n : Nat} {v : Value} {cs : List Value} (h : w.ownsRow base e sz v n cs) {g : Nat} (hg : v.ownBlock = some g) : ∃ cur, w.heap[g]? = some (.cells cur e (0, 0)) := by
  rcases h.2 with ⟨rfl, _⟩ | ⟨g', cap, cur, rfl, _, h2, _⟩
  · cases hg
  · cases hg; exact ⟨cur, h2⟩

theorem ShellZ.chg (h : ShellZ w p mb F n Z) (hc : Chg G w w') (hd : ∀ b, F b → ¬ G b) : ShellZ w' p mb F n Z := by
  have hk : ∀ b, F b → w'.heap[b]? = w.heap[b]? := fun b hb => hc.block b (h.lt b hb) (hd b hb)
  exact ⟨(hk p h.pF).trans h.cell, h.map.block (hk mb h.mF), h.pF, h.mF,
    fun id z hi hz => by
      have hw := h.win id z hi hz
      exact ⟨(hk _ hw.inF).trans hw.blk, hw.inF, own_keep hw.row fun b hb => hk b (hw.rowF b hb), hw.rowF⟩,
    h.one, h.rows, fun b hb => Nat.lt_of_lt_of_le (h.lt b hb) hc.size⟩

theorem ShellAt.chg (h : ShellAt w p F n S) (hc : Chg G w w') (hd : ∀ b, F b → ¬ G b) : ShellAt w' p F n S := by
  obtain ⟨mb, Z, h1, h2⟩ := h
  exact ⟨mb, Z, h1.chg hc hd, h2⟩
theorem ShellAt.below (h : ShellAt w p F n S) (hb : Below w.heap.size w w') : ShellAt w' p F n S :=
  h.chg (Chg.of_below hb fun _ => False) fun _ _ h => h
theorem ShellAt.lt (h : ShellAt w p F n S) : ∀ b, F b → b < w.heap.size := by obtain ⟨mb, Z, h1, _⟩ := h; exact h1.lt

def setS (S : Int → Option (Nat × List Int)) (id : Int) (v : Option (Nat × List Int)) : Int → Option (Nat × List Int) := fun i => if i = id then v else S i
def setZ (Z : Int → Option Win) (id : Int) (v : Option Win) : Int → Option Win := fun i => if i = id then v else Z i

theorem ne_of_types {w : World} {a b : Nat} {o o' : Obj} (ha : w.heap[a]? = some o) (hb : w.heap[b]? = some o') (hne : o ≠ o') : a ≠ b := fun e => by
  subst e; rw [ha] at hb; exact hne (Option.some.inj hb)

/-- A window turns in place. -/
theorem ShellZ.turn (h : ShellZ w p mb F n Z) {id : Int} {z z' : Win} (hid : I64 id) (hz : Z id = some z) (hc : Chg (fun b => b = z.a ∨ z.x.ownBlock = some b) w w') (ha : z'.a = z.a)
    (hblk : w'.heap[z.a]? = some (.cells #[.int .i64 z'.st, z'.x] 74 (0, 0))) (hrow : w'.ownsRow 0 3 1 z'.x z'.ws.length (z'.ws.map (Value.int .i64)))
    (hx : ∀ g, z'.x.ownBlock = some g → z.x.ownBlock = some g ∨ w.heap.size ≤ g) : ShellZ w' p mb (fun b => F b ∨ z'.x.ownBlock = some b) n (setZ Z id (some z')) := by
  have hw := h.win id z hid hz
  have hpa : p ≠ z.a := ne_of_types h.cell hw.blk (by simp)
  obtain ⟨es, cl, hm⟩ := h.map.isMapBlock
  have hma : mb ≠ z.a := ne_of_types hm hw.blk (by simp)
  have hpg : ∀ g, z.x.ownBlock = some g → p ≠ g := fun g hg => by
    obtain ⟨cur, hcur⟩ := own_type hw.row hg
    exact ne_of_types h.cell hcur (by simp)
  have hmg : ∀ g, z.x.ownBlock = some g → mb ≠ g := fun g hg => by
    obtain ⟨cur, hcur⟩ := own_type hw.row hg
    exact ne_of_types hm hcur (by simp)
  have hk : ∀ b, F b → b ≠ z.a → z.x.ownBlock ≠ some b → w'.heap[b]? = w.heap[b]? := fun b hb h1 h2 => hc.block b (h.lt b hb) fun e => by rcases e with e | e; exact h1 e; exact h2 e
  refine ⟨(hk p h.pF hpa fun e => hpg p e rfl).trans h.cell, ?_, .inl h.pF, .inl h.mF, ?_, ?_, ?_, ?_⟩
  · refine (h.map.block (hk mb h.mF hma fun e => hmg mb e rfl)).congr fun j hj => ?_
    unfold setZ
    by_cases e : j = id
    · subst e; simp [hz, Win.ptr, ha]
    · simp [e]
  · intro j y hj hy
    unfold setZ at hy
    by_cases e : j = id
    · rw [if_pos e] at hy
      obtain rfl := Option.some.inj hy
      exact ⟨by rw [ha]; exact hblk, .inl (by rw [ha]; exact hw.inF), hrow, fun g hg => .inr hg⟩
    · rw [if_neg e] at hy
      have hy' := h.win j y hj hy
      have hya : y.a ≠ z.a := fun e2 => e (h.one j id y z hj hid hy hz e2)
      have hyx : z.x.ownBlock ≠ some y.a := fun e2 => by
        obtain ⟨cur, hcur⟩ := own_type hw.row e2
        exact ne_of_types hcur hy'.blk (by simp) rfl
      refine ⟨(hk _ hy'.inF hya hyx).trans hy'.blk, .inl hy'.inF, own_keep hy'.row fun b hb => hk b (hy'.rowF b hb) (fun e2 => ?_) (fun e2 => e (h.rows j id y z b hj hid hy hz hb e2)), fun g hg => .inl (hy'.rowF g hg)⟩
      obtain ⟨cur, hcur⟩ := own_type hy'.row hb
      exact ne_of_types hcur hw.blk (by simp) e2
  · intro i j y1 y2 hi hj h1 h2 he
    unfold setZ at h1 h2
    by_cases e1 : i = id <;> by_cases e2 : j = id
    · rw [e1, e2]
    · rw [if_pos e1] at h1; rw [if_neg e2] at h2
      obtain rfl := Option.some.inj h1
      rw [ha] at he
      exact e1.trans (h.one id j z y2 hid hj hz h2 he)
    · rw [if_neg e1] at h1; rw [if_pos e2] at h2
      obtain rfl := Option.some.inj h2
      rw [ha] at he
      exact (h.one i id y1 z hi hid h1 hz he).trans e2.symm
    · rw [if_neg e1] at h1; rw [if_neg e2] at h2
      exact h.one i j y1 y2 hi hj h1 h2 he
  · intro i j y1 y2 g hi hj h1 h2 g1 g2
    unfold setZ at h1 h2
    by_cases e1 : i = id <;> by_cases e2 : j = id
    · rw [e1, e2]
    · rw [if_pos e1] at h1; rw [if_neg e2] at h2
      obtain rfl := Option.some.inj h1
      rcases hx g g1 with h3 | h3
      · exact e1.trans (h.rows id j z y2 g hid hj hz h2 h3 g2)
      · have := h.lt g ((h.win j y2 hj h2).rowF g g2); omega
    · rw [if_neg e1] at h1; rw [if_pos e2] at h2
      obtain rfl := Option.some.inj h2
      rcases hx g g2 with h3 | h3
      · exact (h.rows i id y1 z g hi hid h1 hz g1 h3).trans e2.symm
      · have := h.lt g ((h.win i y1 hi h1).rowF g g1); omega
    · rw [if_neg e1] at h1; rw [if_neg e2] at h2
      exact h.rows i j y1 y2 g hi hj h1 h2 g1 g2
  · intro b hb
    rcases hb with hb | hb
    · exact Nat.lt_of_lt_of_le (h.lt b hb) hc.size
    · obtain ⟨cur, hcur⟩ := own_type hrow hb
      exact lt_of_block hcur

/-- A new, bare window under a number. -/
theorem ShellZ.fresh (h : ShellZ w p mb F n Z) {id : Int} {a : Nat} (hc : Chg (fun b => b = mb) w w') (hm' : MapAt Tryd.prog 3 w' mb (n + 1) (putM (fun id => (Z id).map Win.ptr) id (.pointer (some ⟨a, 0, none⟩))))
    (ha : w.heap.size ≤ a) (hblk : w'.heap[a]? = some (.cells #[.int .i64 0, .slice none 0 0] 74 (0, 0))) : ShellZ w' p mb (fun b => F b ∨ b = a) (n + 1) (setZ Z id (some ⟨a, .slice none 0 0, 0, []⟩)) := by
  obtain ⟨es, cl, hm⟩ := h.map.isMapBlock
  have hk : ∀ b, F b → b ≠ mb → w'.heap[b]? = w.heap[b]? := fun b hb h1 => hc.block b (h.lt b hb) h1
  have hpm : p ≠ mb := ne_of_types h.cell hm (by simp)
  refine ⟨(hk p h.pF hpm).trans h.cell, ?_, .inl h.pF, .inl h.mF, ?_, ?_, ?_, ?_⟩
  · refine hm'.congr fun j hj => ?_
    unfold setZ putM
    by_cases e : j = id
    · simp [e, Win.ptr]
    · simp [e]
  · intro j y hj hy
    unfold setZ at hy
    by_cases e : j = id
    · rw [if_pos e] at hy
      obtain rfl := Option.some.inj hy
      exact ⟨hblk, .inr rfl, World.ownsRow_nil _ _ _ _, fun g hg => by cases hg⟩
    · rw [if_neg e] at hy
      have hy' := h.win j y hj hy
      refine ⟨(hk _ hy'.inF (ne_of_types hy'.blk hm (by simp))).trans hy'.blk, .inl hy'.inF, own_keep hy'.row fun b hb => hk b (hy'.rowF b hb) ?_, fun g hg => .inl (hy'.rowF g hg)⟩
      obtain ⟨cur, hcur⟩ := own_type hy'.row hb
      exact ne_of_types hcur hm (by simp)
  · intro i j y1 y2 hi hj h1 h2 he
    unfold setZ at h1 h2
    by_cases e1 : i = id <;> by_cases e2 : j = id
    · rw [e1, e2]
    · rw [if_pos e1] at h1; rw [if_neg e2] at h2
      obtain rfl := Option.some.inj h1
      have := h.lt _ (h.win j y2 hj h2).inF
      simp only at he; omega
    · rw [if_neg e1] at h1; rw [if_pos e2] at h2
      obtain rfl := Option.some.inj h2
      have := h.lt _ (h.win i y1 hi h1).inF
      simp only at he; omega
    · rw [if_neg e1] at h1; rw [if_neg e2] at h2
      exact h.one i j y1 y2 hi hj h1 h2 he
  · intro i j y1 y2 g hi hj h1 h2 g1 g2
    unfold setZ at h1 h2
    by_cases e1 : i = id <;> by_cases e2 : j = id
    · rw [e1, e2]
    · rw [if_pos e1] at h1
      obtain rfl := Option.some.inj h1
      cases g1
    · rw [if_pos e2] at h2
      obtain rfl := Option.some.inj h2
      cases g2
    · rw [if_neg e1] at h1; rw [if_neg e2] at h2
      exact h.rows i j y1 y2 g hi hj h1 h2 g1 g2
  · intro b hb
    rcases hb with hb | hb
    · exact Nat.lt_of_lt_of_le (h.lt b hb) hc.size
    · subst hb; exact lt_of_block hblk

/-- A window is gone. -/
theorem ShellZ.gone (h : ShellZ w p mb F n Z) {id : Int} (hc : Chg (fun b => b = mb) w w') (hm' : MapAt Tryd.prog 3 w' mb n (delM (fun id => (Z id).map Win.ptr) id)) : ShellZ w' p mb F n (setZ Z id none) := by
  obtain ⟨es, cl, hm⟩ := h.map.isMapBlock
  have hk : ∀ b, F b → b ≠ mb → w'.heap[b]? = w.heap[b]? := fun b hb h1 => hc.block b (h.lt b hb) h1
  have hpm : p ≠ mb := ne_of_types h.cell hm (by simp)
  refine ⟨(hk p h.pF hpm).trans h.cell, ?_, h.pF, h.mF, ?_, ?_, ?_, fun b hb => Nat.lt_of_lt_of_le (h.lt b hb) hc.size⟩
  · refine hm'.congr fun j hj => ?_
    unfold setZ delM
    by_cases e : j = id
    · simp [e]
    · simp [e]
  · intro j y hj hy
    unfold setZ at hy
    by_cases e : j = id
    · rw [if_pos e] at hy; cases hy
    · rw [if_neg e] at hy
      have hy' := h.win j y hj hy
      refine ⟨(hk _ hy'.inF (ne_of_types hy'.blk hm (by simp))).trans hy'.blk, hy'.inF, own_keep hy'.row fun b hb => hk b (hy'.rowF b hb) ?_, hy'.rowF⟩
      obtain ⟨cur, hcur⟩ := own_type hy'.row hb
      exact ne_of_types hcur hm (by simp)
  · intro i j y1 y2 hi hj h1 h2 he
    unfold setZ at h1 h2
    by_cases e1 : i = id
    · rw [if_pos e1] at h1; cases h1
    · by_cases e2 : j = id
      · rw [if_pos e2] at h2; cases h2
      · rw [if_neg e1] at h1; rw [if_neg e2] at h2
        exact h.one i j y1 y2 hi hj h1 h2 he
  · intro i j y1 y2 g hi hj h1 h2 g1 g2
    unfold setZ at h1 h2
    by_cases e1 : i = id
    · rw [if_pos e1] at h1; cases h1
    · by_cases e2 : j = id
      · rw [if_pos e2] at h2; cases h2
      · rw [if_neg e1] at h1; rw [if_neg e2] at h2
        exact h.rows i j y1 y2 g hi hj h1 h2 g1 g2

/-- A shell with no windows. -/
theorem ShellZ.start {w : World} {p mb : Nat} (hp : w.heap[p]? = some (.cells #[.map (some mb)] 71 (0, 0))) (hm : MapAt Tryd.prog 3 w mb 0 (fun _ => none)) : ShellZ w p mb (fun b => b = p ∨ b = mb) 0 (fun _ => none) :=
  ⟨hp, hm, .inl rfl, .inr rfl, fun _ _ _ h => (by cases h), fun _ _ _ _ _ _ h => (by cases h), fun _ _ _ _ _ _ _ h => (by cases h), fun b hb => (by rcases hb with rfl | rfl; exact lt_of_block hp; exact hm.lt)⟩

theorem Tryd.zeroWinP (w : World) : (zeroValue 72).run Tryd.prog w = .ok (.pointer none) w := by kernel_rfl

/-- 's.m[id]' reads. -/
theorem ShellZ.look (h : ShellZ w p mb F n Z) {id : Int} (hid : I64 id) :
    (Instr.lookup 69 (.map (some mb)) (.int .i64 id) false).run Tryd.prog w = .ok (((Z id).map Win.ptr).getD (.pointer none)) w :=
  h.map.look Tryd.underlying3 Tryd.underlying69 (Tryd.zeroWinP w) hid
theorem ShellZ.look_none (h : ShellZ w p mb F n Z) {id : Int} (hid : I64 id) (hz : Z id = none) :
    (Instr.lookup 69 (.map (some mb)) (.int .i64 id) false).run Tryd.prog w = .ok (.pointer none) w := by
  have := h.look hid
  rwa [hz] at this
theorem ShellZ.look_some (h : ShellZ w p mb F n Z) {id : Int} {z : Win} (hid : I64 id) (hz : Z id = some z) :
    (Instr.lookup 69 (.map (some mb)) (.int .i64 id) false).run Tryd.prog w = .ok (.pointer (some ⟨z.a, 0, none⟩)) w := by
  have := h.look hid
  rwa [hz] at this

/-- What a call leaves of a shell. -/
def ShOut (w : World) (p n : Nat) (F : Nat → Prop) (S' : Int → Option (Nat × List Int)) (w' : World) : Prop := ∃ F', ShellAt w' p F' (n + 1) S' ∧ Chg F w w' ∧ Ext F F' w.heap.size
theorem ShellZ.mono {m : Nat} (h : ShellZ w p mb F n Z) (hn : n ≤ m) : ShellZ w p mb F m Z :=
  ⟨h.cell, h.map.mono hn, h.pF, h.mF, h.win, h.one, h.rows, h.lt⟩
theorem ShellAt.mono {m : Nat} (h : ShellAt w p F n S) (hn : n ≤ m) : ShellAt w p F m S := by
  obtain ⟨mb, Z, hz, hS⟩ := h
  exact ⟨mb, Z, hz.mono hn, hS⟩
theorem ShellAt.stay (h : ShellAt w p F n S) : ShOut w p n F S w := ⟨F, h.mono (Nat.le_succ n), Chg.refl _ _, Ext.refl _ _⟩
theorem ShellAt.stayN (h : ShellAt w p F n S) (q : Nat) : ShOut w p n F S (w.drewN q) :=
  ⟨F, (h.below (below_drewN (Below.refl _ _) q)).mono (Nat.le_succ n), (Chg.refl _ _).drewN q, Ext.refl _ _⟩

def Holds (S : Int → Option (Nat × List Int)) (Z : Int → Option Win) : Prop := ∀ id, I64 id → S id = (Z id).map fun z => (z.st, z.ws)
theorem Holds.set (hS : Holds S Z) (id : Int) (v : Option Win) : Holds (setS S id (v.map fun z => (z.st, z.ws))) (setZ Z id v) := fun i hi => by
  unfold setS setZ
  by_cases e : i = id
  · simp [e]
  · simp [e, hS i hi]

theorem ShellZ.freshOut (h : ShellZ w p mb F n Z) (hS : Holds S Z) {id : Int} (hm : MapAt Tryd.prog 3 w' mb (n + 1) (putM (fun id => (Z id).map Win.ptr) id (.pointer (some ⟨w.heap.size, 0, none⟩))))
    (hg : (w.alloc (.cells #[.int .i64 0, .slice none 0 0] 74)).grownBy w' (some mb)) : ShOut w p n F (setS S id (some (0, []))) w' := by
  have hmlt := h.lt mb h.mF
  have hc : Chg (fun b => b = mb) w w' := ((Chg.refl _ w).alloc (.cells #[.int .i64 0, .slice none 0 0] 74)).trans (Chg.grown hg (F := fun b => b = mb) (fun b hb => (Option.some.inj hb).symm)) (Ext.refl _ _)
  have hblk : w'.heap[w.heap.size]? = some (.cells #[.int .i64 0, .slice none 0 0] 74 (0, 0)) := by
    rw [hg.block w.heap.size (by simp) (by simp; omega)]
    exact heap_alloc_new _ _
  exact ⟨_, ⟨mb, _, h.fresh hc hm (Nat.le_refl _) hblk, hS.set id (some ⟨w.heap.size, .slice none 0 0, 0, []⟩)⟩, hc.mono (fun b _ hb => hb ▸ h.mF), fun b hb => by rcases hb with hb | rfl; exact .inl hb; exact .inr (Nat.le_refl _)⟩

theorem ShellZ.goneOut (h : ShellZ w p mb F n Z) (hS : Holds S Z) {id : Int} (hm : MapAt Tryd.prog 3 w' mb n (delM (fun id => (Z id).map Win.ptr) id)) (hg : w.grownBy w' (some mb)) : ShOut w p n F (setS S id none) w' := by
  have hc : Chg (fun b => b = mb) w w' := Chg.grown hg (fun b hb => (Option.some.inj hb).symm)
  exact ⟨_, ⟨mb, _, (h.gone hc hm).mono (Nat.le_succ n), hS.set id none⟩, hc.mono (fun b _ hb => hb ▸ h.mF), Ext.refl _ _⟩

theorem ShellZ.turnOut (h : ShellZ w p mb F n Z) (hS : Holds S Z) {id : Int} {z : Win} (hid : I64 id) (hz : Z id = some z) (st : Nat) (x : Value) (ws : List Int) (hc : Chg (fun b => b = z.a ∨ z.x.ownBlock = some b) w w')
    (hblk : w'.heap[z.a]? = some (.cells #[.int .i64 st, x] 74 (0, 0))) (hrow : w'.ownsRow 0 3 1 x ws.length (ws.map (Value.int .i64)))
    (hx : ∀ g, x.ownBlock = some g → z.x.ownBlock = some g ∨ w.heap.size ≤ g) : ShOut w p n F (setS S id (some (st, ws))) w' := by
  have hw := h.win id z hid hz
  refine ⟨_, ⟨mb, _, (h.turn (z' := ⟨z.a, x, st, ws⟩) hid hz hc rfl hblk hrow hx).mono (Nat.le_succ n), hS.set id (some ⟨z.a, x, st, ws⟩)⟩, hc.mono (fun b _ hb => ?_), fun b hb => ?_⟩
  · rcases hb with rfl | hb
    · exact hw.inF
    · exact hw.rowF b hb
  · rcases hb with hb | hb
    · exact .inl hb
    · rcases hx b hb with h1 | h1
      · exact .inl (hw.rowF b h1)
      · exact .inr h1

/-- One store into a window's step. -/
theorem ShellZ.stepOut (h : ShellZ w p mb F n Z) (hS : Holds S Z) {id : Int} {z : Win} (hid : I64 id) (hz : Z id = some z) (st : Nat) : ShOut w p n F (setS S id (some (st, z.ws))) (w.setCell ⟨z.a, 0, none⟩ (.int .i64 st)) := by
  have hw := h.win id z hid hz
  refine h.turnOut hS hid hz st z.x z.ws (Chg.setCell w (a := ⟨z.a, 0, none⟩) (.inl rfl) _) ?_ (own_keep hw.row fun b hb => ?_) (fun g hg => .inl hg)
  · rw [heap_setCell_same w z.a 0 _ _ _ hw.blk]; rfl
  · refine heap_setCell_other w _ b _ fun e => ?_
    obtain ⟨cur, hcur⟩ := own_type hw.row hb
    exact ne_of_types hcur hw.blk (by simp) e
end
end Go.Proofs.YtfekldcpjoiipaaDoor
