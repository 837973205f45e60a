/-
  tableauref17: surfaces in a list, in memory; how one of them turns.
  tableauref17: S, Synced.
  tableauref17: latest, order, Position; one surface's pending state turned by the law.
  Contracts of tableauref16: Drop, Top.
  Contracts of tableauref16: Has, Put.
-/
import Derived.Test.YthkjicnnepkghaaGreatDoorPkC
import Derived.Deep.QuietTactic
import Derived.BigQuiet
import Derived.Test.YthkjicnnepkghaaGreatDoorPkA
namespace Go.Proofs.YthkjicnnepkghaaGreatDoor
open Go.RowKit
set_option linter.unusedSectionVars false
set_option linter.unusedVariables false

structure RSf where
  id : Int
  s : Sf
  pe : StV
  ca : StV
  cu : StV
instance : Inhabited RSf := ⟨⟨0, default, StV.nil, StV.nil, StV.nil⟩⟩
def RSf.enc (r : RSf) : List Value := [.int .i64 r.id, .int .i64 r.s.parent, .bool r.s.sync,
  .bool r.s.pe.attach, .int .i64 r.s.pe.buffer, r.pe.d, r.pe.f, .bool r.s.pe.input, .bool r.s.pe.all, r.pe.r, .bool r.s.pe.ordered, r.pe.o, r.pe.p,
  .bool r.s.ca.attach, .int .i64 r.s.ca.buffer, r.ca.d, r.ca.f, .bool r.s.ca.input, .bool r.s.ca.all, r.ca.r, .bool r.s.ca.ordered, r.ca.o, r.ca.p,
  .bool r.s.cu.attach, .int .i64 r.s.cu.buffer, r.cu.d, r.cu.f, .bool r.s.cu.input, .bool r.s.cu.all, r.cu.r, .bool r.s.cu.ordered, r.cu.o, r.cu.p]
theorem RSf.len (r : RSf) : r.enc.length = 33 := rfl
def toF (L : List RSf) : Fo := fun id => (L.find? fun r => r.id == id).map RSf.s

def rowsAt (L : List RSf) (k : Nat) (row : List Value) : List Value := (L.take k).flatMap RSf.enc ++ (row ++ (L.drop (k + 1)).flatMap RSf.enc)
theorem encs_len (L : List RSf) : (L.flatMap RSf.enc).length = L.length * 33 := by
  induction L with
  | nil => rfl
  | cons r L ih => rw [List.flatMap_cons, List.length_append, ih, List.length_cons, RSf.len]; omega
theorem rowsAt_put {L : List RSf} {k : Nat} (hk : k < L.length) (r : RSf) : rowsAt L k r.enc = (L.set k r).flatMap RSf.enc := by
  unfold rowsAt
  rw [List.set_eq_take_append_cons_drop, if_pos hk, List.flatMap_append, List.flatMap_cons]
theorem rowsAt_self {L : List RSf} {k : Nat} (hk : k < L.length) : rowsAt L k (L.getD k default).enc = L.flatMap RSf.enc := by
  rw [rowsAt_put hk]
  congr 1
  have : L.getD k default = L[k] := by simp [List.getD, hk]
  rw [this, List.set_getElem_self]
theorem rowsAt_set {L : List RSf} {k : Nat} (hk : k < L.length) {row : List Value} (hr : row.length = 33) {j : Nat} (hj : j < 33) (u : Value) : (rowsAt L k row).set (k * 33 + j) u = rowsAt L k (row.set j u) := by
  unfold rowsAt
  have h1 : ((L.take k).flatMap RSf.enc).length = k * 33 := by rw [encs_len, List.length_take]; congr 1; omega
  rw [List.set_append_right _ _ (by rw [h1]; omega), h1, Nat.add_sub_cancel_left, List.set_append_left _ _ (by rw [hr]; omega)]
theorem rowsAt_get {L : List RSf} {k : Nat} (hk : k < L.length) {row : List Value} (hr : row.length = 33) {j : Nat} (hj : j < 33) : (rowsAt L k row)[k * 33 + j]? = row[j]? := by
  unfold rowsAt
  have h1 : ((L.take k).flatMap RSf.enc).length = k * 33 := by rw [encs_len, List.length_take]; congr 1; omega
  rw [List.getElem?_append_right (by rw [h1]; omega), h1, Nat.add_sub_cancel_left, List.getElem?_append_left (by rw [hr]; omega)]

theorem toF_none {L : List RSf} {id : Int} (h : ∀ k, k < L.length → (L.getD k default).id ≠ id) : toF L id = none := by
  unfold toF
  rw [List.find?_eq_none.2]
  · rfl
  · intro r hr
    obtain ⟨k, hk, rfl⟩ := List.getElem_of_mem hr
    have := h k hk
    simpa [List.getD, hk] using this
theorem getD_mem17 {L : List RSf} {k : Nat} (hk : k < L.length) : L.getD k default ∈ L := by
  have e2 : L.getD k default = L[k] := by simp [List.getD, hk]
  rw [e2]; exact List.getElem_mem hk
theorem getD_one17 {L : List RSf} (hn : (L.map RSf.id).Nodup) {i k : Nat} (hi : i < L.length) (hk : k < L.length) (h : (L.getD i default).id = (L.getD k default).id) : i = k := by
  have hp := List.pairwise_iff_getElem.1 hn
  rcases Nat.lt_trichotomy i k with hlt | heq | hlt
  · exfalso
    refine hp i k (by simpa using hi) (by simpa using hk) hlt ?_
    simpa [List.getD, hi, hk] using h
  · exact heq
  · exfalso
    refine hp k i (by simpa using hk) (by simpa using hi) hlt ?_
    simpa [List.getD, hi, hk] using h.symm
theorem toF_mem : ∀ {L : List RSf} (_ : (L.map RSf.id).Nodup) {r : RSf} (_ : r ∈ L), toF L r.id = some r.s
  | [], _, r, h => by cases h
  | a :: L, hn, r, h => by
    obtain ⟨h1, h2⟩ := List.nodup_cons.1 hn
    rcases List.mem_cons.1 h with rfl | h
    · simp [toF]
    · have hne : a.id ≠ r.id := fun e => h1 (by rw [e]; exact List.mem_map_of_mem h)
      have ih := toF_mem h2 h
      unfold toF at ih ⊢
      rw [List.find?_cons_of_neg (by simpa using hne)]
      exact ih
theorem toF_some {L : List RSf} (hn : (L.map RSf.id).Nodup) {k : Nat} (hk : k < L.length) : toF L (L.getD k default).id = some (L.getD k default).s := toF_mem hn (getD_mem17 hk)
theorem toF_back {L : List RSf} {id : Int} {s : Sf} (h : toF L id = some s) : ∃ r ∈ L, r.id = id ∧ r.s = s := by
  unfold toF at h
  cases e : L.find? fun r => r.id == id with
  | none => rw [e] at h; cases h
  | some r =>
    rw [e] at h
    have h1 := List.find?_some e
    exact ⟨r, List.mem_of_find?_eq_some e, by simpa using h1, by simpa using h⟩
theorem toF_isS {L : List RSf} (id : Int) : (toF L id).isSome = true ↔ id ∈ L.map RSf.id := by
  unfold toF
  rw [Option.isSome_map, List.find?_isSome]
  simp [List.mem_map]
theorem toF_cnt {L : List RSf} (hn : (L.map RSf.id).Nodup) : CntM (toF L) L.length := ⟨L.map RSf.id, hn, by simp, fun x => (toF_isS x).symm⟩
theorem set_ids17 {L : List RSf} {k : Nat} (hk : k < L.length) {r : RSf} (hr : r.id = (L.getD k default).id) : (L.set k r).map RSf.id = L.map RSf.id := by
  rw [List.map_set]
  apply List.ext_getElem?
  intro i
  rw [List.getElem?_set]
  split
  · rename_i h; subst h; simp [hk]
    simpa [hk, List.getD] using hr
  · rfl
theorem toF_set : ∀ {L : List RSf} (_ : (L.map RSf.id).Nodup) {k : Nat} (_ : k < L.length) (r' : RSf) (_ : r'.id = (L.getD k default).id), toF (L.set k r') = setM (toF L) r'.id (some r'.s)
  | [], _, k, hk, _, _ => by simp at hk
  | r :: L, hn, 0, _, r', hr => by
    funext i
    have hr : r'.id = r.id := hr
    unfold toF setM
    by_cases hi : i = r'.id
    · subst hi; simp
    · have h1 : r'.id ≠ i := fun e => hi e.symm
      have h2 : r.id ≠ i := fun e => hi (by rw [hr]; exact e.symm)
      rw [if_neg hi]
      simp [h1, h2]
  | r :: L, hn, k + 1, hk, r', hr => by
    obtain ⟨h1, h2⟩ := List.nodup_cons.1 hn
    have hk' : k < L.length := by simpa using hk
    have hr : r'.id = (L.getD k default).id := hr
    have ih := toF_set h2 hk' r' hr
    have hne : r.id ≠ r'.id := fun e => h1 (by rw [e, hr]; exact List.mem_map_of_mem (getD_mem17 hk'))
    funext i
    have ihi := congrFun ih i
    unfold toF setM at ihi ⊢
    rw [List.set_cons_succ]
    by_cases hi : r.id = i
    · have h3 : ¬ i = r'.id := fun e => hne (hi.trans e)
      simp [hi, h3]
    · simp only [List.find?_cons, show (r.id == i) = false by simpa using hi]
      exact ihi
theorem mem_set17 {L : List RSf} {k : Nat} {r' r : RSf} (h : r ∈ L.set k r') : r = r' ∨ r ∈ L := by
  rcases List.mem_or_eq_of_mem_set h with h | h
  · exact .inr h
  · exact .inl h

structure RSfOk (w : World) (G : Nat → Prop) (r : RSf) : Prop where
  pe : StRd w r.pe r.s.pe
  ca : StRd w r.ca r.s.ca
  cu : StRd w r.cu r.s.cu
  peI : StIn G r.pe r.s.pe
  caI : StIn G r.ca r.s.ca
  cuI : StIn G r.cu r.s.cu
  id64 : I64 r.id
section
variable {w w' : World} {G G' : Nat → Prop} {r r' : RSf} {B0 q : Nat} {v : Value} {L : List RSf}
theorem RSfOk.keep (h : RSfOk w G r) (hz : w.heap.size ≤ w'.heap.size) (hk : ∀ b, G b → b < w.heap.size → w'.heap[b]? = w.heap[b]?) : RSfOk w' G r :=
  ⟨h.pe.keep h.peI hz hk, h.ca.keep h.caI hz hk, h.cu.keep h.cuI hz hk, h.peI, h.caI, h.cuI, h.id64⟩
theorem RSfOk.mono (h : RSfOk w G r) (hG : ∀ b, G b → G' b) : RSfOk w G' r := ⟨h.pe, h.ca, h.cu, h.peI.mono hG, h.caI.mono hG, h.cuI.mono hG, h.id64⟩

structure RefF (B0 : Nat) (w : World) (q : Nat) (G : Nat → Prop) (v : Value) (L : List RSf) : Prop where
  cells : w.heap[q]? = some (.cells #[v] 28 (0, 0))
  row : w.ownsRow B0 86 33 v L.length (L.flatMap RSf.enc)
  ok : ∀ r ∈ L, RSfOk w G r
  ids : (L.map RSf.id).Nodup
  qB : B0 ≤ q
  gq : ¬ G q
  gv : ∀ b, v.ownBlock = some b → ¬ G b
  glt : ∀ b, G b → b < w.heap.size
def fullR (q : Nat) (G : Nat → Prop) (v : Value) : Nat → Prop := fun b => G b ∨ b = q ∨ v.ownBlock = some b
def writR (q : Nat) (v : Value) : Nat → Prop := fun b => b = q ∨ v.ownBlock = some b

theorem RefF.cell (h : RefF B0 w q G v L) : w.cell? ⟨q, 0, none⟩ = some v := by rw [cell_of_row w q 0 _ _ _ h.cells]; rfl
theorem own_lt17 {base n sz : Nat} {e : TypeId} {v : Value} {cs : List Value} (h : w.ownsRow base e sz v n cs) {b : Nat} (hb : v.ownBlock = some b) : b < w.heap.size := (h.lt b hb).2
theorem RefF.fullLt (h : RefF B0 w q G v L) : ∀ b, fullR q G v b → b < w.heap.size := fun b hb => by
  rcases hb with hb | rfl | hb
  · exact h.glt b hb
  · exact lt_of_block h.cells
  · exact own_lt17 h.row hb
theorem RefF.writB (h : RefF B0 w q G v L) : ∀ b, writR q v b → B0 ≤ b := fun b hb => by
  rcases hb with rfl | hb
  · exact h.qB
  · exact (h.row.lt b hb).1
theorem RefF.chg {F : Nat → Prop} (h : RefF B0 w q G v L) (hc : Chg F w w') (hF : ∀ b, fullR q G v b → ¬ F b) : RefF B0 w' q G v L :=
  ⟨(hc.block q (lt_of_block h.cells) (hF q (.inr (.inl rfl)))).trans h.cells, own_keepF h.row fun b hb => hc.block b (own_lt17 h.row hb) (hF b (.inr (.inr hb))),
    fun r hr => (h.ok r hr).keep hc.size fun b hb hlt => hc.block b hlt (hF b (.inl hb)), h.ids, h.qB, h.gq, h.gv, fun b hb => Nat.lt_of_lt_of_le (h.glt b hb) hc.size⟩
theorem RefF.below (h : RefF B0 w q G v L) (hb : Below w.heap.size w w') : RefF B0 w' q G v L := h.chg (Chg.of_below hb fun _ => False) fun _ _ h => h
theorem RefF.drewN (h : RefF B0 w q G v L) (n : Nat) : RefF B0 (w.drewN n) q G v L := h.below (below_drewN (Below.refl _ _) n)
theorem RefF.form (h : RefF B0 w q G v L) : ∃ A c, v = .slice A L.length c ∧ L.length ≤ c ∧ (0 < L.length → ∃ g, A = some ⟨g, 0, none⟩) := by
  rcases h.row.2 with ⟨rfl, h0⟩ | ⟨g, cap, cur, rfl, _, _, hc, _⟩
  · rw [h0]; exact ⟨none, 0, rfl, Nat.le_refl _, fun h => absurd h (by omega)⟩
  · exact ⟨_, cap, rfl, hc, fun _ => ⟨g, rfl⟩⟩
theorem own_open17 {base g n c sz : Nat} {e : TypeId} {cs : List Value} (h : w.ownsRow base e sz (.slice (some ⟨g, 0, none⟩) n c) n cs) : ∃ cur, w.heap[g]? = some (.cells cur e (0, 0)) := by
  rcases h.2 with ⟨h2, _⟩ | ⟨g', cap, cur, hv, hb, hgb, _⟩
  · cases h2
  · simp only [Value.slice.injEq, Option.some.injEq, Addr.mk.injEq, and_true] at hv
    obtain ⟨rfl, _, rfl⟩ := hv
    exact ⟨cur, hgb⟩
theorem own_set17 {base g n c i sz : Nat} {e : TypeId} {cs : List Value} (h : w.ownsRow base e sz (.slice (some ⟨g, 0, none⟩) n c) n cs) (u : Value) :
    (w.setCell ⟨g, i, none⟩ u).ownsRow base e sz (.slice (some ⟨g, 0, none⟩) n c) n (cs.set i u) := by
  refine ⟨by simpa using h.1, ?_⟩
  rcases h.2 with ⟨h2, _⟩ | ⟨g', cap, cur, hv, hb, hgb, r1, r2, r3, r4⟩
  · cases h2
  · simp only [Value.slice.injEq, Option.some.injEq, Addr.mk.injEq, and_true] at hv
    obtain ⟨rfl, _, rfl⟩ := hv
    have hs := heap_setCell_same w g i _ _ u hgb
    refine .inr ⟨g, c, _, rfl, hb, hs, r1, r2, by simpa using r3, ?_⟩
    rw [← r4]
    simp [List.take_set]
structure RowAt (B0 : Nat) (w : World) (g c : Nat) (L : List RSf) (k : Nat) (row : List Value) : Prop where
  own : w.ownsRow B0 86 33 (.slice (some ⟨g, 0, none⟩) L.length c) L.length (rowsAt L k row)
  len : row.length = 33
theorem RowAt.set {g c k : Nat} {row : List Value} (h : RowAt B0 w g c L k row) (hk : k < L.length) {j : Nat} (hj : j < 33) (u : Value) : RowAt B0 (w.setCell ⟨g, k * 33 + j, none⟩ u) g c L k (row.set j u) :=
  ⟨by have := own_set17 (i := k * 33 + j) h.own u; rwa [rowsAt_set hk h.len hj] at this, by simpa using h.len⟩
theorem RowAt.cell {g c k : Nat} {row : List Value} (h : RowAt B0 w g c L k row) (hk : k < L.length) {j : Nat} (hj : j < 33) : w.cell? ⟨g, k * 33 + j, none⟩ = row[j]? := by
  have h1 : (rowsAt L k row)[k * 33 + j]? = row[j]? := rowsAt_get hk h.len hj
  have hl := h.len
  have h2 : row[j]? = some row[j] := List.getElem?_eq_getElem (by omega)
  rw [h2] at h1 ⊢
  have := h.own.cells (g := g) rfl (k * 33 + j) _ h1
  rwa [addr_add, Nat.zero_add] at this
theorem RowAt.free {g c k : Nat} {row : List Value} (h : RowAt B0 w g c L k row) (i : Nat) : w.frozen? ⟨g, i, none⟩ = false := by
  obtain ⟨cur, hg⟩ := own_open17 h.own
  simp [World.frozen?, hg]
theorem RowAt.keep {g c k : Nat} {row : List Value} (h : RowAt B0 w g c L k row) (hk : w'.heap[g]? = w.heap[g]?) : RowAt B0 w' g c L k row :=
  ⟨own_keepF h.own fun b hb => by cases hb; exact hk, h.len⟩
theorem RowAt.below {g c k : Nat} {row : List Value} (h : RowAt B0 w g c L k row) (hb : Below w.heap.size w w') : RowAt B0 w' g c L k row :=
  h.keep (hb.block g (by have := (h.own.lt g rfl).2; omega))
theorem RefF.at (h : RefF B0 w q G v L) {k : Nat} (hk : k < L.length) : ∃ g c, v = .slice (some ⟨g, 0, none⟩) L.length c ∧ RowAt B0 w g c L k (L.getD k default).enc := by
  obtain ⟨A, c, rfl, hc, hA⟩ := h.form
  obtain ⟨g, rfl⟩ := hA (by omega)
  exact ⟨g, c, rfl, by rw [rowsAt_self hk]; exact h.row, rfl⟩
theorem RefF.put {g c k : Nat} (h : RefF B0 w q G (.slice (some ⟨g, 0, none⟩) L.length c) L) (hk : k < L.length) (hc : Chg (fun b => b = g) w w') (hr : RowAt B0 w' g c L k r'.enc) (hid : r'.id = (L.getD k default).id) (ho : RSfOk w' (grownG w w' G) r') (hG : ∀ b, G' b → grownG w w' G b) (hG2 : ∀ b, grownG w w' G b → G' b) :
    RefF B0 w' q G' (.slice (some ⟨g, 0, none⟩) L.length c) (L.set k r') := by
  have hgq : q ≠ g := fun e => by
    obtain ⟨cur, hg⟩ := own_open17 h.row
    have := h.cells; rw [e, hg] at this; cases this
  have hgG : ¬ G g := h.gv g rfl
  have hlt : g < w.heap.size := own_lt17 h.row rfl
  refine ⟨(hc.block q (lt_of_block h.cells) hgq).trans h.cells, ?_, ?_, ?_, h.qB, ?_, ?_, ?_⟩
  · have := hr.own
    rw [rowsAt_put hk] at this
    rw [List.length_set]; exact this
  · intro x hx
    rcases mem_set17 hx with rfl | hx
    · exact ho.mono hG2
    · exact ((h.ok x hx).keep hc.size fun b hb hlt => hc.block b hlt fun e => hgG (e ▸ hb)).mono fun b hb => hG2 b (.inl hb)
  · rw [set_ids17 hk hid]; exact h.ids
  · intro hb
    rcases hG q hb with h1 | h1
    · exact h.gq h1
    · have := lt_of_block h.cells; omega
  · intro b hb hG'
    cases hb
    rcases hG g hG' with h1 | h1
    · exact hgG h1
    · omega
  · intro b hb
    rcases hG b hb with h1 | h1
    · have := h.glt b h1; have := hc.size; omega
    · exact h1.2

def RFOut (B0 : Nat) (w : World) (q : Nat) (G : Nat → Prop) (v : Value) (M' : Fo) (w' : World) : Prop :=
  ∃ G' v' L', RefF B0 w' q G' v' L' ∧ toF L' = M' ∧ Chg (writR q v) w w' ∧ Ext (fullR q G v) (fullR q G' v') w.heap.size
theorem RefF.stay (h : RefF B0 w q G v L) : RFOut B0 w q G v (toF L) w := ⟨G, v, L, h, rfl, Chg.refl _ _, Ext.refl _ _⟩
theorem RefF.stayB (h : RefF B0 w q G v L) (hb : Below w.heap.size w w') : RFOut B0 w q G v (toF L) w' := ⟨G, v, L, h.below hb, rfl, Chg.of_below hb _, Ext.refl _ _⟩
theorem RefF.putOut {g c k : Nat} (h : RefF B0 w q G (.slice (some ⟨g, 0, none⟩) L.length c) L) (hk : k < L.length) (hc : Chg (fun b => b = g) w w') (hr : RowAt B0 w' g c L k r'.enc) (hid : r'.id = (L.getD k default).id) (ho : RSfOk w' (grownG w w' G) r') :
    RFOut B0 w q G (.slice (some ⟨g, 0, none⟩) L.length c) (setM (toF L) r'.id (some r'.s)) w' := by
  refine ⟨_, _, _, h.put hk hc hr hid ho (fun _ h => h) (fun _ h => h), toF_set h.ids hk _ hid, hc.mono fun b _ e => .inr (by rw [e]; rfl), ?_⟩
  intro b hb
  rcases hb with hb | hb | hb
  · rcases hb with hb | hb
    · exact .inl (.inl hb)
    · exact .inr hb.1
  · exact .inl (.inr (.inl hb))
  · exact .inl (.inr (.inr hb))
end
end Go.Proofs.YthkjicnnepkghaaGreatDoor
namespace Go.Proofs.YthkjicnnepkghaaGreatDoor
open Go.RowKit
set_option linter.unusedVariables false

def FoundS (L : List RSf) (v : Value) (id : Int) (p : Value) : Prop :=
  ((∀ k, k < L.length → (L.getD k default).id ≠ id) ∧ p = .pointer none) ∨ ∃ k g c, k < L.length ∧ (L.getD k default).id = id ∧ v = .slice (some ⟨g, 0, none⟩) L.length c ∧ p = .pointer (some ⟨g, k * 33, none⟩)

set_option maxRecDepth 100000 in
theorem gS_any {B0 : Nat} (w : World) (q : Nat) (G : Nat → Prop) (v : Value) (L : List RSf) (id : Int) (h : RefF B0 w q G v L) (hl : L.length ≤ 1000) :
    Calls Tryz.prog 36 #[.pointer (some ⟨q, 0, none⟩), .int .i64 id] w fun e w' => ∃ p, e = .returned p ∧ FoundS L v id p ∧ w = w' := by
  have hc := h.cell
  obtain ⟨A, c, rfl, hcc, hA⟩ := h.form
  obtain ⟨n, hn⟩ : ∃ n, n = L.length := ⟨_, rfl⟩
  have hw := hide (fun (g : Nat) (e : A = some ⟨g, 0, none⟩) (k : Nat) (hk : k < L.length) => show w.cell? ⟨g, k * 33, none⟩ = some (.int .i64 (L.getD k default).id) from by
    obtain ⟨g', c', hv, hr⟩ := h.at hk
    rw [e] at hv
    simp only [Value.slice.injEq, Option.some.injEq, Addr.mk.injEq, and_true] at hv
    rw [hv.1]
    exact hr.cell hk (j := 0) (by decide))
  rw [← hn] at hc hcc hA hl
  unfold FoundS
  rw [← hn]
  replace hn := hide hn
  clear h
  go_enter Tryz.func36, Tryz.ntmps36
  go_wp2
  go_loopw [5] (fun i wr => ∃ k : Nat, k ≤ n ∧ i = .int .i64 k ∧ Hid (∀ j, j < k → (L.getD j default).id ≠ id) ∧ wr = w)
    (fun i _ => n - (intOf i).toNat)
  case atStart => exact ⟨0, Nat.zero_le _, rfl, hide (fun j hj => absurd hj (by omega)), rfl⟩
  case round =>
    obtain ⟨k, hk, rfl, hT, rfl⟩ := hrel
    by_cases hlt : k < n
    · obtain ⟨g, rfl⟩ := hA (by omega)
      have k0 := hw.out g rfl k (by rw [← hn.out]; exact hlt)
      obtain ⟨x, hx⟩ : ∃ x, x = (L.getD k default).id := ⟨_, rfl⟩
      rw [← hx] at k0
      replace hx := hide hx
      by_cases hxd : x = id
      · have hb : (x == id) = true := by simpa using hxd
        go_wp2
        go_ret
        exact ⟨_, rfl, .inr ⟨k, g, c, hlt, by rw [← hx.out]; exact hxd, rfl, rfl⟩, rfl⟩
      · have hb : (x == id) = false := by simpa using hxd
        have hT2 : Hid (∀ j, j < k + 1 → (L.getD j default).id ≠ id) := hide (fun j hj => by
          by_cases e : j = k
          · subst e; rw [← hx.out]; exact hxd
          · exact hT.out j (by omega))
        go_wp2
        go_roundw
        case rel => exact ⟨k + 1, by omega, by go_num, hT2, by first | trivial | rfl⟩
        case measure => simp [intOf]; omega
    · obtain rfl : k = n := by omega
      go_wp2
      go_ret
      exact ⟨_, rfl, .inl ⟨hT.out, rfl⟩, rfl⟩

theorem found_or17 (L : List RSf) (id : Int) : (∀ k, k < L.length → (L.getD k default).id ≠ id) ∨ ∃ k, k < L.length ∧ (L.getD k default).id = id := by
  by_cases h : ∃ k, k < L.length ∧ (L.getD k default).id = id
  · exact .inr h
  · exact .inl fun k hk e => h ⟨k, hk, e⟩
section
variable {B0 : Nat} {w : World} {q : Nat} {G : Nat → Prop} {v : Value} {L : List RSf} {id : Int}
theorem toF_found {s : Sf} (h : toF L id = some s) : ∃ k, k < L.length ∧ (L.getD k default).id = id := by
  rcases found_or17 L id with hn | h1
  · rw [toF_none hn] at h; cases h
  · exact h1
theorem toF_lost (h : toF L id = none) (hn : (L.map RSf.id).Nodup) : ∀ k, k < L.length → (L.getD k default).id ≠ id := by
  rcases found_or17 L id with h1 | ⟨k, hk, e⟩
  · exact h1
  · rw [← e, toF_some hn hk] at h; cases h
theorem gS_no (h : RefF B0 w q G v L) (hl : L.length ≤ 1000) (hn : toF L id = none) :
    Calls Tryz.prog 36 #[.pointer (some ⟨q, 0, none⟩), .int .i64 id] w fun e w' => e = .returned (.pointer none) ∧ w = w' := by
  refine (gS_any w q G v L id h hl).mono ?_
  rintro e w' ⟨p, rfl, hF, rfl⟩
  refine ⟨?_, rfl⟩
  rcases hF with ⟨_, rfl⟩ | ⟨k', g', c', hk', hid', _⟩
  · rfl
  · exact absurd hid' (toF_lost hn h.ids k' hk')
structure Here (B0 : Nat) (w : World) (q : Nat) (G : Nat → Prop) (v : Value) (L : List RSf) (id : Int) (k g c : Nat) (r : RSf) : Prop where
  lt : k < L.length
  form : v = .slice (some ⟨g, 0, none⟩) L.length c
  row : RowAt B0 w g c L k r.enc
  at_ : L.getD k default = r
  id_ : r.id = id
  s : toF L id = some r.s
  ok : RSfOk w G r
theorem RefF.here {s : Sf} (h : RefF B0 w q G v L) (hs : toF L id = some s) : ∃ k g c r, Here B0 w q G v L id k g c r ∧ r.s = s := by
  obtain ⟨k, hk, e⟩ := toF_found hs
  obtain ⟨g, c, hv, hr⟩ := h.at hk
  have h1 := toF_some h.ids hk
  rw [e, hs] at h1
  exact ⟨k, g, c, _, ⟨hk, hv, hr, rfl, e, by rw [hs]; exact h1, h.ok _ (getD_mem17 hk)⟩, (Option.some.inj h1).symm⟩
theorem gS_at {k g c : Nat} {r : RSf} (h : RefF B0 w q G v L) (hl : L.length ≤ 1000) (hh : Here B0 w q G v L id k g c r) :
    Calls Tryz.prog 36 #[.pointer (some ⟨q, 0, none⟩), .int .i64 id] w fun e w' => e = .returned (.pointer (some ⟨g, k * 33, none⟩)) ∧ w = w' := by
  refine (gS_any w q G v L id h hl).mono ?_
  rintro e w' ⟨p, rfl, hF, rfl⟩
  refine ⟨?_, rfl⟩
  have hid : (L.getD k default).id = id := by rw [hh.at_]; exact hh.id_
  rcases hF with ⟨hn, _⟩ | ⟨k', g', c', hk', hid', hv, rfl⟩
  · exact absurd hid (hn k hh.lt)
  · obtain rfl := getD_one17 h.ids hk' hh.lt (hid'.trans hid.symm)
    rw [hh.form] at hv
    simp only [Value.slice.injEq, Option.some.injEq, Addr.mk.injEq, and_true] at hv
    rw [hv.1]
end

set_option maxRecDepth 100000 in
theorem gSynced_any {B0 : Nat} (w : World) (q : Nat) (G : Nat → Prop) (v : Value) (L : List RSf) (h : RefF B0 w q G v L) (hl : L.length ≤ 1000) {rk : Int → Nat} {Bk : Nat} (hrk : ∀ j s, toF L j = some s → rk j ≤ Bk ∧ (s.parent ≠ 0 → rk s.parent < rk j)) :
    ∀ (n : Nat) (id : Int), (∀ s, toF L id = some s → rk id < n) → Calls Tryz.prog 79 #[.pointer (some ⟨q, 0, none⟩), .int .i64 id] w fun e w' => e = .returned (.bool (synB (toF L) id)) ∧ w = w' := by
  intro n
  induction n with
  | zero =>
    intro id hn
    cases hs : toF L id with
    | none =>
      have cS := hide (gS_no h hl hs)
      rw [synB_none hs]
      clear h hrk hn
      go_enter Tryz.func79, Tryz.ntmps79
      go_wp2_with fail
      refine (cS.out).mono ?_
      rintro e w' ⟨rfl, rfl⟩
      go_wp2
      go_ret
      exact ⟨rfl, rfl⟩
    | some s => have := hn s hs; omega
  | succ n ih =>
    intro id hn
    cases hs : toF L id with
    | none =>
      have cS := hide (gS_no h hl hs)
      rw [synB_none hs]
      clear h hrk hn ih
      go_enter Tryz.func79, Tryz.ntmps79
      go_wp2_with fail
      refine (cS.out).mono ?_
      rintro e w' ⟨rfl, rfl⟩
      go_wp2
      go_ret
      exact ⟨rfl, rfl⟩
    | some s =>
      obtain ⟨k, g, c, r, hh, rfl⟩ := h.here hs
      have cS := hide (gS_at h hl hh)
      have k1 : w.cell? ⟨g, k * 33 + 1, none⟩ = some (.int .i64 r.s.parent) := hh.row.cell hh.lt (by decide)
      have k2 : w.cell? ⟨g, k * 33 + 2, none⟩ = some (.bool r.s.sync) := hh.row.cell hh.lt (by decide)
      have hr := hrk id _ hs
      have hn2 := hn _ hs
      by_cases hp : r.s.parent = 0
      · rw [synB_top hs hp]
        rw [hp] at k1
        clear ih
        go_enter Tryz.func79, Tryz.ntmps79
        go_wp2_with fail
        refine (cS.out).mono ?_
        rintro e w' ⟨rfl, rfl⟩
        go_wp2
        go_ret
        exact ⟨rfl, rfl⟩
      · have hpb : (r.s.parent != 0) = true := by simpa using hp
        cases hy : r.s.sync with
        | true =>
          rw [synB_sync hs hp hy]
          rw [hy] at k2
          generalize r.s.parent = x at k1 hpb
          clear ih
          go_enter Tryz.func79, Tryz.ntmps79
          go_wp2_with fail
          refine (cS.out).mono ?_
          rintro e w' ⟨rfl, rfl⟩
          go_wp2
          go_ret
          exact ⟨rfl, rfl⟩
        | false =>
          have cU := hide (ih r.s.parent (fun s' hs' => by have := hr.2 hp; omega))
          rw [synB_up hs hp hy]
          rw [hy] at k2
          generalize r.s.parent = x at k1 hpb cU
          clear ih hr hrk hn hh hs hp
          go_enter Tryz.func79, Tryz.ntmps79
          go_wp2_with fail
          refine (cS.out).mono ?_
          rintro e w' ⟨rfl, rfl⟩
          go_wp2_with fail
          refine (cU.out).mono ?_
          rintro e w' ⟨rfl, rfl⟩
          go_wp2
          go_ret
          exact ⟨by first | rfl | simp, rfl⟩
end Go.Proofs.YthkjicnnepkghaaGreatDoor
namespace Go.Proofs.YthkjicnnepkghaaGreatDoor
open Go.RowKit
set_option linter.unusedVariables false

def RSf.latV (r : RSf) : Value := if r.s.pe.ordered then r.pe.o else if r.s.ca.ordered then r.ca.o else r.cu.o
theorem RSfOk.lat {w : World} {G : Nat → Prop} {r : RSf} (h : RSfOk w G r) : Rd w r.latV 1 r.s.latest.length (r.s.latest.map (Value.int .i64)) ∧ BlkIn G r.latV r.s.latest.length := by
  unfold RSf.latV Sf.latest
  split
  · exact ⟨h.pe.o, h.peI.o⟩
  · split
    · exact ⟨h.ca.o, h.caI.o⟩
    · exact ⟨h.cu.o, h.cuI.o⟩

theorem gLatest_any {B0 : Nat} (w : World) (g c k : Nat) (L : List RSf) (r : RSf) (hk : k < L.length) (hr : RowAt B0 w g c L k r.enc) :
    Calls Tryz.prog 96 #[.pointer (some ⟨g, k * 33, none⟩)] w fun e w' => e = .returned r.latV ∧ w = w' := by
  have k1 : w.cell? ⟨g, k * 33 + 10, none⟩ = some (.bool r.s.pe.ordered) := hr.cell hk (by decide)
  have k2 : w.cell? ⟨g, k * 33 + 11, none⟩ = some r.pe.o := hr.cell hk (by decide)
  have k3 : w.cell? ⟨g, k * 33 + 20, none⟩ = some (.bool r.s.ca.ordered) := hr.cell hk (by decide)
  have k4 : w.cell? ⟨g, k * 33 + 21, none⟩ = some r.ca.o := hr.cell hk (by decide)
  have k5 : w.cell? ⟨g, k * 33 + 31, none⟩ = some r.cu.o := hr.cell hk (by decide)
  unfold RSf.latV
  generalize k * 33 = o at k1 k2 k3 k4 k5 ⊢
  generalize r.s.pe.ordered = a at k1 ⊢
  generalize r.s.ca.ordered = b at k3 ⊢
  generalize r.pe.o = x at k2 ⊢
  generalize r.ca.o = y at k4 ⊢
  generalize r.cu.o = z at k5 ⊢
  cases a with
  | true =>
    go_enter Tryz.func96, Tryz.ntmps96
    go_wp2
    go_ret
    exact ⟨rfl, rfl⟩
  | false =>
    cases b with
    | true =>
      go_enter Tryz.func96, Tryz.ntmps96
      go_wp2
      go_ret
      exact ⟨rfl, rfl⟩
    | false =>
      go_enter Tryz.func96, Tryz.ntmps96
      go_wp2
      go_ret
      exact ⟨rfl, rfl⟩

def putOrd (w : World) (g o : Nat) (v : Value) : World := (w.setCell ⟨g, o + 10, none⟩ (.bool true)).setCell ⟨g, o + 11, none⟩ v
theorem gOrder_any {B0 : Nat} (w : World) (g c k : Nat) (L : List RSf) (row : List Value) (hk : k < L.length) (hr : RowAt B0 w g c L k row) (A : Option Addr) (l cc : Nat) :
    Calls Tryz.prog 94 #[.pointer (some ⟨g, k * 33, none⟩), .slice A l cc] w fun e w' => e = .returned (.tuple #[]) ∧ w' = putOrd w g (k * 33) (.slice A l cc) := by
  have k1 := hr.cell hk (show 10 < 33 by decide)
  have k2 := hr.cell hk (show 11 < 33 by decide)
  have hl := hr.len
  rw [List.getElem?_eq_getElem (show 10 < row.length by omega)] at k1
  rw [List.getElem?_eq_getElem (show 11 < row.length by omega)] at k2
  have f1 := fun i => hr.free i
  generalize row[10] = a at k1
  generalize row[11] = b at k2
  have f10 := f1 (k * 33 + 10)
  have f11 := f1 (k * 33 + 11)
  unfold putOrd
  generalize k * 33 = o at k1 k2 f10 f11 ⊢
  clear f1 hr
  go_enter Tryz.func94, Tryz.ntmps94
  go_wp2
  go_end0
  exact ⟨rfl, rfl⟩
end Go.Proofs.YthkjicnnepkghaaGreatDoor
namespace Go.Proofs.YthkjicnnepkghaaGreatDoor
open Go.RowKit

theorem rdrop_any (w : World) (v : Value) (xs : List Int) (d : Int) (hr : Rd w v 1 xs.length (xs.map (Value.int .i64))) (hlen : xs.length ≤ 1000000) :
   Calls Tryz.prog 130 #[v, .int .i64 d] w fun e w' => ∃ v', e = .returned v' ∧ w'.ownsRow w.heap.size 3 1 v' (without xs d).length ((without xs d).map (Value.int .i64)) ∧ Below w.heap.size w w' := by
  obtain ⟨i0, hi, hz0, hz1, hz2⟩ := info_parts Tryz.infoInt
  have hr0 := hr
  obtain ⟨_, A, c, rfl, hc, _⟩ := hr0
  obtain ⟨n, hn⟩ : ∃ n, n = xs.length := ⟨_, rfl⟩
  rw [← hn] at hr hlen hc ⊢
  have HN := hide hn
  clear hn
  go_enter Tryz.func130, Tryz.ntmps130
  go_wp2
  go_loopw [5, 6] (fun u i wr => ∃ k : Nat, k ≤ n ∧ i = .int .i64 k ∧ wr.ownsRow w.heap.size 3 1 u (without (xs.take k) d).length ((without (xs.take k) d).map (Value.int .i64)) ∧ Below w.heap.size w wr)
    (fun _ i _ => n - (intOf i).toNat)
  case atStart => exact ⟨0, Nat.zero_le _, rfl, World.ownsRow_nil _ _ _ _, Below.refl _ _⟩
  case round =>
    obtain ⟨k, hk, rfl, hown, hB⟩ := hrel
    have hml := without_take xs d k
    by_cases hlt : k < n
    · obtain ⟨b, off, rfl, hb, hcell⟩ := hr.open1 (by omega)
      have hcx : wr.cell? ⟨b, off + k, none⟩ = some (.int .i64 (xs.getD k 0)) := (hB.cell (p := ⟨b, off + k, none⟩) hb).trans (hcell k hlt)
      clear hcell
      have hit := fun h => without_hit xs d k (by rw [← HN.out]; exact hlt) h
      have miss := fun h => without_miss xs d k (by rw [← HN.out]; exact hlt) h
      have Hit := hide hit
      have Miss := hide miss
      clear hit miss
      obtain ⟨x, hx⟩ : ∃ x, x = xs.getD k 0 := ⟨_, rfl⟩
      rw [← hx] at hcx Hit Miss
      clear hx hr
      by_cases hxd : x = d
      · have hxb : (x != d) = false := by simpa using hxd
        have hm := Miss.out hxd
        rw [← hm] at hown
        have Hown := hide hown
        clear hxd hown hm Hit Miss
        go_wp2
        go_roundw
        case rel => exact ⟨k + 1, by omega, by go_num, Hown.out, hB⟩
        case measure => simp [intOf]; omega
      · have hxb : (x != d) = true := by simpa using hxd
        have hm := hide (Hit.out hxd)
        clear Hit Miss
        obtain ⟨A1, c1, rfl, hc1⟩ := own_form hown
        go_wp2_with (at_builtin; refine wpList_append_own _ rfl _ _ 38 rfl w.heap.size 3 i0 (.int .i64 0) 1 8 Tryz.underlying38 hi hz0 hz1 hz2 rfl (by decide) _ _ _ rfl (hown.alloc _) ⟨wr.heap.size, 0, none⟩ 1 1 [.int .i64 x] rfl rfl (cell_one_new _ _ _) (by intro u hu; simp at hu; subst hu; rfl) (by unfold maxLen; omega) (by omega) (by have := hB.size; simp <;> omega) ?_; intro v2 w2 hown2 hg2 _)
        have hB2 : Below w.heap.size w w2 := (hB.alloc hB.size _).grown hg2 (by have := hB.size; simp; omega) (fun k hk => (hown.lt k hk).1)
        have hown3 : w2.ownsRow w.heap.size 3 1 v2 (without (xs.take (k + 1)) d).length ((without (xs.take (k + 1)) d).map (Value.int .i64)) := by
          rw [hm.out]; simpa using hown2
        have Hown := hide hown3
        obtain ⟨A2, c2, rfl, hc2⟩ := own_form hown2
        clear hown2 hown3 hg2 hown hcx
        go_wp2
        go_roundw
        case rel => exact ⟨k + 1, by omega, by go_num, Hown.out, hB2⟩
        case measure => simp [intOf]; omega
    · obtain rfl : k = n := by omega
      have Htk : Hid (xs.take k = xs) := by rw [HN.out]; exact List.take_length
      obtain ⟨A1, c1, rfl, hc1⟩ := own_form hown
      go_wp2
      go_ret
      refine ⟨_, rfl, ?_, hB⟩
      simp only [Htk.out] at hown ⊢
      exact hown

theorem rtop_any (w : World) (v : Value) (xs : List Int) (d : Int) (hr : Rd w v 1 xs.length (xs.map (Value.int .i64))) (hlen : xs.length ≤ 1000000) :
   Calls Tryz.prog 95 #[v, .int .i64 d] w fun e w' => ∃ v', e = .returned v' ∧ w'.ownsRow w.heap.size 3 1 v' ((without xs d).length + 1) ((without xs d ++ [d]).map (Value.int .i64)) ∧ Below w.heap.size w w' := by
  obtain ⟨i0, hi, hz0, hz1, hz2⟩ := info_parts Tryz.infoInt
  go_enter Tryz.func95, Tryz.ntmps95
  go_wp2_with fail
  refine (rdrop_any _ v xs d hr hlen).mono ?_
  rintro e w1 ⟨v1, rfl, hown, hB⟩
  have hle := without_le xs d
  obtain ⟨A1, c1, rfl, hc1⟩ := own_form hown
  go_wp2_with (at_builtin; refine wpList_append_own _ rfl _ _ 38 rfl w.heap.size 3 i0 (.int .i64 0) 1 8 Tryz.underlying38 hi hz0 hz1 hz2 rfl (by decide) _ _ _ rfl (hown.alloc _) ⟨w1.heap.size, 0, none⟩ 1 1 [.int .i64 d] rfl rfl (cell_one_new _ _ _) (by intro u hu; simp at hu; subst hu; rfl) (by unfold maxLen; omega) (by omega) (by have := hB.size; simp <;> omega) ?_; intro v2 w2 hown2 hg2 _)
  obtain ⟨A2, c2, rfl, hc2⟩ := own_form hown2
  have hB2 : Below w.heap.size w w2 := (hB.alloc hB.size _).grown hg2 (by have := hB.size; simp; omega) (fun k hk => (hown.lt k hk).1)
  go_wp2
  go_ret
  exact ⟨_, rfl, by simpa using hown2, hB2⟩
end Go.Proofs.YthkjicnnepkghaaGreatDoor
namespace Go.Proofs.YthkjicnnepkghaaGreatDoor
open Go.RowKit

theorem idxOf_none {xs : List Int} {d : Int} (h : d ∉ xs) : Lib.idxOf xs d = -1 := by
  rcases idx_cases xs d with ⟨h1, _⟩ | ⟨k, hk, _, h2, _⟩
  · exact h1
  · exfalso; apply h; rw [← h2]; simp [List.getD, hk]

theorem idxOf_at {xs : List Int} {d : Int} {k : Nat} (hk : k < xs.length) (he : xs.getD k 0 = d) (hf : ∀ j, j < k → xs.getD j 0 ≠ d) : Lib.idxOf xs d = (k : Int) := by
  rcases idx_cases xs d with ⟨_, h1⟩ | ⟨m, hm, h1, h2, h3⟩
  · exfalso; apply h1; rw [← he]; simp [List.getD, hk]
  · rcases Nat.lt_trichotomy k m with h | h | h
    · exact absurd he (h3 k h)
    · rw [h1, h]
    · exact absurd h2 (hf m h)

set_option maxRecDepth 100000 in
theorem place16_any (w : World) (v : Value) (xs : List Int) (d : Int) (hr : Rd w v 1 xs.length (xs.map (Value.int .i64))) (hlen : xs.length ≤ 1000000) :
    Calls Tryz.prog 133 #[v, .int .i64 d] w fun e w' => e = .returned (.int .i64 (Lib.idxOf xs d)) ∧ w = w' := by
  have hr0 := hr
  obtain ⟨_, A, c, rfl, hc, _⟩ := hr0
  obtain ⟨n, hn⟩ : ∃ n, n = xs.length := ⟨_, rfl⟩
  rw [← hn] at hr hlen hc ⊢
  have HN := hide hn
  clear hn
  go_enter Tryz.func133, Tryz.ntmps133
  go_wp2
  go_loopw [5] (fun i wr => ∃ k : Nat, k ≤ n ∧ i = .int .i64 k ∧ Hid (∀ j, j < k → xs.getD j 0 ≠ d) ∧ wr = w)
    (fun i _ => n - (intOf i).toNat)
  case atStart => exact ⟨0, Nat.zero_le _, rfl, hide (fun j hj => absurd hj (by omega)), rfl⟩
  case round =>
    obtain ⟨k, hk, rfl, E, rfl⟩ := hrel
    by_cases hlt : k < n
    · obtain ⟨b, off, rfl, hb, hcell⟩ := hr.open1 (by omega)
      have hcx := hcell k hlt
      have hat := fun h => idxOf_at (xs := xs) (d := d) (k := k) (by rw [← HN.out]; exact hlt) h E.out
      have hstep : ¬ xs.getD k 0 = d → ∀ j, j < k + 1 → xs.getD j 0 ≠ d := fun h j hj => by
        rcases Nat.lt_or_ge j k with h1 | h1
        · exact E.out j h1
        · obtain rfl : j = k := by omega
          exact h
      have Hat := hide hat
      have Hst := hide hstep
      clear hat hstep hcell hb hr E
      obtain ⟨x, hx⟩ : ∃ x, x = xs.getD k 0 := ⟨_, rfl⟩
      rw [← hx] at hcx Hat Hst
      clear hx
      by_cases hxd : x = d
      · have Hi := hide (Hat.out hxd)
        have hbb : (x == d) = true := by simpa using hxd
        clear Hat Hst hxd
        go_wp2
        go_ret
        exact ⟨by rw [Hi.out]; rfl, rfl⟩
      · have Hi := hide (Hst.out hxd)
        have hbb : (x == d) = false := by simpa using hxd
        clear Hat Hst hxd
        go_wp2
        go_roundw
        case rel => exact ⟨k + 1, by omega, by go_num, Hi.out, trivial⟩
        case measure => simp [intOf]; omega
    · obtain rfl : k = n := by omega
      have hno : Lib.idxOf xs d = -1 := idxOf_none fun hm => by
        obtain ⟨j, hj, he⟩ := List.mem_iff_getElem.1 hm
        exact E.out j (by rw [HN.out]; exact hj) (by simp [List.getD, hj, he])
      have Hno := hide hno
      clear hno
      go_wp2
      go_ret
      exact ⟨by rw [Hno.out]; rfl, rfl⟩

theorem idxOf_mem (xs : List Int) (d : Int) : (0 ≤ Lib.idxOf xs d) = (d ∈ xs) := by
  rcases idx_cases xs d with ⟨h1, h2⟩ | ⟨k, hk, h1, h2, _⟩
  · rw [h1]; simp [h2]
  · have : d ∈ xs := by rw [← h2]; simp [List.getD, hk]
    rw [h1]; simp [this]

theorem rHas_any (w : World) (v : Value) (xs : List Int) (d : Int) (hr : Rd w v 1 xs.length (xs.map (Value.int .i64))) (hlen : xs.length ≤ 1000000) :
    Calls Tryz.prog 104 #[v, .int .i64 d] w fun e w' => e = .returned (.bool (decide (d ∈ xs))) ∧ w = w' := by
  have H := place16_any w v xs d hr hlen
  have hm := idxOf_mem xs d
  obtain ⟨i, hi⟩ : ∃ i, i = Lib.idxOf xs d := ⟨_, rfl⟩
  rw [← hi] at H hm
  have H := hide H
  have Hm : Hid (decide (d ∈ xs) = decide (0 ≤ i)) := hide (by simp only [hm])
  obtain ⟨_, A, c, rfl, hc, _⟩ := hr
  clear hi hm
  go_enter Tryz.func104, Tryz.ntmps104
  go_wp2_with fail
  refine H.out.mono ?_
  rintro e w1 ⟨rfl, rfl⟩
  by_cases h0 : 0 ≤ i
  · have Hd : Hid (decide (0 ≤ i) = true) := decide_eq_true h0
    go_wp2
    go_ret
    exact ⟨by rw [Hm.out, Hd.out]; rfl, rfl⟩
  · have Hd : Hid (decide (0 ≤ i) = false) := decide_eq_false h0
    go_wp2
    go_ret
    exact ⟨by rw [Hm.out, Hd.out]; rfl, rfl⟩

set_option maxRecDepth 100000 in
theorem rPut_bad (w : World) (v : Value) (xs : List Int) (id by' k : Int) (hr : Rd w v 1 xs.length (xs.map (Value.int .i64))) (hlen : xs.length ≤ 1000000) (hb : id ∉ xs ∨ by' ∉ xs ∨ id = by') :
    Calls Tryz.prog 105 #[v, .int .i64 id, .int .i64 by', .int .i64 k] w fun e w' => e = .returned (.tuple #[.slice none 0 0, .int .i64 11]) ∧ w = w' := by
  have H1 := rHas_any w v xs id hr hlen
  have H2 := rHas_any w v xs by' hr hlen
  obtain ⟨_, A, c, rfl, hc, _⟩ := hr
  by_cases h3 : id = by'
  · have hbb : (id == by') = true := by simpa using h3
    clear H1 H2 hb h3
    go_enter Tryz.func105, Tryz.ntmps105
    go_wp2
    go_ret2
    exact ⟨rfl, rfl⟩
  · have hbb : (id == by') = false := by simpa using h3
    by_cases h1 : id ∈ xs
    · have h2 : by' ∉ xs := by rcases hb with h | h | h; exact absurd h1 h; exact h; exact absurd h h3
      rw [decide_eq_true h1] at H1
      rw [decide_eq_false h2] at H2
      have H1 := hide H1
      have H2 := hide H2
      clear hb h1 h2 h3
      go_enter Tryz.func105, Tryz.ntmps105
      go_wp2_with fail
      refine H1.out.mono ?_
      rintro e w1 ⟨rfl, rfl⟩
      go_wp2_with fail
      refine H2.out.mono ?_
      rintro e w1 ⟨rfl, rfl⟩
      go_wp2
      go_ret2
      exact ⟨rfl, rfl⟩
    · rw [decide_eq_false h1] at H1
      have H1 := hide H1
      clear hb h1 h3 H2
      go_enter Tryz.func105, Tryz.ntmps105
      go_wp2_with fail
      refine H1.out.mono ?_
      rintro e w1 ⟨rfl, rfl⟩
      go_wp2
      go_ret2
      exact ⟨rfl, rfl⟩

set_option maxRecDepth 100000 in
theorem rPut_ok (w : World) (v : Value) (xs : List Int) (id by' : Int) (k : Nat) (hr : Rd w v 1 xs.length (xs.map (Value.int .i64))) (hlen : xs.length ≤ 1000000) (h1 : id ∈ xs) (h2 : by' ∈ xs) (h3 : id ≠ by') (hk : k ≤ 1) :
    Calls Tryz.prog 105 #[v, .int .i64 id, .int .i64 by', .int .i64 k] w fun e w' => ∃ v', e = .returned (.tuple #[v', .int .i64 0]) ∧ w'.ownsRow w.heap.size 3 1 v' (putL xs id by' k).length ((putL xs id by' k).map (Value.int .i64)) ∧ Below w.heap.size w w' := by
  obtain ⟨i0, hi0, hz0, hz1, hz2⟩ := info_parts Tryz.infoInt
  have H1 := rHas_any w v xs id hr hlen
  have H2 := rHas_any w v xs by' hr hlen
  have H3 := rdrop_any w v xs id hr hlen
  have hm : by' ∈ without xs id := mem_without.2 ⟨h2, fun e => h3 e.symm⟩
  obtain ⟨i1, i2⟩ := idx_mem hm
  have hlt := without_lt h1
  have hP := putL_eq xs id by' k
  have hr0 := hr
  obtain ⟨_, A, c, rfl, hc, _⟩ := hr0
  rw [decide_eq_true h1] at H1
  rw [decide_eq_true h2] at H2
  obtain ⟨R, hR⟩ : ∃ R, R = putL xs id by' k := ⟨_, rfl⟩
  rw [← hR] at hP ⊢
  obtain ⟨n, hn⟩ : ∃ n, n = xs.length := ⟨_, rfl⟩
  rw [← hn] at H1 hc hlt hlen ⊢
  simp only [← hn] at H2 H3
  clear hR hn hr
  obtain ⟨ys, hys⟩ : ∃ ys, ys = without xs id := ⟨_, rfl⟩
  simp only [← hys] at H3 hm i1 i2 hlt hP
  clear hys h1 h2
  obtain ⟨i, hi⟩ : ∃ i : Nat, Lib.idxOf ys by' = (i : Int) := ⟨_, (Int.toNat_of_nonneg i1).symm⟩
  rw [hi] at hP i2
  have i2 : i < ys.length := by simpa using i2
  have hb3 : (id == by') = false := by simpa using h3
  clear i1 hm
  simp only [Int.toNat_natCast] at hP
  have hRl : R.length = ys.length + 1 := by rw [hP]; simp; omega
  have H1 := hide H1
  have H2 := hide H2
  have H3 := hide H3
  have Hi := hide hi
  have HP := hide hP
  clear hi hP
  go_enter Tryz.func105, Tryz.ntmps105
  go_wp2_with fail
  refine H1.out.mono ?_
  rintro e w1 ⟨rfl, rfl⟩
  go_wp2_with fail
  refine H2.out.mono ?_
  rintro e w1 ⟨rfl, rfl⟩
  go_wp2_with fail
  refine H3.out.mono ?_
  rintro e w1 ⟨v1, rfl, hown, hB⟩
  have hr1 := Rd.of_own hown
  have HI := place16_any w1 _ ys by' hr1 (by omega)
  rw [Hi.out] at HI
  have HI := hide HI
  obtain ⟨A1, c1, rfl, hc1⟩ := own_form hown
  clear hown
  go_wp2_with fail
  refine HI.out.mono ?_
  rintro e w2 ⟨rfl, rfl⟩
  clear H1 H2 H3 HI Hi
  have hml : i + k ≤ ys.length := by omega
  obtain ⟨b, off, rfl, _, _⟩ := hr1.open1 (by omega)
  have hr3 := hr1.take (i + k) hml
  have hr4 := hr1.drop (i + k) hml
  rw [Nat.mul_one] at hr3 hr4
  have hone : ∀ u ∈ (ys.map (Value.int .i64)).take (i + k), u.oneCell' = true := by
    intro u hu
    obtain ⟨x, _, rfl⟩ := List.mem_map.1 (List.mem_of_mem_take hu)
    rfl
  have hone2 : ∀ u ∈ (ys.map (Value.int .i64)).drop (i + k), u.oneCell' = true := by
    intro u hu
    obtain ⟨x, _, rfl⟩ := List.mem_map.1 (List.mem_of_mem_drop hu)
    rfl
  have Hone := hide hone
  have Hone2 := hide hone2
  have Hr3 := hide hr3
  have hend : Hid (((ys.map (Value.int .i64)).take (i + k) ++ [Value.int .i64 id] ++ (ys.map (Value.int .i64)).drop (i + k)) = R.map (Value.int .i64)) := hide (by rw [HP.out]; simp)
  have hlen2 : i + k + 1 + (ys.length - (i + k)) = R.length := by omega
  have hr5 : c1 = i + k → Rd w1 (.slice (some ⟨b, off, none⟩) (ys.length - (i + k)) (i + k - (i + k))) 1 (ys.length - (i + k)) ((ys.map (Value.int .i64)).drop (i + k)) := fun e => by
    rw [show ys.length - (i + k) = 0 by omega]
    exact ⟨by simp; omega, _, _, rfl, Nat.zero_le _, fun h => absurd h (by omega)⟩
  clear hone hone2 hr3 hr1
  rcases (show c1 = i + k ∨ ¬ c1 = i + k by omega) with hcc | hcc
  · have Hr4 := hide (hr5 hcc)
    clear hr5 hr4
    subst hcc
    go_wp2_with (at_builtin; first | (refine wpList_append_rd rfl _ _ 38 rfl w1.heap.size 3 i0 (.int .i64 0) 1 8 Tryz.underlying38 hi0 hz0 hz1 hz2 rfl (by decide) _ 0 [] rfl (World.ownsRow_nil _ _ _ _) (some ⟨b, off, none⟩) (i + k) _ _ rfl Hr3.out Hone.out (by unfold maxLen; omega) (by omega) (Nat.le_refl _) ?_; intro v2 w2 hown2 hg2; rw [Nat.zero_add, List.nil_append] at hown2; have hB2 : Below w1.heap.size w1 w2 := (Below.refl _ _).grown hg2 (Nat.le_refl _) (fun k e => by cases e); obtain ⟨A2, c2, rfl, hc2⟩ := own_form hown2) | (refine wpList_append_own _ rfl _ _ 38 rfl w1.heap.size 3 i0 (.int .i64 0) 1 8 Tryz.underlying38 hi0 hz0 hz1 hz2 rfl (by decide) _ _ _ rfl (hown2.alloc _) ⟨w2.heap.size, 0, none⟩ 1 1 [.int .i64 id] rfl rfl (cell_one_new _ _ _) (by intro u hu; simp at hu; subst hu; rfl) (by unfold maxLen; omega) (by omega) (by have := hB2.size; simp; omega) ?_; intro v3 w3 hown3 hg3 _; have hB3 : Below w1.heap.size w1 w3 := (hB2.alloc hB2.size _).grown hg3 (by have := hB2.size; simp; omega) (fun k hk => (hown2.lt k hk).1); obtain ⟨A3, c3, rfl, hc3⟩ := own_form hown3) | (refine wpList_append_rd rfl _ _ 38 rfl w1.heap.size 3 i0 (.int .i64 0) 1 8 Tryz.underlying38 hi0 hz0 hz1 hz2 rfl (by decide) _ _ _ rfl hown3 _ _ _ _ rfl (Hr4.out.below hB3 (Nat.le_refl _)) Hone2.out (by unfold maxLen; omega) (by omega) hB3.size ?_; intro v4 w4 hown4 hg4; have hB4 : Below w1.heap.size w1 w4 := hB3.grown hg4 hB3.size (fun k hk => (hown3.lt k hk).1); obtain ⟨A4, c4, rfl, hc4⟩ := own_form hown4))
    have hL : R.length = i + k + 1 := by omega
    rw [hlen2, hend.out, hL] at hown4
    go_ret2
    exact ⟨_, rfl, by rw [hL]; exact own_le hown4 hB.size, hB.trans (hB4.mono hB.size)⟩
  · have Hr4 := hide hr4
    clear hr5 hr4
    go_wp2_with (at_builtin; first | (refine wpList_append_rd rfl _ _ 38 rfl w1.heap.size 3 i0 (.int .i64 0) 1 8 Tryz.underlying38 hi0 hz0 hz1 hz2 rfl (by decide) _ 0 [] rfl (World.ownsRow_nil _ _ _ _) (some ⟨b, off, none⟩) (i + k) _ _ rfl Hr3.out Hone.out (by unfold maxLen; omega) (by omega) (Nat.le_refl _) ?_; intro v2 w2 hown2 hg2; rw [Nat.zero_add, List.nil_append] at hown2; have hB2 : Below w1.heap.size w1 w2 := (Below.refl _ _).grown hg2 (Nat.le_refl _) (fun k e => by cases e); obtain ⟨A2, c2, rfl, hc2⟩ := own_form hown2) | (refine wpList_append_own _ rfl _ _ 38 rfl w1.heap.size 3 i0 (.int .i64 0) 1 8 Tryz.underlying38 hi0 hz0 hz1 hz2 rfl (by decide) _ _ _ rfl (hown2.alloc _) ⟨w2.heap.size, 0, none⟩ 1 1 [.int .i64 id] rfl rfl (cell_one_new _ _ _) (by intro u hu; simp at hu; subst hu; rfl) (by unfold maxLen; omega) (by omega) (by have := hB2.size; simp; omega) ?_; intro v3 w3 hown3 hg3 _; have hB3 : Below w1.heap.size w1 w3 := (hB2.alloc hB2.size _).grown hg3 (by have := hB2.size; simp; omega) (fun k hk => (hown2.lt k hk).1); obtain ⟨A3, c3, rfl, hc3⟩ := own_form hown3) | (refine wpList_append_rd rfl _ _ 38 rfl w1.heap.size 3 i0 (.int .i64 0) 1 8 Tryz.underlying38 hi0 hz0 hz1 hz2 rfl (by decide) _ _ _ rfl hown3 _ _ _ _ rfl (Hr4.out.below hB3 (Nat.le_refl _)) Hone2.out (by unfold maxLen; omega) (by omega) hB3.size ?_; intro v4 w4 hown4 hg4; have hB4 : Below w1.heap.size w1 w4 := hB3.grown hg4 hB3.size (fun k hk => (hown3.lt k hk).1); obtain ⟨A4, c4, rfl, hc4⟩ := own_form hown4))
    have hL : R.length = ys.length + 1 := by omega
    rw [hlen2, hend.out, hL] at hown4
    go_ret2
    exact ⟨_, rfl, by rw [hL]; exact own_le hown4 hB.size, hB.trans (hB4.mono hB.size)⟩
end Go.Proofs.YthkjicnnepkghaaGreatDoor
