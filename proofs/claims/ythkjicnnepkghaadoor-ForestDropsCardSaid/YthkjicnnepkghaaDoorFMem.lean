/-
  Package forest in memory: surfaces behind a map of pointers, over a footprint; how they turn.
-/
import Derived.Test.YthkjicnnepkghaaDoorFGood
import Derived.Test.YthkjicnnepkghaaDoorIMap
import Derived.Test.YthkjicnnepkghaaDoorHeap
namespace Go.Proofs.YthkjicnnepkghaaDoor
open Go.RowKit
set_option linter.unusedSectionVars false

/-- The five slices of a state. -/
structure StV where
  d : Value
  f : Value
  r : Value
  o : Value
  p : Value
def StV.nil : StV := ⟨.slice none 0 0, .slice none 0 0, .slice none 0 0, .slice none 0 0, .slice none 0 0⟩
def stVal (s : St) (v : StV) : Value := .agg #[.bool s.attach, .int .i64 s.buffer, v.d, v.f, .bool s.input, .bool s.all, v.r, .bool s.ordered, v.o, v.p]
def encI (x : Int) : List Value := [.int .i64 x]

/-- A state's slices read as its lists. -/
structure StRd (w : World) (v : StV) (s : St) : Prop where
  d : Rd w v.d 4 s.damage.length (s.damage.flatMap R4.enc)
  f : Rd w v.f 1 s.frames.length (s.frames.map (Value.int .i64))
  r : Rd w v.r 4 s.region.length (s.region.flatMap R4.enc)
  o : Rd w v.o 1 s.order.length (s.order.map (Value.int .i64))
  p : Rd w v.p 3 s.places.length (s.places.flatMap Ch.enc)
/-- A row that is not empty lies in G. -/
def BlkIn (G : Nat → Prop) (v : Value) (n : Nat) : Prop := 0 < n → ∀ b, v.ownBlock = some b → G b
structure StIn (G : Nat → Prop) (v : StV) (s : St) : Prop where
  d : BlkIn G v.d s.damage.length
  f : BlkIn G v.f s.frames.length
  r : BlkIn G v.r s.region.length
  o : BlkIn G v.o s.order.length
  p : BlkIn G v.p s.places.length

section
variable {w w' : World} {G G' : Nat → Prop} {v : StV} {s : St}
theorem Rd.keepIn {u : Value} {sz n : Nat} {cs : List Value} (h : Rd w u sz n cs) (hi : BlkIn G u n) (hz : w.heap.size ≤ w'.heap.size) (hk : ∀ b, G b → b < w.heap.size → w'.heap[b]? = w.heap[b]?) : Rd w' u sz n cs := by
  obtain ⟨h1, A, c, rfl, hc, h2⟩ := h
  refine ⟨h1, A, c, rfl, hc, fun hn => ?_⟩
  obtain ⟨b, off, rfl, hb, hcell⟩ := h2 hn
  exact ⟨b, off, rfl, by omega, fun j u hu => (World.cell?_of_block (a := ⟨b, off + j, none⟩) (hk b (hi hn b rfl) hb)).trans (hcell j u hu)⟩
theorem BlkIn.mono {u : Value} {n : Nat} (h : BlkIn G u n) (hG : ∀ b, G b → G' b) : BlkIn G' u n := fun hn b hb => hG b (h hn b hb)
theorem BlkIn.nil (G : Nat → Prop) (n : Nat) : BlkIn G (.slice none 0 0) n := fun _ b hb => by cases hb
theorem StRd.keep (h : StRd w v s) (hi : StIn G v s) (hz : w.heap.size ≤ w'.heap.size) (hk : ∀ b, G b → b < w.heap.size → w'.heap[b]? = w.heap[b]?) : StRd w' v s :=
  ⟨h.d.keepIn hi.d hz hk, h.f.keepIn hi.f hz hk, h.r.keepIn hi.r hz hk, h.o.keepIn hi.o hz hk, h.p.keepIn hi.p hz hk⟩
theorem StRd.below {B : Nat} (h : StRd w v s) (hb : Below B w w') (hB : w.heap.size ≤ B) : StRd w' v s :=
  ⟨h.d.below hb hB, h.f.below hb hB, h.r.below hb hB, h.o.below hb hB, h.p.below hb hB⟩
theorem StRd.zero (w : World) : StRd w StV.nil St.zero := ⟨Rd.nil _ _, Rd.nil _ _, Rd.nil _ _, Rd.nil _ _, Rd.nil _ _⟩
theorem StIn.mono (h : StIn G v s) (hG : ∀ b, G b → G' b) : StIn G' v s := ⟨h.d.mono hG, h.f.mono hG, h.r.mono hG, h.o.mono hG, h.p.mono hG⟩
theorem StIn.zero (G : Nat → Prop) (s : St) : StIn G StV.nil s := ⟨BlkIn.nil _ _, BlkIn.nil _ _, BlkIn.nil _ _, BlkIn.nil _ _, BlkIn.nil _ _⟩
theorem Rd.form {u : Value} {sz n : Nat} {cs : List Value} (h : Rd w u sz n cs) : ∃ A c, u = .slice A n c ∧ n ≤ c := by
  obtain ⟨_, A, c, rfl, hc, _⟩ := h
  exact ⟨A, c, rfl, hc⟩
/-- A row that reads in w lies in w. -/
theorem Rd.inSize {u : Value} {sz n : Nat} {cs : List Value} (h : Rd w u sz n cs) : BlkIn (fun b => b < w.heap.size) u n := by
  obtain ⟨_, A, c, rfl, hc, h2⟩ := h
  intro hn b hb
  obtain ⟨b', off, rfl, hlt, _⟩ := h2 hn
  cases hb; exact hlt

/-- A surface in memory: its block, the slices of its three states, the blocks of those that nobody writes into. -/
structure SfV where
  a : Nat
  pe : StV
  ca : StV
  cu : StV
  G : Nat → Prop
def SfV.ptr (z : SfV) : Value := .pointer (some ⟨z.a, 0, none⟩)
def SfV.F (z : SfV) : Nat → Prop := fun b => b = z.a ∨ z.pe.d.ownBlock = some b ∨ z.pe.f.ownBlock = some b ∨ z.G b
def sfCells (id : Int) (s : Sf) (z : SfV) : Array Value := #[.int .i64 id, .int .i64 s.parent, .bool s.sync,
  .bool s.pe.attach, .int .i64 s.pe.buffer, z.pe.d, z.pe.f, .bool s.pe.input, .bool s.pe.all, z.pe.r, .bool s.pe.ordered, z.pe.o, z.pe.p,
  .bool s.ca.attach, .int .i64 s.ca.buffer, z.ca.d, z.ca.f, .bool s.ca.input, .bool s.ca.all, z.ca.r, .bool s.ca.ordered, z.ca.o, z.ca.p,
  .bool s.cu.attach, .int .i64 s.cu.buffer, z.cu.d, z.cu.f, .bool s.cu.input, .bool s.cu.all, z.cu.r, .bool s.cu.ordered, z.cu.o, z.cu.p]

structure SurfAt (w : World) (id : Int) (s : Sf) (z : SfV) : Prop where
  blk : w.heap[z.a]? = some (.cells (sfCells id s z) 60 (0, 0))
  dOwn : w.ownsRow 0 90 4 z.pe.d s.pe.damage.length (s.pe.damage.flatMap R4.enc)
  fOwn : w.ownsRow 0 3 1 z.pe.f s.pe.frames.length (s.pe.frames.map (Value.int .i64))
  peR : Rd w z.pe.r 4 s.pe.region.length (s.pe.region.flatMap R4.enc)
  peO : Rd w z.pe.o 1 s.pe.order.length (s.pe.order.map (Value.int .i64))
  peP : Rd w z.pe.p 3 s.pe.places.length (s.pe.places.flatMap Ch.enc)
  ca : StRd w z.ca s.ca
  cu : StRd w z.cu s.cu
  peRi : BlkIn z.G z.pe.r s.pe.region.length
  peOi : BlkIn z.G z.pe.o s.pe.order.length
  pePi : BlkIn z.G z.pe.p s.pe.places.length
  caI : StIn z.G z.ca s.ca
  cuI : StIn z.G z.cu s.cu
  aG : ¬ z.G z.a
  dG : ∀ b, z.pe.d.ownBlock = some b → ¬ z.G b
  fG : ∀ b, z.pe.f.ownBlock = some b → ¬ z.G b
  lt : ∀ b, z.F b → b < w.heap.size
  id64 : I64 id

theorem SurfAt.pe {id : Int} {t : Sf} {z : SfV} (h : SurfAt w id t z) : StRd w z.pe t.pe := ⟨Rd.of_own h.dOwn, Rd.of_own h.fOwn, h.peR, h.peO, h.peP⟩

theorem own_keepF {base : Nat} {e : TypeId} {sz n : Nat} {v : Value} {cs : List Value} (h : w.ownsRow base e sz v n cs) (hk : ∀ b, v.ownBlock = some b → w'.heap[b]? = w.heap[b]?) : w'.ownsRow base e sz v n cs := by
  refine ⟨h.1, ?_⟩
  rcases h.2 with h2 | ⟨g, cap, cur, rfl, hb, hg, r⟩
  · exact .inl h2
  · exact .inr ⟨g, cap, cur, rfl, hb, (hk g rfl).trans hg, r⟩
theorem own_typeF {base : Nat} {e : TypeId} {sz n : Nat} {v : Value} {cs : List Value} (h : w.ownsRow base e sz v n cs) {g : Nat} (hg : v.ownBlock = some g) : ∃ cur, w.heap[g]? = some (.cells cur e (0, 0)) := by
  rcases h.2 with ⟨rfl, _⟩ | ⟨g', cap, cur, rfl, _, h2, _⟩
  · cases hg
  · cases hg; exact ⟨cur, h2⟩
theorem ne_of_typesF {w : World} {a b : Nat} {o o' : Obj} (ha : w.heap[a]? = some o) (hb : w.heap[b]? = some o') (hne : o ≠ o') : a ≠ b := fun e => by
  subst e; rw [ha] at hb; exact hne (Option.some.inj hb)

/-- What does not touch a surface's blocks leaves it. -/
theorem SurfAt.keep {id : Int} {t : Sf} {z : SfV} (h : SurfAt w id t z) (hz : w.heap.size ≤ w'.heap.size) (hk : ∀ b, z.F b → w'.heap[b]? = w.heap[b]?) : SurfAt w' id t z := by
  have hG : ∀ b, z.G b → b < w.heap.size → w'.heap[b]? = w.heap[b]? := fun b hb _ => hk b (.inr (.inr (.inr hb)))
  exact ⟨(hk z.a (.inl rfl)).trans h.blk, own_keepF h.dOwn fun b hb => hk b (.inr (.inl hb)), own_keepF h.fOwn fun b hb => hk b (.inr (.inr (.inl hb))),
    h.peR.keepIn h.peRi hz hG, h.peO.keepIn h.peOi hz hG, h.peP.keepIn h.pePi hz hG, h.ca.keep h.caI hz hG, h.cu.keep h.cuI hz hG, h.peRi, h.peOi, h.pePi, h.caI, h.cuI,
    h.aG, h.dG, h.fG, fun b hb => Nat.lt_of_lt_of_le (h.lt b hb) hz, h.id64⟩

theorem SurfAt.d_ne {id : Int} {t : Sf} {z : SfV} (h : SurfAt w id t z) {b : Nat} (hb : z.pe.d.ownBlock = some b) : b ≠ z.a ∧ z.pe.f.ownBlock ≠ some b := by
  obtain ⟨cur, hc⟩ := own_typeF h.dOwn hb
  refine ⟨ne_of_typesF hc h.blk (by simp), fun e => ?_⟩
  obtain ⟨cur', hc'⟩ := own_typeF h.fOwn e
  rw [hc] at hc'; simp at hc'
theorem SurfAt.f_ne {id : Int} {t : Sf} {z : SfV} (h : SurfAt w id t z) {b : Nat} (hb : z.pe.f.ownBlock = some b) : b ≠ z.a := by
  obtain ⟨cur, hc⟩ := own_typeF h.fOwn hb
  exact ne_of_typesF hc h.blk (by simp)

/-- The forest at p. -/
structure ForZ (w : World) (p mb : Nat) (F : Nat → Prop) (n : Nat) (Z : Int → Option SfV) (M : Fo) : Prop where
  cell : w.heap[p]? = some (.cells #[.map (some mb)] 56 (0, 0))
  map : MapAt Tryd.prog 3 w mb n (fun id => (Z id).map SfV.ptr)
  pF : F p
  mF : F mb
  surf : ∀ id z s, Z id = some z → M id = some s → SurfAt w id s z
  inF : ∀ id z, Z id = some z → ∀ b, z.F b → F b
  dom : ∀ id, (Z id).isSome = (M id).isSome
  one : ∀ i j y z, Z i = some y → Z j = some z → i ≠ j → ∀ b, y.F b → ¬ z.F b
  pz : ∀ i z, Z i = some z → ¬ z.F p ∧ ¬ z.F mb
  lt : ∀ b, F b → b < w.heap.size
def ForAt (w : World) (p : Nat) (F : Nat → Prop) (n : Nat) (M : Fo) : Prop := ∃ mb Z, ForZ w p mb F n Z M
/-- A call has made M' of the forest. -/
def FOut (w : World) (p n : Nat) (F : Nat → Prop) (M' : Fo) (w' : World) : Prop := ∃ F', ForAt w' p F' (n + 1) M' ∧ Chg F w w' ∧ Ext F F' w.heap.size

variable {p mb n : Nat} {F : Nat → Prop} {Z : Int → Option SfV} {M : Fo}
theorem ForZ.find {id : Int} {t : Sf} (h : ForZ w p mb F n Z M) (hs : M id = some t) : ∃ z, Z id = some z ∧ SurfAt w id t z := by
  have := h.dom id
  rw [hs] at this
  cases hz : Z id with
  | none => rw [hz] at this; cases this
  | some z => exact ⟨z, rfl, h.surf id z t hz hs⟩
theorem ForZ.zNone {id : Int} (h : ForZ w p mb F n Z M) (hs : M id = none) : Z id = none := by
  have := h.dom id
  rw [hs] at this
  cases hz : Z id with
  | none => rfl
  | some z => rw [hz] at this; cases this
theorem ForZ.chg (h : ForZ w p mb F n Z M) (hc : Chg G w w') (hd : ∀ b, F b → ¬ G b) : ForZ w' p mb F n Z M := by
  have hk : ∀ b, F b → w'.heap[b]? = w.heap[b]? := fun b hb => hc.block b (h.lt b hb) (hd b hb)
  exact ⟨(hk p h.pF).trans h.cell, h.map.block (hk mb h.mF), h.pF, h.mF, fun id z s hz hs => (h.surf id z s hz hs).keep hc.size fun b hb => hk b (h.inF id z hz b hb),
    h.inF, h.dom, h.one, h.pz, fun b hb => Nat.lt_of_lt_of_le (h.lt b hb) hc.size⟩
theorem ForZ.below (h : ForZ w p mb F n Z M) (hb : Below w.heap.size w w') : ForZ w' p mb F n Z M := h.chg (Chg.of_below hb fun _ => False) fun _ _ h => h
theorem ForZ.mono {m : Nat} (h : ForZ w p mb F n Z M) (hn : n ≤ m) : ForZ w p mb F m Z M := ⟨h.cell, h.map.mono hn, h.pF, h.mF, h.surf, h.inF, h.dom, h.one, h.pz, h.lt⟩
theorem ForAt.chg (h : ForAt w p F n M) (hc : Chg G w w') (hd : ∀ b, F b → ¬ G b) : ForAt w' p F n M := by
  obtain ⟨mb, Z, h1⟩ := h
  exact ⟨mb, Z, h1.chg hc hd⟩
theorem ForAt.below (h : ForAt w p F n M) (hb : Below w.heap.size w w') : ForAt w' p F n M := h.chg (Chg.of_below hb fun _ => False) fun _ _ h => h
theorem ForAt.lt (h : ForAt w p F n M) : ∀ b, F b → b < w.heap.size := by obtain ⟨mb, Z, h1⟩ := h; exact h1.lt
theorem ForAt.mono {m : Nat} (h : ForAt w p F n M) (hn : n ≤ m) : ForAt w p F m M := by
  obtain ⟨mb, Z, h1⟩ := h
  exact ⟨mb, Z, h1.mono hn⟩
theorem ForAt.stay (h : ForAt w p F n M) : FOut w p n F M w := ⟨F, h.mono (Nat.le_succ n), Chg.refl _ _, Ext.refl _ _⟩
theorem ForAt.stayN (h : ForAt w p F n M) (q : Nat) : FOut w p n F M (w.drewN q) := ⟨F, (h.below (below_drewN (Below.refl _ _) q)).mono (Nat.le_succ n), (Chg.refl _ _).drewN q, Ext.refl _ _⟩
theorem ForAt.stayB (h : ForAt w p F n M) (hb : Below w.heap.size w w') : FOut w p n F M w' := ⟨F, (h.below hb).mono (Nat.le_succ n), Chg.of_below hb F, Ext.refl _ _⟩

def setZ (Z : Int → Option SfV) (id : Int) (v : Option SfV) : Int → Option SfV := fun i => if i = id then v else Z i
theorem setZ_eq {id j : Int} {v : Option SfV} {z : SfV} (h : setZ Z id v j = some z) : (j = id ∧ v = some z) ∨ (j ≠ id ∧ Z j = some z) := by
  unfold setZ at h
  by_cases e : j = id
  · rw [if_pos e] at h; exact .inl ⟨e, h⟩
  · rw [if_neg e] at h; exact .inr ⟨e, h⟩

/-- A surface turns in place. -/
theorem ForZ.turn {id : Int} {t' : Sf} {z z' : SfV} (h : ForZ w p mb F n Z M) (hz : Z id = some z) (hc : Chg z.F w w') (ha : z'.a = z.a) (hs' : SurfAt w' id t' z') (hF : ∀ b, z'.F b → z.F b ∨ w.heap.size ≤ b) :
    ForZ w' p mb (fun b => F b ∨ z'.F b) n (setZ Z id (some z')) (setM M id (some t')) := by
  have hp := h.pz id z hz
  have hk : ∀ b, F b → ¬ z.F b → w'.heap[b]? = w.heap[b]? := fun b hb h1 => hc.block b (h.lt b hb) h1
  refine ⟨(hk p h.pF hp.1).trans h.cell, ?_, .inl h.pF, .inl h.mF, ?_, ?_, ?_, ?_, ?_, ?_⟩
  · refine (h.map.block (hk mb h.mF hp.2)).congr fun j hj => ?_
    unfold setZ
    by_cases e : j = id
    · subst e; simp [hz, SfV.ptr, ha]
    · simp [e]
  · intro j y s hy hs
    rcases setZ_eq hy with ⟨rfl, e⟩ | ⟨e1, e⟩
    · cases e
      rw [setM_same] at hs
      cases hs
      exact hs'
    · rw [setM_other _ _ e1] at hs
      exact (h.surf j y s e hs).keep hc.size fun b hb => hk b (h.inF j y e b hb) fun hb2 => h.one j id y z e hz e1 b hb hb2
  · intro j y hy b hb
    rcases setZ_eq hy with ⟨rfl, e⟩ | ⟨e1, e⟩
    · cases e; exact .inr hb
    · exact .inl (h.inF j y e b hb)
  · intro j
    by_cases e : j = id
    · subst e; rw [setM_same]; simp [setZ]
    · rw [setM_other _ _ e]; simp [setZ, e, h.dom j]
  · intro i j y1 y2 h1 h2 hij b hb1 hb2
    rcases setZ_eq h1 with ⟨rfl, e1⟩ | ⟨n1, e1⟩ <;> rcases setZ_eq h2 with ⟨rfl, e2⟩ | ⟨n2, e2⟩
    · exact hij rfl
    · cases e1
      rcases hF b hb1 with h3 | h3
      · exact h.one _ _ _ _ hz e2 hij b h3 hb2
      · have := h.lt b (h.inF _ _ e2 b hb2); omega
    · cases e2
      rcases hF b hb2 with h3 | h3
      · exact h.one _ _ _ _ e1 hz hij b hb1 h3
      · have := h.lt b (h.inF _ _ e1 b hb1); omega
    · exact h.one _ _ _ _ e1 e2 hij b hb1 hb2
  · intro j y hy
    rcases setZ_eq hy with ⟨rfl, e⟩ | ⟨n1, e⟩
    · cases e
      have hl1 := h.lt p h.pF
      have hl2 := h.lt mb h.mF
      exact ⟨fun hb => by rcases hF _ hb with h3 | h3; exact hp.1 h3; omega, fun hb => by rcases hF _ hb with h3 | h3; exact hp.2 h3; omega⟩
    · exact h.pz _ _ e
  · intro b hb
    rcases hb with hb | hb
    · exact Nat.lt_of_lt_of_le (h.lt b hb) hc.size
    · exact hs'.lt b hb

/-- A new surface. -/
theorem ForZ.fresh {id : Int} {t : Sf} {z : SfV} (h : ForZ w p mb F n Z M) (hc : Chg (fun b => b = mb) w w') (hm : MapAt Tryd.prog 3 w' mb (n + 1) (putM (fun id => (Z id).map SfV.ptr) id z.ptr)) (hs : SurfAt w' id t z) (hn : ∀ b, z.F b → w.heap.size ≤ b) (hid : Z id = none) :
    ForZ w' p mb (fun b => F b ∨ z.F b) (n + 1) (setZ Z id (some z)) (setM M id (some t)) := by
  obtain ⟨es, cl, hmb⟩ := h.map.isMapBlock
  have hpm : p ≠ mb := ne_of_typesF h.cell hmb (by simp)
  have hk : ∀ b, F b → b ≠ mb → w'.heap[b]? = w.heap[b]? := fun b hb h1 => hc.block b (h.lt b hb) h1
  refine ⟨(hk p h.pF hpm).trans h.cell, ?_, .inl h.pF, .inl h.mF, ?_, ?_, ?_, ?_, ?_, ?_⟩
  · refine hm.congr fun j hj => ?_
    unfold setZ putM
    by_cases e : j = id <;> simp [e]
  · intro j y s hy hs2
    rcases setZ_eq hy with ⟨rfl, e⟩ | ⟨e1, e⟩
    · cases e
      rw [setM_same] at hs2
      cases hs2
      exact hs
    · rw [setM_other _ _ e1] at hs2
      exact (h.surf j y s e hs2).keep hc.size fun b hb => hk b (h.inF j y e b hb) fun hb2 => (h.pz j y e).2 (hb2 ▸ hb)
  · intro j y hy b hb
    rcases setZ_eq hy with ⟨rfl, e⟩ | ⟨e1, e⟩
    · cases e; exact .inr hb
    · exact .inl (h.inF j y e b hb)
  · intro j
    by_cases e : j = id
    · subst e; rw [setM_same]; simp [setZ]
    · rw [setM_other _ _ e]; simp [setZ, e, h.dom j]
  · intro i j y1 y2 h1 h2 hij b hb1 hb2
    rcases setZ_eq h1 with ⟨rfl, e1⟩ | ⟨n1, e1⟩ <;> rcases setZ_eq h2 with ⟨rfl, e2⟩ | ⟨n2, e2⟩
    · exact hij rfl
    · cases e1
      have := hn b hb1
      have := h.lt b (h.inF _ _ e2 b hb2); omega
    · cases e2
      have := hn b hb2
      have := h.lt b (h.inF _ _ e1 b hb1); omega
    · exact h.one _ _ _ _ e1 e2 hij b hb1 hb2
  · intro j y hy
    rcases setZ_eq hy with ⟨rfl, e⟩ | ⟨n1, e⟩
    · cases e
      have hl1 := h.lt p h.pF
      have hl2 := h.lt mb h.mF
      exact ⟨fun hb => by have := hn _ hb; omega, fun hb => by have := hn _ hb; omega⟩
    · exact h.pz _ _ e
  · intro b hb
    rcases hb with hb | hb
    · exact Nat.lt_of_lt_of_le (h.lt b hb) hc.size
    · exact hs.lt b hb

/-- A surface goes. -/
theorem ForZ.gone {id : Int} (h : ForZ w p mb F n Z M) (hc : Chg (fun b => b = mb) w w') (hm : MapAt Tryd.prog 3 w' mb n (delM (fun id => (Z id).map SfV.ptr) id)) : ForZ w' p mb F n (setZ Z id none) (setM M id none) := by
  obtain ⟨es, cl, hmb⟩ := h.map.isMapBlock
  have hpm : p ≠ mb := ne_of_typesF h.cell hmb (by simp)
  have hk : ∀ b, F b → b ≠ mb → w'.heap[b]? = w.heap[b]? := fun b hb h1 => hc.block b (h.lt b hb) h1
  have hz : ∀ {j y}, setZ Z id none j = some y → j ≠ id ∧ Z j = some y := fun {j y} hy => by
    rcases setZ_eq hy with ⟨_, e⟩ | h1
    · cases e
    · exact h1
  refine ⟨(hk p h.pF hpm).trans h.cell, ?_, h.pF, h.mF, ?_, fun j y hy => h.inF j y (hz hy).2, ?_, fun i j y1 y2 h1 h2 => h.one i j y1 y2 (hz h1).2 (hz h2).2, fun j y hy => h.pz j y (hz hy).2, fun b hb => Nat.lt_of_lt_of_le (h.lt b hb) hc.size⟩
  · refine hm.congr fun j hj => ?_
    unfold setZ delM
    by_cases e : j = id <;> simp [e]
  · intro j y s hy hs2
    obtain ⟨e1, e⟩ := hz hy
    rw [setM_other _ _ e1] at hs2
    exact (h.surf j y s e hs2).keep hc.size fun b hb => hk b (h.inF j y e b hb) fun hb2 => (h.pz j y e).2 (hb2 ▸ hb)
  · intro j
    by_cases e : j = id
    · subst e; rw [setM_same]; simp [setZ]
    · rw [setM_other _ _ e]; simp [setZ, e, h.dom j]
end
end Go.Proofs.YthkjicnnepkghaaDoor
