/-
  Package forest in memory: what a call leaves of a surface; look-ups.
-/
import Derived.Test.YthkjicnnepkghaaDoorFApply
namespace Go.Proofs.YthkjicnnepkghaaDoor
open Go.RowKit
set_option linter.unusedSectionVars false
set_option linter.unusedVariables false

/-- A row stands, or is new. -/
def RowOk (w w' : World) (sz : Nat) (v' : Value) (n' : Nat) (cs' : List Value) (v : Value) (n : Nat) (cs : List Value) : Prop :=
  (v' = v ∧ n' = n ∧ cs' = cs) ∨ (Rd w' v' sz n' cs' ∧ BlkIn (fun b => w.heap.size ≤ b) v' n')
structure StOk (w w' : World) (v' : StV) (s' : St) (v : StV) (s : St) : Prop where
  d : RowOk w w' 4 v'.d s'.damage.length (s'.damage.flatMap R4.enc) v.d s.damage.length (s.damage.flatMap R4.enc)
  f : RowOk w w' 1 v'.f s'.frames.length (s'.frames.map (Value.int .i64)) v.f s.frames.length (s.frames.map (Value.int .i64))
  r : RowOk w w' 4 v'.r s'.region.length (s'.region.flatMap R4.enc) v.r s.region.length (s.region.flatMap R4.enc)
  o : RowOk w w' 1 v'.o s'.order.length (s'.order.map (Value.int .i64)) v.o s.order.length (s.order.map (Value.int .i64))
  p : RowOk w w' 3 v'.p s'.places.length (s'.places.flatMap Ch.enc) v.p s.places.length (s.places.flatMap Ch.enc)

section
variable {w w' : World}
theorem RowOk.same {sz n : Nat} {v : Value} {cs : List Value} : RowOk w w' sz v n cs v n cs := .inl ⟨rfl, rfl, rfl⟩
theorem RowOk.nil {sz n : Nat} {v : Value} {cs : List Value} : RowOk w w' sz (.slice none 0 0) 0 [] v n cs := .inr ⟨Rd.nil _ _, BlkIn.nil _ _⟩
theorem RowOk.own {base sz n n' : Nat} {e : TypeId} {v v' : Value} {cs cs' : List Value} (h : w'.ownsRow base e sz v' n' cs') (hb : w.heap.size ≤ base) : RowOk w w' sz v' n' cs' v n cs :=
  .inr ⟨Rd.of_own h, fun _ b hb' => Nat.le_trans hb (h.lt b hb').1⟩
theorem StOk.same {v : StV} {s : St} : StOk w w' v s v s := ⟨.same, .same, .same, .same, .same⟩
theorem StOk.zero {v : StV} {s : St} : StOk w w' StV.nil St.zero v s := ⟨.nil, .nil, .nil, .nil, .nil⟩
theorem StOk.own {base : Nat} {v v' : StV} {s s' : St} (h : StOwn w' base v' s') (hb : w.heap.size ≤ base) : StOk w w' v' s' v s :=
  ⟨.own h.d hb, .own h.f hb, .own h.r hb, .own h.o hb, .own h.p hb⟩

theorem RowOk.rd {sz n n' : Nat} {v v' : Value} {cs cs' : List Value} (h : RowOk w w' sz v' n' cs' v n cs) {G : Nat → Prop} (hr : Rd w v sz n cs) (hi : BlkIn G v n) (hz : w.heap.size ≤ w'.heap.size) (hk : ∀ b, G b → b < w.heap.size → w'.heap[b]? = w.heap[b]?) :
    Rd w' v' sz n' cs' ∧ BlkIn (fun b => G b ∨ (w.heap.size ≤ b ∧ b < w'.heap.size)) v' n' := by
  rcases h with ⟨rfl, rfl, rfl⟩ | ⟨h1, h2⟩
  · exact ⟨hr.keepIn hi hz hk, hi.mono fun b hb => .inl hb⟩
  · exact ⟨h1, fun hn b hb => .inr ⟨h2 hn b hb, h1.inSize hn b hb⟩⟩
theorem StOk.rd {v v' : StV} {s s' : St} (h : StOk w w' v' s' v s) {G : Nat → Prop} (hr : StRd w v s) (hi : StIn G v s) (hz : w.heap.size ≤ w'.heap.size) (hk : ∀ b, G b → b < w.heap.size → w'.heap[b]? = w.heap[b]?) :
    StRd w' v' s' ∧ StIn (fun b => G b ∨ (w.heap.size ≤ b ∧ b < w'.heap.size)) v' s' := by
  obtain ⟨d1, d2⟩ := h.d.rd hr.d hi.d hz hk
  obtain ⟨f1, f2⟩ := h.f.rd hr.f hi.f hz hk
  obtain ⟨r1, r2⟩ := h.r.rd hr.r hi.r hz hk
  obtain ⟨o1, o2⟩ := h.o.rd hr.o hi.o hz hk
  obtain ⟨p1, p2⟩ := h.p.rd hr.p hi.p hz hk
  exact ⟨⟨d1, f1, r1, o1, p1⟩, ⟨d2, f2, r2, o2, p2⟩⟩

def grownG (w w' : World) (G : Nat → Prop) : Nat → Prop := fun b => G b ∨ (w.heap.size ≤ b ∧ b < w'.heap.size)
/-- A surface whose rows stand, are new, or are none. -/
theorem SurfAt.froz {id : Int} {t t' : Sf} {z z' : SfV} (h : SurfAt w id t z) (hc : Chg (fun b => b = z.a) w w') (ha : z'.a = z.a) (hG : z'.G = grownG w w' z.G) (hblk : w'.heap[z.a]? = some (.cells (sfCells id t' z') 60 (0, 0)))
    (hd : (z'.pe.d = z.pe.d ∧ t'.pe.damage = t.pe.damage) ∨ (z'.pe.d = .slice none 0 0 ∧ t'.pe.damage = [])) (hf : (z'.pe.f = z.pe.f ∧ t'.pe.frames = t.pe.frames) ∨ (z'.pe.f = .slice none 0 0 ∧ t'.pe.frames = []))
    (hr : RowOk w w' 4 z'.pe.r t'.pe.region.length (t'.pe.region.flatMap R4.enc) z.pe.r t.pe.region.length (t.pe.region.flatMap R4.enc))
    (ho : RowOk w w' 1 z'.pe.o t'.pe.order.length (t'.pe.order.map (Value.int .i64)) z.pe.o t.pe.order.length (t.pe.order.map (Value.int .i64)))
    (hp : RowOk w w' 3 z'.pe.p t'.pe.places.length (t'.pe.places.flatMap Ch.enc) z.pe.p t.pe.places.length (t.pe.places.flatMap Ch.enc))
    (hca : StOk w w' z'.ca t'.ca z.ca t.ca) (hcu : StOk w w' z'.cu t'.cu z.cu t.cu) :
    SurfAt w' id t' z' ∧ (∀ b, z'.F b → z.F b ∨ w.heap.size ≤ b) := by
  have hk : ∀ b, b ≠ z.a → b < w.heap.size → w'.heap[b]? = w.heap[b]? := fun b hb hlt => hc.block b hlt hb
  have hkG : ∀ b, z.G b → b < w.heap.size → w'.heap[b]? = w.heap[b]? := fun b hb hlt => hk b (fun e => h.aG (e ▸ hb)) hlt
  have hz := hc.size
  obtain ⟨r1, r2⟩ := hr.rd h.peR h.peRi hz hkG
  obtain ⟨o1, o2⟩ := ho.rd h.peO h.peOi hz hkG
  obtain ⟨p1, p2⟩ := hp.rd h.peP h.pePi hz hkG
  obtain ⟨ca1, ca2⟩ := hca.rd h.ca h.caI hz hkG
  obtain ⟨cu1, cu2⟩ := hcu.rd h.cu h.cuI hz hkG
  have hdO : w'.ownsRow 0 90 4 z'.pe.d t'.pe.damage.length (t'.pe.damage.flatMap R4.enc) ∧ ∀ b, z'.pe.d.ownBlock = some b → z.pe.d.ownBlock = some b := by
    rcases hd with ⟨e1, e2⟩ | ⟨e1, e2⟩
    · rw [e1, e2]
      exact ⟨own_keepF h.dOwn fun b hb => hk b (h.d_ne hb).1 (h.lt b (.inr (.inl hb))), fun b hb => hb⟩
    · rw [e1, e2]
      exact ⟨World.ownsRow_nil _ _ _ _, fun b hb => by cases hb⟩
  have hfO : w'.ownsRow 0 3 1 z'.pe.f t'.pe.frames.length (t'.pe.frames.map (Value.int .i64)) ∧ ∀ b, z'.pe.f.ownBlock = some b → z.pe.f.ownBlock = some b := by
    rcases hf with ⟨e1, e2⟩ | ⟨e1, e2⟩
    · rw [e1, e2]
      exact ⟨own_keepF h.fOwn fun b hb => hk b (h.f_ne hb) (h.lt b (.inr (.inr (.inl hb)))), fun b hb => hb⟩
    · rw [e1, e2]
      exact ⟨World.ownsRow_nil _ _ _ _, fun b hb => by cases hb⟩
  have hlt : ∀ b, z'.F b → b < w'.heap.size := fun b hb => by
    rcases hb with rfl | hb | hb | hb
    · rw [ha]; exact Nat.lt_of_lt_of_le (h.lt _ (.inl rfl)) hz
    · exact Nat.lt_of_lt_of_le (h.lt b (.inr (.inl (hdO.2 b hb)))) hz
    · exact Nat.lt_of_lt_of_le (h.lt b (.inr (.inr (.inl (hfO.2 b hb))))) hz
    · rw [hG] at hb
      rcases hb with hb | hb
      · exact Nat.lt_of_lt_of_le (h.lt b (.inr (.inr (.inr hb)))) hz
      · exact hb.2
  refine ⟨⟨by rw [ha]; exact hblk, hdO.1, hfO.1, r1, o1, p1, ca1, cu1, by rw [hG]; exact r2, by rw [hG]; exact o2, by rw [hG]; exact p2, by rw [hG]; exact ca2, by rw [hG]; exact cu2, ?_, ?_, ?_, hlt, h.id64⟩, ?_⟩
  · rw [hG, ha]
    rintro (hb | hb)
    · exact h.aG hb
    · have := h.lt z.a (.inl rfl); omega
  · intro b hb
    rw [hG]
    rintro (hb2 | hb2)
    · exact h.dG b (hdO.2 b hb) hb2
    · have := h.lt b (.inr (.inl (hdO.2 b hb))); omega
  · intro b hb
    rw [hG]
    rintro (hb2 | hb2)
    · exact h.fG b (hfO.2 b hb) hb2
    · have := h.lt b (.inr (.inr (.inl (hfO.2 b hb)))); omega
  · intro b hb
    rcases hb with rfl | hb | hb | hb
    · exact .inl (.inl ha)
    · exact .inl (.inr (.inl (hdO.2 b hb)))
    · exact .inl (.inr (.inr (.inl (hfO.2 b hb))))
    · rw [hG] at hb
      rcases hb with hb | hb
      · exact .inl (.inr (.inr (.inr hb)))
      · exact .inr hb.1

/-- A surface's damage, its frames, are longer by one. -/
theorem SurfAt.more {id : Int} {t t' : Sf} {z z' : SfV} (h : SurfAt w id t z) (hc : Chg (fun b => b = z.a ∨ z.pe.d.ownBlock = some b ∨ z.pe.f.ownBlock = some b) w w') (ha : z'.a = z.a) (hG : z'.G = z.G) (hblk : w'.heap[z.a]? = some (.cells (sfCells id t' z') 60 (0, 0)))
    (hdO : w'.ownsRow 0 90 4 z'.pe.d t'.pe.damage.length (t'.pe.damage.flatMap R4.enc)) (hd : ∀ b, z'.pe.d.ownBlock = some b → z.pe.d.ownBlock = some b ∨ w.heap.size ≤ b)
    (hfO : w'.ownsRow 0 3 1 z'.pe.f t'.pe.frames.length (t'.pe.frames.map (Value.int .i64))) (hf : ∀ b, z'.pe.f.ownBlock = some b → z.pe.f.ownBlock = some b ∨ w.heap.size ≤ b)
    (hpe : z'.pe.r = z.pe.r ∧ z'.pe.o = z.pe.o ∧ z'.pe.p = z.pe.p ∧ t'.pe.region = t.pe.region ∧ t'.pe.order = t.pe.order ∧ t'.pe.places = t.pe.places)
    (hca : z'.ca = z.ca ∧ t'.ca = t.ca) (hcu : z'.cu = z.cu ∧ t'.cu = t.cu) :
    SurfAt w' id t' z' ∧ (∀ b, z'.F b → z.F b ∨ w.heap.size ≤ b) := by
  have hkG : ∀ b, z.G b → b < w.heap.size → w'.heap[b]? = w.heap[b]? := fun b hb hlt => hc.block b hlt fun e => by
    rcases e with rfl | e | e
    · exact h.aG hb
    · exact h.dG b e hb
    · exact h.fG b e hb
  have hz := hc.size
  obtain ⟨e1, e2, e3, e4, e5, e6⟩ := hpe
  have hltd : ∀ b, z'.pe.d.ownBlock = some b → b < w'.heap.size := fun b hb => (hdO.lt b hb).2
  have hltf : ∀ b, z'.pe.f.ownBlock = some b → b < w'.heap.size := fun b hb => (hfO.lt b hb).2
  refine ⟨⟨by rw [ha]; exact hblk, hdO, hfO, ?_, ?_, ?_, ?_, ?_, ?_, ?_, ?_, ?_, ?_, ?_, ?_, ?_, ?_, h.id64⟩, ?_⟩
  · rw [e1, e4]; exact h.peR.keepIn h.peRi hz hkG
  · rw [e2, e5]; exact h.peO.keepIn h.peOi hz hkG
  · rw [e3, e6]; exact h.peP.keepIn h.pePi hz hkG
  · rw [hca.1, hca.2]; exact h.ca.keep h.caI hz hkG
  · rw [hcu.1, hcu.2]; exact h.cu.keep h.cuI hz hkG
  · rw [hG, e1, e4]; exact h.peRi
  · rw [hG, e2, e5]; exact h.peOi
  · rw [hG, e3, e6]; exact h.pePi
  · rw [hG, hca.1, hca.2]; exact h.caI
  · rw [hG, hcu.1, hcu.2]; exact h.cuI
  · rw [hG, ha]; exact h.aG
  · intro b hb
    rw [hG]
    intro hb2
    rcases hd b hb with e | e
    · exact h.dG b e hb2
    · have := h.lt b (.inr (.inr (.inr hb2))); omega
  · intro b hb
    rw [hG]
    intro hb2
    rcases hf b hb with e | e
    · exact h.fG b e hb2
    · have := h.lt b (.inr (.inr (.inr hb2))); omega
  · intro b hb
    rcases hb with rfl | hb | hb | hb
    · rw [ha]; exact Nat.lt_of_lt_of_le (h.lt _ (.inl rfl)) hz
    · exact hltd b hb
    · exact hltf b hb
    · rw [hG] at hb; exact Nat.lt_of_lt_of_le (h.lt b (.inr (.inr (.inr hb)))) hz
  · intro b hb
    rcases hb with rfl | hb | hb | hb
    · exact .inl (.inl ha)
    · exact (hd b hb).imp (fun e => .inr (.inl e)) (fun e => e)
    · exact (hf b hb).imp (fun e => .inr (.inr (.inl e))) (fun e => e)
    · rw [hG] at hb; exact .inl (.inr (.inr (.inr hb)))
end

theorem Tryd.zeroSurfP (w : World) : (zeroValue 57).run Tryd.prog w = .ok (.pointer none) w := by kernel_rfl
section
variable {w : World} {p mb n : Nat} {F : Nat → Prop} {Z : Int → Option SfV} {M : Fo}
theorem ForZ.look (h : ForZ w p mb F n Z M) {id : Int} (hid : I64 id) : (Instr.lookup 54 (.map (some mb)) (.int .i64 id) false).run Tryd.prog w = .ok (((Z id).map SfV.ptr).getD (.pointer none)) w :=
  h.map.look Tryd.underlying3 Tryd.underlying54 (Tryd.zeroSurfP w) hid
theorem ForZ.look_some (h : ForZ w p mb F n Z M) {id : Int} (hid : I64 id) {z : SfV} (hz : Z id = some z) : (Instr.lookup 54 (.map (some mb)) (.int .i64 id) false).run Tryd.prog w = .ok (.pointer (some ⟨z.a, 0, none⟩)) w := by
  rw [h.look hid, hz]; rfl
theorem ForZ.look_none (h : ForZ w p mb F n Z M) {id : Int} (hid : I64 id) (hz : Z id = none) : (Instr.lookup 54 (.map (some mb)) (.int .i64 id) false).run Tryd.prog w = .ok (.pointer none) w := by
  rw [h.look hid, hz]; rfl
theorem ForZ.cellP (h : ForZ w p mb F n Z M) : w.cell? ⟨p, 0, none⟩ = some (.map (some mb)) := cell_of_one h.cell
theorem ForZ.drewN (h : ForZ w p mb F n Z M) (q : Nat) : ForZ (w.drewN q) p mb F n Z M := h.below (below_drewN (Below.refl _ _) q)
/-- A surface's cells. -/
theorem SurfAt.cell {id : Int} {t : Sf} {z : SfV} (h : SurfAt w id t z) (k : Nat) : w.cell? ⟨z.a, k, none⟩ = (sfCells id t z)[k]? := cell_of_row w z.a k _ _ _ h.blk
theorem SurfAt.free {id : Int} {t : Sf} {z : SfV} (h : SurfAt w id t z) (k : Nat) : w.frozen? ⟨z.a, k, none⟩ = false := frozen_of_row w z.a k _ _ h.blk
end
end Go.Proofs.YthkjicnnepkghaaDoor
