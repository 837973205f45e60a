/-
  tableauref17: a whole state stored into a surface; what is cached comes, as plain data.
  tableauref17: kids.
  tableauref17: one surface, turned step by step; what does not turn who is sync.
-/
import Derived.Test.YthkjicnnepkghaaGreatDoorPkO
import Derived.Test.YthkjicnnepkghaaGreatDoorPkF
import Derived.Test.YthkjicnnepkghaaGreatDoorPkRef15c
import Derived.Test.YthkjicnnepkghaaGreatDoorPkForest9
namespace Go.Proofs.YthkjicnnepkghaaGreatDoor
open Go.RowKit
set_option linter.unusedVariables false

def putSt (w : World) (g o : Nat) (s : St) (v : StV) : World := ((((((((((w.setCell ⟨g, o, none⟩ (.bool s.attach)).setCell ⟨g, o + 1, none⟩ (.int .i64 s.buffer)).setCell ⟨g, o + 2, none⟩ (v.d)).setCell ⟨g, o + 3, none⟩ (v.f)).setCell ⟨g, o + 4, none⟩ (.bool s.input)).setCell ⟨g, o + 5, none⟩ (.bool s.all)).setCell ⟨g, o + 6, none⟩ (v.r)).setCell ⟨g, o + 7, none⟩ (.bool s.ordered)).setCell ⟨g, o + 8, none⟩ (v.o)).setCell ⟨g, o + 9, none⟩ (v.p))
theorem putSt_size (w : World) (g o : Nat) (s : St) (v : StV) : (putSt w g o s v).heap.size = w.heap.size := by unfold putSt; simp only [size_setCell]
theorem putSt_chg (w : World) (g o : Nat) (s : St) (v : StV) : Chg (fun b => b = g) w (putSt w g o s v) := by
  have h := fun (w : World) (j : Nat) (u : Value) => Chg.setCell (F := fun b => b = g) w (a := ⟨g, j, none⟩) rfl u
  have e := fun n => Ext.refl (fun b => b = g) n
  unfold putSt
  exact (((((((((h _ _ _).trans (h _ _ _) (e _)).trans (h _ _ _) (e _)).trans (h _ _ _) (e _)).trans (h _ _ _) (e _)).trans (h _ _ _) (e _)).trans (h _ _ _) (e _)).trans (h _ _ _) (e _)).trans (h _ _ _) (e _)).trans (h _ _ _) (e _)
def RSf.setPe (r : RSf) (s : St) (v : StV) : RSf := { r with s := { r.s with pe := s }, pe := v }
def RSf.setCa (r : RSf) (s : St) (v : StV) : RSf := { r with s := { r.s with ca := s }, ca := v }
def RSf.setCu (r : RSf) (s : St) (v : StV) : RSf := { r with s := { r.s with cu := s }, cu := v }
section
variable {B0 : Nat} {w w1 : World} {q : Nat} {G : Nat → Prop} {v : Value} {L : List RSf} {k g c : Nat} {r : RSf}
theorem RowAt.putPe (h : RowAt B0 w g c L k r.enc) (hk : k < L.length) (s : St) (u : StV) : RowAt B0 (putSt w g (k * 33 + 3) s u) g c L k (r.setPe s u).enc :=
  ((((((((((h.set hk (show 3 < 33 by decide) _).set hk (show 4 < 33 by decide) _).set hk (show 5 < 33 by decide) _).set hk (show 6 < 33 by decide) _).set hk (show 7 < 33 by decide) _).set hk (show 8 < 33 by decide) _).set hk (show 9 < 33 by decide) _).set hk (show 10 < 33 by decide) _).set hk (show 11 < 33 by decide) _).set hk (show 12 < 33 by decide) _)
theorem RowAt.putCa (h : RowAt B0 w g c L k r.enc) (hk : k < L.length) (s : St) (u : StV) : RowAt B0 (putSt w g (k * 33 + 13) s u) g c L k (r.setCa s u).enc :=
  ((((((((((h.set hk (show 13 < 33 by decide) _).set hk (show 14 < 33 by decide) _).set hk (show 15 < 33 by decide) _).set hk (show 16 < 33 by decide) _).set hk (show 17 < 33 by decide) _).set hk (show 18 < 33 by decide) _).set hk (show 19 < 33 by decide) _).set hk (show 20 < 33 by decide) _).set hk (show 21 < 33 by decide) _).set hk (show 22 < 33 by decide) _)
theorem RowAt.putCu (h : RowAt B0 w g c L k r.enc) (hk : k < L.length) (s : St) (u : StV) : RowAt B0 (putSt w g (k * 33 + 23) s u) g c L k (r.setCu s u).enc :=
  ((((((((((h.set hk (show 23 < 33 by decide) _).set hk (show 24 < 33 by decide) _).set hk (show 25 < 33 by decide) _).set hk (show 26 < 33 by decide) _).set hk (show 27 < 33 by decide) _).set hk (show 28 < 33 by decide) _).set hk (show 29 < 33 by decide) _).set hk (show 30 < 33 by decide) _).set hk (show 31 < 33 by decide) _).set hk (show 32 < 33 by decide) _)
theorem RSfOk.stay (h : RSfOk w G r) (hc : Chg (fun b => b = g) w w1) (hg : ¬ G g) : RSfOk w1 G r := h.keep hc.size fun b hb hl => hc.block b hl fun e => hg (e ▸ hb)
theorem RSfOk.up (h : RSfOk w G r) (hb : Below w.heap.size w w1) : RSfOk w1 (grownG w w1 G) r := (h.keep hb.size fun b hb' hlt => hb.block b hlt).mono fun b hb => .inl hb
theorem StOwn.inG {base : Nat} {s : St} {u : StV} (h : StOwn w1 base u s) (hb : w.heap.size ≤ base) : StRd w1 u s ∧ StIn (grownG w w1 G) u s :=
  ⟨h.rd, ⟨fun _ b hb' => .inr ⟨Nat.le_trans hb (h.d.lt b hb').1, (h.d.lt b hb').2⟩, fun _ b hb' => .inr ⟨Nat.le_trans hb (h.f.lt b hb').1, (h.f.lt b hb').2⟩, fun _ b hb' => .inr ⟨Nat.le_trans hb (h.r.lt b hb').1, (h.r.lt b hb').2⟩, fun _ b hb' => .inr ⟨Nat.le_trans hb (h.o.lt b hb').1, (h.o.lt b hb').2⟩, fun _ b hb' => .inr ⟨Nat.le_trans hb (h.p.lt b hb').1, (h.p.lt b hb').2⟩⟩⟩
theorem RSfOk.withPe (h : RSfOk w G r) {s : St} {u : StV} (hs : StRd w u s ∧ StIn G u s) : RSfOk w G (r.setPe s u) := ⟨hs.1, h.ca, h.cu, hs.2, h.caI, h.cuI, h.id64⟩
theorem RSfOk.withCa (h : RSfOk w G r) {s : St} {u : StV} (hs : StRd w u s ∧ StIn G u s) : RSfOk w G (r.setCa s u) := ⟨h.pe, hs.1, h.cu, h.peI, hs.2, h.cuI, h.id64⟩
theorem RSfOk.withCu (h : RSfOk w G r) {s : St} {u : StV} (hs : StRd w u s ∧ StIn G u s) : RSfOk w G (r.setCu s u) := ⟨h.pe, h.ca, hs.1, h.peI, h.caI, hs.2, h.id64⟩
theorem stNil (w : World) (G : Nat → Prop) : StRd w StV.nil St.zero ∧ StIn G StV.nil St.zero := ⟨StRd.zero _, StIn.zero _ _⟩
end

def comF (sy : Int → Bool) (n : Nat) (q : Fo × List Int) (id : Int) : Fo × List Int := match q.1 id with
  | none => q
  | some s => s.cu.order.foldl (comStep sy (comA sy n)) q
theorem comA_comF (sy : Int → Bool) (n : Nat) {M : Fo} {l : List Int} {id : Int} {s : Sf} (hs : M id = some s) : comA sy (n + 1) (M, l) id = comF sy n (setM M id (some (appS s)), l) id := by
  unfold comF
  dsimp only
  rw [setM_same]
  show (match M id with | none => (M, l) | some s => (appS s).cu.order.foldl (comStep sy (comA sy n)) (setM M id (some (appS s)), l)) = _
  rw [hs]
theorem appS_none {s : Sf} (hn : noneT s.ca = true) (ht : TidyT s.ca) (hc : NowT s.cu) : appS s = s := by
  obtain ⟨p, y, pe, ca, cu⟩ := s
  obtain ⟨c0, c1, c2, c3, c4, c5, c6, c7, c8, c9⟩ := ca
  obtain ⟨d0, d1, d2, d3, d4, d5, d6, d7, d8, d9⟩ := cu
  simp only [noneT, Bool.and_eq_true, Bool.not_eq_true', List.isEmpty_iff] at hn
  obtain ⟨⟨⟨⟨⟨h0, h2⟩, h3⟩, h4⟩, h7⟩, h9⟩ := hn
  obtain ⟨t1, t2, t3⟩ := ht
  obtain ⟨n1, n2, n3, n4⟩ := hc
  dsimp only at *
  subst h0 h2 h3 h4 h7 h9 n1 n2 n3 n4
  obtain rfl := t1 rfl
  obtain ⟨rfl, rfl⟩ := t2 rfl
  obtain rfl := t3 rfl
  simp [appS, applyT, mergeT, putsP, St.zero]
theorem setM_self {M : Fo} {x : Int} {s : Sf} (h : M x = some s) : setM M x (some s) = M := by
  funext i
  unfold setM
  by_cases e : i = x
  · subst e; simp [h]
  · simp [e]
end Go.Proofs.YthkjicnnepkghaaGreatDoor
namespace Go.Proofs.YthkjicnnepkghaaGreatDoor
open Go.RowKit
set_option linter.unusedVariables false

section
variable {B0 : Nat} {w w1 : World} {q : Nat} {G : Nat → Prop} {v : Value} {L : List RSf} {id : Int} {k g c : Nat} {r : RSf}
def appW (w1 : World) (g o : Nat) (S : St) (va : StV) : World := putSt (putSt w1 g (o + 23) S va) g (o + 13) St.zero StV.nil
theorem RefF.applied (h : RefF B0 w q G v L) (hh : Here B0 w q G v L id k g c r) (b1 : Below w.heap.size w w1) {va : StV} (o1 : StOwn w1 w.heap.size va (applyT r.s.cu r.s.ca)) :
    RefF B0 (appW w1 g (k * 33) (applyT r.s.cu r.s.ca) va) q (grownG w (appW w1 g (k * 33) (applyT r.s.cu r.s.ca) va) G) v (L.set k ((r.setCu (applyT r.s.cu r.s.ca) va).setCa St.zero StV.nil)) ∧
    toF (L.set k ((r.setCu (applyT r.s.cu r.s.ca) va).setCa St.zero StV.nil)) = setM (toF L) id (some (appS r.s)) ∧ Chg (fun b => b = g) w (appW w1 g (k * 33) (applyT r.s.cu r.s.ca) va) := by
  have hg := hh.ng h
  obtain rfl := hh.form
  have hc1 := putSt_chg w1 g (k * 33 + 23) (applyT r.s.cu r.s.ca) va
  have hc2 := putSt_chg (putSt w1 g (k * 33 + 23) (applyT r.s.cu r.s.ca) va) g (k * 33 + 13) St.zero StV.nil
  have hc : Chg (fun b => b = g) w (appW w1 g (k * 33) (applyT r.s.cu r.s.ca) va) := ((Chg.of_below b1 _).trans hc1 (Ext.refl _ _)).trans hc2 (Ext.refl _ _)
  have hsz : (appW w1 g (k * 33) (applyT r.s.cu r.s.ca) va).heap.size = w1.heap.size := (putSt_size _ _ _ _ _).trans (putSt_size _ _ _ _ _)
  have hng : ¬ grownG w w1 G g := fun hb => by
    rcases hb with hb | hb
    · exact hg.1 hb
    · omega
  have hrow : RowAt B0 (appW w1 g (k * 33) (applyT r.s.cu r.s.ca) va) g c L k ((r.setCu (applyT r.s.cu r.s.ca) va).setCa St.zero StV.nil).enc := ((hh.row.below b1).putCu hh.lt _ va).putCa hh.lt St.zero StV.nil
  have hok : RSfOk (appW w1 g (k * 33) (applyT r.s.cu r.s.ca) va) (grownG w w1 G) ((r.setCu (applyT r.s.cu r.s.ca) va).setCa St.zero StV.nil) :=
    ((((hh.ok.up b1).withCu (o1.inG (Nat.le_refl _))).withCa (stNil _ _)).stay hc1 hng).stay hc2 hng
  refine ⟨h.put hh.lt hc hrow (by rw [hh.at_]; rfl) (hok.mono fun b hb => hb.imp (fun h => h) fun h => ⟨h.1, by rw [hsz]; exact h.2⟩) (fun b hb => hb) (fun b hb => hb), ?_, hc⟩
  rw [toF_set h.ids hh.lt _ (by rw [hh.at_]; rfl), show ((r.setCu (applyT r.s.cu r.s.ca) va).setCa St.zero StV.nil).id = id from hh.id_]
  rfl
end
theorem Here.below {B0 : Nat} {w w' : World} {q : Nat} {G : Nat → Prop} {v : Value} {L : List RSf} {id : Int} {k g c : Nat} {r : RSf} (h : Here B0 w q G v L id k g c r) (hb : Below w.heap.size w w') : Here B0 w' q G v L id k g c r :=
  ⟨h.lt, h.form, h.row.below hb, h.at_, h.id_, h.s, h.ok.keep hb.size fun b _ hl => hb.block b hl⟩
def BigX (w : World) (s : St) (e : Ending) (w' : World) : Prop := ∃ D1 d1 D2 d2 D3 d3 D4 d4 D5 d5, e = .returned (.agg #[.bool s.attach, .int .i64 s.buffer, .slice D1 s.damage.length d1, .slice D2 s.frames.length d2, .bool s.input, .bool s.all, .slice D3 s.region.length d3, .bool s.ordered, .slice D4 s.order.length d4, .slice D5 s.places.length d5]) ∧ StOwn w' w.heap.size ⟨.slice D1 s.damage.length d1, .slice D2 s.frames.length d2, .slice D3 s.region.length d3, .slice D4 s.order.length d4, .slice D5 s.places.length d5⟩ s ∧ Below w.heap.size w w'
theorem bigX {w w' : World} {s : St} {e : Ending} (h : BigP w s e w') : BigX w s e w' := by
  obtain ⟨v', he, ho, hb⟩ := h
  obtain ⟨D1, d1, D2, d2, D3, d3, D4, d4, D5, d5, rfl⟩ := ho.forms
  exact ⟨_, _, _, _, _, _, _, _, _, _, he, ho, hb⟩
def KidOut (B0 Bl : Nat) (w : World) (q : Nat) (G : Nat → Prop) (v u : Value) (p : Fo × List Int) (u' : Value) (w' : World) : Prop :=
  ∃ G' L', RefF B0 w' q G' v L' ∧ toF L' = p.1 ∧ w'.ownsRow Bl 3 1 u' p.2.length (p.2.map (Value.int .i64)) ∧ (∀ b, u'.ownBlock = some b → ¬ fullR q G' v b) ∧ Chg (fun b => writR q v b ∨ u.ownBlock = some b) w w' ∧ Ext (fullR q G v) (fullR q G' v) w.heap.size ∧ ∀ b, u'.ownBlock = some b → u.ownBlock = some b ∨ w.heap.size ≤ b
theorem KidOut.next {B0 Bl : Nat} {w w1 w' : World} {q : Nat} {G G1 : Nat → Prop} {v u u1 u' : Value} {p : Fo × List Int} (hc : Chg (fun b => writR q v b ∨ u.ownBlock = some b) w w1) (he : Ext (fullR q G v) (fullR q G1 v) w.heap.size) (hu : ∀ b, u1.ownBlock = some b → u.ownBlock = some b ∨ w.heap.size ≤ b) (h : KidOut B0 Bl w1 q G1 v u1 p u' w') : KidOut B0 Bl w q G v u p u' w' := by
  obtain ⟨G', L', h1, h2, h3, h4, h5, h6, h7⟩ := h
  refine ⟨G', L', h1, h2, h3, h4, hc.trans h5 (fun b hb => ?_), he.trans h6 hc.size, fun b hb => ?_⟩
  · rcases hb with hb | hb
    · exact .inl (.inl hb)
    · exact (hu b hb).imp .inr (fun h => h)
  · rcases h7 b hb with h | h
    · exact hu b h
    · exact .inr (Nat.le_trans hc.size h)

section
variable {rk : Int → Nat} {Bk : Nat} {sy : Int → Bool} {B0 Bl q : Nat} {v : Value}
set_option maxRecDepth 100000 in
set_option maxHeartbeats 6000000 in
theorem gKids_any : ∀ (n : Nat) (w : World) (G : Nat → Prop) (L : List RSf) (u : Value) (l : List Int) (id : Int) (s : Sf), RefF B0 w q G v L → L.length ≤ 1000 → w.ownsRow Bl 3 1 u l.length (l.map (Value.int .i64)) → (∀ b, u.ownBlock = some b → ¬ fullR q G v b) → Bl ≤ w.heap.size → CInv (toF L) l → toF L id = some s →
    (∀ x, synB (toF L) x = sy x) → (∀ j s, toF L j = some s → rk j ≤ Bk ∧ (s.parent ≠ 0 → rk s.parent < rk j)) → Bk ≤ n + rk id →
    Calls Tryz.prog 113 #[.pointer (some ⟨q, 0, none⟩), u, .int .i64 id] w fun e w' => ∃ u', e = .returned u' ∧ KidOut B0 Bl w q G v u (comF sy n (toF L, l) id) u' w' := by
  intro n
  induction n using Nat.strongRecOn with
  | _ n ih =>
    intro w G L u l id s h hl ho hd hB hI hs hsy hrk hn
    obtain ⟨i0, hi, hz0, hz1, hz2⟩ := info_parts Tryz.infoIntC
    obtain ⟨k, g, c, r, hh, rfl⟩ := h.here hs
    have cS := hide (gS_at h hl hh)
    obtain ⟨Ao, co, hvo, _⟩ := hh.ok.cu.o.form
    have k31 : w.cell? ⟨g, k * 33 + 31, none⟩ = some r.cu.o := hh.row.cell hh.lt (by decide)
    rw [hvo] at k31
    obtain ⟨O, hO⟩ : ∃ O, O = r.s.cu.order := ⟨_, rfl⟩
    have hid0 : id ≠ 0 := by have := (hI.good.pos _ _ hs).1; omega
    have hkids := (hI.good.kids _ _ hs).2.2
    rw [← hO] at k31 hkids
    have hcom : comF sy n (toF L, l) id = O.foldl (comStep sy (comA sy n)) (toF L, l) := by unfold comF; dsimp only; rw [hs, hO]
    rw [hcom]
    have hbo : BlkIn G (.slice Ao O.length co) O.length := by have := hh.ok.cuI.o; rw [hvo, ← hO] at this; exact this
    have hro : Rd w (.slice Ao O.length co) 1 O.length (O.map (Value.int .i64)) := by have := hh.ok.cu.o; rw [hvo, ← hO] at this; exact this
    have hol : O.length ≤ 100000 := by rw [hO]; exact (hI.fit _ _ hs).o.1
    have hinv := hide (fun j => fold_inv (sy := sy) (rec := comA sy n) (Bk := Bk) hid0 (fun M' l' x hp h0 hrk' hlt => by
      by_cases hx : ∃ kx, M' x = some kx
      · obtain ⟨kx, hkx⟩ := hx
        exact comA_inv n M' l' x kx hp hkx hrk' (by omega)
      · have hnn : M' x = none := by
          cases e : M' x with
          | none => rfl
          | some kx => exact absurd ⟨kx, e⟩ hx
        have e : comA sy n (M', l') x = (M', l') := by
          cases n with
          | zero => rfl
          | succ k => unfold comA; dsimp only; rw [hnn]
        rw [e]
        refine ⟨⟨hp.good, hp.fit, hp.nd, fun y hy => ?_⟩, CRel.refl _ _ _⟩
        obtain ⟨s', h3, h4⟩ := hp.mem y hy
        refine ⟨s', h3, h4.resolve_left fun e => ?_⟩
        rw [e, hnn] at h3; cases h3) (O.take j) (toF L) l hI (fun x hx => hkids x (List.mem_of_mem_take hx)) hrk)
    have hrdO : Hid (∀ w' , Chg (fun b => writR q v b ∨ u.ownBlock = some b) w w' → Rd w' (.slice Ao O.length co) 1 O.length (O.map (Value.int .i64))) := hide fun w' hc => hro.keepIn hbo hc.size fun b hb hl => hc.block b hl fun e => by
      rcases e with (e | e) | e
      · exact h.gq (e ▸ hb)
      · exact h.gv b e hb
      · exact hd b e (.inl hb)
    obtain ⟨m, hm⟩ : ∃ m, m = O.length := ⟨_, rfl⟩
    have start : Hid (KidOut B0 Bl w q G v u (toF L, l) u w) := hide ⟨G, L, h, rfl, ho, hd, Chg.refl _ _, Ext.refl _ _, fun b hb => .inl hb⟩
    obtain ⟨Au, cu, rfl, hcu⟩ := own_form ho
    have hvl : ∃ g c, v = .slice (some ⟨g, 0, none⟩) L.length c := ⟨g, c, hh.form⟩
    have hkids' := hide hkids
    have hsy' := hide hsy
    have hrk' := hide hrk
    have hid' := hide hid0
    have hn' := hide hn
    have ih' := hide ih
    have hB' := hide hB
    obtain ⟨NL, hNL⟩ : ∃ NL, NL = L.length := ⟨_, rfl⟩
    rw [← hNL] at hl hvl
    obtain ⟨M0, hM0⟩ : ∃ M0, M0 = toF L := ⟨_, rfl⟩
    rw [← hM0] at hinv start hkids' hsy' hrk' ⊢
    rw [← hm] at k31 hol
    replace hm := hide hm
    replace hvl := hide hvl
    clear h ho hd hB hI hs hsy hrk hn hkids hcom hbo hro hid0 ih hO hvo hh hNL hM0
    go_enter Tryz.func113, Tryz.ntmps113
    go_wp2_with fail
    refine (cS.out).mono ?_
    rintro e w' ⟨rfl, rfl⟩
    go_wp2
    go_loopw [1, 8] (fun u' i wr => ∃ j : Nat, j ≤ m ∧ i = .int .i64 j ∧ Hid (KidOut B0 Bl w q G v (.slice Au l.length cu) ((O.take j).foldl (comStep sy (comA sy n)) (M0, l)) u' wr)) (fun _ i _ => m - (intOf i).toNat)
    case atStart => exact ⟨0, Nat.zero_le _, rfl, start⟩
    clear start k31
    case round =>
      obtain ⟨j, hj, rfl, hK⟩ := hrel
      obtain ⟨wC, hC⟩ : ∃ wC, wC = wr := ⟨_, rfl⟩
      subst hC
      obtain ⟨Gj, Lj, hR, hM, hU, hdj, hcj, hej, huj⟩ := hK.out
      have hv := hinv.out j
      obtain ⟨p, hp⟩ : ∃ p, p = (O.take j).foldl (comStep sy (comA sy n)) (M0, l) := ⟨_, rfl⟩
      rw [← hp] at hM hU hv
      obtain ⟨vI, vR⟩ := hv
      obtain ⟨A4, c4, rfl, hc4⟩ := own_form hU
      have hrd := hrdO.out wC hcj
      by_cases hlt : j < m
      · have hjl : j < O.length := by rw [← hm.out]; exact hlt
        obtain ⟨b, off, rfl, hbl, hcell⟩ := hrd.open1 (by omega)
        obtain ⟨x, hx⟩ : ∃ x, x = O.getD j default := ⟨_, rfl⟩
        have kx : wC.cell? ⟨b, off + j, none⟩ = some (.int .i64 x) := by rw [hx]; exact hcell j hjl
        have hnext := fold_take (comStep sy (comA sy n)) (M0, l) O hjl
        rw [← hp, ← hx] at hnext
        have hkid := kid_rel vR (hkids'.out x (by rw [hx]; exact getD_memR hjl))
        have hrkj := hrk_rel vR hrk'.out
        have hsyj : ∀ x, synB p.1 x = sy x := fun x => (synB_congr vR x).trans (hsy'.out x)
        have hom : (O.length : Int) = m := by rw [hm.out]
        have hll : Lj.length ≤ 1000 := by
          obtain ⟨g1, c1, e1⟩ := hvl.out
          obtain ⟨A5, c5, e5, _⟩ := hR.form
          rw [e1] at e5
          simp only [Value.slice.injEq] at e5
          omega
        by_cases hx0 : x = 0
        · have hO2 : Hid (KidOut B0 Bl w q G v (.slice Au l.length cu) ((O.take (j + 1)).foldl (comStep sy (comA sy n)) (M0, l)) (.slice A4 p.2.length c4) wC) := hide (by
            rw [hnext]
            unfold comStep
            rw [if_pos hx0]
            have h5 := hK.out
            rw [← hp] at h5
            exact h5)
          have cN := hide (gS_no (id := x) hR hll (by
            rw [hM, hx0]
            cases e : p.1 0 with
            | none => rfl
            | some t => have := (vI.good.pos _ _ e).1; omega))
          have hb0 : (x == 0) = true := by simpa using hx0
          clear hx hx0 hR hM hU hdj hcj hej huj vI vR hrd hp hK hnext hkid hrkj hsyj hcell
          go_wp2_with fail
          refine cN.out.mono ?_
          rintro e w' ⟨rfl, rfl⟩
          go_wp2
          go_roundw
          case rel => exact ⟨j + 1, by omega, by go_num, hO2⟩
          case measure => simp [intOf]; omega
        · obtain ⟨kx', hkx, hkp⟩ := hkid.resolve_left hx0
          have hb0 : (x == 0) = false := by simpa using hx0
          obtain ⟨k2, g2, c2, r2, hh2, hrs⟩ := hR.here (show toF Lj x = some kx' by rw [hM]; exact hkx)
          subst hrs
          have cSx := hide (gS_at hR hll hh2)
          have kid : wC.cell? ⟨g2, k2 * 33, none⟩ = some (.int .i64 x) := by
            have := hh2.row.cell hh2.lt (show 0 < 33 by decide)
            rw [show r2.enc[0]? = some (.int .i64 r2.id) from rfl, hh2.id_] at this
            exact this
          have cY := gSynced_any wC q Gj v Lj hR hll (rk := rk) (Bk := Bk) (by rw [hM]; exact hrkj) (Bk + 1) x (fun s hs => by have := (hrkj x s (by rw [← hM]; exact hs)).1; omega)
          rw [hM, hsyj x] at cY
          have hstep : comStep sy (comA sy n) p x = if sy x then comA sy n (p.1, if noneT r2.s.ca then p.2 else p.2 ++ [x]) x else p := by
            unfold comStep
            rw [if_neg hx0, hkx]
          cases hy : sy x with
          | false =>
            rw [hy] at cY hstep
            replace cY := hide cY
            have hO2 : Hid (KidOut B0 Bl w q G v (.slice Au l.length cu) ((O.take (j + 1)).foldl (comStep sy (comA sy n)) (M0, l)) (.slice A4 p.2.length c4) wC) := hide (by
              rw [hnext, hstep, if_neg (by decide)]
              have h5 := hK.out
              rw [← hp] at h5
              exact h5)
            clear hx hx0 hR hM hU hdj hcj hej huj vI vR hrd hp hK hnext hkid hrkj hsyj hcell hh2 hstep hkx hkp
            go_wp2_with fail
            refine cSx.out.mono ?_
            rintro e w' ⟨rfl, rfl⟩
            go_wp2_with fail
            refine cY.out.mono ?_
            rintro e w' ⟨rfl, rfl⟩
            go_wp2
            go_roundw
            case rel => exact ⟨j + 1, by omega, by go_num, hO2⟩
            case measure => simp [intOf]; omega
          | true =>
            rw [hy] at cY hstep
            rw [if_pos rfl] at hstep
            replace cY := hide cY
            have hrx : rk id < rk x := by
              have := (hrkj x _ hkx).2 (by rw [hkp]; exact hid'.out)
              rw [hkp] at this; exact this
            obtain ⟨n', hn2⟩ : ∃ n', n = n' + 1 := ⟨n - 1, by have := hn'.out; have := (hrkj x _ hkx).1; omega⟩
            obtain ⟨B1, b1, B2, b2, B3, b3, B4, b4, B5, b5, hzca⟩ := hh2.ok.ca.forms
            have hcax := hh2.ok.ca
            have ya := fun i (hi : i < 33) => hh2.row.cell hh2.lt hi
            have ya0 := ya 13 (by decide)
            have ya1 := ya 14 (by decide)
            have ya2 := ya 15 (by decide)
            have ya3 := ya 16 (by decide)
            have ya4 := ya 17 (by decide)
            have ya5 := ya 18 (by decide)
            have ya6 := ya 19 (by decide)
            have ya7 := ya 20 (by decide)
            have ya8 := ya 21 (by decide)
            have ya9 := ya 22 (by decide)
            simp only [RSf.enc, List.getElem?_cons_succ, List.getElem?_cons_zero, hzca] at ya0 ya1 ya2 ya3 ya4 ya5 ya6 ya7 ya8 ya9
            rw [hzca] at hcax
            have cN := gNone15_any wC _ r2.s.ca hcax
            unfold stVal at cN
            dsimp only at cN
            have hgo := hide (fun (w1 : World) (G1 : Nat → Prop) (L1 : List RSf) (l1 : List Int) (u1 : Value) (s1 : Sf) (h1 : RefF B0 w1 q G1 v L1) (hl1 : L1.length ≤ 1000) (hu1 : w1.ownsRow Bl 3 1 u1 l1.length (l1.map (Value.int .i64))) (hd1 : ∀ b, u1.ownBlock = some b → ¬ fullR q G1 v b) (hB1 : Bl ≤ w1.heap.size) (hI1 : CInv (toF L1) l1) (hs1 : toF L1 x = some s1) (hr1 : CRel rk (rk id + 1) M0 (toF L1)) =>
              ih'.out n' (by omega) w1 G1 L1 u1 l1 x s1 h1 hl1 hu1 hd1 hB1 hI1 hs1 (fun y => (synB_congr hr1 y).trans (hsy'.out y)) (hrk_rel hr1 hrk'.out) (by have := hn'.out; omega))
            have hBC : Bl ≤ wC.heap.size := Nat.le_trans hB'.out hcj.size
            rw [hn2, comA_comF sy n' hkx] at hstep
            cases hbn : noneT r2.s.ca with
            | true =>
              rw [hbn] at cN hstep
              rw [if_pos rfl, appS_none hbn (vI.good.tidy _ _ hkx).2.1 (vI.good.tidy _ _ hkx).2.2, setM_self hkx] at hstep
              replace cN := hide cN
              have hgo1 := hide (fun (w1 : World) (hb : Below wC.heap.size wC w1) => hgo.out w1 Gj Lj p.2 (.slice A4 p.2.length c4) r2.s (hR.below hb) hll (own_belowF hU hb (Nat.le_refl _)) hdj (by have := hb.size; omega) (by rw [hM]; exact vI) (by rw [hM]; exact hkx) (by rw [hM]; exact vR))
              have hfin := hide (fun (w1 : World) (hb : Below wC.heap.size wC w1) (u' : Value) (w2 : World) (hk : KidOut B0 Bl w1 q Gj v (.slice A4 p.2.length c4) (comF sy n' (toF Lj, p.2) x) u' w2) =>
                (show KidOut B0 Bl w q G v (.slice Au l.length cu) ((O.take (j + 1)).foldl (comStep sy (comA sy n)) (M0, l)) u' w2 from by
                  rw [hnext, hn2, hstep]
                  rw [hM] at hk
                  exact KidOut.next hcj hej huj (KidOut.next (Chg.of_below hb _) (Ext.refl _ _) (fun b hb => .inl hb) hk)))
              have kid1 := hide (fun (w1 : World) (hb : Below wC.heap.size wC w1) => (hb.cell (p := ⟨g2, k2 * 33, none⟩) (block_lt_of_cell kid)).trans kid)
              clear hx hx0 hR hM hU hdj hcj hej huj vI vR hrd hp hK hnext hkid hrkj hsyj hcell hh2 hstep hkx hkp hgo ya hzca hcax hinv ih'
              go_wp2_with fail
              refine cSx.out.mono ?_
              rintro e w' ⟨rfl, rfl⟩
              go_wp2_with fail
              refine cY.out.mono ?_
              rintro e w' ⟨rfl, rfl⟩
              go_wp2_with fail
              refine cN.out.mono ?_
              rintro e w1 ⟨rfl, hb1⟩
              have k1 := kid1.out w1 hb1
              have cK := hide (hgo1.out w1 hb1)
              have hf1 := hide (hfin.out w1 hb1)
              replace hb1 := hide hb1
              go_wp2_with fail
              refine cK.out.mono ?_
              rintro e w2 ⟨u2, rfl, hk⟩
              have hk2 := hide (hf1.out u2 w2 hk)
              clear hk
              go_wp2
              go_roundw
              case rel => exact ⟨j + 1, by omega, by go_num, hk2⟩
              case measure => simp [intOf]; omega
            | false =>
              rw [hbn] at cN hstep
              rw [if_neg (by decide)] at hstep
              replace cN := hide cN
              obtain ⟨C1, c1, C2, c2', C3, c3, C4, c4', C5, c5, hzcu⟩ := hh2.ok.cu.forms
              have hcux := hh2.ok.cu
              rw [hzcu] at hcux
              have hfit := vI.fit _ _ hkx
              have hcells := hide (fun (w1 : World) (hb : Below wC.heap.size wC w1) => (show w1.cell? ⟨g2, k2 * 33 + 13, none⟩ = some (.bool r2.s.ca.attach) ∧ w1.cell? ⟨g2, k2 * 33 + 14, none⟩ = some (.int .i64 r2.s.ca.buffer) ∧ w1.cell? ⟨g2, k2 * 33 + 15, none⟩ = some (.slice B1 r2.s.ca.damage.length b1) ∧ w1.cell? ⟨g2, k2 * 33 + 16, none⟩ = some (.slice B2 r2.s.ca.frames.length b2) ∧ w1.cell? ⟨g2, k2 * 33 + 17, none⟩ = some (.bool r2.s.ca.input) ∧ w1.cell? ⟨g2, k2 * 33 + 18, none⟩ = some (.bool r2.s.ca.all) ∧ w1.cell? ⟨g2, k2 * 33 + 19, none⟩ = some (.slice B3 r2.s.ca.region.length b3) ∧ w1.cell? ⟨g2, k2 * 33 + 20, none⟩ = some (.bool r2.s.ca.ordered) ∧ w1.cell? ⟨g2, k2 * 33 + 21, none⟩ = some (.slice B4 r2.s.ca.order.length b4) ∧ w1.cell? ⟨g2, k2 * 33 + 22, none⟩ = some (.slice B5 r2.s.ca.places.length b5) ∧
                w1.cell? ⟨g2, k2 * 33 + 23, none⟩ = some (.bool r2.s.cu.attach) ∧ w1.cell? ⟨g2, k2 * 33 + 24, none⟩ = some (.int .i64 r2.s.cu.buffer) ∧ w1.cell? ⟨g2, k2 * 33 + 25, none⟩ = some (.slice C1 r2.s.cu.damage.length c1) ∧ w1.cell? ⟨g2, k2 * 33 + 26, none⟩ = some (.slice C2 r2.s.cu.frames.length c2') ∧ w1.cell? ⟨g2, k2 * 33 + 27, none⟩ = some (.bool r2.s.cu.input) ∧ w1.cell? ⟨g2, k2 * 33 + 28, none⟩ = some (.bool r2.s.cu.all) ∧ w1.cell? ⟨g2, k2 * 33 + 29, none⟩ = some (.slice C3 r2.s.cu.region.length c3) ∧ w1.cell? ⟨g2, k2 * 33 + 30, none⟩ = some (.bool r2.s.cu.ordered) ∧ w1.cell? ⟨g2, k2 * 33 + 31, none⟩ = some (.slice C4 r2.s.cu.order.length c4') ∧ w1.cell? ⟨g2, k2 * 33 + 32, none⟩ = some (.slice C5 r2.s.cu.places.length c5) ∧ w1.cell? ⟨g2, k2 * 33, none⟩ = some (.int .i64 x) from by
                have y := fun i (hi : i < 33) => (hh2.row.below hb).cell hh2.lt hi
                have e0 : w1.cell? ⟨g2, k2 * 33, none⟩ = some (.int .i64 x) := (hb.cell (p := ⟨g2, k2 * 33, none⟩) (block_lt_of_cell kid)).trans kid
                refine ⟨(y 13 (by decide)).trans ?_, (y 14 (by decide)).trans ?_, (y 15 (by decide)).trans ?_, (y 16 (by decide)).trans ?_, (y 17 (by decide)).trans ?_, (y 18 (by decide)).trans ?_, (y 19 (by decide)).trans ?_, (y 20 (by decide)).trans ?_, (y 21 (by decide)).trans ?_, (y 22 (by decide)).trans ?_, (y 23 (by decide)).trans ?_, (y 24 (by decide)).trans ?_, (y 25 (by decide)).trans ?_, (y 26 (by decide)).trans ?_, (y 27 (by decide)).trans ?_, (y 28 (by decide)).trans ?_, (y 29 (by decide)).trans ?_, (y 30 (by decide)).trans ?_, (y 31 (by decide)).trans ?_, (y 32 (by decide)).trans ?_, e0⟩
                all_goals simp only [RSf.enc, List.getElem?_cons_succ, List.getElem?_cons_zero, hzca, hzcu]))
              have hfr := hide (fun (w1 : World) (hb : Below wC.heap.size wC w1) (i : Nat) => (hh2.row.below hb).free i)
              have cA := hide (fun (w1 : World) (hb : Below wC.heap.size wC w1) => (show Calls Tryz.prog 112 #[.agg #[.bool r2.s.cu.attach, .int .i64 r2.s.cu.buffer, .slice C1 r2.s.cu.damage.length c1, .slice C2 r2.s.cu.frames.length c2', .bool r2.s.cu.input, .bool r2.s.cu.all, .slice C3 r2.s.cu.region.length c3, .bool r2.s.cu.ordered, .slice C4 r2.s.cu.order.length c4', .slice C5 r2.s.cu.places.length c5], .agg #[.bool r2.s.ca.attach, .int .i64 r2.s.ca.buffer, .slice B1 r2.s.ca.damage.length b1, .slice B2 r2.s.ca.frames.length b2, .bool r2.s.ca.input, .bool r2.s.ca.all, .slice B3 r2.s.ca.region.length b3, .bool r2.s.ca.ordered, .slice B4 r2.s.ca.order.length b4, .slice B5 r2.s.ca.places.length b5]] w1 (BigX w1 (applyT r2.s.cu r2.s.ca)) from
                (gApply15_any w1 _ _ r2.s.cu r2.s.ca (hcux.below hb (Nat.le_refl _)) (hcax.below hb (Nat.le_refl _)) hfit).mono fun e w' hx => bigX hx))
              obtain ⟨S, hS⟩ : ∃ S, S = applyT r2.s.cu r2.s.ca := ⟨_, rfl⟩
              rw [← hS] at cA
              have hap := hide (fun (w1 w2 : World) (hb : Below wC.heap.size wC w1) (b1 : Below w1.heap.size w1 w2) (va : StV) (o1 : StOwn w2 w1.heap.size va S) => (by
                rw [hS] at o1 ⊢
                exact (hR.below hb).applied (hh2.below hb) b1 o1 : RefF B0 (appW w2 g2 (k2 * 33) S va) q (grownG w1 (appW w2 g2 (k2 * 33) S va) Gj) v (Lj.set k2 ((r2.setCu S va).setCa St.zero StV.nil)) ∧ toF (Lj.set k2 ((r2.setCu S va).setCa St.zero StV.nil)) = setM (toF Lj) x (some (appS r2.s)) ∧ Chg (fun b => b = g2) w1 (appW w2 g2 (k2 * 33) S va)))
              replace hS := hide hS
              have hgo' := hgo
              have hR' := hide hR
              have hU' := hide hU
              have hdj' := hide hdj
              have hcj' := hide hcj
              have hej' := hide hej
              have huj' := hide huj
              have vI' := hide vI
              have vR' := hide vR
              have hkx2 := hide hkx
              have hM' := hide hM
              have hnext' := hide hnext
              have hstep' := hide hstep
              have hh2' := hide hh2
              have hp' := hide hp
              clear hx hx0 hR hM hU hdj hcj hej huj vI vR hrd hp hK hnext hkid hrkj hsyj hcell hh2 hstep hkx hkp ya hzca hcax hzcu hcux hfit hinv ih'
              go_wp2_with fail
              refine cSx.out.mono ?_
              rintro e w' ⟨rfl, rfl⟩
              go_wp2_with fail
              refine cY.out.mono ?_
              rintro e w' ⟨rfl, rfl⟩
              go_wp2_with fail
              refine cN.out.mono ?_
              rintro e w1 ⟨rfl, hb1⟩
              clear ya0 ya1 ya2 ya3 ya4 ya5 ya6 ya7 ya8 ya9 kid
              obtain ⟨za0, za1, za2, za3, za4, za5, za6, za7, za8, za9, zc0, zc1, zc2, zc3, zc4, zc5, zc6, zc7, zc8, zc9, zid⟩ := hcells.out w1 hb1
              have cA1 := hide (fun q => cA.out (w1.drewN q) (below_drewN hb1 q))
              go_wp2
              go_region_law (first
                | (go_simp; go_at_call 112; refine (cA1.out _).mono ?_; rintro e w2 ⟨D1, d1, D2, d2, D3, d3, D4, d4, D5, d5, rfl, o1, b1⟩; have hb2 := (below_drewN hb1 1).trans (b1.mono hb1.size); obtain ⟨ua0, ua1, ua2, ua3, ua4, ua5, ua6, ua7, ua8, ua9, uc0, uc1, uc2, uc3, uc4, uc5, uc6, uc7, uc8, uc9, uid⟩ := hcells.out w2 hb2; have fr := hfr.out w2 hb2; have t13 := fr (k2 * 33 + 13); have t14 := fr (k2 * 33 + 14); have t15 := fr (k2 * 33 + 15); have t16 := fr (k2 * 33 + 16); have t17 := fr (k2 * 33 + 17); have t18 := fr (k2 * 33 + 18); have t19 := fr (k2 * 33 + 19); have t20 := fr (k2 * 33 + 20); have t21 := fr (k2 * 33 + 21); have t22 := fr (k2 * 33 + 22); have t23 := fr (k2 * 33 + 23); have t24 := fr (k2 * 33 + 24); have t25 := fr (k2 * 33 + 25); have t26 := fr (k2 * 33 + 26); have t27 := fr (k2 * 33 + 27); have t28 := fr (k2 * 33 + 28); have t29 := fr (k2 * 33 + 29); have t30 := fr (k2 * 33 + 30); have t31 := fr (k2 * 33 + 31); have t32 := fr (k2 * 33 + 32); replace o1 := hide o1; clear fr)
                | fail)
              all_goals
                obtain ⟨W1, hW1⟩ : ∃ W1, W1 = putSt w2 g2 (k2 * 33 + 23) S ⟨.slice D1 S.damage.length d1, .slice D2 S.frames.length d2, .slice D3 S.region.length d3, .slice D4 S.order.length d4, .slice D5 S.places.length d5⟩ := ⟨_, rfl⟩
                have hx1 := hW1
                unfold putSt at hx1
                dsimp only at hx1
                rw [← hx1]
                clear hx1 za0 za1 za2 za3 za4 za5 za6 za7 za8 za9 zc0 zc1 zc2 zc3 zc4 zc5 zc6 zc7 zc8 zc9 zid ua0 ua1 ua2 ua3 ua4 ua5 ua6 ua7 ua8 ua9 uc0 uc1 uc2 uc3 uc4 uc5 uc6 uc7 uc8 uc9 uid t13 t14 t15 t16 t17 t18 t19 t20 t21 t22 t23 t24 t25 t26 t27 t28 t29 t30 t31 t32
                have hr1 : RowAt B0 W1 g2 c2 Lj k2 (r2.setCu S ⟨.slice D1 S.damage.length d1, .slice D2 S.frames.length d2, .slice D3 S.region.length d3, .slice D4 S.order.length d4, .slice D5 S.places.length d5⟩).enc := by rw [hW1]; exact (hh2'.out.row.below hb2).putCu hh2'.out.lt S _
                have y := fun i (hi : i < 33) => hr1.cell hh2'.out.lt hi
                have q13 := y 13 (by decide)
                have q14 := y 14 (by decide)
                have q15 := y 15 (by decide)
                have q16 := y 16 (by decide)
                have q17 := y 17 (by decide)
                have q18 := y 18 (by decide)
                have q19 := y 19 (by decide)
                have q20 := y 20 (by decide)
                have q21 := y 21 (by decide)
                have q22 := y 22 (by decide)
                simp only [RSf.setCu, RSf.enc, List.getElem?_cons_succ, List.getElem?_cons_zero] at q13 q14 q15 q16 q17 q18 q19 q20 q21 q22
                have f13 := hr1.free (k2 * 33 + 13)
                have f14 := hr1.free (k2 * 33 + 14)
                have f15 := hr1.free (k2 * 33 + 15)
                have f16 := hr1.free (k2 * 33 + 16)
                have f17 := hr1.free (k2 * 33 + 17)
                have f18 := hr1.free (k2 * 33 + 18)
                have f19 := hr1.free (k2 * 33 + 19)
                have f20 := hr1.free (k2 * 33 + 20)
                have f21 := hr1.free (k2 * 33 + 21)
                have f22 := hr1.free (k2 * 33 + 22)
                obtain ⟨hA1, hA2, hA3⟩ := hap.out (w1.drewN 1) w2 (below_drewN hb1 1) b1 ⟨.slice D1 S.damage.length d1, .slice D2 S.frames.length d2, .slice D3 S.region.length d3, .slice D4 S.order.length d4, .slice D5 S.places.length d5⟩ o1.out
                obtain ⟨W2, hW2⟩ : ∃ W2, W2 = appW w2 g2 (k2 * 33) S ⟨.slice D1 S.damage.length d1, .slice D2 S.frames.length d2, .slice D3 S.region.length d3, .slice D4 S.order.length d4, .slice D5 S.places.length d5⟩ := ⟨_, rfl⟩
                rw [← hW2] at hA1 hA3
                have hW2' : W2 = putSt W1 g2 (k2 * 33 + 13) St.zero StV.nil := by rw [hW2, hW1]; rfl
                have hx2 := hW2'
                unfold putSt St.zero StV.nil at hx2
                dsimp only at hx2
                have hr2 : RowAt B0 W2 g2 c2 Lj k2 ((r2.setCu S ⟨.slice D1 S.damage.length d1, .slice D2 S.frames.length d2, .slice D3 S.region.length d3, .slice D4 S.order.length d4, .slice D5 S.places.length d5⟩).setCa St.zero StV.nil).enc := by rw [hW2']; exact hr1.putCa hh2'.out.lt _ _
                have kW : W2.cell? ⟨g2, k2 * 33, none⟩ = some (.int .i64 x) := by
                  have h5 := hr2.cell hh2'.out.lt (show 0 < 33 by decide)
                  rw [show ((r2.setCu S ⟨.slice D1 S.damage.length d1, .slice D2 S.frames.length d2, .slice D3 S.region.length d3, .slice D4 S.order.length d4, .slice D5 S.places.length d5⟩).setCa St.zero StV.nil).enc[0]? = some (.int .i64 r2.id) from rfl, hh2'.out.id_] at h5
                  exact h5
                replace hx2 := hide hx2
                replace hA1 := hide hA1
                replace hA2 := hide hA2
                replace hA3 := hide hA3
                replace kW := hide kW
                clear hr1 y hr2 hW2 hW2' hW1
                go_upto_region 10 with (fail)
                rw [← hx2.out]
                replace kW := kW.out
                clear q13 q14 q15 q16 q17 q18 q19 q20 q21 q22 f13 f14 f15 f16 f17 f18 f19 f20 f21 f22 hx2
                have hml := cntM_len (toF_cnt hR'.out.ids) (by omega) p.2 vI'.out.nd (fun y hy => by obtain ⟨s', h1, _⟩ := vI'.out.mem y hy; rw [hM'.out, h1]; rfl)
                have hbg : ∀ b, (Value.slice A4 p.2.length c4).ownBlock = some b → b ≠ g2 := fun b hb e => hdj'.out b hb (.inr (.inr (by rw [hh2'.out.form, e]; rfl)))
                have hs1 := hb1.size
                have hs2 : w1.heap.size ≤ W2.heap.size := hA3.out.size
                have hU2 : W2.ownsRow Bl 3 1 (.slice A4 p.2.length c4) p.2.length (p.2.map (Value.int .i64)) := own_keepF hU'.out fun b hb => (hA3.out.block b (Nat.lt_of_lt_of_le (hU'.out.lt b hb).2 hs1) (hbg b hb)).trans (hb1.block b (hU'.out.lt b hb).2)
                have hglt : g2 < W2.heap.size := block_lt_of_cell kW
                replace hbg := hide hbg
                replace hU2 := hide hU2
                replace hb1 := hide hb1
                replace hb2 := hide hb2
                replace b1 := hide b1
                go_wp2_with (at_builtin; refine wpList_append_own_at _ rfl _ _ 38 rfl Bl 3 i0 (.int .i64 0) 1 8 Tryz.underlying38 hi hz0 hz1 hz2 rfl (by decide) _ _ _ rfl (hU2.out.alloc _) ⟨W2.heap.size, 0, none⟩ 1 1 [.int .i64 x] rfl rfl (cell_one_new _ _ _) (by intro u hu; simp at hu; subst hu; rfl) (by unfold maxLen; omega) (by omega) (by simp; omega) ?_; intro v3 w3 o3 hg3 _ hat3; have kW3 : w3.cell? ⟨g2, k2 * 33, none⟩ = some (.int .i64 x) := (World.cell?_of_block (a := ⟨g2, k2 * 33, none⟩) ((hg3.block g2 (by simp; omega) (fun e => hbg.out g2 e.symm rfl)).trans (Below.heap_alloc _ _ _ hglt))).trans kW; obtain ⟨A6, c6, rfl, _⟩ := own_form o3; replace o3 := hide o3; replace hg3 := hide hg3; replace hat3 := hide hat3)
                obtain ⟨L2, hL2⟩ : ∃ L2, L2 = Lj.set k2 ((r2.setCu S ⟨.slice D1 S.damage.length d1, .slice D2 S.frames.length d2, .slice D3 S.region.length d3, .slice D4 S.order.length d4, .slice D5 S.places.length d5⟩).setCa St.zero StV.nil) := ⟨_, rfl⟩
                rw [← hL2] at hA1 hA2
                obtain ⟨G2, hG2⟩ : ∃ G2, G2 = grownG (w1.drewN 1) W2 Gj := ⟨_, rfl⟩
                rw [← hG2] at hA1
                have hG2' : ∀ b, G2 b → Gj b ∨ (w1.heap.size ≤ b ∧ b < W2.heap.size) := fun b hb => by rw [hG2] at hb; exact hb
                have hlt4 : ∀ b, (Value.slice A4 p.2.length c4).ownBlock = some b → b < wC.heap.size := fun b hb => (hU'.out.lt b hb).2
                have hd4 : ∀ b, fullR q G2 v b → (Value.slice A4 p.2.length c4).ownBlock ≠ some b := fun b hb e => by
                  rcases hb with hb | hb
                  · rcases hG2' b hb with h5 | h5
                    · exact hdj'.out b e (.inl h5)
                    · have := hlt4 b e; omega
                  · exact hdj'.out b e (.inr hb)
                have hsz3 := hg3.out.size
                simp only [World.size_alloc] at hsz3
                have hRW : RefF B0 w3 q G2 v L2 := (hA1.out.below ((Below.refl _ W2).alloc (Nat.le_refl _) _)).chg (Chg.grown hg3.out (F := fun b => (Value.slice A4 p.2.length c4).ownBlock = some b) (fun b hb => hb)) hd4
                have hlt2 := hA1.out.fullLt
                have hd6 : ∀ b, (Value.slice A6 (p.2.length + 1) c6).ownBlock = some b → ¬ fullR q G2 v b := fun b hb hf => by
                  rcases hat3.out with e | e
                  · exact hd4 b hf (e ▸ hb)
                  · rw [hb] at e
                    have h5 := Option.some.inj e
                    simp only [World.size_alloc] at h5
                    have := hlt2 b hf
                    omega
                have hpre := vI'.out.pre hkx2.out
                rw [hbn, if_neg (by decide)] at hpre
                obtain ⟨hI2, hR2⟩ := hpre.app (rk := rk) hkx2.out (rk id + 1) (by omega)
                have hM2 : toF L2 = setM p.1 x (some (appS r2.s)) := by rw [hA2.out, hM'.out]
                have cK := hgo'.out w3 G2 L2 (p.2 ++ [x]) (.slice A6 (p.2.length + 1) c6) (appS r2.s) hRW (by rw [hL2, List.length_set]; exact hll) (by rw [List.length_append, List.map_append]; exact o3.out) hd6 (by omega) (by rw [hM2]; exact hI2) (by rw [hM2, setM_same]) (by rw [hM2]; exact vR'.out.trans hR2)
                rw [hM2] at cK
                have hc3 : Chg (fun b => writR q v b ∨ (Value.slice A4 p.2.length c4).ownBlock = some b) wC w3 := by
                  have e1 := Chg.of_below hb1.out (fun b => writR q v b ∨ (Value.slice A4 p.2.length c4).ownBlock = some b)
                  have e2 : Chg (fun b => writR q v b ∨ (Value.slice A4 p.2.length c4).ownBlock = some b) w1 W2 := ⟨hA3.out.os, hA3.out.tape, hA3.out.output, hA3.out.size, fun b hb hn => hA3.out.block b hb fun e => hn (.inl (.inr (by rw [hh2'.out.form, e]; rfl)))⟩
                  have e3 := Chg.of_below ((Below.refl W2.heap.size W2).alloc (Nat.le_refl _) (.cells #[.int .i64 x] 3)) (fun b => writR q v b ∨ (Value.slice A4 p.2.length c4).ownBlock = some b)
                  exact ((e1.trans e2 (Ext.refl _ _)).trans e3 (Ext.refl _ _)).trans (Chg.grown hg3.out fun b hb => .inr hb) (Ext.refl _ _)
                have he3 : Ext (fullR q Gj v) (fullR q G2 v) wC.heap.size := fun b hb => by
                  rcases hb with hb | hb
                  · rcases hG2' b hb with h5 | h5
                    · exact .inl (.inl h5)
                    · exact .inr (by omega)
                  · exact .inl (.inr hb)
                have hu3 : ∀ b, (Value.slice A6 (p.2.length + 1) c6).ownBlock = some b → (Value.slice A4 p.2.length c4).ownBlock = some b ∨ wC.heap.size ≤ b := fun b hb => by
                  rcases hat3.out with e | e
                  · exact .inl (e ▸ hb)
                  · rw [hb] at e
                    have h5 := Option.some.inj e
                    simp only [World.size_alloc] at h5
                    exact .inr (by omega)
                have hfin := hide (fun (u' : Value) (w4 : World) (hk : KidOut B0 Bl w3 q G2 v (.slice A6 (p.2.length + 1) c6) (comF sy n' (setM p.1 x (some (appS r2.s)), p.2 ++ [x]) x) u' w4) =>
                  (show KidOut B0 Bl w q G v (.slice Au l.length cu) ((O.take (j + 1)).foldl (comStep sy (comA sy n)) (M0, l)) u' w4 from by
                    rw [hnext'.out, hn2, hstep'.out]
                    exact KidOut.next hcj'.out hej'.out huj'.out (KidOut.next hc3 he3 hu3 hk)))
                replace cK := hide cK
                clear hL2 hG2 hG2' hlt4 hd4 hsz3 hRW hlt2 hd6 hpre hI2 hR2 hM2 hc3 he3 hu3 hgo hgo'
                refine cK.out.mono ?_
                rintro e w4 ⟨u4, rfl, hk⟩
                have hk2 := hide (hfin.out u4 w4 hk)
                clear hk
                go_wp2
                go_roundw
                case rel => exact ⟨j + 1, by omega, by go_num, hk2⟩
                case measure => simp [intOf]; omega
      · obtain rfl : j = m := by omega
        have hT : O.take j = O := by rw [hm.out]; exact List.take_length
        have hom : (O.length : Int) = j := by rw [hm.out]
        have hfin : Hid (KidOut B0 Bl w q G v (.slice Au l.length cu) (O.foldl (comStep sy (comA sy n)) (M0, l)) (.slice A4 p.2.length c4) wC) := hide (by have := hK.out; rw [hT] at this; exact this)
        clear hR hM hU hdj hcj hej huj vI vR hrd hp hK hT
        go_wp2
        go_ret
        exact ⟨_, rfl, hfin.out⟩
end
end Go.Proofs.YthkjicnnepkghaaGreatDoor
namespace Go.Proofs.YthkjicnnepkghaaGreatDoor
open Go.RowKit
set_option linter.unusedVariables false

theorem rowsAt_of_set {L : List RSf} {k : Nat} (r : RSf) (row : List Value) : rowsAt (L.set k r) k row = rowsAt L k row := by
  unfold rowsAt
  rw [List.take_set, List.drop_set]
  simp only [if_pos (Nat.lt_succ_self k)]
  congr 2
  exact List.set_eq_of_length_le (by rw [List.length_take]; omega)
theorem getD_set17 {L : List RSf} {k : Nat} (hk : k < L.length) (r : RSf) : (L.set k r).getD k default = r := by simp [List.getD, hk]
theorem set_self17 {L : List RSf} {k : Nat} (hk : k < L.length) {r : RSf} (h : L.getD k default = r) : L.set k r = L := by
  have : L.getD k default = L[k] := by simp [List.getD, hk]
  rw [← h, this, List.set_getElem_self]
theorem set_set17 (L : List RSf) (k : Nat) (a b : RSf) : (L.set k a).set k b = L.set k b := by rw [List.set_set]

structure Tur (B0 : Nat) (w : World) (q : Nat) (G : Nat → Prop) (v : Value) (L : List RSf) (id : Int) (k g c : Nat) (W : World) (G' : Nat → Prop) (r' : RSf) : Prop where
  ref : RefF B0 W q G' v (L.set k r')
  here : Here B0 W q G' v (L.set k r') id k g c r'
  tof : toF (L.set k r') = setM (toF L) id (some r'.s)
  chg : Chg (fun b => b = g) w W
  ext : ∀ b, G' b → G b ∨ (w.heap.size ≤ b ∧ b < W.heap.size)
section
variable {B0 : Nat} {w W W' : World} {q : Nat} {G G' : Nat → Prop} {v : Value} {L : List RSf} {id : Int} {k g c : Nat} {r r' : RSf}
theorem Tur.start (h : RefF B0 w q G v L) (hh : Here B0 w q G v L id k g c r) : Tur B0 w q G v L id k g c w G r := by
  have e := set_self17 hh.lt hh.at_
  refine ⟨by rw [e]; exact h, by rw [e]; exact hh, ?_, Chg.refl _ _, fun b hb => .inl hb⟩
  rw [e, setM_self]
  rw [← hh.at_, ← hh.id_, ← hh.at_]
  exact toF_some h.ids hh.lt
theorem Tur.below (t : Tur B0 w q G v L id k g c W G' r') (hb : Below W.heap.size W W') : Tur B0 w q G v L id k g c W' G' r' :=
  ⟨t.ref.below hb, t.here.below hb, t.tof, t.chg.trans (Chg.of_below hb _) (Ext.refl _ _), fun b hb' => (t.ext b hb').imp (fun h => h) fun h => ⟨h.1, Nat.lt_of_lt_of_le h.2 hb.size⟩⟩
theorem Tur.out (t : Tur B0 w q G v L id k g c W G' r') : RFOut B0 w q G v (setM (toF L) id (some r'.s)) W := by
  have hv := t.here.form
  refine ⟨G', v, _, t.ref, t.tof, t.chg.mono fun b _ e => .inr (by rw [e, hv]; rfl), fun b hb => ?_⟩
  rcases hb with hb | hb
  · exact (t.ext b hb).imp .inl fun h => h.1
  · exact .inl (.inr hb)
theorem Tur.put (t : Tur B0 w q G v L id k g c W G' r') {w1 : World} {r2 : RSf} (b1 : Below W.heap.size W w1) {W2 : World} (hc : Chg (fun b => b = g) w1 W2) (hsz : W2.heap.size = w1.heap.size) (hr : RowAt B0 W2 g c (L.set k r') k r2.enc) (hid : r2.id = r'.id) (ho : RSfOk W2 (grownG W w1 G') r2) :
    Tur B0 w q G v L id k g c W2 (grownG W w1 G') r2 := by
  have hlt : k < L.length := by have := t.here.lt; rwa [List.length_set] at this
  have h0 := t.ref
  obtain rfl := t.here.form
  have hL : (L.set k r').length = L.length := List.length_set ..
  have hc2 : Chg (fun b => b = g) W W2 := (Chg.of_below b1 _).trans hc (Ext.refl _ _)
  have hG2 : ∀ b, grownG W w1 G' b → grownG W W2 G' b := fun b hb => hb.imp (fun h => h) fun h => ⟨h.1, by rw [hsz]; exact h.2⟩
  have hG1 : ∀ b, grownG W W2 G' b → grownG W w1 G' b := fun b hb => hb.imp (fun h => h) fun h => ⟨h.1, by rw [← hsz]; exact h.2⟩
  have e0 : ((L.set k r').getD k default).id = r'.id := by rw [getD_set17 hlt]
  have hp := h0.put (r' := r2) t.here.lt hc2 hr (hid.trans e0.symm) (ho.mono hG2) (G' := grownG W w1 G') hG2 hG1
  rw [set_set17] at hp
  have hid' : r2.id = id := hid.trans t.here.id_
  have ht : toF (L.set k r2) = setM (toF L) id (some r2.s) := by
    have e := toF_set (L := L.set k r') h0.ids t.here.lt r2 (hid.trans e0.symm)
    rw [set_set17, t.tof, hid', setM_setM] at e
    exact e
  have hrow : RowAt B0 W2 g c (L.set k r2) k r2.enc := by
    refine ⟨?_, hr.len⟩
    have := hr.own
    rw [rowsAt_of_set, hL] at this
    rw [rowsAt_of_set, List.length_set]
    exact this
  refine ⟨hp, ⟨by rw [List.length_set]; exact hlt, by rw [List.length_set, List.length_set], hrow, getD_set17 hlt r2, hid', by rw [ht, setM_same], ho⟩, ht, t.chg.trans hc2 (Ext.refl _ _), fun b hb => ?_⟩
  have hw := t.chg.size
  have hw2 := b1.size
  rcases hb with hb | hb
  · rcases t.ext b hb with h | h
    · exact .inl h
    · exact .inr ⟨h.1, by omega⟩
  · exact .inr ⟨by omega, by omega⟩
theorem Tur.ng (t : Tur B0 w q G v L id k g c W G' r') : ¬ G' g ∧ g < W.heap.size := t.here.ng t.ref
theorem Tur.ngg (t : Tur B0 w q G v L id k g c W G' r') {w1 : World} : ¬ grownG W w1 G' g := fun hb => by
  have := t.ng
  rcases hb with hb | hb
  · exact this.1 hb
  · omega
theorem Tur.pe (t : Tur B0 w q G v L id k g c W G' r') {w1 : World} (b1 : Below W.heap.size W w1) {s : St} {u : StV} (hs : StRd w1 u s ∧ StIn (grownG W w1 G') u s) : Tur B0 w q G v L id k g c (putSt w1 g (k * 33 + 3) s u) (grownG W w1 G') (r'.setPe s u) :=
  t.put b1 (putSt_chg _ _ _ _ _) (putSt_size _ _ _ _ _) ((t.here.row.below b1).putPe t.here.lt s u) rfl (((t.here.ok.up b1).withPe hs).stay (putSt_chg _ _ _ _ _) t.ngg)
theorem Tur.ca (t : Tur B0 w q G v L id k g c W G' r') {w1 : World} (b1 : Below W.heap.size W w1) {s : St} {u : StV} (hs : StRd w1 u s ∧ StIn (grownG W w1 G') u s) : Tur B0 w q G v L id k g c (putSt w1 g (k * 33 + 13) s u) (grownG W w1 G') (r'.setCa s u) :=
  t.put b1 (putSt_chg _ _ _ _ _) (putSt_size _ _ _ _ _) ((t.here.row.below b1).putCa t.here.lt s u) rfl (((t.here.ok.up b1).withCa hs).stay (putSt_chg _ _ _ _ _) t.ngg)
theorem Tur.cu (t : Tur B0 w q G v L id k g c W G' r') {w1 : World} (b1 : Below W.heap.size W w1) {s : St} {u : StV} (hs : StRd w1 u s ∧ StIn (grownG W w1 G') u s) : Tur B0 w q G v L id k g c (putSt w1 g (k * 33 + 23) s u) (grownG W w1 G') (r'.setCu s u) :=
  t.put b1 (putSt_chg _ _ _ _ _) (putSt_size _ _ _ _ _) ((t.here.row.below b1).putCu t.here.lt s u) rfl (((t.here.ok.up b1).withCu hs).stay (putSt_chg _ _ _ _ _) t.ngg)
end

def parSy17 (s : Sf) : Int × Bool := (s.parent, s.sync)
theorem syn_par17 {M M' : Fo} (h : ∀ x, (M' x).map parSy17 = (M x).map parSy17) : ∀ {x}, Syn M x → Syn M' x := fun {x} hx => by
  have fwd : ∀ j s, M j = some s → ∃ s', M' j = some s' ∧ s'.parent = s.parent ∧ s'.sync = s.sync := fun j s hj => by
    have := h j
    rw [hj] at this
    cases e : M' j with
    | none => rw [e] at this; cases this
    | some s' =>
      rw [e] at this
      simp only [Option.map_some, Option.some.injEq, parSy17, Prod.mk.injEq] at this
      exact ⟨s', rfl, this.1, this.2⟩
  induction hx with
  | here h1 h2 h3 => obtain ⟨s', a, b, c⟩ := fwd _ _ h1; exact .here a (by rw [b]; exact h2) (by rw [c]; exact h3)
  | up h1 h2 _ ih => obtain ⟨s', a, b, c⟩ := fwd _ _ h1; exact .up a (by rw [b]; exact h2) (by rw [b]; exact ih)
theorem synB_par17 {M M' : Fo} (h : ∀ x, (M' x).map parSy17 = (M x).map parSy17) : synB M' = synB M := by
  funext x
  unfold synB
  have : Syn M' x ↔ Syn M x := ⟨syn_par17 fun y => (h y).symm, syn_par17 h⟩
  simp [this]
theorem synB_turn {M : Fo} {id : Int} {s s' : Sf} (hs : M id = some s) (hp : s'.parent = s.parent) (hy : s'.sync = s.sync) : synB (setM M id (some s')) = synB M := by
  apply synB_par17
  intro x
  by_cases e : x = id
  · subst e; rw [setM_same, hs]; simp [parSy17, hp, hy]
  · rw [setM_other _ _ e]
theorem rk_turn {M : Fo} {rk : Int → Nat} {Bk : Nat} (hrk : ∀ j s, M j = some s → rk j ≤ Bk ∧ (s.parent ≠ 0 → rk s.parent < rk j)) {id : Int} {s s' : Sf} (hs : M id = some s) (hp : s'.parent = s.parent) : ∀ j t, setM M id (some s') j = some t → rk j ≤ Bk ∧ (t.parent ≠ 0 → rk t.parent < rk j) := fun j t hj => by
  rcases setM_eq hj with ⟨rfl, e⟩ | ⟨_, e⟩
  · cases e; rw [hp]; exact hrk _ _ hs
  · exact hrk _ _ e
end Go.Proofs.YthkjicnnepkghaaGreatDoor
