/-
  Package forest: Add; a state told (of, Pending, Cached, Current).
-/
import Derived.Test.YthkjicnnepkghaaDoorForest5
import Derived.Test.YthkjicnnepkghaaDoorSorted
import Derived.Deep.RegionHeld3
namespace Go.Proofs.YthkjicnnepkghaaDoor
open Go.RowKit Go.Maps Go.Sort
set_option linter.unusedVariables false

section
variable {p mb n : Nat} {F : Nat → Prop} {Z : Int → Option SfV} {M : Fo}
theorem ForZ.count {w : World} (h : ForZ w p mb F n Z M) (hG : GoodM M) {k : Nat} (hk : CntM M k) : ∃ D, w.ownsMap Tryd.prog 3 heldR mb n D ∧ Maps.size D = k := by
  obtain ⟨D, h1, _, hn, hm⟩ := h.map.keys Tryd.underlying3
  refine ⟨D, h1, ?_⟩
  obtain ⟨l, ln, ll, lm⟩ := hk
  have hsz : (intKeys D).length = Maps.size D := by
    obtain ⟨es, hD, _⟩ := h1.entries (int_keyed Tryd.underlying3)
    subst hD
    exact List.length_map ..
  have hp : (intKeys D).Perm l := (List.perm_ext_iff_of_nodup hn ln).2 fun x => by
    rw [hm, lm]
    have hd := h.dom x
    constructor
    · rintro ⟨_, h2⟩
      rw [← hd]
      simpa using h2
    · intro h2
      obtain ⟨s, hs⟩ := Option.isSome_iff_exists.1 h2
      refine ⟨(hG.pos _ _ hs).2, ?_⟩
      rw [← hd] at h2
      simpa using h2
  rw [← hsz, hp.length_eq, ll]

theorem cellOf_grown {w w1 w2 : World} (hg : w1.grownBy w2 (some mb)) (hb : Below w.heap.size w w1) (h : ForZ w p mb F n Z M) : w2.cell? ⟨p, 0, none⟩ = some (.map (some mb)) := by
  obtain ⟨es, cl, hmb⟩ := h.map.isMapBlock
  have hpm : p ≠ mb := ne_of_typesF h.cell hmb (by simp)
  have h1 := (hb.block p (h.lt p h.pF)).trans h.cell
  exact cell_of_one ((hg.block p (lt_of_block h1) (by simpa using hpm)).trans h1)
/-- A new surface lies in memory. -/
theorem ForZ.added {w w1 w2 : World} {id : Int} (h : ForZ w p mb F n Z M) (hid : I64 id) (hn : M id = none) (b1 : Below w.heap.size w w1) {v : StV} (o1 : StOwn w1 w.heap.size v St.first)
    (hm2 : MapAt Tryd.prog 3 w2 mb (n + 1) (putM (fun id => (Z id).map SfV.ptr) id (.pointer (some ⟨w1.heap.size, 0, none⟩))))
    (hg2 : (w1.alloc (.cells (sfCells id newSf ⟨0, StV.nil, StV.nil, v, fun _ => False⟩) 60)).grownBy w2 (some mb)) :
    FOut w p n F (setM M id (some newSf)) w2 := by
  have hmlt := h.lt mb h.mF
  have hs1 := b1.size
  have hc : Chg (fun b => b = mb) w w2 := ((Chg.of_below b1 _).alloc _).trans (Chg.grown hg2 (F := fun b => b = mb) (fun b hb => (Option.some.inj hb).symm)) (Ext.refl _ _)
  have hbl : ∀ b, b ≠ mb → b < w1.heap.size → w2.heap[b]? = w1.heap[b]? := fun b hb hlt => (hg2.block b (by simp; omega) (by simpa using hb)).trans (Below.heap_alloc w1 _ b hlt)
  have hblk : w2.heap[w1.heap.size]? = some (.cells (sfCells id newSf ⟨0, StV.nil, StV.nil, v, fun _ => False⟩) 60 (0, 0)) := by
    rw [hg2.block w1.heap.size (by simp) (by simp; omega)]
    exact heap_alloc_new _ _
  have hsz := hg2.size
  simp only [World.size_alloc] at hsz
  have hk : ∀ {e : TypeId} {sz k : Nat} {u : Value} {cs : List Value}, w1.ownsRow w.heap.size e sz u k cs → w2.ownsRow w.heap.size e sz u k cs := fun ho => own_keepF ho fun b hb => by
    have := ho.lt b hb
    exact hbl b (by omega) this.2
  have hcu : StOwn w2 w.heap.size v St.first := ⟨hk o1.d, hk o1.f, hk o1.r, hk o1.o, hk o1.p⟩
  have hin : ∀ {e : TypeId} {sz k : Nat} {u : Value} {cs : List Value}, w1.ownsRow w.heap.size e sz u k cs → BlkIn (fun b => w.heap.size ≤ b ∧ b < w1.heap.size) u k := fun ho _ b hb => ho.lt b hb
  have hS : SurfAt w2 id newSf ⟨w1.heap.size, StV.nil, StV.nil, v, fun b => w.heap.size ≤ b ∧ b < w1.heap.size⟩ :=
    ⟨hblk, World.ownsRow_nil _ _ _ _, World.ownsRow_nil _ _ _ _, Rd.nil _ _, Rd.nil _ _, Rd.nil _ _, StRd.zero _, hcu.rd, BlkIn.nil _ _, BlkIn.nil _ _, BlkIn.nil _ _, StIn.zero _ _, ⟨hin o1.d, hin o1.f, hin o1.r, hin o1.o, hin o1.p⟩,
     fun hb => by dsimp only at hb; omega, fun b hb => (by cases hb), fun b hb => (by cases hb), fun b hb => by
      rcases hb with rfl | hb | hb | hb
      · dsimp only; omega
      · cases hb
      · cases hb
      · dsimp only at hb; omega, hid⟩
  refine ⟨_, ⟨mb, _, h.fresh (z := ⟨w1.heap.size, StV.nil, StV.nil, v, fun b => w.heap.size ≤ b ∧ b < w1.heap.size⟩) hc hm2 hS (fun b hb => ?_) (h.zNone hn)⟩, hc.mono (fun b _ hb => hb ▸ h.mF), fun b hb => ?_⟩
  · rcases hb with rfl | hb | hb | hb
    · dsimp only; omega
    · cases hb
    · cases hb
    · exact hb.1
  · rcases hb with hb | hb
    · exact .inl hb
    · refine .inr ?_
      rcases hb with rfl | hb | hb | hb
      · dsimp only; omega
      · cases hb
      · cases hb
      · exact hb.1

set_option maxRecDepth 100000 in
set_option maxHeartbeats 2000000 in
theorem fAdd_any {B : Nat} (w : World) {ae : Nat → Addr} (hE : ErrF B w ae) (h : ForZ w p mb F n Z M) (hG : GoodM M) (id : Int) (hid : I64 id) {k : Nat} (hk : CntM M k) (hnn : n ≤ 1000000) (hkk : k ≤ 1000000) :
    Calls Tryd.prog 9 #[.pointer (some ⟨p, 0, none⟩), .int .i64 id] w fun e w' => e = .returned (errV ae (faddK M k id)) ∧ FOut w p n F (faddS M k id) w' := by
  have g0 : w.cell? ⟨0, 0, none⟩ = _ := hE.glob 0 (by decide)
  have g3 : w.cell? ⟨2, 0, none⟩ = _ := hE.glob 3 (by decide)
  have g4 : w.cell? ⟨1, 0, none⟩ = _ := hE.glob 4 (by decide)
  have hc := h.cellP
  have cH := hide (fHas_any w h id hid)
  have hst := hide h.out.stay
  by_cases h1 : id < 1
  · have e1 : faddK M k id = 1 := by unfold faddK; rw [if_pos h1]
    have e2 : faddS M k id = M := by unfold faddS; rw [if_neg (by rw [e1]; decide)]
    rw [e1, e2]
    clear h hG hE e1 e2 hk cH g3 g4
    go_enter Tryd.func9, Tryd.ntmps9
    go_wp2
    go_ret
    exact ⟨rfl, hst.out⟩
  · by_cases h2 : (M id).isSome = true
    · have e1 : faddK M k id = 5 := by unfold faddK; rw [if_neg h1, if_pos h2]
      have e2 : faddS M k id = M := by unfold faddS; rw [if_neg (by rw [e1]; decide)]
      rw [e1, e2]
      rw [h2] at cH
      clear h hG hE e1 e2 hk g3 g0 h2
      go_enter Tryd.func9, Tryd.ntmps9
      go_wp2_with fail
      refine cH.out.mono ?_
      rintro e w' ⟨rfl, rfl⟩
      go_wp2
      go_ret
      exact ⟨rfl, hst.out⟩
    · have h2f : (M id).isSome = false := by simpa using h2
      rw [h2f] at cH
      obtain ⟨D, hown, hsz⟩ := h.count hG hk
      by_cases h3 : 40 ≤ k
      · have e1 : faddK M k id = 4 := by unfold faddK; rw [if_neg h1, if_neg h2, if_pos h3]
        have e2 : faddS M k id = M := by unfold faddS; rw [if_neg (by rw [e1]; decide)]
        rw [e1, e2]
        clear h hG hE e1 e2 hk g4 g0 h2 h2f
        replace hown := hide hown
        have h3' : (40 : Int) ≤ (k : Int) := by omega
        replace hsz := hide hsz
        go_enter Tryd.func9, Tryd.ntmps9
        go_wp2_with fail
        refine cH.out.mono ?_
        rintro e w' ⟨rfl, rfl⟩
        go_wp2_with (at_len; refine wpList_len_own _ rfl _ 54 rfl 3 57 Tryd.underlying54 _ mb n D rfl hown.out ?_; rw [hsz.out])
        go_ret
        exact ⟨rfl, hst.out⟩
      · have e1 : faddK M k id = 0 := by unfold faddK; rw [if_neg h1, if_neg h2, if_neg h3]
        have e2 : faddS M k id = setM M id (some newSf) := by unfold faddS; rw [if_pos e1]
        rw [e1, e2]
        have hno : M id = none := by simpa using h2f
        replace hown := hide hown
        have h3' : ¬ (40 : Int) ≤ (k : Int) := by omega
        replace hsz := hide hsz
        have cF := hide (fun q => first_any (w.drewN q))
        have hh := hide h
        have hpl := h.lt p h.pF
        have hno' := hide hno
        clear h hG hE e1 e2 hk g4 g0 g3 h2 h2f hno
        go_enter Tryd.func9, Tryd.ntmps9
        go_wp2_with fail
        refine cH.out.mono ?_
        rintro e w' ⟨rfl, rfl⟩
        go_wp2_with (at_len; refine wpList_len_own _ rfl _ 54 rfl 3 57 Tryd.underlying54 _ mb n D rfl hown.out ?_; rw [hsz.out])
        have kS : Hid (∀ W, Below w.heap.size w W → W.cell? ⟨p, 0, none⟩ = some (.map (some mb))) := hide fun W hb => (hb.cell (p := ⟨p, 0, none⟩) hpl).trans hc
        go_region_held3 (fun w' => w'.cell? ⟨p, 0, none⟩ = some (.map (some mb))) (first | exact kS.out _ b1.out | exact kS.out _ (b1.out.alloc b1.out.size _) | exact hput.out | go_keep)
          (first | (go_at_call 29; refine (cF.out _).mono ?_; rintro e w1 ⟨v1, rfl, o1, b1x⟩; have b1 : Hid (Below w.heap.size w w1) := hide ((below_drewN (Below.refl _ w) _).trans b1x); have o1' : Hid (StOwn w1 w.heap.size v1 St.first) := hide o1; obtain ⟨A1, c1, A2, c2, A3, c3, A4, c4, A5, c5, rfl⟩ := o1.forms; obtain ⟨w2, hrun, hm2, hg2⟩ := (hh.out.below ((b1.out.alloc b1.out.size (.cells (sfCells id newSf ⟨0, StV.nil, StV.nil, ⟨.slice A1 St.first.damage.length c1, .slice A2 St.first.frames.length c2, .slice A3 St.first.region.length c3, .slice A4 St.first.order.length c4, .slice A5 St.first.places.length c5⟩, fun _ => False⟩) 60)))).map.putRun Tryd.underlying3 Tryd.underlying54 (by unfold maxLen; omega) hid (.pointer (some ⟨w1.heap.size, 0, none⟩)); have hput : Hid (w2.cell? ⟨p, 0, none⟩ = some (.map (some mb))) := hide (cellOf_grown hg2 (b1.out.alloc b1.out.size _) hh.out); replace hm2 := hide hm2; replace hg2 := hide hg2; clear b1x o1; unfold sfCells newSf St.zero St.first StV.nil at hrun; unfold stVal St.first; dsimp only [List.length_nil, List.length_cons, List.length_singleton] at hrun ⊢))
        all_goals
          go_wp2
          go_ret
          exact ⟨rfl, hh.out.added hid hno'.out b1.out o1'.out hm2.out hg2.out⟩
end
end Go.Proofs.YthkjicnnepkghaaDoor
