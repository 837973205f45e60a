/-
  Package forest: the closure of Commit.
-/
import Derived.Test.YthkjicnnepkghaaGreatDoorPkF
import Derived.Deep.AppendLies
namespace Go.Proofs.YthkjicnnepkghaaGreatDoor
open Go.RowKit
set_option linter.unusedVariables false

def ComOut (rk : Int → Nat) (r : Nat) (w : World) (p mb n tb lb fb B0 : Nat) (F : Nat → Prop) (Zb : Int → Option SfV) (q : Fo × List Int) (w' : World) : Prop :=
  ∃ F' Z' lv', ComSt w' p mb n tb lb fb B0 F' Z' q.1 q.2 lv' ∧ (∀ j, rk j < r → Z' j = Zb j) ∧ Chg (fun b => F b ∨ b = lb ∨ B0 ≤ b) w w' ∧ Ext F F' w.heap.size
theorem ComOut.step {rk : Int → Nat} {r r' : Nat} {w w1 w2 : World} {p mb n tb lb fb B0 : Nat} {F F1 : Nat → Prop} {Zb Z1 : Int → Option SfV} {q' : Fo × List Int} (hr : r ≤ r') (hz : ∀ j, rk j < r → Z1 j = Zb j) (hc : Chg (fun b => F b ∨ b = lb ∨ B0 ≤ b) w w1) (he : Ext F F1 w.heap.size) (hB : B0 ≤ w.heap.size)
    (h : ComOut rk r' w1 p mb n tb lb fb B0 F1 Z1 q' w2) : ComOut rk r w p mb n tb lb fb B0 F Zb q' w2 := by
  obtain ⟨F', Z', lv', a1, a2, a3, a4⟩ := h
  refine ⟨F', Z', lv', a1, fun j hj => (a2 j (by omega)).trans (hz j hj), hc.trans a3 ?_, he.trans a4 hc.size⟩
  intro b hb
  rcases hb with hb | hb | hb
  · rcases he b hb with h1 | h1
    · exact .inl (.inl h1)
    · exact .inr h1
  · exact .inl (.inr (.inl hb))
  · exact .inl (.inr (.inr hb))
theorem ComOut.same {rk : Int → Nat} {r : Nat} {w : World} {p mb n tb lb fb B0 : Nat} {F : Nat → Prop} {Z : Int → Option SfV} {q : Fo × List Int} {lv : Value} (h : ComSt w p mb n tb lb fb B0 F Z q.1 q.2 lv) : ComOut rk r w p mb n tb lb fb B0 F Z q w :=
  ⟨F, Z, lv, h, fun _ _ => rfl, Chg.refl _ _, Ext.refl _ _⟩
theorem fold_take {α β : Type} [Inhabited α] (f : β → α → β) (a : β) (L : List α) {j : Nat} (hj : j < L.length) : (L.take (j + 1)).foldl f a = f ((L.take j).foldl f a) (L.getD j default) := by
  rw [List.take_add_one, List.foldl_append, List.getElem?_eq_getElem hj]
  simp [List.getD, hj]
theorem Tryz.infoIntC : (Tryz.prog.info? 3).map (fun i => (i.zero, i.size, i.bytes)) = some (some (.int .i64 0), 1, 8) := by kernel_rfl

theorem CInv.pre {M : Fo} {l : List Int} {x : Int} {k : Sf} (h : CInv M l) (hk : M x = some k) : CPre M (if noneT k.ca then l else l ++ [x]) x := by
  refine ⟨h.good, h.fit, ?_, ?_⟩
  · split
    · exact h.nd
    · rename_i hn
      rw [List.nodup_append]
      refine ⟨h.nd, by simp, fun a ha b hb => ?_⟩
      obtain rfl : b = x := by simpa using hb
      rintro rfl
      obtain ⟨s, h1, h2⟩ := h.mem a ha
      rw [hk] at h1; cases h1
      exact hn h2
  · intro y hy
    split at hy
    · obtain ⟨s, h1, h2⟩ := h.mem y hy; exact ⟨s, h1, .inr h2⟩
    · rcases List.mem_append.1 hy with hy | hy
      · obtain ⟨s, h1, h2⟩ := h.mem y hy; exact ⟨s, h1, .inr h2⟩
      · obtain rfl : y = x := by simpa using hy
        exact ⟨k, hk, .inl rfl⟩
theorem ComSt.mid {w w1 : World} {p mb n tb lb fb B0 : Nat} {F : Nat → Prop} {Z : Int → Option SfV} {M : Fo} {l : List Int} {lv : Value} (h : ComSt w p mb n tb lb fb B0 F Z M l lv) {o : Obj} (hg : (w.alloc o).grownBy w1 lv.ownBlock) :
    w1.cell? ⟨lb, 0, none⟩ = some lv ∧ w1.frozen? ⟨lb, 0, none⟩ = false ∧ w1.cell? ⟨fb, 0, none⟩ = some (.func (.func 108) #[] #[.pointer (some ⟨tb, 0, none⟩), .pointer (some ⟨lb, 0, none⟩), .pointer (some ⟨fb, 0, none⟩)]) := by
  have hr : ∀ b v ty, w.heap[b]? = some (.cells v ty (0, 0)) → ty ≠ 3 → lv.ownBlock ≠ some b := fun b v ty hb hn e => by
    obtain ⟨cur, h1⟩ := own_typeF h.row e
    rw [hb] at h1
    cases h1
    exact hn rfl
  have hsz : (w.alloc o).heap.size = w.heap.size + 1 := by simp
  have h1 := ((hg.block lb (by have := h.lS; omega) (fun e => hr _ _ _ h.lC (by decide) e.symm)).trans (Below.heap_alloc w o lb h.lS)).trans h.lC
  have h2 := ((hg.block fb (by have := h.fS; omega) (fun e => hr _ _ _ h.fC (by decide) e.symm)).trans (Below.heap_alloc w o fb h.fS)).trans h.fC
  exact ⟨cell_of_row w1 lb 0 _ _ _ h1, frozen_of_row w1 lb 0 _ _ h1, cell_of_row w1 fb 0 _ _ _ h2⟩

section
variable {rk : Int → Nat} {Bk : Nat} {sy : Int → Bool} {p mb n tb lb fb B0 : Nat}
set_option maxRecDepth 100000 in
set_option maxHeartbeats 4000000 in
theorem com1_any : ∀ (k : Nat) (w : World) (F : Nat → Prop) (Z : Int → Option SfV) (M : Fo) (l : List Int) (lv : Value) (id : Int) (s : Sf) (z : SfV), ComSt w p mb n tb lb fb B0 F Z M l lv → CPre M l id → M id = some s → Z id = some z → (∀ x, synB M x = sy x) →
    (∀ j s, M j = some s → rk j ≤ Bk ∧ (s.parent ≠ 0 → rk s.parent < rk j)) → (∀ L : List Int, L.Nodup → (∀ y ∈ L, (M y).isSome = true) → L.length ≤ 100000) → Bk < k + rk id →
    Calls Tryz.prog 108 #[.pointer (some ⟨z.a, 0, none⟩), .pointer (some ⟨tb, 0, none⟩), .pointer (some ⟨lb, 0, none⟩), .pointer (some ⟨fb, 0, none⟩)] w fun e w' => e = .returned (.tuple #[]) ∧ ComOut rk (rk id) w p mb n tb lb fb B0 F Z (comA sy k (M, l) id) w'
  | 0, w, F, Z, M, l, lv, id, s, z, hC, hP, hs, hz, hsy, hrk, hcnt, hk => by have := (hrk _ _ hs).1; omega
  | k + 1, w, F, Z, M, l, lv, id, s, z, hC, hP, hs, hz, hsy, hrk, hcnt, hk => by
    have ih := hide (com1_any k)
    obtain ⟨i0, hi, hz0, hz1, hz2⟩ := info_parts Tryz.infoIntC
    have ht := hC.fz.surf id z s hz hs
    have hlt := ht.lt z.a (.inl rfl)
    have hblk := hide ht.blk
    have hfit := hP.fit _ _ hs
    obtain ⟨hI, hR⟩ := hP.app (rk := rk) hs (rk id) (Nat.le_refl _)
    have hid0 : id ≠ 0 := by have := (hP.good.pos _ _ hs).1; omega
    have hkids := (hI.good.kids id (appS s) (setM_same _ _ _)).2.2
    have hfits := hI.fit id (appS s) (setM_same _ _ _)
    obtain ⟨A1, c1, A2, c2, A3, c3, A4, c4, A5, c5, hcu⟩ := ht.cu.forms
    obtain ⟨D1, d1, D2, d2, D3, d3, D4, d4, D5, d5, hca⟩ := ht.ca.forms
    have kcu := cells_cu ht.blk
    have kca := cells_ca ht.blk
    have cA := fun q => apply_any (w.drewN q) z.cu z.ca s.cu s.ca (ht.cu.below (below_drewN (Below.refl _ w) q) (Nat.le_refl _)) (ht.ca.below (below_drewN (Below.refl _ w) q) (Nat.le_refl _)) hfit
    rw [hcu] at kcu
    rw [hca] at kca
    rw [hcu, hca] at cA
    unfold stVal at cA
    dsimp only at kcu kca cA
    obtain ⟨ku0, ku1, ku2, ku3, ku4, ku5, ku6, ku7, ku8, ku9, -⟩ := kcu
    obtain ⟨ka0, ka1, ka2, ka3, ka4, ka5, ka6, ka7, ka8, ka9, -⟩ := kca
    obtain ⟨S, hS⟩ : ∃ S, S = applyT s.cu s.ca := ⟨_, rfl⟩
    have hM2 : setM (setM M id (some { s with cu := S })) id (some { ({ s with cu := S } : Sf) with ca := St.zero }) = setM M id (some (appS s)) := by rw [setM_setM, hS]; rfl
    rw [← hS] at cA
    have hord : (appS s).cu.order = S.order := by rw [hS]; rfl
    obtain ⟨-, -, -, ⟨hord2, -⟩, -⟩ := hfits
    have hcom : comA sy (k + 1) (M, l) id = S.order.foldl (comStep sy (comA sy k)) (setM M id (some (appS s)), l) := by
      show (match M id with | none => (M, l) | some s => (appS s).cu.order.foldl (comStep sy (comA sy k)) (setM M id (some (appS s)), l)) = _
      rw [hs]; dsimp only; rw [hord]
    rw [hcom]
    rw [hord] at hkids hord2
    have hinv := hide (fun j => fold_inv (sy := sy) (rec := comA sy k) (Bk := Bk) hid0 (fun M' l' x hp h0 hrk' hlt => by
      by_cases hx : ∃ kx, M' x = some kx
      · obtain ⟨kx, hkx⟩ := hx
        exact comA_inv k M' l' x kx hp hkx hrk' (by omega)
      · have hn : M' x = none := by
          cases e : M' x with
          | none => rfl
          | some kx => exact absurd ⟨kx, e⟩ hx
        have e : comA sy k (M', l') x = (M', l') := by
          cases k with
          | zero => rfl
          | succ k => unfold comA; dsimp only; rw [hn]
        rw [e]
        refine ⟨⟨hp.good, hp.fit, hp.nd, fun y hy => ?_⟩, CRel.refl _ _ _⟩
        obtain ⟨s', h3, h4⟩ := hp.mem y hy
        refine ⟨s', h3, h4.resolve_left fun e => ?_⟩
        rw [e, hn] at h3; cases h3) (S.order.take j) (setM M id (some (appS s))) l hI (fun x hx => hkids x (List.mem_of_mem_take hx)) (hrk_rel hR hrk))
    have hR' := hide hR
    have hC' := hide hC
    have hz' := hide hz
    have ht' := hide ht
    have hs' := hide hs
    have hM2' := hide hM2
    have hk' := hide hk
    have hrk' := hide hrk
    have hsy' := hide hsy
    have hcnt' := hide hcnt
    have hid' := hide hid0
    have hkids' := hide hkids
    have hord' := hide hord
    replace cA := hide cA
    clear hC hP hs hz hsy hrk hcnt hk ht hfit hI hR hkids hcu hca hM2 hcom hS hid0 hord
    go_enter Tryz.func108, Tryz.ntmps108
    go_wp2
    go_region_law (first
      | (go_simp; go_at_call 109; refine (cA.out _).mono ?_; rintro e w1 ⟨v1, rfl, o1, b1⟩; obtain ⟨E1, e1, E2, e2, E3, e3, E4, e4, E5, e5, rfl⟩ := o1.forms; have hb1 := hide ((b1.block z.a (by simpa using hlt)).trans hblk.out); obtain ⟨ga0, ga1, ga2, ga3, ga4, ga5, ga6, ga7, ga8, ga9, fu0, fu1, fu2, fu3, fu4, fu5, fu6, fu7, fu8, fu9⟩ := cells_cu hb1.out; replace o1 := hide o1; replace b1 := hide b1; unfold stVal; dsimp only))
    all_goals
      obtain ⟨z1, ha1, hv1, out1⟩ := hC'.out.fz.put_cu hz'.out ht'.out ((below_drewN (Below.refl w.heap.size w) _).trans b1.out) o1.out
      dsimp only at out1
      obtain ⟨F1, C1, g1, x1⟩ := hC'.out.out out1
      clear out1 b1 o1
      generalize hW1 : ((((((((((w1.setCell ⟨z.a, 23, none⟩ (.bool S.attach)).setCell ⟨z.a, 24, none⟩ (.int .i64 S.buffer)).setCell ⟨z.a, 25, none⟩ (.slice E1 S.damage.length e1)).setCell ⟨z.a, 26, none⟩ (.slice E2 S.frames.length e2)).setCell ⟨z.a, 27, none⟩ (.bool S.input)).setCell ⟨z.a, 28, none⟩ (.bool S.all)).setCell ⟨z.a, 29, none⟩ (.slice E3 S.region.length e3)).setCell ⟨z.a, 30, none⟩ (.bool S.ordered)).setCell ⟨z.a, 31, none⟩ (.slice E4 S.order.length e4)).setCell ⟨z.a, 32, none⟩ (.slice E5 S.places.length e5)) = W1 at C1 g1 ⊢
      have hs1 := C1.fz.surf id z1 _ (setZ_same _ _ _) (setM_same _ _ _)
      have q1 := cells_ca hs1.blk
      rw [ha1] at q1
      obtain ⟨ya0, ya1, ya2, ya3, ya4, ya5, ya6, ya7, ya8, ya9, fa0, fa1, fa2, fa3, fa4, fa5, fa6, fa7, fa8, fa9⟩ := q1
      have c31 := (cells_cu hs1.blk).2.2.2.2.2.2.2.2.1
      rw [ha1, hv1] at c31
      dsimp only at c31
      obtain ⟨z2, ha2, hcu2, out2⟩ := C1.fz.clear_ca (setZ_same _ _ _) hs1
      rw [ha1] at out2
      obtain ⟨F2, C2, g2, x2⟩ := C1.out out2
      rw [hM2'.out] at C2
      have hrow2 : z2.cu.o = .slice E4 S.order.length e4 := by rw [hcu2, hv1]
      obtain ⟨Zb, hZb⟩ : ∃ Zb, Zb = setZ (setZ Z id (some z1)) id (some z2) := ⟨_, rfl⟩
      rw [← hZb] at C2
      have hbid : Zb id = some z2 := by rw [hZb, setZ_same]
      have hboth : ∀ j, rk j < rk id → Zb j = Z j := fun j hj => by
        have e : j ≠ id := fun e => by subst e; omega
        rw [hZb, setZ_other _ _ e, setZ_other _ _ e]
      have start := ComOut.step (rk := rk) (r := rk id + 1) (Zb := Zb) (Z1 := Zb) (B0 := B0) (lb := lb) (Nat.le_refl _) (fun _ _ => rfl) ((g1.trans g2 x1).mono fun b _ hb => .inl hb) (x1.trans x2 g1.size) hC'.out.bs (ComOut.same (q := (setM M id (some (appS s)), l)) C2)
      replace start := hide start
      obtain ⟨L, hL⟩ : ∃ L, L = S.order := ⟨_, rfl⟩
      obtain ⟨m, hm⟩ : ∃ m, m = L.length := ⟨_, rfl⟩
      have hordL := hide (hord'.out.trans hL.symm)
      have hLh := hide hL
      rw [← hL] at hinv hkids' hord2 c31 hrow2 ⊢
      rw [← hm] at c31 hrow2 hord2
      replace hrow2 := hide hrow2
      replace hbid := hide hbid
      replace hboth := hide hboth
      replace hm := hide hm
      clear C1 C2 g1 g2 x1 x2 hs1 out2 hW1 hZb hL hord' hv1 hcu2 ha2 ha1 cA hblk hb1 ku0 ku1 ku2 ku3 ku4 ku5 ku6 ku7 ku8 ku9 ka0 ka1 ka2 ka3 ka4 ka5 ka6 ka7 ka8 ka9 ga0 ga1 ga2 ga3 ga4 ga5 ga6 ga7 ga8 ga9 fu0 fu1 fu2 fu3 fu4 fu5 fu6 fu7 fu8 fu9
      go_wp2
      go_loopw [30] (fun i wr => ∃ j : Nat, j ≤ m ∧ i = .int .i64 j ∧ Hid (ComOut rk (rk id + 1) w p mb n tb lb fb B0 F Zb ((L.take j).foldl (comStep sy (comA sy k)) (setM M id (some (appS s)), l)) wr)) (fun i _ => m - (intOf i).toNat)
      case atStart => exact ⟨0, Nat.zero_le _, rfl, start⟩
      clear start
      case round =>
        obtain ⟨j, hj, rfl, hO⟩ := hrel
        obtain ⟨wC, hCC⟩ : ∃ wC, wC = wr := ⟨_, rfl⟩
        subst hCC
        obtain ⟨Fj, Zj, lvj, Cj, hzj, gj, xj⟩ := hO.out
        have hv := hinv.out j
        obtain ⟨q, hq⟩ : ∃ q, q = (L.take j).foldl (comStep sy (comA sy k)) (setM M id (some (appS s)), l) := ⟨_, rfl⟩
        rw [← hq] at Cj hv
        obtain ⟨vI, vR⟩ := hv
        have hms : q.1 id = some (appS s) := (vR.same id (by omega)).trans (setM_same _ _ _)
        have hsz := Cj.fz.surf id z2 _ ((hzj id (by omega)).trans hbid.out) hms
        have hrd : Rd wC (.slice E4 m e4) 1 m (L.map (Value.int .i64)) := by
          have := hsz.cu.o
          rw [hrow2.out, hordL.out, ← hm.out] at this
          exact this
        by_cases hltj : j < m
        · obtain ⟨b, off, u, rfl, hbb, hu, hc⟩ := hrd.cell1 hltj
          have hjl : j < L.length := by rw [← hm.out]; exact hltj
          obtain ⟨x, hx⟩ : ∃ x, x = L.getD j default := ⟨_, rfl⟩
          have hu2 : u = .int .i64 x := by
            rw [List.getElem?_map, List.getElem?_eq_getElem hjl] at hu
            simp at hu
            rw [← hu, hx]; simp [List.getD, hjl]
          rw [hu2] at hc
          have hnext := fold_take (comStep sy (comA sy k)) (setM M id (some (appS s)), l) L hjl
          rw [← hq, ← hx] at hnext
          have hkid := kid_rel vR (hkids'.out x (by rw [hx]; exact getD_memR hjl))
          have hrkj := hrk_rel vR (hrk_rel hR'.out hrk'.out)
          have hRall := hR'.out.trans (vR.mono (by omega))
          have hsyj : ∀ x, synB q.1 x = sy x := fun x => (synB_congr hRall x).trans (hsy'.out x)
          have hcntj : ∀ L : List Int, L.Nodup → (∀ y ∈ L, (q.1 y).isSome = true) → L.length ≤ 100000 := fun L' h1 h2 => hcnt'.out L' h1 (fun y hy => by rw [← hRall.isS y]; exact h2 y hy)
          obtain ⟨t0, l0, lf0, f0, p0⟩ := Cj.cells
          by_cases hx0 : x = 0
          · have hO2 : Hid (ComOut rk (rk id + 1) w p mb n tb lb fb B0 F Zb ((L.take (j + 1)).foldl (comStep sy (comA sy k)) (setM M id (some (appS s)), l)) wC) := hide (by
              rw [hnext]
              unfold comStep
              rw [if_pos hx0, hq]
              exact hO.out)
            have hl := Cj.fz.look (id := x) (by rw [hx0]; exact ⟨by decide, by decide⟩)
            obtain ⟨v0, hv0⟩ : ∃ v0, v0 = ((Zj x).map SfV.ptr).getD (.pointer none) := ⟨_, rfl⟩
            rw [← hv0] at hl
            rw [hx0] at hl hc
            clear hv0 hx hx0 Cj hzj gj xj hrd vI vR hms hsz hkid hrkj hRall hsyj hcntj hnext hu hu2 hbb
            go_wp2
            go_round
            case rel => exact ⟨j + 1, by omega, by go_num, hO2⟩
            case measure => simp [intOf]; omega
          · obtain ⟨kx, hkx, hkp⟩ := hkid.resolve_left hx0
            obtain ⟨zx, hzx, htx⟩ := Cj.fz.find hkx
            have hl := Cj.fz.look_some htx.id64 hzx
            have cS := fSynced_any wC Cj.fz vI.good x htx.id64
            rw [hsyj x] at cS
            replace cS := hide cS
            have hstep : comStep sy (comA sy k) q x = if sy x then comA sy k (q.1, if noneT kx.ca then q.2 else q.2 ++ [x]) x else q := by
              unfold comStep
              rw [if_neg hx0, hkx]
            cases hy : sy x with
            | false =>
              rw [hy] at cS hstep
              have hO2 : Hid (∀ q', ComOut rk (rk id + 1) w p mb n tb lb fb B0 F Zb ((L.take (j + 1)).foldl (comStep sy (comA sy k)) (setM M id (some (appS s)), l)) (wC.drewN q')) := hide fun q' => (by
                rw [hnext, hstep, if_neg (by decide)]
                exact ComOut.step (Nat.le_refl _) hzj gj xj hC'.out.bs ⟨Fj, Zj, lvj, Cj.below (below_drewN (Below.refl _ wC) q'), fun _ _ => rfl, Chg.of_below (below_drewN (Below.refl _ wC) q') _, Ext.refl _ _⟩)
              clear hx hy Cj hzj gj xj hrd vI vR hms hsz hkid hrkj hRall hsyj hcntj hnext hu hu2 hbb hstep htx hzx hkp hkx
              go_wp2_with fail
              refine cS.out.mono ?_
              rintro e w' ⟨rfl, q', rfl⟩
              go_wp2
              go_round
              case rel => exact ⟨j + 1, by omega, by go_num, hide (hO2.out _)⟩
              case measure => simp [intOf]; omega
            | true =>
              rw [hy] at cS hstep
              rw [if_pos rfl] at hstep
              obtain ⟨B1, b1, B2, b2, B3, b3, B4, b4, B5, b5, hzca⟩ := htx.ca.forms
              have hcax := htx.ca
              have kca := cells_ca htx.blk
              rw [hzca] at kca hcax
              dsimp only at kca
              obtain ⟨ya0, ya1, ya2, ya3, ya4, ya5, ya6, ya7, ya8, ya9, -⟩ := kca
              have cN := fun q' => none_any (wC.drewN q') _ kx.ca (hcax.below (below_drewN (Below.refl _ wC) q') (Nat.le_refl _))
              unfold stVal at cN
              dsimp only at cN
              replace cN := hide cN
              have hpre := vI.pre hkx
              obtain ⟨bn, hbn⟩ : ∃ bn, bn = noneT kx.ca := ⟨_, rfl⟩
              rw [← hbn] at cN hpre hstep
              have hrx : rk id < rk x := by
                have := (hrkj x kx hkx).2 (by rw [hkp]; exact hid'.out)
                rw [hkp] at this; exact this
              have hkx' : Bk < k + rk x := by have := hk'.out; omega
              have hlen := hcntj q.2 vI.nd (fun y hy => by obtain ⟨s', h1, _⟩ := vI.mem y hy; rw [h1]; rfl)
              have hgo := hide (fun (w1 : World) (hb1 : Below wC.heap.size wC w1) (w2 : World) (l' : List Int) (lv' : Value) (hC2 : ComSt w2 p mb n tb lb fb B0 Fj Zj q.1 l' lv') (hp2 : CPre q.1 l' x) (hc2 : Chg (fun b => Fj b ∨ b = lb ∨ B0 ≤ b) w1 w2) =>
                (ih.out w2 Fj Zj q.1 l' lv' x kx zx hC2 hp2 hkx hzx hsyj hrkj hcntj hkx').mono (fun e w3 (h3 : _ ∧ _) => (⟨h3.1, fun hst => by
                  rw [hnext, hstep, hst]
                  have hcc : Chg (fun b => F b ∨ b = lb ∨ B0 ≤ b) w w2 := gj.trans ((Chg.of_below hb1 (fun b => Fj b ∨ b = lb ∨ B0 ≤ b)).trans hc2 (Ext.refl _ _)) (fun b hb => by
                    rcases hb with hb | hb | hb
                    · rcases xj b hb with h1 | h1
                      · exact .inl (.inl h1)
                      · exact .inr h1
                    · exact .inl (.inr (.inl hb))
                    · exact .inl (.inr (.inr hb)))
                  exact ComOut.step (r' := rk x) (by omega) hzj hcc xj hC'.out.bs h3.2⟩ : e = .returned (.tuple #[]) ∧ ((if bn then q.2 else q.2 ++ [x]) = l' → ComOut rk (rk id + 1) w p mb n tb lb fb B0 F Zb ((L.take (j + 1)).foldl (comStep sy (comA sy k)) (setM M id (some (appS s)), l)) w3))))
              obtain ⟨Mj, lj⟩ := q
              dsimp only at *
              obtain ⟨AL, cL, rfl, hcL⟩ := own_form Cj.row
              have hCj := hide Cj
              have hprej := hide hpre
              have hltx := htx.lt zx.a (.inl rfl)
              clear hx hy Cj hzj gj xj hrd vI vR hms hsz hkid hrkj hRall hsyj hcntj hnext hu hu2 hbb hstep htx hzx hkp hkx hO hq hcax hzca hpre hbn hkx' ih hinv
              cases bn with
              | true =>
                go_wp2_with fail
                refine cS.out.mono ?_
                rintro e w' ⟨rfl, q', rfl⟩
                go_wp2_with fail
                refine (cN.out _).mono ?_
                rintro e w1 ⟨rfl, hb1⟩
                have hC1 := hCj.out.below ((below_drewN (Below.refl wC.heap.size wC) _).trans hb1)
                obtain ⟨t1, l1, lf1, f1, p1⟩ := hC1.cells
                have hr1 := hide ((hgo.out w1 ((below_drewN (Below.refl wC.heap.size wC) _).trans hb1) w1 lj _ hC1 hprej.out (Chg.refl _ _)))
                clear hC1
                replace hb1 := hide hb1
                go_wp2_with (go_at_call 108; refine hr1.out.mono ?_; rintro e w3 ⟨rfl, h3⟩; have h4 := hide (h3 rfl); clear h3)
                go_round
                case rel => exact ⟨j + 1, by omega, by go_num, h4⟩
                case measure => simp [intOf]; omega
              | false =>
                go_wp2_with fail
                refine cS.out.mono ?_
                rintro e w' ⟨rfl, q', rfl⟩
                go_wp2_with fail
                refine (cN.out _).mono ?_
                rintro e w1 ⟨rfl, hb1⟩
                have hbb := (below_drewN (Below.refl wC.heap.size wC) _).trans hb1
                have hC1 := hCj.out.below hbb
                obtain ⟨t1, l1, lf1, f1, p1⟩ := hC1.cells
                have hrow1 := fun o => own_belowF hC1.row ((Below.refl _ w1).alloc (Nat.le_refl _) o) (Nat.le_refl _)
                have hbs1 := hC1.bs
                have hmid := hide (fun o w2 hg => hC1.mid (o := o) (w1 := w2) hg)
                have hpush := hide (fun o g cap w2 ho hg hat => hC1.push x (o := o) (g := g) (cap := cap) (w1 := w2) ho hg hat)
                have hr1 := hide (hgo.out w1 hbb)
                have hfl := hC1.fl
                clear hC1 hbb
                replace hb1 := hide hb1
                go_wp2_with (first | (at_builtin; refine wpList_append_lies _ rfl _ _ 38 rfl B0 3 i0 (.int .i64 0) 1 8 Tryz.underlying38 hi hz0 hz1 hz2 rfl (by decide) _ _ _ (by simp [Act.eval]) (hrow1 _) ⟨w1.heap.size, 0, none⟩ 1 1 [.int .i64 x] (by simp [Act.eval]) rfl (cell_one_new _ _ _) (by intro u hu; simp at hu; subst hu; rfl) (by omega) (by unfold maxLen; omega) (by omega) (by simp; omega) _ rfl ?_; intro g cap w2 hown hgrow hat hlt2; obtain ⟨m1, m2, m3⟩ := hmid.out _ _ hgrow; have hps := hpush.out _ _ _ _ hown hgrow hat) | (go_at_call 108; refine (hr1.out _ _ _ hps.1 hprej.out hps.2).mono ?_; rintro e w3 ⟨rfl, h3⟩; have h4 := hide (h3 rfl); clear h3))
                go_round
                case rel => exact ⟨j + 1, by omega, by go_num, h4⟩
                case measure => simp [intOf]; omega
        · obtain rfl : j = m := by omega
          have hT : L.take j = L := by rw [hm.out]; exact List.take_length
          have hfin : Hid (ComOut rk (rk id) w p mb n tb lb fb B0 F Z (S.order.foldl (comStep sy (comA sy k)) (setM M id (some (appS s)), l)) wC) := hide (by
            rw [hT] at hq
            rw [← hLh.out]
            rw [← hq]
            exact ⟨Fj, Zj, lvj, Cj, fun i hi => (hzj i (by omega)).trans (hboth.out i hi), gj, xj⟩)
          clear hzj gj xj vI vR hms hsz hT hq hO hrd
          go_wp2
          go_end0
          exact ⟨rfl, hfin.out⟩
end
end Go.Proofs.YthkjicnnepkghaaGreatDoor
