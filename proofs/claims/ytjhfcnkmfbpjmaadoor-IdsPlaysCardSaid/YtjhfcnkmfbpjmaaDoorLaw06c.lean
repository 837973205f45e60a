/-
  The law IdsPlays, as a walk.
-/
import Derived.Test.YtjhfcnkmfbpjmaaDoorLaw06b
import Derived.Test.YtjhfcnkmfbpjmaaDoorRef06b
import Derived.Deep.RegionHeld3
namespace Go.Proofs.YtjhfcnkmfbpjmaaDoor
open Go.RowKit

/-- The table and the reference's, beside one another, both laid since W. -/
structure Duo (W : World) (p mb n q : Nat) (M N : Int → Option (Int × Int)) (w : World) : Prop where
  tab : TabL W p mb n M w
  ref : RefM w q N
  qge : W.heap.size ≤ q
  qp : q ≠ p
  qm : q ≠ mb
  good : GoodM N

/-- The call's struct lies in block o. -/
structure OpAt (o : Nat) (x : Op06) (w : World) : Prop where
  c0 : w.cell? ⟨o, 0, none⟩ = some (.int .i64 x.kind)
  c1 : w.cell? ⟨o, 1, none⟩ = some (.int .i64 x.id)
  c2 : w.cell? ⟨o, 2, none⟩ = some (.int .i64 x.face)
  c3 : w.cell? ⟨o, 3, none⟩ = some (.int .i64 x.vers)

structure Trio (W : World) (p mb n q o : Nat) (x : Op06) (M N : Int → Option (Int × Int)) (w : World) : Prop where
  duo : Duo W p mb n q M N w
  op : OpAt o x w
  ne : o ≠ p ∧ o ≠ mb ∧ o ≠ q

section
variable {W w w' : World} {p mb n q o : Nat} {x : Op06} {M N M' N' : Int → Option (Int × Int)} {ae : Nat → Addr}

theorem OpAt.chg {G : Nat → Prop} (h : OpAt o x w) (hg : Chg G w w') (hn : ¬ G o) : OpAt o x w' := by
  have H := fun j (v : Value) (hc : w.cell? ⟨o, j, none⟩ = some v) => (World.cell?_of_block (a := ⟨o, j, none⟩) (hg.block o (block_lt_of_cell (a := ⟨o, j, none⟩) hc) hn)).trans hc
  exact ⟨H 0 _ h.c0, H 1 _ h.c1, H 2 _ h.c2, H 3 _ h.c3⟩

theorem Duo.tabOut (h : Duo W p mb n q M N w) (ho : TabOut w p mb n M' w') : Duo W p mb (n + 1) q M' N w' :=
  ⟨h.tab.out ho, h.ref.keep (ho.2.block q h.ref.lt h.qm), h.qge, h.qp, h.qm, h.good⟩
theorem Duo.refOut (h : Duo W p mb n q M N w) (ho : RefOut w q N' w') (hG : GoodM N') : Duo W p mb n q M N' w' :=
  ⟨⟨h.tab.tab.chg ho.2 (fun e => h.qp e.symm) (fun e => h.qm e.symm), h.tab.below.trans (ho.2.below h.tab.below.size fun b hb => by subst hb; exact h.qge), h.tab.pge, h.tab.mge⟩, ho.1, h.qge, h.qp, h.qm, hG⟩
theorem Duo.keep (h : Duo W p mb n q M N w) (hb : Below w.heap.size w w') : Duo W p mb n q M N w' :=
  ⟨h.tab.keep hb, h.ref.keep (hb.block q h.ref.lt), h.qge, h.qp, h.qm, h.good⟩
theorem Trio.keep (h : Trio W p mb n q o x M N w) (hb : Below w.heap.size w w') : Trio W p mb n q o x M N w' :=
  ⟨h.duo.keep hb, h.op.chg (Chg.of_below hb (fun _ => False)) (fun h => h), h.ne⟩
theorem Trio.drew (h : Trio W p mb n q o x M N w) : Trio W p mb n q o x M N w.drew := h.keep (below_drewN (Below.refl _ w) 1)

theorem bAdd (hE : Err2 W.heap.size W ae) (h : Trio W p mb n q o x M N w) (id f v : Int) (hid : I64 id) (hn : n ≤ 1000000) :
    Calls Tryd.prog 14 #[.pointer (some ⟨p, 0, none⟩), .int .i64 id, .int .i64 f, .int .i64 v] w fun e w' => e = .returned (errV ae (addIK M id f v)) ∧ Trio W p mb (n + 1) q o x (addIS M id f v) N w' :=
  (tAdd_any w (hE.below h.duo.tab.below) p mb n M id f v hid h.duo.tab.tab hn).mono fun _ _ ⟨he, ho⟩ => ⟨he, h.duo.tabOut ho, h.op.chg ho.2 h.ne.2.1, h.ne⟩
theorem bDrop (hE : Err2 W.heap.size W ae) (h : Trio W p mb n q o x M N w) (id : Int) (hid : I64 id) :
    Calls Tryd.prog 15 #[.pointer (some ⟨p, 0, none⟩), .int .i64 id] w fun e w' => e = .returned (errV ae (dropIK M id)) ∧ Trio W p mb (n + 1) q o x (dropIS M id) N w' :=
  (tDrop_any w (hE.below h.duo.tab.below) p mb n M id hid h.duo.tab.tab).mono fun _ _ ⟨he, ho⟩ => ⟨he, h.duo.tabOut ho, h.op.chg ho.2 h.ne.2.1, h.ne⟩
theorem bWant (hE : Err2 W.heap.size W ae) (h : Trio W p mb n q o x M N w) (id f : Int) (hid : I64 id) :
    Calls Tryd.prog 18 #[.pointer (some ⟨p, 0, none⟩), .int .i64 id, .int .i64 f] w fun e w' => e = .returned (errV ae (wantIK M id f)) ∧ Trio W p mb n q o x M N w' :=
  (tWant_any w (hE.below h.duo.tab.below) p mb n M id f hid h.duo.tab.tab).mono fun _ _ ⟨he, ho⟩ => ⟨he, h.keep ho⟩
theorem bFace (h : Trio W p mb n q o x M N w) (id : Int) (hid : I64 id) :
    Calls Tryd.prog 16 #[.pointer (some ⟨p, 0, none⟩), .int .i64 id] w fun e w' => e = .returned (.int .i64 (faceI M id)) ∧ Trio W p mb n q o x M N w' :=
  (tFace_any w p mb n M id hid h.duo.tab.tab).mono fun _ _ ⟨he, ho⟩ => ⟨he, h.keep ho⟩
theorem bVersion (h : Trio W p mb n q o x M N w) (id : Int) (hid : I64 id) :
    Calls Tryd.prog 17 #[.pointer (some ⟨p, 0, none⟩), .int .i64 id] w fun e w' => e = .returned (.int .i64 (versI M id)) ∧ Trio W p mb n q o x M N w' :=
  (tVersion_any w p mb n M id hid h.duo.tab.tab).mono fun _ _ ⟨he, ho⟩ => ⟨he, h.keep ho⟩
theorem bKind (hE : Errs W.heap.size W ae) (h : Trio W p mb n q o x M N w) (k : Nat) (hk : k ≤ 16) :
    Calls Tryd.prog 21 #[errV ae k] w fun e w' => e = .returned (.int .i64 k) ∧ Trio W p mb n q o x M N w' :=
  (kind_any W.heap.size w ae k (hE.below h.duo.tab.below) hk).mono fun _ _ ⟨he, ho⟩ => ⟨he, h.keep ho⟩
theorem bRAdd (h : Trio W p mb n q o x M N w) (id f v : Int) :
    Calls Tryd.prog 24 #[.pointer (some ⟨q, 0, none⟩), .int .i64 id, .int .i64 f, .int .i64 v] w fun e w' => e = .returned (.int .i64 (addIK N id f v)) ∧ Trio W p mb n q o x M (addIS N id f v) w' :=
  (rAdd_any w q N h.duo.good id f v h.duo.ref).mono fun _ _ ⟨he, ho⟩ => ⟨he, h.duo.refOut ho (h.duo.good.add id f v), h.op.chg ho.2 h.ne.2.2, h.ne⟩
theorem bRDrop (h : Trio W p mb n q o x M N w) (id : Int) :
    Calls Tryd.prog 22 #[.pointer (some ⟨q, 0, none⟩), .int .i64 id] w fun e w' => e = .returned (.int .i64 (dropIK N id)) ∧ Trio W p mb n q o x M (dropIS N id) w' :=
  (rDrop_any w q N h.duo.good id h.duo.ref).mono fun _ _ ⟨he, ho⟩ => ⟨he, h.duo.refOut ho (h.duo.good.drop id), h.op.chg ho.2 h.ne.2.2, h.ne⟩
theorem bRWant (h : Trio W p mb n q o x M N w) (id f : Int) :
    Calls Tryd.prog 23 #[.pointer (some ⟨q, 0, none⟩), .int .i64 id, .int .i64 f] w fun e w' => e = .returned (.int .i64 (wantIK N id f)) ∧ Trio W p mb n q o x M N w' :=
  (rWant_any w q N h.duo.good id f h.duo.ref).mono fun _ _ ⟨he, ho⟩ => ⟨he, h.keep ho⟩
theorem bRAt (h : Trio W p mb n q o x M N w) (id : Int) :
    Calls Tryd.prog 25 #[.pointer (some ⟨q, 0, none⟩), .int .i64 id] w fun e w' => e = .returned (obV (atM N id)) ∧ Trio W p mb n q o x M N w' :=
  (rAt_any w q N h.duo.good id h.duo.ref).mono fun _ _ ⟨he, ho⟩ => ⟨he, h.keep ho⟩
end

theorem obV_atM (M : Int → Option (Int × Int)) (j : Int) : obV (atM M j) = .agg #[.int .i64 (faceI M j), .int .i64 (versI M j)] := by
  unfold obV atM faceI versI
  cases M j with
  | none => rfl
  | some x => rfl
theorem bRAt2 {W w : World} {p mb n q o : Nat} {x : Op06} {M N : Int → Option (Int × Int)} (h : Trio W p mb n q o x M N w) (id : Int) :
    Calls Tryd.prog 25 #[.pointer (some ⟨q, 0, none⟩), .int .i64 id] w fun e w' => e = .returned (.agg #[.int .i64 (faceI N id), .int .i64 (versI N id)]) ∧ Trio W p mb n q o x M N w' := by
  rw [← obV_atM]; exact bRAt h id
theorem keep1_drop (M : Int → Option (Int × Int)) (id : Int) (h : (M 1).isSome = true) : ((dropIS M id) 1).isSome = true := by
  unfold dropIS
  split
  · rename_i h0
    unfold setT
    by_cases h1 : (1 : Int) = id
    · exfalso
      subst h1
      simp [dropIK] at h0
    · rw [if_neg h1]; exact h
  · exact h
theorem keep1_add (M : Int → Option (Int × Int)) (id f v : Int) (h : (M 1).isSome = true) : ((addIS M id f v) 1).isSome = true := by
  unfold addIS
  split
  · unfold setT
    by_cases h1 : (1 : Int) = id
    · rw [if_pos h1]; rfl
    · rw [if_neg h1]; exact h
  · exact h
theorem dROf {W w : World} {p mb n q : Nat} {M N : Int → Option (Int × Int)} (h : Duo W p mb n q M N w) (f : Int) :
    Calls Tryd.prog 26 #[.pointer (some ⟨q, 0, none⟩), .int .i64 f] w fun e w' => ∃ A c, e = .returned (.slice A (ofK N f 256).length c) ∧ Rd w' (.slice A (ofK N f 256).length c) 1 (ofK N f 256).length ((ofK N f 256).map (Value.int .i64)) ∧ Duo W p mb n q M N w' ∧ Below w.heap.size w w' := by
  refine (rOf_any w q N f h.ref).mono ?_
  rintro e w' ⟨v, rfl, hr, hb⟩
  obtain ⟨A, c, rfl, _⟩ := own_form hr
  exact ⟨A, c, rfl, Rd.of_own hr, h.keep hb, hb⟩
theorem dAll {W w : World} {p mb n q : Nat} {M : Int → Option (Int × Int)} (h : Duo W p mb n q M M w) (hn : n ≤ 1000000) :
    Calls Tryd.prog 28 #[.pointer (some ⟨p, 0, none⟩)] w fun e w' => ∃ A c l, e = .returned (.slice A l.length c) ∧ NumsOf M l ∧ l = ofK M 0 256 ∧ Rd w' (.slice A l.length c) 1 l.length (l.map (Value.int .i64)) ∧ Duo W p mb n q M M w' ∧ Below w.heap.size w w' := by
  refine (mAll h.tab hn).mono ?_
  rintro e w' ⟨A, c, l, rfl, hk, hl, hr, ht, hb⟩
  have e1 := nums_ofK h.good hk 0
  rw [List.filter_eq_self.2 (fun x _ => by simp)] at e1
  exact ⟨A, c, l, rfl, hk, e1, hr, h.keep hb, hb⟩
theorem dOf {W w : World} {p mb n q : Nat} {M : Int → Option (Int × Int)} (h : Duo W p mb n q M M w) (hn : n ≤ 1000000) (h1 : (M 1).isSome = true) (f : Int) :
    Calls Tryd.prog 29 #[.pointer (some ⟨p, 0, none⟩), .int .i64 f] w fun e w' => ∃ A c u, e = .returned (.slice A u.length c) ∧ u = (if f = 0 then [] else ofK M f 256) ∧ Rd w' (.slice A u.length c) 1 u.length (u.map (Value.int .i64)) ∧ Duo W p mb n q M M w' ∧ Below w.heap.size w w' := by
  refine (mOf h.tab hn h1 f).mono ?_
  rintro e w' ⟨A, c, l, u, rfl, hk, hl, hu, hr, ht, hb⟩
  refine ⟨A, c, u, rfl, ?_, hr, h.keep hb, hb⟩
  by_cases hf : f = 0
  · subst hf
    rw [if_pos rfl, hu]
    refine List.filter_eq_nil_iff.2 fun x hx => ?_
    have := ((hk.2 x).1 hx).2
    simp only [Option.isSome_map] at this
    obtain ⟨y, hy⟩ := Option.isSome_iff_exists.1 this
    have hg := h.good x y hy
    unfold faceI
    rw [hy]
    obtain ⟨y0, y1⟩ := y
    simp at hg ⊢
    omega
  · rw [if_neg hf, hu]
    have e1 := nums_ofK h.good hk f
    rw [← e1]
    refine List.filter_congr fun x _ => ?_
    rw [decide_eq_false hf, Bool.false_or]
theorem dropIK_le (M : Int → Option (Int × Int)) (id : Int) : dropIK M id ≤ 16 := by unfold dropIK; split <;> omega
theorem addIK_le (M : Int → Option (Int × Int)) (id f v : Int) : addIK M id f v ≤ 16 := by unfold addIK; split <;> (try split) <;> omega
theorem wantIK_le (M : Int → Option (Int × Int)) (id f : Int) : wantIK M id f ≤ 16 := by unfold wantIK; split <;> (try split) <;> omega

set_option maxRecDepth 100000 in
set_option maxHeartbeats 4000000 in
theorem idsPlays_any (W : World) {ae : Nat → Addr} (hE : Errs W.heap.size W ae) (A : Option Addr) (c : Nat) (l : List Op06) (fc : Int) (hr : Rd W (.slice A l.length c) 4 l.length (l.flatMap Op06.enc)) (hg : ∀ o ∈ l, o.good) :
    Calls Tryd.prog 4 #[.slice A l.length c, .int .i64 fc] W fun e w' => e = .returned (.bool true) ∧ Below W.heap.size W w' := by
  have hN := hide (mNew W)
  have hE2 := hide hE.two
  replace hE := hide hE
  replace hg := hide hg
  obtain ⟨N, hN2⟩ : ∃ N, N = l.length := ⟨_, rfl⟩
  rw [← hN2] at hr ⊢
  replace hN2 := hide hN2
  replace hr := hide hr
  go_enter Tryd.func4, Tryd.ntmps4
  go_wp2_with fail
  refine (hN.out).mono ?_
  rintro e w1 ⟨p, mb, rfl, h1⟩
  go_wp2_with fail
  refine (rNew_any w1).mono ?_
  rintro e w2 ⟨rfl, h2, hb2⟩
  have h3 : Duo W p mb 1 w1.heap.size tab0 tab0 w2 := ⟨h1.keep hb2, h2, h1.below.size, by have := h1.tab.lt; omega, by have := h1.tab.lt; omega, GoodM.start⟩
  generalize w1.heap.size = q at h3
  clear h1 h2 hb2
  replace h3 := hide h3
  go_wp2
  go_loopw [7] (fun i wr => ∃ (j n : Nat) (M : Int → Option (Int × Int)), j ≤ N ∧ j ≤ 80 ∧ i = .int .i64 j ∧ n ≤ 1 + j ∧ Hid (Duo W p mb n q M M wr) ∧ Hid ((M 1).isSome = true))
    (fun i _ => 80 - (intOf i).toNat)
  case atStart => exact ⟨0, 1, tab0, Nat.zero_le _, Nat.zero_le _, rfl, Nat.le_refl _, h3, hide rfl⟩
  clear h3
  case round =>
    obtain ⟨j, n, M, hj, hj80, rfl, hn, h3, hM1⟩ := hrel
    obtain ⟨wA, hA⟩ : ∃ wA, wA = wr := ⟨_, rfl⟩
    subst hA
    by_cases hlt : j < N
    · by_cases hlt80 : j < 80
      · have hgo := Op06.good_at hg.out (k := j) (by rw [← hN2.out]; exact hlt)
        have hr2 := hr.out.below h3.out.tab.below (Nat.le_refl _)
        obtain ⟨b, off, rfl, hbl, hc0, hc1, hc2, hc3⟩ := Op06.cells hr2 hN2.out.symm hlt
        obtain ⟨o, ho⟩ : ∃ o, o = l.getD j default := ⟨_, rfl⟩
        rw [← ho] at hgo hc0 hc1 hc2 hc3
        obtain ⟨kd, id, fa, ve⟩ := o
        dsimp only at hc0 hc1 hc2 hc3
        obtain ⟨g0, g1, g2, g3⟩ := hgo
        dsimp only at g0 g1 g2 g3
        clear ho hr2
        have p1 := Int.emod_nonneg kd (show (4 : Int) ≠ 0 by decide)
        have p2 := Int.emod_lt_of_pos kd (show (0 : Int) < 4 by decide)
        have hP := fun w => place_any kd 4 w (by omega) (by omega)
        obtain ⟨y, hy⟩ : ∃ y, y = kd % 4 := ⟨_, rfl⟩
        rw [← hy] at p1 p2 hP
        replace hP := hide hP
        clear hy
        go_wp2_with fail
        have hT : Trio W p mb n q wA.heap.size ⟨kd, id, fa, ve⟩ M M (wA.alloc (.cells #[.int .i64 kd, .int .i64 id, .int .i64 fa, .int .i64 ve] 30)) :=
          ⟨h3.out.keep ((Below.refl _ _).alloc (Nat.le_refl _) _), ⟨by simp, by simp, by simp, by simp⟩, by have := h3.out.tab.tab.lt; have := h3.out.ref.lt; omega⟩
        generalize wA.alloc (.cells #[.int .i64 kd, .int .i64 id, .int .i64 fa, .int .i64 ve] 30) = wB at hT
        refine (hP.out wB).mono ?_
        rintro e w' ⟨rfl, rfl⟩
        generalize wA.heap.size = ob at hT
        clear hc0 hc1 hc2 hc3 h3
        have c0 := hT.op.c0
        have c1 := hT.op.c1
        have c2 := hT.op.c2
        have c3 := hT.op.c3
        dsimp only at c0 c1 c2 c3
        replace hT := hide hT
        have hc := hide hT.out.drew
        clear hT
        have hF := Tryd.rfFace
        have hV := Tryd.rfVersion
        have hk1 := dropIK_le M id
        have hk2 := addIK_le M id fa ve
        have hk3 := wantIK_le M id fa
        rcases (show y = 2 ∨ y = 3 ∨ (y ≠ 2 ∧ y ≠ 3) by omega) with rfl | rfl | ⟨y2, y3⟩
        · have hM3 := hide (keep1_drop M id hM1.out)
          go_wp2_with fail
          go_region_held3 (fun w' => w'.cell? ⟨ob, 1, none⟩ = some (.int .i64 id)) (go_keep)
            (first
              | (go_at_call 15; refine (bDrop hE2.out hc.out id g1).mono ?_; clear hc; rintro e w' ⟨rfl, hc⟩; have dc := hc.op.c1; have dc2 := hc.op.c2; have dc3 := hc.op.c3; dsimp only at dc dc2 dc3; replace hc := hide hc)
              | (go_at_call 21; refine (bKind hE.out hc.out (dropIK M id) hk1).mono ?_; clear hc; rintro e w' ⟨rfl, hc⟩; have dc := hc.op.c1; have dc2 := hc.op.c2; have dc3 := hc.op.c3; dsimp only at dc dc2 dc3; replace hc := hide hc)
              | (go_at_call 22; refine (bRDrop hc.out id).mono ?_; clear hc; rintro e w' ⟨rfl, hc⟩; have dc := hc.op.c1; have dc2 := hc.op.c2; have dc3 := hc.op.c3; dsimp only at dc dc2 dc3; replace hc := hide hc)
            )
          generalize dropIS M id = M3 at hM3 hc
          go_wp2_with fail
          have hc2 := hide hc.out.drew
          clear hc
          have hc := hc2
          clear hc2
          go_region_held3 (fun w' => w'.cell? ⟨ob, 1, none⟩ = some (.int .i64 id)) (go_keep)
            (first
              | (go_at_call 16; refine (bFace hc.out id g1).mono ?_; clear hc; rintro e w' ⟨rfl, hc⟩; have dc := hc.op.c1; have dc2 := hc.op.c2; have dc3 := hc.op.c3; dsimp only at dc dc2 dc3; replace hc := hide hc)
              | (go_at_call 25; refine (bRAt2 hc.out id).mono ?_; clear hc; rintro e w' ⟨rfl, hc⟩; have dc := hc.op.c1; have dc2 := hc.op.c2; have dc3 := hc.op.c3; dsimp only at dc dc2 dc3; replace hc := hide hc)
              | (go_at_call 17; refine (bVersion hc.out id g1).mono ?_; clear hc; rintro e w' ⟨rfl, hc⟩; have dc := hc.op.c1; have dc2 := hc.op.c2; have dc3 := hc.op.c3; dsimp only at dc dc2 dc3; replace hc := hide hc)
            )
          have hc2 := hide hc.out.duo
          go_wp2
          go_roundw
          case rel => exact ⟨j + 1, _, M3, by omega, by omega, by go_num, by omega, hc2, hM3⟩
          case measure => simp [intOf]; omega
        · have hM3 := hM1
          go_wp2_with fail
          go_region_held3 (fun w' => w'.cell? ⟨ob, 1, none⟩ = some (.int .i64 id) ∧ w'.cell? ⟨ob, 2, none⟩ = some (.int .i64 fa)) (go_keep)
            (first
              | (go_at_call 18; refine (bWant hE2.out hc.out id fa g1).mono ?_; clear hc; rintro e w' ⟨rfl, hc⟩; have dc := hc.op.c1; have dc2 := hc.op.c2; have dc3 := hc.op.c3; dsimp only at dc dc2 dc3; replace hc := hide hc)
              | (go_at_call 21; refine (bKind hE.out hc.out (wantIK M id fa) hk3).mono ?_; clear hc; rintro e w' ⟨rfl, hc⟩; have dc := hc.op.c1; have dc2 := hc.op.c2; have dc3 := hc.op.c3; dsimp only at dc dc2 dc3; replace hc := hide hc)
              | (go_at_call 23; refine (bRWant hc.out id fa).mono ?_; clear hc; rintro e w' ⟨rfl, hc⟩; have dc := hc.op.c1; have dc2 := hc.op.c2; have dc3 := hc.op.c3; dsimp only at dc dc2 dc3; replace hc := hide hc)
            )
          obtain ⟨M3, hMM⟩ : ∃ M3, M3 = M := ⟨_, rfl⟩
          rw [← hMM] at hc hM3
          go_wp2_with fail
          have hc2 := hide hc.out.drew
          clear hc
          have hc := hc2
          clear hc2
          go_region_held3 (fun w' => w'.cell? ⟨ob, 1, none⟩ = some (.int .i64 id)) (go_keep)
            (first
              | (go_at_call 16; refine (bFace hc.out id g1).mono ?_; clear hc; rintro e w' ⟨rfl, hc⟩; have dc := hc.op.c1; have dc2 := hc.op.c2; have dc3 := hc.op.c3; dsimp only at dc dc2 dc3; replace hc := hide hc)
              | (go_at_call 25; refine (bRAt2 hc.out id).mono ?_; clear hc; rintro e w' ⟨rfl, hc⟩; have dc := hc.op.c1; have dc2 := hc.op.c2; have dc3 := hc.op.c3; dsimp only at dc dc2 dc3; replace hc := hide hc)
              | (go_at_call 17; refine (bVersion hc.out id g1).mono ?_; clear hc; rintro e w' ⟨rfl, hc⟩; have dc := hc.op.c1; have dc2 := hc.op.c2; have dc3 := hc.op.c3; dsimp only at dc dc2 dc3; replace hc := hide hc)
            )
          have hc2 := hide hc.out.duo
          go_wp2
          go_roundw
          case rel => exact ⟨j + 1, _, M3, by omega, by omega, by go_num, by omega, hc2, hM3⟩
          case measure => simp [intOf]; omega
        · have hM3 := hide (keep1_add M id fa ve hM1.out)
          have y2' : (y == 2) = false := by simpa using y2
          have y3' : (y == 3) = false := by simpa using y3
          go_wp2_with fail
          go_region_held3 (fun w' => w'.cell? ⟨ob, 1, none⟩ = some (.int .i64 id) ∧ w'.cell? ⟨ob, 2, none⟩ = some (.int .i64 fa) ∧ w'.cell? ⟨ob, 3, none⟩ = some (.int .i64 ve)) (go_keep)
            (first
              | (go_at_call 14; refine (bAdd hE2.out hc.out id fa ve g1 (by omega)).mono ?_; clear hc; rintro e w' ⟨rfl, hc⟩; have dc := hc.op.c1; have dc2 := hc.op.c2; have dc3 := hc.op.c3; dsimp only at dc dc2 dc3; replace hc := hide hc)
              | (go_at_call 21; refine (bKind hE.out hc.out (addIK M id fa ve) hk2).mono ?_; clear hc; rintro e w' ⟨rfl, hc⟩; have dc := hc.op.c1; have dc2 := hc.op.c2; have dc3 := hc.op.c3; dsimp only at dc dc2 dc3; replace hc := hide hc)
              | (go_at_call 24; refine (bRAdd hc.out id fa ve).mono ?_; clear hc; rintro e w' ⟨rfl, hc⟩; have dc := hc.op.c1; have dc2 := hc.op.c2; have dc3 := hc.op.c3; dsimp only at dc dc2 dc3; replace hc := hide hc)
            )
          generalize addIS M id fa ve = M3 at hM3 hc
          go_wp2_with fail
          have hc2 := hide hc.out.drew
          clear hc
          have hc := hc2
          clear hc2
          go_region_held3 (fun w' => w'.cell? ⟨ob, 1, none⟩ = some (.int .i64 id)) (go_keep)
            (first
              | (go_at_call 16; refine (bFace hc.out id g1).mono ?_; clear hc; rintro e w' ⟨rfl, hc⟩; have dc := hc.op.c1; have dc2 := hc.op.c2; have dc3 := hc.op.c3; dsimp only at dc dc2 dc3; replace hc := hide hc)
              | (go_at_call 25; refine (bRAt2 hc.out id).mono ?_; clear hc; rintro e w' ⟨rfl, hc⟩; have dc := hc.op.c1; have dc2 := hc.op.c2; have dc3 := hc.op.c3; dsimp only at dc dc2 dc3; replace hc := hide hc)
              | (go_at_call 17; refine (bVersion hc.out id g1).mono ?_; clear hc; rintro e w' ⟨rfl, hc⟩; have dc := hc.op.c1; have dc2 := hc.op.c2; have dc3 := hc.op.c3; dsimp only at dc dc2 dc3; replace hc := hide hc)
            )
          have hc2 := hide hc.out.duo
          go_wp2
          go_roundw
          case rel => exact ⟨j + 1, _, M3, by omega, by omega, by go_num, by omega, hc2, hM3⟩
          case measure => simp [intOf]; omega
      · have hx : 80 ≤ (j : Int) := by omega
        clear hlt80
        have c1 := hide (dROf h3.out fc)
        clear h3
        go_wp2_with fail
        refine (c1.out).mono ?_
        rintro e w3 ⟨A1, n1, rfl, r1, h3, b3⟩
        replace r1 := hide r1
        by_cases hf : fc = 0
        · have hfb : (fc == 0) = true := by simpa using hf
          obtain ⟨us, hu⟩ : ∃ us, us = (if fc = 0 then [] else ofK M fc 256) := ⟨_, rfl⟩
          have hu0 : us = [] := by rw [hu, if_pos hf]
          have r1 : Hid (Rd w3 (.slice none 0 0) 1 us.length (us.map (Value.int .i64))) := by rw [hu0]; exact Rd.nil _ _
          replace hu := hide hu
          clear hf hu0
          have c2 := hide (dAll h3 (by omega))
          clear h3
          go_wp2_with fail
          refine (c2.out).mono ?_
          rintro e w4 ⟨A2, n2, l2, rfl, _, hl2, r2, h4, b4⟩
          replace r1 := hide (r1.out.below b4 (Nat.le_refl _))
          have c3 := dROf h4 0
          rw [← hl2] at c3
          have hll : l2.length ≤ 1000000 := by rw [hl2]; exact Nat.le_trans (ofK_len _ _ _) (by decide)
          replace c3 := hide c3
          replace hl2 := hide hl2
          replace r2 := hide r2
          clear h4
          go_wp2_with fail
          refine (c3.out).mono ?_
          rintro e w5 ⟨A3, n3, rfl, r3, h5, b5⟩
          replace r1 := hide (r1.out.below b5 (Nat.le_refl _))
          have c4 := hide (sameInts_true w5 _ _ l2 (r2.out.below b5 (Nat.le_refl _)) r3 (by omega))
          replace h5 := hide h5
          clear r2 r3
          go_wp2_with fail
          refine (c4.out).mono ?_
          rintro e w6 ⟨rfl, q6, rfl⟩
          have b6 : Below w5.heap.size w5 (w5.drewN q6) := below_drewN (Below.refl _ _) q6
          have h6 := h5.out.keep b6
          replace r1 := hide (r1.out.below b6 (Nat.le_refl _))
          generalize w5.drewN q6 = w6 at b6 h6 r1
          have c5 := hide (dOf h6 (by omega) hM1.out fc)
          clear h5 h6
          go_wp2_with fail
          refine (c5.out).mono ?_
          rintro e w7 ⟨A4, n4, us4, rfl, hu4, r4, h7, b7⟩
          have hu5 : us4 = us := hu4.trans hu.out.symm
          subst hu5
          have hul : us4.length ≤ 1000000 := by
            rw [hu.out]
            split
            · decide
            · exact Nat.le_trans (ofK_len _ _ _) (by decide)
          have c6 := hide (sameInts_true w7 _ _ us4 r4 (r1.out.below b7 (Nat.le_refl _)) (by omega))
          clear r1 r4 hu hu4
          replace h7 := hide h7
          go_wp2_with fail
          refine (c6.out).mono ?_
          rintro e w8 ⟨rfl, q8, rfl⟩
          have b8 : Below w7.heap.size w7 (w7.drewN q8) := below_drewN (Below.refl _ _) q8
          have h8 := h7.out.keep b8
          generalize w7.drewN q8 = w8 at b8 h8
          have hbd := hide h8.tab.below
          have ca := hide (awake06_any w8 ((hE2.out.below h8.tab.below).wider h8.tab.below.size))
          clear h7 h8
          go_wp2_with fail
          refine (ca.out).mono ?_
          rintro e w9 ⟨rfl, hb9⟩
          go_wp2
          go_ret
          exact ⟨rfl, hbd.out.trans (hb9.mono hbd.out.size)⟩
        · have hfb : (fc == 0) = false := by simpa using hf
          obtain ⟨us, hu⟩ : ∃ us, us = (if fc = 0 then [] else ofK M fc 256) := ⟨_, rfl⟩
          have hu0 : ofK M fc 256 = us := by rw [hu, if_neg hf]
          rw [hu0] at r1
          rw [hu0]
          replace hu := hide hu
          clear hf hu0
          have c2 := hide (dAll h3 (by omega))
          clear h3
          go_wp2_with fail
          refine (c2.out).mono ?_
          rintro e w4 ⟨A2, n2, l2, rfl, _, hl2, r2, h4, b4⟩
          replace r1 := hide (r1.out.below b4 (Nat.le_refl _))
          have c3 := dROf h4 0
          rw [← hl2] at c3
          have hll : l2.length ≤ 1000000 := by rw [hl2]; exact Nat.le_trans (ofK_len _ _ _) (by decide)
          replace c3 := hide c3
          replace hl2 := hide hl2
          replace r2 := hide r2
          clear h4
          go_wp2_with fail
          refine (c3.out).mono ?_
          rintro e w5 ⟨A3, n3, rfl, r3, h5, b5⟩
          replace r1 := hide (r1.out.below b5 (Nat.le_refl _))
          have c4 := hide (sameInts_true w5 _ _ l2 (r2.out.below b5 (Nat.le_refl _)) r3 (by omega))
          replace h5 := hide h5
          clear r2 r3
          go_wp2_with fail
          refine (c4.out).mono ?_
          rintro e w6 ⟨rfl, q6, rfl⟩
          have b6 : Below w5.heap.size w5 (w5.drewN q6) := below_drewN (Below.refl _ _) q6
          have h6 := h5.out.keep b6
          replace r1 := hide (r1.out.below b6 (Nat.le_refl _))
          generalize w5.drewN q6 = w6 at b6 h6 r1
          have c5 := hide (dOf h6 (by omega) hM1.out fc)
          clear h5 h6
          go_wp2_with fail
          refine (c5.out).mono ?_
          rintro e w7 ⟨A4, n4, us4, rfl, hu4, r4, h7, b7⟩
          have hu5 : us4 = us := hu4.trans hu.out.symm
          subst hu5
          have hul : us4.length ≤ 1000000 := by
            rw [hu.out]
            split
            · decide
            · exact Nat.le_trans (ofK_len _ _ _) (by decide)
          have c6 := hide (sameInts_true w7 _ _ us4 r4 (r1.out.below b7 (Nat.le_refl _)) (by omega))
          clear r1 r4 hu hu4
          replace h7 := hide h7
          go_wp2_with fail
          refine (c6.out).mono ?_
          rintro e w8 ⟨rfl, q8, rfl⟩
          have b8 : Below w7.heap.size w7 (w7.drewN q8) := below_drewN (Below.refl _ _) q8
          have h8 := h7.out.keep b8
          generalize w7.drewN q8 = w8 at b8 h8
          have hbd := hide h8.tab.below
          have ca := hide (awake06_any w8 ((hE2.out.below h8.tab.below).wider h8.tab.below.size))
          clear h7 h8
          go_wp2_with fail
          refine (ca.out).mono ?_
          rintro e w9 ⟨rfl, hb9⟩
          go_wp2
          go_ret
          exact ⟨rfl, hbd.out.trans (hb9.mono hbd.out.size)⟩
    · have hx : (N : Int) ≤ j := by omega
      clear hlt
      have c1 := hide (dROf h3.out fc)
      clear h3
      go_wp2_with fail
      refine (c1.out).mono ?_
      rintro e w3 ⟨A1, n1, rfl, r1, h3, b3⟩
      replace r1 := hide r1
      by_cases hf : fc = 0
      · have hfb : (fc == 0) = true := by simpa using hf
        obtain ⟨us, hu⟩ : ∃ us, us = (if fc = 0 then [] else ofK M fc 256) := ⟨_, rfl⟩
        have hu0 : us = [] := by rw [hu, if_pos hf]
        have r1 : Hid (Rd w3 (.slice none 0 0) 1 us.length (us.map (Value.int .i64))) := by rw [hu0]; exact Rd.nil _ _
        replace hu := hide hu
        clear hf hu0
        have c2 := hide (dAll h3 (by omega))
        clear h3
        go_wp2_with fail
        refine (c2.out).mono ?_
        rintro e w4 ⟨A2, n2, l2, rfl, _, hl2, r2, h4, b4⟩
        replace r1 := hide (r1.out.below b4 (Nat.le_refl _))
        have c3 := dROf h4 0
        rw [← hl2] at c3
        have hll : l2.length ≤ 1000000 := by rw [hl2]; exact Nat.le_trans (ofK_len _ _ _) (by decide)
        replace c3 := hide c3
        replace hl2 := hide hl2
        replace r2 := hide r2
        clear h4
        go_wp2_with fail
        refine (c3.out).mono ?_
        rintro e w5 ⟨A3, n3, rfl, r3, h5, b5⟩
        replace r1 := hide (r1.out.below b5 (Nat.le_refl _))
        have c4 := hide (sameInts_true w5 _ _ l2 (r2.out.below b5 (Nat.le_refl _)) r3 (by omega))
        replace h5 := hide h5
        clear r2 r3
        go_wp2_with fail
        refine (c4.out).mono ?_
        rintro e w6 ⟨rfl, q6, rfl⟩
        have b6 : Below w5.heap.size w5 (w5.drewN q6) := below_drewN (Below.refl _ _) q6
        have h6 := h5.out.keep b6
        replace r1 := hide (r1.out.below b6 (Nat.le_refl _))
        generalize w5.drewN q6 = w6 at b6 h6 r1
        have c5 := hide (dOf h6 (by omega) hM1.out fc)
        clear h5 h6
        go_wp2_with fail
        refine (c5.out).mono ?_
        rintro e w7 ⟨A4, n4, us4, rfl, hu4, r4, h7, b7⟩
        have hu5 : us4 = us := hu4.trans hu.out.symm
        subst hu5
        have hul : us4.length ≤ 1000000 := by
          rw [hu.out]
          split
          · decide
          · exact Nat.le_trans (ofK_len _ _ _) (by decide)
        have c6 := hide (sameInts_true w7 _ _ us4 r4 (r1.out.below b7 (Nat.le_refl _)) (by omega))
        clear r1 r4 hu hu4
        replace h7 := hide h7
        go_wp2_with fail
        refine (c6.out).mono ?_
        rintro e w8 ⟨rfl, q8, rfl⟩
        have b8 : Below w7.heap.size w7 (w7.drewN q8) := below_drewN (Below.refl _ _) q8
        have h8 := h7.out.keep b8
        generalize w7.drewN q8 = w8 at b8 h8
        have hbd := hide h8.tab.below
        have ca := hide (awake06_any w8 ((hE2.out.below h8.tab.below).wider h8.tab.below.size))
        clear h7 h8
        go_wp2_with fail
        refine (ca.out).mono ?_
        rintro e w9 ⟨rfl, hb9⟩
        go_wp2
        go_ret
        exact ⟨rfl, hbd.out.trans (hb9.mono hbd.out.size)⟩
      · have hfb : (fc == 0) = false := by simpa using hf
        obtain ⟨us, hu⟩ : ∃ us, us = (if fc = 0 then [] else ofK M fc 256) := ⟨_, rfl⟩
        have hu0 : ofK M fc 256 = us := by rw [hu, if_neg hf]
        rw [hu0] at r1
        rw [hu0]
        replace hu := hide hu
        clear hf hu0
        have c2 := hide (dAll h3 (by omega))
        clear h3
        go_wp2_with fail
        refine (c2.out).mono ?_
        rintro e w4 ⟨A2, n2, l2, rfl, _, hl2, r2, h4, b4⟩
        replace r1 := hide (r1.out.below b4 (Nat.le_refl _))
        have c3 := dROf h4 0
        rw [← hl2] at c3
        have hll : l2.length ≤ 1000000 := by rw [hl2]; exact Nat.le_trans (ofK_len _ _ _) (by decide)
        replace c3 := hide c3
        replace hl2 := hide hl2
        replace r2 := hide r2
        clear h4
        go_wp2_with fail
        refine (c3.out).mono ?_
        rintro e w5 ⟨A3, n3, rfl, r3, h5, b5⟩
        replace r1 := hide (r1.out.below b5 (Nat.le_refl _))
        have c4 := hide (sameInts_true w5 _ _ l2 (r2.out.below b5 (Nat.le_refl _)) r3 (by omega))
        replace h5 := hide h5
        clear r2 r3
        go_wp2_with fail
        refine (c4.out).mono ?_
        rintro e w6 ⟨rfl, q6, rfl⟩
        have b6 : Below w5.heap.size w5 (w5.drewN q6) := below_drewN (Below.refl _ _) q6
        have h6 := h5.out.keep b6
        replace r1 := hide (r1.out.below b6 (Nat.le_refl _))
        generalize w5.drewN q6 = w6 at b6 h6 r1
        have c5 := hide (dOf h6 (by omega) hM1.out fc)
        clear h5 h6
        go_wp2_with fail
        refine (c5.out).mono ?_
        rintro e w7 ⟨A4, n4, us4, rfl, hu4, r4, h7, b7⟩
        have hu5 : us4 = us := hu4.trans hu.out.symm
        subst hu5
        have hul : us4.length ≤ 1000000 := by
          rw [hu.out]
          split
          · decide
          · exact Nat.le_trans (ofK_len _ _ _) (by decide)
        have c6 := hide (sameInts_true w7 _ _ us4 r4 (r1.out.below b7 (Nat.le_refl _)) (by omega))
        clear r1 r4 hu hu4
        replace h7 := hide h7
        go_wp2_with fail
        refine (c6.out).mono ?_
        rintro e w8 ⟨rfl, q8, rfl⟩
        have b8 : Below w7.heap.size w7 (w7.drewN q8) := below_drewN (Below.refl _ _) q8
        have h8 := h7.out.keep b8
        generalize w7.drewN q8 = w8 at b8 h8
        have hbd := hide h8.tab.below
        have ca := hide (awake06_any w8 ((hE2.out.below h8.tab.below).wider h8.tab.below.size))
        clear h7 h8
        go_wp2_with fail
        refine (ca.out).mono ?_
        rintro e w9 ⟨rfl, hb9⟩
        go_wp2
        go_ret
        exact ⟨rfl, hbd.out.trans (hb9.mono hbd.out.size)⟩
end Go.Proofs.YtjhfcnkmfbpjmaaDoor
