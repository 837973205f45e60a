/-
  The law ForestUnseen, as a walk.
-/
import Derived.Test.YthkjicnnepkghaaGreatDoorPkV
import Derived.Deep.RegionHeld3
namespace Go.Proofs.YthkjicnnepkghaaGreatDoor
open Go.RowKit
set_option linter.unusedVariables false

def ToldF (S : List Ch) (H : List Int) (T : St) (vs vh : Value) (vn : StV) (bn : Nat) (w : World) : Prop :=
  Rd w vs 3 S.length (S.flatMap Ch.enc) ∧ Rd w vh 1 H.length (H.map (Value.int .i64)) ∧ StRd w vn T ∧ w.heap[bn]? = some (.cells #[.bool T.attach, .int .i64 T.buffer, vn.d, vn.f, .bool T.input, .bool T.all, vn.r, .bool T.ordered, vn.o, vn.p] 41 (0, 0))
def ToldK (vs vh : Value) (k : Nat) (vn : StV) (bn : Nat) : Nat → Prop := fun b => b = bn ∨ vs.ownBlock = some b ∨ (0 < k ∧ vh.ownBlock = some b) ∨ vn.d.ownBlock = some b ∨ vn.f.ownBlock = some b ∨ vn.r.ownBlock = some b ∨ vn.o.ownBlock = some b ∨ vn.p.ownBlock = some b
theorem told_kept (S : List Ch) (H : List Int) (T : St) (vs vh : Value) (vn : StV) (bn : Nat) : KeptBy (ToldK vs vh H.length vn bn) (ToldF S H T vs vh vn bn) := fun w w' hz hk ⟨h1, h2, h3, h4⟩ =>
  ⟨h1.keepIn (G := ToldK vs vh H.length vn bn) (fun _ b hb => .inr (.inl hb)) hz hk, h2.keepIn (G := ToldK vs vh H.length vn bn) (fun hn b hb => .inr (.inr (.inl ⟨hn, hb⟩))) hz hk,
    h3.keep (G := ToldK vs vh H.length vn bn) ⟨fun _ b hb => .inr (.inr (.inr (.inl hb))), fun _ b hb => .inr (.inr (.inr (.inr (.inl hb)))), fun _ b hb => .inr (.inr (.inr (.inr (.inr (.inl hb))))), fun _ b hb => .inr (.inr (.inr (.inr (.inr (.inr (.inl hb)))))), fun _ b hb => .inr (.inr (.inr (.inr (.inr (.inr (.inr hb))))))⟩ hz hk,
    (hk bn (.inl rfl) (lt_of_block h4)).trans h4⟩
theorem tell_fit {M : Fo} {B : Nat} (h : FitM B M) (id : Int) : (tellM M id fun t => t.cu).damage.length ≤ B ∧ (tellM M id fun t => t.cu).frames.length ≤ B ∧ (tellM M id fun t => t.cu).region.length ≤ B ∧ (tellM M id fun t => t.cu).order.length ≤ B ∧ (tellM M id fun t => t.cu).places.length ≤ B := by
  cases hs : M id with
  | none => simp [tellM, hs, St.zero]
  | some s =>
    obtain ⟨h1, h2, h3, ⟨h4, h5, h6⟩, h7, h8, h9⟩ := h id s hs
    simp only [tellM, hs]
    refine ⟨by omega, by omega, by omega, by omega, by omega⟩
theorem cells10u {w : World} {b : Nat} {t : TypeId} {x0 x1 x2 x3 x4 x5 x6 x7 x8 x9 : Value} (h : w.heap[b]? = some (.cells #[x0, x1, x2, x3, x4, x5, x6, x7, x8, x9] t (0, 0))) :
    w.cell? ⟨b, 0, none⟩ = some x0 ∧ w.cell? ⟨b, 1, none⟩ = some x1 ∧ w.cell? ⟨b, 2, none⟩ = some x2 ∧ w.cell? ⟨b, 3, none⟩ = some x3 ∧ w.cell? ⟨b, 4, none⟩ = some x4 ∧ w.cell? ⟨b, 5, none⟩ = some x5 ∧ w.cell? ⟨b, 6, none⟩ = some x6 ∧ w.cell? ⟨b, 7, none⟩ = some x7 ∧ w.cell? ⟨b, 8, none⟩ = some x8 ∧ w.cell? ⟨b, 9, none⟩ = some x9 :=
  ⟨cell_of_row w b 0 _ _ _ h, cell_of_row w b 1 _ _ _ h, cell_of_row w b 2 _ _ _ h, cell_of_row w b 3 _ _ _ h, cell_of_row w b 4 _ _ _ h, cell_of_row w b 5 _ _ _ h, cell_of_row w b 6 _ _ _ h, cell_of_row w b 7 _ _ _ h, cell_of_row w b 8 _ _ _ h, cell_of_row w b 9 _ _ _ h⟩

set_option maxRecDepth 100000 in
set_option maxHeartbeats 8000000 in
theorem forestUnseen_any (W : World) {ae : Nat → Addr} (hE : Errs W.heap.size W ae) (A : Option Addr) (c : Nat) (l : List OpR) (hr : Rd W (.slice A l.length c) 9 l.length (l.flatMap OpR.enc)) (hg : ∀ x ∈ l, x.good W)
    (A2 : Option Addr) (c2 : Nat) (l2 : List OpR) (hr2 : Rd W (.slice A2 l2.length c2) 9 l2.length (l2.flatMap OpR.enc)) (hg2 : ∀ x ∈ l2, x.good W) (id : Int) (hid : I64 id) :
    Calls Tryz.prog 3 #[.slice A l.length c, .slice A2 l2.length c2, .int .i64 id] W fun e w' => e = .returned (.bool true) ∧ Below W.heap.size W w' := by
  have cN := hide (mNew W)
  obtain ⟨n1, hn1⟩ : ∃ n1, n1 = l.length := ⟨_, rfl⟩
  obtain ⟨n2, hn2⟩ : ∃ n2, n2 = l2.length := ⟨_, rfl⟩
  rw [← hn1] at hr ⊢
  rw [← hn2] at hr2 ⊢
  replace hn1 := hide hn1
  replace hn2 := hide hn2
  replace hr := hide hr
  replace hr2 := hide hr2
  replace hg := hide hg
  replace hg2 := hide hg2
  replace hE := hide hE
  go_enter Tryz.func3, Tryz.ntmps3
  go_wp2_with fail
  refine cN.out.mono ?_
  rintro e w1 ⟨p, rfl, h1⟩
  have hJ := JS.start h1 (B := 20) (by omega)
  clear h1 cN
  obtain ⟨w2, hw2⟩ : ∃ w2, w2 = w1.alloc (.cells #[.slice none 0 0] 28) := ⟨_, rfl⟩
  obtain ⟨q, hq⟩ : ∃ q, q = w1.heap.size := ⟨_, rfl⟩
  rw [← hw2, ← hq] at hJ
  replace hJ := hide hJ
  replace hw2 := hide hw2
  replace hq := hide hq
  go_wp2_with fail
  rw [← hq.out, ← hw2.out]
  go_loopw [9] (fun i wr => ∃ (j N cn B : Nat) (M : Fo), j ≤ n1 ∧ j ≤ 50 ∧ i = .int .i64 j ∧ N ≤ j ∧ cn ≤ j ∧ B = 20 + 2 * j ∧ Hid (JS W p q N cn B cn M M wr) ∧ Hid (NodM M)) (fun i _ => 50 - (intOf i).toNat)
  case atStart => exact ⟨0, 0, 0, 20, _, Nat.zero_le _, Nat.zero_le _, rfl, Nat.le_refl _, Nat.le_refl _, rfl, hJ, hide NodM.empty⟩
  clear hJ
  case round =>
    obtain ⟨j, N, cn, B, M, hj, hj50, rfl, hN, hcn, hB, hJ, hNd⟩ := hrel
    obtain ⟨wA, hA⟩ : ∃ wA, wA = wr := ⟨_, rfl⟩
    subst hA
    by_cases hlt : j < n1
    · by_cases hlt50 : j < 50
      · have hel := hr.out.below hJ.out.below (Nat.le_refl _)
        obtain ⟨be, off, rfl, hbe, hce⟩ := OpR.cells hel hn1.out.symm hlt
        have hgo := OpR.good_at hg.out (k := j) (by rw [← hn1.out]; exact hlt)
        obtain ⟨x, hx⟩ : ∃ x, x = l.getD j default := ⟨_, rfl⟩
        rw [← hx] at hce hgo
        obtain ⟨⟨kd, oid, oa, ob, ⟨rx, ry, rw', rh⟩, xl⟩, xA, xc⟩ := x
        obtain ⟨⟨g0, g1, g2, g3⟩, hxl⟩ := hgo
        dsimp only at g0 g1 g2 g3
        have q0 := hce 0 _ rfl
        have q1 := hce 1 _ rfl
        have q2 := hce 2 _ rfl
        have q3 := hce 3 _ rfl
        have q4 := hce 4 _ rfl
        have q5 := hce 5 _ rfl
        have q6 := hce 6 _ rfl
        have q7 := hce 7 _ rfl
        have q8 := hce 8 _ rfl
        change Rd W (.slice xA xl.length xc) 4 xl.length (xl.flatMap R4.enc) at hxl
        change wA.cell? ⟨be, off + j * 9 + 0, none⟩ = some (.int .i64 kd) at q0
        change wA.cell? ⟨be, off + j * 9 + 1, none⟩ = some (.int .i64 oid) at q1
        change wA.cell? ⟨be, off + j * 9 + 2, none⟩ = some (.int .i64 oa) at q2
        change wA.cell? ⟨be, off + j * 9 + 3, none⟩ = some (.int .i64 ob) at q3
        change wA.cell? ⟨be, off + j * 9 + 4, none⟩ = some (.int .i64 rx) at q4
        change wA.cell? ⟨be, off + j * 9 + 5, none⟩ = some (.int .i64 ry) at q5
        change wA.cell? ⟨be, off + j * 9 + 6, none⟩ = some (.int .i64 rw') at q6
        change wA.cell? ⟨be, off + j * 9 + 7, none⟩ = some (.int .i64 rh) at q7
        change wA.cell? ⟨be, off + j * 9 + 8, none⟩ = some (.slice xA xl.length xc) at q8
        rw [Nat.add_zero] at q0
        replace hxl := hide hxl
        clear hce hel hx
        by_cases h20 : 20 < xl.length
        · have z20 : decide ((20 : Int) < (xl.length : Int)) = true := decide_eq_true (by omega)
          have ca := hide (awake17_any wA ((hE.out.five.below hJ.out.below).wider hJ.out.below.size))
          have hbd := hide hJ.out.below
          go_wp2_with (go_at_call 10; refine ca.out.mono ?_; rintro e w9 ⟨rfl, hb9⟩)
          go_ret
          exact ⟨rfl, hbd.out.trans (hb9.mono hbd.out.size)⟩
        · have z20 : decide ((20 : Int) < (xl.length : Int)) = false := by simp; omega
          have cS := hide (step17_any hE.out hJ.out hNd.out ⟨by omega, by omega, by omega, by omega⟩ ⟨kd, oid, oa, ob, ⟨rx, ry, rw', rh⟩, xl⟩ xA xc ⟨g0, g1, g2, g3⟩ hxl.out (by show xl.length ≤ 20; omega))
          go_wp2_with (go_at_call 9; refine cS.out.mono ?_; rintro e w5 ⟨rfl, M5, c5, hJ5, hN5, hc5⟩; replace hJ5 := hide hJ5; replace hN5 := hide hN5)
          go_roundw
          case rel => exact ⟨j + 1, N + 1, c5, B + 2, M5, by omega, by omega, by go_num, by omega, by omega, by omega, hJ5, hN5⟩
          case measure => simp [intOf]; omega
      · obtain rfl : j = 50 := by omega
        clear hlt50
        obtain ⟨F, G, v, L, hJX⟩ := hJ.out
        have hX := hJX.fx
        obtain ⟨rk, Bk, hrk⟩ := hX.good.rank
        have hSl : (walkT M (Bk + 1) id).length ≤ cn := walk_len hX.good hNd.out hX.cnt (Bk + 1) id
        obtain ⟨S, hS⟩ : ∃ S, walkT M (Bk + 1) id = S := ⟨_, rfl⟩
        obtain ⟨t1, t2, t3, t4, t5⟩ := tell_fit hX.fit id
        obtain ⟨T, hT⟩ : ∃ T, (tellM M id fun t => t.cu) = T := ⟨_, rfl⟩
        rw [hS] at hSl
        rw [hT] at t1 t2 t3 t4 t5
        have U0 : UX W p N cn B M (fun _ => False) (fun _ => True) wA := hX.told _ _ trivial (fun _ _ _ _ _ => trivial) (fun b hb => hb.elim)
        have cW := hide (uWalk U0 id hid (by omega) hrk hS (by omega))
        have hbd0 := hide hJ.out.below
        replace U0 := hide U0
        replace hX := hide hX
        replace hrk := hide hrk
        replace hS := hide hS
        clear hJX
        go_upto_region 11 with (first | (go_at_call 11; refine cW.out.mono ?_; rintro e w3 ⟨A3, n3, rfl, r3, k3, b3⟩; have U3 := hide (U0.out.keep b3); replace r3 := hide r3; replace k3 := hide k3; replace b3 := hide b3) | (go_at_call 12; refine (uHeld U3.out (by omega)).mono ?_; rintro e w4 ⟨A4, n4, H, rfl, hH, hHl, r4, b4, k4⟩; replace k4 := hide k4; replace hH := hide hH; replace r4 := hide r4; replace b4 := hide b4))
        have U4 := U3.out.keep b4.out
        have cC := uNow U4 id hid (by omega)
        rw [hT] at cC
        unfold stVal at cC
        dsimp only at cC
        replace cC := hide cC
        replace hT := hide hT
        clear U4
        go_wp2_with (go_at_call 13; refine cC.out.mono ?_; rintro e w5 ⟨Ad, nd, Af, nf, Ar, nr, Ao, no, Ap, np, rfl, o5, b5⟩; replace o5 := hide o5; replace b5 := hide b5)
        obtain ⟨vn, hvn0⟩ : ∃ vn : StV, vn = ⟨.slice Ad T.damage.length nd, .slice Af T.frames.length nf, .slice Ar T.region.length nr, .slice Ao T.order.length no, .slice Ap T.places.length np⟩ := ⟨_, rfl⟩
        obtain ⟨vs, hvs⟩ : ∃ vs : Value, vs = .slice A3 S.length n3 := ⟨_, rfl⟩
        obtain ⟨vh, hvh⟩ : ∃ vh : Value, vh = .slice A4 H.length n4 := ⟨_, rfl⟩
        obtain ⟨w6, hw6⟩ : ∃ w6, w6 = w5.alloc (.cells #[.bool T.attach, .int .i64 T.buffer, .slice Ad T.damage.length nd, .slice Af T.frames.length nf, .bool T.input, .bool T.all, .slice Ar T.region.length nr, .bool T.ordered, .slice Ao T.order.length no, .slice Ap T.places.length np] 41) := ⟨_, rfl⟩
        obtain ⟨bn, hbn⟩ : ∃ bn, bn = w5.heap.size := ⟨_, rfl⟩
        have hbox := hide (fun (w : World) (h : w.heap[bn]? = some (.cells #[.bool T.attach, .int .i64 T.buffer, vn.d, vn.f, .bool T.input, .bool T.all, vn.r, .bool T.ordered, vn.o, vn.p] 41 (0, 0))) => (by rw [hvn0] at h; exact h : w.heap[bn]? = some (.cells #[.bool T.attach, .int .i64 T.buffer, .slice Ad T.damage.length nd, .slice Af T.frames.length nf, .bool T.input, .bool T.all, .slice Ar T.region.length nr, .bool T.ordered, .slice Ao T.order.length no, .slice Ap T.places.length np] 41 (0, 0))))
        have hvn := hide (fun (w : World) (h : StRd w vn T) => (by rw [hvn0] at h; exact h : StRd w ⟨.slice Ad T.damage.length nd, .slice Af T.frames.length nf, .slice Ar T.region.length nr, .slice Ao T.order.length no, .slice Ap T.places.length np⟩ T))
        have hU : UX W p N cn B M (ToldK vs vh H.length vn bn) (ToldF S H T vs vh vn bn) w6 := by
          have b6 : Below w5.heap.size w5 w6 := by rw [hw6]; exact (Below.refl _ _).alloc (Nat.le_refl _) _
          have c3 := b3.out
          have c4 := b4.out
          have c5 := b5.out
          have s3 := c3.size
          have s4 := c4.size
          have s5 := c5.size
          have s6 : w6.heap.size = w5.heap.size + 1 := by rw [hw6]; simp
          have B6 : Below wA.heap.size wA w6 := ((c3.trans (c4.mono s3)).trans (c5.mono (by omega))).trans (b6.mono (by omega))
          have oo := o5.out
          rw [← hvn0] at oo
          refine (hX.out.keep B6).told _ _ ⟨?_, ?_, oo.rd.below b6 (Nat.le_refl _), ?_⟩ (told_kept S H T vs vh vn bn) fun b hb => ?_
          · rw [hvs]; exact r3.out.below ((c4.trans (c5.mono s4)).trans (b6.mono (by omega))) (Nat.le_refl _)
          · rw [hvh]; exact r4.out.below (c5.trans (b6.mono s5)) (Nat.le_refl _)
          · rw [hw6, hbn, hvn0]; exact heap_alloc_new _ _
          · have hFl : F b → b < wA.heap.size := hX.out.lt b
            have key : wA.heap.size ≤ b ∧ b < w6.heap.size := by
              rcases hb with hb | hb | hb | hb | hb | hb | hb | hb
              · omega
              · rw [hvs] at hb; have := k3.out b hb; omega
              · obtain ⟨h0, hb⟩ := hb
                rw [hvh] at hb
                have h1 := k4.out b hb
                have h2 := r4.out.inSize h0 b hb
                omega
              · have := oo.d.lt b hb; omega
              · have := oo.f.lt b hb; omega
              · have := oo.r.lt b hb; omega
              · have := oo.o.lt b hb; omega
              · have := oo.p.lt b hb; omega
            exact ⟨key.2, fun hF => by have := hFl hF; omega⟩
        rw [← hbn, ← hw6]
        replace hU := hide hU
        replace hw6 := hide hw6
        replace hbn := hide hbn
        rw [← hvs, ← hvh]
        replace hvs := hide hvs
        replace hvh := hide hvh
        replace hvn0 := hide hvn0
        clear cC cW U3 U0 hX r3 k3 b3 r4 k4 b4 o5 b5 hJ
        go_loopw [13] (fun i wr => ∃ (m N' B' : Nat) (M' : Fo), m ≤ n2 ∧ m ≤ 30 ∧ i = .int .i64 m ∧ N' ≤ N + m ∧ B' ≤ B + m ∧ Hid (SameSeen M M') ∧ Hid (UX W p N' cn B' M' (ToldK vs vh H.length vn bn) (ToldF S H T vs vh vn bn) wr)) (fun i _ => 30 - (intOf i).toNat)
        case atStart => exact ⟨0, N, B, M, Nat.zero_le _, Nat.zero_le _, rfl, Nat.le_refl _, Nat.le_refl _, hide (.refl _), hU⟩
        clear hU
        case round =>
          obtain ⟨m, N', B', M', hm, hm30, rfl, hN', hB', hsee, hU⟩ := hrel
          obtain ⟨wB, hwB⟩ : ∃ wB, wB = wr := ⟨_, rfl⟩
          subst hwB
          by_cases hlt : m < n2
          · by_cases hlt30 : m < 30
            · have hel := hr2.out.below hU.out.below (Nat.le_refl _)
              obtain ⟨be, off, rfl, hbe, hce⟩ := OpR.cells hel hn2.out.symm hlt
              have hgo := OpR.good_at hg2.out (k := m) (by rw [← hn2.out]; exact hlt)
              obtain ⟨x, hx⟩ : ∃ x, x = l2.getD m default := ⟨_, rfl⟩
              rw [← hx] at hce hgo
              obtain ⟨⟨kd, oid, oa, ob, ⟨rx, ry, rw', rh⟩, xl⟩, xA, xc⟩ := x
              obtain ⟨⟨g0, g1, g2, g3⟩, hxl⟩ := hgo
              dsimp only at g0 g1 g2 g3
              have q0 := hce 0 _ rfl
              have q1 := hce 1 _ rfl
              have q2 := hce 2 _ rfl
              have q3 := hce 3 _ rfl
              have q4 := hce 4 _ rfl
              have q5 := hce 5 _ rfl
              have q6 := hce 6 _ rfl
              have q7 := hce 7 _ rfl
              have q8 := hce 8 _ rfl
              change Rd W (.slice xA xl.length xc) 4 xl.length (xl.flatMap R4.enc) at hxl
              change wB.cell? ⟨be, off + m * 9 + 0, none⟩ = some (.int .i64 kd) at q0
              change wB.cell? ⟨be, off + m * 9 + 1, none⟩ = some (.int .i64 oid) at q1
              change wB.cell? ⟨be, off + m * 9 + 2, none⟩ = some (.int .i64 oa) at q2
              change wB.cell? ⟨be, off + m * 9 + 3, none⟩ = some (.int .i64 ob) at q3
              change wB.cell? ⟨be, off + m * 9 + 4, none⟩ = some (.int .i64 rx) at q4
              change wB.cell? ⟨be, off + m * 9 + 5, none⟩ = some (.int .i64 ry) at q5
              change wB.cell? ⟨be, off + m * 9 + 6, none⟩ = some (.int .i64 rw') at q6
              change wB.cell? ⟨be, off + m * 9 + 7, none⟩ = some (.int .i64 rh) at q7
              change wB.cell? ⟨be, off + m * 9 + 8, none⟩ = some (.slice xA xl.length xc) at q8
              rw [Nat.add_zero] at q0
              replace hxl := hide hxl
              clear hce hel hx
              have hU1 := hide (fun o => hU.out.keep ((Below.refl _ wB).alloc (Nat.le_refl _) o))
              have p1 := Int.emod_nonneg kd (show (7 : Int) ≠ 0 by decide)
              have p2 := Int.emod_lt_of_pos kd (show (0 : Int) < 7 by decide)
              have hP := fun w => place_any kd 7 w (by omega) (by omega)
              obtain ⟨y, hy⟩ : ∃ y, y = kd % 7 := ⟨_, rfl⟩
              rw [← hy] at p1 p2 hP
              replace hP := hide hP
              clear hy
              rcases (show y = 0 ∨ y = 1 ∨ y = 2 ∨ y = 3 ∨ y = 4 ∨ y = 5 ∨ y = 6 by omega) with rfl | rfl | rfl | rfl | rfl | rfl | rfl
              · go_wp2_with (first | (go_at_call 14; refine (hP.out _).mono ?_; rintro e w' ⟨rfl, rfl⟩) | (go_at_call 15; refine (uAttach hE.out (hU1.out _) oid oa g1).mono ?_; rintro e w5 ⟨rfl, hU5⟩; replace hU5 := hide hU5))
                go_roundw
                case rel => exact ⟨m + 1, N' + 1, B' + 1, _, by omega, by omega, by go_num, by omega, by omega, hide (hsee.out.trans (SameSeen.turn _)), hide (hU5.out.mono (by omega) (by omega))⟩
                case measure => simp [intOf]; omega
              · go_wp2_with (first | (go_at_call 14; refine (hP.out _).mono ?_; rintro e w' ⟨rfl, rfl⟩) | (go_at_call 16; refine (uDamage hE.out (hU1.out _) oid ⟨rx, ry, rw', rh⟩ g1 (by omega)).mono ?_; rintro e w5 ⟨rfl, hU5⟩; replace hU5 := hide hU5))
                go_roundw
                case rel => exact ⟨m + 1, N' + 1, B' + 1, _, by omega, by omega, by go_num, by omega, by omega, hide (hsee.out.trans (SameSeen.turn _)), hide (hU5.out.mono (by omega) (by omega))⟩
                case measure => simp [intOf]; omega
              · go_wp2_with (first | (go_at_call 14; refine (hP.out _).mono ?_; rintro e w' ⟨rfl, rfl⟩) | (go_at_call 17; refine (uFrame hE.out (hU1.out _) oid oa g1 (by omega)).mono ?_; rintro e w5 ⟨rfl, hU5⟩; replace hU5 := hide hU5))
                go_roundw
                case rel => exact ⟨m + 1, N' + 1, B' + 1, _, by omega, by omega, by go_num, by omega, by omega, hide (hsee.out.trans (SameSeen.turn _)), hide (hU5.out.mono (by omega) (by omega))⟩
                case measure => simp [intOf]; omega
              · go_wp2_with (first | (go_at_call 14; refine (hP.out _).mono ?_; rintro e w' ⟨rfl, rfl⟩) | (go_at_call 18; refine (uPosition hE.out (hU1.out _) oid oa ob g1 (by omega)).mono ?_; rintro e w5 ⟨rfl, hU5⟩; replace hU5 := hide hU5))
                go_roundw
                case rel => exact ⟨m + 1, N' + 1, B' + 1, _, by omega, by omega, by go_num, by omega, by omega, hide (hsee.out.trans (SameSeen.pos _ _)), hide (hU5.out.mono (by omega) (by omega))⟩
                case measure => simp [intOf]; omega
              · go_wp2_with (first | (go_at_call 14; refine (hP.out _).mono ?_; rintro e w' ⟨rfl, rfl⟩) | (go_at_call 19; refine (uAbove hE.out (hU1.out _) oid oa g1 g2 (by omega)).mono ?_; rintro e w5 ⟨rfl, hU5⟩; replace hU5 := hide hU5))
                go_roundw
                case rel => exact ⟨m + 1, N' + 1, B' + 1, _, by omega, by omega, by go_num, by omega, by omega, hide (hsee.out.trans (SameSeen.bes _ _)), hide (hU5.out.mono (by omega) (by omega))⟩
                case measure => simp [intOf]; omega
              · go_wp2_with (first | (go_at_call 14; refine (hP.out _).mono ?_; rintro e w' ⟨rfl, rfl⟩) | (go_at_call 20; refine (uBelow hE.out (hU1.out _) oid oa g1 g2 (by omega)).mono ?_; rintro e w5 ⟨rfl, hU5⟩; replace hU5 := hide hU5))
                go_roundw
                case rel => exact ⟨m + 1, N' + 1, B' + 1, _, by omega, by omega, by go_num, by omega, by omega, hide (hsee.out.trans (SameSeen.bes _ _)), hide (hU5.out.mono (by omega) (by omega))⟩
                case measure => simp [intOf]; omega
              · go_wp2_with (first | (go_at_call 14; refine (hP.out _).mono ?_; rintro e w' ⟨rfl, rfl⟩) | (go_at_call 21; refine (uInput hE.out (hU1.out _) oid g1 (by omega)).mono ?_; rintro e w5 ⟨rfl, hU5⟩; replace hU5 := hide hU5))
                go_roundw
                case rel => exact ⟨m + 1, N' + 1, B' + 1, _, by omega, by omega, by go_num, by omega, by omega, hide (hsee.out.trans (SameSeen.turn _)), hide (hU5.out.mono (by omega) (by omega))⟩
                case measure => simp [intOf]; omega
            · obtain rfl : m = 30 := by omega
              clear hlt30
              have hS2 := hide ((hsee.out.walk (Bk + 1) id).trans hS.out)
              have hT2 := (hsee.out.tell id).trans hT.out
              have hH2 := hide (fun H' (h' : HeldL M' H') => (heldL_one h' (hsee.out.held hH.out) : H' = H))
              have hrk2 := hide (hsee.out.rk hrk.out)
              have cNow := fun w (hU : UX W p N' cn B' M' (ToldK vs vh H.length vn bn) (ToldF S H T vs vh vn bn) w) => uNow hU id hid (by omega)
              rw [hT2] at cNow
              unfold stVal at cNow
              dsimp only at cNow
              replace cNow := hide cNow
              clear hT2
              have hbd := hide hU.out.below
              have hz := hide (fun w (h : UX W p N' cn B' M' (ToldK vs vh H.length vn bn) (ToldF S H T vs vh vn bn) w) => (cells10u (hbox.out w h.phi.2.2.2)))
              obtain ⟨z0, z1, z2, z3, z4, z5, z6, z7, z8, z9⟩ := hz.out _ hU.out
              replace hU := hide (hU.out.keep (below_drewN (Below.refl _ wB) 1))
              go_wp2_with fail
              go_region_held3 (fun w' => w'.cell? ⟨bn, 0, none⟩ = some (.bool T.attach) ∧ w'.cell? ⟨bn, 1, none⟩ = some (.int .i64 T.buffer) ∧ w'.cell? ⟨bn, 2, none⟩ = some (.slice Ad T.damage.length nd) ∧ w'.cell? ⟨bn, 3, none⟩ = some (.slice Af T.frames.length nf) ∧ w'.cell? ⟨bn, 4, none⟩ = some (.bool T.input) ∧ w'.cell? ⟨bn, 5, none⟩ = some (.bool T.all) ∧ w'.cell? ⟨bn, 6, none⟩ = some (.slice Ar T.region.length nr) ∧ w'.cell? ⟨bn, 7, none⟩ = some (.bool T.ordered) ∧ w'.cell? ⟨bn, 8, none⟩ = some (.slice Ao T.order.length no) ∧ w'.cell? ⟨bn, 9, none⟩ = some (.slice Ap T.places.length np)) (go_keep)
                (first
                  | (go_at_call 11; refine (uWalk hU.out id hid (by omega) hrk2.out hS2.out (by omega)).mono ?_; rintro e w7 ⟨A7, n7, rfl, r7, _, b7⟩; replace hU := hide (hU.out.keep b7); obtain ⟨z0, z1, z2, z3, z4, z5, z6, z7, z8, z9⟩ := hz.out _ hU.out; replace r7 := hide r7; clear b7)
                  | (go_at_call 22; refine (sameCh_true w7 _ _ S r7.out hU.out.phi.1 (by omega)).mono ?_; rintro e w8 ⟨rfl, q8, rfl⟩; replace hU := hide (hU.out.keep (below_drewN (Below.refl _ w7) q8)); obtain ⟨z0, z1, z2, z3, z4, z5, z6, z7, z8, z9⟩ := hz.out _ hU.out)
                  | (go_at_call 12; refine (uHeld hU.out (by omega)).mono ?_; rintro e wH ⟨AH, nH, H', rfl, hh1, hh2, rH, bH, _⟩; obtain rfl := hH2.out H' hh1; replace hU := hide (hU.out.keep bH); obtain ⟨z0, z1, z2, z3, z4, z5, z6, z7, z8, z9⟩ := hz.out _ hU.out; replace rH := hide rH; clear bH hh1)
                  | (go_at_call 23; refine (sameInts_true wH _ _ _ rH.out hU.out.phi.2.1 (by omega)).mono ?_; rintro e wI ⟨rfl, qI, rfl⟩; replace hU := hide (hU.out.keep (below_drewN (Below.refl _ wH) qI)); obtain ⟨z0, z1, z2, z3, z4, z5, z6, z7, z8, z9⟩ := hz.out _ hU.out)
                  | (go_at_call 13; refine (cNow.out _ hU.out).mono ?_; rintro e wN ⟨B1, m1, B2, m2, B3, m3, B4, m4, B5, m5, rfl, oN, bN⟩; replace hU := hide (hU.out.keep bN); obtain ⟨z0, z1, z2, z3, z4, z5, z6, z7, z8, z9⟩ := hz.out _ hU.out; replace oN := hide oN.rd; clear bN)
                  | (go_at_call 24; refine (gSame_true wN _ _ T oN.out (hvn.out wN hU.out.phi.2.2.1) (by omega) (by omega) (by omega) (by omega) (by omega)).mono ?_; rintro e wS ⟨rfl, bS⟩; replace hU := hide (hU.out.keep bS); obtain ⟨z0, z1, z2, z3, z4, z5, z6, z7, z8, z9⟩ := hz.out _ hU.out; have ca := hide (awake17_any wS ((hE.out.five.below hU.out.below).wider hU.out.below.size)); clear bS)
                  | (go_at_call 10; refine ca.out.mono ?_; rintro e w9 ⟨rfl, hb9⟩; replace hbd := hide (hU.out.below.trans (hb9.mono hU.out.below.size)); replace hU := hide (hU.out.keep hb9); obtain ⟨z0, z1, z2, z3, z4, z5, z6, z7, z8, z9⟩ := hz.out _ hU.out))
              go_wp2
              go_ret
              exact ⟨rfl, hbd.out⟩
          · have hx2 : (n2 : Int) ≤ m := by omega
            clear hlt
            have hS2 := hide ((hsee.out.walk (Bk + 1) id).trans hS.out)
            have hT2 := (hsee.out.tell id).trans hT.out
            have hH2 := hide (fun H' (h' : HeldL M' H') => (heldL_one h' (hsee.out.held hH.out) : H' = H))
            have hrk2 := hide (hsee.out.rk hrk.out)
            have cNow := fun w (hU : UX W p N' cn B' M' (ToldK vs vh H.length vn bn) (ToldF S H T vs vh vn bn) w) => uNow hU id hid (by omega)
            rw [hT2] at cNow
            unfold stVal at cNow
            dsimp only at cNow
            replace cNow := hide cNow
            clear hT2
            have hbd := hide hU.out.below
            have hz := hide (fun w (h : UX W p N' cn B' M' (ToldK vs vh H.length vn bn) (ToldF S H T vs vh vn bn) w) => (cells10u (hbox.out w h.phi.2.2.2)))
            obtain ⟨z0, z1, z2, z3, z4, z5, z6, z7, z8, z9⟩ := hz.out _ hU.out
            replace hU := hide (hU.out.keep (below_drewN (Below.refl _ wB) 1))
            go_wp2_with fail
            go_region_held3 (fun w' => w'.cell? ⟨bn, 0, none⟩ = some (.bool T.attach) ∧ w'.cell? ⟨bn, 1, none⟩ = some (.int .i64 T.buffer) ∧ w'.cell? ⟨bn, 2, none⟩ = some (.slice Ad T.damage.length nd) ∧ w'.cell? ⟨bn, 3, none⟩ = some (.slice Af T.frames.length nf) ∧ w'.cell? ⟨bn, 4, none⟩ = some (.bool T.input) ∧ w'.cell? ⟨bn, 5, none⟩ = some (.bool T.all) ∧ w'.cell? ⟨bn, 6, none⟩ = some (.slice Ar T.region.length nr) ∧ w'.cell? ⟨bn, 7, none⟩ = some (.bool T.ordered) ∧ w'.cell? ⟨bn, 8, none⟩ = some (.slice Ao T.order.length no) ∧ w'.cell? ⟨bn, 9, none⟩ = some (.slice Ap T.places.length np)) (go_keep)
              (first
                | (go_at_call 11; refine (uWalk hU.out id hid (by omega) hrk2.out hS2.out (by omega)).mono ?_; rintro e w7 ⟨A7, n7, rfl, r7, _, b7⟩; replace hU := hide (hU.out.keep b7); obtain ⟨z0, z1, z2, z3, z4, z5, z6, z7, z8, z9⟩ := hz.out _ hU.out; replace r7 := hide r7; clear b7)
                | (go_at_call 22; refine (sameCh_true w7 _ _ S r7.out hU.out.phi.1 (by omega)).mono ?_; rintro e w8 ⟨rfl, q8, rfl⟩; replace hU := hide (hU.out.keep (below_drewN (Below.refl _ w7) q8)); obtain ⟨z0, z1, z2, z3, z4, z5, z6, z7, z8, z9⟩ := hz.out _ hU.out)
                | (go_at_call 12; refine (uHeld hU.out (by omega)).mono ?_; rintro e wH ⟨AH, nH, H', rfl, hh1, hh2, rH, bH, _⟩; obtain rfl := hH2.out H' hh1; replace hU := hide (hU.out.keep bH); obtain ⟨z0, z1, z2, z3, z4, z5, z6, z7, z8, z9⟩ := hz.out _ hU.out; replace rH := hide rH; clear bH hh1)
                | (go_at_call 23; refine (sameInts_true wH _ _ _ rH.out hU.out.phi.2.1 (by omega)).mono ?_; rintro e wI ⟨rfl, qI, rfl⟩; replace hU := hide (hU.out.keep (below_drewN (Below.refl _ wH) qI)); obtain ⟨z0, z1, z2, z3, z4, z5, z6, z7, z8, z9⟩ := hz.out _ hU.out)
                | (go_at_call 13; refine (cNow.out _ hU.out).mono ?_; rintro e wN ⟨B1, m1, B2, m2, B3, m3, B4, m4, B5, m5, rfl, oN, bN⟩; replace hU := hide (hU.out.keep bN); obtain ⟨z0, z1, z2, z3, z4, z5, z6, z7, z8, z9⟩ := hz.out _ hU.out; replace oN := hide oN.rd; clear bN)
                | (go_at_call 24; refine (gSame_true wN _ _ T oN.out (hvn.out wN hU.out.phi.2.2.1) (by omega) (by omega) (by omega) (by omega) (by omega)).mono ?_; rintro e wS ⟨rfl, bS⟩; replace hU := hide (hU.out.keep bS); obtain ⟨z0, z1, z2, z3, z4, z5, z6, z7, z8, z9⟩ := hz.out _ hU.out; have ca := hide (awake17_any wS ((hE.out.five.below hU.out.below).wider hU.out.below.size)); clear bS)
                | (go_at_call 10; refine ca.out.mono ?_; rintro e w9 ⟨rfl, hb9⟩; replace hbd := hide (hU.out.below.trans (hb9.mono hU.out.below.size)); replace hU := hide (hU.out.keep hb9); obtain ⟨z0, z1, z2, z3, z4, z5, z6, z7, z8, z9⟩ := hz.out _ hU.out))
            go_wp2
            go_ret
            exact ⟨rfl, hbd.out⟩
    · have hx : (n1 : Int) ≤ j := by omega
      clear hlt
      obtain ⟨F, G, v, L, hJX⟩ := hJ.out
      have hX := hJX.fx
      obtain ⟨rk, Bk, hrk⟩ := hX.good.rank
      have hSl : (walkT M (Bk + 1) id).length ≤ cn := walk_len hX.good hNd.out hX.cnt (Bk + 1) id
      obtain ⟨S, hS⟩ : ∃ S, walkT M (Bk + 1) id = S := ⟨_, rfl⟩
      obtain ⟨t1, t2, t3, t4, t5⟩ := tell_fit hX.fit id
      obtain ⟨T, hT⟩ : ∃ T, (tellM M id fun t => t.cu) = T := ⟨_, rfl⟩
      rw [hS] at hSl
      rw [hT] at t1 t2 t3 t4 t5
      have U0 : UX W p N cn B M (fun _ => False) (fun _ => True) wA := hX.told _ _ trivial (fun _ _ _ _ _ => trivial) (fun b hb => hb.elim)
      have cW := hide (uWalk U0 id hid (by omega) hrk hS (by omega))
      have hbd0 := hide hJ.out.below
      replace U0 := hide U0
      replace hX := hide hX
      replace hrk := hide hrk
      replace hS := hide hS
      clear hJX
      go_upto_region 11 with (first | (go_at_call 11; refine cW.out.mono ?_; rintro e w3 ⟨A3, n3, rfl, r3, k3, b3⟩; have U3 := hide (U0.out.keep b3); replace r3 := hide r3; replace k3 := hide k3; replace b3 := hide b3) | (go_at_call 12; refine (uHeld U3.out (by omega)).mono ?_; rintro e w4 ⟨A4, n4, H, rfl, hH, hHl, r4, b4, k4⟩; replace k4 := hide k4; replace hH := hide hH; replace r4 := hide r4; replace b4 := hide b4))
      have U4 := U3.out.keep b4.out
      have cC := uNow U4 id hid (by omega)
      rw [hT] at cC
      unfold stVal at cC
      dsimp only at cC
      replace cC := hide cC
      replace hT := hide hT
      clear U4
      go_wp2_with (go_at_call 13; refine cC.out.mono ?_; rintro e w5 ⟨Ad, nd, Af, nf, Ar, nr, Ao, no, Ap, np, rfl, o5, b5⟩; replace o5 := hide o5; replace b5 := hide b5)
      obtain ⟨vn, hvn0⟩ : ∃ vn : StV, vn = ⟨.slice Ad T.damage.length nd, .slice Af T.frames.length nf, .slice Ar T.region.length nr, .slice Ao T.order.length no, .slice Ap T.places.length np⟩ := ⟨_, rfl⟩
      obtain ⟨vs, hvs⟩ : ∃ vs : Value, vs = .slice A3 S.length n3 := ⟨_, rfl⟩
      obtain ⟨vh, hvh⟩ : ∃ vh : Value, vh = .slice A4 H.length n4 := ⟨_, rfl⟩
      obtain ⟨w6, hw6⟩ : ∃ w6, w6 = w5.alloc (.cells #[.bool T.attach, .int .i64 T.buffer, .slice Ad T.damage.length nd, .slice Af T.frames.length nf, .bool T.input, .bool T.all, .slice Ar T.region.length nr, .bool T.ordered, .slice Ao T.order.length no, .slice Ap T.places.length np] 41) := ⟨_, rfl⟩
      obtain ⟨bn, hbn⟩ : ∃ bn, bn = w5.heap.size := ⟨_, rfl⟩
      have hbox := hide (fun (w : World) (h : w.heap[bn]? = some (.cells #[.bool T.attach, .int .i64 T.buffer, vn.d, vn.f, .bool T.input, .bool T.all, vn.r, .bool T.ordered, vn.o, vn.p] 41 (0, 0))) => (by rw [hvn0] at h; exact h : w.heap[bn]? = some (.cells #[.bool T.attach, .int .i64 T.buffer, .slice Ad T.damage.length nd, .slice Af T.frames.length nf, .bool T.input, .bool T.all, .slice Ar T.region.length nr, .bool T.ordered, .slice Ao T.order.length no, .slice Ap T.places.length np] 41 (0, 0))))
      have hvn := hide (fun (w : World) (h : StRd w vn T) => (by rw [hvn0] at h; exact h : StRd w ⟨.slice Ad T.damage.length nd, .slice Af T.frames.length nf, .slice Ar T.region.length nr, .slice Ao T.order.length no, .slice Ap T.places.length np⟩ T))
      have hU : UX W p N cn B M (ToldK vs vh H.length vn bn) (ToldF S H T vs vh vn bn) w6 := by
        have b6 : Below w5.heap.size w5 w6 := by rw [hw6]; exact (Below.refl _ _).alloc (Nat.le_refl _) _
        have c3 := b3.out
        have c4 := b4.out
        have c5 := b5.out
        have s3 := c3.size
        have s4 := c4.size
        have s5 := c5.size
        have s6 : w6.heap.size = w5.heap.size + 1 := by rw [hw6]; simp
        have B6 : Below wA.heap.size wA w6 := ((c3.trans (c4.mono s3)).trans (c5.mono (by omega))).trans (b6.mono (by omega))
        have oo := o5.out
        rw [← hvn0] at oo
        refine (hX.out.keep B6).told _ _ ⟨?_, ?_, oo.rd.below b6 (Nat.le_refl _), ?_⟩ (told_kept S H T vs vh vn bn) fun b hb => ?_
        · rw [hvs]; exact r3.out.below ((c4.trans (c5.mono s4)).trans (b6.mono (by omega))) (Nat.le_refl _)
        · rw [hvh]; exact r4.out.below (c5.trans (b6.mono s5)) (Nat.le_refl _)
        · rw [hw6, hbn, hvn0]; exact heap_alloc_new _ _
        · have hFl : F b → b < wA.heap.size := hX.out.lt b
          have key : wA.heap.size ≤ b ∧ b < w6.heap.size := by
            rcases hb with hb | hb | hb | hb | hb | hb | hb | hb
            · omega
            · rw [hvs] at hb; have := k3.out b hb; omega
            · obtain ⟨h0, hb⟩ := hb
              rw [hvh] at hb
              have h1 := k4.out b hb
              have h2 := r4.out.inSize h0 b hb
              omega
            · have := oo.d.lt b hb; omega
            · have := oo.f.lt b hb; omega
            · have := oo.r.lt b hb; omega
            · have := oo.o.lt b hb; omega
            · have := oo.p.lt b hb; omega
          exact ⟨key.2, fun hF => by have := hFl hF; omega⟩
      rw [← hbn, ← hw6]
      replace hU := hide hU
      replace hw6 := hide hw6
      replace hbn := hide hbn
      rw [← hvs, ← hvh]
      replace hvs := hide hvs
      replace hvh := hide hvh
      replace hvn0 := hide hvn0
      clear cC cW U3 U0 hX r3 k3 b3 r4 k4 b4 o5 b5 hJ
      go_loopw [13] (fun i wr => ∃ (m N' B' : Nat) (M' : Fo), m ≤ n2 ∧ m ≤ 30 ∧ i = .int .i64 m ∧ N' ≤ N + m ∧ B' ≤ B + m ∧ Hid (SameSeen M M') ∧ Hid (UX W p N' cn B' M' (ToldK vs vh H.length vn bn) (ToldF S H T vs vh vn bn) wr)) (fun i _ => 30 - (intOf i).toNat)
      case atStart => exact ⟨0, N, B, M, Nat.zero_le _, Nat.zero_le _, rfl, Nat.le_refl _, Nat.le_refl _, hide (.refl _), hU⟩
      clear hU
      case round =>
        obtain ⟨m, N', B', M', hm, hm30, rfl, hN', hB', hsee, hU⟩ := hrel
        obtain ⟨wB, hwB⟩ : ∃ wB, wB = wr := ⟨_, rfl⟩
        subst hwB
        by_cases hlt : m < n2
        · by_cases hlt30 : m < 30
          · have hel := hr2.out.below hU.out.below (Nat.le_refl _)
            obtain ⟨be, off, rfl, hbe, hce⟩ := OpR.cells hel hn2.out.symm hlt
            have hgo := OpR.good_at hg2.out (k := m) (by rw [← hn2.out]; exact hlt)
            obtain ⟨x, hx⟩ : ∃ x, x = l2.getD m default := ⟨_, rfl⟩
            rw [← hx] at hce hgo
            obtain ⟨⟨kd, oid, oa, ob, ⟨rx, ry, rw', rh⟩, xl⟩, xA, xc⟩ := x
            obtain ⟨⟨g0, g1, g2, g3⟩, hxl⟩ := hgo
            dsimp only at g0 g1 g2 g3
            have q0 := hce 0 _ rfl
            have q1 := hce 1 _ rfl
            have q2 := hce 2 _ rfl
            have q3 := hce 3 _ rfl
            have q4 := hce 4 _ rfl
            have q5 := hce 5 _ rfl
            have q6 := hce 6 _ rfl
            have q7 := hce 7 _ rfl
            have q8 := hce 8 _ rfl
            change Rd W (.slice xA xl.length xc) 4 xl.length (xl.flatMap R4.enc) at hxl
            change wB.cell? ⟨be, off + m * 9 + 0, none⟩ = some (.int .i64 kd) at q0
            change wB.cell? ⟨be, off + m * 9 + 1, none⟩ = some (.int .i64 oid) at q1
            change wB.cell? ⟨be, off + m * 9 + 2, none⟩ = some (.int .i64 oa) at q2
            change wB.cell? ⟨be, off + m * 9 + 3, none⟩ = some (.int .i64 ob) at q3
            change wB.cell? ⟨be, off + m * 9 + 4, none⟩ = some (.int .i64 rx) at q4
            change wB.cell? ⟨be, off + m * 9 + 5, none⟩ = some (.int .i64 ry) at q5
            change wB.cell? ⟨be, off + m * 9 + 6, none⟩ = some (.int .i64 rw') at q6
            change wB.cell? ⟨be, off + m * 9 + 7, none⟩ = some (.int .i64 rh) at q7
            change wB.cell? ⟨be, off + m * 9 + 8, none⟩ = some (.slice xA xl.length xc) at q8
            rw [Nat.add_zero] at q0
            replace hxl := hide hxl
            clear hce hel hx
            have hU1 := hide (fun o => hU.out.keep ((Below.refl _ wB).alloc (Nat.le_refl _) o))
            have p1 := Int.emod_nonneg kd (show (7 : Int) ≠ 0 by decide)
            have p2 := Int.emod_lt_of_pos kd (show (0 : Int) < 7 by decide)
            have hP := fun w => place_any kd 7 w (by omega) (by omega)
            obtain ⟨y, hy⟩ : ∃ y, y = kd % 7 := ⟨_, rfl⟩
            rw [← hy] at p1 p2 hP
            replace hP := hide hP
            clear hy
            rcases (show y = 0 ∨ y = 1 ∨ y = 2 ∨ y = 3 ∨ y = 4 ∨ y = 5 ∨ y = 6 by omega) with rfl | rfl | rfl | rfl | rfl | rfl | rfl
            · go_wp2_with (first | (go_at_call 14; refine (hP.out _).mono ?_; rintro e w' ⟨rfl, rfl⟩) | (go_at_call 15; refine (uAttach hE.out (hU1.out _) oid oa g1).mono ?_; rintro e w5 ⟨rfl, hU5⟩; replace hU5 := hide hU5))
              go_roundw
              case rel => exact ⟨m + 1, N' + 1, B' + 1, _, by omega, by omega, by go_num, by omega, by omega, hide (hsee.out.trans (SameSeen.turn _)), hide (hU5.out.mono (by omega) (by omega))⟩
              case measure => simp [intOf]; omega
            · go_wp2_with (first | (go_at_call 14; refine (hP.out _).mono ?_; rintro e w' ⟨rfl, rfl⟩) | (go_at_call 16; refine (uDamage hE.out (hU1.out _) oid ⟨rx, ry, rw', rh⟩ g1 (by omega)).mono ?_; rintro e w5 ⟨rfl, hU5⟩; replace hU5 := hide hU5))
              go_roundw
              case rel => exact ⟨m + 1, N' + 1, B' + 1, _, by omega, by omega, by go_num, by omega, by omega, hide (hsee.out.trans (SameSeen.turn _)), hide (hU5.out.mono (by omega) (by omega))⟩
              case measure => simp [intOf]; omega
            · go_wp2_with (first | (go_at_call 14; refine (hP.out _).mono ?_; rintro e w' ⟨rfl, rfl⟩) | (go_at_call 17; refine (uFrame hE.out (hU1.out _) oid oa g1 (by omega)).mono ?_; rintro e w5 ⟨rfl, hU5⟩; replace hU5 := hide hU5))
              go_roundw
              case rel => exact ⟨m + 1, N' + 1, B' + 1, _, by omega, by omega, by go_num, by omega, by omega, hide (hsee.out.trans (SameSeen.turn _)), hide (hU5.out.mono (by omega) (by omega))⟩
              case measure => simp [intOf]; omega
            · go_wp2_with (first | (go_at_call 14; refine (hP.out _).mono ?_; rintro e w' ⟨rfl, rfl⟩) | (go_at_call 18; refine (uPosition hE.out (hU1.out _) oid oa ob g1 (by omega)).mono ?_; rintro e w5 ⟨rfl, hU5⟩; replace hU5 := hide hU5))
              go_roundw
              case rel => exact ⟨m + 1, N' + 1, B' + 1, _, by omega, by omega, by go_num, by omega, by omega, hide (hsee.out.trans (SameSeen.pos _ _)), hide (hU5.out.mono (by omega) (by omega))⟩
              case measure => simp [intOf]; omega
            · go_wp2_with (first | (go_at_call 14; refine (hP.out _).mono ?_; rintro e w' ⟨rfl, rfl⟩) | (go_at_call 19; refine (uAbove hE.out (hU1.out _) oid oa g1 g2 (by omega)).mono ?_; rintro e w5 ⟨rfl, hU5⟩; replace hU5 := hide hU5))
              go_roundw
              case rel => exact ⟨m + 1, N' + 1, B' + 1, _, by omega, by omega, by go_num, by omega, by omega, hide (hsee.out.trans (SameSeen.bes _ _)), hide (hU5.out.mono (by omega) (by omega))⟩
              case measure => simp [intOf]; omega
            · go_wp2_with (first | (go_at_call 14; refine (hP.out _).mono ?_; rintro e w' ⟨rfl, rfl⟩) | (go_at_call 20; refine (uBelow hE.out (hU1.out _) oid oa g1 g2 (by omega)).mono ?_; rintro e w5 ⟨rfl, hU5⟩; replace hU5 := hide hU5))
              go_roundw
              case rel => exact ⟨m + 1, N' + 1, B' + 1, _, by omega, by omega, by go_num, by omega, by omega, hide (hsee.out.trans (SameSeen.bes _ _)), hide (hU5.out.mono (by omega) (by omega))⟩
              case measure => simp [intOf]; omega
            · go_wp2_with (first | (go_at_call 14; refine (hP.out _).mono ?_; rintro e w' ⟨rfl, rfl⟩) | (go_at_call 21; refine (uInput hE.out (hU1.out _) oid g1 (by omega)).mono ?_; rintro e w5 ⟨rfl, hU5⟩; replace hU5 := hide hU5))
              go_roundw
              case rel => exact ⟨m + 1, N' + 1, B' + 1, _, by omega, by omega, by go_num, by omega, by omega, hide (hsee.out.trans (SameSeen.turn _)), hide (hU5.out.mono (by omega) (by omega))⟩
              case measure => simp [intOf]; omega
          · obtain rfl : m = 30 := by omega
            clear hlt30
            have hS2 := hide ((hsee.out.walk (Bk + 1) id).trans hS.out)
            have hT2 := (hsee.out.tell id).trans hT.out
            have hH2 := hide (fun H' (h' : HeldL M' H') => (heldL_one h' (hsee.out.held hH.out) : H' = H))
            have hrk2 := hide (hsee.out.rk hrk.out)
            have cNow := fun w (hU : UX W p N' cn B' M' (ToldK vs vh H.length vn bn) (ToldF S H T vs vh vn bn) w) => uNow hU id hid (by omega)
            rw [hT2] at cNow
            unfold stVal at cNow
            dsimp only at cNow
            replace cNow := hide cNow
            clear hT2
            have hbd := hide hU.out.below
            have hz := hide (fun w (h : UX W p N' cn B' M' (ToldK vs vh H.length vn bn) (ToldF S H T vs vh vn bn) w) => (cells10u (hbox.out w h.phi.2.2.2)))
            obtain ⟨z0, z1, z2, z3, z4, z5, z6, z7, z8, z9⟩ := hz.out _ hU.out
            replace hU := hide (hU.out.keep (below_drewN (Below.refl _ wB) 1))
            go_wp2_with fail
            go_region_held3 (fun w' => w'.cell? ⟨bn, 0, none⟩ = some (.bool T.attach) ∧ w'.cell? ⟨bn, 1, none⟩ = some (.int .i64 T.buffer) ∧ w'.cell? ⟨bn, 2, none⟩ = some (.slice Ad T.damage.length nd) ∧ w'.cell? ⟨bn, 3, none⟩ = some (.slice Af T.frames.length nf) ∧ w'.cell? ⟨bn, 4, none⟩ = some (.bool T.input) ∧ w'.cell? ⟨bn, 5, none⟩ = some (.bool T.all) ∧ w'.cell? ⟨bn, 6, none⟩ = some (.slice Ar T.region.length nr) ∧ w'.cell? ⟨bn, 7, none⟩ = some (.bool T.ordered) ∧ w'.cell? ⟨bn, 8, none⟩ = some (.slice Ao T.order.length no) ∧ w'.cell? ⟨bn, 9, none⟩ = some (.slice Ap T.places.length np)) (go_keep)
              (first
                | (go_at_call 11; refine (uWalk hU.out id hid (by omega) hrk2.out hS2.out (by omega)).mono ?_; rintro e w7 ⟨A7, n7, rfl, r7, _, b7⟩; replace hU := hide (hU.out.keep b7); obtain ⟨z0, z1, z2, z3, z4, z5, z6, z7, z8, z9⟩ := hz.out _ hU.out; replace r7 := hide r7; clear b7)
                | (go_at_call 22; refine (sameCh_true w7 _ _ S r7.out hU.out.phi.1 (by omega)).mono ?_; rintro e w8 ⟨rfl, q8, rfl⟩; replace hU := hide (hU.out.keep (below_drewN (Below.refl _ w7) q8)); obtain ⟨z0, z1, z2, z3, z4, z5, z6, z7, z8, z9⟩ := hz.out _ hU.out)
                | (go_at_call 12; refine (uHeld hU.out (by omega)).mono ?_; rintro e wH ⟨AH, nH, H', rfl, hh1, hh2, rH, bH, _⟩; obtain rfl := hH2.out H' hh1; replace hU := hide (hU.out.keep bH); obtain ⟨z0, z1, z2, z3, z4, z5, z6, z7, z8, z9⟩ := hz.out _ hU.out; replace rH := hide rH; clear bH hh1)
                | (go_at_call 23; refine (sameInts_true wH _ _ _ rH.out hU.out.phi.2.1 (by omega)).mono ?_; rintro e wI ⟨rfl, qI, rfl⟩; replace hU := hide (hU.out.keep (below_drewN (Below.refl _ wH) qI)); obtain ⟨z0, z1, z2, z3, z4, z5, z6, z7, z8, z9⟩ := hz.out _ hU.out)
                | (go_at_call 13; refine (cNow.out _ hU.out).mono ?_; rintro e wN ⟨B1, m1, B2, m2, B3, m3, B4, m4, B5, m5, rfl, oN, bN⟩; replace hU := hide (hU.out.keep bN); obtain ⟨z0, z1, z2, z3, z4, z5, z6, z7, z8, z9⟩ := hz.out _ hU.out; replace oN := hide oN.rd; clear bN)
                | (go_at_call 24; refine (gSame_true wN _ _ T oN.out (hvn.out wN hU.out.phi.2.2.1) (by omega) (by omega) (by omega) (by omega) (by omega)).mono ?_; rintro e wS ⟨rfl, bS⟩; replace hU := hide (hU.out.keep bS); obtain ⟨z0, z1, z2, z3, z4, z5, z6, z7, z8, z9⟩ := hz.out _ hU.out; have ca := hide (awake17_any wS ((hE.out.five.below hU.out.below).wider hU.out.below.size)); clear bS)
                | (go_at_call 10; refine ca.out.mono ?_; rintro e w9 ⟨rfl, hb9⟩; replace hbd := hide (hU.out.below.trans (hb9.mono hU.out.below.size)); replace hU := hide (hU.out.keep hb9); obtain ⟨z0, z1, z2, z3, z4, z5, z6, z7, z8, z9⟩ := hz.out _ hU.out))
            go_wp2
            go_ret
            exact ⟨rfl, hbd.out⟩
        · have hx2 : (n2 : Int) ≤ m := by omega
          clear hlt
          have hS2 := hide ((hsee.out.walk (Bk + 1) id).trans hS.out)
          have hT2 := (hsee.out.tell id).trans hT.out
          have hH2 := hide (fun H' (h' : HeldL M' H') => (heldL_one h' (hsee.out.held hH.out) : H' = H))
          have hrk2 := hide (hsee.out.rk hrk.out)
          have cNow := fun w (hU : UX W p N' cn B' M' (ToldK vs vh H.length vn bn) (ToldF S H T vs vh vn bn) w) => uNow hU id hid (by omega)
          rw [hT2] at cNow
          unfold stVal at cNow
          dsimp only at cNow
          replace cNow := hide cNow
          clear hT2
          have hbd := hide hU.out.below
          have hz := hide (fun w (h : UX W p N' cn B' M' (ToldK vs vh H.length vn bn) (ToldF S H T vs vh vn bn) w) => (cells10u (hbox.out w h.phi.2.2.2)))
          obtain ⟨z0, z1, z2, z3, z4, z5, z6, z7, z8, z9⟩ := hz.out _ hU.out
          replace hU := hide (hU.out.keep (below_drewN (Below.refl _ wB) 1))
          go_wp2_with fail
          go_region_held3 (fun w' => w'.cell? ⟨bn, 0, none⟩ = some (.bool T.attach) ∧ w'.cell? ⟨bn, 1, none⟩ = some (.int .i64 T.buffer) ∧ w'.cell? ⟨bn, 2, none⟩ = some (.slice Ad T.damage.length nd) ∧ w'.cell? ⟨bn, 3, none⟩ = some (.slice Af T.frames.length nf) ∧ w'.cell? ⟨bn, 4, none⟩ = some (.bool T.input) ∧ w'.cell? ⟨bn, 5, none⟩ = some (.bool T.all) ∧ w'.cell? ⟨bn, 6, none⟩ = some (.slice Ar T.region.length nr) ∧ w'.cell? ⟨bn, 7, none⟩ = some (.bool T.ordered) ∧ w'.cell? ⟨bn, 8, none⟩ = some (.slice Ao T.order.length no) ∧ w'.cell? ⟨bn, 9, none⟩ = some (.slice Ap T.places.length np)) (go_keep)
            (first
              | (go_at_call 11; refine (uWalk hU.out id hid (by omega) hrk2.out hS2.out (by omega)).mono ?_; rintro e w7 ⟨A7, n7, rfl, r7, _, b7⟩; replace hU := hide (hU.out.keep b7); obtain ⟨z0, z1, z2, z3, z4, z5, z6, z7, z8, z9⟩ := hz.out _ hU.out; replace r7 := hide r7; clear b7)
              | (go_at_call 22; refine (sameCh_true w7 _ _ S r7.out hU.out.phi.1 (by omega)).mono ?_; rintro e w8 ⟨rfl, q8, rfl⟩; replace hU := hide (hU.out.keep (below_drewN (Below.refl _ w7) q8)); obtain ⟨z0, z1, z2, z3, z4, z5, z6, z7, z8, z9⟩ := hz.out _ hU.out)
              | (go_at_call 12; refine (uHeld hU.out (by omega)).mono ?_; rintro e wH ⟨AH, nH, H', rfl, hh1, hh2, rH, bH, _⟩; obtain rfl := hH2.out H' hh1; replace hU := hide (hU.out.keep bH); obtain ⟨z0, z1, z2, z3, z4, z5, z6, z7, z8, z9⟩ := hz.out _ hU.out; replace rH := hide rH; clear bH hh1)
              | (go_at_call 23; refine (sameInts_true wH _ _ _ rH.out hU.out.phi.2.1 (by omega)).mono ?_; rintro e wI ⟨rfl, qI, rfl⟩; replace hU := hide (hU.out.keep (below_drewN (Below.refl _ wH) qI)); obtain ⟨z0, z1, z2, z3, z4, z5, z6, z7, z8, z9⟩ := hz.out _ hU.out)
              | (go_at_call 13; refine (cNow.out _ hU.out).mono ?_; rintro e wN ⟨B1, m1, B2, m2, B3, m3, B4, m4, B5, m5, rfl, oN, bN⟩; replace hU := hide (hU.out.keep bN); obtain ⟨z0, z1, z2, z3, z4, z5, z6, z7, z8, z9⟩ := hz.out _ hU.out; replace oN := hide oN.rd; clear bN)
              | (go_at_call 24; refine (gSame_true wN _ _ T oN.out (hvn.out wN hU.out.phi.2.2.1) (by omega) (by omega) (by omega) (by omega) (by omega)).mono ?_; rintro e wS ⟨rfl, bS⟩; replace hU := hide (hU.out.keep bS); obtain ⟨z0, z1, z2, z3, z4, z5, z6, z7, z8, z9⟩ := hz.out _ hU.out; have ca := hide (awake17_any wS ((hE.out.five.below hU.out.below).wider hU.out.below.size)); clear bS)
              | (go_at_call 10; refine ca.out.mono ?_; rintro e w9 ⟨rfl, hb9⟩; replace hbd := hide (hU.out.below.trans (hb9.mono hU.out.below.size)); replace hU := hide (hU.out.keep hb9); obtain ⟨z0, z1, z2, z3, z4, z5, z6, z7, z8, z9⟩ := hz.out _ hU.out))
          go_wp2
          go_ret
          exact ⟨rfl, hbd.out⟩
end Go.Proofs.YthkjicnnepkghaaGreatDoor
