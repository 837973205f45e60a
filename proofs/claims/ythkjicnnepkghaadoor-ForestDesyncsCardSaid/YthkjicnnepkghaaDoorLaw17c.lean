/-
  The law ForestDesyncs, as a walk.
-/
import Derived.Test.YthkjicnnepkghaaDoorLaw17
import Derived.Test.YthkjicnnepkghaaDoorLaw17b
namespace Go.Proofs.YthkjicnnepkghaaDoor
open Go.RowKit
set_option linter.unusedVariables false

theorem Tryd.stBuffer (y0 y2 y3 y4 y5 y6 y7 y8 y9 : Value) (b : Int) (w : World) : (Instr.field 37 (.agg #[y0, .int .i64 b, y2, y3, y4, y5, y6, y7, y8, y9]) 1).run Tryd.prog w = .ok (.int .i64 b) w := by kernel_rfl
theorem mNow {W w : World} {p N c B : Nat} {M : Fo} (h : FL W p N c B M w) (id : Int) (hid : I64 id) (hB : B ≤ 50000) :
    Calls Tryd.prog 15 #[.pointer (some ⟨p, 0, none⟩), .int .i64 id] w fun e w' => ∃ y0 y2 y3 y4 y5 y6 y7 y8 y9, e = .returned (.agg #[y0, .int .i64 (tellM M id fun t => t.cu).buffer, y2, y3, y4, y5, y6, y7, y8, y9]) ∧ FL W p N c B M w' := by
  refine (mCurrent h id hid hB).mono ?_
  rintro e w' ⟨A1, n1, A2, n2, A3, n3, A4, n4, A5, n5, he, _, h', _⟩
  exact ⟨_, _, _, _, _, _, _, _, _, he, h'⟩
theorem mCa {W w : World} {p N c B : Nat} {M : Fo} (h : FL W p N c B M w) (id : Int) (hid : I64 id) (hB : B ≤ 50000) :
    Calls Tryd.prog 16 #[.pointer (some ⟨p, 0, none⟩), .int .i64 id] w fun e w' => ∃ y0 y2 y3 y4 y5 y6 y7 y8 y9, e = .returned (.agg #[y0, .int .i64 (tellM M id fun t => t.ca).buffer, y2, y3, y4, y5, y6, y7, y8, y9]) ∧ FL W p N c B M w' := by
  refine (mCached h id hid hB).mono ?_
  rintro e w' ⟨A1, n1, A2, n2, A3, n3, A4, n4, A5, n5, he, _, h', _⟩
  exact ⟨_, _, _, _, _, _, _, _, _, he, h'⟩
/-- Cells that were there at W stay. -/
structure OldCells (W : World) : Prop where
  keep : ∀ {w' : World}, Below W.heap.size W w' → ∀ a v, W.cell? a = some v → w'.cell? a = some v

set_option maxRecDepth 100000 in
set_option maxHeartbeats 4000000 in
theorem forestDesyncs_any (W : World) {ae : Nat → Addr} (hE : ErrF W.heap.size W ae) (b : Int) (A : Option Addr) (cp : Nat) (l : List Bool) (hr : Rd W (.slice A l.length cp) 1 l.length (l.map Value.bool)) (hl : l.length ≤ 9223372036854775807) :
    Calls Tryd.prog 3 #[.int .i64 b, .slice A l.length cp] W fun e w' => e = .returned (.bool true) ∧ Below W.heap.size W w' := by
  obtain ⟨a1, a2, a3, a4, -⟩ := aw_facts
  have hfld := Tryd.stBuffer
  have cN := hide (mNew W)
  have hb0 : Hid (OldCells W) := hide ⟨fun hb a v hc => (hb.cell (block_lt_of_cell hc)).trans hc⟩
  obtain ⟨L, hL⟩ : ∃ L, L = l.length := ⟨_, rfl⟩
  rw [← hL] at hr hl ⊢
  replace hL := hide hL
  replace hr := hide hr
  replace a3 := hide a3
  replace a4 := hide a4
  replace hE := hide hE
  go_enter Tryd.func3, Tryd.ntmps3
  go_wp2_with fail
  refine cN.out.mono ?_
  rintro e w1 ⟨p, rfl, h1⟩
  have c1 := hide (mAdd0 hE.out h1 1 i64_1 (by omega) (by omega) a1)
  clear h1 cN
  go_wp2_with fail
  refine c1.out.mono ?_
  rintro e w2 ⟨rfl, h2⟩
  change FL W p 1 1 2 aw1 w2 at h2
  have c2 := hide (mAdd0 hE.out h2 2 i64_2 (by omega) (by omega) a2)
  clear h2 c1
  go_wp2_with fail
  refine c2.out.mono ?_
  rintro e w3 ⟨rfl, h3⟩
  change FL W p 2 2 3 aw2 w3 at h3
  have c3 := mSub hE.out h3 2 1 i64_2 i64_1 (by omega)
  rw [aw_sub, fsubS_zero aw_sub, errV0] at c3
  replace c3 := hide c3
  clear h3 c2
  go_wp2_with fail
  refine c3.out.mono ?_
  rintro e w4 ⟨rfl, h4⟩
  have hrk3 : RkOk aw3 2 := by have := aw_rk2.sub (id := 2) (parent := 1) (by decide); rw [fsubS_zero aw_sub] at this; exact this
  have c4 := mCommitR hE.out h4 1 i64_1 (by omega) (by omega) hrk3 (by omega)
  rw [show (comC (subbed aw2 2 1) 2 1).1 = dsM true St.zero St.zero 0 from ds_start.1, show (comC (subbed aw2 2 1) 2 1).2 = [1] from ds_start.2, show thereK (subbed aw2 2 1) 1 = 0 from by decide +kernel, errV0] at c4
  simp only [List.length_cons, List.length_nil, Nat.zero_add] at c4
  replace c4 := hide c4
  clear h4 c3
  go_wp2_with fail
  refine c4.out.mono ?_
  rintro e w5 ⟨A5, n5, rfl, r5, h5⟩
  replace h5 := hide h5
  clear r5 c4
  go_wp2
  go_loopw [8, 9, 10] (fun x y i wr => ∃ (j : Nat) (sy : Bool) (ca : St) (now cached : Int), j ≤ L ∧ j ≤ 20 ∧ x = .int .i64 now ∧ y = .int .i64 cached ∧ i = .int .i64 j ∧ Hid ((ca = St.zero ∧ cached = 0) ∨ ca = attachT cached St.zero) ∧ Hid (FL W p (3 + 2 * j) 2 5 (dsM sy St.zero ca now) wr)) (fun _ _ i _ => 20 - (intOf i).toNat)
  case atStart => exact ⟨0, true, St.zero, 0, 0, Nat.zero_le _, by omega, rfl, rfl, rfl, hide (.inl ⟨rfl, rfl⟩), h5⟩
  clear h5
  case round =>
    obtain ⟨j, sy, ca, now, cached, hj, hj20, rfl, rfl, rfl, hca, h⟩ := hrel
    obtain ⟨wA, hA⟩ : ∃ wA, wA = wr := ⟨_, rfl⟩
    subst hA
    by_cases hlt : j < L
    · by_cases hlt2 : j < 20
      · have hjl : j < l.length := by rw [← hL.out]; exact hlt
        obtain ⟨bb, off, u, rfl, hbb, hu, hcx⟩ := hr.out.cell1 hlt
        obtain ⟨on, hon⟩ : ∃ on, on = l.getD j false := ⟨_, rfl⟩
        have hu2 : u = .bool on := by
          rw [List.getElem?_map, List.getElem?_eq_getElem hjl] at hu
          simp at hu
          rw [← hu, hon]; simp [List.getD, hjl]
        rw [hu2] at hcx
        have hcA := hb0.out.keep h.out.below _ _ hcx
        have cP := fun w => place_any (wrap64 (b + j)) 1000 w (by omega) (by omega)
        obtain ⟨r, hrr⟩ : ∃ r, r = wrap64 (b + j) % 1000 := ⟨_, rfl⟩
        have hr0 : 0 ≤ r := by rw [hrr]; exact Int.emod_nonneg _ (by decide)
        have hr1 : r < 1000 := by rw [hrr]; exact Int.emod_lt_of_pos _ (by decide)
        rw [← hrr] at cP
        have hkc : ∀ w', Below W.heap.size W w' → w'.cell? ⟨bb, off + j, none⟩ = some (.bool on) := fun w' hb => hb0.out.keep hb _ _ hcx
        replace hkc := hide hkc
        replace cP := hide cP
        clear hrr hu hu2 hon hcx hbb
        have hcaT : ca = St.zero ∨ ∃ c, ca = attachT c St.zero := hca.out.imp (fun h => h.1) (fun h => ⟨_, h⟩)
        replace hcaT := hide hcaT
        go_wp2_with fail
        refine (cP.out _).mono ?_
        rintro e w' ⟨rfl, rfl⟩
        cases on with
        | true =>
          obtain ⟨hm1, hm2⟩ := ds_comT (1 + r) now hcaT.out
          have cS := mSync hE.out h.out 2 true i64_2
          rw [ds_sync, show childK (dsM sy St.zero ca now) 2 = 0 from rfl, errV0] at cS
          replace cS := hide cS
          clear h
          go_wp2_with fail
          refine (cS.out).mono ?_
          rintro e w2 ⟨rfl, h2⟩
          have cT := mAttach hE.out h2 2 (1 + r) i64_2
          rw [ds_turn, show thereK (dsM true St.zero ca now) 2 = 0 from rfl, errV0] at cT
          replace cT := hide cT
          clear h2 cS
          go_wp2_with fail
          refine (cT.out).mono ?_
          rintro e w3 ⟨rfl, h3⟩
          have cC := mCommitR hE.out h3 2 i64_2 (by omega) (by omega) (ds_rk _ _ _ _) (by omega)
          rw [hm1, hm2, show thereK (dsM true (attachT (1 + r) St.zero) ca now) 2 = 0 from rfl, errV0] at cC
          simp only [List.length_nil] at cC
          replace cC := hide cC
          clear h3 cT hm1 hm2
          go_wp2_with fail
          refine (cC.out).mono ?_
          rintro e w4 ⟨A4, n4, rfl, r4, h4⟩
          have hc4 := hkc.out w4 h4.below
          have cU := mNow h4 2 i64_2 (by omega)
          rw [show (tellM (dsM true St.zero (attachT (1 + r) St.zero) now) 2 fun t => t.cu).buffer = now from rfl] at cU
          replace cU := hide cU
          clear r4 cC
          go_wp2_with fail
          refine (cU.out).mono ?_
          rintro e w5 ⟨y0, y2, y3, y4, y5, y6, y7, y8, y9, rfl, h5⟩
          have cV := mCa h5 2 i64_2 (by omega)
          rw [show (tellM (dsM true St.zero (attachT (1 + r) St.zero) now) 2 fun t => t.ca).buffer = (1 + r) from rfl] at cV
          replace cV := hide cV
          clear h4 cU
          go_wp2_with fail
          refine (cV.out).mono ?_
          rintro e w6 ⟨z0, z2, z3, z4, z5, z6, z7, z8, z9, rfl, h6⟩
          replace h6 := hide (h6.mono (show 3 + 2 * j + 1 + 1 ≤ 3 + 2 * (j + 1) by omega) (Nat.le_refl 5))
          clear h5 cV
          go_wp2
          go_roundw
          case rel => exact ⟨j + 1, true, attachT (1 + r) St.zero, now, 1 + r, by omega, by omega, rfl, rfl, by go_num, hide (.inr rfl), h6⟩
          case measure => simp [intOf]; omega
        | false =>
          obtain ⟨hm1, hm2⟩ := ds_comF (1 + r) now hcaT.out
          have cS := mSync hE.out h.out 2 false i64_2
          rw [ds_sync, show childK (dsM sy St.zero ca now) 2 = 0 from rfl, errV0] at cS
          replace cS := hide cS
          clear h
          go_wp2_with fail
          refine (cS.out).mono ?_
          rintro e w2 ⟨rfl, h2⟩
          have cT := mAttach hE.out h2 2 (1 + r) i64_2
          rw [ds_turn, show thereK (dsM false St.zero ca now) 2 = 0 from rfl, errV0] at cT
          replace cT := hide cT
          clear h2 cS
          go_wp2_with fail
          refine (cT.out).mono ?_
          rintro e w3 ⟨rfl, h3⟩
          have cC := mCommitR hE.out h3 2 i64_2 (by omega) (by omega) (ds_rk _ _ _ _) (by omega)
          rw [hm1, hm2, show thereK (dsM false (attachT (1 + r) St.zero) ca now) 2 = 0 from rfl, errV0] at cC
          simp only [List.length_cons, List.length_nil, Nat.zero_add] at cC
          replace cC := hide cC
          clear h3 cT hm1 hm2
          go_wp2_with fail
          refine (cC.out).mono ?_
          rintro e w4 ⟨A4, n4, rfl, r4, h4⟩
          have hc4 := hkc.out w4 h4.below
          have cU := mNow h4 2 i64_2 (by omega)
          rw [show (tellM (dsM false St.zero St.zero (1 + r)) 2 fun t => t.cu).buffer = (1 + r) from rfl] at cU
          replace cU := hide cU
          clear r4 cC
          go_wp2_with fail
          refine (cU.out).mono ?_
          rintro e w5 ⟨y0, y2, y3, y4, y5, y6, y7, y8, y9, rfl, h5⟩
          have cV := mCa h5 2 i64_2 (by omega)
          rw [show (tellM (dsM false St.zero St.zero (1 + r)) 2 fun t => t.ca).buffer = 0 from rfl] at cV
          replace cV := hide cV
          clear h4 cU
          go_wp2_with fail
          refine (cV.out).mono ?_
          rintro e w6 ⟨z0, z2, z3, z4, z5, z6, z7, z8, z9, rfl, h6⟩
          replace h6 := hide (h6.mono (show 3 + 2 * j + 1 + 1 ≤ 3 + 2 * (j + 1) by omega) (Nat.le_refl 5))
          clear h5 cV
          go_wp2
          go_roundw
          case rel => exact ⟨j + 1, false, St.zero, 1 + r, 0, by omega, by omega, rfl, rfl, by go_num, hide (.inl ⟨rfl, rfl⟩), h6⟩
          case measure => simp [intOf]; omega
      · have hx : 20 ≤ (j : Int) := by omega
        clear hlt2
        have hb7 := hide h.out.below
        have cA := hide (awake17_any wA ((hE.out.below h.out.below).wider h.out.below.size))
        clear h
        go_wp2_with fail
        refine (cA.out).mono ?_
        rintro e w8 ⟨rfl, hb8⟩
        go_wp2
        go_ret
        exact ⟨rfl, hb7.out.trans (hb8.mono hb7.out.size)⟩
    · have hx : (L : Int) ≤ j := by omega
      clear hlt
      have hb7 := hide h.out.below
      have cA := hide (awake17_any wA ((hE.out.below h.out.below).wider h.out.below.size))
      clear h
      go_wp2_with fail
      refine (cA.out).mono ?_
      rintro e w8 ⟨rfl, hb8⟩
      go_wp2
      go_ret
      exact ⟨rfl, hb7.out.trans (hb8.mono hb7.out.size)⟩
end Go.Proofs.YthkjicnnepkghaaDoor
