/-
  tableaulaw00.SameChildren of two rows that read alike.
  tableauref15.Same: of what is the same.
-/
import Derived.Test.YthkjicnnepkghaaGreatDoorPkC
import Derived.Laws.StructEq
import Derived.Deep.QuietTactic
import Derived.BigQuiet
namespace Go.Proofs.YthkjicnnepkghaaGreatDoor
open Go.RowKit
set_option linter.unusedVariables false

theorem Tryz.chFields : (Tryz.prog.fieldsOf 62).toList.map (fun f => (f.name, f.type, f.offset)) = [("ID", 3, 0), ("X", 3, 1), ("Y", 3, 2)] := by kernel_rfl
theorem Tryz.chStruct : Tryz.prog.underlying 62 = some (.struct (Tryz.prog.fieldsOf 62)) := by kernel_rfl
theorem Tryz.chNoStand : Tryz.prog.stoodInHeld 62 = false := by kernel_rfl
theorem Tryz.chNoGuard : Tryz.prog.eqGuardType Tryz.prog.depth 62 = false := by kernel_rfl
theorem Tryz.chEq (x y z : Int) (w : World) : (Op.equalIn 10000 62 (.agg #[.int .i64 x, .int .i64 y, .int .i64 z]) (.agg #[.int .i64 x, .int .i64 y, .int .i64 z])).run Tryz.prog w = .ok true w := by
  rw [run_equalIn_struct w 9999 62 _ _ Tryz.chStruct Tryz.chNoStand]
  have h := Tryz.chFields
  generalize (Tryz.prog.fieldsOf 62).toList = fs at h
  obtain ⟨f0, f1, f2, rfl⟩ : ∃ f0 f1 f2, fs = [f0, f1, f2] := by
    have hl := congrArg List.length h
    simp only [List.length_map, List.length_cons, List.length_nil] at hl
    rcases fs with _ | ⟨f0, _ | ⟨f1, _ | ⟨f2, _ | ⟨f3, r⟩⟩⟩⟩ <;> simp at hl
    exact ⟨f0, f1, f2, rfl⟩
  simp only [List.map_cons, List.map_nil, List.cons.injEq, Prod.mk.injEq, and_true] at h
  obtain ⟨⟨a0, b0, c0⟩, ⟨a1, b1, c1⟩, a2, b2, c2⟩ := h
  simp [Op.eqFields, a0, b0, c0, a1, b1, c1, a2, b2, c2, go_sem, Tryz.underlying3]

set_option maxRecDepth 100000 in
set_option maxHeartbeats 1000000 in
theorem sameCh_true (w : World) (v u : Value) (L : List Ch) (hx : Rd w v 3 L.length (L.flatMap Ch.enc)) (hy : Rd w u 3 L.length (L.flatMap Ch.enc)) (hl : L.length ≤ 1000000) :
    Calls Tryz.prog 22 #[v, u] w fun e w' => e = .returned (.bool true) ∧ ∃ q, w' = w.drewN q := by
  obtain ⟨A, c, rfl, _⟩ := hx.form
  obtain ⟨A2, c2, rfl, _⟩ := hy.form
  obtain ⟨n, hn⟩ : ∃ n, n = L.length := ⟨_, rfl⟩
  rw [← hn] at hx hy hl ⊢
  have g1 := Tryz.chNoGuard
  have g2 := Tryz.chEq
  replace hn := hide hn
  replace hx := hide hx
  replace hy := hide hy
  go_enter Tryz.func22, Tryz.ntmps22
  go_wp2
  go_loopw [5] (fun i wr => ∃ k : Nat, k ≤ n ∧ i = .int .i64 k ∧ ∃ q, wr = w.drewN q) (fun i _ => n - (intOf i).toNat)
  case atStart => exact ⟨0, Nat.zero_le _, rfl, 0, rfl⟩
  case round =>
    obtain ⟨k, hk, rfl, q, rfl⟩ := hrel
    by_cases hlt : k < n
    · obtain ⟨b, off, rfl, hb1, hcx⟩ := hx.out.chCells hn.out (by omega)
      obtain ⟨b2, off2, rfl, hb2, hcy⟩ := hy.out.chCells hn.out (by omega)
      obtain ⟨k0, k1, k2⟩ := hcx k hlt
      obtain ⟨m0, m1, m2⟩ := hcy k hlt
      generalize L.getD k default = y at k0 k1 k2 m0 m1 m2
      obtain ⟨y0, y1, y2⟩ := y
      dsimp only at k0 k1 k2 m0 m1 m2
      clear hcx hcy
      go_wp2
      go_quiet (fail)
      all_goals go_wp2
      go_roundw
      case rel => exact ⟨k + 1, by omega, by go_num, _, rfl⟩
      case measure => simp [intOf]; omega
    · obtain rfl : k = n := by omega
      go_wp2
      go_ret
      exact ⟨rfl, _, rfl⟩
end Go.Proofs.YthkjicnnepkghaaGreatDoor
namespace Go.Proofs.YthkjicnnepkghaaGreatDoor
open Go.RowKit
set_option linter.unusedVariables false

theorem Tryz.rcFields : (Tryz.prog.fieldsOf 30).toList.map (fun f => (f.name, f.type, f.offset)) = [("X", 3, 0), ("Y", 3, 1), ("W", 3, 2), ("H", 3, 3)] := by kernel_rfl
theorem Tryz.rcStruct : Tryz.prog.underlying 30 = some (.struct (Tryz.prog.fieldsOf 30)) := by kernel_rfl
theorem Tryz.rcNoStand : Tryz.prog.stoodInHeld 30 = false := by kernel_rfl
theorem Tryz.rcNoGuard : Tryz.prog.eqGuardType Tryz.prog.depth 30 = false := by kernel_rfl
theorem Tryz.rcEq (x y z u : Int) (w : World) : (Op.equalIn 10000 30 (.agg #[.int .i64 x, .int .i64 y, .int .i64 z, .int .i64 u]) (.agg #[.int .i64 x, .int .i64 y, .int .i64 z, .int .i64 u])).run Tryz.prog w = .ok true w := by
  rw [run_equalIn_struct w 9999 30 _ _ Tryz.rcStruct Tryz.rcNoStand]
  have h := Tryz.rcFields
  generalize (Tryz.prog.fieldsOf 30).toList = fs at h
  obtain ⟨f0, f1, f2, f3, rfl⟩ : ∃ f0 f1 f2 f3, fs = [f0, f1, f2, f3] := by
    have hl := congrArg List.length h
    simp only [List.length_map, List.length_cons, List.length_nil] at hl
    rcases fs with _ | ⟨f0, _ | ⟨f1, _ | ⟨f2, _ | ⟨f3, _ | ⟨f4, r⟩⟩⟩⟩⟩ <;> simp at hl
    exact ⟨f0, f1, f2, f3, rfl⟩
  simp only [List.map_cons, List.map_nil, List.cons.injEq, Prod.mk.injEq, and_true] at h
  obtain ⟨⟨a0, b0, c0⟩, ⟨a1, b1, c1⟩, ⟨a2, b2, c2⟩, a3, b3, c3⟩ := h
  simp [Op.eqFields, a0, b0, c0, a1, b1, c1, a2, b2, c2, a3, b3, c3, go_sem, Tryz.underlying3]
theorem rc_get : ∀ (l : List R4) (k j : Nat), k < l.length → j < 4 → (l.flatMap R4.enc)[k * 4 + j]? = ((l.getD k default).enc)[j]?
  | [], k, j, hk, _ => by simp at hk
  | r :: l, 0, j, _, hj => by
    rw [List.flatMap_cons, List.getElem?_append_left (by simp [R4.len]; omega)]
    simp
  | r :: l, k + 1, j, hk, hj => by
    rw [List.flatMap_cons, List.getElem?_append_right (by simp [R4.len]; omega)]
    have := rc_get l k j (by simpa using hk) hj
    rw [R4.len, show (k + 1) * 4 + j - 4 = k * 4 + j by omega, this]
    simp
theorem Rd.rcCells {w : World} {A : Option Addr} {n c : Nat} {l : List R4} (h : Rd w (.slice A n c) 4 n (l.flatMap R4.enc)) (hl : n = l.length) (hn : 0 < n) : ∃ b off, A = some ⟨b, off, none⟩ ∧ ∀ k, k < n →
    w.cell? ⟨b, off + k * 4, none⟩ = some (.int .i64 (l.getD k default).x) ∧ w.cell? ⟨b, off + k * 4 + 1, none⟩ = some (.int .i64 (l.getD k default).y) ∧ w.cell? ⟨b, off + k * 4 + 2, none⟩ = some (.int .i64 (l.getD k default).w) ∧ w.cell? ⟨b, off + k * 4 + 3, none⟩ = some (.int .i64 (l.getD k default).h) := by
  obtain ⟨h1, A', c', hv, hc, h2⟩ := h
  simp only [Value.slice.injEq] at hv
  obtain ⟨rfl, _, rfl⟩ := hv
  obtain ⟨b, off, rfl, hb, hcell⟩ := h2 hn
  refine ⟨b, off, rfl, fun k hk => ?_⟩
  have H := fun j (hj : j < 4) u (e : ((l.getD k default).enc)[j]? = some u) => hcell (k * 4 + j) u (by rw [rc_get l k j (by omega) hj]; exact e)
  exact ⟨H 0 (by decide) _ rfl, by rw [show off + k * 4 + 1 = off + (k * 4 + 1) by omega]; exact H 1 (by decide) _ rfl, by rw [show off + k * 4 + 2 = off + (k * 4 + 2) by omega]; exact H 2 (by decide) _ rfl, by rw [show off + k * 4 + 3 = off + (k * 4 + 3) by omega]; exact H 3 (by decide) _ rfl⟩

set_option maxRecDepth 100000 in
set_option maxHeartbeats 4000000 in
theorem gSame_true (w : World) (va vb : StV) (a : St) (ha : StRd w va a) (hb : StRd w vb a) (hd : a.damage.length ≤ 1000000) (hf : a.frames.length ≤ 1000000) (hr : a.region.length ≤ 1000000) (ho : a.order.length ≤ 1000000) (hp : a.places.length ≤ 1000000) :
    Calls Tryz.prog 24 #[stVal a va, stVal a vb] w fun e w' => e = .returned (.bool true) ∧ Below w.heap.size w w' := by
  obtain ⟨ad, af, ar, ao, ap⟩ := va
  obtain ⟨bd, bf, br, bo, bp⟩ := vb
  obtain ⟨had, haf, har, hao, hap⟩ := ha
  obtain ⟨hbd, hbf, hbr, hbo, hbp⟩ := hb
  dsimp only at had haf har hao hap hbd hbf hbr hbo hbp
  obtain ⟨Ad, Adc, rfl, _⟩ := had.form
  obtain ⟨Bd, Bdc, rfl, _⟩ := hbd.form
  obtain ⟨nd, hnd⟩ : ∃ n, n = a.damage.length := ⟨_, rfl⟩
  obtain ⟨Af, Afc, rfl, _⟩ := haf.form
  obtain ⟨Bf, Bfc, rfl, _⟩ := hbf.form
  obtain ⟨nf, hnf⟩ : ∃ n, n = a.frames.length := ⟨_, rfl⟩
  obtain ⟨Ar, Arc, rfl, _⟩ := har.form
  obtain ⟨Br, Brc, rfl, _⟩ := hbr.form
  obtain ⟨nr, hnr⟩ : ∃ n, n = a.region.length := ⟨_, rfl⟩
  obtain ⟨Ao, Aoc, rfl, _⟩ := hao.form
  obtain ⟨Bo, Boc, rfl, _⟩ := hbo.form
  obtain ⟨no, hno⟩ : ∃ n, n = a.order.length := ⟨_, rfl⟩
  obtain ⟨Ap, Apc, rfl, _⟩ := hap.form
  obtain ⟨Bp, Bpc, rfl, _⟩ := hbp.form
  obtain ⟨np, hnp⟩ : ∃ n, n = a.places.length := ⟨_, rfl⟩
  unfold stVal
  dsimp only
  rw [← hnd] at had hbd hd ⊢
  rw [← hnf] at haf hbf hf ⊢
  rw [← hnr] at har hbr hr ⊢
  rw [← hno] at hao hbo ho ⊢
  rw [← hnp] at hap hbp hp ⊢
  obtain ⟨W2, hW2⟩ : ∃ W2, W2 = (w.alloc (.cells #[.bool a.attach, .int .i64 a.buffer, .slice Ad nd Adc, .slice Af nf Afc, .bool a.input, .bool a.all, .slice Ar nr Arc, .bool a.ordered, .slice Ao no Aoc, .slice Ap np Apc] 41)).alloc (.cells #[.bool a.attach, .int .i64 a.buffer, .slice Bd nd Bdc, .slice Bf nf Bfc, .bool a.input, .bool a.all, .slice Br nr Brc, .bool a.ordered, .slice Bo no Boc, .slice Bp np Bpc] 41) := ⟨_, rfl⟩
  have hbel : Below w.heap.size w W2 := by rw [hW2]; exact ((Below.refl _ w).alloc (Nat.le_refl _) _).alloc (by simp) _
  have hk1 : W2.heap[w.heap.size]? = some (.cells #[.bool a.attach, .int .i64 a.buffer, .slice Ad nd Adc, .slice Af nf Afc, .bool a.input, .bool a.all, .slice Ar nr Arc, .bool a.ordered, .slice Ao no Aoc, .slice Ap np Apc] 41 (0, 0)) := by rw [hW2]; exact heap_alloc2_old _ _ _
  have hk2 : W2.heap[w.heap.size + 1]? = some (.cells #[.bool a.attach, .int .i64 a.buffer, .slice Bd nd Bdc, .slice Bf nf Bfc, .bool a.input, .bool a.all, .slice Br nr Brc, .bool a.ordered, .slice Bo no Boc, .slice Bp np Bpc] 41 (0, 0)) := by rw [hW2]; exact heap_alloc2_new _ _ _
  have x0 := cell_of_row W2 w.heap.size 0 _ _ _ hk1
  have y0 := cell_of_row W2 (w.heap.size + 1) 0 _ _ _ hk2
  have x1 := cell_of_row W2 w.heap.size 1 _ _ _ hk1
  have y1 := cell_of_row W2 (w.heap.size + 1) 1 _ _ _ hk2
  have x2 := cell_of_row W2 w.heap.size 2 _ _ _ hk1
  have y2 := cell_of_row W2 (w.heap.size + 1) 2 _ _ _ hk2
  have x3 := cell_of_row W2 w.heap.size 3 _ _ _ hk1
  have y3 := cell_of_row W2 (w.heap.size + 1) 3 _ _ _ hk2
  have x4 := cell_of_row W2 w.heap.size 4 _ _ _ hk1
  have y4 := cell_of_row W2 (w.heap.size + 1) 4 _ _ _ hk2
  have x5 := cell_of_row W2 w.heap.size 5 _ _ _ hk1
  have y5 := cell_of_row W2 (w.heap.size + 1) 5 _ _ _ hk2
  have x6 := cell_of_row W2 w.heap.size 6 _ _ _ hk1
  have y6 := cell_of_row W2 (w.heap.size + 1) 6 _ _ _ hk2
  have x7 := cell_of_row W2 w.heap.size 7 _ _ _ hk1
  have y7 := cell_of_row W2 (w.heap.size + 1) 7 _ _ _ hk2
  have x8 := cell_of_row W2 w.heap.size 8 _ _ _ hk1
  have y8 := cell_of_row W2 (w.heap.size + 1) 8 _ _ _ hk2
  have x9 := cell_of_row W2 w.heap.size 9 _ _ _ hk1
  have y9 := cell_of_row W2 (w.heap.size + 1) 9 _ _ _ hk2
  simp at x0 y0 x1 y1 x2 y2 x3 y3 x4 y4 x5 y5 x6 y6 x7 y7 x8 y8 x9 y9
  replace had := hide (had.below hbel (Nat.le_refl _))
  replace hbd := hide (hbd.below hbel (Nat.le_refl _))
  replace hnd := hide hnd
  replace haf := hide (haf.below hbel (Nat.le_refl _))
  replace hbf := hide (hbf.below hbel (Nat.le_refl _))
  replace hnf := hide hnf
  replace har := hide (har.below hbel (Nat.le_refl _))
  replace hbr := hide (hbr.below hbel (Nat.le_refl _))
  replace hnr := hide hnr
  replace hao := hide (hao.below hbel (Nat.le_refl _))
  replace hbo := hide (hbo.below hbel (Nat.le_refl _))
  replace hno := hide hno
  replace hap := hide (hap.below hbel (Nat.le_refl _))
  replace hbp := hide (hbp.below hbel (Nat.le_refl _))
  replace hnp := hide hnp
  replace hW2 := hide hW2
  replace hbel := hide hbel
  have g1 := Tryz.chNoGuard
  have g2 := Tryz.chEq
  have g3 := Tryz.rcNoGuard
  have g4 := Tryz.rcEq
  clear hk1 hk2
  go_enter Tryz.func24, Tryz.ntmps24
  go_upto_region 3 with fail
  rw [← hW2.out]
  go_wp2
  go_loopw [5, 6] (fun u i wr => ∃ k : Nat, k ≤ nd ∧ u = .bool true ∧ i = .int .i64 k ∧ ∃ q, wr = W2.drewN q) (fun _ i _ => nd - (intOf i).toNat)
  case atStart => exact ⟨0, Nat.zero_le _, rfl, rfl, 0, rfl⟩
  case round =>
    obtain ⟨k, hk, rfl, rfl, q, rfl⟩ := hrel
    by_cases hlt : k < nd
    · obtain ⟨b, off, rfl, hcx⟩ := had.out.rcCells hnd.out (by omega)
      obtain ⟨b2, off2, rfl, hcy⟩ := hbd.out.rcCells hnd.out (by omega)
      obtain ⟨k0, k1, k2, k3⟩ := hcx k hlt
      obtain ⟨m0, m1, m2, m3⟩ := hcy k hlt
      generalize a.damage.getD k default = y at k0 k1 k2 k3 m0 m1 m2 m3
      obtain ⟨y0, y1, y2, y3⟩ := y
      dsimp only at k0 k1 k2 k3 m0 m1 m2 m3
      clear hcx hcy
      go_wp2
      go_quiet (fail)
      all_goals go_wp2
      go_roundw
      case rel => exact ⟨k + 1, by omega, rfl, by go_num, _, rfl⟩
      case measure => simp [intOf]; omega
    · obtain rfl : k = nd := by omega
      go_wp2
      go_loopw [5, 7] (fun u i wr => ∃ k : Nat, k ≤ nf ∧ u = .bool true ∧ i = .int .i64 k ∧ ∃ q, wr = W2.drewN q) (fun _ i _ => nf - (intOf i).toNat)
      case atStart => exact ⟨0, Nat.zero_le _, rfl, rfl, _, rfl⟩
      case round =>
        obtain ⟨k, hk, rfl, rfl, q, rfl⟩ := hrel
        by_cases hlt : k < nf
        · obtain ⟨b, off, rfl, hb1, hcx⟩ := haf.out.open1 (by omega)
          obtain ⟨b2, off2, rfl, hb2, hcy⟩ := hbf.out.open1 (by omega)
          have k0 := hcx k hlt
          have m0 := hcy k hlt
          generalize a.frames.getD k 0 = y at k0 m0
          clear hcx hcy hb1 hb2
          go_wp2
          go_quiet (fail)
          all_goals go_wp2
          go_roundw
          case rel => exact ⟨k + 1, by omega, rfl, by go_num, _, rfl⟩
          case measure => simp [intOf]; omega
        · obtain rfl : k = nf := by omega
          go_wp2
          go_loopw [5, 8] (fun u i wr => ∃ k : Nat, k ≤ nr ∧ u = .bool true ∧ i = .int .i64 k ∧ ∃ q, wr = W2.drewN q) (fun _ i _ => nr - (intOf i).toNat)
          case atStart => exact ⟨0, Nat.zero_le _, rfl, rfl, _, rfl⟩
          case round =>
            obtain ⟨k, hk, rfl, rfl, q, rfl⟩ := hrel
            by_cases hlt : k < nr
            · obtain ⟨b, off, rfl, hcx⟩ := har.out.rcCells hnr.out (by omega)
              obtain ⟨b2, off2, rfl, hcy⟩ := hbr.out.rcCells hnr.out (by omega)
              obtain ⟨k0, k1, k2, k3⟩ := hcx k hlt
              obtain ⟨m0, m1, m2, m3⟩ := hcy k hlt
              generalize a.region.getD k default = y at k0 k1 k2 k3 m0 m1 m2 m3
              obtain ⟨y0, y1, y2, y3⟩ := y
              dsimp only at k0 k1 k2 k3 m0 m1 m2 m3
              clear hcx hcy
              go_wp2
              go_quiet (fail)
              all_goals go_wp2
              go_roundw
              case rel => exact ⟨k + 1, by omega, rfl, by go_num, _, rfl⟩
              case measure => simp [intOf]; omega
            · obtain rfl : k = nr := by omega
              go_wp2
              go_loopw [5, 9] (fun u i wr => ∃ k : Nat, k ≤ no ∧ u = .bool true ∧ i = .int .i64 k ∧ ∃ q, wr = W2.drewN q) (fun _ i _ => no - (intOf i).toNat)
              case atStart => exact ⟨0, Nat.zero_le _, rfl, rfl, _, rfl⟩
              case round =>
                obtain ⟨k, hk, rfl, rfl, q, rfl⟩ := hrel
                by_cases hlt : k < no
                · obtain ⟨b, off, rfl, hb1, hcx⟩ := hao.out.open1 (by omega)
                  obtain ⟨b2, off2, rfl, hb2, hcy⟩ := hbo.out.open1 (by omega)
                  have k0 := hcx k hlt
                  have m0 := hcy k hlt
                  generalize a.order.getD k 0 = y at k0 m0
                  clear hcx hcy hb1 hb2
                  go_wp2
                  go_quiet (fail)
                  all_goals go_wp2
                  go_roundw
                  case rel => exact ⟨k + 1, by omega, rfl, by go_num, _, rfl⟩
                  case measure => simp [intOf]; omega
                · obtain rfl : k = no := by omega
                  go_wp2
                  go_loopw [5, 10] (fun u i wr => ∃ k : Nat, k ≤ np ∧ u = .bool true ∧ i = .int .i64 k ∧ ∃ q, wr = W2.drewN q) (fun _ i _ => np - (intOf i).toNat)
                  case atStart => exact ⟨0, Nat.zero_le _, rfl, rfl, _, rfl⟩
                  case round =>
                    obtain ⟨k, hk, rfl, rfl, q, rfl⟩ := hrel
                    by_cases hlt : k < np
                    · obtain ⟨b, off, rfl, hb1, hcx⟩ := hap.out.chCells hnp.out (by omega)
                      obtain ⟨b2, off2, rfl, hb2, hcy⟩ := hbp.out.chCells hnp.out (by omega)
                      obtain ⟨k0, k1, k2⟩ := hcx k hlt
                      obtain ⟨m0, m1, m2⟩ := hcy k hlt
                      generalize a.places.getD k default = y at k0 k1 k2 m0 m1 m2
                      obtain ⟨y0, y1, y2⟩ := y
                      dsimp only at k0 k1 k2 m0 m1 m2
                      clear hcx hcy
                      go_wp2
                      go_quiet (fail)
                      all_goals go_wp2
                      go_roundw
                      case rel => exact ⟨k + 1, by omega, rfl, by go_num, _, rfl⟩
                      case measure => simp [intOf]; omega
                    · obtain rfl : k = np := by omega
                      go_wp2
                      go_ret
                      exact ⟨rfl, below_drewN hbel.out _⟩
end Go.Proofs.YthkjicnnepkghaaGreatDoor
