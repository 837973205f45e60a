/-
  tableaulaw00.SameChildren of two rows that read alike.
-/
import Derived.Test.YthkjicnnepkghaaDoorFMem2
import Derived.Laws.StructEq
import Derived.Deep.QuietTactic
import Derived.BigQuiet
namespace Go.Proofs.YthkjicnnepkghaaDoor
open Go.RowKit
set_option linter.unusedVariables false

theorem Tryd.chFields : (Tryd.prog.fieldsOf 51).toList.map (fun f => (f.name, f.type, f.offset)) = [("ID", 3, 0), ("X", 3, 1), ("Y", 3, 2)] := by kernel_rfl
theorem Tryd.chStruct : Tryd.prog.underlying 51 = some (.struct (Tryd.prog.fieldsOf 51)) := by kernel_rfl
theorem Tryd.chNoStand : Tryd.prog.stoodInHeld 51 = false := by kernel_rfl
theorem Tryd.chNoGuard : Tryd.prog.eqGuardType Tryd.prog.depth 51 = false := by kernel_rfl
theorem Tryd.chEq (x y z : Int) (w : World) : (Op.equalIn 10000 51 (.agg #[.int .i64 x, .int .i64 y, .int .i64 z]) (.agg #[.int .i64 x, .int .i64 y, .int .i64 z])).run Tryd.prog w = .ok true w := by
  rw [run_equalIn_struct w 9999 51 _ _ Tryd.chStruct Tryd.chNoStand]
  have h := Tryd.chFields
  generalize (Tryd.prog.fieldsOf 51).toList = fs at h
  obtain ⟨f0, f1, f2, rfl⟩ : ∃ f0 f1 f2, fs = [f0, f1, f2] := by
    have hl := congrArg List.length h
    simp only [List.length_map, List.length_cons, List.length_nil] at hl
    rcases fs with _ | ⟨f0, _ | ⟨f1, _ | ⟨f2, _ | ⟨f3, r⟩⟩⟩⟩ <;> simp at hl
    exact ⟨f0, f1, f2, rfl⟩
  simp only [List.map_cons, List.map_nil, List.cons.injEq, Prod.mk.injEq, and_true] at h
  obtain ⟨⟨a0, b0, c0⟩, ⟨a1, b1, c1⟩, a2, b2, c2⟩ := h
  simp [Op.eqFields, a0, b0, c0, a1, b1, c1, a2, b2, c2, go_sem, Tryd.underlying3]

set_option maxRecDepth 100000 in
set_option maxHeartbeats 1000000 in
theorem sameCh_true (w : World) (v u : Value) (L : List Ch) (hx : Rd w v 3 L.length (L.flatMap Ch.enc)) (hy : Rd w u 3 L.length (L.flatMap Ch.enc)) (hl : L.length ≤ 1000000) :
    Calls Tryd.prog 28 #[v, u] w fun e w' => e = .returned (.bool true) ∧ ∃ q, w' = w.drewN q := by
  obtain ⟨A, c, rfl, _⟩ := hx.form
  obtain ⟨A2, c2, rfl, _⟩ := hy.form
  obtain ⟨n, hn⟩ : ∃ n, n = L.length := ⟨_, rfl⟩
  rw [← hn] at hx hy hl ⊢
  have g1 := Tryd.chNoGuard
  have g2 := Tryd.chEq
  replace hn := hide hn
  replace hx := hide hx
  replace hy := hide hy
  go_enter Tryd.func28, Tryd.ntmps28
  go_wp2
  go_loopw [5] (fun i wr => ∃ k : Nat, k ≤ n ∧ i = .int .i64 k ∧ ∃ q, wr = w.drewN q) (fun i _ => n - (intOf i).toNat)
  case atStart => exact ⟨0, Nat.zero_le _, rfl, 0, rfl⟩
  case round =>
    obtain ⟨k, hk, rfl, q, rfl⟩ := hrel
    by_cases hlt : k < n
    · obtain ⟨b, off, rfl, hb1, hcx⟩ := hx.out.chCells hn.out (by omega)
      obtain ⟨b2, off2, rfl, hb2, hcy⟩ := hy.out.chCells hn.out (by omega)
      obtain ⟨k0, k1, k2⟩ := hcx k hlt
      obtain ⟨m0, m1, m2⟩ := hcy k hlt
      generalize L.getD k default = y at k0 k1 k2 m0 m1 m2
      obtain ⟨y0, y1, y2⟩ := y
      dsimp only at k0 k1 k2 m0 m1 m2
      clear hcx hcy
      go_wp2
      go_quiet (fail)
      all_goals go_wp2
      go_roundw
      case rel => exact ⟨k + 1, by omega, by go_num, _, rfl⟩
      case measure => simp [intOf]; omega
    · obtain rfl : k = n := by omega
      go_wp2
      go_ret
      exact ⟨rfl, _, rfl⟩
end Go.Proofs.YthkjicnnepkghaaDoor
