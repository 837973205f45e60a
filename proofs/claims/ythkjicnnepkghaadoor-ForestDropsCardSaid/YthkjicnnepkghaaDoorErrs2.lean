/-
  tableaulaw00.Kind, of an error by its number.
-/
import Derived.Test.YthkjicnnepkghaaDoorErrs
namespace Go.Proofs.YthkjicnnepkghaaDoor
open Go.RowKit
def errRow (ae : Nat → Addr) : Array Value := #[.iface 151 (.pointer (some (ae 0))), .iface 151 (.pointer (some (ae 1))), .iface 151 (.pointer (some (ae 2))), .iface 151 (.pointer (some (ae 3))), .iface 151 (.pointer (some (ae 4))), .iface 151 (.pointer (some (ae 5))), .iface 151 (.pointer (some (ae 6))), .iface 151 (.pointer (some (ae 7))), .iface 151 (.pointer (some (ae 8))), .iface 151 (.pointer (some (ae 9))), .iface 151 (.pointer (some (ae 10))), .iface 151 (.pointer (some (ae 11))), .iface 151 (.pointer (some (ae 12))), .iface 151 (.pointer (some (ae 13))), .iface 151 (.pointer (some (ae 14))), .iface 151 (.pointer (some (ae 15)))]

theorem errRow_at (ae : Nat → Addr) (i : Nat) (h : i < 16) : (errRow ae)[i]? = some (.iface 151 (.pointer (some (ae i)))) :=
  match i, h with
  | 0, _ => rfl
  | 1, _ => rfl
  | 2, _ => rfl
  | 3, _ => rfl
  | 4, _ => rfl
  | 5, _ => rfl
  | 6, _ => rfl
  | 7, _ => rfl
  | 8, _ => rfl
  | 9, _ => rfl
  | 10, _ => rfl
  | 11, _ => rfl
  | 12, _ => rfl
  | 13, _ => rfl
  | 14, _ => rfl
  | 15, _ => rfl
  | i + 16, h => absurd h (by omega)

set_option maxRecDepth 100000 in
set_option maxHeartbeats 1000000 in
/-- tableaulaw00.Kind of an error by its number. -/
theorem kind_any (B : Nat) (w : World) (ae : Nat → Addr) (k : Nat) (hE : Errs B w ae) (hk : k ≤ 16) :
    Calls Tryd.prog 18 #[errV ae k] w fun e w' => e = .returned (.int .i64 k) ∧ Below w.heap.size w w' := by
  have g0 : w.cell? ⟨0, 0, none⟩ = _ := hE.glob 0 (by decide)
  have g1 : w.cell? ⟨5, 0, none⟩ = _ := hE.glob 1 (by decide)
  have g2 : w.cell? ⟨6, 0, none⟩ = _ := hE.glob 2 (by decide)
  have g3 : w.cell? ⟨2, 0, none⟩ = _ := hE.glob 3 (by decide)
  have g4 : w.cell? ⟨1, 0, none⟩ = _ := hE.glob 4 (by decide)
  have g5 : w.cell? ⟨7, 0, none⟩ = _ := hE.glob 5 (by decide)
  have g6 : w.cell? ⟨8, 0, none⟩ = _ := hE.glob 6 (by decide)
  have g7 : w.cell? ⟨9, 0, none⟩ = _ := hE.glob 7 (by decide)
  have g8 : w.cell? ⟨10, 0, none⟩ = _ := hE.glob 8 (by decide)
  have g9 : w.cell? ⟨3, 0, none⟩ = _ := hE.glob 9 (by decide)
  have g10 : w.cell? ⟨4, 0, none⟩ = _ := hE.glob 10 (by decide)
  have g11 : w.cell? ⟨11, 0, none⟩ = _ := hE.glob 11 (by decide)
  have g12 : w.cell? ⟨12, 0, none⟩ = _ := hE.glob 12 (by decide)
  have g13 : w.cell? ⟨13, 0, none⟩ = _ := hE.glob 13 (by decide)
  have g14 : w.cell? ⟨14, 0, none⟩ = _ := hE.glob 14 (by decide)
  have g15 : w.cell? ⟨15, 0, none⟩ = _ := hE.glob 15 (by decide)
  cases k with
  | zero =>
    show Calls Tryd.prog 18 #[.nilIface] w _
    go_enter Tryd.func18, Tryd.ntmps18
    go_wp2
    go_ret
    exact ⟨rfl, (Below.refl _ _).alloc (Nat.le_refl _) _⟩
  | succ k =>
    show Calls Tryd.prog 18 #[.iface 151 (.pointer (some (ae k)))] w _
    have Hs := hide (is_same (ae k))
    have Ho := hide (fun (j : Nat) (W : World) (h1 : j ≠ k) (h2 : j < 16) (h3 : Errs B W ae) => by
      obtain ⟨ca, ta, hca⟩ := h3.obj k (by omega)
      obtain ⟨cb, tb, hcb⟩ := h3.obj j h2
      exact is_other (ae k) (ae j) ca cb ta tb W (fun e => h1 (h3.inj k j (by omega) h2 e).symm) hca hcb)
    go_enter Tryd.func18, Tryd.ntmps18
    go_wp2
    go_loopw [4] (fun i wr => ∃ j : Nat, j ≤ k ∧ i = .int .i64 j ∧ wr.heap[w.heap.size]? = some (.cells (errRow ae) 75 (0, 0)) ∧ Below w.heap.size w wr ∧ Errs B wr ae)
      (fun i _ => 16 - (intOf i).toNat)
    case atStart => exact ⟨0, Nat.zero_le _, rfl, heap_alloc_new _ _, (Below.refl _ _).alloc (Nat.le_refl _) _, hE.alloc _⟩
    case round =>
      obtain ⟨j, hj, rfl, hrow, hB, hE1⟩ := hrel
      clear g0 g1 g2 g3 g4 g5 g6 g7 g8 g9 g10 g11 g12 g13 g14 g15
      have hcx : wr.cell? ⟨w.heap.size, j, none⟩ = some (.iface 151 (.pointer (some (ae j)))) := by
        rw [cell_of_row wr w.heap.size j _ _ _ hrow]; exact errRow_at ae j (by omega)
      have Hrow := hide hrow
      clear hrow
      by_cases hjk : j = k
      · subst hjk
        have HS := hide (Hs.out wr)
        go_wp2_with fail
        refine HS.out.mono ?_
        rintro e w2 ⟨rfl, rfl⟩
        go_wp2
        go_ret
        exact ⟨by go_num, hB⟩
      · have HO := hide (Ho.out j wr hjk (by omega) hE1)
        go_wp2_with fail
        refine HO.out.mono ?_
        rintro e w2 ⟨rfl, rfl⟩
        go_wp2
        go_roundw
        case rel => exact ⟨j + 1, by omega, by go_num, Hrow.out, hB, hE1⟩
        case measure => simp [intOf]; omega
end Go.Proofs.YthkjicnnepkghaaDoor
