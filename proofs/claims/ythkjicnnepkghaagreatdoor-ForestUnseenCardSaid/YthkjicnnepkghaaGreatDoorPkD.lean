/-
  The sixteen errors of package api, as a world holds them; errors.Is between them; tableaulaw00.Kind.
  tableaulaw00.Kind, of an error by its number.
-/
import Derived.Test.YthkjicnnepkghaaGreatDoorChecked
import Derived.Test.YthkjicnnepkghaaGreatDoorPkA
import Derived.LaidEql
import Derived.Stop.Asserts
import Derived.RowKitTokens
namespace Go.Proofs.YthkjicnnepkghaaGreatDoor
open Go.RowKit Go.Extern.Stop Go.Stop Go.Extern

def errG : Nat → Nat
  | 0 => 0 | 1 => 1 | 2 => 2 | 3 => 3
  | 4 => 4 | 5 => 5 | 6 => 6 | 7 => 7
  | 8 => 8 | 9 => 9 | 10 => 10 | 11 => 11
  | 12 => 12 | 13 => 13 | 14 => 14 | _ => 15

def errV (ae : Nat → Addr) : Nat → Value
  | 0 => .nilIface
  | k + 1 => .iface 205 (.pointer (some (ae k)))

structure Errs (B : Nat) (w : World) (ae : Nat → Addr) : Prop where
  glob : ∀ k, k < 16 → w.cell? ⟨errG k, 0, none⟩ = some (.iface 205 (.pointer (some (ae k))))
  obj : ∀ k, k < 16 → ∃ cs t, w.heap[(ae k).block]? = some (.cells cs t (0, 0))
  inj : ∀ i j, i < 16 → j < 16 → ae i = ae j → i = j
  lt : ∀ k, k < 16 → (ae k).block < B ∧ errG k < B

theorem Errs.below {B : Nat} {w w' : World} {ae : Nat → Addr} (h : Errs B w ae) (hb : Below B w w') : Errs B w' ae :=
  ⟨fun k hk => (hb.cell (p := ⟨errG k, 0, none⟩) (h.lt k hk).2).trans (h.glob k hk),
   fun k hk => by
    obtain ⟨cs, t, hc⟩ := h.obj k hk
    exact ⟨cs, t, (hb.block _ (h.lt k hk).1).trans hc⟩,
   h.inj, h.lt⟩
theorem Errs.drewN {B : Nat} {w : World} {ae : Nat → Addr} (h : Errs B w ae) (n : Nat) : Errs B (w.drewN n) ae := h.below (below_drewN (Below.refl _ _) n)

theorem Errs.alloc {B : Nat} {w : World} {ae : Nat → Addr} (h : Errs B w ae) (o : Obj) : Errs B (w.alloc o) ae :=
  ⟨fun k hk => by rw [World.cell?_alloc_past _ _ _ (block_lt_of_cell (h.glob k hk))]; exact h.glob k hk,
   fun k hk => by
    obtain ⟨cs, t, hc⟩ := h.obj k hk
    exact ⟨cs, t, (Below.heap_alloc _ _ _ (lt_of_block hc)).trans hc⟩,
   h.inj, h.lt⟩

def fiveK (k : Nat) : Bool := k == 0 || k == 3 || k == 4 || k == 9 || k == 10
structure ErrF (B : Nat) (w : World) (ae : Nat → Addr) : Prop where
  glob : ∀ k, fiveK k = true → w.cell? ⟨errG k, 0, none⟩ = some (.iface 205 (.pointer (some (ae k))))
  lt : ∀ k, fiveK k = true → errG k < B
theorem ErrF.below {B : Nat} {w w' : World} {ae : Nat → Addr} (h : ErrF B w ae) (hb : Below B w w') : ErrF B w' ae := ⟨fun k hk => (hb.cell (p := ⟨errG k, 0, none⟩) (h.lt k hk)).trans (h.glob k hk), h.lt⟩
theorem ErrF.drewN {B : Nat} {w : World} {ae : Nat → Addr} (h : ErrF B w ae) (n : Nat) : ErrF B (w.drewN n) ae := h.below (below_drewN (Below.refl _ _) n)
theorem ErrF.alloc {B : Nat} {w : World} {ae : Nat → Addr} (h : ErrF B w ae) (o : Obj) : ErrF B (w.alloc o) ae :=
  ⟨fun k hk => by rw [World.cell?_alloc_past _ _ _ (block_lt_of_cell (h.glob k hk))]; exact h.glob k hk, h.lt⟩
theorem ErrF.wider {B B' : Nat} {w : World} {ae : Nat → Addr} (h : ErrF B w ae) (hB : B ≤ B') : ErrF B' w ae := ⟨h.glob, fun k hk => Nat.lt_of_lt_of_le (h.lt k hk) hB⟩
theorem five_lt {k : Nat} (h : fiveK k = true) : k < 16 := by
  simp only [fiveK, Bool.or_eq_true, beq_iff_eq] at h
  omega
theorem Errs.five {B : Nat} {w : World} {ae : Nat → Addr} (h : Errs B w ae) : ErrF B w ae := ⟨fun k hk => h.glob k (five_lt hk), fun k hk => (h.lt k (five_lt hk)).2⟩
instance {B : Nat} {w : World} {ae : Nat → Addr} : Coe (Errs B w ae) (ErrF B w ae) := ⟨Errs.five⟩

theorem Tryz.isTypeOf (v : Value) (w : World) : (Extern.ReflectliteType.typeOf #[.iface 205 v]).run Tryz.prog w = .ok (.iface 180 (.agg #[.pointer (some ⟨16, 205, none⟩)])) w := by kernel_rfl
theorem Tryz.isComparable (w : World) : ((Extern.ReflectliteType.method fun t => do Rtype.noPackHeld "Comparable" t; (fun a => Value.bool a.comparable) <$> typeInfo t) #[.agg #[.pointer (some ⟨16, 205, none⟩)]]).run Tryz.prog w = .ok (.bool true) w := by kernel_rfl
theorem Tryz.isMethodComparable (v : Value) (w : World) : (Go.method 342 180 v "Comparable").run Tryz.prog w = .ok (197, v) w := by kernel_rfl
theorem Tryz.isComp : (Tryz.prog.info? 205).map (·.comparable) = some true := by kernel_rfl
theorem Tryz.isSize : (Tryz.prog.info? 230).map (·.size) = some 1 := by kernel_rfl
theorem Tryz.noIsE (v : Value) (xT : TypeId) (w : World) : (Instr.typeAssert (.iface 205 v) xT 182 true).run Tryz.prog w = .ok (.tuple #[.nilIface, .bool false]) w := run_typeAssert_lacksB Tryz.underlying182 (by kernel_rfl) (by kernel_rfl) v xT w
theorem Tryz.noUnwrapE (v : Value) (xT : TypeId) (w : World) : (Instr.typeAssert (.iface 205 v) xT 185 true).run Tryz.prog w = .ok (.tuple #[.nilIface, .bool false]) w := run_typeAssert_lacksB Tryz.underlying185 (by kernel_rfl) (by kernel_rfl) v xT w
theorem Tryz.noUnwrapsE (v : Value) (xT : TypeId) (w : World) : (Instr.typeAssert (.iface 205 v) xT 187 true).run Tryz.prog w = .ok (.tuple #[.nilIface, .bool false]) w := run_typeAssert_lacksB Tryz.underlying187 (by kernel_rfl) (by kernel_rfl) v xT w

set_option maxRecDepth 100000 in
theorem is_same (a : Addr) (w : World) :
    Calls Tryz.prog 88 #[.iface 205 (.pointer (some a)), .iface 205 (.pointer (some a))] w fun e w' => e = .returned (.bool true) ∧ w = w' := by
  obtain ⟨i, hi, hcmp⟩ := Option.map_eq_some_iff.1 Tryz.isComp
  obtain ⟨j, hj, hjs⟩ := Option.map_eq_some_iff.1 Tryz.isSize
  have h8 := @run_callFunc_extern Tryz.prog 128 _ Extern.ReflectliteType.typeOf Tryz.func128 (by kernel_rfl) (by kernel_rfl) (by kernel_rfl) (by kernel_rfl)
  have h32 := @run_callFunc_extern Tryz.prog 197 _ (Extern.ReflectliteType.method fun t => do Rtype.noPackHeld "Comparable" t; pure (.bool (← typeInfo t).comparable)) Tryz.func197 (by kernel_rfl) (by kernel_rfl) (by kernel_rfl) (by kernel_rfl)
  have tT := Tryz.isTypeOf
  have cT := Tryz.isComparable
  have mR := Tryz.isMethodComparable
  have heq := run_eql_iface_ptr_same (P := Tryz.prog) w a Tryz.underlying45 Tryz.underlying205 hi hcmp hj
  go_enter Tryz.func88, Tryz.ntmps88
  go_wp2
  refine wp_loop_rounds 1 ?_
  rw [rounds_succ]
  go_wp2
  go_ret
  exact ⟨rfl, rfl⟩

set_option maxRecDepth 100000 in
theorem is_other (a b : Addr) (ca cb : Array Value) (ta tb : TypeId) (w : World) (hne : a ≠ b) (ha : w.heap[a.block]? = some (.cells ca ta (0, 0))) (hb : w.heap[b.block]? = some (.cells cb tb (0, 0))) :
    Calls Tryz.prog 88 #[.iface 205 (.pointer (some a)), .iface 205 (.pointer (some b))] w fun e w' => e = .returned (.bool false) ∧ w = w' := by
  obtain ⟨i, hi, hcmp⟩ := Option.map_eq_some_iff.1 Tryz.isComp
  obtain ⟨j, hj, hjs⟩ := Option.map_eq_some_iff.1 Tryz.isSize
  have h8 := @run_callFunc_extern Tryz.prog 128 _ Extern.ReflectliteType.typeOf Tryz.func128 (by kernel_rfl) (by kernel_rfl) (by kernel_rfl) (by kernel_rfl)
  have h32 := @run_callFunc_extern Tryz.prog 197 _ (Extern.ReflectliteType.method fun t => do Rtype.noPackHeld "Comparable" t; pure (.bool (← typeInfo t).comparable)) Tryz.func197 (by kernel_rfl) (by kernel_rfl) (by kernel_rfl) (by kernel_rfl)
  have tT := Tryz.isTypeOf
  have cT := Tryz.isComparable
  have mR := Tryz.isMethodComparable
  have nE := Tryz.noIsE
  have uE := Tryz.noUnwrapE
  have vE := Tryz.noUnwrapsE
  have heq := run_eql_iface_ptr_other (P := Tryz.prog) w Tryz.underlying45 Tryz.underlying205 hi hcmp hj (by rw [hjs]; decide) hne ha hb
  go_enter Tryz.func88, Tryz.ntmps88
  go_wp2
  refine wp_loop_rounds 1 ?_
  rw [rounds_succ]
  go_wp2
  go_ret
  exact ⟨rfl, rfl⟩

set_option maxRecDepth 100000 in
theorem is_nil (a : Addr) (w : World) :
    Calls Tryz.prog 88 #[.nilIface, .iface 205 (.pointer (some a))] w fun e w' => e = .returned (.bool false) ∧ w = w' := by
  have heq := run_eql_iface_nil_left (P := Tryz.prog) (w := w) 205 (.pointer (some a)) Tryz.underlying45
  go_enter Tryz.func88, Tryz.ntmps88
  go_wp2
  go_ret
  exact ⟨rfl, rfl⟩

end Go.Proofs.YthkjicnnepkghaaGreatDoor
namespace Go.Proofs.YthkjicnnepkghaaGreatDoor
open Go.RowKit
def errRow (ae : Nat → Addr) : Array Value := #[.iface 205 (.pointer (some (ae 0))), .iface 205 (.pointer (some (ae 1))), .iface 205 (.pointer (some (ae 2))), .iface 205 (.pointer (some (ae 3))), .iface 205 (.pointer (some (ae 4))), .iface 205 (.pointer (some (ae 5))), .iface 205 (.pointer (some (ae 6))), .iface 205 (.pointer (some (ae 7))), .iface 205 (.pointer (some (ae 8))), .iface 205 (.pointer (some (ae 9))), .iface 205 (.pointer (some (ae 10))), .iface 205 (.pointer (some (ae 11))), .iface 205 (.pointer (some (ae 12))), .iface 205 (.pointer (some (ae 13))), .iface 205 (.pointer (some (ae 14))), .iface 205 (.pointer (some (ae 15)))]

theorem errRow_at (ae : Nat → Addr) (i : Nat) (h : i < 16) : (errRow ae)[i]? = some (.iface 205 (.pointer (some (ae i)))) :=
  match i, h with
  | 0, _ => rfl
  | 1, _ => rfl
  | 2, _ => rfl
  | 3, _ => rfl
  | 4, _ => rfl
  | 5, _ => rfl
  | 6, _ => rfl
  | 7, _ => rfl
  | 8, _ => rfl
  | 9, _ => rfl
  | 10, _ => rfl
  | 11, _ => rfl
  | 12, _ => rfl
  | 13, _ => rfl
  | 14, _ => rfl
  | 15, _ => rfl
  | i + 16, h => absurd h (by omega)

set_option maxRecDepth 100000 in
set_option maxHeartbeats 1000000 in
theorem kind_any (B : Nat) (w : World) (ae : Nat → Addr) (k : Nat) (hE : Errs B w ae) (hk : k ≤ 16) :
    Calls Tryz.prog 37 #[errV ae k] w fun e w' => e = .returned (.int .i64 k) ∧ Below w.heap.size w w' := by
  have g0 : w.cell? ⟨0, 0, none⟩ = _ := hE.glob 0 (by decide)
  have g1 : w.cell? ⟨1, 0, none⟩ = _ := hE.glob 1 (by decide)
  have g2 : w.cell? ⟨2, 0, none⟩ = _ := hE.glob 2 (by decide)
  have g3 : w.cell? ⟨3, 0, none⟩ = _ := hE.glob 3 (by decide)
  have g4 : w.cell? ⟨4, 0, none⟩ = _ := hE.glob 4 (by decide)
  have g5 : w.cell? ⟨5, 0, none⟩ = _ := hE.glob 5 (by decide)
  have g6 : w.cell? ⟨6, 0, none⟩ = _ := hE.glob 6 (by decide)
  have g7 : w.cell? ⟨7, 0, none⟩ = _ := hE.glob 7 (by decide)
  have g8 : w.cell? ⟨8, 0, none⟩ = _ := hE.glob 8 (by decide)
  have g9 : w.cell? ⟨9, 0, none⟩ = _ := hE.glob 9 (by decide)
  have g10 : w.cell? ⟨10, 0, none⟩ = _ := hE.glob 10 (by decide)
  have g11 : w.cell? ⟨11, 0, none⟩ = _ := hE.glob 11 (by decide)
  have g12 : w.cell? ⟨12, 0, none⟩ = _ := hE.glob 12 (by decide)
  have g13 : w.cell? ⟨13, 0, none⟩ = _ := hE.glob 13 (by decide)
  have g14 : w.cell? ⟨14, 0, none⟩ = _ := hE.glob 14 (by decide)
  have g15 : w.cell? ⟨15, 0, none⟩ = _ := hE.glob 15 (by decide)
  cases k with
  | zero =>
    show Calls Tryz.prog 37 #[.nilIface] w _
    go_enter Tryz.func37, Tryz.ntmps37
    go_wp2
    go_ret
    exact ⟨rfl, (Below.refl _ _).alloc (Nat.le_refl _) _⟩
  | succ k =>
    show Calls Tryz.prog 37 #[.iface 205 (.pointer (some (ae k)))] w _
    have Hs := hide (is_same (ae k))
    have Ho := hide (fun (j : Nat) (W : World) (h1 : j ≠ k) (h2 : j < 16) (h3 : Errs B W ae) => by
      obtain ⟨ca, ta, hca⟩ := h3.obj k (by omega)
      obtain ⟨cb, tb, hcb⟩ := h3.obj j h2
      exact is_other (ae k) (ae j) ca cb ta tb W (fun e => h1 (h3.inj k j (by omega) h2 e).symm) hca hcb)
    go_enter Tryz.func37, Tryz.ntmps37
    go_wp2
    go_loopw [4] (fun i wr => ∃ j : Nat, j ≤ k ∧ i = .int .i64 j ∧ wr.heap[w.heap.size]? = some (.cells (errRow ae) 127 (0, 0)) ∧ Below w.heap.size w wr ∧ Errs B wr ae)
      (fun i _ => 16 - (intOf i).toNat)
    case atStart => exact ⟨0, Nat.zero_le _, rfl, heap_alloc_new _ _, (Below.refl _ _).alloc (Nat.le_refl _) _, hE.alloc _⟩
    case round =>
      obtain ⟨j, hj, rfl, hrow, hB, hE1⟩ := hrel
      clear g0 g1 g2 g3 g4 g5 g6 g7 g8 g9 g10 g11 g12 g13 g14 g15
      have hcx : wr.cell? ⟨w.heap.size, j, none⟩ = some (.iface 205 (.pointer (some (ae j)))) := by
        rw [cell_of_row wr w.heap.size j _ _ _ hrow]; exact errRow_at ae j (by omega)
      have Hrow := hide hrow
      clear hrow
      by_cases hjk : j = k
      · subst hjk
        have HS := hide (Hs.out wr)
        go_wp2_with fail
        refine HS.out.mono ?_
        rintro e w2 ⟨rfl, rfl⟩
        go_wp2
        go_ret
        exact ⟨by go_num, hB⟩
      · have HO := hide (Ho.out j wr hjk (by omega) hE1)
        go_wp2_with fail
        refine HO.out.mono ?_
        rintro e w2 ⟨rfl, rfl⟩
        go_wp2
        go_roundw
        case rel => exact ⟨j + 1, by omega, by go_num, Hrow.out, hB, hE1⟩
        case measure => simp [intOf]; omega
end Go.Proofs.YthkjicnnepkghaaGreatDoor
