/-
  The sixteen errors of package api, as a world holds them; errors.Is between them; tableaulaw00.Kind.
-/
import Derived.Test.YthkjicnnepkghaaDoorChecked
import Derived.Test.YthkjicnnepkghaaDoorBase
import Derived.LaidEql
import Derived.Stop.Asserts
import Derived.RowKitTokens
namespace Go.Proofs.YthkjicnnepkghaaDoor
open Go.RowKit Go.Extern.Stop Go.Stop Go.Extern

/-- The variable of the k-th error, in the order of the document. -/
def errG : Nat → Nat
  | 0 => 0 | 1 => 5 | 2 => 6 | 3 => 2
  | 4 => 1 | 5 => 7 | 6 => 8 | 7 => 9
  | 8 => 10 | 9 => 3 | 10 => 4 | 11 => 11
  | 12 => 12 | 13 => 13 | 14 => 14 | _ => 15

/-- An error by its number: 0 is nil. -/
def errV (ae : Nat → Addr) : Nat → Value
  | 0 => .nilIface
  | k + 1 => .iface 151 (.pointer (some (ae k)))

/-- What a world holds of the sixteen errors, all below block B. -/
structure Errs (B : Nat) (w : World) (ae : Nat → Addr) : Prop where
  glob : ∀ k, k < 16 → w.cell? ⟨errG k, 0, none⟩ = some (.iface 151 (.pointer (some (ae k))))
  obj : ∀ k, k < 16 → ∃ cs t, w.heap[(ae k).block]? = some (.cells cs t (0, 0))
  inj : ∀ i j, i < 16 → j < 16 → ae i = ae j → i = j
  lt : ∀ k, k < 16 → (ae k).block < B ∧ errG k < B

theorem Errs.below {B : Nat} {w w' : World} {ae : Nat → Addr} (h : Errs B w ae) (hb : Below B w w') : Errs B w' ae :=
  ⟨fun k hk => (hb.cell (p := ⟨errG k, 0, none⟩) (h.lt k hk).2).trans (h.glob k hk),
   fun k hk => by
    obtain ⟨cs, t, hc⟩ := h.obj k hk
    exact ⟨cs, t, (hb.block _ (h.lt k hk).1).trans hc⟩,
   h.inj, h.lt⟩
theorem Errs.drewN {B : Nat} {w : World} {ae : Nat → Addr} (h : Errs B w ae) (n : Nat) : Errs B (w.drewN n) ae := h.below (below_drewN (Below.refl _ _) n)

theorem Errs.alloc {B : Nat} {w : World} {ae : Nat → Addr} (h : Errs B w ae) (o : Obj) : Errs B (w.alloc o) ae :=
  ⟨fun k hk => by rw [World.cell?_alloc_past _ _ _ (block_lt_of_cell (h.glob k hk))]; exact h.glob k hk,
   fun k hk => by
    obtain ⟨cs, t, hc⟩ := h.obj k hk
    exact ⟨cs, t, (Below.heap_alloc _ _ _ (lt_of_block hc)).trans hc⟩,
   h.inj, h.lt⟩

/-- The five errors of surfaces in one another. -/
def fiveK (k : Nat) : Bool := k == 0 || k == 3 || k == 4 || k == 9 || k == 10
/-- What a world holds of these five. -/
structure ErrF (B : Nat) (w : World) (ae : Nat → Addr) : Prop where
  glob : ∀ k, fiveK k = true → w.cell? ⟨errG k, 0, none⟩ = some (.iface 151 (.pointer (some (ae k))))
  lt : ∀ k, fiveK k = true → errG k < B
theorem ErrF.below {B : Nat} {w w' : World} {ae : Nat → Addr} (h : ErrF B w ae) (hb : Below B w w') : ErrF B w' ae := ⟨fun k hk => (hb.cell (p := ⟨errG k, 0, none⟩) (h.lt k hk)).trans (h.glob k hk), h.lt⟩
theorem ErrF.drewN {B : Nat} {w : World} {ae : Nat → Addr} (h : ErrF B w ae) (n : Nat) : ErrF B (w.drewN n) ae := h.below (below_drewN (Below.refl _ _) n)
theorem ErrF.alloc {B : Nat} {w : World} {ae : Nat → Addr} (h : ErrF B w ae) (o : Obj) : ErrF B (w.alloc o) ae :=
  ⟨fun k hk => by rw [World.cell?_alloc_past _ _ _ (block_lt_of_cell (h.glob k hk))]; exact h.glob k hk, h.lt⟩
theorem ErrF.wider {B B' : Nat} {w : World} {ae : Nat → Addr} (h : ErrF B w ae) (hB : B ≤ B') : ErrF B' w ae := ⟨h.glob, fun k hk => Nat.lt_of_lt_of_le (h.lt k hk) hB⟩
theorem five_lt {k : Nat} (h : fiveK k = true) : k < 16 := by
  simp only [fiveK, Bool.or_eq_true, beq_iff_eq] at h
  omega
theorem Errs.five {B : Nat} {w : World} {ae : Nat → Addr} (h : Errs B w ae) : ErrF B w ae := ⟨fun k hk => h.glob k (five_lt hk), fun k hk => (h.lt k (five_lt hk)).2⟩
instance {B : Nat} {w : World} {ae : Nat → Addr} : Coe (Errs B w ae) (ErrF B w ae) := ⟨Errs.five⟩

theorem Tryd.isTypeOf (v : Value) (w : World) : (Extern.ReflectliteType.typeOf #[.iface 151 v]).run Tryd.prog w = .ok (.iface 111 (.agg #[.pointer (some ⟨16, 151, none⟩)])) w := by kernel_rfl
theorem Tryd.isComparable (w : World) : ((Extern.ReflectliteType.method fun t => do Rtype.noPackHeld "Comparable" t; (fun a => Value.bool a.comparable) <$> typeInfo t) #[.agg #[.pointer (some ⟨16, 151, none⟩)]]).run Tryd.prog w = .ok (.bool true) w := by kernel_rfl
theorem Tryd.isMethodComparable (v : Value) (w : World) : (Go.method 288 111 v "Comparable").run Tryd.prog w = .ok (128, v) w := by kernel_rfl
theorem Tryd.isComp : (Tryd.prog.info? 151).map (·.comparable) = some true := by kernel_rfl
theorem Tryd.isSize : (Tryd.prog.info? 176).map (·.size) = some 1 := by kernel_rfl
theorem Tryd.noIsE (v : Value) (xT : TypeId) (w : World) : (Instr.typeAssert (.iface 151 v) xT 113 true).run Tryd.prog w = .ok (.tuple #[.nilIface, .bool false]) w := run_typeAssert_lacksB Tryd.underlying113 (by kernel_rfl) (by kernel_rfl) v xT w
theorem Tryd.noUnwrapE (v : Value) (xT : TypeId) (w : World) : (Instr.typeAssert (.iface 151 v) xT 116 true).run Tryd.prog w = .ok (.tuple #[.nilIface, .bool false]) w := run_typeAssert_lacksB Tryd.underlying116 (by kernel_rfl) (by kernel_rfl) v xT w
theorem Tryd.noUnwrapsE (v : Value) (xT : TypeId) (w : World) : (Instr.typeAssert (.iface 151 v) xT 118 true).run Tryd.prog w = .ok (.tuple #[.nilIface, .bool false]) w := run_typeAssert_lacksB Tryd.underlying118 (by kernel_rfl) (by kernel_rfl) v xT w

set_option maxRecDepth 100000 in
/-- errors.Is(x, x), x a pointer to an errors.errorString. -/
theorem is_same (a : Addr) (w : World) :
    Calls Tryd.prog 46 #[.iface 151 (.pointer (some a)), .iface 151 (.pointer (some a))] w fun e w' => e = .returned (.bool true) ∧ w = w' := by
  obtain ⟨i, hi, hcmp⟩ := Option.map_eq_some_iff.1 Tryd.isComp
  obtain ⟨j, hj, hjs⟩ := Option.map_eq_some_iff.1 Tryd.isSize
  have h8 := @run_callFunc_extern Tryd.prog 65 _ Extern.ReflectliteType.typeOf Tryd.func65 (by kernel_rfl) (by kernel_rfl) (by kernel_rfl) (by kernel_rfl)
  have h32 := @run_callFunc_extern Tryd.prog 128 _ (Extern.ReflectliteType.method fun t => do Rtype.noPackHeld "Comparable" t; pure (.bool (← typeInfo t).comparable)) Tryd.func128 (by kernel_rfl) (by kernel_rfl) (by kernel_rfl) (by kernel_rfl)
  have tT := Tryd.isTypeOf
  have cT := Tryd.isComparable
  have mR := Tryd.isMethodComparable
  have heq := run_eql_iface_ptr_same (P := Tryd.prog) w a Tryd.underlying26 Tryd.underlying151 hi hcmp hj
  go_enter Tryd.func46, Tryd.ntmps46
  go_wp2
  refine wp_loop_rounds 1 ?_
  rw [rounds_succ]
  go_wp2
  go_ret
  exact ⟨rfl, rfl⟩

set_option maxRecDepth 100000 in
/-- errors.Is(x, y), two different pointers to errors.errorString: neither has Is nor Unwrap: false. -/
theorem is_other (a b : Addr) (ca cb : Array Value) (ta tb : TypeId) (w : World) (hne : a ≠ b) (ha : w.heap[a.block]? = some (.cells ca ta (0, 0))) (hb : w.heap[b.block]? = some (.cells cb tb (0, 0))) :
    Calls Tryd.prog 46 #[.iface 151 (.pointer (some a)), .iface 151 (.pointer (some b))] w fun e w' => e = .returned (.bool false) ∧ w = w' := by
  obtain ⟨i, hi, hcmp⟩ := Option.map_eq_some_iff.1 Tryd.isComp
  obtain ⟨j, hj, hjs⟩ := Option.map_eq_some_iff.1 Tryd.isSize
  have h8 := @run_callFunc_extern Tryd.prog 65 _ Extern.ReflectliteType.typeOf Tryd.func65 (by kernel_rfl) (by kernel_rfl) (by kernel_rfl) (by kernel_rfl)
  have h32 := @run_callFunc_extern Tryd.prog 128 _ (Extern.ReflectliteType.method fun t => do Rtype.noPackHeld "Comparable" t; pure (.bool (← typeInfo t).comparable)) Tryd.func128 (by kernel_rfl) (by kernel_rfl) (by kernel_rfl) (by kernel_rfl)
  have tT := Tryd.isTypeOf
  have cT := Tryd.isComparable
  have mR := Tryd.isMethodComparable
  have nE := Tryd.noIsE
  have uE := Tryd.noUnwrapE
  have vE := Tryd.noUnwrapsE
  have heq := run_eql_iface_ptr_other (P := Tryd.prog) w Tryd.underlying26 Tryd.underlying151 hi hcmp hj (by rw [hjs]; decide) hne ha hb
  go_enter Tryd.func46, Tryd.ntmps46
  go_wp2
  refine wp_loop_rounds 1 ?_
  rw [rounds_succ]
  go_wp2
  go_ret
  exact ⟨rfl, rfl⟩

set_option maxRecDepth 100000 in
/-- errors.Is(nil, y). -/
theorem is_nil (a : Addr) (w : World) :
    Calls Tryd.prog 46 #[.nilIface, .iface 151 (.pointer (some a))] w fun e w' => e = .returned (.bool false) ∧ w = w' := by
  have heq := run_eql_iface_nil_left (P := Tryd.prog) (w := w) 151 (.pointer (some a)) Tryd.underlying26
  go_enter Tryd.func46, Tryd.ntmps46
  go_wp2
  go_ret
  exact ⟨rfl, rfl⟩

end Go.Proofs.YthkjicnnepkghaaDoor
