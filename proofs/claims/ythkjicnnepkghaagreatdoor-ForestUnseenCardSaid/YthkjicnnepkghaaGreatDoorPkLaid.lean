/-
  What the rows' condition on the sixteen errors gives a walk: 'Errs'.
-/
import Derived.Test.YthkjicnnepkghaaGreatDoorRows
import Derived.Test.YthkjicnnepkghaaGreatDoorPkD
import Derived.LaidMore
import Derived.Stop.LaidErr
import Derived.MakeChecks
namespace Go.Proofs.YthkjicnnepkghaaGreatDoor
open Go.RowKit

theorem laid_one {P : Program} {n nm : String} {text : List UInt8} {r : List (String × DataW Unit)} {W : World} {g : Nat} {ti tp te ts : TypeId} {ms : Array (String × TypeId)} {f : Field}
    (h : laidMet P ((n, .iface nm (.ptr (.agg [.lit (.string text)]))) :: r) W)
    (hg : P.globalNamed n = some g) (ht : (P.globals[g]?).map (·.type) = some ti) (hi : P.underlying ti = some (.interface ms)) (hrow : ∀ u, P.typeName? 3 u = some nm → u = tp)
    (hp : P.underlying tp = some (.pointer te)) (he : P.underlying te = some (.struct #[f])) (hft : f.type = ts) (hfo : f.offset = 0) (hs : P.underlying ts = some .string) (hc : P.cellsOf te = 1) (hcs : P.cellsOf ts = 1) :
    ∃ (a : Addr) (s : ByteArray) (c : Array Value) (t : TypeId), W.cell? ⟨g, 0, none⟩ = some (.iface tp (.pointer (some a))) ∧ W.cell? a = some (.string s) ∧ s.data.toList = text ∧ W.heap[a.block]? = some (.cells c t (0, 0)) := by
  obtain ⟨ps, ⟨g0', t0', cs0, f0, p0, q0, hg0', ht0', hv0, hd0, _, e0⟩, hnd, hrows⟩ := h
  obtain rfl := Option.some.inj (hg.symm.trans hg0')
  obtain rfl := Option.some.inj (ht.symm.trans ht0')
  subst e0
  obtain ⟨l0⟩ := cs0
  have ok0 : ∀ u v, l0 = [.iface u v] → Value.okWide P W .any 0 u v := fun u v e => by
    subst e
    exact (hrows g 0 (by simp [MemPlace.row])).2 u v (by simpa using World.var?_cell hg0' hv0 0)
  obtain ⟨a0, s0, rfl, hc0, hs0, _, rfl⟩ := errorString_of_trod hi hrow hp he hft hfo hs hc hcs hd0 ok0
  obtain ⟨c0, t0, hb0⟩ := (hrows a0.block a0.off (by simp [MemPlace.row])).1
  exact ⟨a0, s0, c0, t0, by simpa using World.var?_cell hg0' hv0 0, hc0, hs0, hb0⟩

theorem laidMet_drop {P : Program} {W : World} : ∀ (k : Nat) (l : List (String × DataW Unit)), laidMet P l W → laidMet P (l.drop k) W
  | 0, _, h => h
  | _ + 1, [], h => h
  | k + 1, _ :: r, h => laidMet_drop k r h.tail

theorem Tryz.cellsEs : Tryz.prog.cellsOf 230 = 1 := by kernel_rfl
theorem Tryz.cellsStr : Tryz.prog.cellsOf 9 = 1 := by kernel_rfl
theorem Tryz.star : "*" ++ "errors.errorString" = "*errors.errorString" := by decide
theorem Tryz.rowEsp (u : TypeId) (h : Tryz.prog.typeName? 3 u = some "*errors.errorString") : u = 205 :=
  typeName_ptr_named (nm := "errors.errorString") (by rw [Tryz.star]; kernel_rfl) (by kernel_rfl) (by decide) u (by rw [Tryz.star]; exact h)

def errText : Nat → List UInt8
  | 0 => [97, 114, 103, 117, 109, 101, 110, 116]
  | 1 => [115, 104, 111, 114, 116]
  | 2 => [98, 121, 116, 101, 115]
  | 3 => [98, 105, 103]
  | 4 => [111, 98, 106, 101, 99, 116]
  | 5 => [109, 101, 116, 104, 111, 100]
  | 6 => [102, 111, 114, 109, 97, 116]
  | 7 => [115, 116, 114, 105, 100, 101]
  | 8 => [102, 105, 108, 101]
  | 9 => [114, 111, 108, 101]
  | 10 => [112, 108, 97, 99, 101]
  | 11 => [115, 116, 97, 116, 101]
  | 12 => [115, 101, 114, 105, 97, 108]
  | 13 => [102, 117, 108, 108]
  | 14 => [103, 111, 110, 101]
  | _ => [115, 104, 101, 101, 116]

def errName : Nat → String
  | 0 => "tableau/api.ErrArg"
  | 1 => "tableau/api.ErrShort"
  | 2 => "tableau/api.ErrBytes"
  | 3 => "tableau/api.ErrBig"
  | 4 => "tableau/api.ErrObject"
  | 5 => "tableau/api.ErrMethod"
  | 6 => "tableau/api.ErrFormat"
  | 7 => "tableau/api.ErrStride"
  | 8 => "tableau/api.ErrFile"
  | 9 => "tableau/api.ErrRole"
  | 10 => "tableau/api.ErrPlace"
  | 11 => "tableau/api.ErrState"
  | 12 => "tableau/api.ErrSerial"
  | 13 => "tableau/api.ErrFull"
  | 14 => "tableau/api.ErrGone"
  | _ => "tableau/api.ErrSheet"

def laidAll : List (String × DataW Unit) := [("tableau/api.ErrArg", Rows.laid_tableau_api_ErrArg), ("tableau/api.ErrShort", Rows.laid_tableau_api_ErrShort), ("tableau/api.ErrBytes", Rows.laid_tableau_api_ErrBytes), ("tableau/api.ErrBig", Rows.laid_tableau_api_ErrBig), ("tableau/api.ErrObject", Rows.laid_tableau_api_ErrObject), ("tableau/api.ErrMethod", Rows.laid_tableau_api_ErrMethod), ("tableau/api.ErrFormat", Rows.laid_tableau_api_ErrFormat), ("tableau/api.ErrStride", Rows.laid_tableau_api_ErrStride), ("tableau/api.ErrFile", Rows.laid_tableau_api_ErrFile), ("tableau/api.ErrRole", Rows.laid_tableau_api_ErrRole), ("tableau/api.ErrPlace", Rows.laid_tableau_api_ErrPlace), ("tableau/api.ErrState", Rows.laid_tableau_api_ErrState), ("tableau/api.ErrSerial", Rows.laid_tableau_api_ErrSerial), ("tableau/api.ErrFull", Rows.laid_tableau_api_ErrFull), ("tableau/api.ErrGone", Rows.laid_tableau_api_ErrGone), ("tableau/api.ErrSheet", Rows.laid_tableau_api_ErrSheet)]

theorem laid_err {r : List (String × DataW Unit)} {W : World} (k : Nat) (hk : k < 16) (h : laidMet Tryz.prog ((errName k, .iface "*errors.errorString" (.ptr (.agg [.lit (.string (errText k))]))) :: r) W) :
    ∃ (a : Addr) (s : ByteArray) (c : Array Value) (t : TypeId), W.cell? ⟨errG k, 0, none⟩ = some (.iface 205 (.pointer (some a))) ∧ W.cell? a = some (.string s) ∧ s.data.toList = errText k ∧ W.heap[a.block]? = some (.cells c t (0, 0)) :=
  laid_one h (match k, hk with
    | 0, _ => by kernel_rfl
    | 1, _ => by kernel_rfl
    | 2, _ => by kernel_rfl
    | 3, _ => by kernel_rfl
    | 4, _ => by kernel_rfl
    | 5, _ => by kernel_rfl
    | 6, _ => by kernel_rfl
    | 7, _ => by kernel_rfl
    | 8, _ => by kernel_rfl
    | 9, _ => by kernel_rfl
    | 10, _ => by kernel_rfl
    | 11, _ => by kernel_rfl
    | 12, _ => by kernel_rfl
    | 13, _ => by kernel_rfl
    | 14, _ => by kernel_rfl
    | 15, _ => by kernel_rfl
    | i + 16, h => absurd h (by omega)) (match k, hk with
    | 0, _ => by kernel_rfl
    | 1, _ => by kernel_rfl
    | 2, _ => by kernel_rfl
    | 3, _ => by kernel_rfl
    | 4, _ => by kernel_rfl
    | 5, _ => by kernel_rfl
    | 6, _ => by kernel_rfl
    | 7, _ => by kernel_rfl
    | 8, _ => by kernel_rfl
    | 9, _ => by kernel_rfl
    | 10, _ => by kernel_rfl
    | 11, _ => by kernel_rfl
    | 12, _ => by kernel_rfl
    | 13, _ => by kernel_rfl
    | 14, _ => by kernel_rfl
    | 15, _ => by kernel_rfl
    | i + 16, h => absurd h (by omega)) Tryz.underlying45 Tryz.rowEsp Tryz.underlying205 Tryz.underlying230 rfl rfl Tryz.underlying9 Tryz.cellsEs Tryz.cellsStr

theorem errText_inj (i j : Nat) (hi : i < 16) (hj : j < 16) (h : errText i = errText j) : i = j := by
  have H : ∀ i : Fin 16, ∀ j : Fin 16, errText i = errText j → i = j := by decide
  have := H ⟨i, hi⟩ ⟨j, hj⟩ h
  simpa using this

theorem errs_of_laid {W : World} (h : laidMet Tryz.prog laidAll W) : ∃ ae, Errs W.heap.size W ae := by
  have H : ∀ k, k < 16 → ∃ (a : Addr) (s : ByteArray) (c : Array Value) (t : TypeId), W.cell? ⟨errG k, 0, none⟩ = some (.iface 205 (.pointer (some a))) ∧ W.cell? a = some (.string s) ∧ s.data.toList = errText k ∧ W.heap[a.block]? = some (.cells c t (0, 0)) := fun k hk =>
    match k, hk with
    | 0, _ => laid_err 0 (by decide) (laidMet_drop 0 _ h)
    | 1, _ => laid_err 1 (by decide) (laidMet_drop 1 _ h)
    | 2, _ => laid_err 2 (by decide) (laidMet_drop 2 _ h)
    | 3, _ => laid_err 3 (by decide) (laidMet_drop 3 _ h)
    | 4, _ => laid_err 4 (by decide) (laidMet_drop 4 _ h)
    | 5, _ => laid_err 5 (by decide) (laidMet_drop 5 _ h)
    | 6, _ => laid_err 6 (by decide) (laidMet_drop 6 _ h)
    | 7, _ => laid_err 7 (by decide) (laidMet_drop 7 _ h)
    | 8, _ => laid_err 8 (by decide) (laidMet_drop 8 _ h)
    | 9, _ => laid_err 9 (by decide) (laidMet_drop 9 _ h)
    | 10, _ => laid_err 10 (by decide) (laidMet_drop 10 _ h)
    | 11, _ => laid_err 11 (by decide) (laidMet_drop 11 _ h)
    | 12, _ => laid_err 12 (by decide) (laidMet_drop 12 _ h)
    | 13, _ => laid_err 13 (by decide) (laidMet_drop 13 _ h)
    | 14, _ => laid_err 14 (by decide) (laidMet_drop 14 _ h)
    | 15, _ => laid_err 15 (by decide) (laidMet_drop 15 _ h)
    | i + 16, h => absurd h (by omega)
  refine ⟨fun k => if hk : k < 16 then (H k hk).choose else ⟨0, 0, none⟩, ?_⟩
  have S : ∀ k (hk : k < 16), ∃ (s : ByteArray) (c : Array Value) (t : TypeId), W.cell? ⟨errG k, 0, none⟩ = some (.iface 205 (.pointer (some (H k hk).choose))) ∧ W.cell? (H k hk).choose = some (.string s) ∧ s.data.toList = errText k ∧ W.heap[(H k hk).choose.block]? = some (.cells c t (0, 0)) := fun k hk => (H k hk).choose_spec
  refine ⟨fun k hk => ?_, fun k hk => ?_, fun i j hi hj e => ?_, fun k hk => ?_⟩
  · obtain ⟨s, c, t, h1, _⟩ := S k hk
    simpa [hk] using h1
  · obtain ⟨s, c, t, _, _, _, h4⟩ := S k hk
    exact ⟨c, t, by simpa [hk] using h4⟩
  · simp only [hi, hj, dif_pos] at e
    obtain ⟨s, _, _, _, h2, h3, _⟩ := S i hi
    obtain ⟨s', _, _, _, h2', h3', _⟩ := S j hj
    rw [e, h2'] at h2
    injection h2 with h2
    injection h2 with h2
    subst h2
    exact errText_inj i j hi hj (h3.symm.trans h3')
  · obtain ⟨s, c, t, h1, _, _, h4⟩ := S k hk
    exact ⟨by simpa [hk] using lt_of_block h4, block_lt_of_cell h1⟩
end Go.Proofs.YthkjicnnepkghaaGreatDoor
