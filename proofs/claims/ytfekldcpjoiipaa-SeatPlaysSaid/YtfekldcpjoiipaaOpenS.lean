/-
  A slice of structs that came in, opened: its elements as values of their fields.
-/
import Derived.Test.YtfekldcpjoiipaaBase
import Derived.Deep.Slices
import Derived.Deep.Fields
import Derived.ChangeSame
namespace Go.Proofs.Ytfekldcpjoiipaa
open Go.RowKit Go.ChangeShapes Go.WideShapes Go.Deep

section
variable {H : Type} {enc : TypeId × Value → H} {P : Program} {w : World} {base : Nat} {spare : Nat → Bool} {held : Bool}
/-- A slice of structs of one-cell fields, opened (after the guide's page on structs). -/
theorem open_slice_fields {t e : TypeId} {fs : Array Field} {fuel : Nat} {cs : List Value} {x : DataW H × List MemPlace} (ht : P.underlying t = some (.slice e)) (he : P.underlying e = some (.struct fs))
    (hone : oneCellFields P fs = true) (hC : P.cellsOf e = fs.size) (h : DataW.trod enc P w base spare held fuel t cs = some x) :
    (cs = [.slice none 0 0]) ∨
    ∃ (a : Addr) (len cap m : Nat), cs = [.slice (some a) len cap] ∧ len ≤ cap ∧ cap ≤ maxLen ∧ m = (if spare a.block then cap else len) ∧
      ∀ i, i < m → ∃ (n : Nat), ∀ (j : Nat) (f : Field), fs[j]? = some f → ∃ (v : Value) (y : DataW H × List MemPlace), w.cell? (a.add (i * fs.size + j)) = some v ∧ DataW.trod enc P w base spare held n f.type [v] = some y := by
  rcases open_slice ht h with h0 | ⟨a, len, cap, m, n, D, Pl, hcs, hb, hl, hm, hmm, hx, hi⟩
  · exact .inl h0.1
  · refine .inr ⟨a, len, cap, m, hcs, hl, hm, hmm, fun i him => ?_⟩
    obtain ⟨cs', hc, ht'⟩ := hi i him
    rw [hC] at hc
    obtain ⟨ys, n', hn', hy, hlen, hyl, hf⟩ := DataW.trod_struct he ht'
    obtain ⟨_, hcl, hat⟩ := World.cells?_some hc
    refine ⟨n', fun j f hj => ?_⟩
    obtain ⟨ho, hk⟩ := hone_of hone j f hj
    have hjl : j < fs.size := (Array.getElem?_eq_some_iff.1 hj).1
    have hcell := hat j hjl
    have hv : cs'[j]? = some (cs'[j]'(by omega)) := List.getElem?_eq_getElem (by omega)
    have h1 := hf j f hj
    rw [ho, hk] at h1
    have hone' : (cs'.drop j).take 1 = [cs'[j]'(by omega)] := by
      rw [List.drop_eq_getElem_cons (by omega)]
      rfl
    rw [hone'] at h1
    have hys : ys[j]? = some (ys[j]'(by omega)) := List.getElem?_eq_getElem (by omega)
    refine ⟨_, _, ?_, h1.trans hys⟩
    rw [← Go.Deep.add_add, hcell, hv]
end

/-- A field's value reads as something. -/
def Reads (P : Program) (t : TypeId) (v : Value) : Prop :=
  ∃ (H : Type) (enc : TypeId × Value → H) (w : World) (base : Nat) (spare : Nat → Bool) (held : Bool) (n : Nat) (y : DataW H × List MemPlace), DataW.trod enc P w base spare held n t [v] = some y

theorem reads_int {P : Program} {t : TypeId} {v : Value} (h : Reads P t v) (ht : P.underlying t = some (.int .i64)) : ∃ x, v = .int .i64 x ∧ I64 x := by
  obtain ⟨H, enc, w, base, spare, held, n, y, hy⟩ := h
  obtain ⟨x, hx, _, hw⟩ := DataW.trod_int ht hy
  exact ⟨x, by simpa using hx, i64_of_wf hw⟩
theorem reads_bool {P : Program} {t : TypeId} {v : Value} (h : Reads P t v) (ht : P.underlying t = some .bool) : ∃ b, v = .bool b := by
  obtain ⟨H, enc, w, base, spare, held, n, y, hy⟩ := h
  obtain ⟨x, hx, _⟩ := DataW.trod_bool ht hy
  exact ⟨x, by simpa using hx⟩

theorem flatten_get {k : Nat} : ∀ (L : List (List Value)) (_ : ∀ r ∈ L, r.length = k) (i j : Nat), j < k → L.flatten[i * k + j]? = (L[i]?).bind (fun r => r[j]?)
  | [], _, i, j, _ => by simp
  | r :: L, hL, i, j, hj => by
    have hr := hL r (List.mem_cons_self ..)
    cases i with
    | zero => simp [List.getElem?_append_left, hr, hj]
    | succ i =>
      rw [List.flatten_cons, List.getElem?_append_right (by rw [hr, Nat.succ_mul]; omega), hr, show (i + 1) * k + j - k = i * k + j by rw [Nat.succ_mul]; omega, flatten_get L (fun r h => hL r (List.mem_cons_of_mem _ h)) i j hj]
      simp

theorem flatten_len {k : Nat} : ∀ (L : List (List Value)) (_ : ∀ r ∈ L, r.length = k), L.flatten.length = L.length * k
  | [], _ => by simp
  | r :: L, hL => by
    rw [List.flatten_cons, List.length_append, flatten_len L (fun r h => hL r (List.mem_cons_of_mem _ h)), hL r (List.mem_cons_self ..), List.length_cons, Nat.succ_mul]
    omega

theorem structs_came {P : Program} {w : World} {T e : TypeId} {fs : Array Field} {a : Option Addr} {len cap : Nat} (h : CameIn P w T a len cap) (ht : P.underlying T = some (.slice e)) (he : P.underlying e = some (.struct fs))
    (hone : oneCellFields P fs = true) (hC : P.cellsOf e = fs.size) (h0 : 0 < fs.size) :
    ∃ L : List (List Value), L.length = len ∧ L.length ≤ 9223372036854775807 ∧ Rd w (.slice a len cap) fs.size len L.flatten ∧
      ∀ r ∈ L, r.length = fs.size ∧ ∀ (j : Nat) (f : Field), fs[j]? = some f → ∃ v, r[j]? = some v ∧ Reads P f.type v := by
  obtain ⟨H, enc, d, p, fuel, hf⟩ := h
  rcases open_slice_fields ht he hone hC hf with hcs | ⟨x, l, c, m, hcs, hl, hm, hmm, hi⟩
  · simp [Value.cells] at hcs
    obtain ⟨rfl, rfl, rfl⟩ := hcs
    exact ⟨[], rfl, by simp, Rd.nil _ _, by simp⟩
  · simp [Value.cells] at hcs
    obtain ⟨rfl, rfl, rfl⟩ := hcs
    simp only [if_true] at hmm
    subst hmm
    have hx : 0 < len → x.spot = none := fun hn => by
      obtain ⟨n, hj⟩ := hi 0 (by omega)
      obtain ⟨f, hf0⟩ : ∃ f, fs[0]? = some f := ⟨fs[0], Array.getElem?_eq_getElem h0⟩
      obtain ⟨v, y, hc, _⟩ := hj 0 f hf0
      cases hs : x.spot with
      | none => rfl
      | some s =>
        exfalso
        have : x.add (0 * fs.size + 0) = x := by simp [Addr.add]
        rw [this] at hc
        unfold World.cell? at hc
        split at hc
        · simp [hs] at hc
        · cases hc
    have hrow : ∀ i, i < len → ∃ r : List Value, r.length = fs.size ∧ (∀ j v, r[j]? = some v → w.cell? (x.add (i * fs.size + j)) = some v) ∧ ∀ (j : Nat) (f : Field), fs[j]? = some f → ∃ v, r[j]? = some v ∧ Reads P f.type v := fun i hil => by
      obtain ⟨n, hj⟩ := hi i (by omega)
      obtain ⟨V, hV⟩ := choose_lt (α := Value) (n := fs.size) (p := fun j v => w.cell? (x.add (i * fs.size + j)) = some v ∧ ∀ f, fs[j]? = some f → Reads P f.type v) (fun j hjl => by
        obtain ⟨v, y, h1, h2⟩ := hj j fs[j] (Array.getElem?_eq_getElem hjl)
        refine ⟨v, h1, fun f hf => ?_⟩
        rw [Array.getElem?_eq_getElem hjl] at hf
        cases hf
        exact ⟨H, enc, w, _, _, _, n, y, h2⟩)
      refine ⟨(List.range fs.size).map V, by simp, fun j v hv => ?_, fun j f hf => ?_⟩
      · have hjl : j < fs.size := by
          have := (List.getElem?_eq_some_iff.1 hv).1
          simpa using this
        rw [(hV j hjl).1]
        simpa [hjl] using hv
      · have hjl : j < fs.size := (Array.getElem?_eq_some_iff.1 hf).1
        exact ⟨V j, by simp [hjl], (hV j hjl).2 f hf⟩
    obtain ⟨R, hR⟩ := choose_lt (α := List Value) (n := len) (p := fun i r => r.length = fs.size ∧ (∀ j v, r[j]? = some v → w.cell? (x.add (i * fs.size + j)) = some v) ∧ ∀ (j : Nat) (f : Field), fs[j]? = some f → ∃ v, r[j]? = some v ∧ Reads P f.type v) hrow
    have hlen : ∀ r ∈ (List.range len).map R, r.length = fs.size := fun r hr => by
      obtain ⟨i, hi, rfl⟩ := List.mem_map.1 hr
      exact (hR i (by simpa using hi)).1
    refine ⟨(List.range len).map R, by simp, by simp; unfold maxLen at hm; omega, ⟨by rw [flatten_len _ hlen]; simp, some x, _, rfl, hl, fun hn => ?_⟩, fun r hr => ?_⟩
    · have hs := hx hn
      obtain ⟨b, off, sp⟩ := x
      obtain rfl : sp = none := hs
      refine ⟨b, off, rfl, ?_, fun q u hu => ?_⟩
      · obtain ⟨h1, h2, h3⟩ := hR 0 hn
        obtain ⟨v, hv, _⟩ := h3 0 fs[0] (Array.getElem?_eq_getElem h0)
        have := block_lt_of_cell (h2 0 v hv)
        rwa [addr_add] at this
      · have hq : q / fs.size * fs.size + q % fs.size = q := by rw [Nat.mul_comm]; exact Nat.div_add_mod q _
        have hj : q % fs.size < fs.size := Nat.mod_lt _ h0
        rw [← hq, flatten_get _ hlen _ _ hj] at hu
        obtain ⟨r, hr, hu⟩ := Option.bind_eq_some_iff.1 hu
        have hil : q / fs.size < len := by
          have := (List.getElem?_eq_some_iff.1 hr).1
          simpa using this
        have hr' : r = R (q / fs.size) := by simpa [hil] using hr.symm
        subst hr'
        have := (hR _ hil).2.1 _ _ hu
        rwa [addr_add, hq] at this
    · obtain ⟨i, hi, rfl⟩ := List.mem_map.1 hr
      obtain ⟨h1, _, h3⟩ := hR i (by simpa using hi)
      exact ⟨h1, h3⟩

/-- A list of things that are all encoded is the list of their encodings. -/
theorem all_enc {α β : Type} {enc : α → β} {good : α → Prop} : ∀ (L : List β), (∀ r ∈ L, ∃ x, r = enc x ∧ good x) → ∃ l : List α, L = l.map enc ∧ ∀ x ∈ l, good x
  | [], _ => ⟨[], rfl, by simp⟩
  | r :: L, h => by
    obtain ⟨x, rfl, hx⟩ := h r (List.mem_cons_self ..)
    obtain ⟨l, rfl, hl⟩ := all_enc L fun r hr => h r (List.mem_cons_of_mem _ hr)
    exact ⟨x :: l, rfl, fun y hy => by
      rcases List.mem_cons.1 hy with rfl | hy
      · exact hx
      · exact hl y hy⟩
end Go.Proofs.Ytfekldcpjoiipaa
