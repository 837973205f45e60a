/-
  Slices of slices of structs with slices in them that came in, opened: the reference's hits.
-/
import Derived.Test.YtfekldcpjoiipaaOpenR
import Derived.Test.YtfekldcpjoiipaaHits
namespace Go.Proofs.Ytfekldcpjoiipaa
open Go.RowKit Go.ChangeShapes Go.WideShapes Go.Deep
set_option linter.unusedVariables false

/-- A field's value reads as something, in this world. -/
def ReadsIn (P : Program) (w : World) (t : TypeId) (v : Value) : Prop :=
  ∃ (H : Type) (enc : TypeId × Value → H) (n : Nat) (y : DataW H × List MemPlace), DataW.trod enc P w 0 (fun _ => true) true n t [v] = some y
theorem ReadsIn.reads {P : Program} {w : World} {t : TypeId} {v : Value} (h : ReadsIn P w t v) : Reads P t v := by
  obtain ⟨H, enc, n, y, h⟩ := h
  exact ⟨H, enc, w, _, _, _, n, y, h⟩
/-- A slice that reads in this world came in. -/
theorem readsIn_slice {P : Program} {w : World} {t e : TypeId} {v : Value} (h : ReadsIn P w t v) (ht : P.underlying t = some (.slice e)) : ∃ A k c, v = .slice A k c ∧ CameIn P w t A k c := by
  obtain ⟨H, enc, n, ⟨d, p⟩, h⟩ := h
  rcases open_slice ht h with h0 | ⟨a, len, cap, m, n', D, Pl, hcs, _⟩
  · have := h0.1
    simp at this
    subst this
    exact ⟨none, 0, 0, rfl, H, enc, d, p, n, by simpa [Value.cells] using h⟩
  · simp at hcs
    subst hcs
    exact ⟨_, _, _, rfl, H, enc, d, p, n, by simpa [Value.cells] using h⟩

theorem structs_in {P : Program} {w : World} {T e : TypeId} {fs : Array Field} {a : Option Addr} {len cap : Nat} (h : CameIn P w T a len cap) (ht : P.underlying T = some (.slice e)) (he : P.underlying e = some (.struct fs))
    (hone : oneCellFields P fs = true) (hC : P.cellsOf e = fs.size) (h0 : 0 < fs.size) :
    ∃ L : List (List Value), L.length = len ∧ L.length ≤ 9223372036854775807 ∧ Rd w (.slice a len cap) fs.size len L.flatten ∧
      ∀ r ∈ L, r.length = fs.size ∧ ∀ (j : Nat) (f : Field), fs[j]? = some f → ∃ v, r[j]? = some v ∧ ReadsIn P w f.type v := by
  obtain ⟨H, enc, d, p, fuel, hf⟩ := h
  rcases open_slice_fields ht he hone hC hf with hcs | ⟨x, l, c, m, hcs, hl, hm, hmm, hi⟩
  · simp [Value.cells] at hcs
    obtain ⟨rfl, rfl, rfl⟩ := hcs
    exact ⟨[], rfl, by simp, Rd.nil _ _, by simp⟩
  · simp [Value.cells] at hcs
    obtain ⟨rfl, rfl, rfl⟩ := hcs
    simp only [if_true] at hmm
    subst hmm
    have hx : 0 < len → x.spot = none := fun hn => by
      obtain ⟨n, hj⟩ := hi 0 (by omega)
      obtain ⟨f, hf0⟩ : ∃ f, fs[0]? = some f := ⟨fs[0], Array.getElem?_eq_getElem h0⟩
      obtain ⟨v, y, hc, _⟩ := hj 0 f hf0
      cases hs : x.spot with
      | none => rfl
      | some s =>
        exfalso
        have : x.add (0 * fs.size + 0) = x := by simp [Addr.add]
        rw [this] at hc
        unfold World.cell? at hc
        split at hc
        · simp [hs] at hc
        · cases hc
    have hrow : ∀ i, i < len → ∃ r : List Value, r.length = fs.size ∧ (∀ j v, r[j]? = some v → w.cell? (x.add (i * fs.size + j)) = some v) ∧ ∀ (j : Nat) (f : Field), fs[j]? = some f → ∃ v, r[j]? = some v ∧ ReadsIn P w f.type v := fun i hil => by
      obtain ⟨n, hj⟩ := hi i (by omega)
      obtain ⟨V, hV⟩ := choose_lt (α := Value) (n := fs.size) (p := fun j v => w.cell? (x.add (i * fs.size + j)) = some v ∧ ∀ f, fs[j]? = some f → ReadsIn P w f.type v) (fun j hjl => by
        obtain ⟨v, y, h1, h2⟩ := hj j fs[j] (Array.getElem?_eq_getElem hjl)
        refine ⟨v, h1, fun f hf => ?_⟩
        rw [Array.getElem?_eq_getElem hjl] at hf
        cases hf
        exact ⟨H, enc, n, y, h2⟩)
      refine ⟨(List.range fs.size).map V, by simp, fun j v hv => ?_, fun j f hf => ?_⟩
      · have hjl : j < fs.size := by
          have := (List.getElem?_eq_some_iff.1 hv).1
          simpa using this
        rw [(hV j hjl).1]
        simpa [hjl] using hv
      · have hjl : j < fs.size := (Array.getElem?_eq_some_iff.1 hf).1
        exact ⟨V j, by simp [hjl], (hV j hjl).2 f hf⟩
    obtain ⟨R, hR⟩ := choose_lt (α := List Value) (n := len) (p := fun i r => r.length = fs.size ∧ (∀ j v, r[j]? = some v → w.cell? (x.add (i * fs.size + j)) = some v) ∧ ∀ (j : Nat) (f : Field), fs[j]? = some f → ∃ v, r[j]? = some v ∧ ReadsIn P w f.type v) hrow
    have hlen : ∀ r ∈ (List.range len).map R, r.length = fs.size := fun r hr => by
      obtain ⟨i, hi, rfl⟩ := List.mem_map.1 hr
      exact (hR i (by simpa using hi)).1
    refine ⟨(List.range len).map R, by simp, by simp; unfold maxLen at hm; omega, ⟨by rw [flatten_len _ hlen]; simp, some x, _, rfl, hl, fun hn => ?_⟩, fun r hr => ?_⟩
    · have hs := hx hn
      obtain ⟨b, off, sp⟩ := x
      obtain rfl : sp = none := hs
      refine ⟨b, off, rfl, ?_, fun q u hu => ?_⟩
      · obtain ⟨h1, h2, h3⟩ := hR 0 hn
        obtain ⟨v, hv, _⟩ := h3 0 fs[0] (Array.getElem?_eq_getElem h0)
        have := block_lt_of_cell (h2 0 v hv)
        rwa [addr_add] at this
      · have hq : q / fs.size * fs.size + q % fs.size = q := by rw [Nat.mul_comm]; exact Nat.div_add_mod q _
        have hj : q % fs.size < fs.size := Nat.mod_lt _ h0
        rw [← hq, flatten_get _ hlen _ _ hj] at hu
        obtain ⟨r, hr, hu⟩ := Option.bind_eq_some_iff.1 hu
        have hil : q / fs.size < len := by
          have := (List.getElem?_eq_some_iff.1 hr).1
          simpa using this
        have hr' : r = R (q / fs.size) := by simpa [hil] using hr.symm
        subst hr'
        have := (hR _ hil).2.1 _ _ hu
        rwa [addr_add, hq] at this
    · obtain ⟨i, hi, rfl⟩ := List.mem_map.1 hr
      obtain ⟨h1, _, h3⟩ := hR i (by simpa using hi)
      exact ⟨h1, h3⟩


theorem hitsR_came {w : World} {a : Option Addr} {len cap : Nat} (h : CameIn Try.prog w 60 a len cap) :
    ∃ l : List Hit, l.length = len ∧ l.length ≤ 9223372036854775807 ∧ RdH w (.slice a len cap) l ∧ ∀ x ∈ l, (I64 x.s ∧ I64 x.x ∧ I64 x.y ∧ I64 x.w ∧ I64 x.h) ∧ ∀ r ∈ x.rects, r.good := by
  obtain ⟨L, h1, h2, h3, h4⟩ := structs_in h Try.underlying60 Try.underlying71 (by kernel_rfl) (by kernel_rfl) (by decide)
  obtain ⟨l, rfl, hg⟩ := all_enc (enc := Hit.enc) (good := fun x => RdR w x.reg x.rects ∧ (I64 x.s ∧ I64 x.x ∧ I64 x.y ∧ I64 x.w ∧ I64 x.h) ∧ ∀ r ∈ x.rects, r.good) L fun r hr => by
    obtain ⟨hlen, hf⟩ := h4 r hr
    obtain ⟨v0, e0, r0⟩ := hf 0 _ rfl
    obtain ⟨v1, e1, r1⟩ := hf 1 _ rfl
    obtain ⟨v2, e2, r2⟩ := hf 2 _ rfl
    obtain ⟨v3, e3, r3⟩ := hf 3 _ rfl
    obtain ⟨v4, e4, r4⟩ := hf 4 _ rfl
    obtain ⟨v5, e5, r5⟩ := hf 5 _ rfl
    obtain ⟨v6, e6, r6⟩ := hf 6 _ rfl
    obtain ⟨x0, rfl, b0⟩ := reads_int r0.reads Try.underlying3
    obtain ⟨x1, rfl, b1⟩ := reads_int r1.reads Try.underlying3
    obtain ⟨x2, rfl, b2⟩ := reads_int r2.reads Try.underlying3
    obtain ⟨x3, rfl, b3⟩ := reads_int r3.reads Try.underlying3
    obtain ⟨x4, rfl, b4⟩ := reads_int r4.reads Try.underlying3
    obtain ⟨x5, rfl⟩ := reads_bool r5.reads Try.underlying4
    obtain ⟨A6, k6, c6, rfl, hc6⟩ := readsIn_slice r6 Try.underlying22
    obtain ⟨rs, hrs, hrg, hrd⟩ := rects_came hc6
    refine ⟨⟨x0, x1, x2, x3, x4, x5, .slice A6 k6 c6, rs⟩, ?_, hrd, ⟨b0, b1, b2, b3, b4⟩, hrg⟩
    match r, hlen with
    | [y0, y1, y2, y3, y4, y5, y6], _ =>
      simp at e0 e1 e2 e3 e4 e5 e6
      subst e0 e1 e2 e3 e4 e5 e6
      rfl
  have hl : l.length = len := by simpa using h1
  refine ⟨l, hl, by simpa using h2, ⟨?_, fun x hx => (hg x hx).1⟩, fun x hx => (hg x hx).2⟩
  rw [hl, List.flatMap_def]
  exact h3

/-- A list of hits, and where it lies. -/
structure HRow where
  A : Option Addr
  c : Nat
  l : List Hit
instance : Inhabited HRow := ⟨⟨none, 0, []⟩⟩
def HRow.val (r : HRow) : Value := .slice r.A r.l.length r.c
def HRow.good (w : World) (r : HRow) : Prop := RdH w r.val r.l ∧ ∀ x ∈ r.l, (I64 x.s ∧ I64 x.x ∧ I64 x.y ∧ I64 x.w ∧ I64 x.h) ∧ ∀ r ∈ x.rects, r.good

theorem rows_came {P : Program} {α : Type} [Inhabited α] {w : World} {T R E : TypeId} (val : α → Value) (good : α → Prop) (hT : P.underlying T = some (.slice R)) (hR : P.underlying R = some (.slice E)) (hC : P.cellsOf R = 1)
    (ho : ∀ A k c, CameIn P w R A k c → ∃ r : α, val r = .slice A k c ∧ good r) {a : Option Addr} {len cap : Nat} (h : CameIn P w T a len cap) :
    ∃ l : List α, l.length = len ∧ l.length ≤ 9223372036854775807 ∧ Rd w (.slice a len cap) 1 len (l.map val) ∧ ∀ r ∈ l, good r := by
  obtain ⟨H, enc, d, p, fuel, hf⟩ := h
  rcases open_slice1 hT hC hf with ⟨hcs, _⟩ | ⟨x, l, c, m, n, V, D, Pl, hcs, _, hl, hm, hmm, _, hi⟩
  · simp [Value.cells] at hcs
    obtain ⟨rfl, rfl, rfl⟩ := hcs
    exact ⟨[], rfl, by simp, Rd.nil _ _, by simp⟩
  · simp [Value.cells] at hcs
    obtain ⟨rfl, rfl, rfl⟩ := hcs
    simp only [if_true] at hmm
    subst hmm
    obtain ⟨Rr, hRr⟩ := choose_lt (α := α) (n := len) (p := fun i r => w.cell? (x.add i) = some (val r) ∧ good r) (fun i hil => by
      obtain ⟨h1, h2⟩ := hi i (by omega)
      obtain ⟨A, k, c, hv, hcame⟩ := readsIn_slice ⟨H, enc, n, _, h2⟩ hR
      obtain ⟨r, hr1, hr2⟩ := ho A k c hcame
      exact ⟨r, by rw [h1, hv, hr1], hr2⟩)
    have hlm : len ≤ 9223372036854775807 := by unfold maxLen at hm; omega
    refine ⟨(List.range len).map Rr, by simp, by simpa using hlm, ⟨by simp, some x, _, rfl, hl, fun hn => ?_⟩, fun r hr => ?_⟩
    · have h0 := (hRr 0 hn).1
      have hx : x.spot = none := by
        cases hs : x.spot with
        | none => rfl
        | some s =>
          exfalso
          have : x.add 0 = x := by simp [Addr.add]
          rw [this] at h0
          unfold World.cell? at h0
          split at h0
          · simp [hs] at h0
          · cases h0
      obtain ⟨b, off, sp⟩ := x
      obtain rfl : sp = none := hx
      refine ⟨b, off, rfl, ?_, fun j u hu => ?_⟩
      · have := block_lt_of_cell h0
        rwa [addr_add] at this
      · have hj : j < len := by
          have := (List.getElem?_eq_some_iff.1 hu).1
          simpa using this
        have := (hRr j hj).1
        rw [addr_add] at this
        rw [this]
        simpa [hj] using hu
    · obtain ⟨i, hi, rfl⟩ := List.mem_map.1 hr
      exact (hRr i (by simpa using hi)).2

theorem hlists_came {w : World} {a : Option Addr} {len cap : Nat} (h : CameIn Try.prog w 33 a len cap) :
    ∃ l : List HRow, l.length = len ∧ l.length ≤ 9223372036854775807 ∧ Rd w (.slice a len cap) 1 len (l.map HRow.val) ∧ (∀ r ∈ l, r.good w) ∧ ∀ r ∈ l, r.l.length ≤ 9223372036854775807 := by
  obtain ⟨l, h1, h2, h3, h4⟩ := rows_came HRow.val (fun r => HRow.good w r ∧ r.l.length ≤ 9223372036854775807) Try.underlying33 Try.underlying60 (by kernel_rfl) (fun A k c hc => by
    obtain ⟨l, h1, h2, h3, h4⟩ := hitsR_came hc
    subst h1
    exact ⟨⟨A, c, l⟩, rfl, ⟨h3, h4⟩, h2⟩) h
  exact ⟨l, h1, h2, h3, fun r hr => (h4 r hr).1, fun r hr => (h4 r hr).2⟩
end Go.Proofs.Ytfekldcpjoiipaa
