/-
  A slice of structs that came in, opened: its elements as values of their fields.
  The calls of layer 17's laws, as they come in: structs with a struct and a slice of structs in them.
-/
import Derived.Test.YthkjicnnepkghaaGreatDoorPkA
import Derived.Deep.Slices
import Derived.Deep.Fields
import Derived.ChangeSame
import Derived.Test.YthkjicnnepkghaaGreatDoorPkQ
namespace Go.Proofs.YthkjicnnepkghaaGreatDoor
open Go.RowKit Go.ChangeShapes Go.WideShapes Go.Deep

section
variable {H : Type} {enc : TypeId × Value → H} {P : Program} {w : World} {base : Nat} {spare : Nat → Bool} {held : Bool}
theorem open_slice_fields {t e : TypeId} {fs : Array Field} {fuel : Nat} {cs : List Value} {x : DataW H × List MemPlace} (ht : P.underlying t = some (.slice e)) (he : P.underlying e = some (.struct fs))
    (hone : oneCellFields P fs = true) (hC : P.cellsOf e = fs.size) (h : DataW.trod enc P w base spare held fuel t cs = some x) :
    (cs = [.slice none 0 0]) ∨
    ∃ (a : Addr) (len cap m : Nat), cs = [.slice (some a) len cap] ∧ len ≤ cap ∧ cap ≤ maxLen ∧ m = (if spare a.block then cap else len) ∧
      ∀ i, i < m → ∃ (n : Nat), ∀ (j : Nat) (f : Field), fs[j]? = some f → ∃ (v : Value) (y : DataW H × List MemPlace), w.cell? (a.add (i * fs.size + j)) = some v ∧ DataW.trod enc P w base spare held n f.type [v] = some y := by
  rcases open_slice ht h with h0 | ⟨a, len, cap, m, n, D, Pl, hcs, hb, hl, hm, hmm, hx, hi⟩
  · exact .inl h0.1
  · refine .inr ⟨a, len, cap, m, hcs, hl, hm, hmm, fun i him => ?_⟩
    obtain ⟨cs', hc, ht'⟩ := hi i him
    rw [hC] at hc
    obtain ⟨ys, n', hn', hy, hlen, hyl, hf⟩ := DataW.trod_struct he ht'
    obtain ⟨_, hcl, hat⟩ := World.cells?_some hc
    refine ⟨n', fun j f hj => ?_⟩
    obtain ⟨ho, hk⟩ := hone_of hone j f hj
    have hjl : j < fs.size := (Array.getElem?_eq_some_iff.1 hj).1
    have hcell := hat j hjl
    have hv : cs'[j]? = some (cs'[j]'(by omega)) := List.getElem?_eq_getElem (by omega)
    have h1 := hf j f hj
    rw [ho, hk] at h1
    have hone' : (cs'.drop j).take 1 = [cs'[j]'(by omega)] := by
      rw [List.drop_eq_getElem_cons (by omega)]
      rfl
    rw [hone'] at h1
    have hys : ys[j]? = some (ys[j]'(by omega)) := List.getElem?_eq_getElem (by omega)
    refine ⟨_, _, ?_, h1.trans hys⟩
    rw [← Go.Deep.add_add, hcell, hv]
end

def Reads (P : Program) (t : TypeId) (v : Value) : Prop :=
  ∃ (H : Type) (enc : TypeId × Value → H) (w : World) (base : Nat) (spare : Nat → Bool) (held : Bool) (n : Nat) (y : DataW H × List MemPlace), DataW.trod enc P w base spare held n t [v] = some y

theorem reads_int {P : Program} {t : TypeId} {v : Value} (h : Reads P t v) (ht : P.underlying t = some (.int .i64)) : ∃ x, v = .int .i64 x ∧ I64 x := by
  obtain ⟨H, enc, w, base, spare, held, n, y, hy⟩ := h
  obtain ⟨x, hx, _, hw⟩ := DataW.trod_int ht hy
  exact ⟨x, by simpa using hx, i64_of_wf hw⟩
theorem reads_bool {P : Program} {t : TypeId} {v : Value} (h : Reads P t v) (ht : P.underlying t = some .bool) : ∃ b, v = .bool b := by
  obtain ⟨H, enc, w, base, spare, held, n, y, hy⟩ := h
  obtain ⟨x, hx, _⟩ := DataW.trod_bool ht hy
  exact ⟨x, by simpa using hx⟩

theorem flatten_get {k : Nat} : ∀ (L : List (List Value)) (_ : ∀ r ∈ L, r.length = k) (i j : Nat), j < k → L.flatten[i * k + j]? = (L[i]?).bind (fun r => r[j]?)
  | [], _, i, j, _ => by simp
  | r :: L, hL, i, j, hj => by
    have hr := hL r (List.mem_cons_self ..)
    cases i with
    | zero => simp [List.getElem?_append_left, hr, hj]
    | succ i =>
      rw [List.flatten_cons, List.getElem?_append_right (by rw [hr, Nat.succ_mul]; omega), hr, show (i + 1) * k + j - k = i * k + j by rw [Nat.succ_mul]; omega, flatten_get L (fun r h => hL r (List.mem_cons_of_mem _ h)) i j hj]
      simp

theorem flatten_len {k : Nat} : ∀ (L : List (List Value)) (_ : ∀ r ∈ L, r.length = k), L.flatten.length = L.length * k
  | [], _ => by simp
  | r :: L, hL => by
    rw [List.flatten_cons, List.length_append, flatten_len L (fun r h => hL r (List.mem_cons_of_mem _ h)), hL r (List.mem_cons_self ..), List.length_cons, Nat.succ_mul]
    omega

theorem structs_came {P : Program} {w : World} {T e : TypeId} {fs : Array Field} {a : Option Addr} {len cap : Nat} (h : CameIn P w T a len cap) (ht : P.underlying T = some (.slice e)) (he : P.underlying e = some (.struct fs))
    (hone : oneCellFields P fs = true) (hC : P.cellsOf e = fs.size) (h0 : 0 < fs.size) :
    ∃ L : List (List Value), L.length = len ∧ L.length ≤ 9223372036854775807 ∧ Rd w (.slice a len cap) fs.size len L.flatten ∧
      ∀ r ∈ L, r.length = fs.size ∧ ∀ (j : Nat) (f : Field), fs[j]? = some f → ∃ v, r[j]? = some v ∧ Reads P f.type v := by
  obtain ⟨H, enc, d, p, fuel, hf⟩ := h
  rcases open_slice_fields ht he hone hC hf with hcs | ⟨x, l, c, m, hcs, hl, hm, hmm, hi⟩
  · simp [Value.cells] at hcs
    obtain ⟨rfl, rfl, rfl⟩ := hcs
    exact ⟨[], rfl, by simp, Rd.nil _ _, by simp⟩
  · simp [Value.cells] at hcs
    obtain ⟨rfl, rfl, rfl⟩ := hcs
    simp only [if_true] at hmm
    subst hmm
    have hx : 0 < len → x.spot = none := fun hn => by
      obtain ⟨n, hj⟩ := hi 0 (by omega)
      obtain ⟨f, hf0⟩ : ∃ f, fs[0]? = some f := ⟨fs[0], Array.getElem?_eq_getElem h0⟩
      obtain ⟨v, y, hc, _⟩ := hj 0 f hf0
      cases hs : x.spot with
      | none => rfl
      | some s =>
        exfalso
        have : x.add (0 * fs.size + 0) = x := by simp [Addr.add]
        rw [this] at hc
        unfold World.cell? at hc
        split at hc
        · simp [hs] at hc
        · cases hc
    have hrow : ∀ i, i < len → ∃ r : List Value, r.length = fs.size ∧ (∀ j v, r[j]? = some v → w.cell? (x.add (i * fs.size + j)) = some v) ∧ ∀ (j : Nat) (f : Field), fs[j]? = some f → ∃ v, r[j]? = some v ∧ Reads P f.type v := fun i hil => by
      obtain ⟨n, hj⟩ := hi i (by omega)
      obtain ⟨V, hV⟩ := choose_lt (α := Value) (n := fs.size) (p := fun j v => w.cell? (x.add (i * fs.size + j)) = some v ∧ ∀ f, fs[j]? = some f → Reads P f.type v) (fun j hjl => by
        obtain ⟨v, y, h1, h2⟩ := hj j fs[j] (Array.getElem?_eq_getElem hjl)
        refine ⟨v, h1, fun f hf => ?_⟩
        rw [Array.getElem?_eq_getElem hjl] at hf
        cases hf
        exact ⟨H, enc, w, _, _, _, n, y, h2⟩)
      refine ⟨(List.range fs.size).map V, by simp, fun j v hv => ?_, fun j f hf => ?_⟩
      · have hjl : j < fs.size := by
          have := (List.getElem?_eq_some_iff.1 hv).1
          simpa using this
        rw [(hV j hjl).1]
        simpa [hjl] using hv
      · have hjl : j < fs.size := (Array.getElem?_eq_some_iff.1 hf).1
        exact ⟨V j, by simp [hjl], (hV j hjl).2 f hf⟩
    obtain ⟨R, hR⟩ := choose_lt (α := List Value) (n := len) (p := fun i r => r.length = fs.size ∧ (∀ j v, r[j]? = some v → w.cell? (x.add (i * fs.size + j)) = some v) ∧ ∀ (j : Nat) (f : Field), fs[j]? = some f → ∃ v, r[j]? = some v ∧ Reads P f.type v) hrow
    have hlen : ∀ r ∈ (List.range len).map R, r.length = fs.size := fun r hr => by
      obtain ⟨i, hi, rfl⟩ := List.mem_map.1 hr
      exact (hR i (by simpa using hi)).1
    refine ⟨(List.range len).map R, by simp, by simp; unfold maxLen at hm; omega, ⟨by rw [flatten_len _ hlen]; simp, some x, _, rfl, hl, fun hn => ?_⟩, fun r hr => ?_⟩
    · have hs := hx hn
      obtain ⟨b, off, sp⟩ := x
      obtain rfl : sp = none := hs
      refine ⟨b, off, rfl, ?_, fun q u hu => ?_⟩
      · obtain ⟨h1, h2, h3⟩ := hR 0 hn
        obtain ⟨v, hv, _⟩ := h3 0 fs[0] (Array.getElem?_eq_getElem h0)
        have := block_lt_of_cell (h2 0 v hv)
        rwa [addr_add] at this
      · have hq : q / fs.size * fs.size + q % fs.size = q := by rw [Nat.mul_comm]; exact Nat.div_add_mod q _
        have hj : q % fs.size < fs.size := Nat.mod_lt _ h0
        rw [← hq, flatten_get _ hlen _ _ hj] at hu
        obtain ⟨r, hr, hu⟩ := Option.bind_eq_some_iff.1 hu
        have hil : q / fs.size < len := by
          have := (List.getElem?_eq_some_iff.1 hr).1
          simpa using this
        have hr' : r = R (q / fs.size) := by simpa [hil] using hr.symm
        subst hr'
        have := (hR _ hil).2.1 _ _ hu
        rwa [addr_add, hq] at this
    · obtain ⟨i, hi, rfl⟩ := List.mem_map.1 hr
      obtain ⟨h1, _, h3⟩ := hR i (by simpa using hi)
      exact ⟨h1, h3⟩

theorem all_enc {α β : Type} {enc : α → β} {good : α → Prop} : ∀ (L : List β), (∀ r ∈ L, ∃ x, r = enc x ∧ good x) → ∃ l : List α, L = l.map enc ∧ ∀ x ∈ l, good x
  | [], _ => ⟨[], rfl, by simp⟩
  | r :: L, h => by
    obtain ⟨x, rfl, hx⟩ := h r (List.mem_cons_self ..)
    obtain ⟨l, rfl, hl⟩ := all_enc L fun r hr => h r (List.mem_cons_of_mem _ hr)
    exact ⟨x :: l, rfl, fun y hy => by
      rcases List.mem_cons.1 hy with rfl | hy
      · exact hx
      · exact hl y hy⟩
end Go.Proofs.YthkjicnnepkghaaGreatDoor
namespace Go.Proofs.YthkjicnnepkghaaGreatDoor
open Go.RowKit Go.ChangeShapes Go.WideShapes Go.Deep
set_option linter.unusedVariables false

def TrodIn (P : Program) (w : World) (t : TypeId) (cs : List Value) : Prop :=
  ∃ (H : Type) (enc : TypeId × Value → H) (n : Nat) (y : DataW H × List MemPlace), DataW.trod enc P w 0 (fun _ => true) true n t cs = some y
theorem TrodIn.fields {P : Program} {w : World} {t : TypeId} {cs : List Value} {fs : Array Field} (h : TrodIn P w t cs) (ht : P.underlying t = some (.struct fs)) :
    cs.length = P.cellsOf t ∧ ∀ (i : Nat) (f : Field), fs[i]? = some f → TrodIn P w f.type ((cs.drop f.offset).take (P.cellsOf f.type)) := by
  obtain ⟨H, enc, n, y, h⟩ := h
  obtain ⟨xs, m, _, _, h3, h4, h5⟩ := DataW.trod_struct ht h
  refine ⟨h3, fun i f hf => ?_⟩
  have hlt : i < xs.length := by rw [h4]; exact (Array.getElem?_eq_some_iff.1 hf).1
  have := h5 i f hf
  rw [List.getElem?_eq_getElem hlt] at this
  exact ⟨H, enc, m, _, this⟩
theorem TrodIn.int {P : Program} {w : World} {t : TypeId} {v : Value} (h : TrodIn P w t [v]) (ht : P.underlying t = some (.int .i64)) : ∃ x, v = .int .i64 x ∧ I64 x := by
  obtain ⟨H, enc, n, y, h⟩ := h
  obtain ⟨x, hx, _, hw⟩ := DataW.trod_int ht h
  exact ⟨x, by simpa using hx, i64_of_wf hw⟩
theorem TrodIn.slice {P : Program} {w : World} {t e : TypeId} {v : Value} (h : TrodIn P w t [v]) (ht : P.underlying t = some (.slice e)) : ∃ A k c, v = .slice A k c ∧ CameIn P w t A k c := by
  obtain ⟨H, enc, n, ⟨d, p⟩, h⟩ := h
  rcases open_slice ht h with h0 | ⟨a, len, cap, m, n', D, Pl, hcs, _⟩
  · have := h0.1
    simp at this
    subst this
    exact ⟨none, 0, 0, rfl, H, enc, d, p, n, by simpa [Value.cells] using h⟩
  · simp at hcs
    subst hcs
    exact ⟨_, _, _, rfl, H, enc, d, p, n, by simpa [Value.cells] using h⟩
theorem rows_wide {P : Program} {w : World} {T e : TypeId} {K : Nat} {a : Option Addr} {len cap : Nat} (h : CameIn P w T a len cap) (ht : P.underlying T = some (.slice e)) (hC : P.cellsOf e = K) (h0 : 0 < K) :
    ∃ L : List (List Value), L.length = len ∧ len ≤ 9223372036854775807 ∧ Rd w (.slice a len cap) K len L.flatten ∧ ∀ r ∈ L, r.length = K ∧ TrodIn P w e r := by
  obtain ⟨H, enc, d, p, fuel, hf⟩ := h
  rcases open_slice ht hf with hcs | ⟨x, l, c, m, n, D, Pl, hcs, _, hl, hm, hmm, _, hi⟩
  · have := hcs.1
    simp [Value.cells] at this
    obtain ⟨rfl, rfl, rfl⟩ := this
    exact ⟨[], rfl, by simp, Rd.nil _ _, by simp⟩
  · simp [Value.cells] at hcs
    obtain ⟨rfl, rfl, rfl⟩ := hcs
    simp only [if_true] at hmm
    subst hmm
    rw [hC] at hi
    have hrow : ∀ i, i < len → ∃ r : List Value, r.length = K ∧ (∀ j v, r[j]? = some v → w.cell? (x.add (i * K + j)) = some v) ∧ TrodIn P w e r := fun i hil => by
      obtain ⟨cs', hc, ht'⟩ := hi i (by omega)
      obtain ⟨_, hcl, hat⟩ := World.cells?_some hc
      refine ⟨cs', hcl, fun j v hv => ?_, H, enc, n, _, ht'⟩
      have hjl : j < K := by rw [← hcl]; exact (List.getElem?_eq_some_iff.1 hv).1
      have := hat j hjl
      rw [← Go.Deep.add_add, this, hv]
    obtain ⟨R, hR⟩ := choose_lt (α := List Value) (n := len) (p := fun i r => r.length = K ∧ (∀ j v, r[j]? = some v → w.cell? (x.add (i * K + j)) = some v) ∧ TrodIn P w e r) hrow
    have hlen : ∀ r ∈ (List.range len).map R, r.length = K := fun r hr => by
      obtain ⟨i, hi, rfl⟩ := List.mem_map.1 hr
      exact (hR i (by simpa using hi)).1
    refine ⟨(List.range len).map R, by simp, by unfold maxLen at hm; omega, ⟨by rw [flatten_len _ hlen]; simp, some x, _, rfl, hl, fun hn => ?_⟩, fun r hr => ?_⟩
    · obtain ⟨q1, q2, _⟩ := hR 0 hn
      have h00 := q2 0 ((R 0)[0]'(by omega)) (List.getElem?_eq_getElem (by omega))
      have hs : x.spot = none := by
        cases hs : x.spot with
        | none => rfl
        | some s =>
          exfalso
          have : x.add (0 * K + 0) = x := by simp [Addr.add]
          rw [this] at h00
          unfold World.cell? at h00
          split at h00
          · simp [hs] at h00
          · cases h00
      obtain ⟨b, off, sp⟩ := x
      obtain rfl : sp = none := hs
      refine ⟨b, off, rfl, ?_, fun q u hu => ?_⟩
      · have := block_lt_of_cell h00
        rwa [addr_add] at this
      · have hq : q / K * K + q % K = q := by rw [Nat.mul_comm]; exact Nat.div_add_mod q _
        have hj : q % K < K := Nat.mod_lt _ h0
        rw [← hq, flatten_get _ hlen _ _ hj] at hu
        obtain ⟨r, hr, hu⟩ := Option.bind_eq_some_iff.1 hu
        have hil : q / K < len := by
          have := (List.getElem?_eq_some_iff.1 hr).1
          simpa using this
        have hr' : r = R (q / K) := by simpa [hil] using hr.symm
        subst hr'
        have := (hR _ hil).2.1 _ _ hu
        rwa [addr_add, hq] at this
    · obtain ⟨i, hi, rfl⟩ := List.mem_map.1 hr
      obtain ⟨h1, _, h3⟩ := hR i (by simpa using hi)
      exact ⟨h1, h3⟩
theorem Tryz.cellsInt17 : Tryz.prog.cellsOf 3 = 1 := by kernel_rfl
theorem Tryz.cellsRect17 : Tryz.prog.cellsOf 30 = 4 := by kernel_rfl
theorem Tryz.cellsRects17 : Tryz.prog.cellsOf 31 = 1 := by kernel_rfl
theorem Tryz.cellsOp17 : Tryz.prog.cellsOf 33 = 9 := by kernel_rfl
set_option maxRecDepth 100000 in
theorem rect_trod {w : World} {r : List Value} (h : TrodIn Tryz.prog w 30 r) : ∃ x : R4, r = x.enc := by
  obtain ⟨hl, hf⟩ := h.fields Tryz.underlying30
  rw [Tryz.cellsRect17] at hl
  match r, hl with
  | [y0, y1, y2, y3], _ =>
    have f0 : TrodIn Tryz.prog w 3 ((([y0, y1, y2, y3] : List Value).drop 0).take (Tryz.prog.cellsOf 3)) := hf 0 _ rfl
    rw [Tryz.cellsInt17] at f0
    have f1 : TrodIn Tryz.prog w 3 ((([y0, y1, y2, y3] : List Value).drop 1).take (Tryz.prog.cellsOf 3)) := hf 1 _ rfl
    rw [Tryz.cellsInt17] at f1
    have f2 : TrodIn Tryz.prog w 3 ((([y0, y1, y2, y3] : List Value).drop 2).take (Tryz.prog.cellsOf 3)) := hf 2 _ rfl
    rw [Tryz.cellsInt17] at f2
    have f3 : TrodIn Tryz.prog w 3 ((([y0, y1, y2, y3] : List Value).drop 3).take (Tryz.prog.cellsOf 3)) := hf 3 _ rfl
    rw [Tryz.cellsInt17] at f3
    obtain ⟨x0, rfl, _⟩ := TrodIn.int (v := y0) f0 Tryz.underlying3
    obtain ⟨x1, rfl, _⟩ := TrodIn.int (v := y1) f1 Tryz.underlying3
    obtain ⟨x2, rfl, _⟩ := TrodIn.int (v := y2) f2 Tryz.underlying3
    obtain ⟨x3, rfl, _⟩ := TrodIn.int (v := y3) f3 Tryz.underlying3
    exact ⟨⟨x0, x1, x2, x3⟩, rfl⟩
theorem rects17_came {w : World} {a : Option Addr} {len cap : Nat} (h : CameIn Tryz.prog w 31 a len cap) : ∃ l : List R4, l.length = len ∧ Rd w (.slice a len cap) 4 len (l.flatMap R4.enc) := by
  obtain ⟨L, h1, h2, h3, h4⟩ := rows_wide h Tryz.underlying31 Tryz.cellsRect17 (by decide)
  obtain ⟨l, rfl, _⟩ := all_enc (enc := R4.enc) (good := fun _ => True) L fun r hr => by
    obtain ⟨x, hx⟩ := rect_trod (h4 r hr).2
    exact ⟨x, hx, trivial⟩
  exact ⟨l, by simpa using h1, by rw [List.flatMap_def]; exact h3⟩

structure OpR where
  o : Op17
  A : Option Addr
  c : Nat
instance : Inhabited OpR := ⟨⟨default, none, 0⟩⟩
def OpR.lv (x : OpR) : Value := .slice x.A x.o.l.length x.c
def OpR.enc (x : OpR) : List Value := [.int .i64 x.o.kind, .int .i64 x.o.id, .int .i64 x.o.a, .int .i64 x.o.b, .int .i64 x.o.r.x, .int .i64 x.o.r.y, .int .i64 x.o.r.w, .int .i64 x.o.r.h, x.lv]
def OpR.good (w : World) (x : OpR) : Prop := x.o.good ∧ Rd w x.lv 4 x.o.l.length (x.o.l.flatMap R4.enc)
set_option maxRecDepth 100000 in
theorem ops17_came {w : World} {a : Option Addr} {len cap : Nat} (h : CameIn Tryz.prog w 22 a len cap) :
    ∃ l : List OpR, l.length = len ∧ len ≤ 9223372036854775807 ∧ Rd w (.slice a len cap) 9 len (l.flatMap OpR.enc) ∧ ∀ x ∈ l, x.good w := by
  obtain ⟨L, h1, h2, h3, h4⟩ := rows_wide h Tryz.underlying22 Tryz.cellsOp17 (by decide)
  obtain ⟨l, rfl, hg⟩ := all_enc (enc := OpR.enc) (good := fun x => x.good w) L fun r hr => by
    obtain ⟨hl, ht⟩ := h4 r hr
    obtain ⟨_, hf⟩ := ht.fields Tryz.underlying33
    match r, hl with
    | [y0, y1, y2, y3, y4, y5, y6, y7, y8], _ =>
      have f0 : TrodIn Tryz.prog w 3 ((([y0, y1, y2, y3, y4, y5, y6, y7, y8] : List Value).drop 0).take (Tryz.prog.cellsOf 3)) := hf 0 _ rfl
      rw [Tryz.cellsInt17] at f0
      have f1 : TrodIn Tryz.prog w 3 ((([y0, y1, y2, y3, y4, y5, y6, y7, y8] : List Value).drop 1).take (Tryz.prog.cellsOf 3)) := hf 1 _ rfl
      rw [Tryz.cellsInt17] at f1
      have f2 : TrodIn Tryz.prog w 3 ((([y0, y1, y2, y3, y4, y5, y6, y7, y8] : List Value).drop 2).take (Tryz.prog.cellsOf 3)) := hf 2 _ rfl
      rw [Tryz.cellsInt17] at f2
      have f3 : TrodIn Tryz.prog w 3 ((([y0, y1, y2, y3, y4, y5, y6, y7, y8] : List Value).drop 3).take (Tryz.prog.cellsOf 3)) := hf 3 _ rfl
      rw [Tryz.cellsInt17] at f3
      have f4 : TrodIn Tryz.prog w 30 ((([y0, y1, y2, y3, y4, y5, y6, y7, y8] : List Value).drop 4).take (Tryz.prog.cellsOf 30)) := hf 4 _ rfl
      rw [Tryz.cellsRect17] at f4
      have f5 : TrodIn Tryz.prog w 31 ((([y0, y1, y2, y3, y4, y5, y6, y7, y8] : List Value).drop 8).take (Tryz.prog.cellsOf 31)) := hf 5 _ rfl
      rw [Tryz.cellsRects17] at f5
      obtain ⟨x0, rfl, b0⟩ := TrodIn.int (v := y0) f0 Tryz.underlying3
      obtain ⟨x1, rfl, b1⟩ := TrodIn.int (v := y1) f1 Tryz.underlying3
      obtain ⟨x2, rfl, b2⟩ := TrodIn.int (v := y2) f2 Tryz.underlying3
      obtain ⟨x3, rfl, b3⟩ := TrodIn.int (v := y3) f3 Tryz.underlying3
      obtain ⟨rc, hrc⟩ := rect_trod (r := [y4, y5, y6, y7]) f4
      obtain ⟨A, k, c, rfl, hcame⟩ := TrodIn.slice (v := y8) f5 Tryz.underlying31
      obtain ⟨rs, hrs, hrd⟩ := rects17_came hcame
      subst hrs
      refine ⟨⟨⟨x0, x1, x2, x3, rc, rs⟩, A, c⟩, ?_, ⟨b0, b1, b2, b3⟩, hrd⟩
      simp only [R4.enc, List.cons.injEq, and_true] at hrc
      obtain ⟨rfl, rfl, rfl, rfl⟩ := hrc
      rfl
  exact ⟨l, by simpa using h1, h2, by rw [List.flatMap_def]; exact h3, hg⟩
theorem OpR.row {l : List OpR} {k : Nat} (hk : k < l.length) (j : Nat) (hj : j < 9) : (l.flatMap OpR.enc)[k * 9 + j]? = ((l.getD k default).enc)[j]? := by
  rw [List.flatMap_def, flatten_get (k := 9) (l.map OpR.enc) (fun r hr => by obtain ⟨o, _, rfl⟩ := List.mem_map.1 hr; rfl) k j hj]
  simp [List.getD, hk]
theorem OpR.cells {w : World} {A : Option Addr} {n c : Nat} {l : List OpR} (h : Rd w (.slice A n c) 9 n (l.flatMap OpR.enc)) (hl : l.length = n) {k : Nat} (hk : k < n) :
    ∃ b off, A = some ⟨b, off, none⟩ ∧ b < w.heap.size ∧ ∀ j u, ((l.getD k default).enc)[j]? = some u → w.cell? ⟨b, off + k * 9 + j, none⟩ = some u := by
  obtain ⟨h1, A', c', hv, hc, h2⟩ := h
  simp only [Value.slice.injEq] at hv
  obtain ⟨rfl, _, rfl⟩ := hv
  obtain ⟨b, off, rfl, hb, hcell⟩ := h2 (by omega)
  refine ⟨b, off, rfl, hb, fun j u hu => ?_⟩
  have hj : j < 9 := by
    have := (List.getElem?_eq_some_iff.1 hu).1
    simpa [OpR.enc] using this
  rw [Nat.add_assoc]
  exact hcell (k * 9 + j) u (by rw [OpR.row (by omega) j hj]; exact hu)
theorem OpR.good_at {w : World} {l : List OpR} (h : ∀ x ∈ l, x.good w) {k : Nat} (hk : k < l.length) : (l.getD k default).good w := by
  have e : l.getD k default = l[k] := by simp [List.getD, hk]
  rw [e]; exact h _ (List.getElem_mem hk)
end Go.Proofs.YthkjicnnepkghaaGreatDoor
