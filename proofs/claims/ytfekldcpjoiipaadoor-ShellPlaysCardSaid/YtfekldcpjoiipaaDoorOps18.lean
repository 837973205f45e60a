/-
  The calls of layer 18's laws, as they come in.
-/
import Derived.Test.YtfekldcpjoiipaaDoorOpenS
import Derived.Test.YtfekldcpjoiipaaDoorProg
namespace Go.Proofs.YtfekldcpjoiipaaDoor
open Go.RowKit

structure Op18 where
  kind : Int
  id : Int
  serial : Int
  attach : Bool
  buffer : Bool
def Op18.enc (o : Op18) : List Value := [.int .i64 o.kind, .int .i64 o.id, .int .i64 o.serial, .bool o.attach, .bool o.buffer]
def Op18.good (o : Op18) : Prop := I64 o.kind ∧ I64 o.id ∧ I64 o.serial
instance : Inhabited Op18 := ⟨⟨0, 0, 0, false, false⟩⟩

theorem ops18_came {w : World} {a : Option Addr} {len cap : Nat} (h : CameIn Tryd.prog w 49 a len cap) :
    ∃ l : List Op18, l.length = len ∧ l.length ≤ 9223372036854775807 ∧ (∀ o ∈ l, o.good) ∧ Rd w (.slice a len cap) 5 len (l.flatMap Op18.enc) := by
  obtain ⟨L, h1, h2, h3, h4⟩ := structs_came h Tryd.underlying49 Tryd.underlying55 (by kernel_rfl) (by kernel_rfl) (by decide)
  obtain ⟨l, rfl, hg⟩ := all_enc (enc := Op18.enc) (good := Op18.good) L fun r hr => by
    obtain ⟨hlen, hf⟩ := h4 r hr
    obtain ⟨v0, e0, r0⟩ := hf 0 _ rfl
    obtain ⟨v1, e1, r1⟩ := hf 1 _ rfl
    obtain ⟨v2, e2, r2⟩ := hf 2 _ rfl
    obtain ⟨v3, e3, r3⟩ := hf 3 _ rfl
    obtain ⟨v4, e4, r4⟩ := hf 4 _ rfl
    obtain ⟨x0, rfl, b0⟩ := reads_int r0 Tryd.underlying3
    obtain ⟨x1, rfl, b1⟩ := reads_int r1 Tryd.underlying3
    obtain ⟨x2, rfl, b2⟩ := reads_int r2 Tryd.underlying3
    obtain ⟨x3, rfl⟩ := reads_bool r3 Tryd.underlying4
    obtain ⟨x4, rfl⟩ := reads_bool r4 Tryd.underlying4
    refine ⟨⟨x0, x1, x2, x3, x4⟩, ?_, b0, b1, b2⟩
    match r, hlen with
    | [y0, y1, y2, y3, y4], _ =>
      simp at e0 e1 e2 e3 e4
      subst e0 e1 e2 e3 e4
      rfl
  refine ⟨l, by simpa using h1, by simpa using h2, hg, ?_⟩
  rw [List.flatMap_def]
  exact h3

theorem Op18.row {l : List Op18} {k : Nat} (hk : k < l.length) (j : Nat) (hj : j < 5) : (l.flatMap Op18.enc)[k * 5 + j]? = ((l.getD k default).enc)[j]? := by
  rw [List.flatMap_def, flatten_get (k := 5) (l.map Op18.enc) (fun r hr => by obtain ⟨o, _, rfl⟩ := List.mem_map.1 hr; rfl) k j hj]
  simp [List.getD, hk]

theorem Op18.cells {w : World} {A : Option Addr} {n c : Nat} {l : List Op18} (h : Rd w (.slice A n c) 5 n (l.flatMap Op18.enc)) (hl : l.length = n) {k : Nat} (hk : k < n) :
    ∃ b off, A = some ⟨b, off, none⟩ ∧ b < w.heap.size ∧ w.cell? ⟨b, off + k * 5, none⟩ = some (.int .i64 (l.getD k default).kind) ∧ w.cell? ⟨b, off + k * 5 + 1, none⟩ = some (.int .i64 (l.getD k default).id) ∧
      w.cell? ⟨b, off + k * 5 + 2, none⟩ = some (.int .i64 (l.getD k default).serial) ∧ w.cell? ⟨b, off + k * 5 + 3, none⟩ = some (.bool (l.getD k default).attach) ∧ w.cell? ⟨b, off + k * 5 + 4, none⟩ = some (.bool (l.getD k default).buffer) := by
  obtain ⟨h1, A', c', hv, hc, h2⟩ := h
  simp only [Value.slice.injEq] at hv
  obtain ⟨rfl, _, rfl⟩ := hv
  obtain ⟨b, off, rfl, hb, hcell⟩ := h2 (by omega)
  have H := fun j hj u (e : ((l.getD k default).enc)[j]? = some u) => hcell (k * 5 + j) u (by rw [Op18.row (by omega) j hj]; exact e)
  exact ⟨b, off, rfl, hb, H 0 (by decide) _ rfl, by rw [show off + k * 5 + 1 = off + (k * 5 + 1) by omega]; exact H 1 (by decide) _ rfl,
    by rw [show off + k * 5 + 2 = off + (k * 5 + 2) by omega]; exact H 2 (by decide) _ rfl, by rw [show off + k * 5 + 3 = off + (k * 5 + 3) by omega]; exact H 3 (by decide) _ rfl,
    by rw [show off + k * 5 + 4 = off + (k * 5 + 4) by omega]; exact H 4 (by decide) _ rfl⟩

theorem Op18.good_at {l : List Op18} (h : ∀ o ∈ l, o.good) {k : Nat} (hk : k < l.length) : (l.getD k default).good := by
  have e : l.getD k default = l[k] := by simp [List.getD, hk]
  rw [e]; exact h _ (List.getElem_mem hk)
end Go.Proofs.YtfekldcpjoiipaaDoor
