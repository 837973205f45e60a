/-
  The calls of layer 20's laws, as they come in.
-/
import Derived.Test.YtfekldcpjoiipaaOpenS
import Derived.Test.YtfekldcpjoiipaaProg
namespace Go.Proofs.Ytfekldcpjoiipaa
open Go.RowKit

structure Op20 where
  kind : Int
  id : Int
  face : Int
  vers : Int
def Op20.enc (o : Op20) : List Value := [.int .i64 o.kind, .int .i64 o.id, .int .i64 o.face, .int .i64 o.vers]
def Op20.good (o : Op20) : Prop := I64 o.kind ∧ I64 o.id ∧ I64 o.face ∧ I64 o.vers
instance : Inhabited Op20 := ⟨⟨0, 0, 0, 0⟩⟩

theorem ops20_came {w : World} {a : Option Addr} {len cap : Nat} (h : CameIn Try.prog w 34 a len cap) :
    ∃ l : List Op20, l.length = len ∧ l.length ≤ 9223372036854775807 ∧ (∀ o ∈ l, o.good) ∧ Rd w (.slice a len cap) 4 len (l.flatMap Op20.enc) := by
  obtain ⟨L, h1, h2, h3, h4⟩ := structs_came h Try.underlying34 Try.underlying42 (by kernel_rfl) (by kernel_rfl) (by decide)
  obtain ⟨l, rfl, hg⟩ := all_enc (enc := Op20.enc) (good := Op20.good) L fun r hr => by
    obtain ⟨hlen, hf⟩ := h4 r hr
    obtain ⟨v0, e0, r0⟩ := hf 0 _ rfl
    obtain ⟨v1, e1, r1⟩ := hf 1 _ rfl
    obtain ⟨v2, e2, r2⟩ := hf 2 _ rfl
    obtain ⟨v3, e3, r3⟩ := hf 3 _ rfl
    obtain ⟨x0, rfl, b0⟩ := reads_int r0 Try.underlying3
    obtain ⟨x1, rfl, b1⟩ := reads_int r1 Try.underlying3
    obtain ⟨x2, rfl, b2⟩ := reads_int r2 Try.underlying3
    obtain ⟨x3, rfl, b3⟩ := reads_int r3 Try.underlying3
    refine ⟨⟨x0, x1, x2, x3⟩, ?_, b0, b1, b2, b3⟩
    match r, hlen with
    | [y0, y1, y2, y3], _ =>
      simp at e0 e1 e2 e3
      subst e0 e1 e2 e3
      rfl
  refine ⟨l, by simpa using h1, by simpa using h2, hg, ?_⟩
  rw [List.flatMap_def]
  exact h3

theorem Op20.row {l : List Op20} {k : Nat} (hk : k < l.length) (j : Nat) (hj : j < 4) : (l.flatMap Op20.enc)[k * 4 + j]? = ((l.getD k default).enc)[j]? := by
  rw [List.flatMap_def, flatten_get (k := 4) (l.map Op20.enc) (fun r hr => by obtain ⟨o, _, rfl⟩ := List.mem_map.1 hr; rfl) k j hj]
  simp [List.getD, hk]

theorem Op20.cells {w : World} {A : Option Addr} {n c : Nat} {l : List Op20} (h : Rd w (.slice A n c) 4 n (l.flatMap Op20.enc)) (hl : l.length = n) {k : Nat} (hk : k < n) :
    ∃ b off, A = some ⟨b, off, none⟩ ∧ b < w.heap.size ∧ w.cell? ⟨b, off + k * 4, none⟩ = some (.int .i64 (l.getD k default).kind) ∧ w.cell? ⟨b, off + k * 4 + 1, none⟩ = some (.int .i64 (l.getD k default).id) ∧
      w.cell? ⟨b, off + k * 4 + 2, none⟩ = some (.int .i64 (l.getD k default).face) ∧ w.cell? ⟨b, off + k * 4 + 3, none⟩ = some (.int .i64 (l.getD k default).vers) := by
  obtain ⟨h1, A', c', hv, hc, h2⟩ := h
  simp only [Value.slice.injEq] at hv
  obtain ⟨rfl, _, rfl⟩ := hv
  obtain ⟨b, off, rfl, hb, hcell⟩ := h2 (by omega)
  have H := fun j hj u (e : ((l.getD k default).enc)[j]? = some u) => hcell (k * 4 + j) u (by rw [Op20.row (by omega) j hj]; exact e)
  exact ⟨b, off, rfl, hb, H 0 (by decide) _ rfl, by rw [show off + k * 4 + 1 = off + (k * 4 + 1) by omega]; exact H 1 (by decide) _ rfl,
    by rw [show off + k * 4 + 2 = off + (k * 4 + 2) by omega]; exact H 2 (by decide) _ rfl, by rw [show off + k * 4 + 3 = off + (k * 4 + 3) by omega]; exact H 3 (by decide) _ rfl⟩

theorem Op20.good_at {l : List Op20} (h : ∀ o ∈ l, o.good) {k : Nat} (hk : k < l.length) : (l.getD k default).good := by
  have e : l.getD k default = l[k] := by simp [List.getD, hk]
  rw [e]; exact h _ (List.getElem_mem hk)
end Go.Proofs.Ytfekldcpjoiipaa
