/-
  Layer 20: the document's example.
-/
import Derived.Test.YtfekldcpjoiipaaSeat
namespace Go.Proofs.Ytfekldcpjoiipaa
open Go.RowKit Go.Shelf
set_option linter.unusedVariables false

/-- The seat and some lists, laid since W. -/
theorem SeatAt.chg {w w' : World} {p : Nat} {x y k f : Int} {F : Nat → Prop} (h : SeatAt w p x y k f) (hg : Chg F w w') (hn : ¬ F p) : SeatAt w' p x y k f := (hg.block p h.lt hn).trans h
theorem Rd.chg {w w' : World} {v : Value} {sz n : Nat} {cs : List Value} {F : Nat → Prop} (h : Rd w v sz n cs) (hg : Chg F w w') (hn : ∀ b, v.ownBlock = some b → ¬ F b) : Rd w' v sz n cs :=
  h.keep hg.size fun b hb hlt => hg.block b hlt (hn b hb)
theorem RdH.chg {w w' : World} {v : Value} {L : List Hit} {F : Nat → Prop} (h : RdH w v L) (hg : Chg F w w') (hn : ∀ b, v.ownBlock = some b → ¬ F b) (hr : ∀ x ∈ L, ∀ b, x.reg.ownBlock = some b → ¬ F b) : RdH w' v L :=
  ⟨Rd.chg h.row hg hn, fun x hx => Rd.chg (h.reg x hx) hg (hr x hx)⟩
theorem own_below {w w' : World} {base n sz : Nat} {e : TypeId} {v : Value} {cs : List Value} (hr : w.ownsRow base e sz v n cs) (hB : Below w.heap.size w w') : w'.ownsRow base e sz v n cs := by
  refine ⟨hr.1, ?_⟩
  rcases hr.2 with h2 | ⟨g, cap, cur, rfl, hb, hg, r⟩
  · exact .inl h2
  · exact .inr ⟨g, cap, cur, rfl, hb, (hB.block g (lt_of_block hg)).trans hg, r⟩
theorem note_row {L : List Note} {k : Nat} (hk : k < L.length) (j : Nat) (hj : j < 4) : (L.flatMap Note.enc)[k * 4 + j]? = ((L.getD k default).enc)[j]? := by
  induction L generalizing k with
  | nil => simp at hk
  | cons r L ih =>
    rw [List.flatMap_cons]
    have hr : r.enc.length = 4 := rfl
    cases k with
    | zero =>
      rw [List.getElem?_append_left (by rw [hr]; omega)]
      simp
    | succ k =>
      rw [List.getElem?_append_right (by rw [hr]; omega), hr, show (k + 1) * 4 + j - 4 = k * 4 + j by omega, ih (by simpa using hk)]
      simp
theorem note_cells {w : World} {A : Option Addr} {c n : Nat} {L : List Note} (h : Rd w (.slice A n c) 4 n (L.flatMap Note.enc)) (hn : n = L.length) (h0 : 0 < n) :
    ∃ b off, A = some ⟨b, off, none⟩ ∧ b < w.heap.size ∧ ∀ k, k < n → w.cell? ⟨b, off + k * 4, none⟩ = some (.int .i64 (L.getD k default).k) ∧ w.cell? ⟨b, off + k * 4 + 1, none⟩ = some (.int .i64 (L.getD k default).s) ∧
      w.cell? ⟨b, off + k * 4 + 2, none⟩ = some (.int .i64 (L.getD k default).x) ∧ w.cell? ⟨b, off + k * 4 + 3, none⟩ = some (.int .i64 (L.getD k default).y) := by
  obtain ⟨h1, A', c', hv, hc, h2⟩ := h
  simp only [Value.slice.injEq] at hv
  obtain ⟨rfl, _, rfl⟩ := hv
  obtain ⟨b, off, rfl, hb, hcell⟩ := h2 h0
  refine ⟨b, off, rfl, hb, fun k hk => ?_⟩
  have H := fun j hj u (e : ((L.getD k default).enc)[j]? = some u) => hcell (k * 4 + j) u (by rw [note_row (by omega) j hj]; exact e)
  exact ⟨H 0 (by decide) _ rfl, by rw [show off + k * 4 + 1 = off + (k * 4 + 1) by omega]; exact H 1 (by decide) _ rfl,
    by rw [show off + k * 4 + 2 = off + (k * 4 + 2) by omega]; exact H 2 (by decide) _ rfl, by rw [show off + k * 4 + 3 = off + (k * 4 + 3) by omega]; exact H 3 (by decide) _ rfl⟩

def exHit : Hit := ⟨4, 1, 1, 5, 5, true, .slice none 0 0, []⟩
theorem exHit_good : ∀ h ∈ [exHit], h.good := by
  intro h hh
  obtain rfl : h = exHit := by simpa using hh
  refine ⟨?_, ?_, ?_, ?_, ?_, by unfold exHit; simp, by unfold exHit; simp⟩
  all_goals
    unfold I64 exHit
    dsimp only
    omega
theorem exHit_at : atH [exHit] (cutE 2) (cutE 3) = (4, 1, 2) := by decide
theorem exHit_m1 : moveN [exHit] (cutE 2) (cutE 3) 0 = [⟨1, 4, 1, 2⟩] := by decide
theorem exHit_m2 : moveN [exHit] (cutE 2) (cutE 3) 4 = [⟨3, 4, 1, 2⟩] := by decide

set_option maxRecDepth 100000 in
set_option maxHeartbeats 1000000 in
theorem awake20_any (w : World) : Calls Try.prog 9 #[] w fun e w' => e = .returned (.bool true) ∧ Below w.heap.size w w' := by
  have cN := hide (seNew_any w)
  go_enter Try.func9, Try.ntmps9
  go_wp2_with fail
  refine (cN.out).mono ?_
  rintro e w1 ⟨rfl, h1, hB1⟩
  go_wp2_with fail
  have hB2 : Below w1.heap.size w1 (w1.alloc (.cells #[.int .i64 4, .int .i64 1, .int .i64 1, .int .i64 5, .int .i64 5, .bool true, .slice none 0 0] 28)) := (Below.refl _ _).alloc (Nat.le_refl _) _
  have hL2 : RdH (w1.alloc (.cells #[.int .i64 4, .int .i64 1, .int .i64 1, .int .i64 5, .int .i64 5, .bool true, .slice none 0 0] 28)) (.slice (some ⟨w1.heap.size, 0, none⟩) 1 1) [exHit] :=
    ⟨Rd.lit (sz := 7) w1 [.int .i64 4, .int .i64 1, .int .i64 1, .int .i64 5, .int .i64 5, .bool true, .slice none 0 0] 28 1 rfl (by unfold maxLen; omega), fun x hx => by
      obtain rfl : x = exHit := by simpa using hx
      exact Rd.nil _ _⟩
  have h2 := h1.below hB2
  have hlt := h1.lt
  have hBa := hide (hB1.trans (hB2.mono hB1.size))
  generalize w1.heap.size = B at hL2 hlt hB2 ⊢
  generalize w1.alloc (.cells #[.int .i64 4, .int .i64 1, .int .i64 1, .int .i64 5, .int .i64 5, .bool true, .slice none 0 0] 28) = w2 at hB2 hL2 h2 hBa ⊢
  have hvp : (Value.slice (some ⟨B, 0, none⟩) 1 1).ownBlock ≠ some w.heap.size := fun e => by simp [Value.ownBlock] at e; omega
  have hrp : ∀ h ∈ [exHit], h.reg.ownBlock ≠ some w.heap.size := fun x hx e => by
    obtain rfl : x = exHit := by simpa using hx
    simp [exHit, Value.ownBlock] at e
  have m1 := move_any w2 w.heap.size 0 0 0 0 2 3 _ [exHit] h2 hL2 exHit_good hvp hrp (by simp)
  rw [exHit_at, exHit_m1] at m1
  have hvp' := hide hvp
  have hrp' := hide hrp
  have hL2' := hide hL2
  have hlt2 := h2.lt
  replace m1 := hide m1
  clear hvp hrp hL2 h2 h1 hB1 hB2
  refine m1.out.mono ?_
  rintro e w3 ⟨v3, rfl, o3, s3, C3⟩
  have hL3 := hL2'.out.chg C3 (fun b hb e => hvp'.out (by rw [hb, e])) (fun x hx b hb e => hrp'.out x hx (by rw [hb, e]))
  have m2 := move_any w3 w.heap.size (cutE 2) (cutE 3) 4 0 2 3 _ [exHit] s3 hL3 exHit_good hvp'.out hrp'.out (by simp)
  rw [exHit_at, exHit_m2] at m2
  replace m2 := hide m2
  clear hL3
  go_wp2_with fail
  refine (m2.out).mono ?_
  rintro e w4 ⟨v4, rfl, o4, s4, C4⟩
  have r3 := Rd.chg (Rd.of_own o3) C4 (fun b hb e => by have := (o3.lt b hb).1; omega)
  have r4 := Rd.of_own o4
  obtain ⟨A3, n3, rfl, _⟩ := own_form o3
  obtain ⟨A4, n4, rfl, _⟩ := own_form o4
  obtain ⟨b3, f3, rfl, _, k3⟩ := note_cells r3 rfl (by simp)
  obtain ⟨b4, f4, rfl, _, k4⟩ := note_cells r4 rfl (by simp)
  obtain ⟨q0, q1, q2, q3⟩ := k3 0 (by simp)
  obtain ⟨y0, _, _, _⟩ := k4 0 (by simp)
  have hend : Hid (Below w.heap.size w w4) := hide (hBa.out.trans ((C3.trans C4 (Ext.refl _ _)).below hBa.out.size (fun b hb => by omega)))
  simp only [List.getD_cons_zero, Nat.zero_mul, Nat.add_zero, List.length_cons, List.length_nil, Nat.zero_add] at q0 q1 q2 q3 y0 ⊢
  clear k3 k4 r3 r4 o3 o4 s3 s4 C3 C4 hL2' hBa
  go_wp2
  go_ret
  exact ⟨rfl, hend.out⟩
end Go.Proofs.Ytfekldcpjoiipaa
