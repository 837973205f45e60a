/-
  The laws of layer 18 on one shell, as walks.
-/
import Derived.Test.YtfekldcpjoiipaaDoorShell4
import Derived.Test.YtfekldcpjoiipaaDoorShell5
import Derived.Test.YtfekldcpjoiipaaDoorShell6
import Derived.Test.YtfekldcpjoiipaaDoorErrs2
import Derived.Test.YtfekldcpjoiipaaDoorLaw00
namespace Go.Proofs.YtfekldcpjoiipaaDoor
open Go.RowKit

/-- A shell that a call has laid since W. -/
def ShL (W w : World) (p n : Nat) (S : Int → Option (Nat × List Int)) : Prop := ∃ F, ShellAt w p F n S ∧ (∀ b, F b → W.heap.size ≤ b) ∧ Below W.heap.size W w

section
variable {W w w' : World} {p n : Nat} {S S' : Int → Option (Nat × List Int)} {B : Nat} {ae : Nat → Addr} {id : Int}

theorem ShL.be (h : ShL W w p n S) : Below W.heap.size W w := by obtain ⟨F, _, _, h⟩ := h; exact h
theorem ShL.errs (h : ShL W w p n S) (hE : Errs B W ae) (hB : B ≤ W.heap.size) : Errs B w ae := hE.below (h.be.mono hB)
theorem ShL.below (h : ShL W w p n S) (hb : Below w.heap.size w w') : ShL W w' p n S := by
  obtain ⟨F, h1, h2, h3⟩ := h
  exact ⟨F, h1.below hb, h2, h3.trans (hb.mono h3.size)⟩
theorem ShL.out {F : Nat → Prop} (hF : ∀ b, F b → W.heap.size ≤ b) (hB : Below W.heap.size W w) (ho : ShOut w p n F S' w') : ShL W w' p (n + 1) S' := by
  obtain ⟨F', h1, h2, h3⟩ := ho
  refine ⟨F', h1, fun b hb => ?_, hB.trans (h2.below hB.size hF)⟩
  rcases h3 b hb with h | h
  · exact hF b h
  · exact Nat.le_trans hB.size h

/-- One window alone. -/
def on (id : Int) (v : Nat × List Int) : Int → Option (Nat × List Int) := setS (fun _ => none) id (some v)
theorem on_at (id : Int) (v : Nat × List Int) : on id v id = some v := by simp [on, setS]
theorem on_set (id : Int) (v u : Nat × List Int) : setS (on id v) id (some u) = on id u := by
  funext i; unfold on setS; split <;> rfl
theorem on_gone (id : Int) (v : Nat × List Int) : setS (on id v) id none = fun _ => none := by
  funext i; unfold on setS; split <;> rfl

theorem lNew (W : World) : Calls Tryd.prog 24 #[] W fun e w' => ∃ p, e = .returned (.pointer (some ⟨p, 0, none⟩)) ∧ ShL W w' p 0 (fun _ => none) := by
  refine (shNew_any W).mono ?_
  rintro e w' ⟨p, F, rfl, h1, h2, h3⟩
  exact ⟨p, rfl, F, h1, h3, h2⟩

theorem lAdd (hL : ShL W w p n (fun _ => none)) (hE : Errs B W ae) (hB : B ≤ W.heap.size) (hid : I64 id) (hn : n ≤ 1000000) :
    Calls Tryd.prog 25 #[.pointer (some ⟨p, 0, none⟩), .int .i64 id, .bool false] w fun e w' => e = .returned .nilIface ∧ ShL W w' p (n + 1) (on id (0, [])) := by
  have hE1 := hL.errs hE hB
  obtain ⟨F, h, hF, hb⟩ := hL
  refine (shAdd_any w hE1 p n F _ id false hid h hn).mono ?_
  rintro e w' ⟨rfl, ho⟩
  exact ⟨rfl, ShL.out hF hb ho⟩

theorem lTop {ws : List Int} (hL : ShL W w p n (on id (0, ws))) (hE : Errs B W ae) (hB : B ≤ W.heap.size) (hid : I64 id) :
    Calls Tryd.prog 26 #[.pointer (some ⟨p, 0, none⟩), .int .i64 id] w fun e w' => e = .returned .nilIface ∧ ShL W w' p (n + 1) (on id (1, ws)) := by
  have hE1 := hL.errs hE hB
  obtain ⟨F, h, hF, hb⟩ := hL
  refine (shTop_any w hE1 p n F _ id hid h).mono ?_
  rintro e w' ⟨rfl, ho⟩
  rw [show topS (on id (0, ws)) id = on id (1, ws) by simp [topS, on_at, on_set]] at ho
  exact ⟨by simp [topK, on_at, errV], ShL.out hF hb ho⟩

theorem lUntop {st : Nat} {ws : List Int} (hL : ShL W w p n (on id (st + 1, ws))) (hE : Errs B W ae) (hB : B ≤ W.heap.size) (hid : I64 id) (hn : n ≤ 1000000) :
    Calls Tryd.prog 36 #[.pointer (some ⟨p, 0, none⟩), .int .i64 id] w fun e w' => e = .returned .nilIface ∧ ShL W w' p (n + 1) (on id (0, [])) := by
  have hE1 := hL.errs hE hB
  obtain ⟨F, h, hF, hb⟩ := hL
  refine (shUntop_any w hE1 p n F _ id hid h hn).mono ?_
  rintro e w' ⟨rfl, ho⟩
  rw [show untopS (on id (st + 1, ws)) id = on id (0, []) by simp [untopS, on_at, on_set]] at ho
  exact ⟨by simp [untopK, on_at, errV], ShL.out hF hb ho⟩

theorem lDrop {ws : List Int} (hL : ShL W w p n (on id (0, ws))) (hE : Errs B W ae) (hB : B ≤ W.heap.size) (hid : I64 id) :
    Calls Tryd.prog 35 #[.pointer (some ⟨p, 0, none⟩), .int .i64 id] w fun e w' => e = .returned .nilIface ∧ ShL W w' p (n + 1) (fun _ => none) := by
  have hE1 := hL.errs hE hB
  obtain ⟨F, h, hF, hb⟩ := hL
  refine (shDrop_any w hE1 p n F _ id hid h).mono ?_
  rintro e w' ⟨rfl, ho⟩
  rw [show dropS (on id (0, ws)) id = fun _ => none by simp [dropS, on_at, on_gone]] at ho
  exact ⟨by simp [dropK, on_at, errV], ShL.out hF hb ho⟩

theorem lDropNo {st : Nat} {ws : List Int} (hL : ShL W w p n (on id (st + 1, ws))) (hE : Errs B W ae) (hB : B ≤ W.heap.size) (hid : I64 id) :
    Calls Tryd.prog 35 #[.pointer (some ⟨p, 0, none⟩), .int .i64 id] w fun e w' => e = .returned (.iface 93 (.pointer (some (ae 11)))) ∧ ShL W w' p (n + 1) (on id (st + 1, ws)) := by
  have hE1 := hL.errs hE hB
  obtain ⟨F, h, hF, hb⟩ := hL
  refine (shDrop_any w hE1 p n F _ id hid h).mono ?_
  rintro e w' ⟨rfl, ho⟩
  rw [show dropS (on id (st + 1, ws)) id = on id (st + 1, ws) by simp [dropS, on_at]] at ho
  exact ⟨by simp [dropK, on_at, errV], ShL.out hF hb ho⟩

theorem lSend {st : Nat} {ws : List Int} (x : Int) (hL : ShL W w p n (on id (st + 1, ws))) (hE : Errs B W ae) (hB : B ≤ W.heap.size) (hid : I64 id) (hl : ws.length ≤ 1000000) :
    Calls Tryd.prog 27 #[.pointer (some ⟨p, 0, none⟩), .int .i64 id, .int .i64 x] w fun e w' => e = .returned .nilIface ∧ ShL W w' p (n + 1) (on id (st + 1, ws ++ [x])) := by
  have hE1 := hL.errs hE hB
  obtain ⟨F, h, hF, hb⟩ := hL
  refine (shSend_any w hE1 p n F _ id x hid h (fun s v hs => by rw [on_at] at hs; simp only [Option.some.injEq, Prod.mk.injEq] at hs; rw [← hs.2]; exact hl)).mono ?_
  rintro e w' ⟨rfl, ho⟩
  rw [show sendS (on id (st + 1, ws)) id x = on id (st + 1, ws ++ [x]) by simp [sendS, on_at, on_set]] at ho
  exact ⟨by simp [sendK, on_at, errV], ShL.out hF hb ho⟩

theorem lAck {st : Nat} {ws : List Int} (x : Int) (i : Nat) (hL : ShL W w p n (on id (st + 1, ws))) (hE : Errs B W ae) (hB : B ≤ W.heap.size) (hid : I64 id) (hl : ws.length ≤ 1000000) (hi : Lib.idxOf ws x = (i : Int)) :
    Calls Tryd.prog 28 #[.pointer (some ⟨p, 0, none⟩), .int .i64 id, .int .i64 x] w fun e w' => e = .returned .nilIface ∧ ShL W w' p (n + 1) (on id (if st + 1 = 2 then 3 else st + 1, ws.drop (i + 1))) := by
  have hE1 := hL.errs hE hB
  obtain ⟨F, h, hF, hb⟩ := hL
  refine (shAck_any w hE1 p n F _ id x hid h (fun s v hs => by rw [on_at] at hs; simp only [Option.some.injEq, Prod.mk.injEq] at hs; rw [← hs.2]; exact hl)).mono ?_
  rintro e w' ⟨rfl, ho⟩
  have hneg : ¬ ((i : Int) < 0) := by omega
  rw [show ackS (on id (st + 1, ws)) id x = on id (if st + 1 = 2 then 3 else st + 1, ws.drop (i + 1)) by simp [ackS, on_at, on_set, hi, hneg]] at ho
  exact ⟨by simp [ackK, on_at, errV, hi, hneg], ShL.out hF hb ho⟩

theorem lAckNo {st : Nat} {ws : List Int} (x : Int) (hL : ShL W w p n (on id (st + 1, ws))) (hE : Errs B W ae) (hB : B ≤ W.heap.size) (hid : I64 id) (hl : ws.length ≤ 1000000) (hi : Lib.idxOf ws x < 0) :
    Calls Tryd.prog 28 #[.pointer (some ⟨p, 0, none⟩), .int .i64 id, .int .i64 x] w fun e w' => e = .returned (.iface 93 (.pointer (some (ae 12)))) ∧ ShL W w' p (n + 1) (on id (st + 1, ws)) := by
  have hE1 := hL.errs hE hB
  obtain ⟨F, h, hF, hb⟩ := hL
  refine (shAck_any w hE1 p n F _ id x hid h (fun s v hs => by rw [on_at] at hs; simp only [Option.some.injEq, Prod.mk.injEq] at hs; rw [← hs.2]; exact hl)).mono ?_
  rintro e w' ⟨rfl, ho⟩
  rw [show ackS (on id (st + 1, ws)) id x = on id (st + 1, ws) by simp [ackS, on_at, hi]] at ho
  exact ⟨by simp [ackK, on_at, errV, hi], ShL.out hF hb ho⟩

theorem lCommit {st : Nat} {ws : List Int} (at' b : Bool) (a k : Nat) (v : Nat × List Int) (E : Value) (hL : ShL W w p n (on id (st, ws))) (hE : Errs B W ae) (hB : B ≤ W.heap.size) (hid : I64 id)
    (ha : comA0 st b = a) (hk : comK0 st b = k) (hv : (comS0 ws st b).getD (st, ws) = v) (hE' : errV ae k = E) :
    Calls Tryd.prog 31 #[.pointer (some ⟨p, 0, none⟩), .int .i64 id, .bool at', .bool b] w fun e w' => e = .returned (.tuple #[.int .i64 a, E]) ∧ ShL W w' p (n + 1) (on id v) := by
  have hE1 := hL.errs hE hB
  obtain ⟨F, h, hF, hb⟩ := hL
  refine (shCommit_any w hE1 p n F _ id at' b hid h).mono ?_
  rintro e w' ⟨rfl, ho⟩
  have hs : comS (on id (st, ws)) id b = on id v := by
    simp only [comS, on_at]
    rw [← hv]
    cases comS0 ws st b with
    | none => rfl
    | some u => exact on_set _ _ _
  rw [hs] at ho
  exact ⟨by simp only [comA, comK, on_at, ha, hk, hE'], ShL.out hF hb ho⟩

theorem lMapped {st : Nat} {ws : List Int} (c : Bool) (hL : ShL W w p n (on id (st, ws))) (hid : I64 id) (hc : (st == 4) = c) :
    Calls Tryd.prog 32 #[.pointer (some ⟨p, 0, none⟩), .int .i64 id] w fun e w' => e = .returned (.bool c) ∧ w = w' := by
  obtain ⟨F, h, hF, hb⟩ := hL
  refine (shMapped_any w p n F _ id hid h).mono ?_
  rintro e w' ⟨rfl, rfl⟩
  exact ⟨by simp only [mapB, on_at, hc], rfl⟩

theorem lHasNo (hL : ShL W w p n (fun _ => none)) (hid : I64 id) :
    Calls Tryd.prog 34 #[.pointer (some ⟨p, 0, none⟩), .int .i64 id] w fun e w' => e = .returned (.bool false) ∧ w = w' := by
  obtain ⟨F, h, hF, hb⟩ := hL
  exact shHas_any w p n F _ id hid h

theorem i64_one : I64 1 := by unfold I64; omega
theorem i64_five : I64 5 := by unfold I64; omega
end


set_option maxRecDepth 100000 in
theorem awake18_any {B : Nat} (W : World) {ae : Nat → Addr} (hE : Errs B W ae) (hB : B ≤ W.heap.size) : Calls Tryd.prog 30 #[] W fun e w' => e = .returned (.bool true) ∧ Below W.heap.size W w' := by
  go_enter Tryd.func30, Tryd.ntmps30
  go_wp2_with fail
  refine (lNew W).mono ?_
  rintro e w1 ⟨p, rfl, h1⟩
  go_wp2_with fail
  refine (lAdd h1 hE hB i64_one (by omega)).mono ?_
  rintro e w2 ⟨rfl, h2⟩
  go_wp2_with fail
  refine (lTop h2 hE hB i64_one).mono ?_
  rintro e w3 ⟨rfl, h3⟩
  go_wp2_with fail
  refine (lCommit false false 1 0 (2, []) .nilIface h3 hE hB i64_one rfl rfl rfl rfl).mono ?_
  rintro e w4 ⟨rfl, h4⟩
  go_wp2_with fail
  refine (lSend 7 h4 hE hB i64_one (by simp)).mono ?_
  rintro e w5 ⟨rfl, h5⟩
  go_wp2_with fail
  refine (lAck 7 0 h5 hE hB i64_one (by simp) rfl).mono ?_
  rintro e w6 ⟨rfl, h6⟩
  go_wp2_with fail
  refine (lCommit true true 2 0 (4, []) .nilIface h6 hE hB i64_one rfl rfl rfl rfl).mono ?_
  rintro e w7 ⟨rfl, h7⟩
  go_wp2_with fail
  refine (lMapped true h7 i64_one rfl).mono ?_
  rintro e w8 ⟨rfl, rfl⟩
  go_wp2
  go_ret
  exact ⟨rfl, h7.be⟩
end Go.Proofs.YtfekldcpjoiipaaDoor
