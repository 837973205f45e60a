/-
  The law ShellPlays: the shell and the reference's, beside one another.
-/
import Derived.Test.YtfekldcpjoiipaaDoorLaw18e
import Derived.Test.YtfekldcpjoiipaaDoorRef18e
import Derived.Test.YtfekldcpjoiipaaDoorOps18
namespace Go.Proofs.YtfekldcpjoiipaaDoor
open Go.RowKit

abbrev Wins := Int → Option (Nat × List Int)
/-- No window has more than k serials. -/
def OkA (k : Nat) (S : Wins) : Prop := ∀ id, Ok k (S id)
theorem OkA.mono {k l : Nat} {S : Wins} (h : OkA k S) (hk : k ≤ l) : OkA l S := fun id => (h id).mono hk
theorem OkA.set {k : Nat} {S : Wins} (h : OkA k S) (id : Int) {v : Option (Nat × List Int)} (hv : Ok k v) : OkA k (setS S id v) := fun i => by
  unfold setS; split
  · exact hv
  · exact h i
theorem ok_none (k : Nat) : Ok k none := fun _ _ h => by cases h
theorem ok_nil (k st : Nat) : Ok k (some (st, [])) := fun _ _ h => by cases h; exact Nat.zero_le _
theorem OkA.add {k : Nat} {S : Wins} (h : OkA k S) (id : Int) (b : Bool) : OkA (k + 1) (addS S id b) := by
  unfold addS; split
  · exact h.mono (Nat.le_succ k)
  · split
    · exact h.mono (Nat.le_succ k)
    · exact (h.set id (ok_nil _ _)).mono (Nat.le_succ k)
theorem OkA.drop {k : Nat} {S : Wins} (h : OkA k S) (id : Int) : OkA (k + 1) (dropS S id) := by
  unfold dropS; split
  · exact (h.set id (ok_none _)).mono (Nat.le_succ k)
  · exact h.mono (Nat.le_succ k)
theorem OkA.untop {k : Nat} {S : Wins} (h : OkA k S) (id : Int) : OkA (k + 1) (untopS S id) := by
  unfold untopS; split
  · exact (h.set id (ok_nil _ _)).mono (Nat.le_succ k)
  · exact h.mono (Nat.le_succ k)
theorem OkA.top {k : Nat} {S : Wins} (h : OkA k S) (id : Int) : OkA (k + 1) (topS S id) := by
  rw [topS_loc]; exact (h.set id (topF_ok (h id))).mono (Nat.le_succ k)
theorem OkA.send {k : Nat} {S : Wins} (h : OkA k S) (id x : Int) : OkA (k + 1) (sendS S id x) := by
  rw [sendS_loc]; exact (h.mono (Nat.le_succ k)).set id (sendF_ok x (h id))
theorem OkA.ack {k : Nat} {S : Wins} (h : OkA k S) (id x : Int) : OkA (k + 1) (ackS S id x) := by
  rw [ackS_loc]; exact (h.set id (ackF_ok x (h id))).mono (Nat.le_succ k)
theorem OkA.com {k : Nat} {S : Wins} (h : OkA k S) (id : Int) (b : Bool) : OkA (k + 1) (comS S id b) := by
  rw [comS_loc]; exact (h.set id (comF_ok b (h id))).mono (Nat.le_succ k)

/-- The shell and the reference's, both laid since W. -/
structure Duo (W : World) (p q n k l : Nat) (S : Wins) (F G : Nat → Prop) (v : Value) (L : List RWin) (w : World) : Prop where
  sh : ShellAt w p F n S
  ref : RefL w q G v L
  len : L.length ≤ l
  apart : ∀ b, F b → ¬ G b
  fge : ∀ b, F b → W.heap.size ≤ b
  gge : ∀ b, G b → W.heap.size ≤ b
  be : Below W.heap.size W w
  okS : OkA k S
  okT : OkA l (toS L)

/-- The call's struct lies in block o. -/
structure OpAt (o : Nat) (x : Op18) (w : World) : Prop where
  c0 : w.cell? ⟨o, 0, none⟩ = some (.int .i64 x.kind)
  c1 : w.cell? ⟨o, 1, none⟩ = some (.int .i64 x.id)
  c2 : w.cell? ⟨o, 2, none⟩ = some (.int .i64 x.serial)
  c3 : w.cell? ⟨o, 3, none⟩ = some (.bool x.attach)
  c4 : w.cell? ⟨o, 4, none⟩ = some (.bool x.buffer)

structure TrioF (W : World) (p q n k l o : Nat) (x : Op18) (S : Wins) (F G : Nat → Prop) (v : Value) (L : List RWin) (w : World) : Prop where
  duo : Duo W p q n k l S F G v L w
  op : OpAt o x w
  nF : ¬ F o
  nG : ¬ G o
def Trio (W : World) (p q n k l o : Nat) (x : Op18) (S T : Wins) (w : World) : Prop := ∃ F G v L, TrioF W p q n k l o x S F G v L w ∧ toS L = T

section
variable {W w w' : World} {p q n k l o : Nat} {x : Op18} {S S' T T' : Wins} {F G : Nat → Prop} {v : Value} {L : List RWin} {ae : Nat → Addr}
theorem OpAt.chg {H : Nat → Prop} (h : OpAt o x w) (hg : Chg H w w') (hn : ¬ H o) : OpAt o x w' := by
  have K := fun j (v : Value) (hc : w.cell? ⟨o, j, none⟩ = some v) => (World.cell?_of_block (a := ⟨o, j, none⟩) (hg.block o (block_lt_of_cell (a := ⟨o, j, none⟩) hc) hn)).trans hc
  exact ⟨K 0 _ h.c0, K 1 _ h.c1, K 2 _ h.c2, K 3 _ h.c3, K 4 _ h.c4⟩
theorem OpAt.lt (h : OpAt o x w) : o < w.heap.size := block_lt_of_cell (a := ⟨o, 0, none⟩) h.c0
theorem Duo.keep (h : Duo W p q n k l S F G v L w) (hb : Below w.heap.size w w') : Duo W p q n k l S F G v L w' :=
  ⟨h.sh.below hb, h.ref.chg (Chg.of_below hb (fun _ => False)) (fun _ _ h => h), h.len, h.apart, h.fge, h.gge, h.be.trans (hb.mono h.be.size), h.okS, h.okT⟩
theorem TrioF.keep (h : TrioF W p q n k l o x S F G v L w) (hb : Below w.heap.size w w') : TrioF W p q n k l o x S F G v L w' :=
  ⟨h.duo.keep hb, h.op.chg (Chg.of_below hb (fun _ => False)) (fun h => h), h.nF, h.nG⟩
theorem Trio.keep (h : Trio W p q n k l o x S T w) (hb : Below w.heap.size w w') : Trio W p q n k l o x S T w' := by
  obtain ⟨F, G, v, L, h, hS⟩ := h
  exact ⟨F, G, v, L, h.keep hb, hS⟩
theorem Trio.drew (h : Trio W p q n k l o x S T w) : Trio W p q n k l o x S T w.drew := h.keep (below_drewN (Below.refl _ w) 1)
theorem TrioF.drew (h : TrioF W p q n k l o x S F G v L w) : TrioF W p q n k l o x S F G v L w.drew := h.keep (below_drewN (Below.refl _ w) 1)
theorem Trio.op (h : Trio W p q n k l o x S T w) : OpAt o x w := by obtain ⟨_, _, _, _, h, _⟩ := h; exact h.op
theorem Trio.be (h : Trio W p q n k l o x S T w) : Below W.heap.size W w := by obtain ⟨_, _, _, _, h, _⟩ := h; exact h.duo.be
theorem Trio.callS {P : Program} {f : FuncId} {args : Array Value} {V : Value} {k' : Nat} (h : Trio W p q n k l o x S T w) (hk : OkA k S → OkA k' S')
    (hc : ∀ F, OkA k S → ShellAt w p F n S → Calls P f args w fun e w' => e = .returned V ∧ ShOut w p n F S' w') :
    Calls P f args w fun e w' => e = .returned V ∧ Trio W p q (n + 1) k' l o x S' T w' := by
  obtain ⟨F, G, v, L, h, hS⟩ := h
  refine (hc F h.duo.okS h.duo.sh).mono ?_
  rintro e w' ⟨rfl, F', h1, h2, h3⟩
  refine ⟨rfl, F', G, v, L, ⟨⟨h1, h.duo.ref.chg h2 (fun b hb hF => h.duo.apart b hF hb), h.duo.len, apart_ext h.duo.apart h3 h.duo.ref.glt, ?_, h.duo.gge, h.duo.be.trans (h2.below h.duo.be.size h.duo.fge), hk h.duo.okS, h.duo.okT⟩, h.op.chg h2 h.nF, ?_, h.nG⟩, hS⟩
  · intro b hb
    rcases h3 b hb with hb | hb
    · exact h.duo.fge b hb
    · have := h.duo.be.size; omega
  · intro hF
    rcases h3 o hF with hb | hb
    · exact h.nF hb
    · have := h.op.lt; omega
theorem Trio.callR {P : Program} {f : FuncId} {args : Array Value} {V : Value} (h : Trio W p q n k l o x S T w) (hk : OkA l T → OkA (l + 1) T')
    (hc : ∀ G v L, OkA l T → toS L = T → L.length ≤ l → RefL w q G v L → Calls P f args w fun e w' => e = .returned V ∧ RefOut w q G L.length T' w') :
    Calls P f args w fun e w' => e = .returned V ∧ Trio W p q n k (l + 1) o x S T' w' := by
  obtain ⟨F, G, v, L, h, hS⟩ := h
  refine (hc G v L (hS ▸ h.duo.okT) hS h.duo.len h.duo.ref).mono ?_
  rintro e w' ⟨rfl, v', L', h1, h2, h3, h4⟩
  refine ⟨rfl, F, since G w w', v', L', ⟨⟨h.duo.sh.chg h4 (fun b hb hG => h.duo.apart b hb hG), h1, by have := h.duo.len; omega, ?_, h.duo.fge, ?_, h.duo.be.trans (h4.below h.duo.be.size h.duo.gge), h.duo.okS, h2 ▸ hk (hS ▸ h.duo.okT)⟩, h.op.chg h4 h.nG, h.nF, ?_⟩, h2⟩
  · intro b hb hG
    rcases hG with hG | hG
    · exact h.duo.apart b hb hG
    · have := h.duo.sh.lt b hb; omega
  · intro b hb
    rcases hb with hb | hb
    · exact h.duo.gge b hb
    · have := h.duo.be.size; omega
  · intro hG
    rcases hG with hb | hb
    · exact h.nG hb
    · have := h.op.lt; omega

theorem tKind (hE : Errs W.heap.size W ae) (h : Trio W p q n k l o x S T w) (c : Nat) (hc : c ≤ 16) :
    Calls Tryd.prog 22 #[errV ae c] w fun e w' => e = .returned (.int .i64 c) ∧ Trio W p q n k l o x S T w' :=
  (kind_any W.heap.size w ae c (hE.below h.be) hc).mono fun _ _ ⟨he, ho⟩ => ⟨he, h.keep ho⟩

theorem uAdd (hE : Errs W.heap.size W ae) (h : Trio W p q n k l o x S T w) (id : Int) (b : Bool) (hid : I64 id) (hn : n ≤ 1000000) :
    Calls Tryd.prog 25 #[.pointer (some ⟨p, 0, none⟩), .int .i64 id, .bool b] w fun e w' => e = .returned (errV ae (addK S id b)) ∧ Trio W p q (n + 1) (k + 1) l o x (addS S id b) T w' :=
  h.callS (fun ok => ok.add id b) fun F _ hs => shAdd_any w (hE.below h.be) p n F S id b hid hs hn
theorem uDrop (hE : Errs W.heap.size W ae) (h : Trio W p q n k l o x S T w) (id : Int) (hid : I64 id) :
    Calls Tryd.prog 35 #[.pointer (some ⟨p, 0, none⟩), .int .i64 id] w fun e w' => e = .returned (errV ae (dropK S id)) ∧ Trio W p q (n + 1) (k + 1) l o x (dropS S id) T w' :=
  h.callS (fun ok => ok.drop id) fun F _ hs => shDrop_any w (hE.below h.be) p n F S id hid hs
theorem uTop (hE : Errs W.heap.size W ae) (h : Trio W p q n k l o x S T w) (id : Int) (hid : I64 id) :
    Calls Tryd.prog 26 #[.pointer (some ⟨p, 0, none⟩), .int .i64 id] w fun e w' => e = .returned (errV ae (topK S id)) ∧ Trio W p q (n + 1) (k + 1) l o x (topS S id) T w' :=
  h.callS (fun ok => ok.top id) fun F _ hs => shTop_any w (hE.below h.be) p n F S id hid hs
theorem uUntop (hE : Errs W.heap.size W ae) (h : Trio W p q n k l o x S T w) (id : Int) (hid : I64 id) (hn : n ≤ 1000000) :
    Calls Tryd.prog 36 #[.pointer (some ⟨p, 0, none⟩), .int .i64 id] w fun e w' => e = .returned (errV ae (untopK S id)) ∧ Trio W p q (n + 1) (k + 1) l o x (untopS S id) T w' :=
  h.callS (fun ok => ok.untop id) fun F _ hs => shUntop_any w (hE.below h.be) p n F S id hid hs hn
theorem uSend (hE : Errs W.heap.size W ae) (h : Trio W p q n k l o x S T w) (id y : Int) (hid : I64 id) (hk : k ≤ 1000000) :
    Calls Tryd.prog 27 #[.pointer (some ⟨p, 0, none⟩), .int .i64 id, .int .i64 y] w fun e w' => e = .returned (errV ae (sendK S id)) ∧ Trio W p q (n + 1) (k + 1) l o x (sendS S id y) T w' :=
  h.callS (fun ok => ok.send id y) fun F ok hs => shSend_any w (hE.below h.be) p n F S id y hid hs fun st ws e => Nat.le_trans (ok id st ws e) hk
theorem uAck (hE : Errs W.heap.size W ae) (h : Trio W p q n k l o x S T w) (id y : Int) (hid : I64 id) (hk : k ≤ 1000000) :
    Calls Tryd.prog 28 #[.pointer (some ⟨p, 0, none⟩), .int .i64 id, .int .i64 y] w fun e w' => e = .returned (errV ae (ackK S id y)) ∧ Trio W p q (n + 1) (k + 1) l o x (ackS S id y) T w' :=
  h.callS (fun ok => ok.ack id y) fun F ok hs => shAck_any w (hE.below h.be) p n F S id y hid hs fun st ws e => Nat.le_trans (ok id st ws e) hk
theorem uCommit (hE : Errs W.heap.size W ae) (h : Trio W p q n k l o x S T w) (id : Int) (a b : Bool) (hid : I64 id) :
    Calls Tryd.prog 31 #[.pointer (some ⟨p, 0, none⟩), .int .i64 id, .bool a, .bool b] w fun e w' => e = .returned (.tuple #[.int .i64 (comA S id b), errV ae (comK S id b)]) ∧ Trio W p q (n + 1) (k + 1) l o x (comS S id b) T w' :=
  h.callS (fun ok => ok.com id b) fun F _ hs => shCommit_any w (hE.below h.be) p n F S id a b hid hs

theorem vAdd (h : Trio W p q n k l o x S T w) (id : Int) (b : Bool) (hid : I64 id) (hl : l ≤ 1000) :
    Calls Tryd.prog 37 #[.pointer (some ⟨q, 0, none⟩), .int .i64 id, .bool b] w fun e w' => e = .returned (.int .i64 (addK T id b)) ∧ Trio W p q n k (l + 1) o x S (addS T id b) w' :=
  h.callR (fun ok => ok.add id b) fun G v L _ e hL hr => e ▸ rAdd_any w q G v L id b hr (by omega) hid
theorem vDrop (h : Trio W p q n k l o x S T w) (id : Int) (hl : l ≤ 1000) :
    Calls Tryd.prog 38 #[.pointer (some ⟨q, 0, none⟩), .int .i64 id] w fun e w' => e = .returned (.int .i64 (dropK T id)) ∧ Trio W p q n k (l + 1) o x S (dropS T id) w' :=
  h.callR (fun ok => ok.drop id) fun G v L _ e hL hr => e ▸ rDrop_any w q G v L id hr (by omega)
theorem vTop (h : Trio W p q n k l o x S T w) (id : Int) (hl : l ≤ 1000) :
    Calls Tryd.prog 39 #[.pointer (some ⟨q, 0, none⟩), .int .i64 id] w fun e w' => e = .returned (.int .i64 (topK T id)) ∧ Trio W p q n k (l + 1) o x S (topS T id) w' :=
  h.callR (fun ok => ok.top id) fun G v L _ e hL hr => e ▸ rTop_any w q G v L id hr (by omega)
theorem vUntop (h : Trio W p q n k l o x S T w) (id : Int) (hl : l ≤ 1000) :
    Calls Tryd.prog 40 #[.pointer (some ⟨q, 0, none⟩), .int .i64 id] w fun e w' => e = .returned (.int .i64 (untopK T id)) ∧ Trio W p q n k (l + 1) o x S (untopS T id) w' :=
  h.callR (fun ok => ok.untop id) fun G v L _ e hL hr => e ▸ rUntop_any w q G v L id hr (by omega)
theorem vSend (h : Trio W p q n k l o x S T w) (id y : Int) (hl : l ≤ 1000) :
    Calls Tryd.prog 41 #[.pointer (some ⟨q, 0, none⟩), .int .i64 id, .int .i64 y] w fun e w' => e = .returned (.int .i64 (sendK T id)) ∧ Trio W p q n k (l + 1) o x S (sendS T id y) w' :=
  h.callR (fun ok => ok.send id y) fun G v L ok e hL hr => by subst e; exact rSend_any w q G v L id y hr (by omega) fun st ws e => Nat.le_trans (ok id st ws e) hl
theorem vAck (h : Trio W p q n k l o x S T w) (id y : Int) (hl : l ≤ 1000) :
    Calls Tryd.prog 42 #[.pointer (some ⟨q, 0, none⟩), .int .i64 id, .int .i64 y] w fun e w' => e = .returned (.int .i64 (ackK T id y)) ∧ Trio W p q n k (l + 1) o x S (ackS T id y) w' :=
  h.callR (fun ok => ok.ack id y) fun G v L ok e hL hr => by subst e; exact rAck_any w q G v L id y hr (by omega) fun st ws e => Nat.le_trans (ok id st ws e) hl
theorem vCommit (h : Trio W p q n k l o x S T w) (id : Int) (b : Bool) (hl : l ≤ 1000) :
    Calls Tryd.prog 43 #[.pointer (some ⟨q, 0, none⟩), .int .i64 id, .bool b] w fun e w' => e = .returned (.tuple #[.int .i64 (comA T id b), .int .i64 (comK T id b)]) ∧ Trio W p q n k (l + 1) o x S (comS T id b) w' :=
  h.callR (fun ok => ok.com id b) fun G v L _ e hL hr => e ▸ rCommit_any w q G v L id b hr (by omega)
end
end Go.Proofs.YtfekldcpjoiipaaDoor
