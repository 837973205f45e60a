/-
  Two shells beside one another; the law ShellApart.
-/
import Derived.Test.YtfekldcpjoiipaaDoorLaw18b
import Derived.Deep.DeepCutAuto
namespace Go.Proofs.YtfekldcpjoiipaaDoor
open Go.RowKit

/-- Two shells that a call has laid since W, with nothing in common. -/
def ShTwo (W w : World) (p q n : Nat) (S T : Int → Option (Nat × List Int)) : Prop :=
  ∃ F G, ShellAt w p F n S ∧ ShellAt w q G n T ∧ (∀ b, F b → ¬ G b) ∧ (∀ b, F b → W.heap.size ≤ b) ∧ (∀ b, G b → W.heap.size ≤ b) ∧ Below W.heap.size W w

section
variable {W w w' : World} {p q n : Nat} {S S' T T' : Int → Option (Nat × List Int)} {F G : Nat → Prop} {B : Nat} {ae : Nat → Addr} {id : Int}

theorem ShTwo.be (h : ShTwo W w p q n S T) : Below W.heap.size W w := by obtain ⟨F, G, _, _, _, _, _, h⟩ := h; exact h
theorem ShTwo.swap (h : ShTwo W w p q n S T) : ShTwo W w q p n T S := by
  obtain ⟨F, G, h1, h2, h3, h4, h5, h6⟩ := h
  exact ⟨G, F, h2, h1, fun b hg hf => h3 b hf hg, h5, h4, h6⟩
theorem ShTwo.below (h : ShTwo W w p q n S T) (hb : Below w.heap.size w w') : ShTwo W w' p q n S T := by
  obtain ⟨F, G, h1, h2, h3, h4, h5, h6⟩ := h
  exact ⟨F, G, h1.below hb, h2.below hb, h3, h4, h5, h6.trans (hb.mono h6.size)⟩
/-- The first turns, the second stays. -/
theorem ShTwo.left (h2 : ShellAt w q G n T) (h3 : ∀ b, F b → ¬ G b) (h4 : ∀ b, F b → W.heap.size ≤ b) (h5 : ∀ b, G b → W.heap.size ≤ b) (h6 : Below W.heap.size W w) (ho : ShOut w p n F S' w') : ShTwo W w' p q (n + 1) S' T := by
  obtain ⟨F', a1, a2, a3⟩ := ho
  refine ⟨F', G, a1, (h2.chg a2 fun b hg hf => h3 b hf hg).mono (Nat.le_succ n), apart_ext h3 a3 h2.lt, fun b hb => ?_, h5, h6.trans (a2.below h6.size h4)⟩
  rcases a3 b hb with h | h
  · exact h4 b h
  · exact Nat.le_trans h6.size h

theorem tNew2 (W : World) {w : World} {p : Nat} (h : ShL W w p 0 S) : Calls Tryd.prog 24 #[] w fun e w' => ∃ q, e = .returned (.pointer (some ⟨q, 0, none⟩)) ∧ ShTwo W w' p q 0 S (fun _ => none) := by
  obtain ⟨F, h1, h2, h3⟩ := h
  refine (shNew_any w).mono ?_
  rintro e w' ⟨q, G, rfl, a1, a2, a3⟩
  exact ⟨q, rfl, F, G, h1.below a2, a1, fun b hf hg => by have := h1.lt b hf; have := a3 b hg; omega, h2, fun b hg => Nat.le_trans h3.size (a3 b hg), h3.trans (a2.mono h3.size)⟩

/-- What a call does at one number, and its code there. -/
abbrev WinO := Option (Nat × List Int)
def topF : WinO → WinO | some (0, ws) => some (1, ws) | v => v
def sendF (x : Int) : WinO → WinO | some (st + 1, ws) => some (st + 1, ws ++ [x]) | v => v
def ackF (x : Int) : WinO → WinO | some (st + 1, ws) => if Lib.idxOf ws x < 0 then some (st + 1, ws) else some (if st + 1 = 2 then 3 else st + 1, ws.drop ((Lib.idxOf ws x).toNat + 1)) | v => v
def comF (b : Bool) : WinO → WinO | none => none | some (st, ws) => match comS0 ws st b with | none => some (st, ws) | some v => some v
theorem setS_self (S : Int → WinO) (id : Int) : setS S id (S id) = S := by funext i; unfold setS; split <;> simp_all
theorem topS_loc (S : Int → WinO) (id : Int) : topS S id = setS S id (topF (S id)) := by
  rcases h : S id with _ | ⟨_ | st, ws⟩
  · rw [show topF none = S id from h.symm, setS_self]; simp [topS, h]
  · simp [topS, h, topF]
  · rw [show topF (some (st + 1, ws)) = S id from h.symm, setS_self]; simp [topS, h]
theorem sendS_loc (S : Int → WinO) (id x : Int) : sendS S id x = setS S id (sendF x (S id)) := by
  rcases h : S id with _ | ⟨_ | st, ws⟩
  · rw [show sendF x none = S id from h.symm, setS_self]; simp [sendS, h]
  · rw [show sendF x (some (0, ws)) = S id from h.symm, setS_self]; simp [sendS, h]
  · simp [sendS, h, sendF]
theorem ackS_loc (S : Int → WinO) (id x : Int) : ackS S id x = setS S id (ackF x (S id)) := by
  rcases h : S id with _ | ⟨_ | st, ws⟩
  · rw [show ackF x none = S id from h.symm, setS_self]; simp [ackS, h]
  · rw [show ackF x (some (0, ws)) = S id from h.symm, setS_self]; simp [ackS, h]
  · by_cases hn : Lib.idxOf ws x < 0
    · rw [show ackF x (some (st + 1, ws)) = S id by simp [ackF, hn, h], setS_self]; simp [ackS, h, hn]
    · simp [ackS, h, ackF, hn]
theorem comS_loc (S : Int → WinO) (id : Int) (b : Bool) : comS S id b = setS S id (comF b (S id)) := by
  rcases h : S id with _ | ⟨st, ws⟩
  · rw [show comF b none = S id from h.symm, setS_self]; simp [comS, h]
  · cases hc : comS0 ws st b with
    | none => rw [show comF b (some (st, ws)) = S id by simp [comF, hc, h], setS_self]; simp [comS, h, hc]
    | some v => simp [comS, h, comF, hc]

def Ok (k : Nat) (v : WinO) : Prop := ∀ st ws, v = some (st, ws) → ws.length ≤ k
theorem Ok.mono {k l : Nat} {v : WinO} (h : Ok k v) (hk : k ≤ l) : Ok l v := fun st ws e => Nat.le_trans (h st ws e) hk
theorem topF_ok {k : Nat} {v : WinO} (h : Ok k v) : Ok k (topF v) := by
  rcases v with _ | ⟨_ | st, ws⟩
  · exact h
  · intro st' ws' e; simp only [topF, Option.some.injEq, Prod.mk.injEq] at e; rw [← e.2]; exact h 0 ws rfl
  · exact h
theorem sendF_ok {k : Nat} {v : WinO} (x : Int) (h : Ok k v) : Ok (k + 1) (sendF x v) := by
  rcases v with _ | ⟨_ | st, ws⟩
  · exact h.mono (Nat.le_succ k)
  · exact h.mono (Nat.le_succ k)
  · intro st' ws' e; simp only [sendF, Option.some.injEq, Prod.mk.injEq] at e; rw [← e.2]; have := h _ ws rfl; simp; omega
theorem ackF_ok {k : Nat} {v : WinO} (x : Int) (h : Ok k v) : Ok k (ackF x v) := by
  rcases v with _ | ⟨_ | st, ws⟩
  · exact h
  · exact h
  · intro st' ws' e
    have := h _ ws rfl
    simp only [ackF] at e
    split at e
    · simp only [Option.some.injEq, Prod.mk.injEq] at e; rw [← e.2]; exact this
    · simp only [Option.some.injEq, Prod.mk.injEq] at e; rw [← e.2]; simp; omega
theorem comS0_len (ws : List Int) (st : Nat) (b : Bool) (v : Nat × List Int) (h : comS0 ws st b = some v) : v.2.length ≤ ws.length := by
  unfold comS0 at h
  split at h <;> first | (cases h; simp) | cases h
theorem comF_ok {k : Nat} {v : WinO} (b : Bool) (h : Ok k v) : Ok k (comF b v) := by
  rcases v with _ | ⟨st, ws⟩
  · exact h
  · intro st' ws' e
    have := h _ ws rfl
    simp only [comF] at e
    cases hc : comS0 ws st b with
    | none => rw [hc] at e; simp only [Option.some.injEq, Prod.mk.injEq] at e; rw [← e.2]; exact this
    | some u =>
      rw [hc] at e
      have h2 := comS0_len ws st b u hc
      simp only [Option.some.injEq] at e
      rw [e] at h2
      exact Nat.le_trans h2 this

theorem tTop (hL : ShTwo W w p q n S T) (hE : Errs B W ae) (hB : B ≤ W.heap.size) (hid : I64 id) :
    Calls Tryd.prog 26 #[.pointer (some ⟨p, 0, none⟩), .int .i64 id] w fun e w' => e = .returned (errV ae (topK S id)) ∧ ShTwo W w' p q (n + 1) (setS S id (topF (S id))) T := by
  have hE1 := hE.below (hL.be.mono hB)
  obtain ⟨F, G, h1, h2, h3, h4, h5, h6⟩ := hL
  refine (shTop_any w hE1 p n F S id hid h1).mono ?_
  rintro e w' ⟨rfl, ho⟩
  rw [topS_loc] at ho
  exact ⟨rfl, ShTwo.left h2 h3 h4 h5 h6 ho⟩
theorem tSend (x : Int) {k : Nat} (hL : ShTwo W w p q n S T) (hE : Errs B W ae) (hB : B ≤ W.heap.size) (hid : I64 id) (hk : Ok k (S id)) (hk6 : k ≤ 1000000) :
    Calls Tryd.prog 27 #[.pointer (some ⟨p, 0, none⟩), .int .i64 id, .int .i64 x] w fun e w' => e = .returned (errV ae (sendK S id)) ∧ ShTwo W w' p q (n + 1) (setS S id (sendF x (S id))) T := by
  have hE1 := hE.below (hL.be.mono hB)
  obtain ⟨F, G, h1, h2, h3, h4, h5, h6⟩ := hL
  refine (shSend_any w hE1 p n F S id x hid h1 fun st ws e => Nat.le_trans (hk st ws e) hk6).mono ?_
  rintro e w' ⟨rfl, ho⟩
  rw [sendS_loc] at ho
  exact ⟨rfl, ShTwo.left h2 h3 h4 h5 h6 ho⟩
theorem tAck (x : Int) {k : Nat} (hL : ShTwo W w p q n S T) (hE : Errs B W ae) (hB : B ≤ W.heap.size) (hid : I64 id) (hk : Ok k (S id)) (hk6 : k ≤ 1000000) :
    Calls Tryd.prog 28 #[.pointer (some ⟨p, 0, none⟩), .int .i64 id, .int .i64 x] w fun e w' => e = .returned (errV ae (ackK S id x)) ∧ ShTwo W w' p q (n + 1) (setS S id (ackF x (S id))) T := by
  have hE1 := hE.below (hL.be.mono hB)
  obtain ⟨F, G, h1, h2, h3, h4, h5, h6⟩ := hL
  refine (shAck_any w hE1 p n F S id x hid h1 fun st ws e => Nat.le_trans (hk st ws e) hk6).mono ?_
  rintro e w' ⟨rfl, ho⟩
  rw [ackS_loc] at ho
  exact ⟨rfl, ShTwo.left h2 h3 h4 h5 h6 ho⟩
theorem tCommit (at' b : Bool) (hL : ShTwo W w p q n S T) (hE : Errs B W ae) (hB : B ≤ W.heap.size) (hid : I64 id) :
    Calls Tryd.prog 31 #[.pointer (some ⟨p, 0, none⟩), .int .i64 id, .bool at', .bool b] w fun e w' => e = .returned (.tuple #[.int .i64 (comA S id b), errV ae (comK S id b)]) ∧ ShTwo W w' p q (n + 1) (setS S id (comF b (S id))) T := by
  have hE1 := hE.below (hL.be.mono hB)
  obtain ⟨F, G, h1, h2, h3, h4, h5, h6⟩ := hL
  refine (shCommit_any w hE1 p n F S id at' b hid h1).mono ?_
  rintro e w' ⟨rfl, ho⟩
  rw [comS_loc] at ho
  exact ⟨rfl, ShTwo.left h2 h3 h4 h5 h6 ho⟩
theorem tAdd (hL : ShTwo W w p q n S T) (hE : Errs B W ae) (hB : B ≤ W.heap.size) (hid : I64 id) (hn : n ≤ 1000000) (hs : S id = none) :
    Calls Tryd.prog 25 #[.pointer (some ⟨p, 0, none⟩), .int .i64 id, .bool false] w fun e w' => e = .returned .nilIface ∧ ShTwo W w' p q (n + 1) (setS S id (some (0, []))) T := by
  have hE1 := hE.below (hL.be.mono hB)
  obtain ⟨F, G, h1, h2, h3, h4, h5, h6⟩ := hL
  refine (shAdd_any w hE1 p n F S id false hid h1 hn).mono ?_
  rintro e w' ⟨rfl, ho⟩
  rw [show addS S id false = setS S id (some (0, [])) by simp [addS, hs]] at ho
  exact ⟨by simp [addK, hs, errV], ShTwo.left h2 h3 h4 h5 h6 ho⟩
theorem tMapped (hL : ShTwo W w p q n S T) (hid : I64 id) :
    Calls Tryd.prog 32 #[.pointer (some ⟨p, 0, none⟩), .int .i64 id] w fun e w' => e = .returned (.bool (mapB S id)) ∧ w = w' := by
  obtain ⟨F, G, h1, _⟩ := hL
  exact shMapped_any w p n F S id hid h1
theorem tIsTop (hL : ShTwo W w p q n S T) (hid : I64 id) :
    Calls Tryd.prog 33 #[.pointer (some ⟨p, 0, none⟩), .int .i64 id] w fun e w' => e = .returned (.bool (topB S id)) ∧ w = w' := by
  obtain ⟨F, G, h1, _⟩ := hL
  exact shIsTop_any w p n F S id hid h1
theorem tHas (hL : ShTwo W w p q n S T) (hid : I64 id) :
    Calls Tryd.prog 34 #[.pointer (some ⟨p, 0, none⟩), .int .i64 id] w fun e w' => e = .returned (.bool (S id).isSome) ∧ w = w' := by
  obtain ⟨F, G, h1, _⟩ := hL
  exact shHas_any w p n F S id hid h1
theorem tWaits {k : Nat} (hL : ShTwo W w p q n S T) (hid : I64 id) (hk : Ok k (S id)) (hk6 : k ≤ 1000000) :
    Calls Tryd.prog 29 #[.pointer (some ⟨p, 0, none⟩), .int .i64 id] w fun e w' => ∃ v, e = .returned v ∧ w'.ownsRow w.heap.size 3 1 v (((S id).map (·.2)).getD []).length ((((S id).map (·.2)).getD []).map (Value.int .i64)) ∧ Below w.heap.size w w' := by
  obtain ⟨F, G, h1, _⟩ := hL
  exact shWaits_any w p n F S id hid h1 fun st ws e => Nat.le_trans (hk st ws e) hk6
end
end Go.Proofs.YtfekldcpjoiipaaDoor
