/-
  A region that draws its order inside a round of a range over a function: walked as anywhere.
-/
import Derived.Test.YtfekldcpjoiipaaBase
import Derived.OrdersIn
import Derived.OrdersHeld
import Derived.Deep.RegionHeld
import Derived.RangeFuncCalls
import Derived.TacticsIn
import Derived.RangeFuncNested
import Derived.RangeFuncBound
import Derived.RangeFuncLeaves
namespace Go.Proofs.Ytfekldcpjoiipaa
open Go.RowKit

/-- Q, but 'False' where a library's function outgrows. -/
def NoOut (Q : Exit → Act → World → Prop) : Exit → Act → World → Prop
  | .outgrown, _, _ => False
  | e, a, w => Q e a w

section
variable {P : Program} {ops : Array Oper} {Q : Exit → Act → World → Prop} {md : Region.Mode} {l n : Nat}
theorem oper_round {o : Oper} {a : Act} {w : World} {K : Act → World → Prop} (hd : ∀ c, o.op ≠ Op.defer c) (h : o.wp P a w K (NoOut Q)) : o.wpIn (Fence.wide.inRound l) n P a w K Q := by
  refine ⟨fun _ _ => trivial, ?_⟩
  have e : o.semAt (Fence.wide.inRound l).round a.eval = execOp a.eval o := Oper.semAt_some l _ o hd
  rw [e]
  unfold Oper.wp at h
  generalize (execOp a.eval o).run P w = r at *
  cases r with
  | ok x w' =>
    cases x with
    | value v => exact h
    | skip => exact h
    | defer d => exact h
    | enter f args =>
      simp only [Oper.upon] at h
      simp only [Oper.uponIn]
      refine ⟨fun h => by simp [Fence.inRound, Fence.wide] at h, CallsIn.inRound l (callsIn_wide.2 (h.mono fun e w'' he => ?_))⟩
      cases e with
      | returned v => exact he
      | panicked c => exact he
      | outgrown => exact (he.choose_spec.choose_spec : False).elim
    | row row args =>
      simp only [Oper.upon] at h
      simp only [Oper.uponIn]
      refine ⟨fun h => by simp [Fence.inRound, Fence.wide] at h, fun c cs _ => ?_⟩
      obtain ⟨v, w2, h1, h2⟩ := h c cs
      exact ⟨v, w2, h1, (stepsIn_wide (P := P)).2 h2⟩
    | _ => exact (h : False).elim
  | halt x w' => cases x <;> first | exact h | exact (h : False).elim

theorem wpOp_round {i : Nat} {a : Act} {w : World} {K K' : Act → World → Prop} (hd : ∀ (i : Nat) (o : Oper), ops[i]? = some o → ∀ c, o.op ≠ Op.defer c) (hK : ∀ a w, K a w → K' a w) (h : wpOp P ops (NoOut Q) i K a w) : wpOpIn (Fence.wide.inRound l) n P ops Q i K' a w := by
  unfold wpOp at h
  unfold wpOpIn
  cases ho : ops[i]? with
  | none => rw [ho] at h; exact hK _ _ h
  | some o =>
    rw [ho] at h
    dsimp only at h ⊢
    split at h
    · rename_i hw
      rw [if_pos hw]
      rcases h with h | ⟨_, a', w', h⟩
      · exact Oper.wpIn_mono hK (oper_round (hd i o ho) h)
      · exact (h : False).elim
    · rename_i hw
      rw [if_neg hw]
      exact ⟨fun _ _ => trivial, hK _ _ h⟩

theorem wpAny_round (hd : ∀ (i : Nat) (o : Oper), ops[i]? = some o → ∀ c, o.op ≠ Op.defer c) : ∀ (fuel : Nat) (listed : Array Bool) (a : Act) (w : World), wpAny P md ops (NoOut Q) fuel listed a w → wpAnyIn (Fence.wide.inRound l) n P md ops Q fuel listed a w
  | 0, _, _, _, h => h
  | fuel + 1, _, _, _, h => ⟨h.1, fun i hi => wpOp_round hd (fun a w h' => wpAny_round hd fuel _ a w h') (h.2 i hi)⟩

def noDefer (ops : Array Oper) : Bool := ops.toList.all fun o => match o.op with | .defer _ => false | _ => true
theorem noDefer_spec (h : noDefer ops = true) : ∀ (i : Nat) (o : Oper), ops[i]? = some o → ∀ c, o.op ≠ Op.defer c := fun i o ho c e => by
  have hm : o ∈ ops.toList := by
    have := List.mem_of_getElem? (l := ops.toList) (i := i) (a := o) (by simpa using ho)
    exact this
  have := List.all_eq_true.1 h o hm
  rw [e] at this
  cases this

/-- The beginning: S is shown of the world behind the draw, once. -/
theorem wpIn_region_round {S : World → Prop} {id : Nat} {a : Act} {w : World} (hm : P.follows .mixedOrders = true) (hd : noDefer ops = true) (hS : S w.drew)
    (h : S w.drew → wpAnyH P .any ops (NoOut Q) S ops.size (Array.replicate ops.size false) a w.drew) : (Code.region id ops true).wpIn (Fence.wide.inRound l) n P Q a w :=
  wpIn_region_any hm (wpAny_round (noDefer_spec hd) _ _ _ _ (wpAny_of_held _ _ _ _ (h hS)))
end

/-- A round whose body always goes on: yield hands back true; the record is ready again. -/
def roundDone (l : Nat) (r : Loop) (R : World → Prop) : Exit → Act → World → Prop
  | .normal, _, w => w.heap[l]? = some (.loop { r with state := .busy }) ∧ R (w.putObj l (.loop r))
  | _, _, _ => False
theorem yield_ready {F : Fence} {P : Program} {n l : Nat} {r : Loop} {args : Array Value} {W : World} {R : World → Prop} (hF : F.fn r.fn) (hl : W.heap[l]? = some (.loop r)) (hs : r.state = .ready) (hp : r.pending = none) (hargs : args.size = r.params.size) {As Bo : Code} {T : Array Value} (ha : r.assign = As) (hb : r.body = Bo) (ht : (r.params.zip args).foldl (fun t (p, v) => t.setIfInBounds p v) r.tmps = T)
    (h : As.wpIn (F.inRound l) n P (Exit.then (fun a1 w1 => w1.heap[l]? = some (.loop r) ∧ Bo.wpIn (F.inRound l) n P (roundDone l r R) a1 (w1.putObj l (.loop { r with state := .busy }))) (fun _ _ _ => False))
      { tmps := T, defers := [] } W) :
    YieldAt F n P l args W fun e w' => e = .returned (.bool true) ∧ R w' := by
  subst ha hb ht
  refine ⟨r.fn, _, r.assign, r.body, run_yield hl hargs, roundIn_of_wpIn hF (wpIn_mono h fun e a w hq => ?_)⟩
  cases e with
  | normal =>
    obtain ⟨h1, h2⟩ := hq
    refine ⟨_, run_beginRound h1 hs, wpIn_mono h2 fun e a w hq => ?_⟩
    cases e with
    | normal =>
      obtain ⟨h3, h4⟩ := hq
      refine ⟨_, _, run_endRound none h3, rfl, ?_⟩
      obtain ⟨st, pe, fn, tm, pa, as', bo, de⟩ := r
      dsimp only at hs hp
      subst hs hp
      exact h4
    | _ => exact (hq : False).elim
  | _ => exact (hq : False).elim

/-- The record of a loop over a function, ready. -/
def loopRec (fn : FuncId) (tmps : Array Value) (ps : Array Tmp) (assign body : Code) (D : Nat) : Loop := { state := .ready, pending := none, fn, tmps, params := ps, assign, body, defers := D }

/-- A range over a function whose body never leaves, over a closure met by its own contract. -/
theorem wpIn_rangeFunc_goes {P : Program} {n : Nat} {g : Operand} {ps : Array Tmp} {assign body : Code} {Q : Exit → Act → World → Prop} {a : Act} {w : World} {gf : Nat} {lb : Array Value}
    (hg : a.eval g = .func (.func gf) #[] lb) (eg : ∀ args w, (callFunc gf args).run P w = .ok (.enter gf args) w)
    (h : ∀ fn, CallsIn Fence.wide (n - 1) P gf (#[.func (.yield (w.heap.size + 1)) #[] #[]] ++ lb) ((w.alloc (.deferred (some []))).alloc (.loop (loopRec fn a.tmps ps assign body w.heap.size)))
      fun e W2 => (∃ v, e = .returned v) ∧ W2.heap[w.heap.size + 1]? = some (.loop (loopRec fn a.tmps ps assign body w.heap.size)) ∧
        Q .normal { a with defers := { target := .collected w.heap.size, args := #[] } :: a.defers } (W2.putObj (w.heap.size + 1) (.loop { loopRec fn a.tmps ps assign body w.heap.size with state := .exhausted }))) :
    (Code.rangeFunc g ps assign body).wpIn Fence.wide n P Q a w := by
  refine wpIn_rangeFunc fun fn _ => ?_
  have hr : Fence.wide.round = none := rfl
  rw [hr]
  refine ⟨w.heap.size + 1, [{ target := .collected w.heap.size, args := #[] }], (w.alloc (.deferred (some []))).alloc (.loop (loopRec fn a.tmps ps assign body w.heap.size)),
    { target := .fn (.func gf) lb, args := #[.func (.yield (w.heap.size + 1)) #[] #[]] }, (w.alloc (.deferred (some []))).alloc (.loop (loopRec fn a.tmps ps assign body w.heap.size)), gf,
    #[.func (.yield (w.heap.size + 1)) #[] #[]] ++ lb, (w.alloc (.deferred (some []))).alloc (.loop (loopRec fn a.tmps ps assign body w.heap.size)), ?_, ?_, fun _ _ => trivial, ?_, fun h => (by simp [Fence.wide] at h), ?_⟩
  · exact run_enterLoop_outer _ _ _ _ _
  · simp only [resolve, hg]
    simp [go_sem]
  · simp [invoke, go_sem, eg]
  · refine (h fn).mono ?_
    rintro e W2 ⟨⟨v, rfl⟩, hl, hq⟩
    exact ⟨none, _, run_endLoop hl (by simp [loopRec]), hq⟩
end Go.Proofs.Ytfekldcpjoiipaa
