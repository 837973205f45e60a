/-
  A region that draws its order, by an invariant: what each operation leaves in its slot, whenever it comes up.
-/
import Derived.Test.YthkjicnnepkghaaDoorBase
import Derived.Orders
namespace Go.Proofs.YthkjicnnepkghaaDoor
open Go.RowKit

section
variable {P : Program} {ops : Array Oper} {Q : Exit → Act → World → Prop} {a0 : Act} {w0 : World} {Φ : Nat → Value → World → Prop} {L : Nat}

theorem wpOp_val {i : Nat} {o : Oper} {v : Value} {a : Act} {w w' : World} {K : Act → World → Prop} (ho : ops[i]? = some o) (hg : o.guard = none) (hr : (execOp a.eval o).run P w = .ok (.value v) w') (hK : K (a.put o.dst v) w') : wpOp P ops Q i K a w := by
  unfold wpOp
  rw [ho]
  simp only [Region.wanted, hg, if_true]
  left
  unfold Oper.wp
  rw [hr]
  exact hK
theorem wpOp_skip {i : Nat} {o : Oper} {a : Act} {w w' : World} {K : Act → World → Prop} (ho : ops[i]? = some o) (hg : o.guard = none) (hr : (execOp a.eval o).run P w = .ok .skip w') (hK : K (a.put o.dst undef) w') : wpOp P ops Q i K a w := by
  unfold wpOp
  rw [ho]
  simp only [Region.wanted, hg, if_true]
  left
  unfold Oper.wp
  rw [hr]
  exact hK
theorem wpOp_call {i : Nat} {o : Oper} {f : FuncId} {args : Array Value} {a : Act} {w : World} {K : Act → World → Prop} (ho : ops[i]? = some o) (hg : o.guard = none) (hr : (execOp a.eval o).run P w = .ok (.enter f args) w)
    (hc : Calls P f args w fun e w' => ∃ v, e = .returned v ∧ K (a.put o.dst v) w') : wpOp P ops Q i K a w := by
  unfold wpOp
  rw [ho]
  simp only [Region.wanted, hg, if_true]
  left
  unfold Oper.wp
  rw [hr]
  refine hc.mono fun e w' ⟨v, he, hk⟩ => ?_
  subst he
  exact hk

def slotOf (a : Act) (o : Oper) : Value := match o.dst with | some d => a.tmps.getD d undef | none => undef
structure Keeps (ops : Array Oper) (a0 a : Act) : Prop where
  defers : a.defers = a0.defers
  size : a.tmps.size = a0.tmps.size
  same : ∀ j, (∀ o ∈ ops, o.dst ≠ some j) → a.tmps.getD j undef = a0.tmps.getD j undef
theorem Keeps.refl (ops : Array Oper) (a0 : Act) : Keeps ops a0 a0 := ⟨rfl, rfl, fun _ _ => rfl⟩
theorem getD_set (t : Array Value) (d j : Nat) (v : Value) (hd : d < t.size) : (t.setIfInBounds d v).getD j undef = if j = d then v else t.getD j undef := by
  by_cases h : j = d
  · subst h; rw [if_pos rfl]; simp [Array.getD, hd]
  · rw [if_neg h]
    simp only [Array.getD]
    by_cases hj : j < t.size
    · simp [hj, Ne.symm h]
    · simp [hj]
theorem Keeps.put {a : Act} (h : Keeps ops a0 a) {o : Oper} (ho : o ∈ ops) (hb : ∀ d, o.dst = some d → d < a0.tmps.size) (v : Value) : Keeps ops a0 (a.put o.dst v) := by
  cases hd : o.dst with
  | none => exact h
  | some d =>
    have hlt := hb d hd
    refine ⟨h.defers, by simp [Act.put, h.size], fun j hj => ?_⟩
    have hne : j ≠ d := fun e => hj o ho (by rw [hd, e])
    show (a.tmps.setIfInBounds d v).getD j undef = _
    rw [getD_set _ _ _ _ (by rw [h.size]; exact hlt), if_neg hne]
    exact h.same j hj
/-- The frame behind all. -/
def fillT (a : Act) : List Oper → Array Value → Array Value
  | [], t => t
  | o :: l, t => fillT a l (match o.dst with | some d => t.setIfInBounds d (a.tmps.getD d undef) | none => t)
theorem fillT_size (a : Act) : ∀ (l : List Oper) (t : Array Value), (fillT a l t).size = t.size
  | [], _ => rfl
  | o :: l, t => by
    unfold fillT
    rw [fillT_size a l]
    split <;> simp
theorem fillT_at (a : Act) : ∀ (l : List Oper) (t : Array Value) (j : Nat), (∀ o ∈ l, ∀ d, o.dst = some d → d < t.size) → ((∀ o ∈ l, o.dst ≠ some j) → t.getD j undef = a.tmps.getD j undef) → (fillT a l t).getD j undef = a.tmps.getD j undef
  | [], t, j, _, h => h (fun o ho => by cases ho)
  | o :: l, t, j, hb, h => by
    unfold fillT
    refine fillT_at a l _ j (fun o' ho' d hd => ?_) fun hl => ?_
    · have := hb o' (List.mem_cons_of_mem _ ho') d hd
      split <;> simpa using this
    · cases hd : o.dst with
      | none =>
        refine h fun o' ho' => ?_
        rcases List.mem_cons.1 ho' with rfl | ho'
        · rw [hd]; simp
        · exact hl o' ho'
      | some d =>
        dsimp only
        rw [getD_set _ _ _ _ (hb o (by simp) d hd)]
        by_cases e : j = d
        · rw [if_pos e, e]
        · rw [if_neg e]
          refine h fun o' ho' => ?_
          rcases List.mem_cons.1 ho' with rfl | ho'
          · rw [hd]; intro e2; exact e (Option.some.inj e2).symm
          · exact hl o' ho'
theorem Keeps.frame {a : Act} (h : Keeps ops a0 a) (hb : ∀ o ∈ ops, ∀ d, o.dst = some d → d < a0.tmps.size) : a = ⟨fillT a ops.toList a0.tmps, a0.defers⟩ := by
  have e : a.tmps = fillT a ops.toList a0.tmps := by
    apply Array.ext
    · rw [fillT_size, h.size]
    · intro j h1 h2
      have := fillT_at a ops.toList a0.tmps j (fun o ho => hb o (by simpa using ho)) (fun hl => (h.same j fun o ho => hl o (by simpa using ho)).symm)
      simpa [Array.getD, h1, h2] using this.symm
  obtain ⟨t, d⟩ := a
  simp only [Act.mk.injEq]
  exact ⟨e, h.defers⟩

theorem Keeps.frameB {a : Act} {n : Nat} (h : Keeps ops a0 a) (hn : a0.tmps.size = n) (hb : (ops.toList.all fun o => match o.dst with | some d => decide (d < n) | none => true) = true) : a = ⟨fillT a ops.toList a0.tmps, a0.defers⟩ :=
  h.frame fun o ho d hd => by
    have := List.all_eq_true.1 hb o (by simpa using ho)
    rw [hd] at this
    have h2 : d < n := by simpa using this
    rw [hn]; exact h2
/-- A frame, slot by slot. -/
def tabT (t : Array Value) : Nat → Nat → List Value
  | _, 0 => []
  | k, n + 1 => t.getD k undef :: tabT t (k + 1) n
theorem tabT_at (t : Array Value) : ∀ (n k j : Nat), j < n → (tabT t k n)[j]? = some (t.getD (k + j) undef)
  | 0, _, _, h => absurd h (by omega)
  | n + 1, k, 0, _ => by simp [tabT]
  | n + 1, k, j + 1, h => by
    unfold tabT
    rw [List.getElem?_cons_succ, tabT_at t n (k + 1) j (by omega), show k + 1 + j = k + (j + 1) by omega]
theorem tabT_len (t : Array Value) : ∀ (n k : Nat), (tabT t k n).length = n
  | 0, _ => rfl
  | n + 1, k => by simp [tabT, tabT_len t n (k + 1)]
theorem arr_tab (t : Array Value) (n : Nat) (h : t.size = n) : t = (tabT t 0 n).toArray := by
  apply Array.ext
  · simp [tabT_len, h]
  · intro j h1 h2
    have := tabT_at t n 0 j (by omega)
    rw [List.getElem?_eq_getElem (by simpa using h2)] at this
    simp only [Option.some.injEq, Nat.zero_add] at this
    have h3 : (tabT t 0 n).toArray[j] = (tabT t 0 n)[j]'(by simpa using h2) := by simp
    rw [h3, this]
    simp [Array.getD, h1]
theorem act_eq {a : Act} {t : Array Value} {d : List Deferred} (h : a.tmps = t) (h' : a.defers = d) : a = ⟨t, d⟩ := by
  obtain ⟨_, _⟩ := a
  simp only at h h'
  rw [h, h']
/-- What must be so of the operations: slots of their own, in bounds; all of them ahead of the last one. -/
def bindsTo (o : Oper) (i : Nat) : Bool := o.after.toList.any fun e => Region.binds .any e && e.on == i
def fitsB (ops : Array Oper) (n L : Nat) : Bool :=
  ops.toList.all (fun o => match o.dst with | some d => decide (d < n) | none => true) &&
  decide ((ops.toList.filterMap fun o => o.dst).Nodup) &&
  decide (L < ops.size) &&
  (List.range ops.size).all (fun i => i == L || (ops.getD i default).dst.isSome) &&
  (List.range ops.size).all (fun i => (ops.getD i default).after.toList.all fun e => decide (e.on < i)) &&
  (List.range ops.size).all (fun i => i == L || (List.range ops.size).any fun j => decide (i < j) && bindsTo (ops.getD j default) i)
theorem nodup_dst : ∀ {l : List Oper} (_ : (l.filterMap fun o => o.dst).Nodup) {i j : Nat} {oi oj : Oper} {d : Tmp}, l[i]? = some oi → l[j]? = some oj → oi.dst = some d → oj.dst = some d → i = j
  | [], _, i, j, _, _, _, h, _, _, _ => by simp at h
  | o :: l, hn, i, j, oi, oj, d, hi, hj, di, dj => by
    have hmem : ∀ {k : Nat} {ok : Oper}, l[k]? = some ok → ok.dst = some d → d ∈ l.filterMap fun o => o.dst := fun {k ok} hk dk =>
      List.mem_filterMap.2 ⟨ok, List.mem_of_getElem? hk, dk⟩
    have hn' : (l.filterMap fun o => o.dst).Nodup := by
      cases hd : o.dst with
      | none => rw [List.filterMap_cons_none hd] at hn; exact hn
      | some d' => rw [List.filterMap_cons_some hd] at hn; exact (List.nodup_cons.1 hn).2
    cases i with
    | zero =>
      cases j with
      | zero => rfl
      | succ j =>
        exfalso
        have h0 : o = oi := by simpa using hi
        subst h0
        rw [List.filterMap_cons_some di] at hn
        exact (List.nodup_cons.1 hn).1 (hmem (by simpa using hj) dj)
    | succ i =>
      cases j with
      | zero =>
        exfalso
        have h0 : o = oj := by simpa using hj
        subst h0
        rw [List.filterMap_cons_some dj] at hn
        exact (List.nodup_cons.1 hn).1 (hmem (by simpa using hi) di)
      | succ j =>
        have ih := nodup_dst hn' (i := i) (j := j) (oi := oi) (oj := oj) (by simpa using hi) (by simpa using hj) di dj
        rw [ih]

theorem cnt_lt {p q : Nat → Bool} : ∀ (l : List Nat), (∀ x ∈ l, q x = true → p x = true) → (∃ x ∈ l, p x = true ∧ q x = false) → l.countP q < l.countP p
  | [], _, h => by obtain ⟨x, hx, _⟩ := h; cases hx
  | y :: l, h, h2 => by
    have hle : l.countP q ≤ l.countP p := List.countP_mono_left fun x hx hq => h x (by simp [hx]) hq
    rw [List.countP_cons, List.countP_cons]
    obtain ⟨x, hx, h3, h4⟩ := h2
    rcases List.mem_cons.1 hx with rfl | hx
    · rw [h3, h4]; simp; omega
    · have ih := cnt_lt l (fun x hx => h x (by simp [hx])) ⟨x, hx, h3, h4⟩
      have := h y (by simp)
      cases hq : q y
      · simp; split <;> omega
      · rw [this hq]; simp; omega
theorem wp_region_inv {id n : Nat} (hm : P.follows .mixedOrders = true) (hn : a0.tmps.size = n) (hf : fitsB ops n L = true)
    (hst : ∀ i v w w', Φ i v w → Below w.heap.size w w' → Φ i v w')
    (hstep : ∀ i o, ops[i]? = some o → i ≠ L → ∀ a w, Keeps ops a0 a → Below w0.heap.size w0 w → (∀ j oj, ops[j]? = some oj → bindsTo o j = true → Φ j (slotOf a oj) w) →
      wpOp P ops Q i (fun a' w' => ∃ v, a' = a.put o.dst v ∧ Below w.heap.size w w' ∧ Φ i v w') a w)
    (hlast : ∀ a w, Keeps ops a0 a → Below w0.heap.size w0 w → (∀ j oj, ops[j]? = some oj → j ≠ L → Φ j (slotOf a oj) w) → wpOp P ops Q L (fun a' w' => Q .normal a' w') a w) :
    (Code.region id ops true).wp P Q a0 w0 := by
  simp only [fitsB, Bool.and_eq_true] at hf
  obtain ⟨⟨⟨⟨⟨hf1, hf2⟩, hf3⟩, hf6⟩, hf5⟩, hf4⟩ := hf
  have hbd : ∀ o ∈ ops, ∀ d, o.dst = some d → d < a0.tmps.size := fun o ho d hd => by
    have := List.all_eq_true.1 hf1 o (by simpa using ho)
    rw [hd] at this
    have h2 : d < n := by simpa using this
    rw [hn]; exact h2
  have hnd := of_decide_eq_true hf2
  have hL := of_decide_eq_true hf3
  have hsucc : ∀ i, i < ops.size → i ≠ L → ∃ j, j < ops.size ∧ i < j ∧ bindsTo (ops.getD j default) i = true := fun i hi hiL => by
    have := List.all_eq_true.1 hf4 i (List.mem_range.2 hi)
    simp only [Bool.or_eq_true, beq_iff_eq, hiL, false_or] at this
    obtain ⟨j, hj, h2⟩ := List.any_eq_true.1 this
    simp only [Bool.and_eq_true, decide_eq_true_eq] at h2
    exact ⟨j, List.mem_range.1 hj, h2.1, h2.2⟩
  have hop : ∀ i, i < ops.size → ∃ o, ops[i]? = some o ∧ ops.getD i default = o := fun i hi => ⟨ops[i], by simp [hi], by simp [Array.getD, hi]⟩
  refine wp_region_any hm ?_
  have main : ∀ (fuel : Nat) (listed : Array Bool) (a : Act) (w : World), listed.size = ops.size → Keeps ops a0 a → Below w0.heap.size w0 w → listed.getD L true = false →
      (∀ i o, ops[i]? = some o → listed.getD i true = true → (∀ j, bindsTo o j = true → listed.getD j false = true) ∧ Φ i (slotOf a o) w) →
      (List.range ops.size).countP (fun i => !listed.getD i true) ≤ fuel → wpAny P .any ops Q fuel listed a w := by
    intro fuel
    induction fuel with
    | zero =>
      intro listed a w hs _ _ hLf _ hc
      exfalso
      have : 0 < (List.range ops.size).countP (fun i => !listed.getD i true) := List.countP_pos_iff.2 ⟨L, List.mem_range.2 hL, by rw [hLf]; rfl⟩
      omega
    | succ fuel ih =>
      intro listed a w hs hk hb hLf hI hc
      have hrd : ∀ i, i ∈ Region.ready .any ops listed → i < ops.size ∧ listed.getD i true = false ∧ ∀ o, ops[i]? = some o → ∀ j, bindsTo o j = true → listed.getD j false = true := fun i hi => by
        unfold Region.ready at hi
        obtain ⟨h1, h2⟩ := List.mem_filter.1 hi
        simp only [Bool.and_eq_true, Bool.not_eq_true'] at h2
        refine ⟨List.mem_range.1 h1, h2.1, fun o ho j hj => ?_⟩
        have h3 := h2.2
        rw [ho] at h3
        simp only [Option.map_some, Option.getD_some] at h3
        obtain ⟨e, he, h4⟩ := List.any_eq_true.1 hj
        simp only [Bool.and_eq_true, beq_iff_eq] at h4
        have h5 := Array.all_eq_true_iff_forall_mem.1 h3 e (by simpa using he)
        rw [h4.1] at h5
        simp only [Bool.not_true, Bool.false_or] at h5
        rw [← h4.2]; exact h5
      have hlst : ∀ j, listed.getD j false = true → listed.getD j true = true := fun j hj => by
        by_cases hlt : j < listed.size
        · simpa [Array.getD, hlt] using hj
        · simp [Array.getD, hlt] at hj
      have hbk : ∀ j, listed.getD j true = false → listed.getD j false = false := fun j hj => by
        by_cases hlt : j < listed.size
        · simpa [Array.getD, hlt] using hj
        · simp [Array.getD, hlt]
      have htf : ∀ j, j < ops.size → listed.getD j true = true → listed.getD j false = true := fun j hj h => by
        have hlt : j < listed.size := by omega
        simpa [Array.getD, hlt] using h
      have hset : ∀ i j, i < ops.size → (listed.setIfInBounds i true).getD j true = (if j = i then true else listed.getD j true) ∧ (j < ops.size → (listed.setIfInBounds i true).getD j false = (if j = i then true else listed.getD j false)) := fun i j hi => by
        by_cases hj : j < listed.size
        · by_cases e : j = i
          · subst e; simp [Array.getD, hj]
          · simp [Array.getD, hj, e, Ne.symm e]
        · have : j ≠ i := by omega
          refine ⟨by simp [Array.getD, hj, this], fun h => by omega⟩
      refine ⟨fun he => ?_, fun i hi => ?_⟩
      · exfalso
        have least : ∀ m, (∀ i, i < m → listed.getD i true = true) ∨ ∃ i, i < m ∧ listed.getD i true = false ∧ ∀ j, j < i → listed.getD j true = true := by
          intro m
          induction m with
          | zero => exact .inl fun i hi => by omega
          | succ m ihm =>
            rcases ihm with h | ⟨i, h1, h2⟩
            · cases hm : listed.getD m true with
              | true => exact .inl fun i hi => by rcases (show i = m ∨ i < m by omega) with rfl | h3; exact hm; exact h i h3
              | false => exact .inr ⟨m, by omega, hm, h⟩
            · exact .inr ⟨i, by omega, h2⟩
        rcases least (L + 1) with h | ⟨i, h1, h2, h3⟩
        · have := h L (by omega); rw [hLf] at this; cases this
        · have hi : i < ops.size := by omega
          obtain ⟨o, ho, hod⟩ := hop i hi
          have hmem : i ∈ Region.ready .any ops listed := by
            unfold Region.ready
            refine List.mem_filter.2 ⟨List.mem_range.2 hi, ?_⟩
            rw [ho, h2]
            simp only [Bool.not_false, Bool.true_and, Option.map_some, Option.getD_some]
            refine Array.all_eq_true_iff_forall_mem.2 fun e hem => ?_
            have h5 := List.all_eq_true.1 hf5 i (List.mem_range.2 hi)
            rw [hod] at h5
            have h6 := of_decide_eq_true (List.all_eq_true.1 h5 e (by simpa using hem))
            rw [htf e.on (by omega) (h3 e.on h6)]
            simp
          rw [he] at hmem
          cases hmem
      · obtain ⟨hlt, hfalse, hdeps⟩ := hrd i hi
        obtain ⟨o, ho, hod⟩ := hop i hlt
        by_cases hiL : i = L
        · subst hiL
          have hall : ∀ k j, ops.size ≤ j + k → j < ops.size → j ≠ i → listed.getD j true = true := by
            intro k
            induction k with
            | zero => intro j h1 h2; omega
            | succ k ihk =>
              intro j h1 h2 h3
              obtain ⟨j', h4, h5, h6⟩ := hsucc j h2 h3
              obtain ⟨o', ho', hod'⟩ := hop j' h4
              rw [hod'] at h6
              by_cases e : j' = i
              · subst e
                exact hlst _ (hdeps o' ho' j h6)
              · exact hlst _ ((hI j' o' ho' (ihk j' (by omega) h4 e)).1 j h6)
          refine wpOp_mono (fun a' w' hq => ?_) (hlast a w hk hb fun j oj hoj hj => ?_)
          · have hr : Region.ready .any ops (listed.setIfInBounds i true) = [] := by
              unfold Region.ready
              rw [List.filter_eq_nil_iff]
              intro j hj
              have hj' := List.mem_range.1 hj
              rw [(hset i j hlt).1]
              by_cases e : j = i
              · rw [if_pos e]; simp
              · rw [if_neg e, hall ops.size j (by omega) hj' e]; simp
            cases fuel with
            | zero => exact ⟨hr, hq⟩
            | succ fuel => exact ⟨fun _ => hq, fun j hj => by rw [hr] at hj; cases hj⟩
          · have hj' : j < ops.size := by
              rcases Nat.lt_or_ge j ops.size with h | h
              · exact h
              · rw [Array.getElem?_eq_none h] at hoj; cases hoj
            exact (hI j oj hoj (hall ops.size j (by omega) hj' hj)).2
        · refine wpOp_mono (fun a' w' hq => ?_) (hstep i o ho hiL a w hk hb fun j oj hoj hj => (hI j oj hoj (hlst j (hdeps o ho j hj))).2)
          obtain ⟨v, rfl, hb', hΦ⟩ := hq
          have hmo : o ∈ ops := by
            rw [Array.mem_iff_getElem?]; exact ⟨i, ho⟩
          refine ih (listed.setIfInBounds i true) _ w' (by simpa using hs) (hk.put hmo (hbd o hmo) v) (hb.trans (hb'.mono hb.size)) ?_ ?_ ?_
          · rw [(hset i L hlt).1, if_neg (fun e => hiL e.symm)]; exact hLf
          · intro j oj hoj hj
            have hj' : j < ops.size := by
              rcases Nat.lt_or_ge j ops.size with h | h
              · exact h
              · rw [Array.getElem?_eq_none h] at hoj; cases hoj
            rw [(hset i j hlt).1] at hj
            have hlow : ∀ k, bindsTo oj k = true → k < ops.size := fun k hk => by
              obtain ⟨e, he, h4⟩ := List.any_eq_true.1 hk
              simp only [Bool.and_eq_true, beq_iff_eq] at h4
              have h5 := List.all_eq_true.1 hf5 j (List.mem_range.2 hj')
              obtain ⟨oj', hoj', hod'⟩ := hop j hj'
              rw [hod'] at h5
              rw [hoj] at hoj'; cases hoj'
              have h6 := of_decide_eq_true (List.all_eq_true.1 h5 e he)
              rw [h4.2] at h6; omega
            by_cases e : j = i
            · subst e
              rw [ho] at hoj; cases hoj
              refine ⟨fun k hk => ?_, ?_⟩
              · rw [(hset j k hlt).2 (hlow k hk)]
                by_cases e2 : k = j
                · rw [if_pos e2]
                · rw [if_neg e2]; exact hdeps o ho k hk
              · have : slotOf (a.put o.dst v) o = v := by
                  unfold slotOf Act.put
                  cases hd : o.dst with
                  | none =>
                    have h7 := List.all_eq_true.1 hf6 j (List.mem_range.2 hj')
                    rw [hod, hd] at h7
                    simp [hiL] at h7
                  | some d =>
                    dsimp only
                    rw [getD_set _ _ _ _ (by rw [hk.size]; exact hbd o hmo d hd), if_pos rfl]
                rw [this]
                exact hΦ
            · rw [if_neg e] at hj
              obtain ⟨h1, h2⟩ := hI j oj hoj hj
              refine ⟨fun k hk => ?_, ?_⟩
              · rw [(hset i k hlt).2 (hlow k hk)]
                by_cases e2 : k = i
                · rw [if_pos e2]
                · rw [if_neg e2]; exact h1 k hk
              · have : slotOf (a.put o.dst v) oj = slotOf a oj := by
                  unfold slotOf
                  cases hdj : oj.dst with
                  | none => rfl
                  | some dj =>
                    dsimp only
                    unfold Act.put
                    cases hd : o.dst with
                    | none => rfl
                    | some d =>
                      dsimp only
                      rw [getD_set _ _ _ _ (by rw [hk.size]; exact hbd o hmo d hd), if_neg]
                      intro e3
                      subst e3
                      exact e (nodup_dst hnd (i := j) (j := i) (by simpa using hoj) (by simpa using ho) hdj hd)
                rw [this]
                exact hst j _ w w' h2 hb'
          · have hcount : (List.range ops.size).countP (fun j => !(listed.setIfInBounds i true).getD j true) < (List.range ops.size).countP (fun j => !listed.getD j true) := by
              refine cnt_lt _ (fun x _ hq => ?_) ⟨i, List.mem_range.2 hlt, by rw [hfalse]; rfl, by rw [(hset i i hlt).1, if_pos rfl]; rfl⟩
              rw [(hset i x hlt).1] at hq
              by_cases e : x = i
              · rw [e, hfalse]; rfl
              · rw [if_neg e] at hq; exact hq
            omega
  refine main ops.size (Array.replicate ops.size false) a0 w0.drew (by simp) (Keeps.refl _ _) (below_drewN (Below.refl _ _) 1) (by simp [Array.getD, hL]) (fun i o ho hl => ?_) (by have := List.countP_le_length (p := fun i => !(Array.replicate ops.size false).getD i true) (l := List.range ops.size); simpa using this)
  exfalso
  have hj' : i < ops.size := by
    rcases Nat.lt_or_ge i ops.size with h | h
    · exact h
    · rw [Array.getElem?_eq_none h] at ho; cases ho
  simp [Array.getD, hj'] at hl

/-- A slot that no operation of the region writes. -/
def freeB (ops : Array Oper) (j : Nat) : Bool := ops.toList.all fun o => o.dst != some j
theorem Keeps.free {a : Act} (h : Keeps ops a0 a) {j : Nat} (hf : freeB ops j = true) : a.tmps.getD j undef = a0.tmps.getD j undef :=
  h.same j fun o ho => by
    have := List.all_eq_true.1 hf o (by simpa using ho)
    simpa using this
/-- A fact of a value that stands while what lies lies. -/
def SP := { φ : Value → World → Prop // ∀ v w w', φ v w → Below w.heap.size w w' → φ v w' }
def SP.is (x : Value) : SP := ⟨fun v _ => v = x, fun _ _ _ h _ => h⟩
def SP.top : SP := ⟨fun _ _ => True, fun _ _ _ h _ => h⟩
/-- A row of the region's own: a slice over all of a new block. -/
def SP.row (B : Nat) (t : TypeId) (cs : List Value) : SP := ⟨fun v w => ∃ g, v = .slice (some ⟨g, 0, none⟩) cs.length cs.length ∧ B ≤ g ∧ w.heap[g]? = some (.cells cs.toArray t (0, 0)),
  fun _ _ _ ⟨g, h1, h2, h3⟩ hb => ⟨g, h1, h2, (hb.block g (lt_of_block h3)).trans h3⟩⟩
/-- A new struct. -/
def SP.box (B : Nat) (t : TypeId) (cs : Array Value) : SP := ⟨fun v w => ∃ g, v = .pointer (some ⟨g, 0, none⟩) ∧ B ≤ g ∧ w.heap[g]? = some (.cells cs t (0, 0)),
  fun _ _ _ ⟨g, h1, h2, h3⟩ hb => ⟨g, h1, h2, (hb.block g (lt_of_block h3)).trans h3⟩⟩
theorem own_below' {w w' : World} {base sz n B : Nat} {e : TypeId} {v : Value} {cs : List Value} (h : w.ownsRow base e sz v n cs) (hb : Below B w w') (hB : w.heap.size ≤ B) : w'.ownsRow base e sz v n cs := by
  refine ⟨h.1, ?_⟩
  rcases h.2 with h2 | ⟨g, cap, cur, rfl, h3, h4, r⟩
  · exact .inl h2
  · exact .inr ⟨g, cap, cur, rfl, h3, (hb.block g (by have := lt_of_block h4; omega)).trans h4, r⟩
/-- A slice of the call's own. -/
def SP.own (B : Nat) (e : TypeId) (sz n : Nat) (cs : List Value) : SP := ⟨fun v w => w.ownsRow B e sz v n cs, fun _ _ _ h hb => own_below' h hb (Nat.le_refl _)⟩
def planOf (L : List SP) : Nat → Value → World → Prop := fun i => (L.getD i SP.top).1
def AllBelow (p : Nat → Prop) : Nat → Prop
  | 0 => True
  | n + 1 => AllBelow p n ∧ p n
theorem AllBelow.get {p : Nat → Prop} : ∀ {n : Nat}, AllBelow p n → ∀ i, i < n → p i
  | 0, _, i, h => absurd h (by omega)
  | n + 1, ⟨h1, h2⟩, i, h => by
    rcases (show i = n ∨ i < n by omega) with rfl | h3
    · exact h2
    · exact h1.get i h3
def StepOk (P : Program) (ops : Array Oper) (Q : Exit → Act → World → Prop) (a0 : Act) (w0 : World) (L : List SP) (i : Nat) : Prop :=
  ∀ o, ops[i]? = some o → ∀ a w, Keeps ops a0 a → Below w0.heap.size w0 w → (∀ j oj, ops[j]? = some oj → bindsTo o j = true → planOf L j (slotOf a oj) w) →
    wpOp P ops Q i (fun a' w' => ∃ v, a' = a.put o.dst v ∧ Below w.heap.size w w' ∧ planOf L i v w') a w
/-- The last operation ends the region; the plan: a fact for each of the others. -/
theorem wp_region_plan {id n m : Nat} {l : List SP} (hm : P.follows .mixedOrders = true) (hn : a0.tmps.size = n) (hf : fitsB ops n m = true) (hz : ops.size = m + 1)
    (hstep : AllBelow (StepOk P ops Q a0 w0 l) m)
    (hlast : ∀ a w, Keeps ops a0 a → Below w0.heap.size w0 w → (∀ j oj, ops[j]? = some oj → j < m → planOf l j (slotOf a oj) w) → wpOp P ops Q m (fun a' w' => Q .normal a' w') a w) :
    (Code.region id ops true).wp P Q a0 w0 :=
  wp_region_inv (Φ := planOf l) hm hn hf (fun i v w w' h hb => (l.getD i SP.top).2 v w w' h hb)
    (fun i o ho hi a w hk hb F => hstep.get i (by
      have : i < ops.size := by
        rcases Nat.lt_or_ge i ops.size with h | h
        · exact h
        · rw [Array.getElem?_eq_none h] at ho; cases ho
      omega) o ho a w hk hb F)
    (fun a w hk hb F => hlast a w hk hb fun j oj hj hlt => F j oj hj (by omega))
end
end Go.Proofs.YthkjicnnepkghaaDoor
