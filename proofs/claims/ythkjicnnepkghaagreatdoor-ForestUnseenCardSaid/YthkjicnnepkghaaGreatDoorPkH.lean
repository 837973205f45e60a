/-
  A range over a map keyed by int, of any elements; a map cloned.
  Package forest: Held.
-/
import Derived.Test.YthkjicnnepkghaaGreatDoorPkA
import Derived.Maps.RangeWalk
import Derived.Lib.SlicesCompact
import Derived.Test.YthkjicnnepkghaaGreatDoorPkC
import Derived.Deep.AppendLies
namespace Go.Proofs.YthkjicnnepkghaaGreatDoor
open Go.RowKit Go.Maps

def RangeAt (P : Program) (k : TypeId) (w : World) (b r n : Nat) (M : Int → Option Value) (L : Int → Bool) (cnt : Nat) : Prop :=
  ∃ (D : DataW Value) (left : Lit → Bool), w.ranges P k heldR b r n D left cnt ∧ (∀ j, I64 j → Maps.has D (.int .i64 j) = (M j).isSome ∧ ∀ z, D.atKey (.int .i64 j) (.held z) = .held ((M j).getD z)) ∧ ∀ j, I64 j → left (.int .i64 j) = L j

section
variable {P : Program} {k e t : TypeId} {w w' : World} {b r n cnt : Nat} {M : Int → Option Value} {L : Int → Bool}

theorem RangeAt.kept {row : Option Nat} (h : RangeAt P k w b r n M L cnt) (hg : w.grownBy w' row) (hb : some b ≠ row) (hr : some r ≠ row) : RangeAt P k w' b r n M L cnt := by
  obtain ⟨D, left, h1, h2⟩ := h
  exact ⟨D, left, h1.kept hg hb hr, h2⟩
theorem RangeAt.map (h : RangeAt P k w b r n M L cnt) : MapAt P k w b n M := by
  obtain ⟨D, left, h1, h2, _⟩ := h
  exact ⟨D, h1.owns, h2⟩
theorem RangeAt.left_eq (h : RangeAt P k w b r n M L cnt) : w.rangeLeft b r = cnt := by
  obtain ⟨D, left, h1, h2⟩ := h
  exact h1.left_eq
theorem RangeAt.lt (h : RangeAt P k w b r n M L cnt) : r < w.heap.size := by
  obtain ⟨D, left, h1, h2⟩ := h
  exact h1.lt

theorem MapAt.cloned {es : Array MapEntry} {c : Nat} (h : MapAt P k w b n M) (hb : w.heap[b]? = some (.map es c)) : MapAt P k (w.alloc (.map es c)) w.heap.size n M := by
  obtain ⟨D, ⟨es', clock, h1, h2, h3, h4⟩, h5⟩ := h
  rw [hb] at h1
  cases h1
  exact ⟨D, ⟨es, c, heap_alloc_new _ _, h2, h3, h4⟩, h5⟩

theorem wpList_rangeM {ops : Array Oper} {rest : List Oper} {o : Oper} {a : Act} {Q : Exit → Act → World → Prop}
    (hg : o.guard = none) (m : Operand) (t : TypeId) (hop : o.op = Op.range t m) (k e : TypeId) (hk : P.underlying k = some (.int .i64)) (ht : P.underlying t = some (.map k e)) (b n : Nat) (M : Int → Option Value)
    (hm : a.eval m = .map (some b)) (hown : MapAt P k w b n M)
    (hK : ∀ w' cnt, RangeAt P k w' b w.heap.size n M (fun x => (M x).isSome) cnt → w.grownBy w' none → w'.heap.size = w.heap.size + 1 → wpList P ops Q rest (a.put o.dst (.pointer (some ⟨w.heap.size, 0, none⟩))) w') :
    wpList P ops Q (o :: rest) a w := by
  obtain ⟨D, h1, h2⟩ := hown
  exact wpList_range_own w hg m t hop k e (int_keyed hk) ht heldR b n D hm h1 fun w' hr hg hs => hK w' _ ⟨D, _, hr, h2, fun j hj => (h2 j hj).1⟩ hg hs

theorem wpList_nextM {ops : Array Oper} {rest : List Oper} {o : Oper} {a : Act} {Q : Exit → Act → World → Prop}
    (hg : o.guard = none) (it : Operand) (hop : o.op = Op.next it false) (k : TypeId) (hk : P.underlying k = some (.int .i64)) (b r n : Nat) (M : Int → Option Value) (L : Int → Bool) (cnt : Nat)
    (hit : a.eval it = .pointer (some ⟨r, 0, none⟩)) (h : RangeAt P k w b r n M L cnt)
    (hDone : (∀ x, I64 x → L x = false) → wpList P ops Q rest (a.put o.dst (.tuple #[.bool false])) w)
    (hMore : ∀ (x : Int) (v : Value) (w' : World) (cnt' : Nat), I64 x → L x = true → M x = some v → RangeAt P k w' b r n M (fun z => L z && z != x) cnt' → cnt' < cnt →
      w.grownBy w' (some r) → w'.heap.size = w.heap.size → (Instr.entry (.pointer (some ⟨r, 0, none⟩))).run P w' = .ok (.tuple #[.int .i64 x, v]) w' → wpList P ops Q rest (a.put o.dst (.tuple #[.bool true, .int .i64 x, v])) w') :
    wpList P ops Q (o :: rest) a w := by
  obtain ⟨D, left, h1, h2, h3⟩ := h
  refine wpList_next_ranges w hg it hop k (int_keyed hk) heldR (Value.int .i64) (fun v : Value => v) (fun key kl hkey => by obtain ⟨x, rfl, _⟩ := Maps.keyOf_int_inv hk hkey; exact ⟨x, rfl⟩) (fun v y _ => ⟨v, rfl⟩) b r n D left cnt hit h1
    (fun _ hl => hDone fun x hx => by rw [← h3 x hx]; exact hl _) fun x c kl y w' cnt' hkey hlk hv hat hrg hlt hgr hsz hen => ?_
  obtain ⟨x', ex, rfl, hwx⟩ := Maps.keyOf_int_inv hk hkey
  cases ex
  have hx := i64_of_wf hwx
  have hat' : (M x) = some c := by
    have a1 := hat (.held .nilIface)
    have a2 := (h2 x hx).2 .nilIface
    have a3 := (h2 x hx).1
    rw [Maps.has_true_of_atKey hat] at a3
    cases hM : M x with
    | none => rw [hM] at a3; cases a3
    | some c' =>
      rw [hM] at a2
      rw [a2] at a1
      simp only [heldR, Option.some.injEq] at hv
      rw [← hv] at a1
      simp only [Option.getD_some, DataW.held.injEq] at a1
      rw [a1]
  refine hMore x c w' cnt' hx (by rw [← h3 x hx]; exact hlk) hat' ⟨D, _, hrg, h2, fun j hj => ?_⟩ hlt hgr hsz hen
  show (left (.int .i64 j) && !(Lit.int .i64 j).sameKey (.int .i64 x)) = (L j && j != x)
  rw [h3 j hj]
  congr 1
  by_cases e : j = x
  · subst e
    simp [Lit.sameKey]
  · have : (Lit.int .i64 j).sameKey (.int .i64 x) = false := Maps.sameKey_ne (fun e' => e (by simpa using e'))
    rw [this]
    simp [e]
end
end Go.Proofs.YthkjicnnepkghaaGreatDoor
namespace Go.Proofs.YthkjicnnepkghaaGreatDoor
open Go.RowKit Go.Sort Go.Shelf Go.Lib Go.Maps
set_option linter.unusedVariables false
section
open Go.RowKit Go.Maps Go.Lib

def HeldBy (s : Sf) (x : Int) : Prop := (s.ca.attach = true ∧ s.ca.buffer = x) ∨ s.cu.buffer = x
def HeldL (M : Fo) (q : List Int) : Prop := q.Pairwise (· < ·) ∧ ∀ x, x ∈ q ↔ 0 < x ∧ ∃ id s, M id = some s ∧ HeldBy s x

theorem heldL_one {M : Fo} {q q' : List Int} (h : HeldL M q) (h' : HeldL M q') : q = q' := by
  have key : ∀ {l l' : List Int}, l.Pairwise (· < ·) → l'.Pairwise (· < ·) → (∀ x, x ∈ l ↔ x ∈ l') → l = l' := by
    intro l
    induction l with
    | nil =>
      intro l' _ _ hm
      cases l' with
      | nil => rfl
      | cons b s => have := (hm b).2 (by simp); simp at this
    | cons a r ih =>
      intro l' h1 h2 hm
      cases l' with
      | nil => have := (hm a).1 (by simp); simp at this
      | cons b s =>
        obtain ⟨a1, a2⟩ := List.pairwise_cons.1 h1
        obtain ⟨b1, b2⟩ := List.pairwise_cons.1 h2
        have hab : a = b := by
          rcases List.mem_cons.1 ((hm a).1 (by simp)) with e | ha
          · exact e
          · rcases List.mem_cons.1 ((hm b).2 (by simp)) with e | hb
            · exact e.symm
            · have := b1 a ha; have := a1 b hb; omega
        subst hab
        rw [ih a2 b2 fun p => ⟨fun hp => by
          rcases List.mem_cons.1 ((hm p).1 (by simp [hp])) with e | hp'
          · have := a1 p hp; omega
          · exact hp', fun hp => by
          rcases List.mem_cons.1 ((hm p).2 (by simp [hp])) with e | hp'
          · have := b1 p hp; omega
          · exact hp'⟩]
  exact key h.1 h'.1 fun x => (h.2 x).trans (h'.2 x).symm

theorem compactUpTo_sorted (d : Array Int) (n : Nat) (hs : ∀ i j, i ≤ j → j < n → d[i]! ≤ d[j]!) : ∀ m, m ≤ n → (compactUpTo d m).Pairwise (· < ·) ∧ (∀ x, x ∈ compactUpTo d m ↔ ∃ j, j < m ∧ d[j]! = x)
  | 0, _ => ⟨by simp [compactUpTo], by simp [compactUpTo]⟩
  | m + 1, hm => by
    obtain ⟨h1, h2⟩ := compactUpTo_sorted d n hs m (by omega)
    rw [compactUpTo_succ]
    by_cases hk : keeps d m = true
    · rw [if_pos hk]
      refine ⟨List.pairwise_append.2 ⟨h1, by simp, fun a ha b hb => ?_⟩, fun x => ?_⟩
      · obtain rfl : b = d[m]! := by simpa using hb
        obtain ⟨j, hj, rfl⟩ := (h2 a).1 ha
        have hle := hs j (m - 1) (by omega) (by omega)
        have hle2 := hs (m - 1) m (by omega) (by omega)
        have hne : d[m]! ≠ d[m - 1]! := fun e => by
          rw [keeps_neg (by omega) e] at hk; cases hk
        omega
      · rw [List.mem_append, h2]
        constructor
        · rintro (⟨j, hj, rfl⟩ | hx)
          · exact ⟨j, by omega, rfl⟩
          · exact ⟨m, by omega, (by simpa using hx : x = d[m]!).symm⟩
        · rintro ⟨j, hj, rfl⟩
          by_cases e : j = m
          · subst e; right; simp
          · left; exact ⟨j, by omega, rfl⟩
    · rw [if_neg hk, List.append_nil]
      refine ⟨h1, fun x => ?_⟩
      rw [h2]
      have h0 : 0 < m := by
        rcases Nat.eq_zero_or_pos m with e | e
        · subst e; exact absurd (keeps_lt_one d 0 (by omega)) hk
        · exact e
      have he : d[m]! = d[m - 1]! := by
        by_cases e : d[m]! = d[m - 1]!
        · exact e
        · exact absurd (keeps_pos e) hk
      constructor
      · rintro ⟨j, hj, rfl⟩; exact ⟨j, by omega, rfl⟩
      · rintro ⟨j, hj, rfl⟩
        by_cases e : j = m
        · subst e; exact ⟨j - 1, by omega, he.symm⟩
        · exact ⟨j, by omega, rfl⟩
theorem compact_sort (zs : List Int) : (compact (zs.mergeSort fun x y => decide (x ≤ y))).Pairwise (· < ·) ∧ ∀ x, x ∈ compact (zs.mergeSort fun x y => decide (x ≤ y)) ↔ x ∈ zs := by
  have tr : ∀ a b c : Int, decide (a ≤ b) = true → decide (b ≤ c) = true → decide (a ≤ c) = true := fun a b c h1 h2 => by simp only [decide_eq_true_eq] at *; omega
  have tot : ∀ a b : Int, (decide (a ≤ b) || decide (b ≤ a)) = true := fun a b => by simp only [Bool.or_eq_true, decide_eq_true_eq]; omega
  have hs := List.pairwise_mergeSort tr tot zs
  have hp := List.mergeSort_perm zs fun x y => decide (x ≤ y)
  obtain ⟨L, hL⟩ : ∃ L, L = zs.mergeSort fun x y => decide (x ≤ y) := ⟨_, rfl⟩
  rw [← hL] at hs hp ⊢
  have key : ∀ i j, i ≤ j → j < L.length → L.toArray[i]! ≤ L.toArray[j]! := fun i j hij hj => by
    rw [getElem!_pos L.toArray i (by simp; omega), getElem!_pos L.toArray j (by simp; omega)]
    simp only [List.getElem_toArray]
    by_cases e : i = j
    · subst e; exact Int.le_refl _
    · have := (List.pairwise_iff_getElem.1 hs) i j (by omega) hj (by omega)
      simpa using this
  obtain ⟨h1, h2⟩ := compactUpTo_sorted L.toArray L.length key L.length (Nat.le_refl _)
  refine ⟨h1, fun x => ((h2 x).trans ⟨?_, ?_⟩).trans hp.mem_iff⟩
  · rintro ⟨j, hj, rfl⟩
    rw [getElem!_pos L.toArray j (by simp; omega)]
    simp
  · intro hx
    obtain ⟨j, hj, e⟩ := List.getElem_of_mem hx
    exact ⟨j, hj, by rw [getElem!_pos L.toArray j (by simp; omega)]; simpa using e⟩

section
variable {P : Program} {k : TypeId} {w w' : World} {b r n cnt : Nat} {M : Int → Option Value} {L : Int → Bool}
theorem RangeAt.blocks (h : RangeAt P k w b r n M L cnt) (hb : w'.heap[b]? = w.heap[b]?) (hr : w'.heap[r]? = w.heap[r]?) : RangeAt P k w' b r n M L cnt := by
  obtain ⟨D, left, ⟨es, clock, since, seen, c0, h1, h2, h3, h4, h5, h6⟩, h7, h8⟩ := h
  exact ⟨D, left, ⟨es, clock, since, seen, c0, hb.trans h1, h2, h3, h4, hr.trans h5, h6⟩, h7, h8⟩
theorem RangeAt.cnt_le (h : RangeAt P k w b r n M L cnt) : cnt ≤ n := by
  obtain ⟨D, left, ⟨es, clock, since, seen, c0, h1, h2, h3, h4, h5, h6, h9, h10⟩, h7, h8⟩ := h
  rw [← h9]
  refine Nat.le_trans ?_ h3
  unfold leftOf
  exact Array.size_filter_le
end
def heldS (s : Sf) : List Int := (if s.ca.attach && decide (0 < s.ca.buffer) then [s.ca.buffer] else []) ++ (if 0 < s.cu.buffer then [s.cu.buffer] else [])
def heldC (M : Fo) (k : Nat) : List Int := (List.range k).flatMap fun (i : Nat) => match M ((i : Int) + 1) with | none => [] | some s => heldS s
theorem heldC_ok {M : Fo} {k : Nat} (hd : ∀ x : Int, M x ≠ none → 1 ≤ x ∧ x ≤ (k : Int)) (hp : (heldC M k).Pairwise (· < ·)) : HeldL M (heldC M k) := by
  refine ⟨hp, fun x => ?_⟩
  have hS : ∀ s : Sf, x ∈ heldS s ↔ 0 < x ∧ HeldBy s x := fun s => by
    unfold heldS HeldBy
    rw [List.mem_append]
    constructor
    · rintro (h | h)
      · split at h
        · rename_i hc
          simp only [Bool.and_eq_true, decide_eq_true_eq] at hc
          obtain rfl : x = s.ca.buffer := by simpa using h
          exact ⟨hc.2, .inl ⟨hc.1, rfl⟩⟩
        · cases h
      · split at h
        · rename_i hc
          obtain rfl : x = s.cu.buffer := by simpa using h
          exact ⟨hc, .inr rfl⟩
        · cases h
    · rintro ⟨h0, ⟨h1, h2⟩ | h1⟩
      · left; rw [if_pos (by simp [h1, h2, h0])]; simp [h2]
      · right; rw [if_pos (by omega)]; simp [h1]
  unfold heldC
  rw [List.mem_flatMap]
  constructor
  · rintro ⟨i, hi, hx⟩
    cases e : M ((i : Int) + 1) with
    | none => rw [e] at hx; cases hx
    | some s => rw [e] at hx; exact ⟨((hS s).1 hx).1, _, s, e, ((hS s).1 hx).2⟩
  · rintro ⟨h0, id, s, e, hb⟩
    have hid := hd id (by rw [e]; simp)
    refine ⟨(id - 1).toNat, by simp; omega, ?_⟩
    rw [show (((id - 1).toNat : Nat) : Int) + 1 = id by omega, e]
    exact (hS s).2 ⟨h0, hb⟩
end

theorem fHeld1_any (x : Int) (w : World) : Calls Tryz.prog 58 #[.int .i64 x] w fun e w' => e = .returned (.bool (decide (x ≤ 0))) ∧ w = w' := by
  go_enter Tryz.func58, Tryz.ntmps58
  go_wp2
  go_ret
  exact ⟨rfl, rfl⟩
theorem grown_putRow (enc : Int → Value) {w : World} {g off n : Nat} {os : Array Obj} (d : Array Int) : w.grownBy (grow (putRow enc (Sort.ahead w n) g off d) os) (some g) := by
  refine ⟨rfl, rfl, rfl, by simp, fun k hk hne => ?_⟩
  rw [heap_grow_old _ _ (by simpa using hk)]
  have : g ≠ k := fun e => hne (by rw [e])
  simp [putRow, mapBlock, Sort.ahead, Array.getElem?_modify, this]
theorem holds_prefix {enc : Int → Value} {w : World} {b off : Nat} {l m : List Int} (h : Holds enc w b off (l ++ m).toArray) : Holds enc w b off l.toArray := fun j hj => by
  have hj' : j < l.length := by simpa using hj
  have := h j (by simp; omega)
  rw [getElem!_pos _ j (by simp; omega)] at this
  rw [getElem!_pos _ j (by simpa using hj)]
  simpa [List.getElem_append_left hj'] using this
theorem holds_rd {w : World} {b cap : Nat} {l : List Int} (h : Holds (Value.int .i64) w b 0 l.toArray) (hb : b < w.heap.size) (hc : l.length ≤ cap) : Rd w (.slice (some ⟨b, 0, none⟩) l.length cap) 1 l.length (l.map (Value.int .i64)) := by
  refine ⟨by simp, _, cap, rfl, hc, fun hn0 => ⟨b, 0, rfl, hb, fun j u hu => ?_⟩⟩
  have hj : j < l.length := by
    have := (List.getElem?_eq_some_iff.1 hu).1
    simpa using this
  have e2 : u = .int .i64 l[j] := by simpa [hj] using hu.symm
  have := (h j (by simpa using hj)).1
  rw [this, e2, getElem!_pos _ j (by simpa using hj)]
  simp
theorem holds_own {w : World} {base n c : Nat} {g : Nat} {l : List Int} (h : w.ownsRow base 3 1 (.slice (some ⟨g, 0, none⟩) n c) n (l.map (Value.int .i64))) : Holds (Value.int .i64) w g 0 l.toArray := fun j hj => by
  have hj' : j < l.length := by simpa using hj
  have := h.cells (g := g) rfl j (.int .i64 l[j]) (by simp [hj'])
  rw [addr_add] at this
  obtain ⟨cur, hb⟩ := own_typeF h (g := g) rfl
  refine ⟨?_, by simp [World.frozen?, hb]⟩
  rw [this, getElem!_pos _ j hj]
  simp
theorem Tryz.zeroIntH (w : World) : (zeroValue 3).run Tryz.prog w = .ok (.int .i64 0) w := by kernel_rfl
theorem Tryz.infoIntH : (Tryz.prog.info? 3).map (fun i => (i.zero, i.size, i.bytes)) = some (some (.int .i64 0), 1, 8) := by kernel_rfl

def heldOf (ls : List Int) : List Int := (compact (ls.mergeSort fun x y => decide (x ≤ y))).filter fun x => !decide (x ≤ 0)
theorem heldOf_ok {M : Fo} {ls : List Int} (h : ∀ x, x ∈ ls ↔ ∃ id s, M id = some s ∧ HeldBy s x) : HeldL M (heldOf ls) := by
  obtain ⟨h1, h2⟩ := compact_sort ls
  refine ⟨h1.filter _, fun x => ?_⟩
  unfold heldOf
  rw [List.mem_filter, h2 x, h x]
  simp only [Bool.not_eq_true', decide_eq_false_iff_not, Int.not_le]
  exact And.comm
section
variable {p mb n : Nat} {F : Nat → Prop} {Z : Int → Option SfV} {M : Fo}
set_option maxRecDepth 100000 in
theorem delNone_any (A : Option Addr) (c : Nat) (w : World) : Calls Tryz.prog 56 #[.slice A 0 c, .func (.func 58) #[] #[]] w fun e w' => e = .returned (.slice A 0 c) ∧ w = w' := by
  have cI : Calls Tryz.prog 116 #[.slice A 0 c, .func (.func 58) #[] #[]] w fun e w' => e = .returned (.int .i64 (-1)) ∧ w = w' := by
    go_enter Tryz.func116, Tryz.ntmps116
    go_wp2
    go_loop [5, 8] (fun _ i => i = .int .i64 0) (fun _ _ => 0)
    case atStart => rfl
    case round =>
      subst hrel
      go_wp2
      go_ret
      exact ⟨rfl, rfl⟩
  go_enter Tryz.func56, Tryz.ntmps56
  go_wp2_with fail
  refine cI.mono ?_
  rintro e w' ⟨rfl, rfl⟩
  go_wp2
  go_ret
  exact ⟨rfl, rfl⟩

theorem held_next {L : Int → Bool} {x : Int} {s : Sf} {ls : List Int} (hs : M x = some s) (hL : L x = true) (h : ∀ y, y ∈ ls ↔ ∃ id t, M id = some t ∧ L id = false ∧ HeldBy t y) :
    ∀ y, y ∈ ls ++ (if s.ca.attach then [s.ca.buffer] else []) ++ [s.cu.buffer] ↔ ∃ id t, M id = some t ∧ (L id && id != x) = false ∧ HeldBy t y := fun y => by
  rw [List.mem_append, List.mem_append, h y]
  constructor
  · rintro ((⟨id, t, h1, h2, h3⟩ | h1) | h1)
    · exact ⟨id, t, h1, by rw [h2]; rfl, h3⟩
    · refine ⟨x, s, hs, by simp, .inl ?_⟩
      split at h1
      · rename_i ha
        exact ⟨ha, (by simpa using h1 : y = s.ca.buffer).symm⟩
      · cases h1
    · exact ⟨x, s, hs, by simp, .inr (by simpa using h1 : y = s.cu.buffer).symm⟩
  · rintro ⟨id, t, h1, h2, h3⟩
    by_cases e : id = x
    · subst e
      rw [hs] at h1
      cases h1
      rcases h3 with ⟨ha, hb⟩ | hb
      · left; right; rw [if_pos ha]; simp [hb]
      · right; simp [hb]
    · left; left
      have e' : (id != x) = true := by simpa using e
      rw [e', Bool.and_true] at h2
      exact ⟨id, t, h1, h2, h3⟩
theorem grown_keeps {W w1 w2 : World} {nn : Nat} {v : Value} {cs : List Value} {o : Obj} (hB : Below W.heap.size W w1) (ho : w1.ownsRow (W.heap.size + 1) 3 1 v nn cs) (hg : (w1.alloc o).grownBy w2 v.ownBlock) :
    Below W.heap.size W w2 ∧ ∀ b, b ≤ W.heap.size → b < w1.heap.size → w2.heap[b]? = w1.heap[b]? := by
  have hz := hB.size
  refine ⟨(hB.alloc hz o).grown hg (by simp; omega) (fun q hq => by have := (ho.lt q hq).1; omega), fun b h1 h2 => ?_⟩
  exact (hg.block b (by simp; omega) (fun e => by have := (ho.lt b e.symm).1; omega)).trans (Below.heap_alloc w1 o b h2)

set_option maxRecDepth 100000 in
set_option maxHeartbeats 4000000 in
theorem fHeld_any (w : World) (h : ForZ w p mb F n Z M) (hn : n ≤ 100000) :
    Calls Tryz.prog 12 #[.pointer (some ⟨p, 0, none⟩)] w fun e w' => ∃ A c q, e = .returned (.slice A q.length c) ∧ HeldL M q ∧ q.length ≤ 2 * n ∧ Rd w' (.slice A q.length c) 1 q.length (q.map (Value.int .i64)) ∧ Below w.heap.size w w' ∧ ∀ b, (Value.slice A q.length c).ownBlock = some b → w.heap.size ≤ b := by
  obtain ⟨i0, hi, hz0, hz1, hz2⟩ := info_parts Tryz.infoIntH
  have hc := h.cellP
  have hmbl := h.map.lt
  replace h := hide h
  go_enter Tryz.func12, Tryz.ntmps12
  go_wp2_with (at_range; refine wpList_rangeM rfl _ _ rfl 3 95 Tryz.underlying3 Tryz.underlying77 mb n (fun id => (Z id).map SfV.ptr) rfl h.out.map ?_; intro w1 cnt hR hg hs)
  have hB1 := hide (((Below.refl w.heap.size w).grown hg (Nat.le_refl _) (fun b hb => by cases hb)))
  have hcn := hR.cnt_le
  replace hR := hide hR
  replace hs := hide hs
  clear hg
  go_frame
  go_loopw [3] (fun l wr => ∃ (L : Int → Bool) (cnt : Nat) (ls : List Int), Hid (RangeAt Tryz.prog 3 wr mb w.heap.size n (fun id => (Z id).map SfV.ptr) L cnt) ∧ Hid (Below w.heap.size w wr) ∧ Hid (wr.ownsRow (w.heap.size + 1) 3 1 l ls.length (ls.map (Value.int .i64))) ∧
      Hid (∀ y, y ∈ ls ↔ ∃ id t, M id = some t ∧ L id = false ∧ HeldBy t y) ∧ ls.length + 2 * cnt ≤ 2 * n ∧ w.heap.size + 1 ≤ wr.heap.size) (fun _ wr => wr.rangeLeft mb w.heap.size)
  case atStart =>
    refine ⟨_, _, [], hR, hB1, hide (World.ownsRow_nil _ _ _ _), hide fun y => ⟨fun hy => (by cases hy), fun ⟨id, t, h1, h2, _⟩ => ?_⟩, (by simp; omega), by have := hs.out; omega⟩
    have := h.out.dom id
    rw [h1] at this
    have h3 : ((Z id).map SfV.ptr).isSome = true := by simpa using this
    rw [h3] at h2; cases h2
  clear hR hB1 hcn hs
  case round =>
    obtain ⟨L, cnt, ls, hR, hB, hO, hM, hcn, hsz⟩ := hrel
    obtain ⟨wC, hC⟩ : ∃ wC, wC = wr := ⟨_, rfl⟩
    subst hC
    obtain ⟨A1, c1, rfl, hc1⟩ := own_form hO.out
    go_wp2_with (at_next; refine wpList_nextM rfl _ rfl 3 Tryz.underlying3 mb w.heap.size n (fun id => (Z id).map SfV.ptr) L cnt rfl hR.out ?_ ?_)
    · intro hDone
      have hall : ∀ y, y ∈ ls ↔ ∃ id t, M id = some t ∧ HeldBy t y := fun y => (hM.out y).trans ⟨fun ⟨id, t, h1, h2, h3⟩ => ⟨id, t, h1, h3⟩, fun ⟨id, t, h1, h3⟩ => ⟨id, t, h1, hDone id (by
        obtain ⟨z, hz, hs⟩ := h.out.find h1
        exact hs.id64), h3⟩⟩
      have hok := hide (heldOf_ok hall)
      have hlen : ls.length ≤ 2 * n := by omega
      rcases hO.out.2 with ⟨hv, hz⟩ | ⟨gb, cap, cur, hv, hbase, hgb, r1, r2, r3, r4⟩
      · simp only [Value.slice.injEq] at hv
        obtain ⟨rfl, hl0, rfl⟩ := hv
        have hln : ls = [] := List.eq_nil_of_length_eq_zero hz
        subst hln
        have e0 : heldOf [] = [] := by
          have hc := (compact_sort []).2
          have : compact (([] : List Int).mergeSort fun x y => decide (x ≤ y)) = [] := List.eq_nil_iff_forall_not_mem.2 fun x hx => by have := (hc x).1 hx; cases this
          unfold heldOf; rw [this]; rfl
        rw [e0] at hok
        have cS : Calls Tryz.prog 55 #[.slice none 0 0] wC fun e w' => e = .returned (.tuple #[]) ∧ w' = wC := Tryz.slices_Sort_int_none none 0 wC
        have cC : Calls Tryz.prog 57 #[.slice none 0 0] wC fun e w' => e = .returned (.slice none 0 0) ∧ w' = wC := Tryz.slices_Compact_int_empty none 0 wC
        have cD := delNone_any none 0 wC
        replace cS := hide cS
        replace cC := hide cC
        replace cD := hide cD
        clear hDone hR hM hall hO hlen hc1 hcn hz hl0
        simp only [List.length_nil]
        go_wp2_with fail
        refine cS.out.mono ?_
        rintro e w' ⟨rfl, rfl⟩
        go_wp2_with fail
        refine cC.out.mono ?_
        rintro e w' ⟨rfl, rfl⟩
        go_wp2_with fail
        refine cD.out.mono ?_
        rintro e w' ⟨rfl, rfl⟩
        go_wp2
        go_ret
        exact ⟨none, 0, [], rfl, hok.out, by simp, Rd.nil _ _, hB.out, fun b hb => by cases hb⟩
      · simp only [Value.slice.injEq] at hv
        obtain ⟨rfl, _, rfl⟩ := hv
        have hbs : Hid (w.heap.size ≤ gb) := hide (by have := (hO.out.lt gb rfl).1; omega)
        have hH := holds_own hO.out
        have hgl : gb < wC.heap.size := lt_of_block hgb
        have hlc : ls.length ≤ c1 := hc1
        have cS : Calls Tryz.prog 55 #[.slice (some ⟨gb, 0, none⟩) ls.length c1] wC fun e w' => e = .returned (.tuple #[]) ∧ ∃ n os, w' = grow (putRow (Value.int .i64) (Sort.ahead wC n) gb 0 (ls.mergeSort fun x y => decide (x ≤ y)).toArray) os := Tryz.slices_Sort_int gb 0 c1 ls wC hH hgl (by omega)
        replace cS := hide cS
        replace hH := hide hH
        clear hDone hR hM hall hc1 hcn hgb r1 r2 r3 r4 hO
        go_wp2_with fail
        refine cS.out.mono ?_
        rintro e w1 ⟨rfl, n1, os1, hw1⟩
        obtain ⟨ss, hss⟩ : ∃ ss, ss = ls.mergeSort fun x y => decide (x ≤ y) := ⟨_, rfl⟩
        have hsl : ss.length = ls.length := by rw [hss]; exact List.length_mergeSort ls
        rw [← hss] at hw1
        have hH1 : Holds (Value.int .i64) w1 gb 0 ss.toArray := by
          rw [hw1]
          exact holds_grow _ _ os1 gb 0 _ (by simpa using hgl) (holds_putRow _ _ gb 0 ls.toArray ss.toArray (holds_ahead _ wC n1 gb 0 _ hH.out) (by simp [hsl]))
        have hg1 : wC.grownBy w1 (some gb) := by rw [hw1]; exact grown_putRow _ _
        have hB2 := hide (hB.out.grown hg1 hB.out.size (fun b hb => by cases hb; omega))
        have hgl1 : gb < w1.heap.size := Nat.lt_of_lt_of_le hgl hg1.size
        have cC : Calls Tryz.prog 57 #[.slice (some ⟨gb, 0, none⟩) ss.length c1] w1 fun e w' => e = .returned (.slice (some ⟨gb, 0, none⟩) (compact ss).length c1) ∧ ∃ q, w' = putRow (Value.int .i64) (Sort.ahead w1 q) gb 0 (compact ss ++ List.replicate (ss.length - (compact ss).length) 0).toArray := Tryz.slices_Compact_int gb 0 c1 ss w1 hH1 (by omega) (by omega)
        have hcl := compact_length_le ss
        rw [hsl] at cC
        replace cC := hide cC
        have hH1h := hide hH1
        replace hsl := hide hsl
        replace hss := hide hss
        clear hw1 hg1 hB cS hH1
        go_wp2_with fail
        refine cC.out.mono ?_
        rintro e w2 ⟨rfl, n2, hw2⟩
        obtain ⟨cs, hcs⟩ : ∃ cs, cs = compact ss := ⟨_, rfl⟩
        rw [← hcs] at hw2 hcl ⊢
        have hlp : (cs ++ List.replicate (ls.length - cs.length) (0 : Int)).toArray.size = ss.toArray.size := by simp; have := hsl.out; omega
        have hH2 : Holds (Value.int .i64) w2 gb 0 cs.toArray := by
          refine holds_prefix (m := List.replicate (ls.length - cs.length) 0) ?_
          rw [hw2]
          exact holds_putRow _ _ gb 0 ss.toArray _ (holds_ahead _ w1 n2 gb 0 _ hH1h.out) hlp
        have hg2 : w1.grownBy w2 (some gb) := by
          have := grown_putRow (Value.int .i64) (w := w1) (g := gb) (off := 0) (n := n2) (os := #[]) (cs ++ List.replicate (ls.length - cs.length) (0 : Int)).toArray
          rw [grow_empty] at this
          rw [hw2]; exact this
        have hB3 := hide (hB2.out.grown hg2 hB2.out.size (fun b hb => by cases hb; omega))
        have hgl2 : gb < w2.heap.size := Nat.lt_of_lt_of_le hgl1 hg2.size
        have hcl2 : cs.length ≤ ls.length := by have := hsl.out; omega
        have hp : PredAt Tryz.prog 58 #[] (Value.int .i64) (fun x => decide (x ≤ 0)) w2 := fun W x hb => (fHeld1_any x W).mono fun e w' h => ⟨h.1, 0, by rw [← h.2]; rfl⟩
        have hpo : PredOver Tryz.prog 58 #[] (Value.int .i64) (fun x => decide (x ≤ 0)) gb 0 cs.toArray.size w2 := fun m os dk x _ => (fHeld1_any x _).mono fun e w' h => ⟨h.1, 0, by rw [← h.2]; rfl⟩
        have cD : Calls Tryz.prog 56 #[.slice (some ⟨gb, 0, none⟩) cs.toArray.size c1, .func (.func 58) #[] #[]] w2 _ := Tryz.slices_DeleteFunc (Value.int .i64) (fun _ => rfl) (fun x => decide (x ≤ 0)) 58 #[] (enters_of Tryz.func58 (by kernel_rfl) rfl) 0 Tryz.zeroIntH gb 0 c1 cs.toArray w2 hp hpo hH2 (by simp; omega) (by simp; omega)
        rw [show cs.toArray.size = cs.length by simp] at cD
        replace cD := hide cD
        replace hcs := hide hcs
        have hH2h := hide hH2
        clear hw2 hlp hg2 hp hpo hB2 cC hcl hH2
        go_wp2_with fail
        refine cD.out.mono ?_
        rintro e w3 ⟨rfl, n3, hw3⟩
        have hq : (cs.toArray.toList.filter fun x => !decide (x ≤ 0)) = heldOf ls := by
          unfold heldOf; rw [hcs.out, hss.out]
        rw [hq] at hw3 ⊢
        have hql : (heldOf ls).length ≤ cs.length := by rw [← hq]; simpa using List.length_filter_le _ cs
        obtain ⟨qq, hqq⟩ : ∃ qq, qq = heldOf ls := ⟨_, rfl⟩
        rw [← hqq] at hw3 hql hok ⊢
        have hg3 : w2.grownBy w3 (some gb) := by
          have := grown_putRow (Value.int .i64) (w := w2) (g := gb) (off := 0) (n := n3) (os := #[]) (qq ++ List.replicate (cs.length - qq.length) (0 : Int)).toArray
          rw [grow_empty] at this
          rw [hw3]; exact this
        have hH3 : Holds (Value.int .i64) w3 gb 0 qq.toArray := by
          refine holds_prefix (m := List.replicate (cs.length - qq.length) 0) ?_
          rw [hw3]
          exact holds_putRow _ _ gb 0 cs.toArray _ (holds_ahead _ w2 n3 gb 0 _ hH2h.out) (by simp; omega)
        have hB4 := hide (hB3.out.grown hg3 hB3.out.size (fun b hb => by cases hb; omega))
        have hrd := hide (holds_rd hH3 (Nat.lt_of_lt_of_le hgl2 hg3.size) (cap := c1) (by omega))
        clear hw3 hq hqq hg3 hH3 cD
        go_wp2
        go_ret
        exact ⟨_, _, qq, rfl, hok.out, by omega, hrd.out, hB4.out, fun b hb => by cases hb; exact hbs.out⟩
    · intro x v w5 cnt5 hx hLx z hz hv hR5 hlt5 hg5 hs5 hen5
      subst hv
      have hen6 : (Instr.entry (.pointer (some ⟨w.heap.size, 0, none⟩))).run Tryz.prog w5 = .ok (.tuple #[.int .i64 x, .pointer (some ⟨z.a, 0, none⟩)]) w5 := hen5
      clear hen5
      obtain ⟨s, hs⟩ : ∃ s, M x = some s := by
        have := h.out.dom x
        rw [hz] at this
        cases e : M x with
        | none => rw [e] at this; cases this
        | some s => exact ⟨s, rfl⟩
      have hB5 := hB.out.grown hg5 hB.out.size (fun b hb => by cases hb; exact Nat.le_refl _)
      have hsf := (h.out.below hB5).surf x z s hz hs
      have k13 : w5.cell? ⟨z.a, 13, none⟩ = some (.bool s.ca.attach) := hsf.cell 13
      have k14 : w5.cell? ⟨z.a, 14, none⟩ = some (.int .i64 s.ca.buffer) := hsf.cell 14
      have k24 : w5.cell? ⟨z.a, 24, none⟩ = some (.int .i64 s.cu.buffer) := hsf.cell 24
      have hzl : z.a < w.heap.size := (h.out.surf x z s hz hs).lt z.a (.inl rfl)
      have hO5 : w5.ownsRow (w.heap.size + 1) 3 1 (.slice A1 ls.length c1) ls.length (ls.map (Value.int .i64)) := own_keepF hO.out fun b hb => hg5.block b (hO.out.lt b hb).2 (fun e => by cases e; have := (hO.out.lt _ hb).1; omega)
      have hnx := hide (held_next hs hLx hM.out)
      have hrl0 : wC.rangeLeft mb w.heap.size = cnt := hR.out.left_eq
      have hst5 := hide (⟨hB5, hR5, hs5⟩ : _ ∧ _ ∧ _)
      replace hO5 := hide hO5
      replace hlt5 := hide hlt5
      replace hrl0 := hide hrl0
      have hlsl : ls.length ≤ 200000 := by omega
      have hcn5 : ls.length + 2 + 2 * cnt5 ≤ 2 * n := by have := hlt5.out; omega
      obtain ⟨at', hat'⟩ : ∃ at', at' = s.ca.attach := ⟨_, rfl⟩
      obtain ⟨b1, hb1⟩ : ∃ b1, b1 = s.ca.buffer := ⟨_, rfl⟩
      obtain ⟨b2, hb2⟩ : ∃ b2, b2 = s.cu.buffer := ⟨_, rfl⟩
      rw [← hat'] at k13 hnx
      rw [← hb1] at k14 hnx
      rw [← hb2] at k24 hnx
      clear hR hB hO hM hs hz hLx hx hsf hat' hb1 hb2 hR5 hB5 hg5 hcn
      have hsz5 : w.heap.size + 1 ≤ w5.heap.size := by have := hst5.out.2.2; omega
      unfold SfV.ptr
      cases at' with
      | false =>
        go_wp2_with (at_builtin; refine wpList_append_lies _ rfl _ _ 38 rfl (w.heap.size + 1) 3 i0 (.int .i64 0) 1 8 Tryz.underlying38 hi hz0 hz1 hz2 rfl (by decide) _ _ _ (by simp [Act.eval]) (hO5.out.alloc _) ⟨w5.heap.size, 0, none⟩ 1 1 [.int .i64 b2] (by simp [Act.eval]) rfl (cell_one_new _ _ _) (by intro u hu; simp at hu; subst hu; rfl) (by omega) (by unfold maxLen; omega) (by omega) (by simp; omega) _ rfl ?_; intro g cap w6 own6 hg6 hat6 _)
        obtain ⟨hB6, hk6⟩ := grown_keeps hst5.out.1 hO5.out hg6
        have hR6 : Hid (RangeAt Tryz.prog 3 w6 mb w.heap.size n (fun id => (Z id).map SfV.ptr) (fun z => L z && z != x) cnt5) := hide (hst5.out.2.1.blocks (hk6 mb (by omega) (by omega)) (hk6 _ (Nat.le_refl _) (by omega)))
        have hM6 : Hid (∀ y, y ∈ ls ++ [b2] ↔ ∃ id t, M id = some t ∧ (L id && id != x) = false ∧ HeldBy t y) := hide (by simpa using hnx.out)
        have hO6 : Hid (w6.ownsRow (w.heap.size + 1) 3 1 (.slice (some ⟨g, 0, none⟩) (ls.length + 1) cap) (ls ++ [b2]).length ((ls ++ [b2]).map (Value.int .i64))) := hide (by simpa using own6)
        have hsz6 : w.heap.size + 1 ≤ w6.heap.size := by have := hg6.size; simp at this; omega
        replace hB6 := hide hB6
        have hrl : w6.rangeLeft mb w.heap.size = cnt5 := hR6.out.left_eq
        replace hrl := hide hrl
        clear own6 hg6 hat6 hk6 hnx hst5 hO5
        go_wp2
        go_roundw
        case rel => exact ⟨_, cnt5, ls ++ [b2], hR6, hB6, hO6, hM6, by simp; omega, hsz6⟩
        case measure => rw [hrl.out, hrl0.out]; exact hlt5.out
      | true =>
        go_upto_region 7 with (at_builtin; refine wpList_append_lies _ rfl _ _ 38 rfl (w.heap.size + 1) 3 i0 (.int .i64 0) 1 8 Tryz.underlying38 hi hz0 hz1 hz2 rfl (by decide) _ _ _ (by simp [Act.eval]) (hO5.out.alloc _) ⟨w5.heap.size, 0, none⟩ 1 1 [.int .i64 b1] (by simp [Act.eval]) rfl (cell_one_new _ _ _) (by intro u hu; simp at hu; subst hu; rfl) (by omega) (by unfold maxLen; omega) (by omega) (by simp; omega) _ rfl ?_; intro g cap w6 own6 hg6 hat6 _)
        obtain ⟨hB6, hk6⟩ := grown_keeps hst5.out.1 hO5.out hg6
        have hR6 : Hid (RangeAt Tryz.prog 3 w6 mb w.heap.size n (fun id => (Z id).map SfV.ptr) (fun z => L z && z != x) cnt5) := hide (hst5.out.2.1.blocks (hk6 mb (by omega) (by omega)) (hk6 _ (Nat.le_refl _) (by omega)))
        have hO6 : Hid (w6.ownsRow (w.heap.size + 1) 3 1 (.slice (some ⟨g, 0, none⟩) (ls.length + 1) cap) (ls.length + 1) ((ls ++ [b1]).map (Value.int .i64))) := hide (by simpa using own6)
        have hsz6 : w.heap.size + 1 ≤ w6.heap.size := by have := hg6.size; simp at this; omega
        have hzb : w6.heap[z.a]? = w5.heap[z.a]? := hk6 z.a (by omega) (by omega)
        have k24' : w6.cell? ⟨z.a, 24, none⟩ = some (.int .i64 b2) := (World.cell?_of_block (a := ⟨z.a, 24, none⟩) hzb).trans k24
        replace hB6 := hide hB6
        clear own6 hg6 hat6 hk6 hst5 hO5 hzb k24 k13 k14
        go_wp2_with (at_builtin; refine wpList_append_lies _ rfl _ _ 38 rfl (w.heap.size + 1) 3 i0 (.int .i64 0) 1 8 Tryz.underlying38 hi hz0 hz1 hz2 rfl (by decide) _ _ _ (by simp [Act.eval]) (hO6.out.alloc _) ⟨w6.heap.size, 0, none⟩ 1 1 [.int .i64 b2] (by simp [Act.eval]) rfl (cell_one_new _ _ _) (by intro u hu; simp at hu; subst hu; rfl) (by omega) (by unfold maxLen; omega) (by omega) (by simp; omega) _ rfl ?_; intro g2 cap2 w7 own7 hg7 hat7 _)
        obtain ⟨hB7, hk7⟩ := grown_keeps hB6.out hO6.out hg7
        have hR7 : Hid (RangeAt Tryz.prog 3 w7 mb w.heap.size n (fun id => (Z id).map SfV.ptr) (fun z => L z && z != x) cnt5) := hide (hR6.out.blocks (hk7 mb (by omega) (by omega)) (hk7 _ (Nat.le_refl _) (by omega)))
        have hM7 : Hid (∀ y, y ∈ ls ++ [b1] ++ [b2] ↔ ∃ id t, M id = some t ∧ (L id && id != x) = false ∧ HeldBy t y) := hide (by simpa using hnx.out)
        have hO7 : Hid (w7.ownsRow (w.heap.size + 1) 3 1 (.slice (some ⟨g2, 0, none⟩) (ls.length + 1 + 1) cap2) (ls ++ [b1] ++ [b2]).length ((ls ++ [b1] ++ [b2]).map (Value.int .i64))) := hide (by simpa using own7)
        have hsz7 : w.heap.size + 1 ≤ w7.heap.size := by have := hg7.size; simp at this; omega
        replace hB7 := hide hB7
        have hrl : w7.rangeLeft mb w.heap.size = cnt5 := hR7.out.left_eq
        replace hrl := hide hrl
        clear own7 hg7 hat7 hk7 hnx hO6 hR6 hB6
        go_wp2
        go_roundw
        case rel => exact ⟨_, cnt5, ls ++ [b1] ++ [b2], hR7, hB7, hO7, hM7, by simp; omega, hsz7⟩
        case measure => rw [hrl.out, hrl0.out]; exact hlt5.out
end
end Go.Proofs.YthkjicnnepkghaaGreatDoor
