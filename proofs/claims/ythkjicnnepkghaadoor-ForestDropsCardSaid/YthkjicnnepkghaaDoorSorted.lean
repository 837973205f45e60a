/-
  slices.Sorted over maps.Keys of a map keyed by int: its keys, rising.
-/
import Derived.Test.YthkjicnnepkghaaDoorIMap
import Derived.Test.YthkjicnnepkghaaDoorIter
namespace Go.Proofs.YthkjicnnepkghaaDoor
open Go.RowKit Go.Maps Go.Sort Go.Shelf

/-- The keys of M, rising. -/
def KeysOf (M : Int → Option Value) (l : List Int) : Prop := l.Pairwise (· < ·) ∧ ∀ x, x ∈ l ↔ I64 x ∧ (M x).isSome = true

/-- Two rising lists with the same members are one. -/
theorem rising_one : ∀ {l l' : List Int}, l.Pairwise (· < ·) → l'.Pairwise (· < ·) → (∀ x, x ∈ l ↔ x ∈ l') → l = l'
  | [], [], _, _, _ => rfl
  | [], b :: s, _, _, h => by have := (h b).2 (by simp); simp at this
  | a :: r, [], _, _, h => by have := (h a).1 (by simp); simp at this
  | a :: r, b :: s, h1, h2, h => by
    obtain ⟨a1, a2⟩ := List.pairwise_cons.1 h1
    obtain ⟨b1, b2⟩ := List.pairwise_cons.1 h2
    have hab : a = b := by
      rcases List.mem_cons.1 ((h a).1 (by simp)) with e | ha
      · exact e
      · rcases List.mem_cons.1 ((h b).2 (by simp)) with e | hb
        · exact e.symm
        · have := b1 a ha; have := a1 b hb; omega
    subst hab
    rw [rising_one a2 b2 fun p => ⟨fun hp => by
      rcases List.mem_cons.1 ((h p).1 (by simp [hp])) with e | hp'
      · have := a1 p hp; omega
      · exact hp', fun hp => by
      rcases List.mem_cons.1 ((h p).2 (by simp [hp])) with e | hp'
      · have := b1 p hp; omega
      · exact hp'⟩]

theorem KeysOf.unique {M : Int → Option Value} {l l' : List Int} (h : KeysOf M l) (h' : KeysOf M l') : l = l' :=
  rising_one h.1 h'.1 fun x => (h.2 x).trans (h'.2 x).symm

/-- What a map holds, and its keys as they stand in the datum. -/
theorem MapAt.keys {P : Program} {k : TypeId} {w : World} {b n : Nat} {M : Int → Option Value} (h : MapAt P k w b n M) (hk : P.underlying k = some (.int .i64)) :
    ∃ D : DataW Value, w.ownsMap P k heldR b n D ∧ Maps.size D ≤ n ∧ (intKeys D).Nodup ∧ ∀ x, x ∈ intKeys D ↔ I64 x ∧ (M x).isSome = true := by
  obtain ⟨D, h1, h2⟩ := h
  refine ⟨D, h1, h1.size_le, ?_⟩
  have hwf := intKeys_wf h1 hk
  obtain ⟨es, hD, hpw, _⟩ := h1.entries (int_keyed hk)
  obtain ⟨es', hD', hko⟩ := h1.keysOf
  obtain rfl : es = es' := by rw [hD] at hD'; simpa using hD'
  subst hD
  have hki : ∀ p ∈ es, ∃ x, p.1 = .int .i64 x := fun p hp => by
    obtain ⟨v, hv⟩ := hko p hp
    obtain ⟨x, _, hx, _⟩ := Maps.keyOf_i64 hk hv
    exact ⟨x, hx⟩
  constructor
  · show (es.map fun p => _root_.Go.intOf p.1).Nodup
    refine List.pairwise_map.2 (hpw.imp_of_mem fun {p q} hp' hq' hne e => hne ?_)
    obtain ⟨a, ha⟩ := hki p hp'
    obtain ⟨b, hb⟩ := hki q hq'
    rw [ha, hb] at e ⊢
    exact congrArg _ e
  · intro x
    have hm : x ∈ intKeys (.map es) ↔ Maps.has (.map es) (.int .i64 x) = true := by
      show x ∈ (es.map fun p => _root_.Go.intOf p.1) ↔ _
      rw [Maps.has_eq, List.any_eq_true, List.mem_map]
      constructor
      · rintro ⟨p, hp', rfl⟩
        obtain ⟨a, ha⟩ := hki p hp'
        exact ⟨p, hp', by rw [ha]; simp [Lit.sameKey, _root_.Go.intOf]⟩
      · rintro ⟨p, hp', hs⟩
        obtain ⟨a, ha⟩ := hki p hp'
        rw [ha] at hs
        exact ⟨p, hp', by rw [ha]; simpa [Lit.sameKey, _root_.Go.intOf] using hs⟩
    constructor
    · intro hx
      have hi := i64_of_wf (hwf x hx)
      exact ⟨hi, by rw [← (h2 x hi).1]; exact hm.1 hx⟩
    · rintro ⟨hi, hs⟩
      exact hm.2 (by rw [(h2 x hi).1]; exact hs)

theorem keysOf_sort {M : Int → Option Value} {ks ss : List Int} (hn : ks.Nodup) (hm : ∀ x, x ∈ ks ↔ I64 x ∧ (M x).isSome = true) (hp : ss.Perm ks) : KeysOf M (ss.mergeSort fun x y => decide (x ≤ y)) := by
  have tr : ∀ a b c : Int, decide (a ≤ b) = true → decide (b ≤ c) = true → decide (a ≤ c) = true := fun a b c h1 h2 => by simp only [decide_eq_true_eq] at *; omega
  have to : ∀ a b : Int, (decide (a ≤ b) || decide (b ≤ a)) = true := fun a b => by simp only [Bool.or_eq_true, decide_eq_true_eq]; omega
  have hs := List.pairwise_mergeSort tr to ss
  have hq := (List.mergeSort_perm ss fun x y => decide (x ≤ y)).trans hp
  have hnd : (ss.mergeSort fun x y => decide (x ≤ y)).Nodup := hq.nodup_iff.2 hn
  refine ⟨?_, fun x => (hq.mem_iff).trans (hm x)⟩
  refine (hs.and hnd).imp fun {a b} ⟨h1, h2⟩ => ?_
  simp only [decide_eq_true_eq] at h1
  have : a ≠ b := h2
  omega

theorem Tryd.sorts (m : Nat) : AnyZI.SortsIn Tryd.prog Tryd.sortedR_ren Fence.wide m :=
  ⟨fun blk off cap ss W hH hblk hsz => callsIn_wide.2 (AnyM.slices_Sort_int Tryd.sortR blk off cap ss W hH hblk hsz),
   fun p cap W => callsIn_wide.2 (AnyM.slices_Sort_int_none Tryd.sortR p cap W)⟩

/-- slices.Sorted(maps.Keys(m)), both calls. -/
def SortedKeys (keysF keysFn sortedF : Nat) (mapT intT : TypeId) (P : Program) : Prop :=
  ∀ (W : World) (b n : Nat) (M : Int → Option Value), MapAt P intT W b n M → n ≤ 1000000 →
    Calls P keysF #[.map (some b)] W (fun e w' => e = .returned (.func (.func keysFn) #[] #[.pointer (some ⟨W.heap.size, 0, none⟩)]) ∧ w' = W.alloc (.cells #[.map (some b)] mapT)) ∧
    Calls P sortedF #[.func (.func keysFn) #[] #[.pointer (some ⟨W.heap.size, 0, none⟩)]] (W.alloc (.cells #[.map (some b)] mapT)) (fun e w' => ∃ (v : Value) (l : List Int), e = .returned v ∧ KeysOf M l ∧ l.length ≤ n ∧
      w'.ownsRow W.heap.size intT 1 v l.length (l.map (Value.int .i64)) ∧ (v = .slice none 0 0 ↔ l = []) ∧ Below W.heap.size W w')


end Go.Proofs.YthkjicnnepkghaaDoor
