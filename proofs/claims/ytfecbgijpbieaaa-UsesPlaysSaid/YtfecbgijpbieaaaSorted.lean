/-
  slices.Sorted over maps.Keys of a map keyed by int: its keys, rising.
-/
import Derived.Test.YtfecbgijpbieaaaIMap
import Derived.Test.YtfecbgijpbieaaaIter
namespace Go.Proofs.Ytfecbgijpbieaaa
open Go.RowKit Go.Maps Go.Sort Go.Shelf

/-- The keys of M, rising. -/
def KeysOf (M : Int → Option Value) (l : List Int) : Prop := l.Pairwise (· < ·) ∧ ∀ x, x ∈ l ↔ I64 x ∧ (M x).isSome = true

/-- Two rising lists with the same members are one. -/
theorem rising_one : ∀ {l l' : List Int}, l.Pairwise (· < ·) → l'.Pairwise (· < ·) → (∀ x, x ∈ l ↔ x ∈ l') → l = l'
  | [], [], _, _, _ => rfl
  | [], b :: s, _, _, h => by have := (h b).2 (by simp); simp at this
  | a :: r, [], _, _, h => by have := (h a).1 (by simp); simp at this
  | a :: r, b :: s, h1, h2, h => by
    obtain ⟨a1, a2⟩ := List.pairwise_cons.1 h1
    obtain ⟨b1, b2⟩ := List.pairwise_cons.1 h2
    have hab : a = b := by
      rcases List.mem_cons.1 ((h a).1 (by simp)) with e | ha
      · exact e
      · rcases List.mem_cons.1 ((h b).2 (by simp)) with e | hb
        · exact e.symm
        · have := b1 a ha; have := a1 b hb; omega
    subst hab
    rw [rising_one a2 b2 fun p => ⟨fun hp => by
      rcases List.mem_cons.1 ((h p).1 (by simp [hp])) with e | hp'
      · have := a1 p hp; omega
      · exact hp', fun hp => by
      rcases List.mem_cons.1 ((h p).2 (by simp [hp])) with e | hp'
      · have := b1 p hp; omega
      · exact hp'⟩]

theorem KeysOf.unique {M : Int → Option Value} {l l' : List Int} (h : KeysOf M l) (h' : KeysOf M l') : l = l' :=
  rising_one h.1 h'.1 fun x => (h.2 x).trans (h'.2 x).symm

/-- What a map holds, and its keys as they stand in the datum. -/
theorem MapAt.keys {P : Program} {k : TypeId} {w : World} {b n : Nat} {M : Int → Option Value} (h : MapAt P k w b n M) (hk : P.underlying k = some (.int .i64)) :
    ∃ D : DataW Value, w.ownsMap P k heldR b n D ∧ Maps.size D ≤ n ∧ (intKeys D).Nodup ∧ ∀ x, x ∈ intKeys D ↔ I64 x ∧ (M x).isSome = true := by
  obtain ⟨D, h1, h2⟩ := h
  refine ⟨D, h1, h1.size_le, ?_⟩
  have hwf := intKeys_wf h1 hk
  obtain ⟨es, hD, hpw, _⟩ := h1.entries (int_keyed hk)
  obtain ⟨es', hD', hko⟩ := h1.keysOf
  obtain rfl : es = es' := by rw [hD] at hD'; simpa using hD'
  subst hD
  have hki : ∀ p ∈ es, ∃ x, p.1 = .int .i64 x := fun p hp => by
    obtain ⟨v, hv⟩ := hko p hp
    obtain ⟨x, _, hx, _⟩ := Maps.keyOf_i64 hk hv
    exact ⟨x, hx⟩
  constructor
  · show (es.map fun p => _root_.Go.intOf p.1).Nodup
    refine List.pairwise_map.2 (hpw.imp_of_mem fun {p q} hp' hq' hne e => hne ?_)
    obtain ⟨a, ha⟩ := hki p hp'
    obtain ⟨b, hb⟩ := hki q hq'
    rw [ha, hb] at e ⊢
    exact congrArg _ e
  · intro x
    have hm : x ∈ intKeys (.map es) ↔ Maps.has (.map es) (.int .i64 x) = true := by
      show x ∈ (es.map fun p => _root_.Go.intOf p.1) ↔ _
      rw [Maps.has_eq, List.any_eq_true, List.mem_map]
      constructor
      · rintro ⟨p, hp', rfl⟩
        obtain ⟨a, ha⟩ := hki p hp'
        exact ⟨p, hp', by rw [ha]; simp [Lit.sameKey, _root_.Go.intOf]⟩
      · rintro ⟨p, hp', hs⟩
        obtain ⟨a, ha⟩ := hki p hp'
        rw [ha] at hs
        exact ⟨p, hp', by rw [ha]; simpa [Lit.sameKey, _root_.Go.intOf] using hs⟩
    constructor
    · intro hx
      have hi := i64_of_wf (hwf x hx)
      exact ⟨hi, by rw [← (h2 x hi).1]; exact hm.1 hx⟩
    · rintro ⟨hi, hs⟩
      exact hm.2 (by rw [(h2 x hi).1]; exact hs)

theorem keysOf_sort {M : Int → Option Value} {ks ss : List Int} (hn : ks.Nodup) (hm : ∀ x, x ∈ ks ↔ I64 x ∧ (M x).isSome = true) (hp : ss.Perm ks) : KeysOf M (ss.mergeSort fun x y => decide (x ≤ y)) := by
  have tr : ∀ a b c : Int, decide (a ≤ b) = true → decide (b ≤ c) = true → decide (a ≤ c) = true := fun a b c h1 h2 => by simp only [decide_eq_true_eq] at *; omega
  have to : ∀ a b : Int, (decide (a ≤ b) || decide (b ≤ a)) = true := fun a b => by simp only [Bool.or_eq_true, decide_eq_true_eq]; omega
  have hs := List.pairwise_mergeSort tr to ss
  have hq := (List.mergeSort_perm ss fun x y => decide (x ≤ y)).trans hp
  have hnd : (ss.mergeSort fun x y => decide (x ≤ y)).Nodup := hq.nodup_iff.2 hn
  refine ⟨?_, fun x => (hq.mem_iff).trans (hm x)⟩
  refine (hs.and hnd).imp fun {a b} ⟨h1, h2⟩ => ?_
  simp only [decide_eq_true_eq] at h1
  have : a ≠ b := h2
  omega

theorem Try.sorts (m : Nat) : AnyZI.SortsIn Try.prog Try.sortedR_ren Fence.wide m :=
  ⟨fun blk off cap ss W hH hblk hsz => callsIn_wide.2 (AnyM.slices_Sort_int Try.sortR blk off cap ss W hH hblk hsz),
   fun p cap W => callsIn_wide.2 (AnyM.slices_Sort_int_none Try.sortR p cap W)⟩

/-- slices.Sorted(maps.Keys(m)), both calls. -/
def SortedKeys (keysF keysFn sortedF : Nat) (mapT intT : TypeId) (P : Program) : Prop :=
  ∀ (W : World) (b n : Nat) (M : Int → Option Value), MapAt P intT W b n M → n ≤ 1000000 →
    Calls P keysF #[.map (some b)] W (fun e w' => e = .returned (.func (.func keysFn) #[] #[.pointer (some ⟨W.heap.size, 0, none⟩)]) ∧ w' = W.alloc (.cells #[.map (some b)] mapT)) ∧
    Calls P sortedF #[.func (.func keysFn) #[] #[.pointer (some ⟨W.heap.size, 0, none⟩)]] (W.alloc (.cells #[.map (some b)] mapT)) (fun e w' => ∃ (v : Value) (l : List Int), e = .returned v ∧ KeysOf M l ∧ l.length ≤ n ∧
      w'.ownsRow W.heap.size intT 1 v l.length (l.map (Value.int .i64)) ∧ (v = .slice none 0 0 ↔ l = []) ∧ Below W.heap.size W w')


set_option maxHeartbeats 1000000 in
theorem sortedKeys_bool : SortedKeys 18 24 17 39 3 Try.prog := by
  intro w b nn M hM hnn
  obtain ⟨D0, hown, hsz, hnd, hmem⟩ := hM.keys Try.underlying3
  have hbl := hown.lt
  have hseq : SeqGives Fence.wide 2 Try.prog 24 #[.pointer (some ⟨w.heap.size, 0, none⟩)] encZ (fun ss => ss.Perm (intKeys D0)) (Maps.size D0) (w.alloc (.cells #[.map (some b)] 39)) :=
    AnyZI.keys_gives (ρ := Try.keysR_bool_ren) { Try.keysR_bool with } Fence.wide _ trivial rfl (by omega) w.heap.size b nn D0 _ (by simp) (by simp) (by
      obtain ⟨es, clock, hb, Ft, hs, hD⟩ := hown
      exact ⟨es, clock, (Below.heap_alloc _ _ b hbl).trans hb, Ft, hs, hD⟩)
  have cK : ∀ mb W, CallsIn Fence.wide 5 Try.prog 18 #[.map mb] W fun e w' => e = .returned (.func (.func 24) #[] #[.pointer (some ⟨W.heap.size, 0, none⟩)]) ∧ w' = W.alloc (.cells #[.map mb] 39) := fun mb W => AnyZI.keys_in Try.keysR_bool Fence.wide 5 trivial rfl mb W
  have cS := AnyZI.sorted_in Try.sortedR Fence.wide 5 trivial trivial trivial trivial rfl (by omega) (Try.sorts _) (enters_of Try.func23 (by kernel_rfl) rfl) 24 #[.pointer (some ⟨w.heap.size, 0, none⟩)] trivial (enters_of Try.func24 (by kernel_rfl) rfl) _ _ (by unfold maxLen; omega) (by omega) _ hseq
  change CallsIn _ _ Try.prog 17 _ _ _ at cS
  refine ⟨callsIn_wide.1 (cK _ _), (callsIn_wide.1 cS).mono fun e w' h => ?_⟩
  obtain ⟨v, ss, rfl, hS, hrow, hnil, hb⟩ := h
  have hl : (ss.mergeSort fun x y => decide (x ≤ y)).length = ss.length := List.length_mergeSort ss
  refine ⟨v, _, rfl, keysOf_sort hnd hmem hS, ?_, ?_, ?_, ((Below.refl _ w).alloc (Nat.le_refl _) _).trans (hb.mono (by simp))⟩
  · rw [hl, hS.length_eq]
    have : (intKeys D0).length = Maps.size D0 := by
      obtain ⟨es, hD, _⟩ := hown.entries (int_keyed Try.underlying3)
      subst hD
      exact List.length_map ..
    omega
  · rw [hl]
    exact ownsRow_base_a hrow (by simp)
  · rw [hnil]
    constructor
    · intro h
      exact List.eq_nil_of_length_eq_zero (by rw [hl, h]; rfl)
    · intro h
      exact List.eq_nil_of_length_eq_zero (by rw [← hl, h]; rfl)
end Go.Proofs.Ytfecbgijpbieaaa
