/-
  Package forest: All.
  The forest laid since a world: Unsub, Drop, All.
-/
import Derived.Test.YthkjicnnepkghaaDoorSorted
import Derived.Test.YthkjicnnepkghaaDoorFMem2
import Derived.Test.YthkjicnnepkghaaDoorFLaw
import Derived.Test.YthkjicnnepkghaaDoorForest14
namespace Go.Proofs.YthkjicnnepkghaaDoor
open Go.RowKit Go.Maps Go.Sort Go.Shelf
set_option linter.unusedVariables false
set_option maxHeartbeats 1000000 in
theorem sortedKeys_surf : SortedKeys 55 74 54 54 3 Tryd.prog := by
  intro w b nn M hM hnn
  obtain ⟨D0, hown, hsz, hnd, hmem⟩ := hM.keys Tryd.underlying3
  have hbl := hown.lt
  have hseq : SeqGives Fence.wide 2 Tryd.prog 74 #[.pointer (some ⟨w.heap.size, 0, none⟩)] encZ (fun ss => ss.Perm (intKeys D0)) (Maps.size D0) (w.alloc (.cells #[.map (some b)] 54)) :=
    AnyZI.keys_gives (ρ := Tryd.keysR_Pforest_surface_ren) { Tryd.keysR_Pforest_surface with } Fence.wide _ trivial rfl (by omega) w.heap.size b nn D0 _ (by simp) (by simp) (by
      obtain ⟨es, clock, hb, Ft, hs, hD⟩ := hown
      exact ⟨es, clock, (Below.heap_alloc _ _ b hbl).trans hb, Ft, hs, hD⟩)
  have cK : ∀ mb W, CallsIn Fence.wide 5 Tryd.prog 55 #[.map mb] W fun e w' => e = .returned (.func (.func 74) #[] #[.pointer (some ⟨W.heap.size, 0, none⟩)]) ∧ w' = W.alloc (.cells #[.map mb] 54) := fun mb W => AnyZI.keys_in Tryd.keysR_Pforest_surface Fence.wide 5 trivial rfl mb W
  have cS := AnyZI.sorted_in Tryd.sortedR Fence.wide 5 trivial trivial trivial trivial rfl (by omega) (Tryd.sorts _) (enters_of Tryd.func49 (by kernel_rfl) rfl) 74 #[.pointer (some ⟨w.heap.size, 0, none⟩)] trivial (enters_of Tryd.func74 (by kernel_rfl) rfl) _ _ (by unfold maxLen; omega) (by omega) _ hseq
  change CallsIn _ _ Tryd.prog 54 _ _ _ at cS
  refine ⟨callsIn_wide.1 (cK _ _), (callsIn_wide.1 cS).mono fun e w' h => ?_⟩
  obtain ⟨v, ss, rfl, hS, hrow, hnil, hb⟩ := h
  have hl : (ss.mergeSort fun x y => decide (x ≤ y)).length = ss.length := List.length_mergeSort ss
  refine ⟨v, _, rfl, keysOf_sort hnd hmem hS, ?_, ?_, ?_, ((Below.refl _ w).alloc (Nat.le_refl _) _).trans (hb.mono (by simp))⟩
  · rw [hl, hS.length_eq]
    have : (intKeys D0).length = Maps.size D0 := by
      obtain ⟨es, hD, _⟩ := hown.entries (int_keyed Tryd.underlying3)
      subst hD
      exact List.length_map ..
    omega
  · rw [hl]
    exact ownsRow_base_a hrow (by simp)
  · rw [hnil]
    constructor
    · intro h
      exact List.eq_nil_of_length_eq_zero (by rw [hl, h]; rfl)
    · intro h
      exact List.eq_nil_of_length_eq_zero (by rw [← hl, h]; rfl)

set_option maxRecDepth 100000 in
theorem fAll_any {p mb n : Nat} {F : Nat → Prop} {Z : Int → Option SfV} {M : Fo} (w : World) (h : ForZ w p mb F n Z M) (hn : n ≤ 1000000) :
    Calls Tryd.prog 26 #[.pointer (some ⟨p, 0, none⟩)] w fun e w' => ∃ (v : Value) (l : List Int), e = .returned v ∧ KeysOf (fun i => (Z i).map SfV.ptr) l ∧ l.length ≤ n ∧ w'.ownsRow w.heap.size 3 1 v l.length (l.map (Value.int .i64)) ∧ (v = .slice none 0 0 ↔ l = []) ∧ Below w.heap.size w w' := by
  have hc := h.cellP
  obtain ⟨c1, c2⟩ := sortedKeys_surf w mb n _ h.map hn
  replace c1 := hide c1
  replace c2 := hide c2
  clear h
  go_enter Tryd.func26, Tryd.ntmps26
  go_wp2_with (first
    | (go_at_call 55; refine c1.out.mono ?_; rintro e w' ⟨rfl, rfl⟩)
    | (go_at_call 54; refine c2.out.mono ?_; rintro e w' ⟨v, l, rfl, hk, hl, hr, hnil, hb⟩))
  go_ret
  exact ⟨v, l, rfl, hk, hl, hr, hnil, hb⟩

set_option linter.unusedVariables false

section
variable {W w w' : World} {p N c B : Nat} {M M' : Fo} {ae : Nat → Addr}
theorem without_leF (l : List Int) (x : Int) : (without l x).length ≤ l.length := without_le l x
theorem dropP_leF (l : List Ch) (x : Int) : (dropP l x).length ≤ l.length := by unfold dropP; exact List.length_filter_le _ _
theorem FitM.unsub (h : FitM B M) (id : Int) : FitM B (funsubS M id) := by
  unfold funsubS
  split
  · exact h
  · rename_i s hs
    split
    · exact h
    · rename_i q hq
      split
      · exact h
      · have h1 := h _ _ hs
        have h2 := h _ _ hq
        refine (h.set (v := { s with parent := 0 }) ⟨h1.d, h1.f, h1.p, h1.r, h1.o⟩).set (v := cutSf q id) ?_
        have a1 := without_leF q.pe.order id
        have a2 := without_leF q.ca.order id
        have a3 := without_leF q.cu.order id
        have b1 := dropP_leF q.pe.places id
        have b2 := dropP_leF q.ca.places id
        have b3 := dropP_leF q.cu.places id
        obtain ⟨h1, h2, h3, ⟨h4, h5, h6⟩, h7, h8, h9⟩ := h2
        exact ⟨h1, h2, by simp only [cutSf, cutT]; omega, ⟨h4, h5, h6⟩, by simp only [cutSf, cutT]; omega, by simp only [cutSf, cutT]; omega, by simp only [cutSf, cutT]; omega⟩
theorem unsub_isS (id : Int) : SameD M (funsubS M id) := by
  unfold funsubS
  split
  · exact .refl _
  · rename_i s hs
    split
    · exact .refl _
    · rename_i q hq
      split
      · exact .refl _
      · exact (SameD.set (by rw [hs]; rfl) _).trans (SameD.set (by rw [setM_isS (by rw [hs]; rfl), hq]; rfl) _)
theorem GoodM.unsubS (h : GoodM M) (id : Int) : GoodM (funsubS M id) := by
  unfold funsubS
  split
  · exact h
  · rename_i s hs
    split
    · exact h
    · rename_i q hq
      split
      · exact h
      · rename_i h0
        exact h.unsub hs h0 hq
theorem unsub_par (h : GoodM M) {id : Int} {s : Sf} (hs : funsubS M id id = some s) : s.parent = 0 := by
  unfold funsubS at hs
  cases e : M id with
  | none => rw [e] at hs; dsimp only at hs; rw [e] at hs; cases hs
  | some t =>
    rw [e] at hs
    dsimp only at hs
    by_cases hp : t.parent = 0
    · cases e2 : M t.parent with
      | none => rw [e2] at hs; dsimp only at hs; rw [e] at hs; cases hs; exact hp
      | some q => rw [e2] at hs; dsimp only at hs; rw [if_pos hp, e] at hs; cases hs; exact hp
    · obtain ⟨q, hq⟩ := h.par id t e hp
      have hne := h.par_ne e hp
      rw [hq] at hs
      dsimp only at hs
      rw [if_neg hp, setM_other _ _ (fun e => hne e.symm), setM_same] at hs
      cases hs; rfl
theorem orphan_isS (id : Int) : SameD M (orphan M id) := fun x => by unfold orphan; cases M x <;> rfl
theorem FitM.orphan (h : FitM B M) (id : Int) : FitM B (orphan M id) := fun i t hi => by
  unfold Go.Proofs.YthkjicnnepkghaaDoor.orphan at hi
  cases e : M i with
  | none => rw [e] at hi; cases hi
  | some s =>
    rw [e] at hi
    have := h _ _ e
    simp only [Option.map_some, Option.some.injEq] at hi
    subst hi
    split
    · exact ⟨this.d, this.f, this.p, this.r, this.o⟩
    · exact this
theorem CntM.less (h : CntM M (c + 1)) {id : Int} (hs : (M id).isSome = true) : CntM (setM M id none) c := by
  obtain ⟨l, h1, h2, h3⟩ := h
  have hm := (h3 id).2 hs
  refine ⟨l.erase id, h1.erase id, by rw [List.length_erase_of_mem hm, h2]; rfl, fun x => ?_⟩
  rw [h1.mem_erase_iff, h3 x]
  by_cases e : x = id
  · subst e; rw [setM_same]; simp
  · rw [setM_other _ _ e]; simp [e]
theorem mUnsub (hE : ErrF W.heap.size W ae) (h : FL W p N c B M w) (id : Int) (hid : I64 id) (hB : B ≤ 10000) :
    Calls Tryd.prog 53 #[.pointer (some ⟨p, 0, none⟩), .int .i64 id] w fun e w' => e = .returned (errV ae (childK M id)) ∧ FL W p (N + 1) c B (funsubS M id) w' := by
  obtain ⟨F, ⟨mb, Z, hz⟩, hF⟩ := h.ex
  refine (fUnsub_any w (hE.below h.below) h.below.size hz h.good id hid (fun i t hi j hj => ?_)).mono ?_
  · have hf := h.fit i t hi
    have h1 := hf.p
    have h2 := hf.o
    rcases (by omega : j = 0 ∨ j = 1 ∨ j = 2) with rfl | rfl | rfl <;> simp only [stS] <;> constructor <;> simp <;> omega
  rintro e w' ⟨he, ho⟩
  exact ⟨he, h.out hF ho.out (h.good.unsubS id) (h.cnt.same (unsub_isS id)) (h.fit.unsub id)⟩
theorem mDrop0 (hE : ErrF W.heap.size W ae) (h : FL W p N c B M w) (id : Int) (hid : I64 id) (hs : M id = none) :
    Calls Tryd.prog 24 #[.pointer (some ⟨p, 0, none⟩), .int .i64 id] w fun e w' => e = .returned (errV ae 5) ∧ FL W p N c B M w' := by
  obtain ⟨F, ⟨mb, Z, hz⟩, hF⟩ := h.ex
  refine (fDrop_none w (hE.below h.below) hz id hid hs).mono ?_
  rintro e w' ⟨he, rfl⟩
  exact ⟨he, h⟩
theorem mDrop (hE : ErrF W.heap.size W ae) (h : FL W p N (c + 1) B M w) (id : Int) (hid : I64 id) (hs : (M id).isSome = true) (hB : B ≤ 10000) :
    Calls Tryd.prog 24 #[.pointer (some ⟨p, 0, none⟩), .int .i64 id] w fun e w' => e = .returned .nilIface ∧ FL W p (N + 1) c B (fdropS M id) w' := by
  obtain ⟨F, ⟨mb, Z, hz⟩, hF⟩ := h.ex
  obtain ⟨s, hs1⟩ := Option.isSome_iff_exists.1 hs
  have e : fdropS M id = setM (orphan (funsubS M id) id) id none := by unfold fdropS; rw [if_pos hs]
  have hg : GoodM (fdropS M id) := by rw [e]; exact (h.good.unsubS id).gone fun s hs => unsub_par h.good hs
  have hc : CntM (fdropS M id) c := by
    rw [e]
    have hsd : SameD M (orphan (funsubS M id) id) := (unsub_isS id).trans (orphan_isS id)
    exact (h.cnt.same hsd).less (by rw [hsd id]; exact hs)
  have hf : FitM B (fdropS M id) := by rw [e]; exact ((h.fit.unsub id).orphan id).del
  have hnn := h.good.par_nn hs1
  rcases (by omega : s.parent = 0 ∨ 0 < s.parent) with h0 | h0
  · refine (fDrop_free w hz id hid hs1 h0).mono ?_
    rintro e' w' ⟨he, ho⟩
    have eu : funsubS M id = M := by unfold funsubS; rw [hs1]; dsimp only; split <;> simp [h0]
    have e2 : setM (orphan M id) id none = fdropS M id := by rw [e, eu]
    rw [e2] at ho
    exact ⟨he, h.out hF ho.out hg hc hf⟩
  · refine (fDrop_sub w (hE.below h.below) h.below.size hz h.good id hid hs1 h0 (fun i t hi j hj => ?_)).mono ?_
    · have hf := h.fit i t hi
      have h1 := hf.p
      have h2 := hf.o
      rcases (by omega : j = 0 ∨ j = 1 ∨ j = 2) with rfl | rfl | rfl <;> simp only [stS] <;> constructor <;> simp <;> omega
    rintro e' w' ⟨he, ho⟩
    rw [← e] at ho
    exact ⟨he, h.out hF ho.out hg hc hf⟩
theorem mAll (h : FL W p N c B M w) (hN : N ≤ 1000000) :
    Calls Tryd.prog 26 #[.pointer (some ⟨p, 0, none⟩)] w fun e w' => ∃ A cc, e = .returned (.slice A c cc) ∧ FL W p N c B M w' ∧ Below w.heap.size w w' := by
  obtain ⟨F, ⟨mb, Z, hz⟩, hF⟩ := h.ex
  refine (fAll_any w hz hN).mono ?_
  rintro e w' ⟨v, l, he, hk, _, ho, _, hb⟩
  obtain ⟨A, cc, rfl, _⟩ := own_form ho
  have hl : l.length = c := by
    obtain ⟨l', h1, h2, h3⟩ := h.cnt
    have hnd : l.Nodup := hk.1.imp fun h => Int.ne_of_lt h
    rw [← h2]
    refine List.Perm.length_eq ((List.perm_ext_iff_of_nodup hnd h1).2 fun x => ?_)
    rw [hk.2 x, h3 x]
    have hd := hz.dom x
    constructor
    · rintro ⟨_, h5⟩; rw [← hd]; simpa using h5
    · intro h5
      obtain ⟨s, hs⟩ := Option.isSome_iff_exists.1 h5
      obtain ⟨z, hzz, ht⟩ := hz.find hs
      exact ⟨ht.id64, by show (Option.map SfV.ptr (Z x)).isSome = true; rw [hzz]; rfl⟩
  rw [hl] at he
  exact ⟨A, cc, he, h.keep hb, hb⟩
end
end Go.Proofs.YthkjicnnepkghaaDoor
