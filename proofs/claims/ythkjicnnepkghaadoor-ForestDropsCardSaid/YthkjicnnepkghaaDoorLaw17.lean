/-
  The laws of layer 17: what they share: awake.
-/
import Derived.Test.YthkjicnnepkghaaDoorFLaw
namespace Go.Proofs.YthkjicnnepkghaaDoor
open Go.RowKit
set_option linter.unusedVariables false

theorem Errs.wider {B B' : Nat} {w : World} {ae : Nat → Addr} (h : Errs B w ae) (hB : B ≤ B') : Errs B' w ae := ⟨h.glob, h.obj, h.inj, fun k hk => ⟨Nat.lt_of_lt_of_le (h.lt k hk).1 hB, Nat.lt_of_lt_of_le (h.lt k hk).2 hB⟩⟩
theorem errV0 (ae : Nat → Addr) : errV ae 0 = .nilIface := rfl
theorem i64_small {x : Int} (h1 : -1000000 ≤ x) (h2 : x ≤ 1000000) : I64 x := by unfold I64; omega
theorem i64_1 : I64 1 := i64_small (by decide) (by decide)
theorem i64_2 : I64 2 := i64_small (by decide) (by decide)
def aw1 : Fo := setM (fun _ => none) 1 (some newSf)
def aw2 : Fo := setM aw1 2 (some newSf)
def aw3 : Fo := subbed aw2 2 1
def aw4 : Fo := turnS aw3 2 (frameT 9)
def aw5 : Fo := (comC aw4 2 2).1
theorem aw_facts : faddK (fun _ => none) 0 1 = 0 ∧ faddK aw1 1 2 = 0 ∧ upO aw2 2 60 1 = some false ∧ fsubC aw2 2 1 false = 0 ∧ thereK aw3 2 = 0 ∧ thereK aw4 2 = 0 ∧ (comC aw4 2 2).2 = [] ∧ thereK aw5 1 = 0 ∧ (comC aw5 2 1).2 = [1, 2] := by decide +kernel
theorem aw_rk2 : RkOk aw2 2 := ((RkOk.empty 2).add (by decide)).add (by decide)
theorem aw_sub : fsubK aw2 2 1 = 0 := by rw [fsubK_eq aw_facts.2.2.1]; exact aw_facts.2.2.2.1
theorem aw_rk4 : RkOk aw4 2 := by
  have h : RkOk aw3 2 := by have := aw_rk2.sub (id := 2) (parent := 1) (by decide); rw [fsubS_zero aw_sub] at this; exact this
  exact h.par (turn_par _)
theorem aw_rk5 : RkOk aw5 2 := aw_rk4.par (com_par _ _)

theorem rd_two {w : World} (b : Nat) (x y : Int) (t : TypeId) (h : w.heap[b]? = some (.cells #[.int .i64 x, .int .i64 y] t (0, 0))) : Rd w (.slice (some ⟨b, 0, none⟩) 2 2) 1 2 ([x, y].map (Value.int .i64)) := by
  refine ⟨by simp, _, 2, rfl, by omega, fun _ => ⟨b, 0, rfl, lt_of_block h, fun j u hu => ?_⟩⟩
  rw [cell_of_row w b (0 + j) _ _ _ h]
  simpa using hu

set_option maxRecDepth 100000 in
set_option maxHeartbeats 2000000 in
theorem awake17_any (W : World) {ae : Nat → Addr} (hE : ErrF W.heap.size W ae) : Calls Tryd.prog 17 #[] W fun e w' => e = .returned (.bool true) ∧ Below W.heap.size W w' := by
  obtain ⟨a1, a2, a3, a4, a5, a6, a7, a8, a9⟩ := aw_facts
  have cN := hide (mNew W)
  replace a3 := hide a3
  replace a4 := hide a4
  go_enter Tryd.func17, Tryd.ntmps17
  go_wp2_with fail
  refine cN.out.mono ?_
  rintro e w1 ⟨p, rfl, h1⟩
  have c1 := hide (mAdd0 hE h1 1 i64_1 (by omega) (by omega) a1)
  clear h1
  go_wp2_with fail
  refine c1.out.mono ?_
  rintro e w2 ⟨rfl, h2⟩
  change FL W p 1 1 2 aw1 w2 at h2
  have c2 := hide (mAdd0 hE h2 2 i64_2 (by omega) (by omega) a2)
  clear h2
  go_wp2_with fail
  refine c2.out.mono ?_
  rintro e w3 ⟨rfl, h3⟩
  change FL W p 2 2 3 aw2 w3 at h3
  have c3 := mSub hE h3 2 1 i64_2 i64_1 (by omega)
  rw [aw_sub, fsubS_zero aw_sub, errV0] at c3
  replace c3 := hide c3
  clear h3
  go_wp2_with fail
  refine c3.out.mono ?_
  rintro e w4 ⟨rfl, h4⟩
  change FL W p 3 2 5 aw3 w4 at h4
  have c4 := mFrame hE h4 2 9 i64_2 (by omega)
  rw [a5, errV0] at c4
  replace c4 := hide c4
  clear h4
  go_wp2_with fail
  refine c4.out.mono ?_
  rintro e w5 ⟨rfl, h5⟩
  change FL W p 4 2 6 aw4 w5 at h5
  have c5 := mCommitR hE h5 2 i64_2 (by omega) (by omega) aw_rk4 (by omega)
  rw [a6, a7, errV0] at c5
  replace c5 := hide c5
  clear h5
  go_wp2_with fail
  refine c5.out.mono ?_
  rintro e w6 ⟨A6, n6, rfl, r6, h6⟩
  change FL W p 4 2 6 aw5 w6 at h6
  have c6 := mCommitR hE h6 1 i64_1 (by omega) (by omega) aw_rk5 (by omega)
  rw [a8, a9, errV0] at c6
  replace c6 := hide c6
  clear h6 r6
  go_wp2_with fail
  refine c6.out.mono ?_
  rintro e w7 ⟨A7, n7, rfl, r7, h7⟩
  have hb7 := hide h7.below
  have c7 := hide (sameInts_true (w7.alloc (.cells #[.int .i64 1, .int .i64 2] 3)) _ _ [1, 2] (r7.alloc _) (rd_two w7.heap.size 1 2 3 (heap_alloc_new _ _)) (by decide))
  clear h7 r7
  go_wp2_with fail
  refine c7.out.mono ?_
  rintro e w8 ⟨rfl, q8, rfl⟩
  go_wp2
  go_ret
  exact ⟨rfl, below_drewN (hb7.out.alloc hb7.out.size _) q8⟩
end Go.Proofs.YthkjicnnepkghaaDoor
