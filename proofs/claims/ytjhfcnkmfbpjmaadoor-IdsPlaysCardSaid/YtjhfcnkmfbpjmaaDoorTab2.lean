/-
  Package ids: All, Of.
-/
import Derived.Test.YtjhfcnkmfbpjmaaDoorTab
import Derived.Test.YtjhfcnkmfbpjmaaDoorSorted
import Derived.Deep.QuietTactic
import Derived.BigQuiet
import Derived.Lib.SliceRun
namespace Go.Proofs.YtjhfcnkmfbpjmaaDoor
open Go.RowKit Go.Sort Go.Shelf Go.Lib

/-- The numbers of a table, rising. -/
def NumsOf (M : Int → Option (Int × Int)) (l : List Int) : Prop := KeysOf (fun j => (M j).map obV) l

set_option maxRecDepth 100000 in
theorem tAll_any (w : World) (p mb n : Nat) (M : Int → Option (Int × Int)) (h : TabAt w p mb n M) (hn : n ≤ 1000000) :
    Calls Tryd.prog 28 #[.pointer (some ⟨p, 0, none⟩)] w fun e w' => ∃ (v : Value) (l : List Int), e = .returned v ∧ NumsOf M l ∧ l.length ≤ n ∧ w'.ownsRow w.heap.size 3 1 v l.length (l.map (Value.int .i64)) ∧ (v = .slice none 0 0 ↔ l = []) ∧ Below w.heap.size w w' := by
  have hc := h.cell
  obtain ⟨c1, c2⟩ := sortedKeys_ids w mb n _ h.2.2 hn
  replace c1 := hide c1
  replace c2 := hide c2
  clear h
  go_enter Tryd.func28, Tryd.ntmps28
  go_wp2_with fail
  refine c1.out.mono ?_
  rintro e w' ⟨rfl, rfl⟩
  go_wp2_with fail
  refine c2.out.mono ?_
  rintro e w' ⟨v, l, rfl, hk, hl, hr, hnil, hb⟩
  go_wp2
  go_ret
  exact ⟨v, l, rfl, hk, hl, hr, hnil, hb⟩

def cl (x : Int) : Int := if -9223372036854775808 ≤ x ∧ x ≤ 9223372036854775807 then x else 0
theorem cl_i64 (x : Int) : I64 (cl x) := by unfold cl I64; split <;> omega
theorem cl_of {x : Int} (h : I64 x) : cl x = x := by unfold I64 at h; unfold cl; rw [if_pos h]
def encC (x : Int) : Value := .int .i64 (cl x)

theorem grown_sortWorld (enc : Int → Value) {w : World} {g off n : Nat} {os : Array Obj} (d : Array Int) : w.grownBy (sortWorld enc w g off n d os) (some g) := by
  unfold sortWorld
  refine ⟨rfl, rfl, rfl, by simp, fun k hk hne => ?_⟩
  rw [heap_grow_old _ _ (by simpa using hk)]
  have : g ≠ k := fun e => hne (by rw [e])
  simp [putRow, mapBlock, Sort.ahead, Array.getElem?_modify, this]

set_option maxRecDepth 100000 in
/-- The function that Of hands over. -/
theorem tOf1_any (W : World) (p mb n : Nat) (M : Int → Option (Int × Int)) (bt bf : Nat) (id f : Int) (hid : I64 id) (h : TabAt W p mb n M) (h1 : W.cell? ⟨bt, 0, none⟩ = some (.pointer (some ⟨p, 0, none⟩))) (h2 : W.cell? ⟨bf, 0, none⟩ = some (.int .i64 f)) :
    Calls Tryd.prog 58 #[.int .i64 id, .pointer (some ⟨bt, 0, none⟩), .pointer (some ⟨bf, 0, none⟩)] W fun e w' => e = .returned (.bool (faceI M id != f)) ∧ ∃ q, w' = W.drewN q := by
  have hc := h.cell
  have hl := fun q => TabAt.look (w := W.drewN q) (p := p) (mb := mb) (n := n) (M := M) ⟨h.1, h.2.1, h.2.2.block rfl⟩ hid
  have ob0 := Tryd.obFace
  generalize faceI M id = g at hl ⊢
  generalize versI M id = gv at hl
  clear h
  go_enter Tryd.func58, Tryd.ntmps58
  go_wp2
  go_quiet (fail)
  all_goals go_wp2
  go_ret
  exact ⟨rfl, _, rfl⟩

theorem cells_two (w : World) (a b : Value) (t u : TypeId) : ((w.alloc (.cells #[a] t)).alloc (.cells #[b] u)).cell? ⟨w.heap.size, 0, none⟩ = some a ∧ ((w.alloc (.cells #[a] t)).alloc (.cells #[b] u)).cell? ⟨w.heap.size + 1, 0, none⟩ = some b := by
  constructor
  · rw [World.cell?_alloc_past _ _ _ (by simp)]
    simp
  · simp

set_option maxRecDepth 100000 in
set_option maxHeartbeats 1000000 in
theorem tOf_any (w : World) (p mb n : Nat) (M : Int → Option (Int × Int)) (f : Int) (h : TabAt w p mb n M) (hn : n ≤ 1000000) (h1 : (M 1).isSome = true) :
    Calls Tryd.prog 29 #[.pointer (some ⟨p, 0, none⟩), .int .i64 f] w fun e w' => ∃ (v : Value) (l : List Int), e = .returned v ∧ NumsOf M l ∧ l.length ≤ n ∧
      Rd w' v 1 (l.filter fun x => !(faceI M x != f)).length ((l.filter fun x => !(faceI M x != f)).map (Value.int .i64)) ∧ Below w.heap.size w w' := by
  obtain ⟨k1, k2⟩ := cells_two w (.pointer (some ⟨p, 0, none⟩)) (.int .i64 f) 23 3
  obtain ⟨W2, hW2⟩ : ∃ W2, W2 = (w.alloc (.cells #[.pointer (some ⟨p, 0, none⟩)] 23)).alloc (.cells #[.int .i64 f] 3) := ⟨_, rfl⟩
  have hs2 : W2.heap.size = w.heap.size + 2 := by rw [hW2]; simp
  have hb2 : Below w.heap.size w W2 := by rw [hW2]; exact ((Below.refl _ w).alloc (Nat.le_refl _) _).alloc (by simp) _
  rw [← hW2] at k1 k2
  have h2 : TabAt W2 p mb n M := h.below hb2 h.lt.1 h.lt.2
  have cA := tAll_any W2 p mb n M h2 hn
  replace cA := hide cA
  have Hpl := hide h.lt
  replace h2 := hide h2
  replace hW2 := hide hW2
  replace hs2 := hide hs2
  replace hb2 := hide hb2
  replace k1 := hide k1
  replace k2 := hide k2
  clear h
  go_enter Tryd.func29, Tryd.ntmps29
  go_wp2_with fail
  rw [← hW2.out]
  refine cA.out.mono ?_
  rintro e w3 ⟨v, l, rfl, hk, hl, hr, hnil, hb3⟩
  have hlne : l ≠ [] := fun e => by
    have := (hk.2 1).2 ⟨by unfold I64; omega, by simpa using h1⟩
    rw [e] at this; simp at this
  have hkb := hb3
  rcases hr.2 with ⟨rfl, hz⟩ | ⟨gb, cap, cur, rfl, hbase, hgb, r1, r2, r3, r4⟩
  · exact absurd (List.eq_nil_of_length_eq_zero hz) hlne
  have t3 : TabAt w3 p mb n M := h2.out.below hb3 h2.out.lt.1 h2.out.lt.2
  have c1 : w3.cell? ⟨w.heap.size, 0, none⟩ = some (.pointer (some ⟨p, 0, none⟩)) := (hb3.cell (p := ⟨w.heap.size, 0, none⟩) (by have := hs2.out; simp; omega)).trans k1.out
  have c2 : w3.cell? ⟨w.heap.size + 1, 0, none⟩ = some (.int .i64 f) := (hb3.cell (p := ⟨w.heap.size + 1, 0, none⟩) (by have := hs2.out; simp; omega)).trans k2.out
  have hs3 := hb3.size
  have hi : ∀ x ∈ l, I64 x := fun x hx => ((hk.2 x).1 hx).1
  have hH : Holds encC w3 gb 0 l.toArray := by
    intro j hj
    have hj' : j < l.length := by simpa using hj
    have := hr.cells (g := gb) rfl j (.int .i64 l[j]) (by simp [hj'])
    rw [addr_add] at this
    refine ⟨?_, by simp [World.frozen?, hgb]⟩
    rw [this]
    simp [encC, hj', cl_of (hi _ (List.getElem_mem hj'))]
  have hp : PredAt Tryd.prog 58 #[.pointer (some ⟨w.heap.size, 0, none⟩), .pointer (some ⟨w.heap.size + 1, 0, none⟩)] encC (fun x => faceI M (cl x) != f) w3 := fun W x hb => by
    exact tOf1_any W p mb n M w.heap.size (w.heap.size + 1) (cl x) f (cl_i64 x) (t3.below hb t3.lt.1 t3.lt.2) ((hb.cell (p := ⟨w.heap.size, 0, none⟩) (by have := hs2.out; simp; omega)).trans c1) ((hb.cell (p := ⟨w.heap.size + 1, 0, none⟩) (by have := hs2.out; simp; omega)).trans c2)
  have hpo : PredOver Tryd.prog 58 #[.pointer (some ⟨w.heap.size, 0, none⟩), .pointer (some ⟨w.heap.size + 1, 0, none⟩)] encC (fun x => faceI M (cl x) != f) gb 0 l.toArray.size w3 := fun m os dk x _ => by
    have hg := grown_sortWorld encC (w := w3) (g := gb) (off := 0) (n := m) (os := os) dk
    have hlt := Hpl.out
    have hs2' := hs2.out
    exact tOf1_any _ p mb n M w.heap.size (w.heap.size + 1) (cl x) f (cl_i64 x)
      ⟨(hg.block p (by omega) (by intro e; cases e; omega)).trans t3.1, t3.2.1, t3.2.2.kept hg (by intro e; cases e; omega)⟩
      ((World.cell?_of_block (a := ⟨w.heap.size, 0, none⟩) (hg.block w.heap.size (by omega) (by intro e; cases e; omega))).trans c1)
      ((World.cell?_of_block (a := ⟨w.heap.size + 1, 0, none⟩) (hg.block (w.heap.size + 1) (by omega) (by intro e; cases e; omega))).trans c2)
  have hlb : l.length ≤ 1000000 := by omega
  have cD := AnyE.slices_DeleteFunc Tryd.delFuncR encC (fun _ => rfl) (fun x => faceI M (cl x) != f) 58 #[.pointer (some ⟨w.heap.size, 0, none⟩), .pointer (some ⟨w.heap.size + 1, 0, none⟩)] (enters_of Tryd.func58 (by kernel_rfl) rfl) 0 (Tryd.zeroValue3) gb 0 cap l.toArray w3 hp hpo hH (by simp; omega) (by simpa using r1)
  change Calls Tryd.prog 57 _ _ _ at cD
  have hfil : (l.toArray.toList.filter fun x => !(faceI M (cl x) != f)) = l.filter fun x => !(faceI M x != f) := by
    exact List.filter_congr fun x hx => by rw [cl_of (hi x hx)]
  rw [hfil] at cD
  obtain ⟨q, hq⟩ : ∃ q, q = l.filter fun x => !(faceI M x != f) := ⟨_, rfl⟩
  have hqm : ∀ x ∈ q, I64 x := fun x hx => by rw [hq] at hx; exact hi x (List.mem_filter.1 hx).1
  have hql : q.length ≤ l.length := by rw [hq]; exact List.length_filter_le _ _
  rw [← hq] at cD
  have hsz : l.toArray.size = l.length := by simp
  rw [hsz] at cD
  replace cD := hide cD
  replace hH := hide hH
  replace hq := hide hq
  clear hp hpo hfil hgb r3 r4 hr c1 c2 hnil
  go_wp2_with fail
  refine cD.out.mono ?_
  rintro e w4 ⟨rfl, m, rfl⟩
  go_wp2
  go_ret
  have hpr := holds_putRow encC (Sort.ahead w3 m) gb 0 l.toArray (q ++ List.replicate (l.length - q.length) 0).toArray (holds_ahead encC w3 m gb 0 l.toArray hH.out) (by simp; omega)
  refine ⟨_, l, rfl, hk, hl, ?_, ?_⟩
  · rw [← hq.out]
    refine ⟨by simp, _, cap, rfl, by omega, fun hn0 => ⟨gb, 0, rfl, ?_, fun j u hu => ?_⟩⟩
    · have := (hH.out 0 (by simp; omega)).1
      simpa using block_lt_of_cell this
    · have hj : j < q.length := by
        have := (List.getElem?_eq_some_iff.1 hu).1
        simpa using this
      rw [(hpr j (by simp; omega)).1]
      have e2 : u = .int .i64 q[j] := by simpa [hj] using hu.symm
      have e3 : (q ++ List.replicate (l.length - q.length) 0).toArray[j]! = q[j] := by
        rw [getElem!_pos _ j (by simp; omega), List.getElem_toArray, List.getElem_append_left hj]
      rw [e2, e3]
      unfold encC
      rw [cl_of (hqm _ (List.getElem_mem hj))]
  · have hg := grown_sortWorld encC (w := w3) (g := gb) (off := 0) (n := m) (os := #[]) (q ++ List.replicate (l.length - q.length) 0).toArray
    unfold sortWorld at hg
    rw [grow_empty] at hg
    have hs2' := hs2.out
    exact hb2.out.trans ((hkb.mono (by omega)).trans (grown_below hg (by omega) (by omega)))
end Go.Proofs.YtjhfcnkmfbpjmaaDoor
