/-
  Contracts of package shell.
-/
import Derived.Test.YtfekldcpjoiipaaDoorShell
import Derived.Deep.QuietTactic
import Derived.BigQuiet
namespace Go.Proofs.YtfekldcpjoiipaaDoor
open Go.RowKit

theorem shNew_any (w : World) : Calls Tryd.prog 24 #[] w fun e w' => ∃ p F, e = .returned (.pointer (some ⟨p, 0, none⟩)) ∧ ShellAt w' p F 0 (fun _ => none) ∧ Below w.heap.size w w' ∧ ∀ b, F b → w.heap.size ≤ b := by
  have hmm := @run_makeMap Tryd.prog
  go_enter Tryd.func24, Tryd.ntmps24
  go_wp2
  go_ret
  have h1 : ((w.alloc (.map #[] 0)).alloc (.cells #[.map (some w.heap.size)] 71)).heap[w.heap.size + 1]? = some (.cells #[.map (some w.heap.size)] 71 (0, 0)) := by
    have := heap_alloc_new (w.alloc (.map #[] 0)) (.cells #[.map (some w.heap.size)] 71)
    simpa using this
  refine ⟨w.heap.size + 1, _, rfl, ⟨w.heap.size, _, ShellZ.start h1 ((MapAt.made w Tryd.prog 3).kept (World.grownBy_alloc _ _ none) (by simp)), fun _ _ => rfl⟩, ((Below.refl _ _).alloc (Nat.le_refl _) _).alloc (by simp) _, fun b hb => ?_⟩
  rcases hb with rfl | rfl <;> omega

theorem shHas_any (w : World) (p n : Nat) (F : Nat → Prop) (S : Int → Option (Nat × List Int)) (id : Int) (hid : I64 id) (h : ShellAt w p F n S) :
    Calls Tryd.prog 34 #[.pointer (some ⟨p, 0, none⟩), .int .i64 id] w fun e w' => e = .returned (.bool (S id).isSome) ∧ w = w' := by
  obtain ⟨mb, Z, hz, hS⟩ := h
  have hSi := hide (hS id hid)
  have hc := cell_of_one hz.cell
  cases hzi : Z id with
  | none =>
    have hl := hz.look_none hid hzi
    rw [hzi] at hSi
    clear hz hS
    go_enter Tryd.func34, Tryd.ntmps34
    go_wp2
    go_ret
    exact ⟨by rw [hSi.out]; rfl, rfl⟩
  | some z =>
    have hl := hz.look_some hid hzi
    rw [hzi] at hSi
    clear hz hS
    go_enter Tryd.func34, Tryd.ntmps34
    go_wp2
    go_ret
    exact ⟨by rw [hSi.out]; rfl, rfl⟩

theorem nat_ne0 (n : Nat) : ((n : Int) != 0) = (n != 0) := by rw [Bool.eq_iff_iff]; simp
theorem nat_eqK (n k : Nat) : ((n : Int) == (k : Int)) = (n == k) := by rw [Bool.eq_iff_iff]; simp; omega
def topB (S : Int → Option (Nat × List Int)) (id : Int) : Bool := match S id with | some (st, _) => st != 0 | none => false
def mapB (S : Int → Option (Nat × List Int)) (id : Int) : Bool := match S id with | some (st, _) => st == 4 | none => false

theorem shIsTop_any (w : World) (p n : Nat) (F : Nat → Prop) (S : Int → Option (Nat × List Int)) (id : Int) (hid : I64 id) (h : ShellAt w p F n S) :
    Calls Tryd.prog 33 #[.pointer (some ⟨p, 0, none⟩), .int .i64 id] w fun e w' => e = .returned (.bool (topB S id)) ∧ w = w' := by
  have HH := shHas_any w p n F S id hid h
  obtain ⟨mb, Z, hz, hS⟩ := h
  have hSi := hS id hid
  have hc := cell_of_one hz.cell
  cases hzi : Z id with
  | none =>
    rw [hzi] at hSi
    have hT : topB S id = false := by unfold topB; rw [hSi]; rfl
    rw [hT]
    rw [hSi] at HH
    have HH := hide HH
    clear hz hS hT hSi
    go_enter Tryd.func33, Tryd.ntmps33
    go_wp2_with fail
    refine HH.out.mono ?_
    rintro e w' ⟨rfl, rfl⟩
    go_wp2
    go_ret
    exact ⟨rfl, rfl⟩
  | some z =>
    rw [hzi] at hSi
    have hT : topB S id = (z.st != 0) := by unfold topB; rw [hSi]; rfl
    have hl := hz.look_some hid hzi
    have hw := hz.win id z hid hzi
    have hc1 : w.cell? ⟨z.a, 0, none⟩ = some (.int .i64 z.st) := by rw [cell_of_row w z.a 0 _ _ _ hw.blk]; rfl
    have hTi := nat_ne0 z.st
    rw [hT]
    rw [hSi] at HH
    have HH := hide HH
    clear hz hS hT hSi hw
    obtain ⟨a, x, st, ws⟩ := z
    cases hb : (st != 0)
    all_goals
      rw [hb] at hTi
      go_enter Tryd.func33, Tryd.ntmps33
      go_wp2_with fail
      refine HH.out.mono ?_
      rintro e w' ⟨rfl, rfl⟩
      go_wp2
      go_ret
      exact ⟨rfl, rfl⟩

theorem shMapped_any (w : World) (p n : Nat) (F : Nat → Prop) (S : Int → Option (Nat × List Int)) (id : Int) (hid : I64 id) (h : ShellAt w p F n S) :
    Calls Tryd.prog 32 #[.pointer (some ⟨p, 0, none⟩), .int .i64 id] w fun e w' => e = .returned (.bool (mapB S id)) ∧ w = w' := by
  have HH := shHas_any w p n F S id hid h
  obtain ⟨mb, Z, hz, hS⟩ := h
  have hSi := hS id hid
  have hc := cell_of_one hz.cell
  cases hzi : Z id with
  | none =>
    rw [hzi] at hSi
    have hT : mapB S id = false := by unfold mapB; rw [hSi]; rfl
    rw [hT]
    rw [hSi] at HH
    have HH := hide HH
    clear hz hS hT hSi
    go_enter Tryd.func32, Tryd.ntmps32
    go_wp2_with fail
    refine HH.out.mono ?_
    rintro e w' ⟨rfl, rfl⟩
    go_wp2
    go_ret
    exact ⟨rfl, rfl⟩
  | some z =>
    rw [hzi] at hSi
    have hT : mapB S id = (z.st == 4) := by unfold mapB; rw [hSi]; rfl
    have hl := hz.look_some hid hzi
    have hw := hz.win id z hid hzi
    have hc1 : w.cell? ⟨z.a, 0, none⟩ = some (.int .i64 z.st) := by rw [cell_of_row w z.a 0 _ _ _ hw.blk]; rfl
    have hTi : ((z.st : Int) == 4) = (z.st == 4) := nat_eqK z.st 4
    rw [hT]
    rw [hSi] at HH
    have HH := hide HH
    clear hz hS hT hSi hw
    obtain ⟨a, x, st, ws⟩ := z
    cases hb : (st == 4)
    all_goals
      rw [hb] at hTi
      go_enter Tryd.func32, Tryd.ntmps32
      go_wp2_with fail
      refine HH.out.mono ?_
      rintro e w' ⟨rfl, rfl⟩
      go_wp2
      go_ret
      exact ⟨rfl, rfl⟩

def addK (S : Int → Option (Nat × List Int)) (id : Int) (b : Bool) : Nat := if (S id).isSome then 10 else if b then 12 else 0
def addS (S : Int → Option (Nat × List Int)) (id : Int) (b : Bool) : Int → Option (Nat × List Int) := if (S id).isSome then S else if b then S else setS S id (some (0, []))

set_option maxRecDepth 100000 in
theorem shAdd_any {B : Nat} (w : World) {ae : Nat → Addr} (hE : Errs B w ae) (p n : Nat) (F : Nat → Prop) (S : Int → Option (Nat × List Int)) (id : Int) (b : Bool) (hid : I64 id) (h : ShellAt w p F n S) (hn : n ≤ 1000000) :
    Calls Tryd.prog 25 #[.pointer (some ⟨p, 0, none⟩), .int .i64 id, .bool b] w fun e w' => e = .returned (errV ae (addK S id b)) ∧ ShOut w p n F (addS S id b) w' := by
  have HH := shHas_any w p n F S id hid h
  have hst := hide h.stay
  have g9 : w.cell? ⟨10, 0, none⟩ = _ := hE.glob 9 (by decide)
  have g11 : w.cell? ⟨11, 0, none⟩ = _ := hE.glob 11 (by decide)
  cases hs : S id with
  | some v =>
    have e1 : addK S id b = 10 := by simp [addK, hs]
    have e2 : addS S id b = S := by simp [addS, hs]
    rw [hs] at HH
    rw [e1, e2]
    have HH := hide HH
    clear hs e1 e2 h g11
    go_enter Tryd.func25, Tryd.ntmps25
    go_wp2_with fail
    refine HH.out.mono ?_
    rintro e w' ⟨rfl, rfl⟩
    go_wp2
    go_ret
    exact ⟨rfl, hst.out⟩
  | none =>
    rw [hs] at HH
    cases b with
    | true =>
      have e1 : addK S id true = 12 := by simp [addK, hs]
      have e2 : addS S id true = S := by simp [addS, hs]
      rw [e1, e2]
      have HH := hide HH
      clear hs e1 e2 h g9
      go_enter Tryd.func25, Tryd.ntmps25
      go_wp2_with fail
      refine HH.out.mono ?_
      rintro e w' ⟨rfl, rfl⟩
      go_wp2
      go_ret
      exact ⟨rfl, hst.out⟩
    | false =>
      have e1 : addK S id false = 0 := by simp [addK, hs]
      have e2 : addS S id false = setS S id (some (0, [])) := by simp [addS, hs]
      rw [e1, e2]
      obtain ⟨mb, Z, hz, hS⟩ := h
      have hc := cell_of_one hz.cell
      have hm1 := hz.map.kept (World.grownBy_alloc w (.cells #[.int .i64 0, .slice none 0 0] 74) none) (by simp)
      have HH := hide HH
      have hpl := hz.lt p hz.pF
      have Hz := hide hz
      have HS := hide hS
      have hmb := hide hm1
      clear hs e1 e2 g9 g11 hz hS hm1
      go_enter Tryd.func25, Tryd.ntmps25
      go_wp2_with fail
      refine HH.out.mono ?_
      rintro e w' ⟨rfl, rfl⟩
      go_wp2_with (at_mapUpdate; refine wpList_put rfl _ _ _ 69 rfl 3 72 Tryd.underlying3 Tryd.underlying69 mb n _ rfl hmb.out (by unfold maxLen; omega) id _ rfl rfl hid ?_; intro w1 hm2 hg2)
      go_ret
      exact ⟨rfl, Hz.out.freshOut HS.out hm2 hg2⟩
end Go.Proofs.YtfekldcpjoiipaaDoor
