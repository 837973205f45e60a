/-
  Contracts of package shell: Drop, Top, Untop, Waits.
-/
import Derived.Test.YtfekldcpjoiipaaDoorShell2
namespace Go.Proofs.YtfekldcpjoiipaaDoor
open Go.RowKit

theorem topB_none {S : Int → Option (Nat × List Int)} {id : Int} (h : S id = none) : topB S id = false := by simp [topB, h]
theorem topB_bare {S : Int → Option (Nat × List Int)} {id : Int} {ws : List Int} (h : S id = some (0, ws)) : topB S id = false := by simp [topB, h]
theorem topB_top {S : Int → Option (Nat × List Int)} {id : Int} {st : Nat} {ws : List Int} (h : S id = some (st + 1, ws)) : topB S id = true := by simp [topB, h]

theorem ShellAt.find {w : World} {p n : Nat} {F : Nat → Prop} {S : Int → Option (Nat × List Int)} (h : ShellAt w p F n S) {id : Int} (hid : I64 id) {st : Nat} {ws : List Int} (hs : S id = some (st, ws)) :
    ∃ mb Z z, ShellZ w p mb F n Z ∧ Holds S Z ∧ Z id = some z ∧ z.st = st ∧ z.ws = ws := by
  obtain ⟨mb, Z, hz, hS⟩ := h
  have := hS id hid
  rw [hs] at this
  cases hzi : Z id with
  | none => rw [hzi] at this; cases this
  | some z =>
    rw [hzi] at this
    simp only [Option.map_some, Option.some.injEq, Prod.mk.injEq] at this
    exact ⟨mb, Z, z, hz, hS, hzi, this.1.symm, this.2.symm⟩

def dropK (S : Int → Option (Nat × List Int)) (id : Int) : Nat := match S id with | none => 5 | some (0, _) => 0 | some (_ + 1, _) => 12
def dropS (S : Int → Option (Nat × List Int)) (id : Int) : Int → Option (Nat × List Int) := match S id with | some (0, _) => setS S id none | _ => S
def topK (S : Int → Option (Nat × List Int)) (id : Int) : Nat := match S id with | none => 5 | some (0, _) => 0 | some (_ + 1, _) => 10
def topS (S : Int → Option (Nat × List Int)) (id : Int) : Int → Option (Nat × List Int) := match S id with | some (0, ws) => setS S id (some (1, ws)) | _ => S
def untopK (S : Int → Option (Nat × List Int)) (id : Int) : Nat := match S id with | some (_ + 1, _) => 0 | _ => 5
def untopS (S : Int → Option (Nat × List Int)) (id : Int) : Int → Option (Nat × List Int) := match S id with | some (_ + 1, _) => setS S id (some (0, [])) | _ => S

set_option maxRecDepth 100000 in
theorem shDrop_any {B : Nat} (w : World) {ae : Nat → Addr} (hE : Errs B w ae) (p n : Nat) (F : Nat → Prop) (S : Int → Option (Nat × List Int)) (id : Int) (hid : I64 id) (h : ShellAt w p F n S) :
    Calls Tryd.prog 35 #[.pointer (some ⟨p, 0, none⟩), .int .i64 id] w fun e w' => e = .returned (errV ae (dropK S id)) ∧ ShOut w p n F (dropS S id) w' := by
  have HH := shHas_any w p n F S id hid h
  have HT := shIsTop_any w p n F S id hid h
  have hst := hide h.stay
  have g4 : w.cell? ⟨5, 0, none⟩ = _ := hE.glob 4 (by decide)
  have g11 : w.cell? ⟨11, 0, none⟩ = _ := hE.glob 11 (by decide)
  cases hs : S id with
  | none =>
    have e1 : dropK S id = 5 := by simp [dropK, hs]
    have e2 : dropS S id = S := by simp [dropS, hs]
    rw [hs] at HH
    rw [e1, e2]
    replace HH := hide HH
    clear hs e1 e2 h g11 HT
    go_enter Tryd.func35, Tryd.ntmps35
    go_wp2_with fail
    refine HH.out.mono ?_
    rintro e w' ⟨rfl, rfl⟩
    go_wp2
    go_ret
    exact ⟨rfl, hst.out⟩
  | some v =>
    obtain ⟨st, ws⟩ := v
    cases st with
    | succ st =>
      have e1 : dropK S id = 12 := by simp [dropK, hs]
      have e2 : dropS S id = S := by simp [dropS, hs]
      rw [topB_top hs] at HT
      rw [hs] at HH
      rw [e1, e2]
      replace HH := hide HH
      replace HT := hide HT
      clear hs e1 e2 h g4
      go_enter Tryd.func35, Tryd.ntmps35
      go_wp2_with fail
      refine HH.out.mono ?_
      rintro e w' ⟨rfl, rfl⟩
      go_wp2_with fail
      refine HT.out.mono ?_
      rintro e w' ⟨rfl, rfl⟩
      go_wp2
      go_ret
      exact ⟨rfl, hst.out⟩
    | zero =>
      have e1 : dropK S id = 0 := by simp [dropK, hs]
      have e2 : dropS S id = setS S id none := by simp [dropS, hs]
      rw [topB_bare hs] at HT
      rw [hs] at HH
      rw [e1, e2]
      obtain ⟨mb, Z, hz, hS⟩ := h
      have hc := cell_of_one hz.cell
      have Hz := hide hz
      have HS := hide (show Holds S Z from hS)
      replace HH := hide HH
      replace HT := hide HT
      clear hs e1 e2 g4 g11 hz hS hst
      go_enter Tryd.func35, Tryd.ntmps35
      go_wp2_with fail
      refine HH.out.mono ?_
      rintro e w' ⟨rfl, rfl⟩
      go_wp2_with fail
      refine HT.out.mono ?_
      rintro e w' ⟨rfl, rfl⟩
      go_wp2_with (at_delete; refine wpList_del rfl _ _ 69 3 rfl 72 Tryd.underlying3 Tryd.underlying69 mb n _ rfl Hz.out.map id rfl hid ?_; intro w1 hm2 hg2)
      go_ret
      exact ⟨rfl, Hz.out.goneOut HS.out hm2 hg2⟩

set_option maxRecDepth 100000 in
theorem shTop_any {B : Nat} (w : World) {ae : Nat → Addr} (hE : Errs B w ae) (p n : Nat) (F : Nat → Prop) (S : Int → Option (Nat × List Int)) (id : Int) (hid : I64 id) (h : ShellAt w p F n S) :
    Calls Tryd.prog 26 #[.pointer (some ⟨p, 0, none⟩), .int .i64 id] w fun e w' => e = .returned (errV ae (topK S id)) ∧ ShOut w p n F (topS S id) w' := by
  have HH := shHas_any w p n F S id hid h
  have HT := shIsTop_any w p n F S id hid h
  have hst := hide h.stay
  have g4 : w.cell? ⟨5, 0, none⟩ = _ := hE.glob 4 (by decide)
  have g9 : w.cell? ⟨10, 0, none⟩ = _ := hE.glob 9 (by decide)
  cases hs : S id with
  | none =>
    have e1 : topK S id = 5 := by simp [topK, hs]
    have e2 : topS S id = S := by simp [topS, hs]
    rw [hs] at HH
    rw [e1, e2]
    replace HH := hide HH
    clear hs e1 e2 h g9 HT
    go_enter Tryd.func26, Tryd.ntmps26
    go_wp2_with fail
    refine HH.out.mono ?_
    rintro e w' ⟨rfl, rfl⟩
    go_wp2
    go_ret
    exact ⟨rfl, hst.out⟩
  | some v =>
    obtain ⟨st, ws⟩ := v
    cases st with
    | succ st =>
      have e1 : topK S id = 10 := by simp [topK, hs]
      have e2 : topS S id = S := by simp [topS, hs]
      rw [topB_top hs] at HT
      rw [hs] at HH
      rw [e1, e2]
      replace HH := hide HH
      replace HT := hide HT
      clear hs e1 e2 h g4
      go_enter Tryd.func26, Tryd.ntmps26
      go_wp2_with fail
      refine HH.out.mono ?_
      rintro e w' ⟨rfl, rfl⟩
      go_wp2_with fail
      refine HT.out.mono ?_
      rintro e w' ⟨rfl, rfl⟩
      go_wp2
      go_ret
      exact ⟨rfl, hst.out⟩
    | zero =>
      have e1 : topK S id = 0 := by simp [topK, hs]
      have e2 : topS S id = setS S id (some (1, ws)) := by simp [topS, hs]
      rw [topB_bare hs] at HT
      rw [hs] at HH
      rw [e1, e2]
      obtain ⟨mb, Z, z, hz, hS, hzi, hz1, hz2⟩ := h.find hid hs
      have hout := hz.stepOut hS hid hzi 1
      rw [hz2] at hout
      have hw := hz.win id z hid hzi
      have hc := cell_of_one hz.cell
      have hl := hz.look_some hid hzi
      have hc1 : w.cell? ⟨z.a, 0, none⟩ = some (.int .i64 z.st) := by rw [cell_of_row w z.a 0 _ _ _ hw.blk]; rfl
      have hf1 := frozen_of_row w z.a 0 _ _ hw.blk
      have Hout := hide hout
      replace HH := hide HH
      replace HT := hide HT
      obtain ⟨a, x, st, ws2⟩ := z
      clear hs e1 e2 g4 g9 hz hS hst hout hw h hz1 hz2 hzi
      go_enter Tryd.func26, Tryd.ntmps26
      go_wp2_with fail
      refine HH.out.mono ?_
      rintro e w' ⟨rfl, rfl⟩
      go_wp2_with fail
      refine HT.out.mono ?_
      rintro e w' ⟨rfl, rfl⟩
      go_wp2
      go_ret
      exact ⟨rfl, Hout.out⟩

set_option maxRecDepth 100000 in
theorem shUntop_any {B : Nat} (w : World) {ae : Nat → Addr} (hE : Errs B w ae) (p n : Nat) (F : Nat → Prop) (S : Int → Option (Nat × List Int)) (id : Int) (hid : I64 id) (h : ShellAt w p F n S) (hn : n ≤ 1000000) :
    Calls Tryd.prog 36 #[.pointer (some ⟨p, 0, none⟩), .int .i64 id] w fun e w' => e = .returned (errV ae (untopK S id)) ∧ ShOut w p n F (untopS S id) w' := by
  have HT := shIsTop_any w p n F S id hid h
  have hst := hide h.stay
  have g4 : w.cell? ⟨5, 0, none⟩ = _ := hE.glob 4 (by decide)
  have key : (topB S id = false ∧ untopK S id = 5 ∧ untopS S id = S) ∨ (topB S id = true ∧ untopK S id = 0 ∧ untopS S id = setS S id (some (0, []))) := by
    rcases hs : S id with _ | ⟨_ | st, ws⟩
    · left; simp [topB, untopK, untopS, hs]
    · left; simp [topB, untopK, untopS, hs]
    · right; simp [topB, untopK, untopS, hs]
  rcases key with ⟨e0, e1, e2⟩ | ⟨e0, e1, e2⟩
  · rw [e1, e2]
    rw [e0] at HT
    replace HT := hide HT
    clear e0 e1 e2 h
    go_enter Tryd.func36, Tryd.ntmps36
    go_wp2_with fail
    refine HT.out.mono ?_
    rintro e w' ⟨rfl, rfl⟩
    go_wp2
    go_ret
    exact ⟨rfl, hst.out⟩
  · rw [e1, e2]
    rw [e0] at HT
    replace HT := hide HT
    obtain ⟨mb, Z, hz, hS⟩ := h
    have hc := cell_of_one hz.cell
    have hm1 := hz.map.kept (World.grownBy_alloc w (.cells #[.int .i64 0, .slice none 0 0] 74) none) (by simp)
    have hpl := hz.lt p hz.pF
    have Hz := hide hz
    have HS := hide (show Holds S Z from hS)
    have hmb := hide hm1
    clear e0 e1 e2 g4 hz hS hm1 hst
    go_enter Tryd.func36, Tryd.ntmps36
    go_wp2_with fail
    refine HT.out.mono ?_
    rintro e w' ⟨rfl, rfl⟩
    go_wp2_with (at_mapUpdate; refine wpList_put rfl _ _ _ 69 rfl 3 72 Tryd.underlying3 Tryd.underlying69 mb n _ rfl hmb.out (by unfold maxLen; omega) id _ rfl rfl hid ?_; intro w1 hm2 hg2)
    go_ret
    exact ⟨rfl, Hz.out.freshOut HS.out hm2 hg2⟩

theorem shWaits_any (w : World) (p n : Nat) (F : Nat → Prop) (S : Int → Option (Nat × List Int)) (id : Int) (hid : I64 id) (h : ShellAt w p F n S) (hl : ∀ st ws, S id = some (st, ws) → ws.length ≤ 1000000) :
    Calls Tryd.prog 29 #[.pointer (some ⟨p, 0, none⟩), .int .i64 id] w fun e w' => ∃ v, e = .returned v ∧ w'.ownsRow w.heap.size 3 1 v (((S id).map (·.2)).getD []).length ((((S id).map (·.2)).getD []).map (Value.int .i64)) ∧ Below w.heap.size w w' := by
  have HH := shHas_any w p n F S id hid h
  cases hs : S id with
  | none =>
    rw [hs] at HH
    replace HH := hide HH
    clear hs h hl
    go_enter Tryd.func29, Tryd.ntmps29
    go_wp2_with fail
    refine HH.out.mono ?_
    rintro e w' ⟨rfl, rfl⟩
    go_wp2
    go_ret
    exact ⟨_, rfl, World.ownsRow_nil _ _ _ _, Below.refl _ _⟩
  | some v =>
    obtain ⟨st, ws⟩ := v
    rw [hs] at HH
    obtain ⟨mb, Z, z, hz, hS, hzi, rfl, rfl⟩ := h.find hid hs
    have hw := hz.win id z hid hzi
    have hc := cell_of_one hz.cell
    have hlk := hz.look_some hid hzi
    have hc1 : w.cell? ⟨z.a, 1, none⟩ = some z.x := by rw [cell_of_row w z.a 1 _ _ _ hw.blk]; rfl
    have hr := Rd.of_own hw.row
    have hlen := hl _ _ hs
    obtain ⟨a, x, st, ws⟩ := z
    have HC := hide (cloneInts w x ws hr hlen)
    have hrow : w.ownsRow 0 3 1 x ws.length (ws.map (Value.int .i64)) := hw.row
    obtain ⟨A1, c1, rfl, hcc⟩ := own_form hrow
    replace HH := hide HH
    clear hs hz hS h hl hw hr hzi hrow
    go_enter Tryd.func29, Tryd.ntmps29
    go_wp2_with fail
    refine HH.out.mono ?_
    rintro e w' ⟨rfl, rfl⟩
    go_wp2_with fail
    refine HC.out.mono ?_
    rintro e w1 ⟨v1, rfl, hown, hB⟩
    obtain ⟨A2, c2, rfl, hc2⟩ := own_form hown
    replace hown := hide hown
    go_wp2
    go_ret
    exact ⟨_, rfl, hown.out, hB⟩
end Go.Proofs.YtfekldcpjoiipaaDoor
