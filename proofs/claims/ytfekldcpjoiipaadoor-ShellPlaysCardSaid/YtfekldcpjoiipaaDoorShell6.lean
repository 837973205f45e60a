/-
  Contracts of package shell: Commit.
-/
import Derived.Test.YtfekldcpjoiipaaDoorShell3
namespace Go.Proofs.YtfekldcpjoiipaaDoor
open Go.RowKit

/-- What (*Shell).Commit answers, and does. -/
def comA0 : Nat → Bool → Nat | 1, false => 1 | 3, true => 2 | 4, false => 3 | _, _ => 0
def comK0 : Nat → Bool → Nat | 0, _ => 12 | 1, true => 12 | 2, true => 12 | _, _ => 0
def comS0 (ws : List Int) : Nat → Bool → Option (Nat × List Int) | 1, false => some (2, ws) | 3, true => some (4, ws) | 4, false => some (1, []) | _, _ => none
def comA (S : Int → Option (Nat × List Int)) (id : Int) (b : Bool) : Nat := match S id with | none => 0 | some (st, _) => comA0 st b
def comK (S : Int → Option (Nat × List Int)) (id : Int) (b : Bool) : Nat := match S id with | none => 5 | some (st, _) => comK0 st b
def comS (S : Int → Option (Nat × List Int)) (id : Int) (b : Bool) : Int → Option (Nat × List Int) := match S id with | none => S | some (st, ws) => match comS0 ws st b with | none => S | some v => setS S id (some v)

def comT (S : Int → Option (Nat × List Int)) (id : Int) (ws : List Int) (st : Nat) (b : Bool) : Int → Option (Nat × List Int) := match comS0 ws st b with | none => S | some v => setS S id (some v)

/-- Two stores: a window's step, and no serials. -/
theorem ShellZ.bothOut {w : World} {p mb n : Nat} {F : Nat → Prop} {Z : Int → Option Win} {S : Int → Option (Nat × List Int)} (h : ShellZ w p mb F n Z) (hS : Holds S Z) {id : Int} {z : Win} (hid : I64 id) (hz : Z id = some z) (st : Nat) :
    ShOut w p n F (setS S id (some (st, []))) ((w.setCell ⟨z.a, 0, none⟩ (.int .i64 st)).setCell ⟨z.a, 1, none⟩ (.slice none 0 0)) := by
  have hw := h.win id z hid hz
  have hb1 : (w.setCell ⟨z.a, 0, none⟩ (.int .i64 st)).heap[z.a]? = some (.cells #[.int .i64 st, z.x] 74 (0, 0)) := by rw [heap_setCell_same w z.a 0 _ _ _ hw.blk]; rfl
  refine h.turnOut hS hid hz st (.slice none 0 0) [] ((Chg.setCell w (a := ⟨z.a, 0, none⟩) (.inl rfl) _).trans (Chg.setCell _ (a := ⟨z.a, 1, none⟩) (.inl rfl) _) (Ext.refl _ _)) ?_ (World.ownsRow_nil _ _ _ _) (fun g hg => by cases hg)
  rw [heap_setCell_same _ z.a 1 _ _ _ hb1]; rfl


set_option maxRecDepth 100000 in
set_option maxHeartbeats 2000000 in
theorem shCommit_any {B : Nat} (w : World) {ae : Nat → Addr} (hE : Errs B w ae) (p n : Nat) (F : Nat → Prop) (S : Int → Option (Nat × List Int)) (id : Int) (at' b : Bool) (hid : I64 id) (h : ShellAt w p F n S) :
    Calls Tryd.prog 31 #[.pointer (some ⟨p, 0, none⟩), .int .i64 id, .bool at', .bool b] w fun e w' => e = .returned (.tuple #[.int .i64 (comA S id b), errV ae (comK S id b)]) ∧ ShOut w p n F (comS S id b) w' := by
  have HH := shHas_any w p n F S id hid h
  have hst := hide h.stay
  have hstN := hide (fun q => h.stayN q)
  have g4 : w.cell? ⟨5, 0, none⟩ = _ := hE.glob 4 (by decide)
  have g11 : w.cell? ⟨11, 0, none⟩ = _ := hE.glob 11 (by decide)
  rcases hs : S id with _ | ⟨st, ws⟩
  · have e1 : comK S id b = 5 := by simp [comK, hs]
    have e2 : comS S id b = S := by simp [comS, hs]
    have e3 : comA S id b = 0 := by simp [comA, hs]
    rw [hs] at HH
    rw [e1, e2, e3]
    replace HH := hide HH
    clear hs e1 e2 e3 h g11
    go_enter Tryd.func31, Tryd.ntmps31
    go_wp2_with fail
    refine HH.out.mono ?_
    rintro e w' ⟨rfl, rfl⟩
    go_wp2
    go_quiet (fail)
    go_wp2
    go_ret2
    exact ⟨rfl, hstN.out _⟩
  · obtain ⟨mb, Z, z, hz, hS, hzi, hz1', hz2'⟩ := h.find hid hs
    have hw := hz.win id z hid hzi
    have hc := cell_of_one hz.cell
    have hlk := hz.look_some hid hzi
    have hwb := hw.blk
    have hso := hide (fun st => hz.stepOut hS hid hzi st)
    have hbo := hide (hz.bothOut hS hid hzi 1)
    obtain ⟨a, x, st', ws'⟩ := z
    obtain rfl : st = st' := hz1'.symm
    obtain rfl : ws = ws' := hz2'.symm
    simp only at hlk hwb
    have c0 : w.cell? ⟨a, 0, none⟩ = some (.int .i64 (st : Int)) := by rw [cell_of_row w a 0 _ _ _ hwb]; rfl
    have c1 : w.cell? ⟨a, 1, none⟩ = some x := by rw [cell_of_row w a 1 _ _ _ hwb]; rfl
    have f0 := frozen_of_row w a 0 _ _ hwb
    have f1 := frozen_of_row w a 1 _ _ hwb
    rw [hs] at HH
    replace HH := hide HH
    have k1 : comA S id b = comA0 st b := by simp [comA, hs]
    have k2 : comK S id b = comK0 st b := by simp [comK, hs]
    have k3 : comS S id b = comT S id ws st b := by simp [comS, comT, hs]
    rw [k1, k2, k3]
    clear hz hS hw hwb h hzi hs k1 k2 k3 hz1' hz2'
    rcases st with _ | _ | _ | _ | _ | st
    all_goals cases b
    all_goals
      go_enter Tryd.func31, Tryd.ntmps31
      go_wp2_with fail
      refine HH.out.mono ?_
      rintro e w' ⟨rfl, rfl⟩
      go_wp2
    all_goals first
      | (go_ret2; exact ⟨rfl, hst.out⟩)
      | (go_ret2; exact ⟨rfl, hso.out 2⟩)
      | (go_ret2; exact ⟨rfl, hso.out 4⟩)
      | (go_ret2; exact ⟨rfl, hbo.out⟩)
      | (go_quiet (fail); go_wp2; go_ret2; exact ⟨rfl, hstN.out _⟩)
end Go.Proofs.YtfekldcpjoiipaaDoor
