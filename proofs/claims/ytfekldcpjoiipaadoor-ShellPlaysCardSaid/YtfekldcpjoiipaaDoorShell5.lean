/-
  Contracts of package shell: Ack.
-/
import Derived.Test.YtfekldcpjoiipaaDoorShell3
import Derived.Deep.DeepCutAuto
namespace Go.Proofs.YtfekldcpjoiipaaDoor
open Go.RowKit

/-- A window's serials are another row, laid now; its step turns with it. -/
theorem ShellZ.newRowOut {w w1 w2 : World} {p mb n : Nat} {F : Nat → Prop} {Z : Int → Option Win} {S : Int → Option (Nat × List Int)} (h : ShellZ w p mb F n Z) (hS : Holds S Z) {id : Int} {z : Win} (hid : I64 id) (hz : Z id = some z) (st : Nat) (v : Value) (ws : List Int)
    (hB : Below w.heap.size w w1) (hown : w1.ownsRow w.heap.size 3 1 v ws.length (ws.map (Value.int .i64))) (hc : Chg (fun b => b = z.a) w1 w2) (hblk : w2.heap[z.a]? = some (.cells #[.int .i64 st, v] 74 (0, 0))) :
    ShOut w p n F (setS S id (some (st, ws))) w2 := by
  have hw := h.win id z hid hz
  have ha := h.lt _ hw.inF
  refine h.turnOut hS hid hz st v ws ((Chg.of_below hB _).trans (hc.mono (fun b _ hb => .inl hb)) (Ext.refl _ _)) hblk ?_ ?_
  · refine own_keep (own_le hown (Nat.zero_le _)) fun b hb => hc.block b ?_ ?_
    · obtain ⟨cur, hcur⟩ := own_type hown hb
      exact lt_of_block hcur
    · have := (hown.lt b hb).1
      omega
  · intro g hg
    exact .inr (hown.lt g hg).1

def ackK (S : Int → Option (Nat × List Int)) (id x : Int) : Nat := match S id with | none => 5 | some (0, _) => 12 | some (_ + 1, ws) => if Lib.idxOf ws x < 0 then 13 else 0
def ackS (S : Int → Option (Nat × List Int)) (id x : Int) : Int → Option (Nat × List Int) := match S id with
  | some (st + 1, ws) => if Lib.idxOf ws x < 0 then S else setS S id (some (if st + 1 = 2 then 3 else st + 1, ws.drop ((Lib.idxOf ws x).toNat + 1)))
  | _ => S


set_option maxRecDepth 100000 in
set_option maxHeartbeats 1000000 in
theorem shAck_any {B : Nat} (w : World) {ae : Nat → Addr} (hE : Errs B w ae) (p n : Nat) (F : Nat → Prop) (S : Int → Option (Nat × List Int)) (id serial : Int) (hid : I64 id) (h : ShellAt w p F n S) (hl : ∀ st ws, S id = some (st, ws) → ws.length ≤ 1000000) :
    Calls Tryd.prog 28 #[.pointer (some ⟨p, 0, none⟩), .int .i64 id, .int .i64 serial] w fun e w' => e = .returned (errV ae (ackK S id serial)) ∧ ShOut w p n F (ackS S id serial) w' := by
  have HH := shHas_any w p n F S id hid h
  have HT := shIsTop_any w p n F S id hid h
  have hst := hide h.stay
  have g4 : w.cell? ⟨5, 0, none⟩ = _ := hE.glob 4 (by decide)
  have g11 : w.cell? ⟨11, 0, none⟩ = _ := hE.glob 11 (by decide)
  have g12 : w.cell? ⟨12, 0, none⟩ = _ := hE.glob 12 (by decide)
  rcases hs : S id with _ | ⟨_ | st, ws⟩
  · have e1 : ackK S id serial = 5 := by simp [ackK, hs]
    have e2 : ackS S id serial = S := by simp [ackS, hs]
    rw [hs] at HH
    rw [e1, e2]
    replace HH := hide HH
    clear hs e1 e2 h hl g11 g12 HT
    go_enter Tryd.func28, Tryd.ntmps28
    go_wp2_with fail
    refine HH.out.mono ?_
    rintro e w' ⟨rfl, rfl⟩
    go_wp2
    go_ret
    exact ⟨rfl, hst.out⟩
  · have e1 : ackK S id serial = 12 := by simp [ackK, hs]
    have e2 : ackS S id serial = S := by simp [ackS, hs]
    rw [topB_bare hs] at HT
    rw [hs] at HH
    rw [e1, e2]
    replace HH := hide HH
    replace HT := hide HT
    clear hs e1 e2 h hl g4 g12
    go_enter Tryd.func28, Tryd.ntmps28
    go_wp2_with fail
    refine HH.out.mono ?_
    rintro e w' ⟨rfl, rfl⟩
    go_wp2_with fail
    refine HT.out.mono ?_
    rintro e w' ⟨rfl, rfl⟩
    go_wp2
    go_ret
    exact ⟨rfl, hst.out⟩
  · rw [topB_top hs] at HT
    have hlen := hl _ _ hs
    obtain ⟨mb, Z, z, hz, hS, hzi, hz1', hz2'⟩ := h.find hid hs
    have hw := hz.win id z hid hzi
    have hc := cell_of_one hz.cell
    have hlk := hz.look_some hid hzi
    have hrow := hw.row
    have hwb := hw.blk
    have halt := hz.lt _ hw.inF
    have hout := hide (fun (st : Nat) (v : Value) (ws : List Int) (w1 w2 : World) hB hown hcg hblk => hz.newRowOut hS hid hzi st v ws (w1 := w1) (w2 := w2) hB hown hcg hblk)
    obtain ⟨a, x, st', ws'⟩ := z
    obtain rfl : st' = st + 1 := hz1'
    obtain rfl : ws = ws' := hz2'.symm
    simp only at hlk hrow hwb halt
    have hr := Rd.of_own hrow
    have HI := indexInts w x ws serial hr hlen
    have hix := idx_cases ws serial
    by_cases hneg : Lib.idxOf ws serial < 0
    · have e1 : ackK S id serial = 13 := by simp [ackK, hs, hneg]
      have e2 : ackS S id serial = S := by simp [ackS, hs, hneg]
      rw [hs] at HH
      rw [e1, e2]
      obtain ⟨A1, c1, rfl, hcc⟩ := own_form hrow
      have hc1 : w.cell? ⟨a, 1, none⟩ = some (.slice A1 ws.length c1) := by rw [cell_of_row w a 1 _ _ _ hwb]; rfl
      obtain ⟨ix, hixe⟩ : ∃ ix, ix = Lib.idxOf ws serial := ⟨_, rfl⟩
      rw [← hixe] at HI hneg
      replace HH := hide HH
      replace HT := hide HT
      replace HI := hide HI
      clear hs e1 e2 h hl g4 g11 hz hS hw hr hrow hwb hix hixe hzi hout
      go_enter Tryd.func28, Tryd.ntmps28
      go_wp2_with fail
      refine HH.out.mono ?_
      rintro e w' ⟨rfl, rfl⟩
      go_wp2_with fail
      refine HT.out.mono ?_
      rintro e w' ⟨rfl, rfl⟩
      go_wp2_with fail
      refine HI.out.mono ?_
      rintro e w' ⟨rfl, rfl⟩
      go_wp2
      go_ret
      exact ⟨rfl, hst.out⟩
    · have hi : ∃ i : Nat, i < ws.length ∧ Lib.idxOf ws serial = (i : Int) := by
        rcases hix with ⟨h1, _⟩ | ⟨k, hk, h1, _⟩
        · rw [h1] at hneg; exact absurd (by decide) hneg
        · exact ⟨k, hk, h1⟩
      obtain ⟨i, hil, hie⟩ := hi
      have e1 : ackK S id serial = 0 := by simp [ackK, hs, hneg]
      have e2 : ackS S id serial = setS S id (some (if st + 1 = 2 then 3 else st + 1, ws.drop (i + 1))) := by simp [ackS, hs, hie, show ¬ ((i : Int) < 0) by omega]
      rw [hs] at HH
      rw [e1, e2]
      rw [hie] at HI
      obtain ⟨A1, c1, rfl, hcc⟩ := own_form hrow
      obtain ⟨b, off, rfl, hbl, _⟩ := hr.open1 (by omega)
      have hc1 : w.cell? ⟨a, 1, none⟩ = some (.slice (some ⟨b, off, none⟩) ws.length c1) := by rw [cell_of_row w a 1 _ _ _ hwb]; rfl
      have hc0 : w.cell? ⟨a, 0, none⟩ = some (.int .i64 ((st + 1 : Nat) : Int)) := by rw [cell_of_row w a 0 _ _ _ hwb]; rfl
      have Hwb := hide hwb
      obtain ⟨d, hd⟩ : ∃ d, d = ws.drop (i + 1) := ⟨_, rfl⟩
      have dl : d.length = ws.length - (i + 1) := by rw [hd]; simp
      rw [← hd]
      have Hout : Hid (∀ (s' : Nat) (v : Value) (w1 w2 : World), Below w.heap.size w w1 → w1.ownsRow w.heap.size 3 1 v d.length (d.map (Value.int .i64)) → Chg (fun b => b = a) w1 w2 → w2.heap[a]? = some (.cells #[.int .i64 s', v] 74 (0, 0)) → ShOut w p n F (setS S id (some (s', d))) w2) := hide fun s' v w1 w2 h1 h2 h3 h4 => hout.out s' v _ w1 w2 h1 h2 h3 h4
      have hrd := hr.drop (i + 1) (by omega)
      rw [Nat.mul_one, ← List.map_drop, ← hd] at hrd
      have hd6 : d.length ≤ 1000000 := by omega
      rcases (show c1 = i + 1 ∨ ¬ c1 = i + 1 by omega) with hcc1 | hcc1
      · have HC : Calls Tryd.prog 51 #[.slice (some ⟨b, off, none⟩) 0 0] w fun e w' => ∃ v', e = .returned v' ∧ w'.ownsRow w.heap.size 3 1 v' d.length (d.map (Value.int .i64)) ∧ Below w.heap.size w w' := by
          have d0 : d.length = 0 := by omega
          obtain rfl := List.eq_nil_of_length_eq_zero d0
          exact cloneInts w _ [] ⟨by simp, _, _, rfl, Nat.zero_le _, fun h => absurd h (by simp)⟩ (by simp)
        subst hcc1
        replace HC := hide HC
        replace HH := hide HH
        replace HT := hide HT
        replace HI := hide HI
        replace dl := hide dl
        clear hs e1 e2 h hl g4 g11 g12 hz hS hw hr hrow hwb hix hzi hout hneg hie hst hrd hbl hd
        go_enter Tryd.func28, Tryd.ntmps28
        go_wp2_with fail
        refine HH.out.mono ?_
        rintro e w' ⟨rfl, rfl⟩
        go_wp2_with fail
        refine HT.out.mono ?_
        rintro e w' ⟨rfl, rfl⟩
        go_wp2_with fail
        refine HI.out.mono ?_
        rintro e w' ⟨rfl, rfl⟩
        go_wp2_with fail
        refine HC.out.mono ?_
        rintro e w1 ⟨v1, rfl, hown, hB⟩
        have hwb1 : w1.heap[a]? = some (.cells #[.int .i64 ((st + 1 : Nat) : Int), .slice (some ⟨b, off, none⟩) ws.length (i + 1)] 74 (0, 0)) := (hB.block a halt).trans Hwb.out
        have k0 : w1.cell? ⟨a, 0, none⟩ = some (.int .i64 ((st + 1 : Nat) : Int)) := by rw [cell_of_row w1 a 0 _ _ _ hwb1]; rfl
        have k1 : w1.cell? ⟨a, 1, none⟩ = some (.slice (some ⟨b, off, none⟩) ws.length (i + 1)) := by rw [cell_of_row w1 a 1 _ _ _ hwb1]; rfl
        have f0 := frozen_of_row w1 a 0 _ _ hwb1
        have f1 := frozen_of_row w1 a 1 _ _ hwb1
        obtain ⟨A2, c2, rfl, hc2⟩ := own_form hown
        have kk0 : (w1.setCell ⟨a, 1, none⟩ (.slice A2 d.length c2)).cell? ⟨a, 0, none⟩ = some (.int .i64 ((st + 1 : Nat) : Int)) := by rw [World.cell?_setCell_other _ _ _ _ (by simp)]; exact k0
        have hb2 : (w1.setCell ⟨a, 1, none⟩ (.slice A2 d.length c2)).heap[a]? = some (.cells #[.int .i64 ((st + 1 : Nat) : Int), .slice A2 d.length c2] 74 (0, 0)) := by rw [heap_setCell_same w1 a 1 _ _ _ hwb1]; rfl
        have hb3 : ((w1.setCell ⟨a, 1, none⟩ (.slice A2 d.length c2)).setCell ⟨a, 0, none⟩ (.int .i64 3)).heap[a]? = some (.cells #[.int .i64 3, .slice A2 d.length c2] 74 (0, 0)) := by rw [heap_setCell_same _ a 0 _ _ _ hb2]; rfl
        have o2 := fun h => Hout.out (st + 1) _ w1 _ hB hown (Chg.setCell (F := fun b => b = a) w1 (a := ⟨a, 1, none⟩) rfl (.slice A2 d.length c2)) h
        have o3 := fun h => Hout.out 3 _ w1 _ hB hown ((Chg.setCell (F := fun b => b = a) w1 (a := ⟨a, 1, none⟩) rfl (.slice A2 d.length c2)).trans (Chg.setCell (F := fun b => b = a) _ (a := ⟨a, 0, none⟩) rfl (.int .i64 3)) (Ext.refl _ _)) h
        have O2 := hide (o2 hb2)
        have O3 := hide (o3 hb3)
        clear o2 o3 hb2 hb3 hown hwb1
        rcases (show st = 1 ∨ st ≠ 1 by omega) with hst2 | hst2
        · subst hst2
          go_wp2
          go_ret
          exact ⟨rfl, O3.out⟩
        · have hq : (((st + 1 : Nat) : Int) == 2) = false := by simp; omega
          go_wp2
          go_ret
          exact ⟨rfl, O2.out⟩
      · have HC : Calls Tryd.prog 51 #[.slice (some ⟨b, off + (i + 1), none⟩) (ws.length - (i + 1)) (c1 - (i + 1))] w fun e w' => ∃ v', e = .returned v' ∧ w'.ownsRow w.heap.size 3 1 v' d.length (d.map (Value.int .i64)) ∧ Below w.heap.size w w' := by
          rw [← dl] at hrd ⊢
          exact cloneInts w _ d hrd hd6
        replace HC := hide HC
        replace HH := hide HH
        replace HT := hide HT
        replace HI := hide HI
        replace dl := hide dl
        clear hs e1 e2 h hl g4 g11 g12 hz hS hw hr hrow hwb hix hzi hout hneg hie hst hrd hbl hd
        go_enter Tryd.func28, Tryd.ntmps28
        go_wp2_with fail
        refine HH.out.mono ?_
        rintro e w' ⟨rfl, rfl⟩
        go_wp2_with fail
        refine HT.out.mono ?_
        rintro e w' ⟨rfl, rfl⟩
        go_wp2_with fail
        refine HI.out.mono ?_
        rintro e w' ⟨rfl, rfl⟩
        go_wp2_with fail
        refine HC.out.mono ?_
        rintro e w1 ⟨v1, rfl, hown, hB⟩
        have hwb1 : w1.heap[a]? = some (.cells #[.int .i64 ((st + 1 : Nat) : Int), .slice (some ⟨b, off, none⟩) ws.length c1] 74 (0, 0)) := (hB.block a halt).trans Hwb.out
        have k0 : w1.cell? ⟨a, 0, none⟩ = some (.int .i64 ((st + 1 : Nat) : Int)) := by rw [cell_of_row w1 a 0 _ _ _ hwb1]; rfl
        have k1 : w1.cell? ⟨a, 1, none⟩ = some (.slice (some ⟨b, off, none⟩) ws.length c1) := by rw [cell_of_row w1 a 1 _ _ _ hwb1]; rfl
        have f0 := frozen_of_row w1 a 0 _ _ hwb1
        have f1 := frozen_of_row w1 a 1 _ _ hwb1
        obtain ⟨A2, c2, rfl, hc2⟩ := own_form hown
        have kk0 : (w1.setCell ⟨a, 1, none⟩ (.slice A2 d.length c2)).cell? ⟨a, 0, none⟩ = some (.int .i64 ((st + 1 : Nat) : Int)) := by rw [World.cell?_setCell_other _ _ _ _ (by simp)]; exact k0
        have hb2 : (w1.setCell ⟨a, 1, none⟩ (.slice A2 d.length c2)).heap[a]? = some (.cells #[.int .i64 ((st + 1 : Nat) : Int), .slice A2 d.length c2] 74 (0, 0)) := by rw [heap_setCell_same w1 a 1 _ _ _ hwb1]; rfl
        have hb3 : ((w1.setCell ⟨a, 1, none⟩ (.slice A2 d.length c2)).setCell ⟨a, 0, none⟩ (.int .i64 3)).heap[a]? = some (.cells #[.int .i64 3, .slice A2 d.length c2] 74 (0, 0)) := by rw [heap_setCell_same _ a 0 _ _ _ hb2]; rfl
        have o2 := fun h => Hout.out (st + 1) _ w1 _ hB hown (Chg.setCell (F := fun b => b = a) w1 (a := ⟨a, 1, none⟩) rfl (.slice A2 d.length c2)) h
        have o3 := fun h => Hout.out 3 _ w1 _ hB hown ((Chg.setCell (F := fun b => b = a) w1 (a := ⟨a, 1, none⟩) rfl (.slice A2 d.length c2)).trans (Chg.setCell (F := fun b => b = a) _ (a := ⟨a, 0, none⟩) rfl (.int .i64 3)) (Ext.refl _ _)) h
        have O2 := hide (o2 hb2)
        have O3 := hide (o3 hb3)
        clear o2 o3 hb2 hb3 hown hwb1
        rcases (show st = 1 ∨ st ≠ 1 by omega) with hst2 | hst2
        · subst hst2
          go_wp2
          go_ret
          exact ⟨rfl, O3.out⟩
        · have hq : (((st + 1 : Nat) : Int) == 2) = false := by simp; omega
          go_wp2
          go_ret
          exact ⟨rfl, O2.out⟩
end Go.Proofs.YtfekldcpjoiipaaDoor
