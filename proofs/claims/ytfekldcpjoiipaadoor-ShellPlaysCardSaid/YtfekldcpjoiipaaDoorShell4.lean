/-
  Contracts of package shell: Send.
-/
import Derived.Test.YtfekldcpjoiipaaDoorShell3
import Derived.Deep.RegionHeld3
import Derived.Deep.AppendLies
namespace Go.Proofs.YtfekldcpjoiipaaDoor
open Go.RowKit

def sendK (S : Int → Option (Nat × List Int)) (id : Int) : Nat := match S id with | some (_ + 1, _) => 0 | _ => 5
def sendS (S : Int → Option (Nat × List Int)) (id : Int) (x : Int) : Int → Option (Nat × List Int) := match S id with | some (st + 1, ws) => setS S id (some (st + 1, ws ++ [x])) | _ => S

/-- A window's serials have grown by one. -/
theorem ShellZ.sendOut {w w1 : World} {p mb n : Nat} {F : Nat → Prop} {Z : Int → Option Win} {S : Int → Option (Nat × List Int)} (h : ShellZ w p mb F n Z) (hS : Holds S Z) {id : Int} {z : Win} (hid : I64 id) (hz : Z id = some z) (x : Int) {o : Obj} {g cap : Nat}
    (hg : (w.drew.alloc o).grownBy w1 z.x.ownBlock) (hown : w1.ownsRow 0 3 1 (.slice (some ⟨g, 0, none⟩) (z.ws.length + 1) cap) (z.ws.length + 1) (z.ws.map (Value.int .i64) ++ [.int .i64 x])) (hat : z.x.ownBlock = some g ∨ w.heap.size ≤ g) :
    ShOut w p n F (setS S id (some (z.st, z.ws ++ [x]))) (w1.setCell ⟨z.a, 1, none⟩ (.slice (some ⟨g, 0, none⟩) (z.ws.length + 1) cap)) := by
  have hw := h.win id z hid hz
  have hne : some z.a ≠ z.x.ownBlock := fun e => by
    obtain ⟨cur, hcur⟩ := own_type hw.row e.symm
    exact ne_of_types hcur hw.blk (by simp) rfl
  have h2 : (w.drew.alloc o).heap[z.a]? = some (.cells #[.int .i64 z.st, z.x] 74 (0, 0)) := (Below.heap_alloc w.drew o _ (h.lt _ hw.inF)).trans hw.blk
  have hb1 : w1.heap[z.a]? = some (.cells #[.int .i64 z.st, z.x] 74 (0, 0)) := (hg.block z.a (lt_of_block h2) hne).trans h2
  have hc1 : Chg (fun b => b = z.a ∨ z.x.ownBlock = some b) w w1 := ((Chg.refl _ w).drewN 1).alloc o |>.trans (Chg.grown hg (F := fun b => b = z.a ∨ z.x.ownBlock = some b) (fun b hb => .inr hb)) (Ext.refl _ _)
  refine h.turnOut hS hid hz z.st (.slice (some ⟨g, 0, none⟩) (z.ws.length + 1) cap) (z.ws ++ [x]) (hc1.trans (Chg.setCell w1 (a := ⟨z.a, 1, none⟩) (.inl rfl) _) (Ext.refl _ _)) ?_ ?_ ?_
  · rw [heap_setCell_same w1 z.a 1 _ _ _ hb1]; rfl
  · have : w1.ownsRow 0 3 1 (.slice (some ⟨g, 0, none⟩) (z.ws.length + 1) cap) (z.ws ++ [x]).length ((z.ws ++ [x]).map (Value.int .i64)) := by simpa using hown
    refine own_keep this fun b hb => heap_setCell_other w1 _ b _ fun e => ?_
    obtain ⟨cur, hcur⟩ := own_type hown hb
    exact ne_of_types hcur hb1 (by simp) e
  · intro g' hg'
    cases hg'
    rcases hat with h1 | h1
    · exact .inl h1
    · exact .inr h1

set_option maxRecDepth 100000 in
set_option maxHeartbeats 40000000 in
theorem shSend_any {B : Nat} (w : World) {ae : Nat → Addr} (hE : Errs B w ae) (p n : Nat) (F : Nat → Prop) (S : Int → Option (Nat × List Int)) (id serial : Int) (hid : I64 id) (h : ShellAt w p F n S) (hl : ∀ st ws, S id = some (st, ws) → ws.length ≤ 1000000) :
    Calls Tryd.prog 27 #[.pointer (some ⟨p, 0, none⟩), .int .i64 id, .int .i64 serial] w fun e w' => e = .returned (errV ae (sendK S id)) ∧ ShOut w p n F (sendS S id serial) w' := by
  obtain ⟨i0, hi, hz0, hz1, hz2⟩ := info_parts Tryd.infoInt
  have HT := shIsTop_any w p n F S id hid h
  have hst := hide h.stay
  have g4 : w.cell? ⟨5, 0, none⟩ = _ := hE.glob 4 (by decide)
  have key : (topB S id = false ∧ sendK S id = 5 ∧ sendS S id serial = S) ∨ (∃ st ws, S id = some (st + 1, ws) ∧ topB S id = true ∧ sendK S id = 0 ∧ sendS S id serial = setS S id (some (st + 1, ws ++ [serial]))) := by
    rcases hs : S id with _ | ⟨_ | st, ws⟩
    · left; simp [topB, sendK, sendS, hs]
    · left; simp [topB, sendK, sendS, hs]
    · right; exact ⟨st, ws, rfl, by simp [topB, hs], by simp [sendK, hs], by simp [sendS, hs]⟩
  rcases key with ⟨e0, e1, e2⟩ | ⟨st, ws, hs, e0, e1, e2⟩
  · rw [e1, e2]
    rw [e0] at HT
    replace HT := hide HT
    clear e0 e1 e2 h
    go_enter Tryd.func27, Tryd.ntmps27
    go_wp2_with fail
    refine HT.out.mono ?_
    rintro e w' ⟨rfl, rfl⟩
    go_wp2
    go_ret
    exact ⟨rfl, hst.out⟩
  · rw [e1, e2]
    rw [e0] at HT
    replace HT := hide HT
    obtain ⟨mb, Z, z, hz, hS, hzi, hz1', hz2'⟩ := h.find hid hs
    have hw := hz.win id z hid hzi
    have hc := cell_of_one hz.cell
    have hlk := hz.look_some hid hzi
    have hlkd : (Instr.lookup 69 (.map (some mb)) (.int .i64 id) false).run Tryd.prog w.drew = .ok (.pointer (some ⟨z.a, 0, none⟩)) w.drew := (hz.chg (G := fun _ => False) (Chg.of_below (below_drewN (Below.refl _ w) 1) _) (fun _ _ h => h)).look_some hid hzi
    have hlka : ∀ o, (Instr.lookup 69 (.map (some mb)) (.int .i64 id) false).run Tryd.prog (w.drew.alloc o) = .ok (.pointer (some ⟨z.a, 0, none⟩)) (w.drew.alloc o) := fun o => (hz.chg (G := fun _ => False) (Chg.of_below ((below_drewN (Below.refl _ w) 1).alloc (Nat.le_refl _) o) _) (fun _ _ h => h)).look_some hid hzi
    have hlkb : ∀ o, (Instr.lookup 69 (.map (some mb)) (.int .i64 id) false).run Tryd.prog (w.alloc o).drew = .ok (.pointer (some ⟨z.a, 0, none⟩)) (w.alloc o).drew := fun o => (hz.chg (G := fun _ => False) (Chg.of_below (below_drewN ((Below.refl _ w).alloc (Nat.le_refl _) o) 1) _) (fun _ _ h => h)).look_some hid hzi
    have hlkc : ∀ o, (Instr.lookup 69 (.map (some mb)) (.int .i64 id) false).run Tryd.prog (w.alloc o) = .ok (.pointer (some ⟨z.a, 0, none⟩)) (w.alloc o) := fun o => (hz.chg (G := fun _ => False) (Chg.of_below ((Below.refl _ w).alloc (Nat.le_refl _) o) _) (fun _ _ h => h)).look_some hid hzi
    have hlen := hl _ _ hs
    have hrow := hw.row
    have hc1 : w.cell? ⟨z.a, 1, none⟩ = some z.x := by rw [cell_of_row w z.a 1 _ _ _ hw.blk]; rfl
    have hf1 := frozen_of_row w z.a 1 _ _ hw.blk
    have halt := hz.lt _ hw.inF
    have hwb := hw.blk
    have Hpa := hide (ne_of_types hz.cell hwb (by simp))
    have Hz := hide hz
    have HS := hide hS
    have Hzi := hide hzi
    have hout := hide (fun o g cap w1 hg hown hat => hz.sendOut hS hid hzi serial (o := o) (w1 := w1) (g := g) (cap := cap) hg hown hat)
    rw [hz2'] at hrow
    obtain ⟨a, x, st', ws'⟩ := z
    obtain rfl : st' = st + 1 := hz1'
    obtain rfl : ws = ws' := hz2'.symm
    have Hout : Hid (∀ (o : Obj) (g cap : Nat) (w1 : World), (w.drew.alloc o).grownBy w1 x.ownBlock → w1.ownsRow 0 3 1 (.slice (some ⟨g, 0, none⟩) (ws.length + 1) cap) (ws.length + 1) (ws.map (Value.int .i64) ++ [.int .i64 serial]) → (x.ownBlock = some g ∨ w.heap.size ≤ g) → ShOut w p n F (setS S id (some (st + 1, ws ++ [serial]))) (w1.setCell ⟨a, 1, none⟩ (.slice (some ⟨g, 0, none⟩) (ws.length + 1) cap))) := hout
    simp only at hc1 hf1 hlk hlkd hlka hlkb hlkc hrow halt hwb
    obtain ⟨A1, c1, rfl, hcc⟩ := own_form hrow
    clear hs e0 e1 e2 g4 hz hS hst h hl hw
    have hrowd : w.drew.ownsRow 0 3 1 (.slice A1 ws.length c1) ws.length (ws.map (Value.int .i64)) := hrow
    have hkeep : Hid (∀ (o : Obj) (w1 : World), (w.drew.alloc o).grownBy w1 (Value.slice A1 ws.length c1).ownBlock → w1.heap[p]? = some (.cells #[.map (some mb)] 71 (0, 0)) ∧ w1.heap[a]? = some (.cells #[.int .i64 ((st + 1 : Nat) : Int), .slice A1 ws.length c1] 74 (0, 0)) ∧ ∀ q, (Instr.lookup 69 (.map (some mb)) (.int .i64 id) false).run Tryd.prog (w1.drewN q) = .ok (.pointer (some ⟨a, 0, none⟩)) (w1.drewN q)) := hide fun o w1 hg => by
      have h1 : (w.drew.alloc o).heap[p]? = some (.cells #[.map (some mb)] 71 (0, 0)) := (Below.heap_alloc w.drew o _ (Hz.out.lt p Hz.out.pF)).trans Hz.out.cell
      have h2 : (w.drew.alloc o).heap[a]? = some (.cells #[.int .i64 ((st + 1 : Nat) : Int), .slice A1 ws.length c1] 74 (0, 0)) := (Below.heap_alloc w.drew o _ halt).trans hwb
      have hne : ∀ b cs t, w.heap[b]? = some (.cells cs t (0, 0)) → t ≠ 3 → some b ≠ (Value.slice A1 ws.length c1).ownBlock := fun b cs t hb ht e => by
        obtain ⟨cur, hcur⟩ := own_type hrow e.symm
        rw [hb] at hcur
        simp only [Option.some.injEq, Obj.cells.injEq] at hcur
        exact ht hcur.2.1
      exact ⟨(hg.block p (lt_of_block h1) (hne p _ _ Hz.out.cell (by decide))).trans h1, (hg.block a (lt_of_block h2) (hne a _ _ hwb (by decide))).trans h2, fun q => by
        obtain ⟨es, cl, hm⟩ := Hz.out.map.isMapBlock
        have h3 : (w.drew.alloc o).heap[mb]? = some (.map es cl) := (Below.heap_alloc w.drew o _ (Hz.out.lt mb Hz.out.mF)).trans hm
        have hmn : some mb ≠ (Value.slice A1 ws.length c1).ownBlock := fun e => by
          obtain ⟨cur, hcur⟩ := own_type hrow e.symm
          rw [hm] at hcur; cases hcur
        have hmm : MapAt Tryd.prog 3 (w1.drewN q) mb n _ := Hz.out.map.block ((hg.block mb (lt_of_block h3) hmn).trans (h3.trans hm.symm))
        have := hmm.look Tryd.underlying3 Tryd.underlying69 (Tryd.zeroWinP (w1.drewN q)) hid
        rw [Hzi.out] at this
        exact this⟩
    clear hwb
    go_enter Tryd.func27, Tryd.ntmps27
    go_wp2_with fail
    refine HT.out.mono ?_
    rintro e w' ⟨rfl, rfl⟩
    go_wp2
    have hca1 : ∀ o, (w.alloc o).cell? ⟨a, 1, none⟩ = some (.slice A1 ws.length c1) := fun o => (World.cell?_alloc_past _ _ _ halt).trans hc1
    have hca2 : ∀ o, (w.drew.alloc o).cell? ⟨a, 1, none⟩ = some (.slice A1 ws.length c1) := fun o => (World.cell?_alloc_past _ _ _ halt).trans hc1
    have hpa : p ≠ a := Hpa.out
    have hca : ∀ o, (w.alloc o).cell? ⟨p, 0, none⟩ = some (.map (some mb)) := fun o => (World.cell?_alloc_past _ _ _ (Hz.out.lt p Hz.out.pF)).trans hc
    go_region_law (first | (refine step_append_lies _ rfl _ _ 22 rfl 0 3 i0 (.int .i64 0) 1 8 Tryd.underlying22 hi hz0 hz1 hz2 rfl (by decide) _ _ _ (by simp [Act.eval]) (hrowd.alloc _) ⟨w.heap.size, 0, none⟩ 1 1 [.int .i64 serial] (by simp [Act.eval]) rfl (cell_one_new _ _ _) (by intro u hu; simp at hu; subst hu; rfl) (by omega) (by unfold maxLen; omega) (by omega) (by omega) _ rfl ?_; intro g cap w1 hown hgrow hat hlt; have k0 := hide (hkeep.out _ _ hgrow); have k1 := cell_of_one k0.out.1; have k4 : (Instr.lookup 69 (.map (some mb)) (.int .i64 id) false).run Tryd.prog w1 = .ok (.pointer (some ⟨a, 0, none⟩)) w1 := k0.out.2.2 0; have k2 : w1.cell? ⟨a, 1, none⟩ = some (.slice A1 ws.length c1) := (by rw [cell_of_row w1 a 1 _ _ _ k0.out.2.1]; rfl); have k3 := frozen_of_row w1 a 1 _ _ k0.out.2.1; have k5 : (Instr.lookup 69 (.map (some mb)) (.int .i64 id) false).run Tryd.prog w1.drew = .ok (.pointer (some ⟨a, 0, none⟩)) w1.drew := k0.out.2.2 1; have k6 : ∀ u, (w1.setCell ⟨a, 1, none⟩ u).cell? ⟨p, 0, none⟩ = some (.map (some mb)) := fun u => (World.cell?_setCell_other _ _ _ _ (fun e => hpa (congrArg Addr.block e).symm)).trans k1))
    all_goals
      go_wp2
      go_ret
      exact ⟨rfl, Hout.out _ _ _ _ hgrow hown (hat.imp (fun h => h) (fun h => by rw [h]; show w.heap.size ≤ (w.alloc _).heap.size; simp))⟩
end Go.Proofs.YtfekldcpjoiipaaDoor
