/-
  tableauref18: Untop, Commit, Send, Ack.
-/
import Derived.Test.YtfekldcpjoiipaaDoorRef18b
import Derived.Test.YtfekldcpjoiipaaDoorInts
import Derived.Test.YtfekldcpjoiipaaDoorLaw18e
namespace Go.Proofs.YtfekldcpjoiipaaDoor
open Go.RowKit

theorem set_getD18 {L : List RWin} {k : Nat} (hk : k < L.length) (r : RWin) : (L.set k r).getD k default = r := by simp [List.getD, hk]
section
variable {w w' : World} {q : Nat} {G : Nat → Prop} {L : List RWin}
theorem RefL.setBoth {g c : Nat} (h : RefL w q G (.slice (some ⟨g, 0, none⟩) L.length c) L) {k : Nat} (hk : k < L.length) (s : Nat) :
    RefL ((w.setCell ⟨g, k * 3 + 1, none⟩ (.int .i64 s)).setCell ⟨g, k * 3 + 2, none⟩ (.slice none 0 0)) q G (.slice (some ⟨g, 0, none⟩) L.length c) (L.set k { id := (L.getD k default).id, st := s, v := .slice none 0 0, ws := [] }) := by
  have h1 := h.setSt hk s
  have hk2 : k < (L.set k { L.getD k default with st := s }).length := by simpa using hk
  have hl : (L.set k { L.getD k default with st := s }).length = L.length := by simp
  have h2 := RefL.setV (by rw [hl]; exact h1) hk2 (.slice none 0 0) [] (World.ownsRow_nil _ _ _ _) (fun b hb => by cases hb)
  rw [set_getD18 hk, hl, List.set_set] at h2
  exact h2
/-- A row laid since is put into a window. -/
theorem RefL.newV {g c : Nat} (h : RefL w q G (.slice (some ⟨g, 0, none⟩) L.length c) L) {k : Nat} (hk : k < L.length) {x : Value} {xs : List Int} (hB : Below w.heap.size w w')
    (hx : w'.ownsRow w.heap.size 3 1 x xs.length (xs.map (Value.int .i64))) :
    RefL (w'.setCell ⟨g, k * 3 + 2, none⟩ x) q (since G w w') (.slice (some ⟨g, 0, none⟩) L.length c) (L.set k { L.getD k default with v := x, ws := xs }) ∧ Chg G w (w'.setCell ⟨g, k * 3 + 2, none⟩ x) := by
  have h1 := h.chg (Chg.of_below hB (fun _ => False)) fun _ _ h => h
  have h2 : RefL w' q (since G w w') (.slice (some ⟨g, 0, none⟩) L.length c) L := h1.wider (fun _ => .inl) (fun b hb => by rcases hb with hb | hb; exact h1.glt b hb; exact hb.2)
  exact ⟨h2.setV hk x xs (own_le hx (Nat.zero_le _)) (fun b hb => .inr (hx.lt b hb)), (Chg.of_below hB G).trans (Chg.setCell w' (h.gv g rfl) x) (Ext.refl _ _)⟩
theorem toS_st {id : Int} (hn : (L.map RWin.id).Nodup) {k : Nat} (hk : k < L.length) (hid : (L.getD k default).id = id) (s : Nat) : toS (L.set k { L.getD k default with st := s }) = setS (toS L) id (some (s, (L.getD k default).ws)) := by
  rw [← hid]; exact toS_set hn hk _ rfl
theorem toS_v {id : Int} (hn : (L.map RWin.id).Nodup) {k : Nat} (hk : k < L.length) (hid : (L.getD k default).id = id) (x : Value) (xs : List Int) : toS (L.set k { L.getD k default with v := x, ws := xs }) = setS (toS L) id (some ((L.getD k default).st, xs)) := by
  rw [← hid]; exact toS_set hn hk _ rfl
theorem toS_all {id : Int} (hn : (L.map RWin.id).Nodup) {k : Nat} (hk : k < L.length) (hid : (L.getD k default).id = id) (s : Nat) (x : Value) (xs : List Int) : toS (L.set k { id := (L.getD k default).id, st := s, v := x, ws := xs }) = setS (toS L) id (some (s, xs)) := by
  rw [← hid]; exact toS_set hn hk _ rfl
theorem RefOut.of {v' : Value} {L' : List RWin} {n : Nat} {S' : Int → Option (Nat × List Int)} (h : RefL w' q (since G w w') v' L') (hS : toS L' = S') (hn : L'.length ≤ n + 1) (hc : Chg G w w') : RefOut w q G n S' w' := ⟨v', L', h, hS, hn, hc⟩
end

set_option maxRecDepth 100000 in
theorem rUntop_any (w : World) (q : Nat) (G : Nat → Prop) (v : Value) (L : List RWin) (id : Int) (h : RefL w q G v L) (hl : L.length ≤ 1000) :
    Calls Tryd.prog 40 #[.pointer (some ⟨q, 0, none⟩), .int .i64 id] w fun e w' => e = .returned (.int .i64 (untopK (toS L) id)) ∧ RefOut w q G L.length (untopS (toS L) id) w' := by
  rcases found_or L id with hn | ⟨k, hk, hid⟩
  · have cS := hide (rStep_no h hl hn)
    have e1 := toS_none hn
    have hK : untopK (toS L) id = 5 := by unfold untopK; rw [e1]
    have hS : untopS (toS L) id = toS L := by unfold untopS; rw [e1]
    rw [hK, hS]
    replace h := hide h
    clear hn e1 hK hS
    go_enter Tryd.func40, Tryd.ntmps40
    go_wp2_with fail
    refine (cS.out).mono ?_
    rintro e w' ⟨rfl, rfl⟩
    go_wp2
    go_ret
    exact ⟨rfl, h.out.stay⟩
  · have cS := rStep_at h hl hk hid
    have e1 := toS_some h.ids hk
    rw [hid] at e1
    obtain ⟨g, c, rfl, k1, k2, fr, hg⟩ := h.at hk
    have cW := hide (rW_at h hl hk hid)
    have hset := h.setBoth hk 0
    have hts := toS_all h.ids hk hid 0 (.slice none 0 0) []
    have hL2 : (L.set k { id := (L.getD k default).id, st := 0, v := .slice none 0 0, ws := [] }).length ≤ L.length + 1 := by simp
    have hf1 := fr (k * 3 + 1)
    have hf2 : (w.setCell ⟨g, k * 3 + 1, none⟩ (.int .i64 (0 : Nat))).frozen? ⟨g, k * 3 + 2, none⟩ = false := by
      obtain ⟨cur, hgb⟩ := own_open18 h.row
      have := heap_setCell_same w g (k * 3 + 1) _ _ (.int .i64 (0 : Nat)) hgb
      simp only [World.frozen?, this]
      simp
    have hc2 : (w.setCell ⟨g, k * 3 + 1, none⟩ (.int .i64 (0 : Nat))).cell? ⟨g, k * 3 + 2, none⟩ = some (L.getD k default).v := by rw [World.cell?_setCell_other _ _ _ _ (by simp)]; exact k2
    have hG : ∀ b, b = g → G b := fun b hb => hb ▸ hg
    have hcg := hide ((Chg.setCell (F := G) w (a := ⟨g, k * 3 + 1, none⟩) hg (.int .i64 (0 : Nat))).trans (Chg.setCell (F := G) _ (a := ⟨g, k * 3 + 2, none⟩) hg (.slice none 0 0)) (Ext.refl _ _))
    rw [show untopK (toS L) id = untopK (fun _ => some ((L.getD k default).st, (L.getD k default).ws)) id by unfold untopK; rw [e1]]
    rw [show untopS (toS L) id = match ((L.getD k default).st, (L.getD k default).ws) with | (_ + 1, _) => setS (toS L) id (some (0, [])) | _ => toS L by unfold untopS; rw [e1]; cases (L.getD k default).st <;> rfl]
    generalize L.set k { id := (L.getD k default).id, st := 0, v := .slice none 0 0, ws := [] } = L' at hset hts hL2
    generalize (L.getD k default).st = s at cS k1
    generalize (L.getD k default).v = vx at k2 hc2
    replace cS := hide cS
    replace hts := hide hts
    replace h := hide h
    replace hset := hide hset
    cases s with
    | zero =>
      go_enter Tryd.func40, Tryd.ntmps40
      go_wp2_with fail
      refine (cS.out).mono ?_
      rintro e w' ⟨rfl, rfl⟩
      go_wp2
      go_ret
      exact ⟨rfl, h.out.stay⟩
    | succ s =>
      have hd1 : decide (((s + 1 : Nat) : Int) < 1) = false := by simp; omega
      have hK : untopK (fun _ => some (s + 1, (L.getD k default).ws)) id = 0 := rfl
      rw [hK]
      show Calls _ _ _ _ fun e w' => _ ∧ RefOut w q G L.length (setS (toS L) id (some (0, []))) w'
      obtain ⟨t, ht⟩ : ∃ t, t = s + 1 := ⟨_, rfl⟩
      rw [← ht] at hd1 cS k1
      replace ht := hide ht
      go_enter Tryd.func40, Tryd.ntmps40
      go_wp2_with fail
      refine (cS.out).mono ?_
      rintro e w' ⟨rfl, rfl⟩
      go_wp2_with fail
      refine (cW.out).mono ?_
      rintro e w' ⟨rfl, rfl⟩
      go_wp2
      go_ret
      exact ⟨rfl, RefL.out h.out.glt hset.out hL2 hts.out hcg.out⟩

set_option maxRecDepth 100000 in
theorem rSend_any (w : World) (q : Nat) (G : Nat → Prop) (v : Value) (L : List RWin) (id x : Int) (h : RefL w q G v L) (hl : L.length ≤ 1000) (hs : ∀ st ws, toS L id = some (st, ws) → ws.length ≤ 1000) :
    Calls Tryd.prog 41 #[.pointer (some ⟨q, 0, none⟩), .int .i64 id, .int .i64 x] w fun e w' => e = .returned (.int .i64 (sendK (toS L) id)) ∧ RefOut w q G L.length (sendS (toS L) id x) w' := by
  obtain ⟨i0, hi, hz0, hz1, hz2⟩ := info_parts Tryd.infoInt
  rcases found_or L id with hn | ⟨k, hk, hid⟩
  · have cS := hide (rStep_no h hl hn)
    have e1 := toS_none hn
    have hK : sendK (toS L) id = 5 := by unfold sendK; rw [e1]
    have hS : sendS (toS L) id x = toS L := by unfold sendS; rw [e1]
    rw [hK, hS]
    replace h := hide h
    clear hn e1 hK hS
    go_enter Tryd.func41, Tryd.ntmps41
    go_wp2_with fail
    refine (cS.out).mono ?_
    rintro e w' ⟨rfl, rfl⟩
    go_wp2
    go_ret
    exact ⟨rfl, h.out.stay⟩
  · have cS := rStep_at h hl hk hid
    have e1 := toS_some h.ids hk
    rw [hid] at e1
    have hwl := hs _ _ e1
    obtain ⟨g, c, rfl, k1, k2, fr, hg⟩ := h.at hk
    have cW := hide (rW_at h hl hk hid)
    have hts := fun v xs => toS_v h.ids hk hid v xs
    have hset := fun (w' : World) (v : Value) (xs : List Int) (hB : Below w.heap.size w w') => h.newV (w' := w') hk (x := v) (xs := xs) hB
    have hser := h.serials _ (getD_mem18 hk)
    rw [show sendK (toS L) id = sendK (fun _ => some ((L.getD k default).st, (L.getD k default).ws)) id by unfold sendK; rw [e1]]
    rw [show sendS (toS L) id x = match (L.getD k default).st with | _ + 1 => setS (toS L) id (some ((L.getD k default).st, (L.getD k default).ws ++ [x])) | _ => toS L by unfold sendS; rw [e1]; cases (L.getD k default).st <;> rfl]
    obtain ⟨A, cc, hv, hcc⟩ := own_form hser
    rw [hv] at k2 hser
    have hlt : g < w.heap.size := h.glt g hg
    obtain ⟨curg, hgb⟩ := own_open18 h.row
    generalize (L.getD k default).ws = ws at *
    generalize (L.getD k default).st = s at *
    have hrd := Rd.of_own hser
    obtain ⟨n, hn⟩ : ∃ n, n = ws.length := ⟨_, rfl⟩
    rw [← hn] at k2 hrd hwl hcc
    replace hn := hide hn
    replace cS := hide cS
    replace hts := hide hts
    replace hset := hide hset
    replace h := hide h
    replace hser := hide hser
    clear hv e1
    cases s with
    | zero =>
      go_enter Tryd.func41, Tryd.ntmps41
      go_wp2_with fail
      refine (cS.out).mono ?_
      rintro e w' ⟨rfl, rfl⟩
      go_wp2
      go_ret
      exact ⟨rfl, h.out.stay⟩
    | succ s =>
      have hd1 : decide (((s + 1 : Nat) : Int) < 1) = false := by simp; omega
      have hK : sendK (fun _ => some (s + 1, ws)) id = 0 := rfl
      rw [hK]
      show Calls _ _ _ _ fun e w' => _ ∧ RefOut w q G L.length (setS (toS L) id (some (s + 1, ws ++ [x]))) w'
      obtain ⟨t, ht⟩ : ∃ t, t = s + 1 := ⟨_, rfl⟩
      rw [← ht] at hd1 cS k1 hts ⊢
      replace ht := hide ht
      go_enter Tryd.func41, Tryd.ntmps41
      go_wp2_with fail
      refine (cS.out).mono ?_
      rintro e w' ⟨rfl, rfl⟩
      go_wp2_with fail
      refine (cW.out).mono ?_
      rintro e w' ⟨rfl, rfl⟩
      go_wp2_with (first
        | (at_builtin; refine wpList_append_rd rfl _ _ 22 rfl w.heap.size 3 i0 (.int .i64 0) 1 8 Tryd.underlying22 hi hz0 hz1 hz2 rfl (by decide) _ 0 [] rfl (World.ownsRow_nil _ _ _ _) A n cc _ rfl hrd (by intro u hu; simp at hu; obtain ⟨x, _, rfl⟩ := hu; rfl) (by unfold maxLen; omega) (by omega) (Nat.le_refl _) ?_; intro v2 w2 own2 hg2; have hB2 : Below w.heap.size w w2 := (Below.refl _ _).grown hg2 (Nat.le_refl _) (fun k e => by cases e); have own0 : w2.ownsRow w.heap.size 3 1 v2 n (ws.map (Value.int .i64)) := (by simpa using own2); obtain ⟨A2, c2, rfl, hc2⟩ := own_form own0)
        | (at_builtin; refine wpList_append_own _ rfl _ _ 22 rfl w.heap.size 3 i0 (.int .i64 0) 1 8 Tryd.underlying22 hi hz0 hz1 hz2 rfl (by decide) _ _ _ rfl (own0.alloc _) ⟨w2.heap.size, 0, none⟩ 1 1 [.int .i64 x] rfl rfl (cell_one_new _ _ _) (by intro u hu; simp at hu; subst hu; rfl) (by unfold maxLen; omega) (by omega) (by have := hB2.size; simp <;> omega) ?_; intro v3 w3 own3 hg3 _; have hB3 : Below w.heap.size w w3 := ((hB2.alloc hB2.size _).grown hg3 (by have := hB2.size; simp <;> omega) (fun k hk => (own0.lt k hk).1)); have hgb3 := (hB3.block g hlt).trans hgb; have k3 : w3.cell? ⟨g, k * 3 + 2, none⟩ = some (.slice A n cc) := ((hB3.cell hlt).trans k2); have f3 : w3.frozen? ⟨g, k * 3 + 2, none⟩ = false := (by simp [World.frozen?, hgb3]); obtain ⟨A3, c3, rfl, hc3⟩ := own_form own3))
      go_ret
      have hx : w3.ownsRow w.heap.size 3 1 (.slice A3 (n + 1) c3) (ws ++ [x]).length ((ws ++ [x]).map (Value.int .i64)) := by
        have e : (ws ++ [x]).length = n + 1 := by simp [hn.out]
        rw [e]; simpa using own3
      have h1 := hset.out w3 (.slice A3 (n + 1) c3) (ws ++ [x]) hB3 hx
      exact ⟨rfl, RefOut.of (by have := h1.1; unfold since at this ⊢; simpa using this) (hts.out _ _) (by simp) h1.2⟩
end Go.Proofs.YtfekldcpjoiipaaDoor
