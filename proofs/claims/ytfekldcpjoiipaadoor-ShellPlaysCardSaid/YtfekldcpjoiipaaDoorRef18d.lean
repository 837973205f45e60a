/-
  tableauref18: Commit, Ack.
-/
import Derived.Test.YtfekldcpjoiipaaDoorRef18c
namespace Go.Proofs.YtfekldcpjoiipaaDoor
open Go.RowKit

set_option maxRecDepth 100000 in
theorem rCommit_any (w : World) (q : Nat) (G : Nat → Prop) (v : Value) (L : List RWin) (id : Int) (b : Bool) (h : RefL w q G v L) (hl : L.length ≤ 1000) :
    Calls Tryd.prog 43 #[.pointer (some ⟨q, 0, none⟩), .int .i64 id, .bool b] w fun e w' => e = .returned (.tuple #[.int .i64 (comA (toS L) id b), .int .i64 (comK (toS L) id b)]) ∧ RefOut w q G L.length (comS (toS L) id b) w' := by
  rcases found_or L id with hn | ⟨k, hk, hid⟩
  · have cS := hide (rStep_no h hl hn)
    have e0 := toS_none hn
    have e1 : comK (toS L) id b = 5 := by simp [comK, e0]
    have e2 : comS (toS L) id b = toS L := by simp [comS, e0]
    have e3 : comA (toS L) id b = 0 := by simp [comA, e0]
    rw [e1, e2, e3]
    replace h := hide h
    clear hn e0 e1 e2 e3
    go_enter Tryd.func43, Tryd.ntmps43
    go_wp2_with fail
    refine (cS.out).mono ?_
    rintro e w' ⟨rfl, rfl⟩
    go_wp2
    go_ret2
    exact ⟨rfl, h.out.stay⟩
  · have cS := rStep_at h hl hk hid
    have e1 := toS_some h.ids hk
    rw [hid] at e1
    obtain ⟨g, c, rfl, k1, k2, fr, hg⟩ := h.at hk
    have cW := hide (rW_at h hl hk hid)
    have hst := hide h.stay
    have hS1 := hide (fun s => RefL.out h.glt (h.setSt hk s) (n := L.length) (by simp) (toS_st h.ids hk hid s) (Chg.setCell w (a := ⟨g, k * 3 + 1, none⟩) hg _))
    have hS2 := hide (RefL.out h.glt (h.setBoth hk 1) (n := L.length) (by simp) (toS_all h.ids hk hid 1 _ _) ((Chg.setCell (F := G) w (a := ⟨g, k * 3 + 1, none⟩) hg (.int .i64 (1 : Nat))).trans (Chg.setCell (F := G) _ (a := ⟨g, k * 3 + 2, none⟩) hg (.slice none 0 0)) (Ext.refl _ _)))
    have hf1 := fr (k * 3 + 1)
    have hf2 := fr (k * 3 + 2)
    generalize (L.getD k default).v = vx at k2
    have k1' : comA (toS L) id b = comA0 (L.getD k default).st b := by simp [comA, e1]
    have k2' : comK (toS L) id b = comK0 (L.getD k default).st b := by simp [comK, e1]
    have k3' : comS (toS L) id b = comT (toS L) id (L.getD k default).ws (L.getD k default).st b := by simp [comS, comT, e1]
    rw [k1', k2', k3']
    clear k1' k2' k3' e1 h hid fr
    generalize (L.getD k default).st = s at cS k1 ⊢
    replace cS := hide cS
    generalize (L.getD k default).ws = ws at hS1 ⊢
    rcases (show s = 0 ∨ s = 1 ∨ s = 2 ∨ s = 3 ∨ s = 4 ∨ 5 ≤ s by omega) with rfl | rfl | rfl | rfl | rfl | h5
    case inr.inr.inr.inr.inr =>
      have hd1 : decide ((s : Int) < 0) = false := (by simp)
      have hd2 : decide ((s : Int) < 3) = false := (by simp; omega)
      have hd3 : ((s : Int) == 0) = false := (by simp; omega)
      have hd4 : ((s : Int) == 1) = false := (by simp; omega)
      have hd5 : ((s : Int) == 3) = false := (by simp; omega)
      have hd6 : ((s : Int) == 4) = false := (by simp; omega)
      have e : comA0 s b = 0 ∧ comK0 s b = 0 ∧ comT (toS L) id ws s b = toS L := by
        obtain ⟨t, rfl⟩ : ∃ t, s = t + 5 := ⟨s - 5, by omega⟩
        cases b <;> exact ⟨rfl, rfl, rfl⟩
      rw [e.1, e.2.1, e.2.2]
      clear e
      cases b
      all_goals
        go_enter Tryd.func43, Tryd.ntmps43
        go_wp2_with fail
        refine (cS.out).mono ?_
        rintro e w' ⟨rfl, rfl⟩
        go_wp2_with fail
        refine (cW.out).mono ?_
        rintro e w' ⟨rfl, rfl⟩
        go_wp2
        go_ret2
        exact ⟨rfl, hst.out⟩
    all_goals cases b
    all_goals
      go_enter Tryd.func43, Tryd.ntmps43
      go_wp2_with fail
      refine (cS.out).mono ?_
      rintro e w' ⟨rfl, rfl⟩
      first
        | (go_wp2_with fail; refine (cW.out).mono ?_; rintro e w' ⟨rfl, rfl⟩)
        | skip
      go_wp2
    all_goals first
      | (go_ret2; exact ⟨rfl, hst.out⟩)
      | (go_ret2; exact ⟨rfl, hS1.out 2⟩)
      | (go_ret2; exact ⟨rfl, hS1.out 4⟩)
      | (go_ret2; exact ⟨rfl, hS2.out⟩)


set_option maxRecDepth 100000 in
set_option maxHeartbeats 1000000 in
theorem rAck_any (w : World) (q : Nat) (G : Nat → Prop) (v : Value) (L : List RWin) (id x : Int) (h : RefL w q G v L) (hl : L.length ≤ 1000) (hs : ∀ st ws, toS L id = some (st, ws) → ws.length ≤ 1000) :
    Calls Tryd.prog 42 #[.pointer (some ⟨q, 0, none⟩), .int .i64 id, .int .i64 x] w fun e w' => e = .returned (.int .i64 (ackK (toS L) id x)) ∧ RefOut w q G L.length (ackS (toS L) id x) w' := by
  obtain ⟨i0, hi, hz0, hz1, hz2⟩ := info_parts Tryd.infoInt
  rcases found_or L id with hn | ⟨k, hk, hid⟩
  · have cS := hide (rStep_no h hl hn)
    have e1 := toS_none hn
    have hK : ackK (toS L) id x = 5 := by unfold ackK; rw [e1]
    have hS : ackS (toS L) id x = toS L := by unfold ackS; rw [e1]
    rw [hK, hS]
    replace h := hide h
    clear hn e1 hK hS
    go_enter Tryd.func42, Tryd.ntmps42
    go_wp2_with fail
    refine (cS.out).mono ?_
    rintro e w' ⟨rfl, rfl⟩
    go_wp2
    go_ret
    exact ⟨rfl, h.out.stay⟩
  · have cS := rStep_at h hl hk hid
    have e1 := toS_some h.ids hk
    rw [hid] at e1
    have hwl := hs _ _ e1
    by_cases hst0 : (L.getD k default).st = 0
    · rw [hst0] at cS e1
      have hK : ackK (toS L) id x = 12 := by unfold ackK; rw [e1]
      have hS : ackS (toS L) id x = toS L := by unfold ackS; rw [e1]
      rw [hK, hS]
      replace cS := hide cS
      have hn : True := trivial
      clear hst0 hwl
      replace h := hide h
      clear hn e1 hK hS
      go_enter Tryd.func42, Tryd.ntmps42
      go_wp2_with fail
      refine (cS.out).mono ?_
      rintro e w' ⟨rfl, rfl⟩
      go_wp2
      go_ret
      exact ⟨rfl, h.out.stay⟩
    · obtain ⟨s, hsS⟩ : ∃ s, (L.getD k default).st = s + 1 := ⟨(L.getD k default).st - 1, by omega⟩
      have hK : ackK (toS L) id x = if Lib.idxOf (L.getD k default).ws x < 0 then 13 else 0 := by unfold ackK; rw [e1, hsS]
      have hS : ackS (toS L) id x = if Lib.idxOf (L.getD k default).ws x < 0 then toS L else setS (toS L) id (some (if (L.getD k default).st = 2 then 3 else (L.getD k default).st, (L.getD k default).ws.drop ((Lib.idxOf (L.getD k default).ws x).toNat + 1))) := by unfold ackS; rw [e1, hsS]
      rw [hK, hS]
      obtain ⟨K0, hK0⟩ : ∃ K0 : Nat, K0 = if Lib.idxOf (L.getD k default).ws x < 0 then 13 else 0 := ⟨_, rfl⟩
      obtain ⟨S0, hS0⟩ : ∃ S0, S0 = if Lib.idxOf (L.getD k default).ws x < 0 then toS L else setS (toS L) id (some (if (L.getD k default).st = 2 then 3 else (L.getD k default).st, (L.getD k default).ws.drop ((Lib.idxOf (L.getD k default).ws x).toNat + 1))) := ⟨_, rfl⟩
      rw [← hK0, ← hS0]
      replace hK0 := hide hK0
      replace hS0 := hide hS0
      obtain ⟨g, c, rfl, k1, k2, fr, hg⟩ := h.at hk
      have cW := hide (rW_at h hl hk hid)
      have hser := h.serials _ (getD_mem18 hk)
      obtain ⟨A, cc, hv, hcc⟩ := own_form hser
      rw [hv] at k2 hser
      have hlt : g < w.heap.size := h.glt g hg
      obtain ⟨curg, hgb⟩ := own_open18 h.row
      have hnew := hide (fun (w' : World) (v : Value) (xs : List Int) (hB : Below w.heap.size w w') => h.newV (w' := w') hk (x := v) (xs := xs) hB)
      have hts := hide (fun v xs => toS_v h.ids hk hid v xs)
      have hts3 := hide (fun v xs => toS_all h.ids hk hid 3 v xs)
      have hst := hide h.stay
      have hGlt := hide h.glt
      have hrow := h.row
      have hlen : ∀ r, (L.set k r).length = L.length := fun r => by simp
      clear hsS hK hS e1 hs h hv fr
      generalize (L.getD k default).ws = ws at *
      generalize (L.getD k default).st = st at *
      have hd1 : ((st : Int) == -1) = false := by simp
      have hd2 : ((st : Int) == 0) = false := by simp; omega
      have hrd := Rd.of_own hser
      obtain ⟨n, hn⟩ : ∃ n, n = ws.length := ⟨_, rfl⟩
      rw [← hn] at k2 hrd hwl hcc
      replace hn := hide hn
      replace cS := hide cS
      replace hser := hide hser
      replace hrow := hide hrow
      replace hgb := hide hgb
      clear hst0
      go_enter Tryd.func42, Tryd.ntmps42
      go_wp2_with fail
      refine (cS.out).mono ?_
      rintro e w' ⟨rfl, rfl⟩
      go_wp2_with fail
      refine (cW.out).mono ?_
      rintro e w' ⟨rfl, rfl⟩
      go_wp2
      go_loopw [8] (fun i wr => ∃ j : Nat, j ≤ n ∧ i = .int .i64 j ∧ Hid (∀ t, t < j → ws.getD t 0 ≠ x) ∧ wr = w)
        (fun i _ => n - (intOf i).toNat)
      case atStart => exact ⟨0, Nat.zero_le _, rfl, hide (fun t ht => absurd ht (by omega)), rfl⟩
      case round =>
        obtain ⟨j, hj, rfl, hT, hwr⟩ := hrel
        replace hwr := hwr.symm
        subst hwr
        by_cases hjl : j < n
        · obtain ⟨b, off, rfl, hb1, hcell⟩ := hrd.open1 (by omega)
          have hcx := hcell j hjl
          have hdr := Rd.drop hrd (j + 1) (by omega)
          obtain ⟨y, hy⟩ : ∃ y, y = ws.getD j 0 := ⟨_, rfl⟩
          rw [← hy] at hcx
          replace hy := hide hy
          clear hcell
          by_cases hyx : y = x
          · have hb : (y == x) = true := by simpa using hyx
            have hidx : Lib.idxOf ws x = (j : Int) := by
              rcases idx_cases ws x with ⟨_, h2⟩ | ⟨k', hk', h1, h2, h3⟩
              · exfalso
                apply h2
                rw [← hyx, hy.out]
                have : j < ws.length := by rw [← hn.out]; exact hjl
                simp [List.getD, this]
              · rw [h1]
                rcases Nat.lt_trichotomy k' j with hlt | heq | hlt
                · exact absurd h2 (hT.out k' hlt)
                · rw [heq]
                · exact absurd (hy.out.symm.trans hyx) (h3 j hlt)
            have hres : S0 = setS (toS L) id (some (if st = 2 then 3 else st, ws.drop (j + 1))) := by
              rw [hS0.out, hidx, if_neg (by omega)]; simp
            have hres0 : K0 = 0 := by rw [hK0.out, hidx, if_neg (by omega)]
            have hdm : ((ws.map (Value.int .i64)).drop ((j + 1) * 1)) = (ws.drop (j + 1)).map (Value.int .i64) := by rw [Nat.mul_one, List.map_drop]
            rw [hdm, Nat.mul_one] at hdr
            have hdn : (ws.drop (j + 1)).length = n - (j + 1) := by rw [List.length_drop, ← hn.out]
            generalize ws.drop (j + 1) = ds at *
            have hmn : n - (j + 1) ≤ 1000 := by omega
            replace hdn := hide hdn
            replace hT := hide hT
            replace hidx := hide hidx
            replace hres := hide hres
            replace hres0 := hide hres0
            have hdr := hide (show Rd w (.slice (if cc = j + 1 then some ⟨b, off, none⟩ else some ⟨b, off + (j + 1), none⟩) (n - (j + 1)) (cc - (j + 1))) 1 (n - (j + 1)) (ds.map (Value.int .i64)) by
              by_cases hcj : cc = j + 1
              · rw [if_pos hcj]
                exact ⟨hdr.1, _, _, rfl, by omega, fun h => absurd h (by omega)⟩
              · rw [if_neg hcj]; exact hdr)
            by_cases hs2 : st = 2
            · have hq : ((st : Int) == 2) = true := by subst hs2; rfl
              go_wp2_with (at_builtin; refine wpList_append_rd rfl _ _ 22 rfl w.heap.size 3 i0 (.int .i64 0) 1 8 Tryd.underlying22 hi hz0 hz1 hz2 rfl (by decide) _ 0 [] rfl (World.ownsRow_nil _ _ _ _) _ (n - (j + 1)) _ _ rfl hdr.out (by intro u hu; simp at hu; obtain ⟨x, _, rfl⟩ := hu; rfl) (by unfold maxLen; omega) (by omega) (Nat.le_refl _) ?_; intro v2 w2 own2 hg2; have hB2 : Below w.heap.size w w2 := (Below.refl _ _).grown hg2 (Nat.le_refl _) (fun k e => by cases e); replace own2 : w2.ownsRow w.heap.size 3 1 v2 (n - (j + 1)) (ds.map (Value.int .i64)) := (by simpa using own2); obtain ⟨A2, c2, rfl, hc2⟩ := own_form own2; have hgb2 := (hB2.block g hlt).trans hgb.out; have k3 : w2.cell? ⟨g, k * 3 + 2, none⟩ = some (.slice (some ⟨b, off, none⟩) n cc) := ((hB2.cell hlt).trans k2); have f3 : w2.frozen? ⟨g, k * 3 + 2, none⟩ = false := (by simp [World.frozen?, hgb2]); have k4 : w2.cell? ⟨g, k * 3 + 1, none⟩ = some (.int .i64 st) := ((hB2.cell hlt).trans k1); have f4 : w2.frozen? ⟨g, k * 3 + 1, none⟩ = false := (by simp [World.frozen?, hgb2]))
              all_goals
                go_ret
                obtain ⟨hn1, hg1⟩ := hnew.out w2 (.slice A2 (n - (j + 1)) c2) ds hB2 (by rw [hdn.out]; exact own2)
                have hset := RefL.setSt (by rw [hlen]; exact hn1) (k := k) (by simpa using hk) 3
                rw [set_getD18 hk, hlen, List.set_set] at hset
                refine ⟨by rw [hres0.out]; rfl, ?_⟩
                rw [hres.out, if_pos hs2]
                refine RefOut.of (v' := .slice (some ⟨g, 0, none⟩) L.length c) (by unfold since at hset ⊢; simpa using hset) (hts3.out _ _) (by simp) (hg1.trans (Chg.setCell (F := G) _ (a := ⟨g, k * 3 + 1, none⟩) hg _) (Ext.refl _ _))
            · have hq : ((st : Int) == 2) = false := by simp; omega
              go_wp2_with (at_builtin; refine wpList_append_rd rfl _ _ 22 rfl w.heap.size 3 i0 (.int .i64 0) 1 8 Tryd.underlying22 hi hz0 hz1 hz2 rfl (by decide) _ 0 [] rfl (World.ownsRow_nil _ _ _ _) _ (n - (j + 1)) _ _ rfl hdr.out (by intro u hu; simp at hu; obtain ⟨x, _, rfl⟩ := hu; rfl) (by unfold maxLen; omega) (by omega) (Nat.le_refl _) ?_; intro v2 w2 own2 hg2; have hB2 : Below w.heap.size w w2 := (Below.refl _ _).grown hg2 (Nat.le_refl _) (fun k e => by cases e); replace own2 : w2.ownsRow w.heap.size 3 1 v2 (n - (j + 1)) (ds.map (Value.int .i64)) := (by simpa using own2); obtain ⟨A2, c2, rfl, hc2⟩ := own_form own2; have hgb2 := (hB2.block g hlt).trans hgb.out; have k3 : w2.cell? ⟨g, k * 3 + 2, none⟩ = some (.slice (some ⟨b, off, none⟩) n cc) := ((hB2.cell hlt).trans k2); have f3 : w2.frozen? ⟨g, k * 3 + 2, none⟩ = false := (by simp [World.frozen?, hgb2]); have k4 : w2.cell? ⟨g, k * 3 + 1, none⟩ = some (.int .i64 st) := ((hB2.cell hlt).trans k1); have f4 : w2.frozen? ⟨g, k * 3 + 1, none⟩ = false := (by simp [World.frozen?, hgb2]))
              all_goals
                go_ret
                obtain ⟨hn1, hg1⟩ := hnew.out w2 (.slice A2 (n - (j + 1)) c2) ds hB2 (by rw [hdn.out]; exact own2)
                refine ⟨by rw [hres0.out]; rfl, ?_⟩
                rw [hres.out, if_neg hs2]
                exact RefOut.of (by unfold since at hn1 ⊢; simpa using hn1) (hts.out _ _) (by simp) hg1
          · have hb : (y == x) = false := by simpa using hyx
            have hT2 : Hid (∀ t, t < j + 1 → ws.getD t 0 ≠ x) := hide (fun t ht => by
              by_cases e : t = j
              · subst e; rw [← hy.out]; exact hyx
              · exact hT.out t (by omega))
            clear hdr
            go_wp2
            go_roundw
            case rel => exact ⟨j + 1, by omega, by go_num, hT2, by first | trivial | rfl⟩
            case measure => simp [intOf]; omega
        · obtain rfl : j = n := by omega
          have hidx : Lib.idxOf ws x < 0 := by
            rcases idx_cases ws x with ⟨h1, _⟩ | ⟨k', hk', h1, h2, h3⟩
            · rw [h1]; decide
            · exact absurd h2 (hT.out k' (by rw [hn.out]; exact hk'))
          replace hidx := hide hidx
          go_wp2
          go_ret
          exact ⟨by rw [hK0.out, if_pos hidx.out]; rfl, by rw [hS0.out, if_pos hidx.out]; exact hst.out⟩
end Go.Proofs.YtfekldcpjoiipaaDoor
