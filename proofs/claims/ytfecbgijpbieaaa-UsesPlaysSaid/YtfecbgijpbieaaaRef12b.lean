/-
  tableauref12: Now, Times.
-/
import Derived.Test.YtfecbgijpbieaaaRef12
namespace Go.Proofs.Ytfecbgijpbieaaa
open Go.RowKit

/-- The reference at q: those held, those told, in rows laid since b0. -/
structure RefU (w : World) (q b0 : Nat) (vL vT : Value) (L Told : List Int) : Prop where
  cells : w.heap[q]? = some (.cells #[vL, vT] 34 (0, 0))
  rowL : w.ownsRow b0 3 1 vL L.length (L.map (Value.int .i64))
  rowT : w.ownsRow b0 3 1 vT Told.length (Told.map (Value.int .i64))
  qb : b0 ≤ q
  tq : vT.ownBlock ≠ some q

section
variable {w w' : World} {q b0 : Nat} {vL vT : Value} {L Told : List Int}
theorem RefU.cellL (h : RefU w q b0 vL vT L Told) : w.cell? ⟨q, 0, none⟩ = some vL := by rw [cell_of_row w q 0 _ _ _ h.cells]; rfl
theorem RefU.cellT (h : RefU w q b0 vL vT L Told) : w.cell? ⟨q, 1, none⟩ = some vT := by rw [cell_of_row w q 1 _ _ _ h.cells]; rfl
theorem own_chg {base n : Nat} {e : TypeId} {v : Value} {cs : List Value} {F : Nat → Prop} (h : w.ownsRow base e 1 v n cs) (hg : Chg F w w') (hF : ∀ b, v.ownBlock = some b → ¬ F b) : w'.ownsRow base e 1 v n cs := by
  refine ⟨h.1, ?_⟩
  rcases h.2 with h2 | ⟨g, cap, cur, rfl, hb, hgb, r⟩
  · exact .inl h2
  · exact .inr ⟨g, cap, cur, rfl, hb, (hg.block g (lt_of_block hgb) (hF g rfl)).trans hgb, r⟩
theorem RefU.chg {F : Nat → Prop} (h : RefU w q b0 vL vT L Told) (hg : Chg F w w') (hF : ∀ b, b0 ≤ b → b < w.heap.size → ¬ F b) : RefU w' q b0 vL vT L Told :=
  ⟨(hg.block q (lt_of_block h.cells) (hF q h.qb (lt_of_block h.cells))).trans h.cells, own_chg h.rowL hg fun b hb => hF b (h.rowL.lt b hb).1 (h.rowL.lt b hb).2, own_chg h.rowT hg fun b hb => hF b (h.rowT.lt b hb).1 (h.rowT.lt b hb).2, h.qb, h.tq⟩
theorem RefU.below (h : RefU w q b0 vL vT L Told) (hb : Below w.heap.size w w') : RefU w' q b0 vL vT L Told :=
  h.chg (Chg.of_below hb (fun _ => False)) fun _ _ _ h => h
end

theorem own_ne {w : World} {base n q : Nat} {e t : TypeId} {v : Value} {cs : List Value} {cs' : Array Value} {fr : Nat × Nat} (h : w.ownsRow base e 1 v n cs) (hq : w.heap[q]? = some (.cells cs' t fr)) (ht : t ≠ e) : v.ownBlock ≠ some q := by
  intro hb
  rcases h.2 with ⟨rfl, _⟩ | ⟨g, cap, cur, rfl, _, hgb, _⟩
  · cases hb
  · cases hb
    rw [hq] at hgb
    cases hgb
    exact ht rfl
theorem count_take {l : List Int} {k : Nat} (hk : k < l.length) (d : Int) : (l.take (k + 1)).count d = (l.take k).count d + (if l.getD k 0 = d then 1 else 0) := by
  have e : l.take (k + 1) = l.take k ++ [l.getD k 0] := by
    rw [List.take_succ_eq_append_getElem hk]
    simp [List.getD, hk]
  rw [e, List.count_append]
  congr 1
  simp [List.count_cons]

set_option maxRecDepth 100000 in
theorem rTimes12_any (w : World) (q b0 : Nat) (vL vT : Value) (L Told : List Int) (d : Int) (h : RefU w q b0 vL vT L Told) (hl : Told.length ≤ 1000000) :
    Calls Try.prog 15 #[.pointer (some ⟨q, 0, none⟩), .int .i64 d] w fun e w' => e = .returned (.int .i64 (Told.count d)) ∧ w = w' := by
  have hc := h.cellT
  obtain ⟨A, c, rfl, hcc⟩ := own_form h.rowT
  have hr := Rd.of_own h.rowT
  obtain ⟨n, hn⟩ : ∃ n, n = Told.length := ⟨_, rfl⟩
  rw [← hn] at hc hr hl hcc
  replace hn := hide hn
  clear h
  go_enter Try.func15, Try.ntmps15
  go_wp2
  go_loopw [5, 6] (fun m i wr => ∃ k p : Nat, k ≤ n ∧ i = .int .i64 k ∧ m = .int .i64 p ∧ Hid (p = (Told.take k).count d) ∧ p ≤ k ∧ wr = w)
    (fun _ i _ => n - (intOf i).toNat)
  case atStart => exact ⟨0, 0, Nat.zero_le _, rfl, rfl, hide (by simp), Nat.le_refl _, rfl⟩
  case round =>
    obtain ⟨k, p, hk, rfl, rfl, hp, hpk, rfl⟩ := hrel
    by_cases hlt : k < n
    · obtain ⟨b, off, rfl, hb1, hcell⟩ := hr.open1 (by omega)
      have hcx := hcell k hlt
      have hct := hide (count_take (l := Told) (k := k) (by rw [← hn.out]; exact hlt) d)
      obtain ⟨x, hx⟩ : ∃ x, x = Told.getD k 0 := ⟨_, rfl⟩
      rw [← hx] at hcx hct
      clear hcell hr hx
      by_cases hxd : x = d
      · have hb : (x == d) = true := by simpa using hxd
        have hp2 : Hid (p + 1 = (Told.take (k + 1)).count d) := hide (by rw [hct.out, ← hp.out, if_pos hxd])
        clear hct
        go_wp2
        go_roundw
        case rel => exact ⟨k + 1, p + 1, by omega, by go_num, by go_num, hp2, by omega, by first | trivial | rfl⟩
        case measure => simp [intOf]; omega
      · have hb : (x == d) = false := by simpa using hxd
        have hp2 : Hid (p = (Told.take (k + 1)).count d) := hide (by rw [hct.out, ← hp.out, if_neg hxd]; rfl)
        clear hct
        go_wp2
        go_roundw
        case rel => exact ⟨k + 1, p, by omega, by go_num, rfl, hp2, by omega, by first | trivial | rfl⟩
        case measure => simp [intOf]; omega
    · obtain rfl : k = n := by omega
      have hp2 := hp.out
      rw [show Told.take k = Told by rw [hn.out]; exact List.take_length] at hp2
      replace hp2 := hide hp2
      go_wp2
      go_ret
      exact ⟨by rw [← hp2.out]; rfl, rfl⟩

/-- Who of the first k is not in M. -/
def outK (L M : List Int) (k : Nat) : List Int := (L.take k).filter fun x => !decide (x ∈ M)
theorem outK_succ {L M : List Int} {k : Nat} (hk : k < L.length) : outK L M (k + 1) = if L.getD k 0 ∈ M then outK L M k else outK L M k ++ [L.getD k 0] := by
  have e : L.take (k + 1) = L.take k ++ [L.getD k 0] := by
    rw [List.take_succ_eq_append_getElem hk]
    simp [List.getD, hk]
  unfold outK
  rw [e, List.filter_append]
  by_cases h : L.getD k 0 ∈ M
  · rw [if_pos h]; simp only [List.filter_cons, List.filter_nil, decide_eq_true h]; simp
  · rw [if_neg h]; simp only [List.filter_cons, List.filter_nil, decide_eq_false h]; simp
theorem outK_len (L M : List Int) (k : Nat) : (outK L M k).length ≤ k := by
  unfold outK
  exact Nat.le_trans (List.length_filter_le _ _) (by rw [List.length_take]; exact Nat.min_le_left _ _)

set_option maxRecDepth 100000 in
set_option maxHeartbeats 2000000 in
theorem rNow12_any (w : World) (q b0 : Nat) (vL vT : Value) (L Told : List Int) (v : Value) (xs : List Int) (hr : Rd w v 1 xs.length (xs.map (Value.int .i64))) (hl : xs.length ≤ 1000) (h : RefU w q b0 vL vT L Told) (hL : L.length ≤ 1000) (hT : Told.length ≤ 100000) (hb0 : b0 ≤ w.heap.size) :
    Calls Try.prog 13 #[.pointer (some ⟨q, 0, none⟩), v] w fun e w' => ∃ vL' vT' v' M, e = .returned v' ∧ SetK xs xs.length M ∧ w'.ownsRow w.heap.size 3 1 v' (outK L M L.length).length ((outK L M L.length).map (Value.int .i64)) ∧
      RefU w' q b0 vL' vT' M (Told ++ outK L M L.length) ∧ Chg (fun b => b = q ∨ vT.ownBlock = some b) w w' := by
  obtain ⟨i0, hi, hz0, hz1, hz2⟩ := info_parts Try.infoIntA
  have cS := hide (rSet12_any w v xs hr hl)
  obtain ⟨n, hn⟩ : ∃ n, n = L.length := ⟨_, rfl⟩
  rw [← hn] at hL ⊢
  have hform := own_form h.rowL
  rw [← hn] at hform
  obtain ⟨AL, cL, rfl, hcL⟩ := hform
  replace hn := hide hn
  replace h := hide h
  clear hr
  go_enter Try.func13, Try.ntmps13
  go_wp2_with fail
  refine (cS.out).mono ?_
  rintro e w1 ⟨v1, M, rfl, hM, own1, hB1⟩
  clear cS
  obtain ⟨A1, c1, rfl, hc1⟩ := own_form own1
  have hM1 : M.length ≤ 1000 := by have := hM.2.1; omega
  replace hM := hide hM
  obtain ⟨m1, hm1⟩ : ∃ m1, m1 = M.length := ⟨_, rfl⟩
  rw [← hm1] at own1 hc1 hM1 ⊢
  replace hm1 := hide hm1
  have hlt1 := hide (fun b hb => (own1.lt b hb).2)
  have hsz1 := hide hB1.size
  replace own1 := hide own1
  replace hB1 := hide hB1
  go_wp2
  go_loopw [6, 7] (fun u i wr => ∃ k : Nat, k ≤ n ∧ i = .int .i64 k ∧ Hid (wr.ownsRow w1.heap.size 3 1 u (outK L M k).length ((outK L M k).map (Value.int .i64))) ∧ Hid (wr.ownsRow w.heap.size 3 1 (.slice A1 m1 c1) m1 (M.map (Value.int .i64))) ∧ Hid (Below w.heap.size w wr) ∧ w1.heap.size ≤ wr.heap.size)
    (fun _ i _ => n - (intOf i).toNat)
  case atStart => exact ⟨0, Nat.zero_le _, rfl, hide (by have := World.ownsRow_nil w1 w1.heap.size 3 1; simpa [outK] using this), own1, hB1, Nat.le_refl _⟩
  clear own1 hB1
  case round =>
    obtain ⟨k, hk, rfl, hown, own1, hB, hsw⟩ := hrel
    obtain ⟨wA, hA⟩ : ∃ wA, wA = wr := ⟨_, rfl⟩
    subst hA
    have hU := h.out.below hB.out
    have hcL2 := hU.cellL
    obtain ⟨Au, cu, rfl, hcu⟩ := own_form hown.out
    by_cases hlt : k < n
    · have hkl : k < L.length := by rw [← hn.out]; exact hlt
      have hrd := Rd.of_own hU.rowL
      rw [← hn.out] at hrd
      obtain ⟨b, off, rfl, hb1, hcell⟩ := hrd.open1 (by omega)
      have hcx := hcell k hlt
      have hstep := hide (outK_succ (M := M) hkl)
      have hle := outK_len L M k
      obtain ⟨x, hx⟩ : ∃ x, x = L.getD k 0 := ⟨_, rfl⟩
      rw [← hx] at hcx hstep
      have hrm := Rd.of_own own1.out
      rw [hm1.out] at hrm
      have cH := rHas12_any wA _ M x hrm (by rw [← hm1.out]; omega)
      rw [← hm1.out] at cH
      clear hcell hx hrm hrd
      by_cases hxM : x ∈ M
      · rw [decide_eq_true hxM] at cH
        have hs2 := hstep.out
        rw [if_pos hxM] at hs2
        replace hs2 := hide hs2
        replace cH := hide cH
        clear hxM
        go_wp2_with fail
        refine cH.out.mono ?_
        rintro e w' ⟨rfl, rfl⟩
        go_wp2
        go_roundw
        case rel => exact ⟨k + 1, by omega, by go_num, hide (by rw [hs2.out]; exact hown.out), own1, hB, hsw⟩
        case measure => simp [intOf]; omega
      · rw [decide_eq_false hxM] at cH
        have hs2 := hstep.out
        rw [if_neg hxM] at hs2
        have hlen2 : (outK L M (k + 1)).length = (outK L M k).length + 1 := by rw [hs2]; simp
        have hB0 := hB.out
        have own0 := hown.out
        replace cH := hide cH
        replace hs2 := hide hs2
        replace hlen2 := hide hlen2
        clear hxM
        go_wp2_with (first
          | (go_at_call 20; refine cH.out.mono ?_; rintro e w' ⟨rfl, rfl⟩)
          | (at_builtin; refine wpList_append_own _ rfl _ _ 23 rfl w1.heap.size 3 i0 (.int .i64 0) 1 8 Try.underlying23 hi hz0 hz1 hz2 rfl (by decide) _ _ _ rfl (own0.alloc _) ⟨wA.heap.size, 0, none⟩ 1 1 [.int .i64 x] rfl rfl (cell_one_new _ _ _) (by intro u hu; simp at hu; subst hu; rfl) (by unfold maxLen; omega) (by omega) (by have := hB0.size; simp <;> omega) ?_; intro v2 w2 own2 hg2 _))
        have hgl : ∀ b, (Value.slice Au (outK L M k).length cu).ownBlock = some b → w1.heap.size ≤ b := fun b hb => (own0.lt b hb).1
        have hcg := (Chg.of_below ((Below.refl _ wA).alloc (Nat.le_refl _) (.cells #[.int .i64 x] 3)) (fun b => (Value.slice Au (outK L M k).length cu).ownBlock = some b)).trans (Chg.grown (F := fun b => (Value.slice Au (outK L M k).length cu).ownBlock = some b) hg2 fun b hb => hb) (Ext.refl _ _)
        have hcs := hcg.size
        go_roundw
        case rel => exact ⟨k + 1, by omega, by go_num, hide (by rw [hs2.out]; simpa using own2), hide (own_chg own1.out hcg fun b hb hb2 => by have := hlt1.out b hb; have := hgl b hb2; omega), hide (hB0.trans (hcg.below hB0.size fun b hb => by have := hgl b hb; have := hsz1.out; omega)), by omega⟩
        case measure => simp [intOf]; omega
    · obtain rfl : k = n := by omega
      have hle := outK_len L M k
      have hqs : wA.frozen? ⟨q, 0, none⟩ = false := by simp [World.frozen?, hU.cells]
      have hset := heap_setCell_same wA q 0 _ _ (.slice A1 m1 c1) hU.cells
      have hU0 := hide hU
      have hformT := own_form hU.rowT
      obtain ⟨AT, cT, rfl, hcT⟩ := hformT
      have hqlt : q < wA.heap.size := lt_of_block hU.cells
      have hq0 : q < w.heap.size := lt_of_block h.out.cells
      have htq := hU.tq
      have hgq := Chg.setCell (F := fun b => b = q) wA (a := ⟨q, 0, none⟩) rfl (.slice A1 m1 c1)
      have hUq : (wA.setCell ⟨q, 0, none⟩ (.slice A1 m1 c1)).heap[q]? = some (.cells #[.slice A1 m1 c1, .slice AT Told.length cT] 34 (0, 0)) := hset
      have hrowTB := own_chg hU.rowT hgq (fun b hb e => htq (by rw [hb, e]))
      have hown3 := own_chg hown.out hgq (fun b hb e => by have := (hown.out.lt b hb).1; have := hsz1.out; omega)
      have hrdB := Rd.of_own hown3
      have k1 : (wA.setCell ⟨q, 0, none⟩ (.slice A1 m1 c1)).cell? ⟨q, 1, none⟩ = some (.slice AT Told.length cT) := by rw [cell_of_row _ q 1 _ _ _ hUq]; rfl
      have hszB : (wA.setCell ⟨q, 0, none⟩ (.slice A1 m1 c1)).heap.size = wA.heap.size := by simp [World.setCell]
      have hcT2 := hide hcT
      have hBs := hB.out.size
      clear hset hcT
      go_wp2_with (at_builtin; refine wpList_append_rd rfl _ _ 23 rfl b0 3 i0 (.int .i64 0) 1 8 Try.underlying23 hi hz0 hz1 hz2 rfl (by decide) _ Told.length (Told.map (Value.int .i64)) rfl hrowTB Au (outK L M k).length cu _ rfl hrdB (by intro u hu; simp at hu; obtain ⟨x, _, rfl⟩ := hu; rfl) (by unfold maxLen; omega) (by omega) (by rw [hszB]; omega) ?_; intro v3 w3 own3 hg3; have hq3 := (hg3.block q (by rw [hszB]; exact hqlt) (fun e => htq e.symm)).trans hUq; have k3 : w3.cell? ⟨q, 1, none⟩ = some (.slice AT Told.length cT) := (by rw [cell_of_row _ q 1 _ _ _ hq3]; rfl); have f3 : w3.frozen? ⟨q, 1, none⟩ = false := (by simp [World.frozen?, hq3]); obtain ⟨A3, c3, rfl, hc3⟩ := own_form own3)
      go_ret
      have hset3 := heap_setCell_same w3 q 1 _ _ (.slice A3 (Told.length + (outK L M k).length) c3) hq3
      have hg4 := Chg.setCell (F := fun b => b = q) w3 (a := ⟨q, 1, none⟩) rfl (.slice A3 (Told.length + (outK L M k).length) c3)
      have hTlt : ∀ b, (Value.slice AT Told.length cT).ownBlock = some b → b < w.heap.size := fun b hb => (h.out.rowT.lt b hb).2
      have hc3' : Chg (fun b => (Value.slice AT Told.length cT).ownBlock = some b) (wA.setCell ⟨q, 0, none⟩ (.slice A1 m1 c1)) w3 := Chg.grown hg3 fun b hb => hb
      have hne3 : (Value.slice A3 (Told.length + (outK L M k).length) c3).ownBlock ≠ some q := own_ne own3 hq3 (by decide)
      have hF := (((Chg.of_below hB.out (fun b => b = q ∨ (Value.slice AT Told.length cT).ownBlock = some b)).trans (hgq.mono (G := fun b => b = q ∨ (Value.slice AT Told.length cT).ownBlock = some b) fun b _ e => .inl e) (Ext.refl _ _)).trans (hc3'.mono (G := fun b => b = q ∨ (Value.slice AT Told.length cT).ownBlock = some b) fun b _ e => .inr e) (Ext.refl _ _)).trans (hg4.mono (G := fun b => b = q ∨ (Value.slice AT Told.length cT).ownBlock = some b) fun b _ e => .inl e) (Ext.refl _ _)
      have ho4 := own_chg (own_chg hown3 hc3' (fun b hb hb2 => by have := (hown.out.lt b hb).1; have := hTlt b hb2; have := hsz1.out; omega)) hg4 (fun b hb e => by have := (hown.out.lt b hb).1; have := hsz1.out; omega)
      have hL4 := own_chg (own_chg (own_chg own1.out hgq (fun b hb e => by have := (own1.out.lt b hb).1; omega)) hc3' (fun b hb hb2 => by have := (own1.out.lt b hb).1; have := hTlt b hb2; omega)) hg4 (fun b hb e => by have := (own1.out.lt b hb).1; omega)
      have hT4 := own_chg own3 hg4 (fun b hb e => hne3 (by rw [hb, e]))
      refine ⟨_, _, _, M, rfl, hM.out, own_le ho4 hsz1.out, ⟨hset3, by rw [← hm1.out]; exact own_le hL4 hb0, ?_, h.out.qb, hne3⟩, hF⟩
      simpa using hT4
end Go.Proofs.Ytfecbgijpbieaaa
