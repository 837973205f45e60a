/-
  Package uses: Now.
-/
import Derived.Test.YtfecbgijpbieaaaUses
import Derived.Deep.DeepCutAuto
namespace Go.Proofs.Ytfecbgijpbieaaa
open Go.RowKit Go.Shelf

/-- Who is held behind a list. -/
def nowH (l : List Int) : Int → Bool := fun x => decide (0 < x) && decide (x ∈ l)
/-- How often each was free, behind those of a list. -/
def nowT (T : Int → Option Int) (l : List Int) : Int → Option Int := fun x => if x ∈ l then some (wrap64 ((T x).getD 0 + 1)) else T x
/-- Who is free. -/
def freeH (H : Int → Bool) (l : List Int) : Int → Bool := fun x => H x && !nowH l x

theorem nowH_take (l : List Int) (k : Nat) (hk : k < l.length) (j : Int) : nowH (l.take (k + 1)) j = if 0 < l.getD k 0 then (nowH (l.take k) j || j == l.getD k 0) else nowH (l.take k) j := by
  have e : l.take (k + 1) = l.take k ++ [l.getD k 0] := by
    rw [List.take_succ_eq_append_getElem hk]
    simp [List.getD, hk]
  rw [e]
  unfold nowH
  generalize l.getD k 0 = x
  simp only [List.mem_append, List.mem_singleton, Bool.decide_or]
  by_cases h : 0 < x
  · rw [if_pos h]
    by_cases h2 : j = x
    · subst h2; simp [h]
    · simp [h2]
  · rw [if_neg h]
    by_cases h2 : j = x
    · subst h2
      have : decide (0 < j) = false := by simpa using h
      simp [this]
    · simp [h2]

theorem boolM_eq {H H' : Int → Bool} {j : Int} (h : H j = H' j) : boolM H j = boolM H' j := by unfold boolM; rw [h]
theorem nowT_take (T : Int → Option Int) (q : List Int) (j : Nat) (hj : j < q.length) (i : Int) : nowT T (q.take (j + 1)) i = if i = q.getD j 0 then some (wrap64 ((T (q.getD j 0)).getD 0 + 1)) else nowT T (q.take j) i := by
  have e : q.take (j + 1) = q.take j ++ [q.getD j 0] := by
    rw [List.take_succ_eq_append_getElem hj]
    simp [List.getD, hj]
  rw [e]
  unfold nowT
  generalize q.getD j 0 = x
  simp only [List.mem_append, List.mem_singleton]
  by_cases h : i = x
  · subst h; simp
  · simp [h]
theorem nowT_at (T : Int → Option Int) (q : List Int) (j : Nat) (hj : j < q.length) (hn : q.Nodup) : nowT T (q.take j) (q.getD j 0) = T (q.getD j 0) := by
  unfold nowT
  rw [if_neg]
  intro hm
  have e : q.getD j 0 = q[j] := by simp [List.getD, hj]
  rw [e] at hm
  obtain ⟨i, hi, hie⟩ := List.getElem_of_mem hm
  simp at hi
  rw [List.getElem_take] at hie
  have := (List.pairwise_iff_getElem.1 hn) i j (by omega) hj (by omega)
  exact this hie
theorem own_block {w w' : World} {base n : Nat} {e : TypeId} {v : Value} {cs : List Value} {F : Nat → Prop} (h : w.ownsRow base e 1 v n cs) (hg : Chg F w w') (hF : ∀ b, F b → b < base) : w'.ownsRow base e 1 v n cs := by
  refine ⟨h.1, ?_⟩
  rcases h.2 with h2 | ⟨g, cap, cur, hv, hb, hgb, r⟩
  · exact .inl h2
  · exact .inr ⟨g, cap, cur, hv, hb, (hg.block g (lt_of_block hgb) (fun hf => by have := hF g hf; omega)).trans hgb, r⟩
theorem own_kept {w w' : World} {base n b : Nat} {e : TypeId} {v : Value} {cs : List Value} (h : w.ownsRow base e 1 v n cs) (hg : w.grownBy w' (some b)) (hb : b < base) : w'.ownsRow base e 1 v n cs :=
  own_block h (Chg.grown (F := fun x => x = b) hg fun x hx => by cases hx; rfl) fun x hx => by subst hx; exact hb

set_option maxRecDepth 100000 in
set_option maxHeartbeats 2000000 in
theorem uNow_any (w : World) (u hb tb nh nt : Nat) (H : Int → Bool) (T : Int → Option Int) (v : Value) (l : List Int) (hr : Rd w v 1 l.length (l.map (Value.int .i64))) (hi : ∀ x ∈ l, I64 x) (h : UsesAt w u hb tb nh nt H T) (hnh : nh ≤ 100000) (hnt : nt ≤ 100000) (hl : l.length ≤ 100000) :
    Calls Try.prog 8 #[.pointer (some ⟨u, 0, none⟩), v] w fun e w' => ∃ hb' v' q, e = .returned v' ∧ KeysOf (boolM (freeH H l)) q ∧ q.length ≤ nh ∧ w'.ownsRow w.heap.size 3 1 v' q.length (q.map (Value.int .i64)) ∧
      UsesAt w' u hb' tb l.length (nt + q.length) (nowH l) (nowT T q) ∧ Chg (fun b => b = u ∨ b = tb) w w' ∧ w.heap.size ≤ hb' := by
  have hmm := @run_makeMap Try.prog
  have hm0 := (MapAt.made w Try.prog 3).congr (M' := boolM (nowH (l.take 0))) (fun j _ => by simp [boolM, nowH])
  have hr0 := hr
  obtain ⟨_, A, c, rfl, hc0, _⟩ := hr0
  obtain ⟨N, hN⟩ : ∃ N, N = l.length := ⟨_, rfl⟩
  rw [← hN] at hr hl hc0 ⊢
  replace hN := hide hN
  replace hi := hide hi
  replace h := hide h
  replace hr := hide hr
  go_enter Try.func8, Try.ntmps8
  go_wp2
  go_loopw [16] (fun i wr => ∃ k : Nat, k ≤ N ∧ i = .int .i64 k ∧ Hid (MapAt Try.prog 3 wr w.heap.size k (boolM (nowH (l.take k)))) ∧ Hid (Below w.heap.size w wr))
    (fun i _ => N - (intOf i).toNat)
  case atStart => exact ⟨0, Nat.zero_le _, rfl, hm0, (Below.refl _ _).alloc (Nat.le_refl _) _⟩
  clear hm0
  case round =>
    obtain ⟨k, hk, rfl, hm, hB⟩ := hrel
    obtain ⟨wA, hA⟩ : ∃ wA, wA = wr := ⟨_, rfl⟩
    subst hA
    by_cases hlt : k < N
    · obtain ⟨b, off, rfl, hb1, hcell⟩ := hr.out.open1 (by omega)
      have hcx : wA.cell? ⟨b, off + k, none⟩ = some (.int .i64 (l.getD k 0)) := (hB.out.cell (p := ⟨b, off + k, none⟩) hb1).trans (hcell k hlt)
      have hkl : k < l.length := by rw [← hN.out]; exact hlt
      have htk := hide (nowH_take l k hkl)
      have hx : I64 (l.getD k 0) := by
        have e : l.getD k 0 = l[k] := by simp [List.getD, hkl]
        rw [e]; exact hi.out _ (List.getElem_mem hkl)
      clear hcell
      obtain ⟨x, hxe⟩ : ∃ x, x = l.getD k 0 := ⟨_, rfl⟩
      rw [← hxe] at hcx htk hx
      clear hxe
      by_cases h0 : 0 < x
      · go_wp2_with (at_mapUpdate; refine wpList_put rfl _ _ _ 39 rfl 3 4 Try.underlying3 Try.underlying39 w.heap.size k _ rfl hm.out (by unfold maxLen; omega) x _ rfl rfl hx ?_; intro w1 hm2 hg2)
        have hm3 : Hid (MapAt Try.prog 3 w1 w.heap.size (k + 1) (boolM (nowH (l.take (k + 1))))) := hm2.congr fun j _ => (show boolM (nowH (l.take (k + 1))) j = putM (boolM (nowH (l.take k))) x (.bool true) j by
          rw [← boolM_put]
          unfold boolM
          rw [htk.out j, if_pos h0])
        have hB3 : Hid (Below w.heap.size w w1) := hB.out.trans (grown_below hg2 (Nat.le_refl _) hB.out.size)
        go_wp2
        go_roundw
        case rel => exact ⟨k + 1, by omega, by go_num, hm3, hB3⟩
        case measure => simp [intOf]; omega
      · have h0' : x ≤ 0 := by omega
        have hm3 : Hid (MapAt Try.prog 3 wA w.heap.size (k + 1) (boolM (nowH (l.take (k + 1))))) := (hm.out.mono (Nat.le_succ _)).congr fun j _ => by
          unfold boolM
          rw [htk.out j, if_neg h0]
        go_wp2
        go_roundw
        case rel => exact ⟨k + 1, by omega, by go_num, hm3, hB⟩
        case measure => simp [intOf]; omega
    · obtain rfl : k = N := by omega
      have hm3 := hm.out
      rw [show l.take k = l by rw [hN.out]; exact List.take_length] at hm3
      have h2 := h.out.below hB.out
      obtain ⟨es, ec, hblk⟩ := h2.held.isMapBlock
      have cC := AnyW.maps_Clone Try.cloneR_bool hb es ec wA hblk
      change Calls Try.prog 16 _ _ _ at cC
      have hfree := h2.held.cloned hblk
      have hc := h2.cellH
      replace hm3 := hide hm3
      replace h2 := hide h2
      replace cC := hide cC
      replace hfree := hide hfree
      clear hm hlt hblk
      go_wp2_with fail
      refine (cC.out).mono ?_
      rintro e w3 ⟨rfl, hw3⟩
      have hb3 : Below wA.heap.size wA w3 := by rw [hw3]; exact (Below.refl _ _).alloc (Nat.le_refl _) _
      have hs3 : w3.heap.size = wA.heap.size + 1 := by rw [hw3]; simp
      rw [← hw3] at hfree
      have hm4 : Hid (MapAt Try.prog 3 w3 w.heap.size k (boolM (nowH l))) := hm3.out.block (hb3.block _ hm3.out.lt)
      have h3 := hide (h2.out.below hb3)
      have hB3 : Hid (Below w.heap.size w w3) := hB.out.trans (hb3.mono hB.out.size)
      have hlb : w.heap.size < wA.heap.size := hm3.out.lt
      obtain ⟨fb, hfb⟩ : ∃ fb, fb = wA.heap.size := ⟨_, rfl⟩
      rw [← hfb] at hfree hs3 hlb ⊢
      have hS := hide (⟨hfb, hs3⟩ : fb = wA.heap.size ∧ w3.heap.size = fb + 1)
      clear h2 hm3 hB hw3 hc hb3 hs3 hfb
      go_wp2_with (at_range; refine wpList_rangeM rfl _ _ rfl 3 4 Try.underlying3 Try.underlying39 w.heap.size k (boolM (nowH l)) rfl hm4.out ?_; intro w4 cnt hR4 hg4 hs4)
      have hfree4 : Hid (MapAt Try.prog 3 w4 fb nh (boolM (fun j => H j && !(nowH l j && !((boolM (nowH l) j).isSome))))) := (hfree.out.kept hg4 (by simp)).congr fun j _ => by
        unfold boolM
        cases nowH l j <;> simp
      have h4 := hide (h3.out.chg (Chg.grown (F := fun _ => False) hg4 (fun b hb => by cases hb)) (fun h => h) (fun h => h) (fun h => h))
      have hB4 : Hid (Below w.heap.size w w4) := hB3.out.grown hg4 hB3.out.size (fun b hb => by cases hb)
      have hr4 : w3.heap.size = fb + 1 := hS.out.2
      rw [hr4] at hR4
      replace hR4 := hide hR4
      clear hfree h3 hB3 hm4 hg4
      go_frame
      rw [hr4]
      go_loopw [9] (fun _ wr => ∃ (L : Int → Bool) (cnt : Nat), Hid (RangeAt Try.prog 3 wr w.heap.size (fb + 1) k (boolM (nowH l)) L cnt) ∧ Hid (MapAt Try.prog 3 wr fb nh (boolM (fun j => H j && !(nowH l j && !(L j))))) ∧ Hid (UsesAt wr u hb tb nh nt H T) ∧ Hid (Below w.heap.size w wr))
        (fun _ wr => wr.rangeLeft w.heap.size (fb + 1))
      case atStart => exact ⟨_, _, hR4, hfree4, h4, hB4⟩
      clear hR4 hfree4 h4 hB4
      case round =>
        obtain ⟨L, cnt, hR, hF, h4, hB4⟩ := hrel
        obtain ⟨wC, hC⟩ : ∃ wC, wC = wr := ⟨_, rfl⟩
        subst hC
        go_wp2_with (at_next; refine wpList_nextM rfl _ rfl 3 Try.underlying3 w.heap.size (fb + 1) k (boolM (nowH l)) L cnt rfl hR.out ?_ ?_)
        · intro hDone
          have hm5 := hide hR.out.map
          have hF5 : Hid (MapAt Try.prog 3 wC fb nh (boolM (freeH H l))) := hF.out.congr fun j hj => boolM_eq (by
            unfold freeH
            show (H j && !nowH l j) = (H j && !(nowH l j && !(L j)))
            rw [hDone j hj]
            simp)
          have hlt := hide (⟨hm5.out.lt, hF5.out.lt⟩ : w.heap.size < wC.heap.size ∧ fb < wC.heap.size)
          clear hDone hR hF
          obtain ⟨c1, c2⟩ := sortedKeys_bool wC fb nh _ hF5.out (by omega)
          replace c1 := hide c1
          replace c2 := hide c2
          clear hF5
          go_wp2_with fail
          refine c1.out.mono ?_
          rintro e w' ⟨rfl, rfl⟩
          go_wp2_with fail
          refine c2.out.mono ?_
          rintro e w6 ⟨v6, q, rfl, hk6, hl6, hr6, hnil6, hb6⟩
          have h6 := h4.out.below (((Below.refl _ _).trans hb6))
          have hm6 : Hid (MapAt Try.prog 3 w6 w.heap.size k (boolM (nowH l))) := hm5.out.block (hb6.block _ hlt.out.1)
          have hB6 : Hid (Below w.heap.size w w6) := hB4.out.trans (hb6.mono hB4.out.size)
          have hT6 : Hid (MapAt Try.prog 3 w6 tb (nt + 0) (timesM (nowT T (q.take 0)))) := h6.times.congr fun j _ => by simp [timesM, nowT]
          have hU6 : Hid (w6.heap[u]? = some (.cells #[.map (some hb), .map (some tb)] 42 (0, 0))) := h6.cells
          have hlts := hide h.out.lt
          have hne := hide (⟨h.out.hu, h.out.tu, h.out.ht⟩ : hb ≠ u ∧ tb ≠ u ∧ hb ≠ tb)
          have hqi : Hid (∀ x ∈ q, I64 x) := fun x hx => ((hk6.2 x).1 hx).1
          have hqn : Hid q.Nodup := hk6.1.imp fun h => by intro e; omega
          replace hk6 := hide hk6
          have hwC := hB4.out.size
          obtain ⟨A6, n6, rfl, hn6⟩ := own_form hr6
          replace hr6 := hide (own_le hr6 hwC)
          have hC6 : Hid (Chg (fun b => b = tb) w w6) := Chg.of_below hB6.out _
          obtain ⟨Q, hQ⟩ : ∃ Q, Q = q.length := ⟨_, rfl⟩
          rw [← hQ] at hl6 hr6 hn6
          rw [← hQ]
          replace hQ := hide hQ
          clear h4 hB4 hm5 hb6 hnil6 h6 c1 c2 hlt hB6 hwC
          go_wp2
          go_loopw [43] (fun i wr => ∃ j : Nat, j ≤ Q ∧ i = .int .i64 j ∧ Hid (MapAt Try.prog 3 wr tb (nt + j) (timesM (nowT T (q.take j)))) ∧ Hid (MapAt Try.prog 3 wr w.heap.size k (boolM (nowH l))) ∧ Hid (wr.heap[u]? = some (.cells #[.map (some hb), .map (some tb)] 42 (0, 0))) ∧
              Hid (wr.ownsRow w.heap.size 3 1 (.slice A6 Q n6) Q (q.map (Value.int .i64))) ∧ Hid (Chg (fun b => b = tb) w wr))
            (fun i _ => Q - (intOf i).toNat)
          case atStart => exact ⟨0, Nat.zero_le _, rfl, hT6, hm6, hU6, hr6, hC6⟩
          clear hT6 hm6 hU6 hr6 hC6
          case round =>
            obtain ⟨j, hj, rfl, hT, hm, hU, hr6, hC⟩ := hrel
            obtain ⟨wD, hD⟩ : ∃ wD, wD = wr := ⟨_, rfl⟩
            subst hD
            by_cases hjl : j < Q
            · have hjq : j < q.length := by rw [← hQ.out]; exact hjl
              obtain ⟨bq, oq, rfl, hbq, hcq⟩ := (Rd.of_own hr6.out).open1 (by omega)
              have hcx := hcq j hjl
              have hx : I64 (q.getD j 0) := by
                have e : q.getD j 0 = q[j] := by simp [List.getD, hjq]
                rw [e]; exact hqi.out _ (List.getElem_mem hjq)
              have hstep := hide (nowT_take T q j hjq)
              have hnot := hide (nowT_at T q j hjq hqn.out)
              have cu : wD.cell? ⟨u, 1, none⟩ = some (.map (some tb)) := by rw [cell_of_row wD u 1 _ _ _ hU.out]; rfl
              obtain ⟨x, hxe⟩ : ∃ x, x = q.getD j 0 := ⟨_, rfl⟩
              rw [← hxe] at hcx hstep hnot hx
              have hlk := hT.out.look Try.underlying3 Try.underlying40 (Try.zeroValue3 _) hx
              have e1 : ((timesM (nowT T (q.take j)) x).getD (Value.int .i64 0)) = .int .i64 ((T x).getD 0) := by
                unfold timesM
                rw [hnot.out]
                cases T x <;> rfl
              rw [e1] at hlk
              clear hcq hxe e1
              go_wp2_with (at_mapUpdate; refine wpList_put rfl _ _ _ 40 rfl 3 3 Try.underlying3 Try.underlying40 tb (nt + j) _ rfl hT.out (by unfold maxLen; omega) x (.int .i64 (wrap64 ((T x).getD 0 + 1))) rfl rfl hx ?_; intro w8 hm8 hg8)
              have hT8 : Hid (MapAt Try.prog 3 w8 tb (nt + (j + 1)) (timesM (nowT T (q.take (j + 1))))) := hm8.congr fun i _ => by
                unfold timesM putM
                rw [hstep.out i]
                by_cases hi : i = x
                · rw [if_pos hi, if_pos hi]; rfl
                · rw [if_neg hi, if_neg hi]
              have hlt8 := hlts.out
              have hm8' : Hid (MapAt Try.prog 3 w8 w.heap.size k (boolM (nowH l))) := hm.out.kept hg8 (by intro e; cases e; omega)
              have hU8 : Hid (w8.heap[u]? = some (.cells #[.map (some hb), .map (some tb)] 42 (0, 0))) := (hg8.block u (lt_of_block hU.out) (by intro e; cases e; exact hne.out.2.1 rfl)).trans hU.out
              have hr8 : Hid (w8.ownsRow w.heap.size 3 1 (.slice (some ⟨bq, oq, none⟩) Q n6) Q (q.map (Value.int .i64))) := own_kept hr6.out hg8 (by omega)
              have hC8 : Hid (Chg (fun b => b = tb) w w8) := hC.out.trans (Chg.grown hg8 fun b hb => by cases hb; rfl) (Ext.refl _ _)
              go_wp2
              go_roundw
              case rel => exact ⟨j + 1, by omega, by go_num, hT8, hm8', hU8, hr8, hC8⟩
              case measure => simp [intOf]; omega
            · obtain rfl : j = Q := by omega
              have hT9 := hT.out
              rw [show q.take j = q by rw [hQ.out]; exact List.take_length] at hT9
              have hUc := hU.out
              have cu : wD.cell? ⟨u, 0, none⟩ = some (.map (some hb)) := by rw [cell_of_row wD u 0 _ _ _ hU.out]; rfl
              have cf : wD.frozen? ⟨u, 0, none⟩ = false := by simp [World.frozen?, hUc]
              have hset := hide (heap_setCell_same wD u 0 _ _ (.map (some w.heap.size)) hUc)
              replace hT9 := hide hT9
              clear hT hjl hUc
              go_wp2
              go_ret
              have hlt8 := hlts.out
              have hgs := Chg.setCell (F := fun b => b = u) wD (a := ⟨u, 0, none⟩) rfl (.map (some w.heap.size))
              have hq : q.length = j := hQ.out.symm
              refine ⟨w.heap.size, _, q, rfl, hk6.out, by rw [hq]; exact hl6, ?_, ⟨hset.out, by omega, hne.out.2.1, by omega, hm.out.block (hgs.block _ hm.out.lt (by omega)), by rw [hq]; exact hT9.out.block (hgs.block _ hT9.out.lt hne.out.2.1)⟩, ?_, Nat.le_refl _⟩
              · rw [hq]
                exact own_block hr6.out hgs (by omega)
              · exact (hC.out.mono fun b _ e => .inr e).trans (hgs.mono fun b _ e => .inl e) (Ext.refl _ _)
        · intro x vx w5 cnt5 hx hLx hMx hR5 hlt5 hg5 hs5 hen5
          have hNx : nowH l x = true := by
            unfold boolM at hMx
            cases hn : nowH l x
            · rw [hn] at hMx; simp at hMx
            · rfl
          have hvx : vx = .bool true := by
            unfold boolM at hMx
            rw [hNx] at hMx
            simpa using hMx.symm
          subst hvx
          have hF5 := hide (hF.out.kept hg5 (by simp))
          go_wp2_with (at_delete; refine wpList_del rfl _ _ 39 3 rfl 4 Try.underlying3 Try.underlying39 fb nh _ rfl hF5.out x rfl hx ?_; intro w6 hm6 hg6)
          have hs6 := hide (hS.out)
          have hR6 : Hid (RangeAt Try.prog 3 w6 w.heap.size (fb + 1) k (boolM (nowH l)) (fun z => L z && z != x) cnt5) := hR5.kept hg6 (by intro e; have := Option.some.inj e; omega) (by intro e; have := Option.some.inj e; omega)
          have hF6 : Hid (MapAt Try.prog 3 w6 fb nh (boolM (fun j => H j && !(nowH l j && !(L j && j != x))))) := hm6.congr fun j _ => by
            unfold delM
            by_cases hj : j = x
            · subst hj
              rw [if_pos rfl]
              show (if (H j && !(nowH l j && !(L j && j != j))) = true then some (Value.bool true) else none) = none
              rw [hNx]
              simp
            · rw [if_neg hj]
              have hjx : (j != x) = true := by simpa using hj
              refine boolM_eq ?_
              show (H j && !(nowH l j && !(L j && j != x))) = (H j && !(nowH l j && !(L j)))
              rw [hjx]
              simp
          have h4l := h4.out.lt
          have hfl := hS.out
          have hcg : Chg (fun b => b = fb ∨ b = fb + 1) wC w6 := (Chg.grown (F := fun b => b = fb ∨ b = fb + 1) hg5 fun b hb => by cases hb; exact .inr rfl).trans (Chg.grown hg6 fun b hb => by cases hb; exact .inl rfl) (Ext.refl _ _)
          have hol := h.out.lt
          have h46 : Hid (UsesAt w6 u hb tb nh nt H T) := h4.out.chg hcg (by omega) (by omega) (by omega)
          have hB6 : Hid (Below w.heap.size w w6) := hB4.out.trans (hcg.below hB4.out.size fun b hb => by rcases hb with e | e <;> omega)
          have hgb := hg6.size
          have hrl : w6.rangeLeft w.heap.size (fb + 1) = cnt5 := hR6.out.left_eq
          have hrl0 : wC.rangeLeft w.heap.size (fb + 1) = cnt := hR.out.left_eq
          clear hR5 hm6
          go_frame
          go_roundw
          case rel =>
            exact ⟨_, _, hR6, hF6, h46, hB6⟩
          case measure => rw [hrl, hrl0]; exact hlt5
end Go.Proofs.Ytfecbgijpbieaaa
