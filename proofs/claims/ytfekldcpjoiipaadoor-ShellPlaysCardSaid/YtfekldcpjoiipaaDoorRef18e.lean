/-
  tableauref18: Add, Drop.
-/
import Derived.Test.YtfekldcpjoiipaaDoorRef18d
namespace Go.Proofs.YtfekldcpjoiipaaDoor
open Go.RowKit

theorem Tryd.infoW18 : (Tryd.prog.info? 63).map (fun i => (i.zero, i.size, i.bytes)) = some (some (.agg #[.int .i64 0, .int .i64 0, .slice none 0 0]), 3, 40) := by kernel_rfl
theorem info_parts18 {P : Program} {t : TypeId} {z : Value} {s b : Nat} (h : (P.info? t).map (fun i => (i.zero, i.size, i.bytes)) = some (some z, s, b)) : ∃ i, P.info? t = some i ∧ i.zero = some z ∧ i.size = s ∧ i.bytes = b := by
  cases hi : P.info? t with
  | none => rw [hi] at h; cases h
  | some i =>
    rw [hi] at h
    simp only [Option.map_some, Option.some.injEq, Prod.mk.injEq] at h
    exact ⟨i, rfl, h.1, h.2.1, h.2.2⟩
theorem cells_new18 (w : World) (cs : List Value) (t : TypeId) : ∀ j u, cs[j]? = some u → (w.alloc (.cells cs.toArray t)).cell? ((⟨w.heap.size, 0, none⟩ : Addr).add j) = some u := by
  intro j u hj
  have h := heap_alloc_new w (.cells cs.toArray t)
  rw [addr_add, cell_of_row _ w.heap.size (0 + j) _ _ _ h]
  simpa using hj
section
variable {w w' : World} {q : Nat} {G : Nat → Prop} {v : Value} {L : List RWin}
/-- A row of windows laid since is put in. -/
theorem RefL.newRow (h : RefL w q G v L) {x : Value} {L' : List RWin} (hB : Below w.heap.size w w')
    (hx : w'.ownsRow w.heap.size 63 3 x L'.length (L'.flatMap RWin.enc)) (hid : (L'.map RWin.id).Nodup) (hr : ∀ r ∈ L', I64 r.id ∧ (r ∈ L ∨ (r.v = .slice none 0 0 ∧ r.ws = []))) :
    RefL (w'.setCell ⟨q, 0, none⟩ x) q (since G w (w'.setCell ⟨q, 0, none⟩ x)) x L' ∧ Chg G w (w'.setCell ⟨q, 0, none⟩ x) := by
  have hq := (hB.block q (lt_of_block h.cells)).trans h.cells
  have hc := Chg.setCell (F := fun b => b = q) w' (a := ⟨q, 0, none⟩) rfl x
  have hs := heap_setCell_same w' q 0 _ _ x hq
  have hsz : (w'.setCell ⟨q, 0, none⟩ x).heap.size = w'.heap.size := by simp [World.setCell]
  have h1 := h.chg (Chg.of_below hB (fun _ => False)) fun _ _ h => h
  refine ⟨⟨hs, ?_, ?_, hid, fun r hm => (hr r hm).1, .inl h.gq, ?_, ?_, ?_⟩, (Chg.of_below hB G).trans (Chg.setCell w' h.gq x) (Ext.refl _ _)⟩
  · exact own_chg18 (own_le hx (Nat.zero_le _)) hc (fun b hb e => own_ne18 hx hq (by decide) (by rw [hb, e]))
  · intro r hm
    rcases (hr r hm).2 with hL | ⟨e1, e2⟩
    · exact own_chg18 (h1.serials r hL) hc (fun b hb e => own_ne18 (h1.serials r hL) hq (by decide) (by rw [hb, e]))
    · rw [e1, e2]; exact World.ownsRow_nil _ _ _ _
  · intro b hb
    have := hx.lt b hb
    exact .inr ⟨this.1, by rw [hsz]; exact this.2⟩
  · intro r hm b hb
    rcases (hr r hm).2 with hL | ⟨e1, e2⟩
    · exact .inl (h.gs r hL b hb)
    · rw [e1] at hb; cases hb
  · intro b hb
    rcases hb with hb | hb
    · have := h.glt b hb; have := hB.size; omega
    · exact hb.2
theorem toS_app {id : Int} (hn : ∀ k, k < L.length → (L.getD k default).id ≠ id) (x : Value) : toS (L ++ [⟨id, 0, x, []⟩]) = setS (toS L) id (some (0, [])) := by
  have hne : ∀ r ∈ L, r.id ≠ id := fun r hr => by
    obtain ⟨k, hk, rfl⟩ := List.getElem_of_mem hr
    have := hn k hk
    simpa [List.getD, hk] using this
  clear hn
  induction L with
  | nil =>
    funext i
    unfold toS setS
    by_cases hi : i = id
    · subst hi; simp
    · have h1 : id ≠ i := fun e => hi e.symm
      simp [h1, hi]
  | cons r L ih =>
    have ih := ih (fun r hr => hne r (List.mem_cons_of_mem _ hr))
    have hr := hne r (List.mem_cons_self ..)
    funext i
    have ihi := congrFun ih i
    unfold toS setS at ihi ⊢
    rw [List.cons_append]
    by_cases hi : r.id = i
    · have h3 : ¬ i = id := fun e => hr (hi.trans e)
      simp [hi, h3]
    · simp only [List.find?_cons, show (r.id == i) = false by simpa using hi]
      exact ihi
theorem toS_drop (L : List RWin) (id : Int) : toS (L.filter fun r => r.id != id) = setS (toS L) id none := by
  induction L with
  | nil => funext i; unfold toS setS; simp
  | cons r L ih =>
    funext i
    have ihi := congrFun ih i
    unfold toS setS at ihi ⊢
    by_cases hr : r.id = id
    · rw [List.filter_cons_of_neg (by simp [hr]), ihi]
      by_cases hi : i = id
      · rw [if_pos hi, if_pos hi]
      · rw [if_neg hi, if_neg hi]
        have : ¬ r.id = i := fun e => hi (e.symm.trans hr)
        simp [this]
    · rw [List.filter_cons_of_pos (by simp [hr])]
      by_cases hri : r.id = i
      · have h3 : ¬ i = id := fun e => hr (hri.trans e)
        simp [hri, h3]
      · simp only [List.find?_cons, show (r.id == i) = false by simpa using hri]
        exact ihi
end

set_option maxRecDepth 100000 in
set_option maxHeartbeats 1000000 in
theorem rAdd_any (w : World) (q : Nat) (G : Nat → Prop) (v : Value) (L : List RWin) (id : Int) (b : Bool) (h : RefL w q G v L) (hl : L.length ≤ 1000) (hid : I64 id) :
    Calls Tryd.prog 37 #[.pointer (some ⟨q, 0, none⟩), .int .i64 id, .bool b] w fun e w' => e = .returned (.int .i64 (addK (toS L) id b)) ∧ RefOut w q G L.length (addS (toS L) id b) w' := by
  rcases found_or L id with hn | ⟨k, hk, hik⟩
  · have cW := hide (rW_no h hl hn)
    have e1 := toS_none hn
    cases b with
    | true =>
      have hK : addK (toS L) id true = 12 := by simp [addK, e1]
      have hS : addS (toS L) id true = toS L := by simp [addS, e1]
      rw [hK, hS]
      replace h := hide h
      clear hn e1 hK hS
      go_enter Tryd.func37, Tryd.ntmps37
      go_wp2_with fail
      refine (cW.out).mono ?_
      rintro e w' ⟨rfl, rfl⟩
      go_wp2
      go_ret
      exact ⟨rfl, h.out.stay⟩
    | false =>
      have hK : addK (toS L) id false = 0 := by simp [addK, e1]
      have hS : addS (toS L) id false = setS (toS L) id (some (0, [])) := by simp [addS, e1]
      rw [hK, hS]
      obtain ⟨i0, hi, hz0, hz1, hz2⟩ := info_parts18 Tryd.infoW18
      have hnew := hide (fun (w' : World) (x : Value) (L' : List RWin) (hB : Below w.heap.size w w') => h.newRow (w' := w') (x := x) (L' := L') hB)
      have hta := hide (toS_app hn (.slice none 0 0))
      have hids := hide (h.ids)
      have hi64 := hide h.i64
      have hc := h.cell
      have hq := h.cells
      obtain ⟨A, c, rfl, hcc, _⟩ := h.form
      have hrd := Rd.of_own h.row
      have hone : ∀ u ∈ L.flatMap RWin.enc, u.oneCell' = true := by
        intro u hu
        obtain ⟨r, hr, hu⟩ := List.mem_flatMap.1 hu
        obtain ⟨A', c', hv, _⟩ := own_form (h.serials r hr)
        simp only [RWin.enc, hv, List.mem_cons, List.not_mem_nil, or_false] at hu
        rcases hu with rfl | rfl | rfl <;> rfl
      obtain ⟨n, hnn⟩ : ∃ n, n = L.length := ⟨_, rfl⟩
      rw [← hnn] at hc hq hcc hrd hl
      replace hnn := hide hnn
      replace hrd := hide hrd
      replace hone := hide hone
      replace hn := hide hn
      have hlt := lt_of_block hq
      clear e1 hK hS h
      go_enter Tryd.func37, Tryd.ntmps37
      go_wp2_with fail
      refine (cW.out).mono ?_
      rintro e w' ⟨rfl, rfl⟩
      go_wp2_with (first
        | (at_builtin; refine wpList_append_rd rfl _ _ 51 rfl w.heap.size 63 i0 _ 3 40 Tryd.underlying51 hi hz0 hz1 hz2 rfl (by decide) _ 0 [] rfl (World.ownsRow_nil _ _ _ _) A n c _ rfl hrd.out hone.out (by unfold maxLen; omega) (by omega) (Nat.le_refl _) ?_; intro v2 w2 own2 hg2; have hB2 : Below w.heap.size w w2 := (Below.refl _ _).grown hg2 (Nat.le_refl _) (fun k e => by cases e); have own0 : w2.ownsRow w.heap.size 63 3 v2 n (L.flatMap RWin.enc) := (by simpa using own2); obtain ⟨A2, c2, rfl, hc2⟩ := own_form own0)
        | (at_builtin; refine wpList_append_own _ rfl _ _ 51 rfl w.heap.size 63 i0 _ 3 40 Tryd.underlying51 hi hz0 hz1 hz2 rfl (by decide) _ _ _ rfl (own0.alloc _) ⟨w2.heap.size, 0, none⟩ 1 1 [.int .i64 id, .int .i64 0, .slice none 0 0] rfl rfl (cells_new18 _ _ _) (by intro u hu; simp at hu; rcases hu with rfl | rfl | rfl <;> rfl) (by unfold maxLen; omega) (by omega) (by have := hB2.size; simp <;> omega) ?_; intro v3 w3 own3 hg3 _; have hB3 : Below w.heap.size w w3 := ((hB2.alloc hB2.size _).grown hg3 (by have := hB2.size; simp <;> omega) (fun k hk => (own0.lt k hk).1)); have hgb3 := (hB3.block q hlt).trans hq; have k3 : w3.cell? ⟨q, 0, none⟩ = some (.slice A n c) := ((hB3.cell hlt).trans hc); have f3 : w3.frozen? ⟨q, 0, none⟩ = false := (by simp [World.frozen?, hgb3]); obtain ⟨A3, c3, rfl, hc3⟩ := own_form own3))
      go_ret
      have hx : w3.ownsRow w.heap.size 63 3 (.slice A3 (n + 1) c3) (L ++ [(⟨id, 0, .slice none 0 0, []⟩ : RWin)]).length ((L ++ [(⟨id, 0, .slice none 0 0, []⟩ : RWin)]).flatMap RWin.enc) := by
        have e : (L ++ [(⟨id, 0, .slice none 0 0, []⟩ : RWin)]).length = n + 1 := by simp [hnn.out]
        rw [e, List.flatMap_append]
        exact own3
      have hnd : ((L ++ [(⟨id, 0, .slice none 0 0, []⟩ : RWin)]).map RWin.id).Nodup := by
        rw [List.map_append, List.nodup_append]
        refine ⟨hids.out, by simp, fun a ha c hc' => ?_⟩
        simp at hc'
        subst hc'
        obtain ⟨r, hr, rfl⟩ := List.mem_map.1 ha
        obtain ⟨k, hk, rfl⟩ := List.getElem_of_mem hr
        have := hn.out k hk
        simpa [List.getD, hk] using this
      have h1 := hnew.out w3 (.slice A3 (n + 1) c3) _ hB3 hx hnd (fun r hr => by
        rcases List.mem_append.1 hr with hr | hr
        · exact ⟨hi64.out r hr, .inl hr⟩
        · simp at hr; subst hr; exact ⟨hid, .inr ⟨rfl, rfl⟩⟩)
      exact ⟨rfl, RefOut.of h1.1 hta.out (by simp) h1.2⟩
  · have e1 := toS_some h.ids hk
    rw [hik] at e1
    obtain ⟨g, c, rfl, k1, k2, fr, hg⟩ := h.at hk
    have cW := hide (rW_at h hl hk hik)
    have hK : addK (toS L) id b = 10 := by simp [addK, e1]
    have hS : addS (toS L) id b = toS L := by simp [addS, e1]
    rw [hK, hS]
    replace h := hide h
    clear hK hS e1 k1 k2 fr
    go_enter Tryd.func37, Tryd.ntmps37
    go_wp2_with fail
    refine (cW.out).mono ?_
    rintro e w' ⟨rfl, rfl⟩
    go_wp2
    go_ret
    exact ⟨rfl, h.out.stay⟩

/-- The first k windows but those of a number. -/
def butK (L : List RWin) (id : Int) (k : Nat) : List RWin := (L.take k).filter fun r => r.id != id
theorem butK_succ {L : List RWin} {id : Int} {k : Nat} (hk : k < L.length) : butK L id (k + 1) = if (L.getD k default).id = id then butK L id k else butK L id k ++ [L.getD k default] := by
  have e : L.take (k + 1) = L.take k ++ [L.getD k default] := by
    rw [List.take_succ_eq_append_getElem hk]
    simp [List.getD, hk]
  unfold butK
  rw [e, List.filter_append]
  by_cases h : (L.getD k default).id = id
  · rw [if_pos h, List.filter_cons_of_neg (by simpa using h)]; simp
  · rw [if_neg h, List.filter_cons_of_pos (by simpa using h)]; simp
theorem butK_len (L : List RWin) (id : Int) (k : Nat) : (butK L id k).length ≤ k := by
  unfold butK
  exact Nat.le_trans (List.length_filter_le _ _) (by rw [List.length_take]; exact Nat.min_le_left _ _)


set_option maxRecDepth 100000 in
set_option maxHeartbeats 1000000 in
theorem rDrop_any (w : World) (q : Nat) (G : Nat → Prop) (v : Value) (L : List RWin) (id : Int) (h : RefL w q G v L) (hl : L.length ≤ 1000) :
    Calls Tryd.prog 38 #[.pointer (some ⟨q, 0, none⟩), .int .i64 id] w fun e w' => e = .returned (.int .i64 (dropK (toS L) id)) ∧ RefOut w q G L.length (dropS (toS L) id) w' := by
  obtain ⟨i0, hi, hz0, hz1, hz2⟩ := info_parts18 Tryd.infoW18
  rcases found_or L id with hn | ⟨k, hk, hid⟩
  · have cS := hide (rStep_no h hl hn)
    have e1 := toS_none hn
    have hK : dropK (toS L) id = 5 := by unfold dropK; rw [e1]
    have hS : dropS (toS L) id = toS L := by unfold dropS; rw [e1]
    rw [hK, hS]
    replace h := hide h
    clear hn e1 hK hS
    go_enter Tryd.func38, Tryd.ntmps38
    go_wp2_with fail
    refine (cS.out).mono ?_
    rintro e w' ⟨rfl, rfl⟩
    go_wp2
    go_ret
    exact ⟨rfl, h.out.stay⟩
  · have cS := rStep_at h hl hk hid
    have e1 := toS_some h.ids hk
    rw [hid] at e1
    by_cases hst0 : (L.getD k default).st = 0
    · rw [hst0] at cS e1
      have hK : dropK (toS L) id = 0 := by unfold dropK; rw [e1]
      have hS : dropS (toS L) id = setS (toS L) id none := by simp [dropS, e1]
      rw [hK, hS]
      replace cS := hide cS
      have hnew := hide (fun (w' : World) (x : Value) (L' : List RWin) (hB : Below w.heap.size w w') => h.newRow (w' := w') (x := x) (L' := L') hB)
      have hta := hide (toS_drop L id)
      have hids := hide h.ids
      have hi64 := hide h.i64
      have hc0 := h.cell
      have hq := h.cells
      have hlt := lt_of_block hq
      obtain ⟨A, c, rfl, hcc, hA⟩ := h.form
      obtain ⟨g, rfl⟩ := hA (by omega)
      have hwin := hide (fun (w' : World) (hB : Below w.heap.size w w') => fun k hk => RefL.win (w := w') (k := k) (h.chg (Chg.of_below hB (fun _ => False)) fun _ _ h => h) hk)
      have hform := hide (fun k (hk : k < L.length) => own_form (h.serials _ (getD_mem18 hk)))
      obtain ⟨n, hnn⟩ : ∃ n, n = L.length := ⟨_, rfl⟩
      rw [← hnn] at hcc hl hc0 hq
      replace hnn := hide hnn
      clear hst0 hK hS e1 h hA
      go_enter Tryd.func38, Tryd.ntmps38
      go_wp2_with fail
      refine (cS.out).mono ?_
      rintro e w' ⟨rfl, rfl⟩
      go_wp2
      go_loopw [5, 6] (fun u i wr => ∃ j : Nat, j ≤ n ∧ i = .int .i64 j ∧ Hid (wr.ownsRow w.heap.size 63 3 u (butK L id j).length ((butK L id j).flatMap RWin.enc)) ∧ Hid (Below w.heap.size w wr))
        (fun _ i _ => n - (intOf i).toNat)
      case atStart => exact ⟨0, Nat.zero_le _, rfl, hide (World.ownsRow_nil _ _ _ _), hide (Below.refl _ _)⟩
      case round =>
        obtain ⟨j, hj, rfl, hown, hB⟩ := hrel
        have hc1 := (hB.out.cell hlt).trans hc0
        obtain ⟨Au, cu, rfl, hcu⟩ := own_form hown.out
        by_cases hjl : j < n
        · obtain ⟨c0, c1, c2⟩ := hwin.out wr hB.out j (by rw [← hnn.out]; exact hjl)
          obtain ⟨As, cs, hv, _⟩ := hform.out j (by rw [← hnn.out]; exact hjl)
          have hsucc := butK_succ (L := L) (id := id) (k := j) (by rw [← hnn.out]; exact hjl)
          have hle := butK_len L id j
          have henc : (L.getD j default).enc = [.int .i64 (L.getD j default).id, .int .i64 (L.getD j default).st, (L.getD j default).v] := rfl
          rw [hv] at c2 henc
          generalize (L.getD j default).ws.length = nx at c2 henc
          generalize (L.getD j default).id = ix at c0 henc hsucc
          generalize (L.getD j default).st = sx at c1 henc
          replace henc := hide henc
          clear hv
          by_cases hx : ix = id
          · have hb : (ix != id) = false := by simpa using hx
            rw [if_pos hx] at hsucc
            replace hsucc := hide hsucc
            clear hx
            go_wp2
            go_roundw
            case rel => exact ⟨j + 1, by omega, by go_num, by rw [hsucc.out]; exact hown, hB⟩
            case measure => simp [intOf]; omega
          · have hb : (ix != id) = true := by simpa using hx
            rw [if_neg hx] at hsucc
            have own0 := hown.out
            have hB0 := hB.out
            have hlen : (butK L id (j + 1)).length = (butK L id j).length + 1 := by rw [hsucc]; simp
            have hfm : (butK L id (j + 1)).flatMap RWin.enc = (butK L id j).flatMap RWin.enc ++ [.int .i64 ix, .int .i64 sx, .slice As nx cs] := by rw [hsucc, List.flatMap_append, List.flatMap_cons, List.flatMap_nil, List.append_nil, henc.out]
            replace hsucc := hide hsucc
            replace hlen := hide hlen
            replace hfm := hide hfm
            clear hx
            go_wp2_with (at_builtin; refine wpList_append_own _ rfl _ _ 51 rfl w.heap.size 63 i0 _ 3 40 Tryd.underlying51 hi hz0 hz1 hz2 rfl (by decide) _ _ _ rfl (own0.alloc _) ⟨wr.heap.size, 0, none⟩ 1 1 [.int .i64 ix, .int .i64 sx, .slice As nx cs] rfl rfl (cells_new18 _ _ _) (by intro u hu; simp at hu; rcases hu with rfl | rfl | rfl <;> rfl) (by unfold maxLen; omega) (by omega) (by have := hB0.size; simp <;> omega) ?_; intro v3 w3 own3 hg3 _; have hB3 : Below w.heap.size w w3 := ((hB0.alloc hB0.size _).grown hg3 (by have := hB0.size; simp <;> omega) (fun k hk => (own0.lt k hk).1)))
            go_roundw
            case rel => exact ⟨j + 1, by omega, by go_num, hide (by rw [hlen.out, hfm.out]; exact own3), hide hB3⟩
            case measure => simp [intOf]; omega
        · obtain rfl : j = n := by omega
          have hgb := (hB.out.block q hlt).trans hq
          have f3 : wr.frozen? ⟨q, 0, none⟩ = false := by simp [World.frozen?, hgb]
          have hbe : butK L id j = L.filter fun r => r.id != id := by unfold butK; rw [hnn.out, List.take_length]
          have hle := butK_len L id j
          rw [← hbe] at hta
          have hnd : ((butK L id j).map RWin.id).Nodup := by
            rw [hbe]
            exact hids.out.sublist (List.filter_sublist.map _)
          have hmem : ∀ r ∈ butK L id j, r ∈ L := by
            rw [hbe]; exact fun r hr => (List.mem_filter.1 hr).1
          have h1 := hnew.out wr _ _ hB.out hown.out hnd (fun r hr => ⟨hi64.out r (hmem r hr), .inl (hmem r hr)⟩)
          replace hbe := hide hbe
          replace hnd := hide hnd
          replace hmem := hide hmem
          replace h1 := hide h1
          go_wp2
          go_ret
          exact ⟨rfl, RefOut.of h1.out.1 hta.out (by have := hnn.out; omega) h1.out.2⟩
    · obtain ⟨s, hsS⟩ : ∃ s, (L.getD k default).st = s + 1 := ⟨(L.getD k default).st - 1, by omega⟩
      rw [hsS] at e1
      have hK : dropK (toS L) id = 12 := by simp [dropK, e1]
      have hS : dropS (toS L) id = toS L := by simp [dropS, e1]
      rw [hK, hS]
      generalize (L.getD k default).st = st at cS hst0
      have hd1 : ((st : Int) == -1) = false := by simp
      have hd2 : ((st : Int) == 0) = false := by simp; omega
      replace cS := hide cS
      have hn : True := trivial
      clear hst0 hsS
      replace h := hide h
      clear hn e1 hK hS
      go_enter Tryd.func38, Tryd.ntmps38
      go_wp2_with fail
      refine (cS.out).mono ?_
      rintro e w' ⟨rfl, rfl⟩
      go_wp2
      go_ret
      exact ⟨rfl, h.out.stay⟩
end Go.Proofs.YtfekldcpjoiipaaDoor
