/-
  tableauref18: what the calls turn; Top, Untop, Commit.
-/
import Derived.Test.YtfekldcpjoiipaaDoorRef18
import Derived.Test.YtfekldcpjoiipaaDoorShell6
namespace Go.Proofs.YtfekldcpjoiipaaDoor
open Go.RowKit

theorem rwin_set1 (s : Nat) : ∀ {L : List RWin} {k : Nat} (_ : k < L.length), (L.flatMap RWin.enc).set (k * 3 + 1) (.int .i64 s) = (L.set k { L.getD k default with st := s }).flatMap RWin.enc
  | [], k, hk => by simp at hk
  | r :: L, 0, _ => by simp [RWin.enc]
  | r :: L, k + 1, hk => by
    have ih := rwin_set1 s (L := L) (k := k) (by simpa using hk)
    rw [List.flatMap_cons, List.set_append_right _ _ (by show r.enc.length ≤ _; show 3 ≤ _; omega), show (k + 1) * 3 + 1 - r.enc.length = k * 3 + 1 by (show (k + 1) * 3 + 1 - 3 = _; omega), ih]
    rfl
theorem rwin_set2 (x : Value) (xs : List Int) : ∀ {L : List RWin} {k : Nat} (_ : k < L.length), (L.flatMap RWin.enc).set (k * 3 + 2) x = (L.set k { L.getD k default with v := x, ws := xs }).flatMap RWin.enc
  | [], k, hk => by simp at hk
  | r :: L, 0, _ => by simp [RWin.enc]
  | r :: L, k + 1, hk => by
    have ih := rwin_set2 x xs (L := L) (k := k) (by simpa using hk)
    rw [List.flatMap_cons, List.set_append_right _ _ (by show r.enc.length ≤ _; show 3 ≤ _; omega), show (k + 1) * 3 + 2 - r.enc.length = k * 3 + 2 by (show (k + 1) * 3 + 2 - 3 = _; omega), ih]
    rfl
/-- A cell of a row of our own is stored into. -/
theorem own_set18 {w : World} {base g n c i sz : Nat} {e : TypeId} {cs : List Value} (h : w.ownsRow base e sz (.slice (some ⟨g, 0, none⟩) n c) n cs) (u : Value) :
    (w.setCell ⟨g, i, none⟩ u).ownsRow base e sz (.slice (some ⟨g, 0, none⟩) n c) n (cs.set i u) := by
  refine ⟨by simpa using h.1, ?_⟩
  rcases h.2 with ⟨h2, _⟩ | ⟨g', cap, cur, hv, hb, hgb, r1, r2, r3, r4⟩
  · cases h2
  · simp only [Value.slice.injEq, Option.some.injEq, Addr.mk.injEq, and_true] at hv
    obtain ⟨rfl, _, rfl⟩ := hv
    have hs := heap_setCell_same w g i _ _ u hgb
    refine .inr ⟨g, c, _, rfl, hb, hs, r1, r2, by simpa using r3, ?_⟩
    rw [← r4]
    simp [List.take_set]
theorem own_open18 {w : World} {base g n c sz : Nat} {e : TypeId} {cs : List Value} (h : w.ownsRow base e sz (.slice (some ⟨g, 0, none⟩) n c) n cs) : ∃ cur, w.heap[g]? = some (.cells cur e (0, 0)) := by
  rcases h.2 with ⟨h2, _⟩ | ⟨g', cap, cur, hv, hb, hgb, _⟩
  · cases h2
  · simp only [Value.slice.injEq, Option.some.injEq, Addr.mk.injEq, and_true] at hv
    obtain ⟨rfl, _, rfl⟩ := hv
    exact ⟨cur, hgb⟩
theorem own_ne18 {w : World} {base n q sz : Nat} {e t : TypeId} {v : Value} {cs : List Value} {cs' : Array Value} {fr : Nat × Nat} (h : w.ownsRow base e sz v n cs) (hq : w.heap[q]? = some (.cells cs' t fr)) (ht : t ≠ e) : v.ownBlock ≠ some q := by
  intro hb
  rcases h.2 with ⟨rfl, _⟩ | ⟨g, cap, cur, rfl, _, hgb, _⟩
  · cases hb
  · cases hb
    rw [hq] at hgb
    cases hgb
    exact ht rfl
theorem toS_set : ∀ {L : List RWin} (_ : (L.map RWin.id).Nodup) {k : Nat} (_ : k < L.length) (r' : RWin) (_ : r'.id = (L.getD k default).id), toS (L.set k r') = setS (toS L) r'.id (some (r'.st, r'.ws))
  | [], _, k, hk, _, _ => by simp at hk
  | r :: L, hn, 0, _, r', hr => by
    funext i
    have hr : r'.id = r.id := hr
    unfold toS setS
    by_cases hi : i = r'.id
    · subst hi; simp
    · have h1 : r'.id ≠ i := fun e => hi e.symm
      have h2 : r.id ≠ i := fun e => hi (by rw [hr]; exact e.symm)
      rw [if_neg hi]
      simp [h1, h2]
  | r :: L, hn, k + 1, hk, r', hr => by
    obtain ⟨h1, h2⟩ := List.nodup_cons.1 hn
    have hk' : k < L.length := by simpa using hk
    have hr : r'.id = (L.getD k default).id := hr
    have ih := toS_set h2 hk' r' hr
    have hne : r.id ≠ r'.id := fun e => h1 (by
      rw [e, hr]
      have : (L.getD k default) ∈ L := by
        have e2 : L.getD k default = L[k] := by simp [List.getD, hk']
        rw [e2]; exact List.getElem_mem hk'
      exact List.mem_map_of_mem this)
    funext i
    have ihi := congrFun ih i
    unfold toS setS at ihi ⊢
    rw [List.set_cons_succ]
    by_cases hi : r.id = i
    · have h3 : ¬ i = r'.id := fun e => hne (hi.trans e)
      simp [hi, h3]
    · simp only [List.find?_cons, show (r.id == i) = false by simpa using hi]
      exact ihi

section
variable {w w' : World} {q : Nat} {G : Nat → Prop} {v : Value} {L : List RWin}

theorem RefL.wider {G' : Nat → Prop} (h : RefL w q G v L) (h1 : ∀ b, G b → G' b) (h2 : ∀ b, G' b → b < w.heap.size) : RefL w q G' v L :=
  ⟨h.cells, h.row, h.serials, h.ids, h.i64, h1 _ h.gq, fun b hb => h1 _ (h.gv b hb), fun r hr b hb => h1 _ (h.gs r hr b hb), h2⟩

/-- The footprint behind a call: what was laid since is ours. -/
def since (G : Nat → Prop) (w w' : World) : Nat → Prop := fun b => G b ∨ (w.heap.size ≤ b ∧ b < w'.heap.size)
/-- What a call leaves. -/
def RefOut (w : World) (q : Nat) (G : Nat → Prop) (n : Nat) (S' : Int → Option (Nat × List Int)) (w' : World) : Prop :=
  ∃ v' L', RefL w' q (since G w w') v' L' ∧ toS L' = S' ∧ L'.length ≤ n + 1 ∧ Chg G w w'
theorem RefL.stay (h : RefL w q G v L) : RefOut w q G L.length (toS L) w :=
  ⟨v, L, h.wider (fun _ => .inl) (fun b hb => by rcases hb with hb | hb; exact h.glt b hb; exact hb.2), rfl, Nat.le_succ _, Chg.refl _ _⟩

theorem set_ids {L : List RWin} {k : Nat} (hk : k < L.length) {r' : RWin} (hr : r'.id = (L.getD k default).id) : (L.set k r').map RWin.id = L.map RWin.id := by
  rw [List.map_set]
  apply List.ext_getElem?
  intro i
  rw [List.getElem?_set]
  split
  · rename_i h; subst h; simp [hk]
    simpa [hk, List.getD] using hr
  · rfl
theorem mem_set18 {L : List RWin} {k : Nat} {r' r : RWin} (h : r ∈ L.set k r') : r = r' ∨ r ∈ L := by
  rcases List.mem_or_eq_of_mem_set h with h | h
  · exact .inr h
  · exact .inl h
theorem getD_mem18 {L : List RWin} {k : Nat} (hk : k < L.length) : L.getD k default ∈ L := by
  have e2 : L.getD k default = L[k] := by simp [List.getD, hk]
  rw [e2]; exact List.getElem_mem hk

theorem RefL.setSt {g c : Nat} (h : RefL w q G (.slice (some ⟨g, 0, none⟩) L.length c) L) {k : Nat} (hk : k < L.length) (s : Nat) :
    RefL (w.setCell ⟨g, k * 3 + 1, none⟩ (.int .i64 s)) q G (.slice (some ⟨g, 0, none⟩) L.length c) (L.set k { L.getD k default with st := s }) := by
  obtain ⟨cur, hg⟩ := own_open18 h.row
  have hc := Chg.setCell (F := fun b => b = g) w (a := ⟨g, k * 3 + 1, none⟩) rfl (.int .i64 s)
  have hqg : q ≠ g := fun e => by have := h.cells; rw [e, hg] at this; cases this
  have hser := fun r hr => own_chg18 (h.serials r hr) hc (fun b hb e => own_ne18 (h.serials r hr) hg (by decide) (by rw [hb, e]))
  refine ⟨(hc.block q (lt_of_block h.cells) hqg).trans h.cells, ?_, ?_, ?_, ?_, h.gq, h.gv, ?_, fun b hb => by have := h.glt b hb; have := hc.size; omega⟩
  · have := own_set18 (i := k * 3 + 1) h.row (.int .i64 s)
    rw [rwin_set1 s hk] at this
    rw [List.length_set]; exact this
  · intro r hr
    rcases mem_set18 hr with rfl | hr
    · exact hser (L.getD k default) (getD_mem18 hk)
    · exact hser r hr
  · rw [set_ids hk (by rfl)]; exact h.ids
  · intro r hr
    rcases mem_set18 hr with rfl | hr
    · exact h.i64 (L.getD k default) (getD_mem18 hk)
    · exact h.i64 r hr
  · intro r hr
    rcases mem_set18 hr with rfl | hr
    · exact h.gs (L.getD k default) (getD_mem18 hk)
    · exact h.gs r hr
theorem RefL.setV {g c : Nat} (h : RefL w q G (.slice (some ⟨g, 0, none⟩) L.length c) L) {k : Nat} (hk : k < L.length) (x : Value) (xs : List Int)
    (hx : w.ownsRow 0 3 1 x xs.length (xs.map (Value.int .i64))) (hG : ∀ b, x.ownBlock = some b → G b) :
    RefL (w.setCell ⟨g, k * 3 + 2, none⟩ x) q G (.slice (some ⟨g, 0, none⟩) L.length c) (L.set k { L.getD k default with v := x, ws := xs }) := by
  obtain ⟨cur, hg⟩ := own_open18 h.row
  have hc := Chg.setCell (F := fun b => b = g) w (a := ⟨g, k * 3 + 2, none⟩) rfl x
  have hqg : q ≠ g := fun e => by have := h.cells; rw [e, hg] at this; cases this
  have hser := fun r hr => own_chg18 (h.serials r hr) hc (fun b hb e => own_ne18 (h.serials r hr) hg (by decide) (by rw [hb, e]))
  refine ⟨(hc.block q (lt_of_block h.cells) hqg).trans h.cells, ?_, ?_, ?_, ?_, h.gq, h.gv, ?_, fun b hb => by have := h.glt b hb; have := hc.size; omega⟩
  · have := own_set18 (i := k * 3 + 2) h.row x
    rw [rwin_set2 x xs hk] at this
    rw [List.length_set]; exact this
  · intro r hr
    rcases mem_set18 hr with rfl | hr
    · exact own_chg18 hx hc (fun b hb e => own_ne18 hx hg (by decide) (by rw [hb, e]))
    · exact hser r hr
  · rw [set_ids hk (by rfl)]; exact h.ids
  · intro r hr
    rcases mem_set18 hr with rfl | hr
    · exact h.i64 (L.getD k default) (getD_mem18 hk)
    · exact h.i64 r hr
  · intro r hr
    rcases mem_set18 hr with rfl | hr
    · exact hG
    · exact h.gs r hr
theorem RefL.out {v' : Value} {L' : List RWin} (hG : ∀ b, G b → b < w.heap.size) (h : RefL w' q G v' L') {n : Nat} (hn : L'.length ≤ n + 1) {S' : Int → Option (Nat × List Int)} (hS : toS L' = S') (hc : Chg G w w') : RefOut w q G n S' w' :=
  ⟨v', L', h.wider (fun _ => .inl) (fun b hb => by rcases hb with hb | hb; (have := hG b hb; have := hc.size; omega); exact hb.2), hS, hn, hc⟩
theorem found_or (L : List RWin) (id : Int) : (∀ k, k < L.length → (L.getD k default).id ≠ id) ∨ ∃ k, k < L.length ∧ (L.getD k default).id = id := by
  by_cases h : ∃ k, k < L.length ∧ (L.getD k default).id = id
  · exact .inr h
  · exact .inl fun k hk e => h ⟨k, hk, e⟩
end

theorem rW_at {w : World} {q : Nat} {G : Nat → Prop} {g c : Nat} {L : List RWin} {id : Int} (h : RefL w q G (.slice (some ⟨g, 0, none⟩) L.length c) L) (hl : L.length ≤ 1000) {k : Nat} (hk : k < L.length) (hid : (L.getD k default).id = id) :
    Calls Tryd.prog 44 #[.pointer (some ⟨q, 0, none⟩), .int .i64 id] w fun e w' => e = .returned (.pointer (some ⟨g, k * 3, none⟩)) ∧ w = w' := by
  refine (rW_any w q G _ L id h hl).mono ?_
  rintro e w' ⟨p, rfl, hF, rfl⟩
  refine ⟨?_, rfl⟩
  rcases hF with ⟨hn, _⟩ | ⟨k', g', c', hk', hid', hv, rfl⟩
  · exact absurd hid (hn k hk)
  · obtain rfl := nodup_getD h.ids hk' hk (hid'.trans hid.symm)
    simp only [Value.slice.injEq, Option.some.injEq, Addr.mk.injEq, and_true] at hv
    rw [hv.1]
theorem rW_no {w : World} {q : Nat} {G : Nat → Prop} {v : Value} {L : List RWin} {id : Int} (h : RefL w q G v L) (hl : L.length ≤ 1000) (hn : ∀ k, k < L.length → (L.getD k default).id ≠ id) :
    Calls Tryd.prog 44 #[.pointer (some ⟨q, 0, none⟩), .int .i64 id] w fun e w' => e = .returned (.pointer none) ∧ w = w' := by
  refine (rW_any w q G _ L id h hl).mono ?_
  rintro e w' ⟨p, rfl, hF, rfl⟩
  refine ⟨?_, rfl⟩
  rcases hF with ⟨_, rfl⟩ | ⟨k', g', c', hk', hid', _⟩
  · rfl
  · exact absurd hid' (hn k' hk')
theorem rStep_at {w : World} {q : Nat} {G : Nat → Prop} {v : Value} {L : List RWin} {id : Int} (h : RefL w q G v L) (hl : L.length ≤ 1000) {k : Nat} (hk : k < L.length) (hid : (L.getD k default).id = id) :
    Calls Tryd.prog 45 #[.pointer (some ⟨q, 0, none⟩), .int .i64 id] w fun e w' => e = .returned (.int .i64 (L.getD k default).st) ∧ w = w' := by
  have e1 : stepI (toS L) id = (L.getD k default).st := by rw [← hid]; simp only [stepI, toS_some h.ids hk]
  have := rStep_any w q G v L id h hl
  rwa [e1] at this
theorem rStep_no {w : World} {q : Nat} {G : Nat → Prop} {v : Value} {L : List RWin} {id : Int} (h : RefL w q G v L) (hl : L.length ≤ 1000) (hn : ∀ k, k < L.length → (L.getD k default).id ≠ id) :
    Calls Tryd.prog 45 #[.pointer (some ⟨q, 0, none⟩), .int .i64 id] w fun e w' => e = .returned (.int .i64 (-1)) ∧ w = w' := by
  have e1 : stepI (toS L) id = -1 := by simp only [stepI, toS_none hn]
  have := rStep_any w q G v L id h hl
  rwa [e1] at this

/-- Window k's cells, as the walk wants them. -/
theorem RefL.at {w : World} {q : Nat} {G : Nat → Prop} {v : Value} {L : List RWin} (h : RefL w q G v L) {k : Nat} (hk : k < L.length) :
    ∃ g c, v = .slice (some ⟨g, 0, none⟩) L.length c ∧ w.cell? ⟨g, k * 3 + 1, none⟩ = some (.int .i64 (L.getD k default).st) ∧ w.cell? ⟨g, k * 3 + 2, none⟩ = some (L.getD k default).v ∧ (∀ i, w.frozen? ⟨g, i, none⟩ = false) ∧ G g := by
  obtain ⟨A, c, rfl, hc, hA⟩ := h.form
  obtain ⟨g, rfl⟩ := hA (by omega)
  obtain ⟨_, h1, h2⟩ := h.win hk
  obtain ⟨cur, hg⟩ := own_open18 h.row
  exact ⟨g, c, rfl, h1, h2, fun i => by simp [World.frozen?, hg], h.gv g rfl⟩

set_option maxRecDepth 100000 in
theorem rTop_any (w : World) (q : Nat) (G : Nat → Prop) (v : Value) (L : List RWin) (id : Int) (h : RefL w q G v L) (hl : L.length ≤ 1000) :
    Calls Tryd.prog 39 #[.pointer (some ⟨q, 0, none⟩), .int .i64 id] w fun e w' => e = .returned (.int .i64 (topK (toS L) id)) ∧ RefOut w q G L.length (topS (toS L) id) w' := by
  rcases found_or L id with hn | ⟨k, hk, hid⟩
  · have cS := hide (rStep_no h hl hn)
    have e1 := toS_none hn
    have hK : topK (toS L) id = 5 := by unfold topK; rw [e1]
    have hS : topS (toS L) id = toS L := by unfold topS; rw [e1]
    rw [hK, hS]
    replace h := hide h
    clear hn e1 hK hS
    go_enter Tryd.func39, Tryd.ntmps39
    go_wp2_with fail
    refine (cS.out).mono ?_
    rintro e w' ⟨rfl, rfl⟩
    go_wp2
    go_ret
    exact ⟨rfl, h.out.stay⟩
  · have cS := rStep_at h hl hk hid
    have e1 := toS_some h.ids hk
    rw [hid] at e1
    obtain ⟨g, c, rfl, k1, k2, fr, hg⟩ := h.at hk
    have cW := hide (rW_at h hl hk hid)
    have hset := h.setSt hk 1
    have hts : toS (L.set k { L.getD k default with st := 1 }) = setS (toS L) id (some (1, (L.getD k default).ws)) := by rw [← hid]; exact toS_set h.ids hk _ rfl
    have hL2 : (L.set k { L.getD k default with st := 1 }).length ≤ L.length + 1 := by simp
    have hf1 := fr (k * 3 + 1)
    generalize L.set k { L.getD k default with st := 1 } = L' at hset hts hL2
    rw [show topK (toS L) id = topK (fun _ => some ((L.getD k default).st, (L.getD k default).ws)) id by unfold topK; rw [e1]]
    rw [show topS (toS L) id = match ((L.getD k default).st, (L.getD k default).ws) with | (0, ws) => setS (toS L) id (some (1, ws)) | _ => toS L by unfold topS; rw [e1]; cases (L.getD k default).st <;> rfl]
    generalize (L.getD k default).st = s at cS k1
    generalize (L.getD k default).ws = ws at hts
    replace cS := hide cS
    replace hts := hide hts
    replace h := hide h
    replace hset := hide hset
    cases s with
    | zero =>
      go_enter Tryd.func39, Tryd.ntmps39
      go_wp2_with fail
      refine (cS.out).mono ?_
      rintro e w' ⟨rfl, rfl⟩
      go_wp2_with fail
      refine (cW.out).mono ?_
      rintro e w' ⟨rfl, rfl⟩
      go_wp2
      go_ret
      exact ⟨rfl, RefL.out h.out.glt hset.out hL2 hts.out (Chg.setCell w (a := ⟨g, k * 3 + 1, none⟩) hg _)⟩
    | succ s =>
      have hd1 : (((s + 1 : Nat) : Int) == -1) = false := by simp; omega
      have hd2 : (((s + 1 : Nat) : Int) == 0) = false := by simp; omega
      obtain ⟨t, ht⟩ : ∃ t, t = s + 1 := ⟨_, rfl⟩
      rw [← ht] at hd1 hd2 cS
      have hK : topK (fun _ => some (s + 1, ws)) id = 10 := rfl
      rw [hK]
      show Calls _ _ _ _ fun e w' => _ ∧ RefOut w q G L.length (toS L) w'
      replace ht := hide ht
      go_enter Tryd.func39, Tryd.ntmps39
      go_wp2_with fail
      refine (cS.out).mono ?_
      rintro e w' ⟨rfl, rfl⟩
      go_wp2
      go_ret
      exact ⟨rfl, h.out.stay⟩
end Go.Proofs.YtfekldcpjoiipaaDoor
