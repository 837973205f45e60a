/-
  tableauref17: Add.
  tableauref17: Drop.
-/
import Derived.Test.YthkjicnnepkghaaGreatDoorPkO
import Derived.Test.YthkjicnnepkghaaGreatDoorPkRef17g
import Derived.Deep.MidRow
import Derived.Deep.WholeRow
import Derived.Great.BuildSlice
namespace Go.Proofs.YthkjicnnepkghaaGreatDoor
open Go.RowKit
set_option linter.unusedVariables false

def zS17 : Value := .agg #[.int .i64 0, .int .i64 0, .bool false, .bool false, .int .i64 0, .slice none 0 0, .slice none 0 0, .bool false, .bool false, .slice none 0 0, .bool false, .slice none 0 0, .slice none 0 0, .bool false, .int .i64 0, .slice none 0 0, .slice none 0 0, .bool false, .bool false, .slice none 0 0, .bool false, .slice none 0 0, .slice none 0 0, .bool false, .int .i64 0, .slice none 0 0, .slice none 0 0, .bool false, .bool false, .slice none 0 0, .bool false, .slice none 0 0, .slice none 0 0]
theorem Tryz.infoS17 : (Tryz.prog.info? 86).map (fun i => (i.zero, i.size, i.bytes)) = some (some zS17, 33, 480) := by kernel_rfl
theorem StRd.one {w : World} {v : StV} {s : St} (h : StRd w v s) : v.d.oneCell' = true ∧ v.f.oneCell' = true ∧ v.r.oneCell' = true ∧ v.o.oneCell' = true ∧ v.p.oneCell' = true := by
  obtain ⟨A1, c1, A2, c2, A3, c3, A4, c4, A5, c5, rfl⟩ := h.forms
  exact ⟨rfl, rfl, rfl, rfl, rfl⟩
theorem RSfOk.one {w : World} {G : Nat → Prop} {r : RSf} (h : RSfOk w G r) : ∀ u ∈ r.enc, u.oneCell' = true := by
  obtain ⟨a1, a2, a3, a4, a5⟩ := h.pe.one
  obtain ⟨b1, b2, b3, b4, b5⟩ := h.ca.one
  obtain ⟨c1, c2, c3, c4, c5⟩ := h.cu.one
  intro u hu
  simp only [RSf.enc, List.mem_cons, List.not_mem_nil, or_false] at hu
  rcases hu with rfl | rfl | rfl | rfl | rfl | rfl | rfl | rfl | rfl | rfl | rfl | rfl | rfl | rfl | rfl | rfl | rfl | rfl | rfl | rfl | rfl | rfl | rfl | rfl | rfl | rfl | rfl | rfl | rfl | rfl | rfl | rfl | rfl <;> first | rfl | assumption
theorem RefF.one {B0 : Nat} {w : World} {q : Nat} {G : Nat → Prop} {v : Value} {L : List RSf} (h : RefF B0 w q G v L) : ∀ u ∈ L.flatMap RSf.enc, u.oneCell' = true := fun u hu => by
  obtain ⟨r, hr, hu⟩ := List.mem_flatMap.1 hu
  exact (h.ok r hr).one u hu
theorem toF_snoc {L : List RSf} {r : RSf} (h : toF L r.id = none) : toF (L ++ [r]) = setM (toF L) r.id (some r.s) := by
  funext i
  unfold toF at h
  unfold setM
  show ((L ++ [r]).find? fun r => r.id == i).map RSf.s = if i = r.id then some r.s else (L.find? fun r => r.id == i).map RSf.s
  rw [List.find?_append]
  by_cases e : i = r.id
  · subst e
    rw [if_pos rfl]
    cases hf : L.find? fun x => x.id == r.id with
    | some x => rw [hf] at h; cases h
    | none => simp
  · rw [if_neg e]
    cases hf : L.find? fun x => x.id == i with
    | some x => rfl
    | none =>
      have h1 : ([r].find? fun x => x.id == i) = none := by
        rw [List.find?_cons_of_neg (by simpa using Ne.symm e)]; rfl
      rw [h1]; rfl

theorem RefF.added {B0 : Nat} {w w1 w2 w3 : World} {q : Nat} {G : Nat → Prop} {v v3 : Value} {L : List RSf} (h : RefF B0 w q G v L) (hB0 : B0 ≤ w.heap.size) {r : RSf} (hid : toF L r.id = none) (h64 : I64 r.id)
    (b1 : Below w.heap.size w w1) (b2 : Below w1.heap.size w1 w2) (b3 : Below w.heap.size w w3) (hz3 : w2.heap.size ≤ w3.heap.size) (hk3 : ∀ b, w1.heap.size ≤ b → b < w2.heap.size → w3.heap[b]? = w2.heap[b]?)
    (hs : r.s = newSf) (hpe : r.pe = StV.nil) (hca : r.ca = StV.nil) (hcu : StOwn w2 w1.heap.size r.cu St.first) (ho : w3.ownsRow w.heap.size 86 33 v3 (L.length + 1) (L.flatMap RSf.enc ++ r.enc)) (hv3 : ∀ b, v3.ownBlock = some b → b < w1.heap.size ∨ w2.heap.size ≤ b) :
    RFOut B0 w q G v (setM (toF L) r.id (some newSf)) (w3.setCell ⟨q, 0, none⟩ v3) := by
  have hql := lt_of_block h.cells
  have hz1 := b1.size
  have hz2 := b2.size
  have hvq : v3.ownBlock ≠ some q := fun e => by have := (ho.lt q e).1; omega
  have hk : ∀ b, b < w.heap.size → b ≠ q → (w3.setCell ⟨q, 0, none⟩ v3).heap[b]? = w.heap[b]? := fun b hb hne => (heap_setCell_other w3 _ b _ hne).trans (b3.block b hb)
  have hk2 : ∀ b, w1.heap.size ≤ b → b < w2.heap.size → (w3.setCell ⟨q, 0, none⟩ v3).heap[b]? = w2.heap[b]? := fun b hb hl => (heap_setCell_other w3 _ b _ (by show b ≠ q; omega)).trans (hk3 b hb hl)
  have hG' : ∀ b, (G b ∨ (w1.heap.size ≤ b ∧ b < w2.heap.size)) → b < w3.heap.size := fun b hb => by
    rcases hb with hb | hb
    · have := h.glt b hb; have := b3.size; omega
    · omega
  have hin : ∀ (n : Nat) (u : Value) {e : TypeId} {sz : Nat} {cs : List Value}, w2.ownsRow w1.heap.size e sz u n cs → BlkIn (fun b => G b ∨ (w1.heap.size ≤ b ∧ b < w2.heap.size)) u n := fun n u e sz cs ho _ b hb => .inr (ho.lt b hb)
  have hst : StRd (w3.setCell ⟨q, 0, none⟩ v3) r.cu r.s.cu := by
    rw [hs]
    have h1 := hcu.rd
    have hi : StIn (fun b => w1.heap.size ≤ b ∧ b < w2.heap.size) r.cu St.first := ⟨fun _ b hb => hcu.d.lt b hb, fun _ b hb => hcu.f.lt b hb, fun _ b hb => hcu.r.lt b hb, fun _ b hb => hcu.o.lt b hb, fun _ b hb => hcu.p.lt b hb⟩
    exact h1.keep hi (by rw [size_setCell]; exact hz3) fun b hb _ => hk2 b hb.1 hb.2
  have hpes : r.s.pe = St.zero := by rw [hs]; rfl
  have hcas : r.s.ca = St.zero := by rw [hs]; rfl
  have hcus : r.s.cu = St.first := by rw [hs]; rfl
  refine ⟨fun b => G b ∨ (w1.heap.size ≤ b ∧ b < w2.heap.size), v3, L ++ [r], ⟨?_, ?_, ?_, ?_, h.qB, ?_, ?_, ?_⟩, ?_, ?_, ?_⟩
  · have := heap_setCell_same w3 q 0 _ _ v3 ((b3.block q hql).trans h.cells)
    exact this
  · rw [List.length_append, List.flatMap_append]
    have := own_le (base' := B0) (own_keepF (w' := w3.setCell ⟨q, 0, none⟩ v3) ho fun b hb => heap_setCell_other w3 _ b _ (fun e => hvq (by rw [hb]; exact congrArg some e))) hB0
    simpa using this
  · intro x hx
    rcases List.mem_append.1 hx with hx | hx
    · exact ((h.ok x hx).keep (by rw [size_setCell]; exact b3.size) fun b hb hl => hk b hl fun e => h.gq (e ▸ hb)).mono fun b hb => .inl hb
    · obtain rfl : x = r := by simpa using hx
      refine ⟨by rw [hpe, hpes]; exact StRd.zero _, by rw [hca, hcas]; exact StRd.zero _, hst, by rw [hpe]; exact StIn.zero _ _, by rw [hca]; exact StIn.zero _ _, ?_, h64⟩
      rw [hcus]
      exact ⟨hin _ _ hcu.d, hin _ _ hcu.f, hin _ _ hcu.r, hin _ _ hcu.o, hin _ _ hcu.p⟩
  · rw [List.map_append, List.nodup_append]
    refine ⟨h.ids, by simp, fun a ha b hb => ?_⟩
    obtain rfl : b = r.id := by simpa using hb
    rintro rfl
    have := (toF_isS (L := L) r.id).2 ha
    rw [hid] at this; cases this
  · rintro (hb | hb)
    · exact h.gq hb
    · omega
  · rintro b hb (hb2 | hb2)
    · have := (ho.lt b hb).1; have := h.glt b hb2; omega
    · rcases hv3 b hb with h3 | h3 <;> omega
  · intro b hb
    rw [size_setCell]
    exact hG' b hb
  · rw [toF_snoc hid, hs]
  · exact (Chg.of_below b3 _).trans (Chg.setCell (F := writR q v) w3 (a := ⟨q, 0, none⟩) (.inl rfl) v3) (Ext.refl _ _)
  · rintro b (hb | hb | hb)
    · rcases hb with hb | hb
      · exact .inl (.inl hb)
      · exact .inr (by omega)
    · exact .inl (.inr (.inl hb))
    · exact .inr (ho.lt b hb).1

set_option maxRecDepth 100000 in
set_option maxHeartbeats 4000000 in
theorem gAdd_any {B0 : Nat} (w : World) {q : Nat} {G : Nat → Prop} {v : Value} {L : List RSf} (hB0 : B0 ≤ w.heap.size) (h : RefF B0 w q G v L) (hl : L.length ≤ 1000) (id : Int) (hid : I64 id) :
    Calls Tryz.prog 39 #[.pointer (some ⟨q, 0, none⟩), .int .i64 id] w fun e w' => e = .returned (.int .i64 (faddK (toF L) L.length id)) ∧ RFOut B0 w q G v (faddS (toF L) L.length id) w' := by
  have hc := h.cell
  obtain ⟨A, c, rfl, hcc, _⟩ := h.form
  by_cases h1 : id < 1
  · have e1 : faddK (toF L) L.length id = 1 := by unfold faddK; rw [if_pos h1]
    have e2 : faddS (toF L) L.length id = toF L := by unfold faddS; rw [if_neg (by rw [e1]; decide)]
    rw [e1, e2]
    replace h := hide h
    clear e1 e2
    go_enter Tryz.func39, Tryz.ntmps39
    go_wp2
    go_ret
    exact ⟨rfl, h.out.stay⟩
  · cases hs : toF L id with
    | some s =>
      obtain ⟨k, g, c', r, hh, rfl⟩ := h.here hs
      have cS := hide (gS_at h hl hh)
      have e1 : faddK (toF L) L.length id = 5 := by unfold faddK; rw [if_neg h1, hs]; rfl
      have e2 : faddS (toF L) L.length id = toF L := by unfold faddS; rw [if_neg (by rw [e1]; decide)]
      rw [e1, e2]
      replace h := hide h
      clear e1 e2 hh
      go_enter Tryz.func39, Tryz.ntmps39
      go_wp2_with fail
      refine (cS.out).mono ?_
      rintro e w' ⟨rfl, rfl⟩
      go_wp2
      go_ret
      exact ⟨rfl, h.out.stay⟩
    | none =>
      have cS := hide (gS_no h hl hs)
      by_cases h40 : 40 ≤ L.length
      · have e1 : faddK (toF L) L.length id = 4 := by unfold faddK; rw [if_neg h1, hs]; simp [h40]
        have e2 : faddS (toF L) L.length id = toF L := by unfold faddS; rw [if_neg (by rw [e1]; decide)]
        rw [e1, e2]
        replace h := hide h
        clear e1 e2
        go_enter Tryz.func39, Tryz.ntmps39
        go_wp2_with fail
        refine (cS.out).mono ?_
        rintro e w' ⟨rfl, rfl⟩
        go_wp2
        go_ret
        exact ⟨rfl, h.out.stay⟩
      · have e1 : faddK (toF L) L.length id = 0 := by unfold faddK; rw [if_neg h1, hs]; simp [h40]
        have e2 : faddS (toF L) L.length id = setM (toF L) id (some newSf) := by unfold faddS; rw [if_pos e1]
        rw [e1, e2]
        obtain ⟨i0, hi, hz0, hz1, hz2⟩ := info_parts Tryz.infoS17
        have hone := hide h.one
        have hrd := Rd.of_own h.row
        have cF := hide (fun w => gFirst15_any w)
        have fq := frozen_of_row w q 0 _ _ h.cells
        have hql := lt_of_block h.cells
        obtain ⟨n, hn⟩ : ∃ n, n = L.length := ⟨_, rfl⟩
        have hrow := h.row
        rw [← hn] at hrd hl h40 hc hcc
        have hh := hide h
        have hs' := hide hs
        replace hn := hide hn
        clear e1 e2 h hs hrow
        go_enter Tryz.func39, Tryz.ntmps39
        go_wp2_with fail
        refine (cS.out).mono ?_
        rintro e w' ⟨rfl, rfl⟩
        go_wp2_with (at_builtin; refine wpList_append_rd rfl _ _ 26 rfl w.heap.size 86 i0 _ 33 480 Tryz.underlying26 hi hz0 hz1 hz2 rfl (by decide) _ 0 [] rfl (World.ownsRow_nil _ _ _ _) A n c _ rfl hrd hone.out (by unfold maxLen; omega) (by omega) (Nat.le_refl _) ?_; intro v1 w1 o1 hg1)
        rw [Nat.zero_add, List.nil_append] at o1
        have b1 : Below w.heap.size w w1 := (Below.refl _ _).grown hg1 (Nat.le_refl _) (fun k e => by cases e)
        have o1n : w1.ownsRow w.heap.size 86 33 v1 n (L.flatMap RSf.enc) := o1
        obtain ⟨A1, c1, rfl, hc1⟩ := own_form o1n
        have cF1 := hide (cF.out w1)
        replace o1 := hide o1n
        replace b1 := hide b1
        clear o1n hg1 hrd
        go_wp2_with fail
        refine cF1.out.mono ?_
        rintro e w2 ⟨vF, rfl, hF, b2⟩
        have hF' := hide hF
        obtain ⟨D1, d1, D2, d2, D3, d3, D4, d4, D5, d5, hvF⟩ := hF.forms
        have o2 := hide (own_belowF o1.out b2 (Nat.le_refl _))
        have hs1 := b1.out.size
        have hs2 := b2.size
        have cq : w2.cell? ⟨q, 0, none⟩ = some (.slice A n c) := by
          have hqs : w2.heap[q]? = w.heap[q]? := (b2.block q (by omega)).trans (b1.out.block q hql)
          exact (World.cell?_of_block (a := ⟨q, 0, none⟩) hqs).trans hc
        replace b2 := hide b2
        rw [hvF]
        unfold stVal St.first
        dsimp only [List.length_nil, List.length_cons]
        replace hvF := hide hvF
        have hz : Hid (Below w.heap.size w w2) := hide (b1.out.trans (b2.out.mono hs1))
        clear hF hc fq
        go_wp2_with (at_builtin; refine wpList_append_own_at _ rfl _ _ 26 rfl w.heap.size 86 i0 _ 33 480 Tryz.underlying26 hi hz0 hz1 hz2 rfl (by decide) _ _ _ rfl (o2.out.alloc _) ⟨w2.heap.size, 0, none⟩ 1 1 [.int .i64 id, .int .i64 0, .bool false, .bool false, .int .i64 0, .slice none 0 0, .slice none 0 0, .bool false, .bool false, .slice none 0 0, .bool false, .slice none 0 0, .slice none 0 0, .bool false, .int .i64 0, .slice none 0 0, .slice none 0 0, .bool false, .bool false, .slice none 0 0, .bool false, .slice none 0 0, .slice none 0 0, .bool false, .int .i64 0, .slice D1 0 d1, .slice D2 0 d2, .bool false, .bool true, .slice D3 0 d3, .bool false, .slice D4 1 d4, .slice D5 0 d5] rfl rfl (cells_newR _ _ _) (by intro u hu; simp only [List.mem_cons, List.not_mem_nil, or_false] at hu; rcases hu with rfl | rfl | rfl | rfl | rfl | rfl | rfl | rfl | rfl | rfl | rfl | rfl | rfl | rfl | rfl | rfl | rfl | rfl | rfl | rfl | rfl | rfl | rfl | rfl | rfl | rfl | rfl | rfl | rfl | rfl | rfl | rfl | rfl <;> rfl) (by unfold maxLen; omega) (by omega) (by simp; omega) ?_; intro v3 w3 o3 hg3 _ hat3; have hq3 : w3.heap[q]? = w.heap[q]? := ((hg3.block q (by simp; omega) (fun e => by have := (o2.out.lt q e.symm).1; omega)).trans (Below.heap_alloc _ _ _ (by omega))).trans (hz.out.block q hql); have cq3 := (World.cell?_of_block (a := ⟨q, 0, none⟩) hq3).trans (hh.out.cell); have fq3 := frozen_of_row w3 q 0 _ _ (hq3.trans hh.out.cells); obtain ⟨A3, c3, rfl, _⟩ := own_form o3)
        go_ret
        refine ⟨rfl, ?_⟩
        have o3' : w3.ownsRow w.heap.size 86 33 (.slice A3 (n + 1) c3) (L.length + 1) (L.flatMap RSf.enc ++ (RSf.enc ⟨id, newSf, StV.nil, StV.nil, vF⟩)) := by
          rw [hvF.out, ← hn.out]; exact o3
        refine hh.out.added (r := ⟨id, newSf, StV.nil, StV.nil, vF⟩) hB0 hs'.out hid b1.out b2.out ((hz.out.alloc hz.out.size _).grown hg3 (by simp; omega) (fun k hk => (o2.out.lt k hk).1)) (by have := hg3.size; simp at this; omega) (fun b hb hl => (hg3.block b (by simp; omega) (fun e => by have := (o1.out.lt b e.symm).2; omega)).trans (Below.heap_alloc _ _ _ hl)) rfl rfl rfl hF'.out o3' (fun b hb => ?_)
        rcases hat3 with e | e
        · left
          have h5 : (Value.slice A1 n c1).ownBlock = some b := e ▸ hb
          exact (o1.out.lt b h5).2
        · right
          rw [e] at hb
          have := Option.some.inj hb
          simp at this
          omega
end Go.Proofs.YthkjicnnepkghaaGreatDoor
namespace Go.Proofs.YthkjicnnepkghaaGreatDoor
open Go.RowKit
set_option linter.unusedVariables false

theorem len_same {L L' : List RSf} (hn : (L.map RSf.id).Nodup) (hn' : (L'.map RSf.id).Nodup) (hd : ∀ x, (toF L' x).isSome = (toF L x).isSome) : L'.length = L.length := by
  have h1 := List.Perm.length_eq ((List.perm_ext_iff_of_nodup hn' hn).2 fun x => by rw [← toF_isS, ← toF_isS, hd x])
  simpa using h1
def RSf.orph (r : RSf) (id : Int) : RSf := if r.s.parent = id then { r with s := { r.s with parent := 0 } } else r
theorem RSf.orph_id (r : RSf) (id : Int) : (r.orph id).id = r.id := by unfold RSf.orph; split <;> rfl
theorem RSf.orph_s (r : RSf) (id : Int) : (r.orph id).s = if r.s.parent = id then { r.s with parent := 0 } else r.s := by unfold RSf.orph; split <;> rfl
def dropL (L : List RSf) (id : Int) : List RSf := (L.map fun r => r.orph id).filter fun r => r.id != id
theorem dropL_hit {L : List RSf} {k : Nat} {id : Int} (hk : k < L.length) (h : (L.getD k default).id ≠ id) : dropL (L.take (k + 1)) id = dropL (L.take k) id ++ [(L.getD k default).orph id] := by
  unfold dropL
  rw [List.take_add_one, List.getElem?_eq_getElem hk]
  have e : L.getD k default = L[k] := by simp [List.getD, hk]
  rw [e] at h ⊢
  rw [List.map_append, List.filter_append]
  congr 1
  have h2 : (L[k].id != id) = true := by simpa using h
  simp only [Option.toList, List.map_cons, List.map_nil, List.filter_cons, List.filter_nil, RSf.orph_id, h2, if_true]
theorem dropL_miss {L : List RSf} {k : Nat} {id : Int} (hk : k < L.length) (h : (L.getD k default).id = id) : dropL (L.take (k + 1)) id = dropL (L.take k) id := by
  unfold dropL
  rw [List.take_add_one, List.getElem?_eq_getElem hk]
  have e : L.getD k default = L[k] := by simp [List.getD, hk]
  rw [e] at h
  rw [List.map_append, List.filter_append]
  have h2 : (L[k].id != id) = false := by simpa using h
  simp only [Option.toList, List.map_cons, List.map_nil, List.filter_cons, List.filter_nil, RSf.orph_id, h2, if_false, Bool.false_eq_true, List.append_nil]
theorem dropL_len (L : List RSf) (k : Nat) (id : Int) : (dropL (L.take k) id).length ≤ k := by
  unfold dropL
  refine Nat.le_trans (List.length_filter_le _ _) ?_
  rw [List.length_map]
  exact List.length_take_le _ _
theorem dropL_mem {L : List RSf} {id : Int} {r : RSf} (h : r ∈ dropL L id) : ∃ r0 ∈ L, r = r0.orph id := by
  unfold dropL at h
  obtain ⟨h1, _⟩ := List.mem_filter.1 h
  obtain ⟨r0, h2, h3⟩ := List.mem_map.1 h1
  exact ⟨r0, h2, h3.symm⟩
theorem dropL_ids (L : List RSf) (id : Int) : (dropL L id).map RSf.id = (L.map RSf.id).filter (· != id) := by
  induction L with
  | nil => rfl
  | cons a L ih =>
    unfold dropL at ih ⊢
    simp only [List.map_cons, List.filter_cons, RSf.orph_id]
    split
    · simp only [List.map_cons, RSf.orph_id, ih]
    · exact ih
theorem toF_drop (L : List RSf) (id : Int) : toF (dropL L id) = setM (orphan (toF L) id) id none := by
  funext i
  by_cases e : i = id
  · subst e
    rw [setM_same]
    have : ¬ (toF (dropL L i) i).isSome = true := by
      rw [toF_isS, dropL_ids]
      simp
    simpa using this
  · rw [setM_other _ _ e]
    induction L with
    | nil => rfl
    | cons a L ih =>
      unfold dropL toF orphan at ih ⊢
      simp only [List.map_cons, List.filter_cons, RSf.orph_id]
      by_cases h1 : a.id = i
      · have h2 : (a.id != id) = true := by simp [h1, e]
        rw [if_pos h2]
        simp only [List.find?_cons, RSf.orph_id, h1, beq_self_eq_true, Option.map_some, RSf.orph_s]
      · have h3 : (a.id == i) = false := by simpa using h1
        by_cases h2 : (a.id != id) = true
        · rw [if_pos h2]
          simp only [List.find?_cons, RSf.orph_id, h3]
          exact ih
        · rw [if_neg h2]
          simp only [List.find?_cons, h3]
          exact ih
theorem RSfOk.orph {w : World} {G : Nat → Prop} {r : RSf} (h : RSfOk w G r) (id : Int) : RSfOk w G (r.orph id) := by
  unfold RSf.orph
  split
  · exact ⟨h.pe, h.ca, h.cu, h.peI, h.caI, h.cuI, h.id64⟩
  · exact h
theorem RefF.relist {B0 : Nat} {w w2 : World} {q : Nat} {G : Nat → Prop} {v v2 : Value} {L L2 : List RSf} (h : RefF B0 w q G v L) (hB0 : B0 ≤ w.heap.size) (b2 : Below w.heap.size w w2) (o2 : w2.ownsRow w.heap.size 86 33 v2 L2.length (L2.flatMap RSf.enc))
    (hn : (L2.map RSf.id).Nodup) (hok : ∀ r ∈ L2, RSfOk w G r) : RefF B0 (w2.setCell ⟨q, 0, none⟩ v2) q G v2 L2 := by
  have hql := lt_of_block h.cells
  have hvq : ∀ b, v2.ownBlock = some b → b ≠ q := fun b hb e => by have := (o2.lt b hb).1; omega
  have hk : ∀ b, b < w.heap.size → b ≠ q → (w2.setCell ⟨q, 0, none⟩ v2).heap[b]? = w.heap[b]? := fun b hb hne => (heap_setCell_other w2 _ b _ hne).trans (b2.block b hb)
  refine ⟨heap_setCell_same w2 q 0 _ _ v2 ((b2.block q hql).trans h.cells), own_le (own_keepF (w' := w2.setCell ⟨q, 0, none⟩ v2) o2 fun b hb => heap_setCell_other w2 _ b _ (hvq b hb)) hB0, fun r hr => (hok r hr).keep (by rw [size_setCell]; exact b2.size) fun b hb hl => hk b hl fun e => h.gq (e ▸ hb), hn, h.qB, h.gq, fun b hb hG => ?_, fun b hb => ?_⟩
  · have := (o2.lt b hb).1
    have := h.glt b hG
    omega
  · rw [size_setCell]
    have := h.glt b hb
    have := b2.size
    omega
theorem own_below17 {base n sz : Nat} {e : TypeId} {v : Value} {cs : List Value} {w w' : World} (h : w.ownsRow base e sz v n cs) (hb : Below w.heap.size w w') : w'.ownsRow base e sz v n cs := own_keepF h fun b hb' => hb.block b (h.lt b hb').2
theorem cells_newQ {w : World} {k : Nat} (hk : w.heap.size = k) (cs : List Value) (t : TypeId) : ∀ j u, cs[j]? = some u → (w.alloc (.cells cs.toArray t)).cell? ((⟨k, 0, none⟩ : Addr).add j) = some u := by
  intro j u hj
  rw [addr_add, ← hk]
  rw [cell_of_row _ w.heap.size (0 + j) _ _ _ (heap_alloc_new _ _)]
  simpa using hj

theorem fill_row1 {s : Nat} (hs : 0 < s) (E : List Value) (hE : E.length = s) (cells : Array Value) (hc : cells.size = 1 * s) : Instr.fill (fun i => some (i * s, s)) cells [(0, .agg E.toArray)] = some E.toArray := by
  have := Great.fill_whole hs [.agg E.toArray] cells (by intro v hv; simp at hv; subst hv; simpa [Value.cells] using hE) (by rw [hc]; simp)
  simpa [Value.cells] using this
theorem stopHere {P : Prop} (h : Hid P) : P := h.out
theorem Tryz.sizeS17 : (Tryz.prog.info? 86).map (·.size) = some 33 := by kernel_rfl
structure OwnS (w : World) (b : Nat) (r : RSf) : Prop where
  blk : w.heap[b]? = some (.cells r.enc.toArray 86 (0, 0))
theorem OwnS.range {w : World} {b : Nat} {r : RSf} (h : OwnS w b r) : w.rangeAt b 0 r.enc := fun j u hu => by
  rw [cell_of_row w b (0 + j) _ _ _ h.blk]
  simpa using hu
theorem OwnS.facts {w : World} {b : Nat} {r : RSf} (h : OwnS w b r) : w.cell? ⟨b, 0, none⟩ = some (.int .i64 r.id) ∧ w.cell? ⟨b, 1, none⟩ = some (.int .i64 r.s.parent) ∧ w.frozen? ⟨b, 1, none⟩ = false :=
  ⟨cell_of_row w b 0 _ _ _ h.blk, cell_of_row w b 1 _ _ _ h.blk, frozen_of_row w b 1 _ _ h.blk⟩

set_option maxRecDepth 100000 in
set_option maxHeartbeats 4000000 in
theorem gDrop_any {B0 : Nat} (w : World) {q : Nat} {G : Nat → Prop} {v : Value} {L : List RSf} (hB0 : B0 ≤ w.heap.size) (h : RefF B0 w q G v L) (hl : L.length ≤ 1000) (hG : GoodM (toF L)) (hlen : ∀ i t, toF L i = some t → ∀ j, j < 3 → (stS j t).order.length ≤ 1000000 ∧ (stS j t).places.length ≤ 1000000) (id : Int) :
    Calls Tryz.prog 41 #[.pointer (some ⟨q, 0, none⟩), .int .i64 id] w fun e w' => e = .returned (.int .i64 (fdropK (toF L) id)) ∧ RFOut B0 w q G v (fdropS (toF L) id) w' := by
  cases hs : toF L id with
  | none =>
    have cS := hide (gS_no h hl hs)
    have e1 : fdropK (toF L) id = 5 := by simp [fdropK, hs]
    have e2 : fdropS (toF L) id = toF L := by simp [fdropS, hs]
    rw [e1, e2]
    replace h := hide h
    clear hG hlen e1 e2
    go_enter Tryz.func41, Tryz.ntmps41
    go_wp2_with fail
    refine (cS.out).mono ?_
    rintro e w' ⟨rfl, rfl⟩
    go_wp2
    go_ret
    exact ⟨rfl, h.out.stay⟩
  | some s =>
    obtain ⟨k0, g0, c0, r0, hh, rfl⟩ := h.here hs
    have cS := hide (gS_at h hl hh)
    have e1 : fdropK (toF L) id = 0 := by simp [fdropK, hs]
    have e2 : fdropS (toF L) id = setM (orphan (funsubS (toF L) id) id) id none := by simp [fdropS, hs]
    have cU := hide (gUnsub_any w h hl hG hlen id)
    rw [e1, e2]
    obtain ⟨i0, hi, hz0, hz1, hz2⟩ := info_parts Tryz.infoS17
    have hids := h.ids
    have hBq := hide h.qB
    replace h := hide h
    clear hG hlen e1 e2 hh hs
    go_enter Tryz.func41, Tryz.ntmps41
    go_wp2_with fail
    refine (cS.out).mono ?_
    rintro e w' ⟨rfl, rfl⟩
    go_wp2_with fail
    refine cU.out.mono ?_
    rintro e w1 ⟨rfl, G1, v1, L1, h1, hM1, hc1, hx1⟩
    have hl1 : L1.length ≤ 1000 := by
      rw [len_same hids h1.ids fun x => by rw [hM1]; exact unsub_isS id x]; exact hl
    obtain ⟨N, hN⟩ : ∃ N, N = L1.length := ⟨_, rfl⟩
    obtain ⟨A1, q1, hv1, hq1c, _⟩ := h1.form
    have cq := h1.cell
    have hql := lt_of_block h1.cells
    have fq := hide (fun (w' : World) (hb : Below w1.heap.size w1 w') => ((World.cell?_of_block (a := ⟨q, 0, none⟩) (hb.block q hql)).trans cq : w'.cell? ⟨q, 0, none⟩ = some v1))
    have fz := hide (fun (w' : World) (hb : Below w1.heap.size w1 w') => (frozen_of_row w' q 0 _ _ ((hb.block q hql).trans h1.cells)))
    rw [hv1, ← hN] at cq
    rw [hv1, ← hN] at fq
    have hgo := hide (fun (wC : World) (hb : Below w1.heap.size w1 wC) (k : Nat) (hk : k < L1.length) => (show ∃ g c, v1 = .slice (some ⟨g, 0, none⟩) L1.length c ∧ RowAt B0 wC g c L1 k (L1.getD k default).enc ∧ RSfOk w1 G1 (L1.getD k default) from by
      obtain ⟨g, c, e1, e2⟩ := h1.at hk
      exact ⟨g, c, e1, e2.below hb, h1.ok _ (getD_mem17 hk)⟩))
    have hh1 := hide h1
    have hM1' := hide hM1
    have hc1' := hide hc1
    have hx1' := hide hx1
    have hv1' := hide hv1
    rw [← hN] at hl1 hq1c
    have hN' := hide hN
    clear h1 hM1 hc1 hx1 hN hv1 hids
    go_wp2
    go_loopw [5, 6] (fun u i wr => ∃ k : Nat, k ≤ N ∧ i = .int .i64 k ∧ Hid (wr.ownsRow w1.heap.size 86 33 u (dropL (L1.take k) id).length ((dropL (L1.take k) id).flatMap RSf.enc)) ∧ Hid (Below w1.heap.size w1 wr)) (fun _ i _ => N - (intOf i).toNat)
    case atStart => exact ⟨0, Nat.zero_le _, rfl, hide (World.ownsRow_nil _ _ _ _), hide (Below.refl _ _)⟩
    case round =>
      obtain ⟨k, hk, rfl, hO, hB⟩ := hrel
      obtain ⟨wC, hC⟩ : ∃ wC, wC = wr := ⟨_, rfl⟩
      subst hC
      have cqC := fq.out wC hB.out
      obtain ⟨M, hM⟩ : ∃ M, M = (dropL (L1.take k) id).length := ⟨_, rfl⟩
      have hMk : M ≤ k := by rw [hM]; exact dropL_len _ _ _
      obtain ⟨au, cu', rfl, hcu⟩ := own_form hO.out
      rw [← hM] at hO hcu ⊢
      replace hM := hide hM
      by_cases hlt : k < N
      · obtain ⟨g, c, hvg, hrow, hok⟩ := hgo.out wC hB.out k (by rw [← hN'.out]; exact hlt)
        rw [← hN'.out] at hvg
        have hvg2 : Value.slice A1 N q1 = .slice (some ⟨g, 0, none⟩) N c := by rw [← hvg, hv1'.out, ← hN'.out]
        simp only [Value.slice.injEq, true_and] at hvg2
        obtain ⟨rfl, rfl⟩ := hvg2
        have hnext : ∀ r, r = L1.getD k default → (r.id ≠ id → dropL (L1.take (k + 1)) id = dropL (L1.take k) id ++ [r.orph id]) ∧ (r.id = id → dropL (L1.take (k + 1)) id = dropL (L1.take k) id) := fun r hr => by
          subst hr
          have hk1 : k < L1.length := by rw [← hN'.out]; exact hlt
          exact ⟨fun hne => dropL_hit hk1 hne, fun he => dropL_miss hk1 he⟩
        have hcell : ∀ j u, (L1.getD k default).enc[j]? = some u → wC.cell? ⟨g, k * 33 + j, none⟩ = some u := fun j u hu => by
          have hj : j < 33 := by
            have := (List.getElem?_eq_some_iff.1 hu).1
            simpa [RSf.len] using this
          rw [hrow.cell (by rw [← hN'.out]; exact hlt) hj]; exact hu
        obtain ⟨r, hr⟩ : ∃ r, r = L1.getD k default := ⟨_, rfl⟩
        have hnx := hide (hnext r hr)
        rw [← hr] at hcell hok
        have hR : wC.rangeAt g (k * 33) r.enc := hcell
        have hone := hide (hok.one)
        have hoo := hide ((hok.orph id).one)
        have hD : OwnS (wC.alloc (.cells r.enc.toArray 86)) wC.heap.size r := ⟨heap_alloc_new _ _⟩
        have hBD := hide (hB.out.alloc hB.out.size (.cells r.enc.toArray 86))
        have hOD := hide (own_below17 hO.out ((Below.refl _ wC).alloc (Nat.le_refl _) (.cells r.enc.toArray 86)))
        have hBs := hB.out.size
        have hs33 : (Tryz.prog.info? 86).map (·.size) = some r.enc.length := Tryz.sizeS17
        have hs33' : (Tryz.prog.info? 86).map (·.size) = some r.enc.toArray.size := Tryz.sizeS17
        have hso : (Tryz.prog.info? 86).map (·.size) = some (r.orph id).enc.length := Tryz.sizeS17
        have hall1 : r.enc.toArray.all (·.oneCell') = true := Array.all_eq_true_iff_forall_mem.2 fun v hv => hone.out v (by simpa using hv)
        clear hcell hrow hok hnext hr hvg
        go_upto_region 9 with (first | (refine wpList_load_mid rfl 86 _ rfl g (k * 33) rfl r.enc _ hR Tryz.underlying86 rfl hs33 ?_) | (refine wpList_store_rowTo rfl 86 _ _ rfl rfl wC.heap.size r.enc.toArray rfl rfl 86 _ (heap_alloc_last _ _) hs33' rfl hall1 ?_; rw [World.setRow_alloc_new]))
        clear hR
        obtain ⟨wD, hwD⟩ : ∃ wD, wD = wC.alloc (.cells r.enc.toArray 86) := ⟨_, rfl⟩
        obtain ⟨b, hb⟩ : ∃ b, b = wC.heap.size := ⟨_, rfl⟩
        have hbw : w1.heap.size ≤ b := by rw [hb]; exact hBs
        rw [← hwD] at hD hBD hOD ⊢
        rw [← hb] at hD ⊢
        replace hwD := hide hwD
        replace hb := hide hb
        have hbq : b ≠ q := by
          intro e
          rw [e] at hbw
          have := hql
          omega
        obtain ⟨d0, d1, fD⟩ := hD.facts
        have hfin := hide (fun (hne : r.id ≠ id) => (hnx.out).1 hne)
        have hmis := hide (fun (he : r.id = id) => (hnx.out).2 he)
        by_cases hp : r.s.parent = id
        · have hpb : (r.s.parent == id) = true := by simpa using hp
          have hE : OwnS (wD.setCell ⟨b, 1, none⟩ (.int .i64 0)) b (r.orph id) := ⟨by
            have := heap_setCell_same wD b 1 _ _ (.int .i64 0) hD.blk
            rw [this]
            congr 2
            unfold RSf.orph
            rw [if_pos hp]
            rfl⟩
          have hcE : Chg (fun x => x = b) wD (wD.setCell ⟨b, 1, none⟩ (.int .i64 0)) := Chg.setCell (F := fun x => x = b) wD (a := ⟨b, 1, none⟩) rfl _
          have hOE : (wD.setCell ⟨b, 1, none⟩ (.int .i64 0)).ownsRow w1.heap.size 86 33 (.slice au M cu') M ((dropL (L1.take k) id).flatMap RSf.enc) := own_keepF hOD.out fun x hx => hcE.block x (hOD.out.lt x hx).2 (fun e => by
            have := (hO.out.lt x hx).2
            rw [e, hb.out] at this
            omega)
          have hBE : Below w1.heap.size w1 (wD.setCell ⟨b, 1, none⟩ (.int .i64 0)) := hBD.out.trans (hcE.below hBD.out.size (fun x hx => by rw [hx]; exact hbw))
          replace hp := hide hp
          replace hOE := hide hOE
          replace hBE := hide hBE
          clear hD hcE
          go_upto_region 11 with fail
          obtain ⟨wE, hwE⟩ : ∃ wE, wE = wD.setCell ⟨b, 1, none⟩ (.int .i64 0) := ⟨_, rfl⟩
          rw [← hwE] at hE hOE hBE ⊢
          replace hwE := hide hwE
          clear d0 d1 fD hpb
          have e0 := hE.facts.1
          rw [RSf.orph_id] at e0
          have hRE := hE.range
          obtain ⟨E, hEq⟩ : ∃ E, E = (r.orph id).enc := ⟨_, rfl⟩
          rw [← hEq] at hRE hso hoo
          have hEl : E.length = 33 := by rw [hEq]; rfl
          replace hEq := hide hEq
          by_cases hi' : r.id = id
          · have hib : (r.id != id) = false := by simpa using hi'
            have hlast := hide (hmis.out hi')
            replace hi' := hide hi'
            replace hE := hide hE
            go_wp2
            go_roundw
            case rel => exact ⟨k + 1, by omega, by go_num, hide (by rw [hlast.out, ← hM.out]; exact hOE.out), hBE⟩
            case measure => simp [intOf]; omega
          · have hib : (r.id != id) = true := by simpa using hi'
            have hlast := hide (hfin.out hi')
            replace hi' := hide hi'
            replace hE := hide hE
            have hsm : ¬ 1 * i0.size > 2 ^ 24 := by rw [hz1]; decide
            have hps : ¬ 1 * i0.size = 0 := by rw [hz1]; decide
            have hfl : ∀ (ps : List (Nat × Value)), ps = [(0, .agg E.toArray)] → Instr.fill (fun i => some (i * i0.size, i0.size)) ((Array.range (1 * i0.size)).map (zS17.cells[· % zS17.cells.size]!)) ps = some E.toArray := fun ps e => by
              rw [e, hz1]; exact fill_row1 (by decide) E hEl _ (by simp)
            go_wp2_with (first | (refine wpList_load_mid rfl 86 _ rfl b 0 rfl E _ hRE Tryz.underlying86 rfl hso ?_) | (refine wpList_buildSlice rfl 26 86 1 _ rfl E.toArray i0 _ Tryz.underlying26 hi hz0 hsm hps (hfl _ (by simp [Act.eval, Act.put])) ?_) | (at_builtin; refine wpList_append_own _ rfl _ _ 26 rfl w1.heap.size 86 i0 _ 33 480 Tryz.underlying26 hi hz0 hz1 hz2 rfl (by decide) _ _ _ rfl (hOE.out.alloc _) ⟨wE.heap.size, 0, none⟩ 1 1 E rfl hEl (cells_newQ rfl _ _) hoo.out (by unfold maxLen; omega) (by omega) (by have := hBE.out.size; simp; omega) ?_; intro v3 w3 o3 hg3 _; obtain ⟨A3, c3, rfl, _⟩ := own_form o3))
            go_roundw
            case rel => exact ⟨k + 1, by omega, by go_num, hide (by rw [hlast.out, List.length_append, List.flatMap_append, List.flatMap_cons, List.flatMap_nil, List.append_nil, ← hEq.out, ← hM.out]; exact o3), hide ((hBE.out.alloc hBE.out.size _).grown hg3 (by have := hBE.out.size; simp; omega) (fun k hk => (hO.out.lt k hk).1))⟩
            case measure => simp [intOf]; omega
        · have hpb : (r.s.parent == id) = false := by simpa using hp
          have hor : r.orph id = r := by unfold RSf.orph; rw [if_neg hp]
          have hE : OwnS wD b (r.orph id) := by rw [hor]; exact hD
          have hOE := hOD
          have hBE := hBD
          replace hp := hide hp
          replace hor := hide hor
          clear hD
          go_upto_region 11 with fail
          obtain ⟨wE, hwE⟩ : ∃ wE, wE = wD := ⟨_, rfl⟩
          rw [← hwE] at hE hOE hBE ⊢
          replace hwE := hide hwE
          clear d0 d1 fD hpb
          have e0 := hE.facts.1
          rw [RSf.orph_id] at e0
          have hRE := hE.range
          obtain ⟨E, hEq⟩ : ∃ E, E = (r.orph id).enc := ⟨_, rfl⟩
          rw [← hEq] at hRE hso hoo
          have hEl : E.length = 33 := by rw [hEq]; rfl
          replace hEq := hide hEq
          by_cases hi' : r.id = id
          · have hib : (r.id != id) = false := by simpa using hi'
            have hlast := hide (hmis.out hi')
            replace hi' := hide hi'
            replace hE := hide hE
            go_wp2
            go_roundw
            case rel => exact ⟨k + 1, by omega, by go_num, hide (by rw [hlast.out, ← hM.out]; exact hOE.out), hBE⟩
            case measure => simp [intOf]; omega
          · have hib : (r.id != id) = true := by simpa using hi'
            have hlast := hide (hfin.out hi')
            replace hi' := hide hi'
            replace hE := hide hE
            have hsm : ¬ 1 * i0.size > 2 ^ 24 := by rw [hz1]; decide
            have hps : ¬ 1 * i0.size = 0 := by rw [hz1]; decide
            have hfl : ∀ (ps : List (Nat × Value)), ps = [(0, .agg E.toArray)] → Instr.fill (fun i => some (i * i0.size, i0.size)) ((Array.range (1 * i0.size)).map (zS17.cells[· % zS17.cells.size]!)) ps = some E.toArray := fun ps e => by
              rw [e, hz1]; exact fill_row1 (by decide) E hEl _ (by simp)
            go_wp2_with (first | (refine wpList_load_mid rfl 86 _ rfl b 0 rfl E _ hRE Tryz.underlying86 rfl hso ?_) | (refine wpList_buildSlice rfl 26 86 1 _ rfl E.toArray i0 _ Tryz.underlying26 hi hz0 hsm hps (hfl _ (by simp [Act.eval, Act.put])) ?_) | (at_builtin; refine wpList_append_own _ rfl _ _ 26 rfl w1.heap.size 86 i0 _ 33 480 Tryz.underlying26 hi hz0 hz1 hz2 rfl (by decide) _ _ _ rfl (hOE.out.alloc _) ⟨wE.heap.size, 0, none⟩ 1 1 E rfl hEl (cells_newQ rfl _ _) hoo.out (by unfold maxLen; omega) (by omega) (by have := hBE.out.size; simp; omega) ?_; intro v3 w3 o3 hg3 _; obtain ⟨A3, c3, rfl, _⟩ := own_form o3))
            go_roundw
            case rel => exact ⟨k + 1, by omega, by go_num, hide (by rw [hlast.out, List.length_append, List.flatMap_append, List.flatMap_cons, List.flatMap_nil, List.append_nil, ← hEq.out, ← hM.out]; exact o3), hide ((hBE.out.alloc hBE.out.size _).grown hg3 (by have := hBE.out.size; simp; omega) (fun k hk => (hO.out.lt k hk).1))⟩
            case measure => simp [intOf]; omega
      · obtain rfl : k = N := by omega
        have hfz := fz.out wC hB.out
        clear hgo fq fz
        go_wp2_with fail
        go_ret
        have hall : L1.take k = L1 := by rw [hN'.out]; exact List.take_length
        have hO2 := hO.out
        have hM2 := hM.out
        rw [hall] at hO2 hM2
        rw [hM2] at hO2
        have hO3 : wC.ownsRow w1.heap.size 86 33 (.slice au M cu') (dropL L1 id).length ((dropL L1 id).flatMap RSf.enc) := by rw [hM2]; exact hO2
        have hz1 := hc1'.out.size
        refine ⟨rfl, G1, _, dropL L1 id, hh1.out.relist (Nat.le_trans hB0 hz1) hB.out hO3 (by rw [dropL_ids]; exact hh1.out.ids.filter _) (fun r hr => by
          obtain ⟨r0, h0, rfl⟩ := dropL_mem hr
          exact (hh1.out.ok r0 h0).orph id), by rw [toF_drop, hM1'.out], ?_, ?_⟩
        · exact (hc1'.out.trans (Chg.of_below hB.out _) (Ext.refl _ _)).trans (Chg.setCell (F := writR q v) wC (a := ⟨q, 0, none⟩) (.inl rfl) _) (Ext.refl _ _)
        · rintro b (hb | hb | hb)
          · exact hx1'.out b (.inl hb)
          · exact .inl (.inr (.inl hb))
          · exact .inr (Nat.le_trans hz1 (hO3.lt b hb).1)
end Go.Proofs.YthkjicnnepkghaaGreatDoor
