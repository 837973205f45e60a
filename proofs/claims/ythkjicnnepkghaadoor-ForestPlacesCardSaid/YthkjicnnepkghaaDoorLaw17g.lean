/-
  The law ForestPlaces, as a walk.
-/
import Derived.Test.YthkjicnnepkghaaDoorLaw17
import Derived.Test.YthkjicnnepkghaaDoorLaw17f
import Derived.Test.YthkjicnnepkghaaDoorFLaw
import Derived.Test.YthkjicnnepkghaaDoorFSame
import Derived.Deep.RegionLaw
import Derived.Deep.AppendLies
import Derived.Test.YthkjicnnepkghaaDoorInts
namespace Go.Proofs.YthkjicnnepkghaaDoor
open Go.RowKit
set_option linter.unusedVariables false

section
variable {P : Program}
theorem run_append_rd (w : World) (t ty : TypeId) (base : Nat) (e : TypeId) (i : TypeInfo) (z : Value) (size bytes : Nat) (ht : P.underlying t = some (.slice e)) (hi : P.info? e = some i) (hz : i.zero = some z)
    (hsize : i.size = size) (hby : i.bytes = bytes) (hzs : z.cells.size = size) (hsz : 0 < size)
    (v : Value) (n : Nat) (xs : List Value) (hown : w.ownsRow base e size v n xs)
    (A : Option Addr) (m c : Nat) (news : List Value) (hr : Rd w (.slice A m c) size m news) (h1 : ∀ u ∈ news, u.oneCell' = true)
    (h63 : n + m ≤ maxLen) (hbytes : (n + m) * bytes ≤ 140737488355328) (hbase : base ≤ w.heap.size) :
    ∃ v' w', (Builtin.append_ #[t, t] ty #[v, .slice A m c]).run P w = .ok v' w' ∧ w'.ownsRow base e size v' (n + m) (xs ++ news) ∧ w.grownBy w' v.ownBlock := by
  obtain ⟨h1', A', c', hv, hc, h2⟩ := hr
  simp only [Value.slice.injEq] at hv
  obtain ⟨rfl, _, rfl⟩ := hv
  cases A with
  | some ad =>
    obtain ⟨v', w', hrun, a1, a2, _, _⟩ := run_append_own_at (P := P) w base t ty e i z size bytes ht hi hz hsize hby hzs hsz v n xs hown ad m c news h1' (fun j u hj => by
      by_cases hm : 0 < m
      · obtain ⟨b, off, hb, _, hc2⟩ := h2 hm
        simp only [Option.some.injEq] at hb
        subst hb
        rw [addr_add]; exact hc2 j u hj
      · obtain rfl : m = 0 := by omega
        simp at h1'; subst h1'; simp at hj) h1 h63 hbytes hbase
    exact ⟨v', w', hrun, a1, a2⟩
  | none =>
    have hm : m = 0 := by
      rcases Nat.eq_zero_or_pos m with h | h
      · exact h
      · obtain ⟨b, off, hb, _⟩ := h2 h; cases hb
    subst hm
    obtain rfl : news = [] := by simpa using h1'
    refine ⟨v, w, ?_, by simpa using hown, ⟨rfl, rfl, rfl, Nat.le_refl _, fun _ _ _ => rfl⟩⟩
    rcases hown.2 with ⟨rfl, rfl⟩ | ⟨g, cap, cur, rfl, _, _, hnc, _⟩
    · simp [Builtin.append_, run_underlying ht, sizeOf, typeInfo, hi, Builtin.lenOf, Builtin.firstCells]
    · simp [Builtin.append_, run_underlying ht, sizeOf, typeInfo, hi, Builtin.lenOf, Builtin.firstCells, hnc, storeCells]
/-- At a step of a region that draws. -/
theorem step_append_rd {w : World} {ops : Array Oper} {o : Oper} {a : Act} {K : Act → World → Prop} {Q : Exit → Act → World → Prop} {E : Prop} (hgd : o.guard = none) (s x : Operand) (t : TypeId)
    (ho : o.op = .call { callee := .builtin .append, args := #[s, x], argTypes := #[t, t] })
    (base : Nat) (e : TypeId) (i : TypeInfo) (z : Value) (size bytes : Nat) (ht : P.underlying t = some (.slice e)) (hi : P.info? e = some i) (hz : i.zero = some z)
    (hsize : i.size = size) (hby : i.bytes = bytes) (hzs : z.cells.size = size) (hsz : 0 < size)
    (v : Value) (n : Nat) (xs : List Value) (hs : a.eval s = v) (hown : w.ownsRow base e size v n xs)
    (A : Option Addr) (m c : Nat) (news : List Value) (hx : a.eval x = .slice A m c) (hr : Rd w (.slice A m c) size m news) (h1 : ∀ u ∈ news, u.oneCell' = true)
    (h63 : n + m ≤ maxLen) (hbytes : (n + m) * bytes ≤ 140737488355328) (hbase : base ≤ w.heap.size)
    (h : ∀ v' w', w'.ownsRow base e size v' (n + m) (xs ++ news) → w.grownBy w' v.ownBlock → K (a.put o.dst v') w') :
    if Region.wanted o (yielded ops a.tmps) = true then Oper.wp P o a w K Q else E := by
  have hw : Region.wanted o (yielded ops a.tmps) = true := by simp [Region.wanted, hgd]
  rw [if_pos hw]
  obtain ⟨v', w', hrun, a1, a2⟩ := run_append_rd (P := P) w t o.type base e i z size bytes ht hi hz hsize hby hzs hsz v n xs hown A m c news hr h1 h63 hbytes hbase
  unfold Oper.wp execOp
  simp only [ho, resolve, invoke, builtin, Sem.run_bind, Sem.run_pure, Result.andThen_ok, List.map_toArray, List.map_cons, List.map_nil, hs, hx, hrun]
  exact h v' w' a1 a2
end

/-- Beside the forest: the child's cells, and the row that is wanted. -/
structure Side (base cb : Nat) (oc : Obj) (v : Value) (n : Nat) (cs : List Value) (F : Nat → Prop) (w : World) : Prop where
  cell : w.heap[cb]? = some oc
  nf : ¬ F cb
  row : w.ownsRow base 51 3 v n cs
  rf : ∀ b, v.ownBlock = some b → ¬ F b
theorem Side.out {W w w' : World} {p N c B base cb n : Nat} {M : Fo} {F : Nat → Prop} {oc : Obj} {v : Value} {cs : List Value} (h : Side base cb oc v n cs F w) (hx : XOut W p N c B M F w w') : ∃ F', FX W p N c B M F' w' ∧ Side base cb oc v n cs F' w' := by
  obtain ⟨F', h1, h2, h3⟩ := hx
  have hn : ∀ b, b < w.heap.size → ¬ F b → ¬ F' b := fun b hb hf hf' => by rcases h3 b hf' with h4 | h4; exact hf h4; omega
  have hlt := lt_of_block h.cell
  exact ⟨F', h1, (h2.block cb hlt h.nf).trans h.cell, hn _ hlt h.nf, own_keepF h.row fun b hb => h2.block b (h.row.lt b hb).2 (h.rf b hb), fun b hb => hn b (h.row.lt b hb).2 (h.rf b hb)⟩
theorem row_out {W w w' : World} {p N c B base n : Nat} {M : Fo} {F : Nat → Prop} {v : Value} {cs : List Value} (ho : w.ownsRow base 51 3 v n cs) (hf : ∀ b, v.ownBlock = some b → ¬ F b) (hx : XOut W p N c B M F w w') :
    ∃ F', FX W p N c B M F' w' ∧ w'.ownsRow base 51 3 v n cs ∧ ∀ b, v.ownBlock = some b → ¬ F' b := by
  obtain ⟨F', h1, h2, h3⟩ := hx
  exact ⟨F', h1, own_keepF ho fun b hb => h2.block b (ho.lt b hb).2 (hf b hb), fun b hb hf' => by rcases h3 b hf' with h4 | h4; exact hf b hb h4; have := (ho.lt b hb).2; omega⟩
theorem rd_made (w : World) (cs : List Value) {x y z : Value} : Rd (w.alloc (.cells #[x, y, z] 51)) (.slice (some ⟨w.heap.size, 0, none⟩) 1 1) 3 1 [x, y, z] := by
  have hb := heap_alloc_new w (.cells #[x, y, z] 51)
  refine ⟨rfl, _, 1, rfl, Nat.le_refl _, fun _ => ⟨w.heap.size, 0, rfl, lt_of_block hb, fun j u hu => ?_⟩⟩
  rw [cell_of_row _ _ (0 + j) _ _ _ hb]
  simpa using hu
theorem rd_made2 {w w2 : World} {x y z : Value} (hg : (w.drew.alloc (.cells #[x, y, z] 51)).grownBy w2 none) : Rd w2 (.slice (some ⟨w.heap.size, 0, none⟩) 1 1) 3 1 [x, y, z] := by
  have h := rd_made w.drew [] (x := x) (y := y) (z := z)
  refine h.below (B := (w.drew.alloc (.cells #[x, y, z] 51)).heap.size) ((Below.refl _ _).grown hg (Nat.le_refl _) (fun k e => by cases e)) (Nat.le_refl _)
theorem plR_congr (b : Bool) {g g' : Nat → Int × Int} : ∀ i, (∀ t, t < i → g t = g' t) → plR b g i = plR b g' i
  | 0, _ => rfl
  | i + 1, h => by
    show plF b (plR b g i) _ _ _ _ = plF b (plR b g' i) _ _ _ _
    rw [plR_congr b i (fun t ht => h t (by omega)), h i (by omega)]
theorem plW_congr (b : Bool) {g g' : Nat → Int × Int} (i : Nat) (h : ∀ t, t < i → g t = g' t) : plW b g i = plW b g' i := by
  have : (List.range i).map (plCh g) = (List.range i).map (plCh g') := List.map_congr_left fun t ht => by
    unfold plCh
    rw [h t (by simpa using ht)]
  unfold plW
  rw [this]
def addG (g : Nat → Int × Int) (i : Nat) (x : Int × Int) : Nat → Int × Int := fun t => if t = i then x else g t
theorem addG_old (g : Nat → Int × Int) (i : Nat) (x : Int × Int) : ∀ t, t < i → g t = addG g i x t := fun t ht => by unfold addG; rw [if_neg (by omega)]
theorem addG_new (g : Nat → Int × Int) (i : Nat) (x : Int × Int) : addG g i x i = x := by unfold addG; rw [if_pos rfl]
/-- What is wanted, one more. -/
theorem plW_succ (b : Bool) (g : Nat → Int × Int) (i : Nat) {x y : Int} (hx : 0 ≤ x ∧ x ≤ 1000) (hy : 0 ≤ y ∧ y ≤ 1000) :
    plW b (addG g i (x, y)) (i + 1) = if b then (plW b g i).take i ++ [⟨(i : Int) + 2, x, y⟩] ++ (plW b g i).drop i else plW b g i ++ [⟨(i : Int) + 2, x, y⟩] := by
  have e : (List.range (i + 1)).map (plCh (addG g i (x, y))) = (List.range i).map (plCh g) ++ [⟨(i : Int) + 2, x, y⟩] := by
    rw [List.range_succ, List.map_append, List.map_cons, List.map_nil, plCh_eq (addG_new g i (x, y)) hx hy]
    congr 1
    exact List.map_congr_left fun t ht => by
      unfold plCh
      rw [← addG_old g i (x, y) t (by simpa using ht)]
  have hlen : ((List.range i).map (plCh g)).length = i := by simp
  cases b
  · show (⟨1, 0, 0⟩ : Ch) :: _ = _
    rw [e]; rfl
  · show (List.range (i + 1)).map (plCh (addG g i (x, y))) ++ [(⟨1, 0, 0⟩ : Ch)] = ((List.range i).map (plCh g) ++ [(⟨1, 0, 0⟩ : Ch)]).take i ++ [(⟨(i : Int) + 2, x, y⟩ : Ch)] ++ ((List.range i).map (plCh g) ++ [(⟨1, 0, 0⟩ : Ch)]).drop i
    rw [e, List.take_append_of_le_length (by omega), List.drop_append_of_le_length (by omega), List.take_of_length_le (by omega), List.drop_of_length_le (by omega)]
    simp
theorem plW_len (b : Bool) (g : Nat → Int × Int) (i : Nat) : (plW b g i).length = i + 1 := by unfold plW; split <;> simp

set_option maxRecDepth 100000 in
set_option maxHeartbeats 4000000 in
theorem forestPlaces_any (W : World) {ae : Nat → Addr} (hE : ErrF W.heap.size W ae) (n : Int) (A : Option Addr) (cp : Nat) (l : List Int) (hr : Rd W (.slice A l.length cp) 1 l.length (l.map (Value.int .i64))) (hl : l.length ≤ 9223372036854775807) (bl : Bool) :
    Calls Tryd.prog 7 #[.int .i64 n, .slice A l.length cp, .bool bl] W fun e w' => e = .returned (.bool true) ∧ Below W.heap.size W w' := by
  obtain ⟨i0, hi, hz0, hz1, hz2⟩ := info_parts Tryd.infoCchild
  have cN := hide (mNew W)
  have hb0 : Hid (∀ {w' : World}, Below W.heap.size W w' → ∀ a v, W.cell? a = some v → w'.cell? a = some v) := hide fun hb a v hc => (hb.cell (block_lt_of_cell hc)).trans hc
  replace hE := hide hE
  obtain ⟨L, hL⟩ : ∃ L, L = l.length := ⟨_, rfl⟩
  rw [← hL] at hr hl ⊢
  replace hL := hide hL
  replace hr := hide hr
  obtain ⟨K, hK, hK1, hK6⟩ : ∃ K : Nat, n % 6 = (K : Int) - 1 ∧ 1 ≤ K ∧ K ≤ 6 := ⟨(n % 6 + 1).toNat, by omega, by omega, by omega⟩
  have cP := place_any n 6 W (by omega) (by omega)
  rw [hK] at cP
  replace cP := hide cP
  have e2 : (1 : Int) + ((K : Int) - 1) = K := by omega
  clear hK
  go_enter Tryd.func7, Tryd.ntmps7
  go_wp2_with fail
  refine cP.out.mono ?_
  rintro e w' ⟨rfl, rfl⟩
  go_wp2_with fail
  refine cN.out.mono ?_
  rintro e w1 ⟨p, rfl, h1⟩
  have c1 := hide (mAdd0 hE.out h1 1 i64_1 (by omega) (by omega) (by decide))
  clear cP cN h1
  go_wp2_with fail
  refine c1.out.mono ?_
  rintro e w2 ⟨rfl, h2⟩
  have c2 := mAttach hE.out h2 1 9 i64_1
  rw [show thereK (setM (fun _ => none) 1 (some newSf)) 1 = 0 from by decide, errV0] at c2
  replace c2 := hide c2
  clear c1 h2
  go_wp2_with fail
  refine c2.out.mono ?_
  rintro e w3 ⟨rfl, h3⟩
  obtain ⟨F, hx⟩ := h3.fx
  have hW3 := hx.below.size
  have hlt3 := hx.lt
  have hx4 : Hid (FX W p (2 + 6 * 0) (0 + 1) (2 + 6 * 0) (plR bl (fun _ => (0, 0)) 0) F (w3.alloc (.cells #[.int .i64 1, .int .i64 0, .int .i64 0] 51))) := hide ((hx.mono (by omega) (by omega)).keep ((Below.refl _ _).alloc (Nat.le_refl _) _))
  have ho4 : Hid ((w3.alloc (.cells #[.int .i64 1, .int .i64 0, .int .i64 0] 51)).ownsRow W.heap.size 51 3 (.slice (some ⟨w3.heap.size, 0, none⟩) 1 1) (0 + 1) ((plW bl (fun _ => (0, 0)) 0).flatMap Ch.enc)) := hide (by
    have e : (plW bl (fun _ => (0, 0)) 0).flatMap Ch.enc = [.int .i64 1, .int .i64 0, .int .i64 0] := by cases bl <;> rfl
    rw [e]
    refine ⟨rfl, .inr ⟨w3.heap.size, 1, _, rfl, hW3, heap_alloc_new _ _, ?_, ?_, ?_, ?_⟩⟩ <;> first | rfl | omega | (unfold maxLen; omega) | simp)
  have hf4 : Hid (∀ b, (Value.slice (some ⟨w3.heap.size, 0, none⟩) 1 1).ownBlock = some b → ¬ F b) := hide fun b hb hF => by have := hlt3 _ hF; simp [Value.ownBlock] at hb; omega
  clear h3 hx c2 hW3 hlt3
  go_wp2
  go_loopw [9, 10] (fun v i wr => ∃ (j : Nat) (g : Nat → Int × Int) (F : Nat → Prop), j ≤ K ∧ i = .int .i64 j ∧ Hid (FX W p (2 + 6 * j) (j + 1) (2 + 6 * j) (plR bl g j) F wr) ∧ Hid (wr.ownsRow W.heap.size 51 3 v (j + 1) ((plW bl g j).flatMap Ch.enc)) ∧ Hid (∀ b, v.ownBlock = some b → ¬ F b)) (fun _ i _ => K - (intOf i).toNat)
  case atStart => exact ⟨0, fun _ => (0, 0), F, Nat.zero_le _, rfl, hx4, ho4, hf4⟩
  clear hx4 ho4 hf4
  case round =>
    obtain ⟨j, g, F, hj, rfl, hx, ho, hf⟩ := hrel
    obtain ⟨wA, hA⟩ : ∃ wA, wA = wr := ⟨_, rfl⟩
    subst hA
    obtain ⟨Av, cv, rfl, hcv⟩ := own_form ho.out
    by_cases hlt : j < K
    · have e3 : (2 : Int) + (j : Int) = (j : Int) + 2 := by omega
      have hcP := hide (fun v w => place_any v 100 w (by omega) (by omega))
      go_upto_if 47 with (fail)
      go_cut [12] (fun u wx => ∃ x y : Int, u = .pointer (some ⟨wA.heap.size, 0, none⟩) ∧ 0 ≤ x ∧ x < 100 ∧ 0 ≤ y ∧ y < 100 ∧ Hid (Below wA.heap.size wA wx) ∧ Hid (wx.heap[wA.heap.size]? = some (.cells #[.int .i64 ((j : Int) + 2), .int .i64 x, .int .i64 y] 51 (0, 0))))
      case first =>
        by_cases hlL : j < L
        · have hjl : j < l.length := by rw [← hL.out]; exact hlL
          obtain ⟨bb, off, u, rfl, hbb, hu, hcx⟩ := hr.out.cell1 hlL
          obtain ⟨v, hv⟩ : ∃ v, v = l.getD j 0 := ⟨_, rfl⟩
          have hu2 : u = .int .i64 v := by
            rw [List.getElem?_map, List.getElem?_eq_getElem hjl] at hu
            simp at hu
            rw [← hu, hv]; simp [List.getD, hjl]
          rw [hu2] at hcx
          have hcA := hb0.out hx.out.below _ _ hcx
          clear hu hu2 hv hbb hcx
          have hcB : ∀ o, (wA.alloc o).cell? ⟨bb, off + j, none⟩ = some (.int .i64 v) := fun o => (World.cell?_alloc_past _ _ _ (block_lt_of_cell hcA)).trans hcA
          have hx0 := Int.emod_nonneg v (show (100 : Int) ≠ 0 by decide)
          have hx1 := Int.emod_lt_of_pos v (show (0 : Int) < 100 by decide)
          have hy0 := Int.emod_nonneg (IntKind.i64.wrap (v.tdiv 100)) (show (100 : Int) ≠ 0 by decide)
          have hy1 := Int.emod_lt_of_pos (IntKind.i64.wrap (v.tdiv 100)) (show (0 : Int) < 100 by decide)
          replace hx0 := hide hx0
          replace hx1 := hide hx1
          replace hy0 := hide hy0
          replace hy1 := hide hy1
          go_wp2
          go_region_law (first | (go_simp; go_at_call 12; refine (hcP.out _ _).mono ?_; rintro e w' ⟨rfl, rfl⟩))
          all_goals
            go_wp2_with fail
            go_meet
            exact ⟨_, _, rfl, hx0.out, hx1.out, hy0.out, hy1.out, hide (below_drewN ((Below.refl _ _).alloc (Nat.le_refl _) _) 1), hide (heap_alloc_new _ _)⟩
        · have hx2 : (L : Int) ≤ j := by omega
          go_wp2
          go_meet
          exact ⟨0, 0, rfl, by omega, by omega, by omega, by omega, hide ((Below.refl _ _).alloc (Nat.le_refl _) _), hide (heap_alloc_new _ _)⟩
      case rest =>
        obtain ⟨x, y, rfl, hx0, hx1, hy0, hy1, hbC, hcC⟩ := hcut
        obtain ⟨Wc, hWc⟩ : ∃ Wc, Wc = wc := ⟨_, rfl⟩
        subst hWc
        replace hbC := hbC.out
        replace hcC := hcC.out
        obtain ⟨g', hg'⟩ : ∃ g', g' = addG g j (x, y) := ⟨_, rfl⟩
        have e1 : plR bl g j = plR bl g' j := by rw [hg']; exact plR_congr bl j (addG_old g j (x, y))
        have e4 : g' j = (x, y) := by rw [hg']; exact addG_new g j (x, y)
        have e5 := plW_succ bl g j (x := x) (y := y) ⟨hx0, by omega⟩ ⟨hy0, by omega⟩
        rw [← hg'] at e5
        have hfa := plFacts bl g' j (by omega)
        have hlen := plW_len bl g j
        have hs0 : Side W.heap.size wA.heap.size (.cells #[.int .i64 ((j : Int) + 2), .int .i64 x, .int .i64 y] 51 (0, 0)) (.slice Av (j + 1) cv) (j + 1) ((plW bl g j).flatMap Ch.enc) F Wc :=
          ⟨hcC, fun hb => by have := hx.out.lt _ hb; omega, own_belowF ho.out hbC (Nat.le_refl _), hf.out⟩
        have h0 := hx.out.keep hbC
        rw [e1] at h0
        obtain ⟨f1, f2, f3, f4, f5, f6, f7, f8⟩ := hfa
        rw [e4] at f5 f6 f7 f8
        dsimp only at f5 f6 f7 f8
        replace f5 := hide f5
        have f5' := hide f6
        have f7' := hide f7
        have f8' := hide f8
        replace f2 := hide f2
        replace f3 := hide f3
        replace f4 := hide f4
        replace e5 := hide e5
        have cA := hide (xAdd0 hE.out h0 ((j : Int) + 2) (i64_small (by omega) (by omega)) (by omega) (by omega) f1)
        have e1' := hide e1
        have e4' := hide e4
        replace hs0 := hide hs0
        replace hlen := hide hlen
        clear f1 f6 f7 f8 h0 hg' e1 e4 hx ho hf hcC hbC
        go_wp2_with fail
        refine cA.out.mono ?_
        rintro e wB ⟨rfl, hO⟩
        obtain ⟨F1, h1, s1⟩ := hs0.out.out hO
        change FX W p _ _ _ (plA (plR bl g' j) ((j : Int) + 2)) _ _ at h1
        have cS := xSub hE.out h1 ((j : Int) + 2) 1 (i64_small (by omega) (by omega)) i64_1 (by omega)
        rw [f2.out, fsubS_zero f2.out, errV0] at cS
        replace cS := hide cS
        clear cA hO h1 hs0 f2
        replace s1 := hide s1
        go_wp2_with fail
        refine cS.out.mono ?_
        rintro e wB2 ⟨rfl, hO⟩
        obtain ⟨F2, h2, s2⟩ := s1.out.out hO
        change FX W p _ _ _ (plB (plR bl g' j) ((j : Int) + 2)) _ _ at h2
        have cT := xAttach hE.out h2 ((j : Int) + 2) (10 + (j : Int)) (i64_small (by omega) (by omega))
        rw [f3.out, errV0] at cT
        replace cT := hide cT
        clear cS hO h2 s1 f3
        replace s2 := hide s2
        go_wp2_with fail
        refine cT.out.mono ?_
        rintro e wB3 ⟨rfl, hO⟩
        obtain ⟨F3, h3, s3⟩ := s2.out.out hO
        change FX W p _ _ _ (plC (plR bl g' j) ((j : Int) + 2) (10 + (j : Int))) _ _ at h3
        have cU := xPosition hE.out h3 ((j : Int) + 2) x y (i64_small (by omega) (by omega)) (by omega)
        rw [f4.out, errV0] at cU
        replace cU := hide cU
        have c1 : wB3.cell? ⟨wA.heap.size, 1, none⟩ = some (.int .i64 x) := by rw [cell_of_row wB3 _ 1 _ _ _ s3.cell]; rfl
        have c2 : wB3.cell? ⟨wA.heap.size, 2, none⟩ = some (.int .i64 y) := by rw [cell_of_row wB3 _ 2 _ _ _ s3.cell]; rfl
        clear cT hO h3 s2 f4
        replace s3 := hide s3
        go_wp2_with fail
        refine cU.out.mono ?_
        rintro e wB4 ⟨rfl, hO⟩
        obtain ⟨F4, h4, s4⟩ := s3.out.out hO
        change FX W p _ _ _ (plD (plR bl g' j) ((j : Int) + 2) (10 + (j : Int)) x y) _ _ at h4
        clear cU hO s3 c1 c2
        replace h4 := hide h4
        replace s4 := hide s4
        cases bl with
        | false =>
          have c0 : wB4.cell? ⟨wA.heap.size, 0, none⟩ = some (.int .i64 ((j : Int) + 2)) := by rw [cell_of_row wB4 _ 0 _ _ _ s4.out.cell]; rfl
          have c1 : wB4.cell? ⟨wA.heap.size, 1, none⟩ = some (.int .i64 x) := by rw [cell_of_row wB4 _ 1 _ _ _ s4.out.cell]; rfl
          have c2 : wB4.cell? ⟨wA.heap.size, 2, none⟩ = some (.int .i64 y) := by rw [cell_of_row wB4 _ 2 _ _ _ s4.out.cell]; rfl
          have hbW := h4.out.below.size
          go_upto_region 20 with (at_builtin; refine wpList_append_lies _ rfl _ _ 35 rfl W.heap.size 51 i0 _ 3 24 Tryd.underlying35 hi hz0 hz1 hz2 rfl (by decide) _ _ _ (by simp [Act.eval]) (s4.out.row.alloc _) ⟨wB4.heap.size, 0, none⟩ 1 1 [.int .i64 ((j : Int) + 2), .int .i64 x, .int .i64 y] (by simp [Act.eval]) rfl (cells_newR _ _ _) (by intro u hu; simp at hu; rcases hu with rfl | rfl | rfl <;> rfl) (by omega) (by unfold maxLen; omega) (by omega) (by simp; omega) _ rfl ?_; intro g2 cap2 wB5 own5 hg5 hat5 hlt5)
          have hch : Chg (fun b => (Value.slice Av (j + 1) cv).ownBlock = some b) wB4 wB5 := (Chg.of_below ((Below.refl _ wB4).alloc (Nat.le_refl _) _) _).trans (Chg.grown hg5 fun b e => e) (Ext.refl _ _)
          have h5 := h4.out.chg hch (fun b hb hG => s4.out.rf b hG hb) (fun b hG => (s4.out.row.lt b hG).1)
          have hnf : ∀ b, (Value.slice (some ⟨g2, 0, none⟩) (j + 1 + 1) cap2).ownBlock = some b → ¬ F4 b := fun b hb hF => by
            cases hb
            rcases hat5 with e | e
            · exact s4.out.rf _ e hF
            · have h7 : g2 < wB4.heap.size := h4.out.lt g2 hF
              simp at e
              omega
          have cC := xCommitR hE.out h5 ((j : Int) + 2) (i64_small (by omega) (by omega)) (by omega) (by omega) (K := 7) (show RkOk (plD (plR false g' j) ((j : Int) + 2) (10 + (j : Int)) x y) 7 from f8'.out) (by omega)
          rw [show (comC (plD (plR false g' j) ((j : Int) + 2) (10 + (j : Int)) x y) 7 ((j : Int) + 2)).2 = [] from f7'.out, show thereK (plD (plR false g' j) ((j : Int) + 2) (10 + (j : Int)) x y) ((j : Int) + 2) = 0 from f5'.out, errV0] at cC
          simp only [List.length_nil] at cC
          have hown : wB5.ownsRow W.heap.size 51 3 (.slice (some ⟨g2, 0, none⟩) (j + 1 + 1) cap2) (j + 1 + 1) ((plW false g' (j + 1)).flatMap Ch.enc) := by
            rw [e5.out, if_neg (by decide), List.flatMap_append]
            simpa [Ch.enc] using own5
          replace cC := hide cC
          replace hown := hide hown
          replace hnf := hide hnf
          clear own5 hg5 hat5 hch h5 c0 c1 c2 h4 s4
          go_wp2_with fail
          refine cC.out.mono ?_
          rintro e wB6 ⟨A6, n6, rfl, r6, hO⟩
          obtain ⟨F6, h6, o6, nf6⟩ := row_out hown.out hnf.out hO
          have h6 := hide (h6.mono (show _ ≤ 2 + 6 * (j + 1) by omega) (show _ ≤ 2 + 6 * (j + 1) by omega))
          replace o6 := hide o6
          replace nf6 := hide nf6
          clear r6 hO cC hown hnf
          go_wp2
          go_roundw
          case rel => exact ⟨j + 1, g', F6, by omega, by go_num, hide (by
              have := h6.out
              show FX W p (2 + 6 * (j + 1)) (j + 1 + 1) (2 + 6 * (j + 1)) (plF _ (plR _ g' j) ((j : Int) + 2) (10 + j) (g' j).1 (g' j).2) F6 wB6
              rw [e4'.out]
              exact this), o6, nf6⟩
          case measure => simp [intOf]; omega
        | true =>
          have cB := xBelow hE.out h4.out ((j : Int) + 2) 1 (i64_small (by omega) (by omega)) i64_1 (by omega)
          rw [show besK (plD (plR true g' j) ((j : Int) + 2) (10 + (j : Int)) x y) ((j : Int) + 2) 1 = 0 from f5.out rfl, errV0] at cB
          replace cB := hide cB
          clear h4
          go_wp2_with fail
          refine cB.out.mono ?_
          rintro e wB5 ⟨rfl, hO⟩
          obtain ⟨F5, h5, s5⟩ := s4.out.out hO
          change FX W p _ _ _ (plE true (plR true g' j) ((j : Int) + 2) (10 + (j : Int)) x y) _ _ at h5
          clear cB hO s4
          have c0 : wB5.cell? ⟨wA.heap.size, 0, none⟩ = some (.int .i64 ((j : Int) + 2)) := by rw [cell_of_row wB5 _ 0 _ _ _ s5.cell]; rfl
          have c1 : wB5.cell? ⟨wA.heap.size, 1, none⟩ = some (.int .i64 x) := by rw [cell_of_row wB5 _ 1 _ _ _ s5.cell]; rfl
          have c2 : wB5.cell? ⟨wA.heap.size, 2, none⟩ = some (.int .i64 y) := by rw [cell_of_row wB5 _ 2 _ _ _ s5.cell]; rfl
          have hclt := lt_of_block s5.cell
          have hbW := h5.below.size
          have hrow := Rd.of_own s5.row
          replace h5 := hide h5
          replace s5 := hide s5
          replace hrow := hide hrow
          obtain ⟨gv, hAv⟩ : ∃ gv, Av = some ⟨gv, 0, none⟩ := by
            rcases s5.out.row.2 with ⟨h, h0⟩ | ⟨g, cap, cur, he, _⟩
            · omega
            · simp only [Value.slice.injEq] at he
              exact ⟨g, he.1⟩
          subst hAv
          have hra := hide (hrow.out.take j (by omega))
          have hrb := hrow.out.drop j (by omega)
          rw [Nat.zero_add, show j + 1 - j = 1 by omega] at hrb
          replace hrb := hide hrb
          have z7 : (j : Int) ≤ (j : Int) + 1 := by omega
          have hone := hide (oneC (plW true g j))
          have hvz := hide (s5.out.row.lt gv rfl)
          have z1 : (j : Int) ≤ (cv : Int) := by omega
          have z2 : (0 : Int) ≤ (j : Int) := by omega
          have z3 : (j : Int) ≤ ((j + 1 : Nat) : Int) := by omega
          have z4 : decide ((j : Int) < 0) = false := decide_eq_false (by omega)
          have z5 : ¬ cv = j := by omega
          have z6 : decide (cv = j) = false := decide_eq_false z5
          go_upto_region 18 with (fail)
          go_region_law (first
            | (refine step_append_rd rfl _ _ 35 rfl wB5.heap.size 51 i0 _ 3 24 Tryd.underlying35 hi hz0 hz1 hz2 rfl (by decide) _ 0 [] (by first | rfl | simp [Act.eval, Act.put]) (World.ownsRow_nil _ _ _ _) (some ⟨gv, 0, none⟩) j _ _ (by first | rfl | simp [Act.eval, Act.put]) (by first | exact hra.out.below (below_drewN (Below.refl _ _) 1) (Nat.le_refl _) | exact hra.out.below ((below_drewN (Below.refl _ _) 1).alloc (by simp) _) (Nat.le_refl _)) (fun u hu => hone.out u (List.mem_of_mem_take hu)) (by unfold maxLen; omega) (by omega) (by simp) ?_; intro v2 w2 o2 hg2; rw [Nat.zero_add, List.nil_append] at o2; have b2 : Below wB5.heap.size wB5 w2 := (by first | exact (below_drewN (Below.refl _ wB5) 1).grown hg2 (by simp) (fun k e => by cases e) | exact ((below_drewN (Below.refl _ wB5) 1).alloc (by simp) _).grown hg2 (by simp) (fun k e => by cases e)); obtain ⟨A2, n2, rfl, _⟩ := own_form o2; have x0 := (b2.cell (p := ⟨wA.heap.size, 0, none⟩) hclt).trans c0; have x1 := (b2.cell (p := ⟨wA.heap.size, 1, none⟩) hclt).trans c1; have x2 := (b2.cell (p := ⟨wA.heap.size, 2, none⟩) hclt).trans c2; try have hcb : Rd w2 (.slice (some ⟨wB5.heap.size, 0, none⟩) 1 1) 3 1 [.int .i64 ((j : Int) + 2), .int .i64 x, .int .i64 y] := rd_made2 hg2)
            | (refine step_append_rd rfl _ _ 35 rfl wB5.heap.size 51 i0 _ 3 24 Tryd.underlying35 hi hz0 hz1 hz2 rfl (by decide) _ _ _ (by first | rfl | simp [Act.eval, Act.put]) (o2.alloc _) (some ⟨w2.heap.size, 0, none⟩) 1 1 [.int .i64 ((j : Int) + 2), .int .i64 x, .int .i64 y] (by first | rfl | simp [Act.eval, Act.put]) (rd_made _ []) (by intro u hu; simp at hu; rcases hu with rfl | rfl | rfl <;> rfl) (by unfold maxLen; omega) (by omega) (by have := b2.size; simp; omega) ?_; intro v3 w3 o3 hg3; have b3 := (b2.alloc b2.size _).grown hg3 (by have := b2.size; simp; omega) (fun k hk => (o2.lt k hk).1); obtain ⟨A3, n3, rfl, _⟩ := own_form o3)
            | (refine step_append_rd rfl _ _ 35 rfl wB5.heap.size 51 i0 _ 3 24 Tryd.underlying35 hi hz0 hz1 hz2 rfl (by decide) _ _ _ (by first | rfl | simp [Act.eval, Act.put]) o2 (some ⟨wB5.heap.size, 0, none⟩) 1 1 [.int .i64 ((j : Int) + 2), .int .i64 x, .int .i64 y] (by first | rfl | simp [Act.eval, Act.put]) hcb (by intro u hu; simp at hu; rcases hu with rfl | rfl | rfl <;> rfl) (by unfold maxLen; omega) (by omega) b2.size ?_; intro v3 w3 o3 hg3; have b3 := b2.grown hg3 b2.size (fun k hk => (o2.lt k hk).1); obtain ⟨A3, n3, rfl, _⟩ := own_form o3)
            | (refine step_append_rd rfl _ _ 35 rfl wB5.heap.size 51 i0 _ 3 24 Tryd.underlying35 hi hz0 hz1 hz2 rfl (by decide) _ _ _ (by first | rfl | simp [Act.eval, Act.put]) o3 (some ⟨gv, j * 3, none⟩) 1 (cv - j) _ (by first | rfl | simp [Act.eval, Act.put]) (hrb.out.below b3 (Nat.le_refl _)) (fun u hu => hone.out u (List.mem_of_mem_drop hu)) (by unfold maxLen; omega) (by omega) b3.size ?_; intro v4 w4 o4 hg4; have b4 := b3.grown hg4 b3.size (fun k hk => (o3.lt k hk).1); obtain ⟨A4, n4, rfl, _⟩ := own_form o4; replace b4 := hide b4; replace o4 := hide o4))
          all_goals
            have hb4 := b4.out
            have ho4 := o4.out
            have h6x := h5.out.keep hb4
            have hown : w4.ownsRow W.heap.size 51 3 (.slice A4 (j + 1 + 1) n4) (j + 1 + 1) ((plW true g' (j + 1)).flatMap Ch.enc) := by
              rw [e5.out, if_pos trivial]
              have := own_le ho4 hbW
              rw [flat_take Ch.len, flat_drop Ch.len] at this
              simpa [Ch.enc, List.flatMap_append] using this
            have hnf : ∀ b, (Value.slice A4 (j + 1 + 1) n4).ownBlock = some b → ¬ F5 b := fun b hb hF => by
              have h1 := (ho4.lt b hb).1
              have h2 := h5.out.lt b hF
              omega
            have cC := xCommitR hE.out h6x ((j : Int) + 2) (i64_small (by omega) (by omega)) (by omega) (by omega) (K := 7) f8'.out (by omega)
            rw [f7'.out, f5'.out, errV0] at cC
            simp only [List.length_nil] at cC
            replace cC := hide cC
            replace hown := hide hown
            replace hnf := hide hnf
            clear hb4 ho4 h6x b4 o4 b3 b2 o3 o2 hg2 hg3 hg4 hra hrb hone hrow h5 s5 c0 c1 c2
            go_wp2_with fail
            refine cC.out.mono ?_
            rintro e wB6 ⟨A6, n6, rfl, r6, hO⟩
            obtain ⟨F6, h6, o6, nf6⟩ := row_out hown.out hnf.out hO
            have h6 := hide (h6.mono (show _ ≤ 2 + 6 * (j + 1) by omega) (show _ ≤ 2 + 6 * (j + 1) by omega))
            replace o6 := hide o6
            replace nf6 := hide nf6
            clear r6 hO cC hown hnf
            go_wp2
            go_roundw
            case rel => exact ⟨j + 1, g', F6, by omega, by go_num, hide (by
                have := h6.out
                show FX W p (2 + 6 * (j + 1)) (j + 1 + 1) (2 + 6 * (j + 1)) (plF _ (plR _ g' j) ((j : Int) + 2) (10 + j) (g' j).1 (g' j).2) F6 wB6
                rw [e4'.out]
                exact this), o6, nf6⟩
            case measure => simp [intOf]; omega
    · obtain rfl : j = K := by omega
      obtain ⟨q1, q2⟩ := plEnds bl g j hK1 hK6
      unfold plEnd at q1
      simp only [Bool.and_eq_true, decide_eq_true_eq] at q1
      obtain ⟨⟨⟨q3, q4⟩, q5⟩, q6⟩ := q1
      have hrk := plR_rk bl g j hK6
      have cC := xCommitR hE.out hx.out 1 i64_1 (by omega) (by omega) hrk (by omega)
      rw [q3, q4, errV0] at cC
      have hrH : RkOk (plH bl g j) 7 := hrk.par (com_par _ _)
      have hwl := plW_len bl g j
      replace cC := hide cC
      replace q2 := hide q2
      replace q5 := hide q5
      replace q6 := hide q6
      replace hrH := hide hrH
      replace hwl := hide hwl
      clear hlt q3 q4 hrk hx e2
      go_wp2_with fail
      refine cC.out.mono ?_
      rintro e w4 ⟨A4, n4, rfl, r4, hO⟩
      obtain ⟨F4, h4, o4, _⟩ := row_out ho.out hf.out hO
      have cW := mWalkR h4.fl 1 i64_1 (by omega) hrH.out (L := plW bl g j) q2.out (by rw [hwl.out]; omega)
      rw [hwl.out] at cW
      have rWant := hide (Rd.of_own o4)
      replace cW := hide cW
      clear hO r4 cC h4 o4 ho hf
      go_wp2_with fail
      refine cW.out.mono ?_
      rintro e w5 ⟨A5, n5, rfl, r5, h5, b5⟩
      have rW := rWant.out.below b5 (Nat.le_refl _)
      have cS := sameCh_true w5 (.slice A5 (j + 1) n5) (.slice Av (j + 1) cv) (plW bl g j) (by rw [hwl.out]; exact r5) (by rw [hwl.out]; exact rW) (by rw [hwl.out]; omega)
      replace cS := hide cS
      replace h5 := hide h5
      clear r5 rW b5 cW rWant
      go_wp2_with fail
      refine cS.out.mono ?_
      rintro e w6 ⟨rfl, q, rfl⟩
      have h6 := h5.out.drewN q
      change FL W p _ _ _ (plH bl g j) _ at h6
      have cH := mHeld h6 (by omega) (heldC_ok (plH_dom bl g j) q5.out)
      obtain ⟨hq, hqe⟩ : ∃ hq, hq = heldC (plH bl g j) (j + 1) := ⟨_, rfl⟩
      have hql : hq.length = j + 1 := by rw [hqe, q6.out]
      rw [← hqe, hql] at cH
      replace cH := hide cH
      clear h6 h5 cS hqe
      go_wp2_with fail
      refine cH.out.mono ?_
      rintro e w7 ⟨A7, n7, rfl, r7, h7, -⟩
      have hb7 := hide h7.below
      have cA := hide (awake17_any w7 ((hE.out.below h7.below).wider h7.below.size))
      clear h7 r7 cH hql
      go_wp2_with fail
      refine cA.out.mono ?_
      rintro e w8 ⟨rfl, hb8⟩
      go_wp2
      go_ret
      exact ⟨rfl, hb7.out.trans (hb8.mono hb7.out.size)⟩
end Go.Proofs.YthkjicnnepkghaaDoor
