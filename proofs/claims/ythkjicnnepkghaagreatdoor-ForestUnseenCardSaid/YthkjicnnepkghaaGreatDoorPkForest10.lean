/-
  Package forest: Walk.
-/
import Derived.Test.YthkjicnnepkghaaGreatDoorPkFWalk
import Derived.Deep.AppendLies
namespace Go.Proofs.YthkjicnnepkghaaGreatDoor
open Go.RowKit
set_option linter.unusedVariables false

def WalkP (w : World) (L : List Ch) (e : Ending) (w' : World) : Prop := ∃ v, e = .returned v ∧ w'.ownsRow w.heap.size 62 3 v L.length (L.flatMap Ch.enc) ∧ Below w.heap.size w w'

theorem cells_newR1 (w : World) (o : Obj) (cs : List Value) (t : TypeId) : ∀ j u, cs[j]? = some u → ((w.alloc o).alloc (.cells cs.toArray t)).cell? ((⟨w.heap.size + 1, 0, none⟩ : Addr).add j) = some u := by
  have := cells_newR (w.alloc o) cs t
  simpa using this
section
variable {p mb n : Nat} {F : Nat → Prop} {Z : Int → Option SfV} {M : Fo} {rk : Int → Nat} {Bk : Nat}
set_option maxRecDepth 100000 in
theorem fWalk_none (w : World) (h : ForZ w p mb F n Z M) (id : Int) (hid : I64 id) (hs : M id = none) :
    Calls Tryz.prog 11 #[.pointer (some ⟨p, 0, none⟩), .int .i64 id] w (WalkP w []) := by
  have hc := h.cellP
  have hl := h.look_none hid (h.zNone hs)
  clear h hs
  go_enter Tryz.func11, Tryz.ntmps11
  go_wp2
  go_ret
  exact ⟨_, rfl, World.ownsRow_nil _ _ _ _, Below.refl _ _⟩
set_option maxRecDepth 100000 in
theorem fWalk_zero (w : World) (h : ForZ w p mb F n Z M) (id : Int) (hid : I64 id) {s : Sf} (hs : M id = some s) (hb : s.cu.buffer = 0) :
    Calls Tryz.prog 11 #[.pointer (some ⟨p, 0, none⟩), .int .i64 id] w (WalkP w []) := by
  obtain ⟨z, hz, ht⟩ := h.find hs
  have hc := h.cellP
  have hl := h.look_some hid hz
  have c1 : w.cell? ⟨z.a, 24, none⟩ = some (.int .i64 s.cu.buffer) := ht.cell 24
  rw [hb] at c1
  clear h hs ht hz hb
  go_enter Tryz.func11, Tryz.ntmps11
  go_wp2
  go_ret
  exact ⟨_, rfl, World.ownsRow_nil _ _ _ _, Below.refl _ _⟩

set_option maxRecDepth 100000 in
set_option maxHeartbeats 4000000 in
theorem fWalk_any : ∀ (k : Nat) (w : World) (id : Int), ForZ w p mb F n Z M → GoodM M → I64 id → (∀ j s, M j = some s → rk j ≤ Bk ∧ (s.parent ≠ 0 → rk s.parent < rk j)) → (∀ s, M id = some s → Bk < k + rk id) → FitM 50000 M → (walkT M k id).length ≤ 100000 →
    Calls Tryz.prog 11 #[.pointer (some ⟨p, 0, none⟩), .int .i64 id] w (WalkP w (walkT M k id))
  | 0, w, id, h, hG, hid, hrk, hk, hF, hlen => by
    have hs : M id = none := by
      cases e : M id with
      | none => rfl
      | some s => have := hk s e; have := (hrk _ _ e).1; omega
    rw [walkT_none 0 hs]
    exact fWalk_none w h id hid hs
  | k + 1, w, id, h, hG, hid, hrk, hk, hF, hlen => by
    cases hs : M id with
    | none => rw [walkT_none _ hs]; exact fWalk_none w h id hid hs
    | some s =>
      by_cases hb : s.cu.buffer = 0
      · rw [walkT_zero _ hs hb]; exact fWalk_zero w h id hid hs hb
      · obtain ⟨i0, hi, hz0, hz1, hz2⟩ := info_parts Tryz.infoCchild
        have ih := hide (fWalk_any k)
        rw [walkT_some k hs hb] at hlen ⊢
        obtain ⟨z, hz, ht⟩ := h.find hs
        have hc := h.cellP
        have hl := h.look_some hid hz
        have c24 : w.cell? ⟨z.a, 24, none⟩ = some (.int .i64 s.cu.buffer) := ht.cell 24
        have c31 : w.cell? ⟨z.a, 31, none⟩ = some z.cu.o := ht.cell 31
        have hzl : z.a < w.heap.size := ht.lt z.a (.inl rfl)
        have hbn : (s.cu.buffer == 0) = false := by simpa using hb
        have hro := ht.cu.o
        obtain ⟨A4, c4, hv4, _⟩ := ht.cu.o.form
        rw [hv4] at c31 hro
        have hkid := (hG.kids _ _ hs).2.2
        obtain ⟨bu, hbu⟩ : ∃ bu, bu = s.cu.buffer := ⟨_, rfl⟩
        rw [← hbu] at c24 hbn
        obtain ⟨L, hL⟩ : ∃ L, L = s.cu.order := ⟨_, rfl⟩
        obtain ⟨pl, hpl⟩ : ∃ pl, pl = s.cu.places := ⟨_, rfl⟩
        rw [← hL, ← hpl] at hlen ⊢
        rw [← hL] at hro c31 hkid
        obtain ⟨m, hm⟩ : ∃ m, m = L.length := ⟨_, rfl⟩
        rw [← hm] at hro c31
        have hid0 : id ≠ 0 := by have := (hG.pos _ _ hs).1; omega
        have hpld := (hF id s hs).p
        rw [← hpl] at hpld
        have hplr := ht.cu.p
        obtain ⟨A5, c5, hv5, _⟩ := hplr.form
        have c32 : w.cell? ⟨z.a, 32, none⟩ = some z.cu.p := ht.cell 32
        rw [hv5] at c32 hplr
        rw [← hpl] at c32 hplr
        have hmL : m ≤ 50000 := by have := (hF id s hs).o.2.2; rw [hm, hL]; exact this
        have hplen : pl.length ≤ 50000 := by omega
        obtain ⟨St', hSt⟩ : ∃ St', St' = walkStep (walkT M k) id pl := ⟨_, rfl⟩
        rw [← hSt] at hlen ⊢
        have hrec : Hid (∀ x, x ∈ L → x ≠ 0 → I64 x ∧ (walkT M k x).length = (St' x).length ∧ St' x = (walkT M k x).map (moveC (atP pl x)) ∧ ∀ w1, Below w.heap.size w w1 → (walkT M k x).length ≤ 100000 → Calls Tryz.prog 11 #[.pointer (some ⟨p, 0, none⟩), .int .i64 x] w1 (WalkP w1 (walkT M k x))) := hide fun x hx h0 => by
          obtain ⟨kx, hkx, hkp⟩ := (hkid x hx).resolve_left h0
          have e : St' x = (walkT M k x).map (moveC (atP pl x)) := by rw [hSt]; unfold walkStep; rw [if_neg h0]
          refine ⟨(hG.pos _ _ hkx).2, by rw [e]; simp, e, fun w1 hb1 hle => ih.out w1 x (h.below hb1) hG (hG.pos _ _ hkx).2 hrk (fun s' hs' => ?_) hF hle⟩
          rw [hkx] at hs'; cases hs'
          have := (hrk x kx hkx).2 (by rw [hkp]; exact hid0)
          rw [hkp] at this
          have := hk s hs
          omega
        have hone := hide (show St' 0 = [⟨id, 0, 0⟩] by rw [hSt]; rfl)
        have hinf : Hid (∀ x ∈ L, I64 x) := hide fun x hx => by
          rcases hkid x hx with rfl | ⟨kx, hkx, _⟩
          · exact i64_zero
          · exact (hG.pos _ _ hkx).2
        replace hro := hide hro
        replace hplr := hide hplr
        have hlenH := hide hlen
        have hmH := hide hm
        clear h hG hrk hk hF hs hb hz ht hbu hL hpl hkid hpld hv4 hv5 hSt hlen hm ih
        go_enter Tryz.func11, Tryz.ntmps11
        go_wp2
        go_loopw [6, 35] (fun l i wr => ∃ j : Nat, j ≤ m ∧ i = .int .i64 j ∧ Hid (wr.ownsRow w.heap.size 62 3 l ((L.take j).flatMap St').length (((L.take j).flatMap St').flatMap Ch.enc)) ∧ Hid (Below w.heap.size w wr)) (fun _ i _ => m - (intOf i).toNat)
        case atStart => exact ⟨0, Nat.zero_le _, rfl, hide (World.ownsRow_nil _ _ _ _), hide (Below.refl _ _)⟩
        case round =>
          obtain ⟨j, hj, rfl, hO, hB⟩ := hrel
          obtain ⟨wC, hC⟩ : ∃ wC, wC = wr := ⟨_, rfl⟩
          subst hC
          obtain ⟨Al, cl, rfl, hcl⟩ := own_form hO.out
          by_cases hlt : j < m
          · have hjl : j < L.length := by rw [← hmH.out]; exact hlt
            obtain ⟨b, off, u, rfl, hbb, hu, hcx⟩ := (hro.out.below hB.out (Nat.le_refl _)).cell1 hlt
            obtain ⟨x, hx⟩ : ∃ x, x = L.getD j default := ⟨_, rfl⟩
            have hu2 : u = .int .i64 x := by
              rw [List.getElem?_map, List.getElem?_eq_getElem hjl] at hu
              simp at hu
              rw [← hu, hx]; simp [List.getD, hjl]
            rw [hu2] at hcx
            have hxm : x ∈ L := by rw [hx]; simp [List.getD, hjl]
            have hnext := flatMap_take St' L hjl
            have hfit := flatMap_mem_le St' L hjl
            rw [← hx] at hnext hfit
            have hfit2 : ((L.take j).flatMap St').length + (St' x).length ≤ 100000 := Nat.le_trans hfit hlenH.out
            obtain ⟨Q, hQ⟩ : ∃ Q, Q = (L.take j).flatMap St' := ⟨_, rfl⟩
            rw [← hQ] at hO hcl hnext hfit2 ⊢
            have hQr := hide hQ
            replace hnext := hide hnext
            have hBz := hB.out.size
            clear hu hu2 hx hfit hQ hbb
            by_cases hx0 : x = 0
            · subst hx0
              rw [hone.out] at hfit2
              have hnx : Hid ((L.take (j + 1)).flatMap St' = Q ++ [⟨id, 0, 0⟩]) := hide (by rw [hnext.out, hone.out])
              clear hnext
              simp only [List.length_cons, List.length_nil] at hfit2
              go_wp2_with (at_builtin; refine wpList_append_own _ rfl _ _ 36 rfl w.heap.size 62 i0 _ 3 24 Tryz.underlying36 hi hz0 hz1 hz2 rfl (by decide) _ _ _ rfl (hO.out.alloc _) ⟨wC.heap.size, 0, none⟩ 1 1 [.int .i64 id, .int .i64 0, .int .i64 0] rfl rfl (cells_newR _ _ _) (by intro u hu; simp at hu; rcases hu with rfl | rfl | rfl <;> rfl) (by unfold maxLen; omega) (by omega) (by have := hB.out.size; simp <;> omega) ?_; intro v3 w3 o3 hg3 _)
              have hB3 := hide ((hB.out.alloc hBz _).grown hg3 (by simp; omega) (fun q hq => (hO.out.lt q hq).1))
              have hO3 : Hid (w3.ownsRow w.heap.size 62 3 v3 ((L.take (j + 1)).flatMap St').length (((L.take (j + 1)).flatMap St').flatMap Ch.enc)) := hide (by
                rw [hnx.out, List.length_append, List.flatMap_append]
                simpa [Ch.enc] using o3)
              clear o3 hg3
              go_wp2
              go_roundw
              case rel => exact ⟨j + 1, by omega, by go_num, hO3, hB3⟩
              case measure => simp [intOf]; omega
            · obtain ⟨hx64, hlx, hstx, hrecx⟩ := hrec.out x hxm hx0
              have cF : Calls Tryz.prog 54 #[.slice A5 pl.length c5, .int .i64 x] wC fun e w' => e = .returned (.tuple #[(atP pl x).val, .bool (findP pl x).isSome]) ∧ Below wC.heap.size wC w' := find_any wC _ pl x (hplr.out.below hB.out (Nat.le_refl _)) (by omega)
              have hxb : (x == 0) = false := by simpa using hx0
              obtain ⟨d, hd⟩ : ∃ d, d = atP pl x := ⟨_, rfl⟩
              obtain ⟨K, hK⟩ : ∃ K, K = walkT M k x := ⟨_, rfl⟩
              rw [← hd] at cF hstx
              rw [← hK] at hlx hstx hrecx
              have hkl : K.length ≤ 100000 := by omega
              have hQK : Q.length + K.length ≤ 100000 := by omega
              generalize (findP pl x).isSome = bf at cF
              obtain ⟨d0, d1, d2⟩ := d
              unfold Ch.val at cF
              dsimp only at cF
              have c32C : wC.cell? ⟨z.a, 32, none⟩ = some (.slice A5 pl.length c5) := (hB.out.cell (p := ⟨z.a, 32, none⟩) hzl).trans c32
              have hcC : wC.cell? ⟨p, 0, none⟩ = some (.map (some mb)) := (hB.out.cell (p := ⟨p, 0, none⟩) (block_lt_of_cell hc)).trans hc
              replace cF := hide cF
              replace hrecx := hide hrecx
              replace hstx := hide hstx
              replace hlx := hide hlx
              clear hd hK hxm
              go_wp2_with fail
              refine cF.out.mono ?_
              rintro e w1 ⟨rfl, hb1⟩
              have hB1 := hB.out.trans (hb1.mono hBz)
              have hbA := hide (fun o => hB1.alloc hB1.size o)
              have hcA : ∀ o, (w1.alloc o).cell? ⟨p, 0, none⟩ = some (.map (some mb)) := fun o => (World.cell?_alloc_past _ _ _ (Nat.lt_of_lt_of_le (block_lt_of_cell hcC) hb1.size)).trans ((hb1.cell (p := ⟨p, 0, none⟩) (block_lt_of_cell hcC)).trans hcC)
              go_wp2_with fail
              refine (hrecx.out _ (hbA.out _) hkl).mono ?_
              rintro e w2 ⟨vK, rfl, oK, bK⟩
              obtain ⟨AK, cK, rfl, hcK⟩ := own_form oK
              have hs2 := bK.size
              have hsA : (w1.alloc (.cells #[.int .i64 d0, .int .i64 d1, .int .i64 d2] 62)).heap.size = w1.heap.size + 1 := by simp
              have hB2 := hide ((hbA.out _).trans (bK.mono (hbA.out _).size))
              have hd2 : w2.heap[w1.heap.size]? = some (.cells #[.int .i64 d0, .int .i64 d1, .int .i64 d2] 62 (0, 0)) := (bK.block _ (by simp)).trans (heap_alloc_new _ _)
              have hKin : BlkIn (fun b => w1.heap.size ≤ b) (.slice AK K.length cK) K.length := fun _ b hb => by have := (oK.lt b hb).1; omega
              have hKrd := Rd.of_own oK
              have hOl := hO.out.lt
              have hCs := hb1.size
              have hO2 := hide (own_keepF (w' := w2) hO.out (fun b hb => (bK.block b (by have := (hOl b hb).2; omega)).trans ((Below.heap_alloc _ _ b (by have := (hOl b hb).2; omega)).trans (hb1.block b (hOl b hb).2))))
              have hsep0 : Hid (∀ b, (Value.slice Al Q.length cl).ownBlock = some b → b < w1.heap.size ∨ w2.heap.size ≤ b) := hide fun b hb => .inl (by have := (hOl b hb).2; omega)
              rw [hsA] at hs2
              obtain ⟨w1s, hw1s⟩ : ∃ w1s, w1s = w1.heap.size := ⟨_, rfl⟩
              rw [← hw1s] at hs2 hd2 hKin hsep0 ⊢
              have hBs : w.heap.size ≤ w1s := by rw [hw1s]; exact hB1.size
              obtain ⟨w2s, hw2s⟩ : ∃ w2s, w2s = w2.heap.size := ⟨_, rfl⟩
              rw [← hw2s] at hs2 hsep0
              have hkeep0 : Hid (w2s ≤ w2.heap.size) := hide (by omega)
              obtain ⟨N, hN⟩ : ∃ N, N = K.length := ⟨_, rfl⟩
              rw [← hN] at hKin hKrd hcK hkl hQK ⊢
              replace hKin := hide hKin
              replace hKrd := hide hKrd
              replace hN := hide hN
              replace hd2 := hide hd2
              have hw2h := hide hw2s
              have hO2 : Hid (w2.ownsRow w.heap.size 62 3 (.slice Al Q.length cl) (Q ++ (K.take 0).map (moveC ⟨d0, d1, d2⟩)).length ((Q ++ (K.take 0).map (moveC ⟨d0, d1, d2⟩)).flatMap Ch.enc)) := hide (by simpa using hO2.out)
              clear oK bK hb1 hB1 hbA hcA hOl hsA hw1s hw2s hrecx hone hO hB
              go_wp2
              go_loopw [6, 60] (fun l i wr => ∃ t : Nat, t ≤ N ∧ i = .int .i64 t ∧ Hid (wr.ownsRow w.heap.size 62 3 l (Q ++ (K.take t).map (moveC ⟨d0, d1, d2⟩)).length ((Q ++ (K.take t).map (moveC ⟨d0, d1, d2⟩)).flatMap Ch.enc)) ∧ Hid (∀ b, l.ownBlock = some b → b < w1s ∨ w2s ≤ b) ∧ Hid (w2s ≤ wr.heap.size ∧ ∀ b, w1s ≤ b → b < w2s → wr.heap[b]? = w2.heap[b]?) ∧ Hid (Below w.heap.size w wr)) (fun _ i _ => N - (intOf i).toNat)
              case atStart => exact ⟨0, Nat.zero_le _, rfl, hO2, hsep0, hide ⟨hkeep0.out, fun _ _ _ => rfl⟩, hB2⟩
              clear hO2 hsep0 hkeep0 hB2
              case round =>
                obtain ⟨t, ht, rfl, hO, hsep, hkeep, hB⟩ := hrel
                obtain ⟨wD, hD⟩ : ∃ wD, wD = wr := ⟨_, rfl⟩
                subst hD
                obtain ⟨Al', cl', hv, hcl'⟩ := own_form hO.out
                subst hv
                by_cases hlt2 : t < N
                · have htl : t < K.length := by rw [← hN.out]; exact hlt2
                  have hrK : Rd wD (.slice AK N cK) 3 N (K.flatMap Ch.enc) := by
                    have hk := hkeep.out
                    refine hKrd.out.keepIn hKin.out ?_ fun b hb hlt => ?_
                    · rw [← hw2h.out]; exact hk.1
                    · rw [← hw2h.out] at hlt; exact hk.2 b hb hlt
                  obtain ⟨bK, oK, rfl, hbK, hcells⟩ := hrK.chCells hN.out (by omega)
                  obtain ⟨k0, k1, k2⟩ := hcells t hlt2
                  have hdD : wD.heap[w1s]? = some (.cells #[.int .i64 d0, .int .i64 d1, .int .i64 d2] 62 (0, 0)) := (hkeep.out.2 w1s (Nat.le_refl _) (by omega)).trans hd2.out
                  have e0 : wD.cell? ⟨w1s, 1, none⟩ = some (.int .i64 d1) := by rw [cell_of_row wD w1s 1 _ _ _ hdD]; rfl
                  have e1 : wD.cell? ⟨w1s, 2, none⟩ = some (.int .i64 d2) := by rw [cell_of_row wD w1s 2 _ _ _ hdD]; rfl
                  have hnx2 := hide (map_take (moveC ⟨d0, d1, d2⟩) K htl)
                  obtain ⟨y, hy⟩ : ∃ y, y = K.getD t default := ⟨_, rfl⟩
                  rw [← hy] at k0 k1 k2 hnx2
                  obtain ⟨y0, y1, y2⟩ := y
                  dsimp only at k0 k1 k2
                  obtain ⟨qn, hqn⟩ : ∃ qn, qn = (Q ++ (K.take t).map (moveC ⟨d0, d1, d2⟩)).length := ⟨_, rfl⟩
                  have hqn2 : qn ≤ 100000 := by rw [hqn]; simp; omega
                  have hO' := hO.out
                  have hsep' := hsep.out
                  rw [← hqn] at hO' hsep' hcl' ⊢
                  replace hsep := hide hsep'
                  clear hsep'
                  have hBz2 := hB.out.size
                  have hdl : w1s < wD.heap.size := lt_of_block hdD
                  replace hqn := hide hqn
                  have hOh := hide hO'
                  have hOa := fun o => hide (hO'.alloc (o := o))
                  have hOo : Hid (∀ o o' w3 g, ((wD.alloc o).alloc o').grownBy w3 (Value.slice Al' qn cl').ownBlock → ((Value.slice Al' qn cl').ownBlock = some g ∨ g = wD.heap.size + 2) →
                      (∀ b, some g = some b → b < w1s ∨ w2s ≤ b) ∧ (w2s ≤ w3.heap.size ∧ ∀ b, w1s ≤ b → b < w2s → w3.heap[b]? = w2.heap[b]?) ∧ Below w.heap.size w w3) := hide fun o o' w3 g hg hat => by
                    have hs3 := hg.size
                    simp at hs3
                    have hkp := hkeep.out
                    refine ⟨fun b hb => ?_, ⟨by omega, fun b h1 h2 => ?_⟩, ((hB.out.alloc hBz2 o).alloc (by simp; omega) o').grown hg (by simp; omega) (fun q hq => (hOh.out.lt q hq).1)⟩
                    · cases hb
                      rcases hat with e | e
                      · exact hsep.out _ e
                      · right; omega
                    · refine ((hg.block b (by simp; omega) (fun e => ?_)).trans ((Below.heap_alloc _ _ b (by simp; omega)).trans (Below.heap_alloc _ _ b (by omega)))).trans (hkp.2 b h1 h2)
                      rcases hsep.out b e.symm with h3 | h3 <;> omega
                  clear hy hcells hrK hdD hO'
                  go_wp2_with (at_builtin; refine wpList_append_lies _ rfl _ _ 36 rfl w.heap.size 62 i0 _ 3 24 Tryz.underlying36 hi hz0 hz1 hz2 rfl (by decide) _ _ _ (by simp [Act.eval]) ((hOh.out.alloc _).alloc _) ⟨wD.heap.size + 1, 0, none⟩ 1 1 [.int .i64 y0, .int .i64 (wrap64 (y1 + d1)), .int .i64 (wrap64 (y2 + d2))] (by simp [Act.eval]) rfl (cells_newR1 _ _ _ _) (by intro u hu; simp at hu; rcases hu with rfl | rfl | rfl <;> rfl) (by omega) (by unfold maxLen; omega) (by omega) (by simp; omega) (wD.heap.size + 2) (by simp) ?_; intro g cap w3 hown hgrow hat hlt4; have hst := hide (hOo.out _ _ _ _ hgrow hat); clear hgrow hat)
                  have hO3 : Hid (w3.ownsRow w.heap.size 62 3 (.slice (some ⟨g, 0, none⟩) (qn + 1) cap) (Q ++ (K.take (t + 1)).map (moveC ⟨d0, d1, d2⟩)).length ((Q ++ (K.take (t + 1)).map (moveC ⟨d0, d1, d2⟩)).flatMap Ch.enc)) := hide (by
                    rw [hnx2.out, ← List.append_assoc, List.length_append, List.flatMap_append, ← hqn.out]
                    simpa [Ch.enc, moveC] using hown)
                  clear hown
                  go_wp2
                  go_roundw
                  case rel => exact ⟨t + 1, by omega, by go_num, hO3, hide hst.out.1, hide hst.out.2.1, hide hst.out.2.2⟩
                  case measure => simp [intOf]; omega
                · obtain rfl : t = N := by omega
                  have hO3 : Hid (wD.ownsRow w.heap.size 62 3 (.slice Al' (Q ++ (K.take t).map (moveC ⟨d0, d1, d2⟩)).length cl') ((L.take (j + 1)).flatMap St').length (((L.take (j + 1)).flatMap St').flatMap Ch.enc)) := hide (by
                    have e : (L.take (j + 1)).flatMap St' = Q ++ (K.take t).map (moveC ⟨d0, d1, d2⟩) := by
                      rw [hnext.out, hstx.out, hN.out, List.take_length]
                    rw [e]; exact hO.out)
                  obtain ⟨qn, hqn⟩ : ∃ qn, qn = (Q ++ (K.take t).map (moveC ⟨d0, d1, d2⟩)).length := ⟨_, rfl⟩
                  rw [← hqn] at hO3 ⊢
                  clear hqn hO hcl'
                  go_wp2
                  go_roundw
                  case rel => exact ⟨j + 1, by omega, by go_num, hO3, hB⟩
                  case measure => simp [intOf]; omega
          · obtain rfl : j = m := by omega
            have hT : L.take j = L := by rw [hmH.out]; exact List.take_length
            rw [hT] at hO hcl ⊢
            clear hT
            go_wp2
            go_ret
            exact ⟨_, rfl, hO.out, hB.out⟩
end
end Go.Proofs.YthkjicnnepkghaaGreatDoor
