/-
  Package forest: Commit.
-/
import Derived.Test.YthkjicnnepkghaaGreatDoorPkForest8
import Derived.Test.YthkjicnnepkghaaGreatDoorPkFFit
import Derived.Laws.EntriesVeiled
namespace Go.Proofs.YthkjicnnepkghaaGreatDoor
open Go.RowKit
set_option linter.unusedVariables false

def CommitP (w : World) (p mb n : Nat) (F : Nat → Prop) (q : Fo × List Int) (er : Value) (e : Ending) (w' : World) : Prop :=
  ∃ v F' Z', e = .returned (.tuple #[v, er]) ∧ Rd w' v 1 q.2.length (q.2.map (Value.int .i64)) ∧ (∀ b, v.ownBlock = some b → w.heap.size ≤ b) ∧ ForZ w' p mb F' n Z' q.1 ∧ Chg F w w' ∧ Ext F F' w.heap.size

theorem nodup_len : ∀ {L l : List Int}, L.Nodup → (∀ x ∈ L, x ∈ l) → L.length ≤ l.length
  | [], l, _, _ => by simp
  | x :: L, l, h, hs => by
    have hx : x ∈ l := hs x (by simp)
    have h1 := nodup_len (L := L) (l := l.erase x) (List.nodup_cons.1 h).2 (fun y hy => by
      have : y ≠ x := fun e => (List.nodup_cons.1 h).1 (e ▸ hy)
      exact (List.mem_erase_of_ne this).2 (hs y (by simp [hy])))
    have h2 := List.length_erase_of_mem hx
    have h3 : 0 < l.length := List.length_pos_of_mem hx
    simp only [List.length_cons]
    omega
theorem cntM_len {M : Fo} {c : Nat} (h : CntM M c) (hc : c ≤ 100000) (L : List Int) (hn : L.Nodup) (hL : ∀ y ∈ L, (M y).isSome = true) : L.length ≤ 100000 := by
  obtain ⟨l, h1, h2, h3⟩ := h
  have := nodup_len hn (fun x hx => (h3 x).2 (hL x hx))
  omega
theorem cell_new_at {w : World} {k : Nat} (hk : w.heap.size = k) (x : Value) (t : TypeId) : ∀ j u, [x][j]? = some u → (w.alloc (.cells #[x] t)).cell? ((⟨k, 0, none⟩ : Addr).add j) = some u := by
  subst hk; exact cell_one_new w x t

section
variable {p mb n : Nat} {F : Nat → Prop} {Z : Int → Option SfV} {M : Fo} {ae : Nat → Addr} {rk : Int → Nat} {Bk : Nat}
set_option maxRecDepth 100000 in
theorem fCommit_none {B : Nat} (w : World) (hE : ErrF B w ae) (h : ForZ w p mb F n Z M) (id : Int) (hid : I64 id) (hs : M id = none) (k : Nat) :
    Calls Tryz.prog 52 #[.pointer (some ⟨p, 0, none⟩), .int .i64 id] w (CommitP w p mb n F (fcomS (synB M) k M id) (errV ae (thereK M id))) := by
  obtain ⟨w1, hw1⟩ : ∃ w1, w1 = w.alloc (.cells #[.pointer (some ⟨p, 0, none⟩)] 23) := ⟨_, rfl⟩
  have b1 : Below w.heap.size w w1 := by rw [hw1]; exact (Below.refl _ w).alloc (Nat.le_refl _) _
  have h1 := h.below b1
  have hE1 : ErrF B w1 ae := by rw [hw1]; exact hE.alloc _
  have g4 : w1.cell? ⟨4, 0, none⟩ = _ := hE1.glob 4 (by decide)
  have hl := h1.look_none hid (h.zNone hs)
  have hc := h1.cellP
  have e1 : thereK M id = 5 := by simp [thereK, hs]
  have e2 : fcomS (synB M) k M id = (M, []) := by simp [fcomS, hs]
  rw [e1, e2]
  replace h := hide h
  replace b1 := hide b1
  have hw := hide hw1
  rw [hw1] at g4 hl hc
  clear h1 hE hE1 hs e1 e2 hw1
  go_enter Tryz.func52, Tryz.ntmps52
  go_wp2
  go_quiet (fail)
  all_goals
    go_wp2
    go_ret2
    have hb : Below w.heap.size w (w1.drewN nq) := below_drewN b1.out nq
    rw [hw.out] at hb
    exact ⟨_, F, Z, rfl, Rd.nil _ _, (fun b hb => by cases hb), h.out.below hb, Chg.of_below hb F, Ext.refl _ _⟩

set_option maxRecDepth 100000 in
set_option maxHeartbeats 4000000 in
theorem fCommit_some (w : World) (h : ForZ w p mb F n Z M) (hG : GoodM M) (id : Int) (hid : I64 id) {s : Sf} (hs : M id = some s) (k : Nat) (hF : FitM 50000 M) {cn : Nat} (hc : CntM M cn) (hcn : cn ≤ 100000)
    (hrk : ∀ j s, M j = some s → rk j ≤ Bk ∧ (s.parent ≠ 0 → rk s.parent < rk j)) (hk : Bk < k + rk id) :
    Calls Tryz.prog 52 #[.pointer (some ⟨p, 0, none⟩), .int .i64 id] w (CommitP w p mb n F (fcomS (synB M) k M id) (errV ae (thereK M id))) := by
  obtain ⟨i0, hi, hz0, hz1, hz2⟩ := info_parts Tryz.infoIntC
  obtain ⟨z, hz, ht0⟩ := h.find hs
  obtain ⟨W1, hW1⟩ : ∃ W1, W1 = w.alloc (.cells #[.pointer (some ⟨p, 0, none⟩)] 23) := ⟨_, rfl⟩
  have b0 : Below w.heap.size w W1 := by rw [hW1]; exact (Below.refl _ w).alloc (Nat.le_refl _) _
  have hs1 : W1.heap.size = w.heap.size + 1 := by rw [hW1]; simp
  have htb : W1.heap[w.heap.size]? = some (.cells #[.pointer (some ⟨p, 0, none⟩)] 23 (0, 0)) := by rw [hW1]; exact heap_alloc_new _ _
  have h1 := h.below b0
  have ht := h1.surf id z s hz hs
  have hl := h1.look_some hid hz
  have hcp := h1.cellP
  have hlt := ht.lt z.a (.inl rfl)
  have hblk := hide ht.blk
  obtain ⟨hf1, hf2, -⟩ := (hF id s hs).fits (Nat.le_refl _)
  obtain ⟨A1, c1, A2, c2, A3, c3, A4, c4, A5, c5, hca⟩ := ht.ca.forms
  obtain ⟨D1, d1, D2, d2, D3, d3, D4, d4, D5, d5, hpe⟩ := ht.pe.forms
  have kca := cells_ca ht.blk
  have kpe := cells_pe ht.blk
  have cM := fun q => merge_any (W1.drewN q) z.ca z.pe s.ca s.pe (ht.ca.below (below_drewN (Below.refl _ W1) q) (Nat.le_refl _)) (ht.pe.below (below_drewN (Below.refl _ W1) q) (Nat.le_refl _)) hf2
  rw [hca] at kca
  rw [hpe] at kpe
  rw [hca, hpe] at cM
  unfold stVal at cM
  dsimp only at kca kpe cM
  obtain ⟨ku0, ku1, ku2, ku3, ku4, ku5, ku6, ku7, ku8, ku9, -⟩ := kca
  obtain ⟨ka0, ka1, ka2, ka3, ka4, ka5, ka6, ka7, ka8, ka9, -⟩ := kpe
  obtain ⟨S, hS⟩ : ∃ S, S = mergeT s.ca s.pe := ⟨_, rfl⟩
  have hM2 : setM (setM M id (some { s with ca := S })) id (some { ({ s with ca := S } : Sf) with pe := St.zero }) = setM M id (some (cacheS s)) := by rw [setM_setM, hS]; rfl
  rw [← hS] at cM
  have e1 : thereK M id = 0 := by simp [thereK, hs]
  rw [e1]
  have e2 : fcomS (synB M) k M id = if synB M id then (setM M id (some (cacheS s)), []) else comA (synB M) k (setM M id (some (cacheS s)), [id]) id := by simp [fcomS, hs]
  obtain ⟨q, hq⟩ : ∃ q, q = fcomS (synB M) k M id := ⟨_, rfl⟩
  rw [← hq] at e2 ⊢
  have e2' := hide e2
  have hG2 := hide (hG.cache hs)
  have hF2 := hide (hF.set (id := id) ((hF id s hs).cache))
  have hC2 := hide (hc.set hs (cacheS s))
  have hsy := hide (fun x => synB_cache hs x)
  have hrk2 : Hid (∀ j s', setM M id (some (cacheS s)) j = some s' → rk j ≤ Bk ∧ (s'.parent ≠ 0 → rk s'.parent < rk j)) := hide fun j s' hj => by
    rcases setM_eq hj with ⟨rfl, e⟩ | ⟨_, e⟩
    · cases e; have := hrk j s hs; exact this
    · exact hrk _ _ e
  replace h := hide h
  have hH1 := hide h1
  have hz' := hide hz
  have ht' := hide ht
  have hs' := hide hs
  have hM2' := hide hM2
  have hk' := hide hk
  have hW := hide hW1
  have hb0 := hide b0
  have hs1' := hide hs1
  have htb' := hide htb
  replace cM := hide cM
  have hidh := hide hid
  rw [hW1] at hl hcp ku0 ku1 ku2 ku3 ku4 ku5 ku6 ku7 ku8 ku9 ka0 ka1 ka2 ka3 ka4 ka5 ka6 ka7 ka8 ka9
  rw [hW1] at hlt
  clear h1 hG hs hz hrk hk ht ht0 hF hc hf1 hf2 hca hpe hM2 hS e1 e2 b0 hs1 htb hid hW1 hq
  go_enter Tryz.func52, Tryz.ntmps52
  go_wp2
  rw [← hW.out]
  rw [← hW.out] at hlt
  rw [← hW.out] at hcp ku0 ku1 ku2 ku3 ku4 ku5 ku6 ku7 ku8 ku9 ka0 ka1 ka2 ka3 ka4 ka5 ka6 ka7 ka8 ka9
  go_region_law (first
    | (go_simp; go_at_call 107; refine (cM.out _).mono ?_; rintro e w1 ⟨v1, rfl, o1, b1⟩; obtain ⟨E1, e1, E2, e2, E3, e3, E4, e4, E5, e5, rfl⟩ := o1.forms; have hb1 := hide ((b1.block z.a (by simpa using hlt)).trans hblk.out); obtain ⟨ga0, ga1, ga2, ga3, ga4, ga5, ga6, ga7, ga8, ga9, fu0, fu1, fu2, fu3, fu4, fu5, fu6, fu7, fu8, fu9⟩ := cells_ca hb1.out; replace o1 := hide o1; replace b1 := hide b1; unfold stVal; dsimp only))
  all_goals
    obtain ⟨z1, ha1, hv1, out1⟩ := hH1.out.put_ca hz'.out ht'.out ((below_drewN (Below.refl W1.heap.size W1) _).trans b1.out) o1.out
    dsimp only at out1
    obtain ⟨F1, C1, g1, x1⟩ := out1
    clear b1 o1
    generalize hWa : ((((((((((w1.setCell ⟨z.a, 13, none⟩ (.bool S.attach)).setCell ⟨z.a, 14, none⟩ (.int .i64 S.buffer)).setCell ⟨z.a, 15, none⟩ (.slice E1 S.damage.length e1)).setCell ⟨z.a, 16, none⟩ (.slice E2 S.frames.length e2)).setCell ⟨z.a, 17, none⟩ (.bool S.input)).setCell ⟨z.a, 18, none⟩ (.bool S.all)).setCell ⟨z.a, 19, none⟩ (.slice E3 S.region.length e3)).setCell ⟨z.a, 20, none⟩ (.bool S.ordered)).setCell ⟨z.a, 21, none⟩ (.slice E4 S.order.length e4)).setCell ⟨z.a, 22, none⟩ (.slice E5 S.places.length e5)) = Wa at C1 g1 ⊢
    have hs1 := C1.surf id z1 _ (setZ_same _ _ _) (setM_same _ _ _)
    have q1 := cells_pe hs1.blk
    rw [ha1] at q1
    obtain ⟨ya0, ya1, ya2, ya3, ya4, ya5, ya6, ya7, ya8, ya9, fa0, fa1, fa2, fa3, fa4, fa5, fa6, fa7, fa8, fa9⟩ := q1
    obtain ⟨z2, ha2, -, out2⟩ := C1.clear_pe (setZ_same _ _ _) hs1
    rw [ha1] at out2
    obtain ⟨F2, C2, g2, x2⟩ := out2
    rw [hM2'.out] at C2
    obtain ⟨Z2, hZ2⟩ : ∃ Z2, Z2 = setZ (setZ Z id (some z1)) id (some z2) := ⟨_, rfl⟩
    rw [← hZ2] at C2
    have hz2' := hide (show Z2 id = some z2 by rw [hZ2, setZ_same])
    have hz2a := hide (ha2.trans ha1)
    have cell2 : Wa.cell? ⟨w.heap.size, 0, none⟩ = some (.pointer (some ⟨p, 0, none⟩)) := by
      have hnf : ¬ F w.heap.size := fun hb => by have := h.out.lt _ hb; omega
      have := (g1.block w.heap.size (by have := hs1'.out; omega) hnf).trans htb'.out
      rw [cell_of_row Wa _ 0 _ _ _ this]; rfl
    replace g1 := hide g1
    replace g2 := hide g2
    replace x1 := hide x1
    replace x2 := hide x2
    replace C2 := hide C2
    clear hs1 hWa hZ2 hv1 ha2 ha1 C1 cM hblk hb1 hl hcp ku0 ku1 ku2 ku3 ku4 ku5 ku6 ku7 ku8 ku9 ka0 ka1 ka2 ka3 ka4 ka5 ka6 ka7 ka8 ka9 ga0 ga1 ga2 ga3 ga4 ga5 ga6 ga7 ga8 ga9 fu0 fu1 fu2 fu3 fu4 fu5 fu6 fu7 fu8 fu9
    go_wp2_with fail
    generalize hWb : ((((((((((Wa.setCell ⟨z.a, 3, none⟩ (.bool false)).setCell ⟨z.a, 4, none⟩ (.int .i64 0)).setCell ⟨z.a, 5, none⟩ (.slice none 0 0)).setCell ⟨z.a, 6, none⟩ (.slice none 0 0)).setCell ⟨z.a, 7, none⟩ (.bool false)).setCell ⟨z.a, 8, none⟩ (.bool false)).setCell ⟨z.a, 9, none⟩ (.slice none 0 0)).setCell ⟨z.a, 10, none⟩ (.bool false)).setCell ⟨z.a, 11, none⟩ (.slice none 0 0)).setCell ⟨z.a, 12, none⟩ (.slice none 0 0)) = Wb at C2 g2 ⊢
    have hsz := hide (show w.heap.size + 1 ≤ Wb.heap.size from by have := hs1'.out; have := g1.out.size; have := g2.out.size; omega)
    have htbb : Wb.heap[w.heap.size]? = some (.cells #[.pointer (some ⟨p, 0, none⟩)] 23 (0, 0)) := by
      have hnf : ¬ F w.heap.size := fun hb => by have := h.out.lt _ hb; omega
      have hnf1 : ¬ F1 w.heap.size := fun hb => by rcases x1.out _ hb with h1 | h1; exact hnf h1; have := hs1'.out; omega
      have := g1.out.size
      exact (g2.out.block w.heap.size (by have := hs1'.out; omega) hnf1).trans ((g1.out.block w.heap.size (by have := hs1'.out; omega) hnf).trans htb'.out)
    have hgg : Hid (Chg F w Wb) := hide (((Chg.of_below hb0.out F).trans (g1.out.trans g2.out x1.out) (Ext.refl _ _)))
    have hxx : Hid (Ext F F2 W1.heap.size) := hide (x1.out.trans x2.out g1.out.size)
    have cS := hide (fSynced_any Wb C2.out hG2.out id hidh.out)
    have hsyid := hsy.out id
    obtain ⟨sb, hsb⟩ : ∃ sb, sb = synB M id := ⟨_, rfl⟩
    rw [← hsb] at hsyid
    have e3 := e2'.out
    rw [← hsb] at e3
    have cS2 := cS.out
    rw [hsyid] at cS2
    replace cS := hide cS2
    replace e2' := hide e3
    replace htbb := hide htbb
    replace hsb := hide hsb
    clear cS2 e3 hsyid hWb g1 g2 x1 x2 cell2 ya0 ya1 ya2 ya3 ya4 ya5 ya6 ya7 ya8 ya9 fa0 fa1 fa2 fa3 fa4 fa5 fa6 fa7 fa8 fa9
    refine cS.out.mono ?_
    rintro e w' ⟨rfl, nq, rfl⟩
    have cb := hide (fun q => C2.out.below (below_drewN (Below.refl Wb.heap.size Wb) q))
    cases sb with
    | true =>
      have e4 : Hid (q = (setM M id (some (cacheS s)), [])) := hide (by have := e2'.out; simpa using this)
      go_wp2
      go_ret2
      rw [e4.out]
      exact ⟨_, F2, Z2, rfl, Rd.nil _ _, (fun b hb => by cases hb), cb.out _, hgg.out.trans (Chg.of_below (below_drewN (Below.refl Wb.heap.size Wb) _) F) (Ext.refl _ _), fun b hb => (hxx.out b hb).imp (fun h => h) (fun h => by have := hs1'.out; omega)⟩
    | false =>
      have e4 : q = comA (synB M) k (setM M id (some (cacheS s)), [id]) id := by have := e2'.out; simpa using this
      replace e4 := hide e4
      clear e2'
      obtain ⟨W2, hW2⟩ : ∃ W2, W2 = Wb.drewN nq := ⟨_, rfl⟩
      have hW2s : W2.heap.size = Wb.heap.size := by rw [hW2]; simp
      have hc2 := cb.out nq
      rw [← hW2] at hc2
      obtain ⟨W3, hW3⟩ : ∃ W3, W3 = (W2.alloc (.cells #[.slice none 0 0] 38)).alloc (.cells #[.func (.func 108) #[] #[.pointer (some ⟨w.heap.size, 0, none⟩), .pointer (some ⟨Wb.heap.size, 0, none⟩), .pointer (some ⟨Wb.heap.size + 1, 0, none⟩)]] 141) := ⟨_, rfl⟩
      have hb3 : Below W2.heap.size W2 W3 := by rw [hW3]; exact ((Below.refl _ W2).alloc (Nat.le_refl _) _).alloc (by simp) _
      have hs3 : W3.heap.size = Wb.heap.size + 2 := by rw [hW3, ← hW2s]; simp
      have hlb : W3.heap[Wb.heap.size]? = some (.cells #[.slice none 0 0] 38 (0, 0)) := by rw [hW3, ← hW2s]; exact (Below.heap_alloc _ _ _ (by simp)).trans (heap_alloc_new _ _)
      have hfb : W3.heap[Wb.heap.size + 1]? = some (.cells #[.func (.func 108) #[] #[.pointer (some ⟨w.heap.size, 0, none⟩), .pointer (some ⟨Wb.heap.size, 0, none⟩), .pointer (some ⟨Wb.heap.size + 1, 0, none⟩)]] 141 (0, 0)) := by
        have := heap_alloc_new (W2.alloc (.cells #[.slice none 0 0] 38)) (.cells #[.func (.func 108) #[] #[.pointer (some ⟨w.heap.size, 0, none⟩), .pointer (some ⟨Wb.heap.size, 0, none⟩), .pointer (some ⟨Wb.heap.size + 1, 0, none⟩)]] 141)
        rw [← hW3] at this
        rw [← this]; simp [hW2s]
      have hszo := hsz.out
      have htb3 : W3.heap[w.heap.size]? = some (.cells #[.pointer (some ⟨p, 0, none⟩)] 23 (0, 0)) := by
        refine (hb3.block w.heap.size (by omega)).trans ?_
        rw [hW2]; exact htbb.out
      have hnt : ¬ F2 w.heap.size := fun hb => by
        rcases hxx.out _ hb with h1 | h1
        · have := h.out.lt _ h1; omega
        · have := hs1'.out; omega
      have hltF := hc2.lt
      have hCS : ComSt W3 p mb n w.heap.size Wb.heap.size (Wb.heap.size + 1) Wb.heap.size F2 Z2 (setM M id (some (cacheS s))) [] (.slice none 0 0) :=
        ⟨hc2.below hb3, htb3, hlb, hfb, hnt, (fun hb => by have := hltF _ hb; omega), (fun hb => by have := hltF _ hb; omega), by omega, by omega, World.ownsRow_nil _ _ _ _, (fun b hb => by cases hb), by omega⟩
      have l3 := hCS.cells
      have hmid := hide (fun o w2 hg => hCS.mid (o := o) (w1 := w2) hg)
      have hpush := hide (fun o g cap w2 ho hg hat => hCS.push id (o := o) (g := g) (cap := cap) (w1 := w2) ho hg hat)
      have hchg3 : Hid (Chg F w W3) := hide (by
        refine hgg.out.trans (Chg.of_below ?_ F) (Ext.refl _ _)
        have hq : Below Wb.heap.size Wb W2 := by rw [hW2]; exact below_drewN (Below.refl _ _) nq
        exact hq.trans (hb3.mono (by omega)))
      have hcom := hide (fun (w2 : World) (lv : Value) (hC : ComSt w2 p mb n w.heap.size Wb.heap.size (Wb.heap.size + 1) Wb.heap.size F2 Z2 (setM M id (some (cacheS s))) ([] ++ [id]) lv) =>
        com1_any (rk := rk) (Bk := Bk) (sy := synB M) k w2 F2 Z2 (setM M id (some (cacheS s))) [id] lv id (cacheS s) z2 hC
          ⟨hG2.out, (fun j t hj => ((hF2.out j t hj).fits (Nat.le_refl _)).1), by simp, (fun y hy => ⟨cacheS s, by simp at hy; subst hy; exact setM_same _ _ _, .inl (by simpa using hy)⟩)⟩
          (setM_same _ _ _) hz2'.out hsy.out hrk2.out (cntM_len hC2.out hcn) hk'.out)
      have hz2a' := hz2a.out
      rw [hz2a'] at hcom
      have hCSh := hide hCS
      rw [hW3] at l3 hmid hpush hCSh
      rw [hW2] at l3 hmid hpush hCSh
      have hW3h := hide hW3
      have hW2h := hide hW2
      obtain ⟨l3a, l3b, l3c, l3d, l3e⟩ := l3
      have hlb2 := hsz.out
      clear hCS hW3 hW2 hW2s hc2 hb3 hs3 hlb hfb htb3 hnt hltF hz2a' hszo cb C2 cS hF2 hG2 hC2 hrk2 hk' hsy htbb hsb
      go_wp2_with (first | (at_builtin; refine wpList_append_lies _ rfl _ _ 38 rfl Wb.heap.size 3 i0 (.int .i64 0) 1 8 Tryz.underlying38 hi hz0 hz1 hz2 rfl (by decide) _ _ _ (by simp [Act.eval]) (World.ownsRow_nil _ _ _ _) ⟨Wb.heap.size + 2, 0, none⟩ 1 1 [.int .i64 id] (by simp [Act.eval]) rfl (cell_new_at (by simp) _ _) (by intro u hu; simp at hu; subst hu; rfl) (by omega) (by unfold maxLen; omega) (by omega) (by simp; omega) _ rfl ?_; intro g cap w2 hown hgrow hat hlt2; obtain ⟨m1, m2, m3⟩ := hmid.out _ _ hgrow; have hps := hpush.out _ _ _ _ hown hgrow hat; have hcc := hps.1.cells) | (go_at_call 108; refine (hcom.out _ _ hps.1).mono ?_; rintro e w4 ⟨rfl, F', Z', lv', hC4, -, g4, x4⟩; have hc4 := hC4.cells))
      go_ret2
      have hc3 := hchg3.out
      rw [hW3h.out, hW2h.out] at hc3
      have hsz3 := hc3.size
      have hsz4 := hps.2.size
      have hll : w.heap.size ≤ Wb.heap.size := by omega
      rw [e4.out]
      refine ⟨lv', F', Z', rfl, Rd.of_own hC4.row, (fun b hb => Nat.le_trans hll (hC4.row.lt b hb).1), hC4.fz, hc3.trans (hps.2.trans g4 (Ext.refl _ _)) ?_, fun b hb => ?_⟩
      · intro b hb
        rcases hb with hb | hb | hb
        · exact (hxx.out b hb).imp (fun h => h) (fun h => by have := hs1'.out; omega)
        · right; omega
        · right; omega
      · rcases x4 b hb with h1 | h1
        · exact (hxx.out b h1).imp (fun h => h) (fun h => by have := hs1'.out; omega)
        · right; omega
end
end Go.Proofs.YthkjicnnepkghaaGreatDoor
