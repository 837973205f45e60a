/-
  tableauref15: Merge, Apply.
-/
import Derived.Test.YthkjicnnepkghaaGreatDoorPkM
import Derived.Test.YthkjicnnepkghaaGreatDoorPkB
import Derived.Deep.RegionHeld3
namespace Go.Proofs.YthkjicnnepkghaaGreatDoor
open Go.RowKit
set_option linter.unusedVariables false

def SP.onlyIf (p : Prop) (x : Value) : SP := ⟨fun v _ => p → v = x, fun _ _ _ h _ => h⟩
def mg15Build (W3 : World) (a b : St) : SP := ⟨fun v w => ∃ v3 v4, v = .agg #[.bool (a.attach || b.attach), .int .i64 a.buffer, .slice none 0 0, .slice none 0 0, .bool (a.input || b.input), .bool a.all, v3, .bool (a.ordered || b.ordered), v4, .slice none 0 0] ∧ w.ownsRow W3.heap.size 30 4 v3 a.region.length (a.region.flatMap R4.enc) ∧ w.ownsRow W3.heap.size 3 1 v4 a.order.length (a.order.map (Value.int .i64)),
  fun v w w' ⟨v3, v4, h, h3, h4⟩ hb => ⟨v3, v4, h, own_below' h3 hb (Nat.le_refl _), own_below' h4 hb (Nat.le_refl _)⟩⟩

set_option maxRecDepth 100000 in
set_option maxHeartbeats 8000000 in
theorem gMerge15_any (w : World) (va vb : StV) (a b : St) (ha : StRd w va a) (hb : StRd w vb b) (hf : MergeFits a b) :
    Calls Tryz.prog 111 #[stVal a va, stVal b vb] w (BigP w (mergeT a b)) := by
  obtain ⟨ad, af, ar, ao, ap⟩ := va
  obtain ⟨bd, bf, br, bo, bp⟩ := vb
  obtain ⟨had, haf, har, hao, hap⟩ := ha
  obtain ⟨hbd, hbf, hbr, hbo, hbp⟩ := hb
  dsimp only at had haf har hao hap hbd hbf hbr hbo hbp
  obtain ⟨adA, adc, rfl, _⟩ := had.form
  obtain ⟨afA, afc, rfl, _⟩ := haf.form
  obtain ⟨arA, arc, rfl, _⟩ := har.form
  obtain ⟨aoA, aoc, rfl, _⟩ := hao.form
  obtain ⟨apA, apc, rfl, _⟩ := hap.form
  obtain ⟨bdA, bdc, rfl, _⟩ := hbd.form
  obtain ⟨bfA, bfc, rfl, _⟩ := hbf.form
  obtain ⟨brA, brc, rfl, _⟩ := hbr.form
  obtain ⟨boA, boc, rfl, _⟩ := hbo.form
  obtain ⟨bpA, bpc, rfl, _⟩ := hbp.form
  obtain ⟨W3, hW3⟩ : ∃ W3, W3 = ((w.alloc (.cells #[.bool a.attach, .int .i64 a.buffer, .slice adA a.damage.length adc, .slice afA a.frames.length afc, .bool a.input, .bool a.all, .slice arA a.region.length arc, .bool a.ordered, .slice aoA a.order.length aoc, .slice apA a.places.length apc] 41)).alloc (.cells #[.bool b.attach, .int .i64 b.buffer, .slice bdA b.damage.length bdc, .slice bfA b.frames.length bfc, .bool b.input, .bool b.all, .slice brA b.region.length brc, .bool b.ordered, .slice boA b.order.length boc, .slice bpA b.places.length bpc] 41)).alloc (.cells #[.bool false, .int .i64 0, .slice none 0 0, .slice none 0 0, .bool false, .bool false, .slice none 0 0, .bool false, .slice none 0 0, .slice none 0 0] 41) := ⟨_, rfl⟩
  have hsz : W3.heap.size = w.heap.size + 3 := by rw [hW3]; simp
  have hbel : Below w.heap.size w W3 := by rw [hW3]; exact (((Below.refl _ w).alloc (Nat.le_refl _) _).alloc (by simp) _).alloc (by simp; omega) _
  have hk2 : W3.heap[w.heap.size]? = some (.cells #[.bool a.attach, .int .i64 a.buffer, .slice adA a.damage.length adc, .slice afA a.frames.length afc, .bool a.input, .bool a.all, .slice arA a.region.length arc, .bool a.ordered, .slice aoA a.order.length aoc, .slice apA a.places.length apc] 41 (0, 0)) := (by rw [hW3]; exact (Below.heap_alloc _ _ _ (by simp; omega)).trans (heap_alloc2_old _ _ _))
  have hk3 : W3.heap[w.heap.size + 1]? = some (.cells #[.bool b.attach, .int .i64 b.buffer, .slice bdA b.damage.length bdc, .slice bfA b.frames.length bfc, .bool b.input, .bool b.all, .slice brA b.region.length brc, .bool b.ordered, .slice boA b.order.length boc, .slice bpA b.places.length bpc] 41 (0, 0)) := (by rw [hW3]; exact (Below.heap_alloc _ _ _ (by simp)).trans (heap_alloc2_new _ _ _))
  have hk4 : W3.heap[w.heap.size + 2]? = some (.cells #[.bool false, .int .i64 0, .slice none 0 0, .slice none 0 0, .bool false, .bool false, .slice none 0 0, .bool false, .slice none 0 0, .slice none 0 0] 41 (0, 0)) := by
    rw [hW3]
    have := heap_alloc_new ((w.alloc (.cells #[.bool a.attach, .int .i64 a.buffer, .slice adA a.damage.length adc, .slice afA a.frames.length afc, .bool a.input, .bool a.all, .slice arA a.region.length arc, .bool a.ordered, .slice aoA a.order.length aoc, .slice apA a.places.length apc] 41)).alloc (.cells #[.bool b.attach, .int .i64 b.buffer, .slice bdA b.damage.length bdc, .slice bfA b.frames.length bfc, .bool b.input, .bool b.all, .slice brA b.region.length brc, .bool b.ordered, .slice boA b.order.length boc, .slice bpA b.places.length bpc] 41)) (.cells #[.bool false, .int .i64 0, .slice none 0 0, .slice none 0 0, .bool false, .bool false, .slice none 0 0, .bool false, .slice none 0 0, .slice none 0 0] 41)
    simpa using this
  have r1 := had.below hbel (Nat.le_refl _)
  have r2 := haf.below hbel (Nat.le_refl _)
  have r3 := har.below hbel (Nat.le_refl _)
  have r4 := hao.below hbel (Nat.le_refl _)
  have r5 := hap.below hbel (Nat.le_refl _)
  have s1 := hbd.below hbel (Nat.le_refl _)
  have s2 := hbf.below hbel (Nat.le_refl _)
  have s3 := hbr.below hbel (Nat.le_refl _)
  have s4 := hbo.below hbel (Nat.le_refl _)
  have s5 := hbp.below hbel (Nat.le_refl _)
  have c1r := hide (fun W (hB : Below W3.heap.size W3 W) => (gRects15_any W _ a.region (r3.below hB (Nat.le_refl _)) (by have := hf.r; omega)).mono fun e w' ⟨v', e1, o1, b1⟩ => (⟨v', e1, own_le o1 hB.size, b1⟩ : ∃ v', e = Ending.returned v' ∧ w'.ownsRow W3.heap.size 30 4 v' a.region.length (a.region.flatMap R4.enc) ∧ Below W.heap.size W w'))
  have d1r := hide (fun W (hB : Below W3.heap.size W3 W) => (gRects15_any W _ b.region (s3.below hB (Nat.le_refl _)) (by have := hf.r; omega)).mono fun e w' ⟨v', e1, o1, b1⟩ => (⟨v', e1, own_le o1 hB.size, b1⟩ : ∃ v', e = Ending.returned v' ∧ w'.ownsRow W3.heap.size 30 4 v' b.region.length (b.region.flatMap R4.enc) ∧ Below W.heap.size W w'))
  have c1d := hide (fun W (hB : Below W3.heap.size W3 W) => gRects15_any W _ a.damage (r1.below hB (Nat.le_refl _)) (by have := hf.d; omega))
  have c1i := hide (fun W (hB : Below W3.heap.size W3 W) => (gInts15_any W _ a.order (r4.below hB (Nat.le_refl _)) (by have := hf.o; omega)).mono fun e w' ⟨v', e1, o1, b1⟩ => (⟨v', e1, own_le o1 hB.size, b1⟩ : ∃ v', e = Ending.returned v' ∧ w'.ownsRow W3.heap.size 3 1 v' a.order.length (a.order.map (Value.int .i64)) ∧ Below W.heap.size W w'))
  have d1i := hide (fun W (hB : Below W3.heap.size W3 W) => (gInts15_any W _ b.order (s4.below hB (Nat.le_refl _)) (by have := hf.o; omega)).mono fun e w' ⟨v', e1, o1, b1⟩ => (⟨v', e1, own_le o1 hB.size, b1⟩ : ∃ v', e = Ending.returned v' ∧ w'.ownsRow W3.heap.size 3 1 v' b.order.length (b.order.map (Value.int .i64)) ∧ Below W.heap.size W w'))
  have c1f := hide (fun W (hB : Below W3.heap.size W3 W) => gInts15_any W _ a.frames (r2.below hB (Nat.le_refl _)) (by have := hf.f; omega))
  have cpl := hide (fun W (hB : Below W3.heap.size W3 W) => (gPuts_any W _ _ a.places b.places (r5.below hB (Nat.le_refl _)) (s5.below hB (Nat.le_refl _)) hf.p).mono fun e w' ⟨v', e1, o1, b1⟩ => (⟨v', e1, own_le o1 hB.size, b1⟩ : ∃ v', e = Ending.returned v' ∧ w'.ownsRow W3.heap.size 62 3 v' (putsP a.places b.places).length ((putsP a.places b.places).flatMap Ch.enc) ∧ Below W.heap.size W w'))
  have q1 := hide (fun W (hB : Below W3.heap.size W3 W) => s1.below hB (Nat.le_refl _))
  have q2 := hide (fun W (hB : Below W3.heap.size W3 W) => s2.below hB (Nat.le_refl _))
  have hfd := hf.d
  have hff := hf.f
  have kA : Hid (∀ w' : World, Below W3.heap.size W3 w' → w'.heap[w.heap.size]? = some (.cells #[.bool a.attach, .int .i64 a.buffer, .slice adA a.damage.length adc, .slice afA a.frames.length afc, .bool a.input, .bool a.all, .slice arA a.region.length arc, .bool a.ordered, .slice aoA a.order.length aoc, .slice apA a.places.length apc] 41 (0, 0))) := hide fun w' hB => (hB.block _ (by omega)).trans hk2
  have kB : Hid (∀ w' : World, Below W3.heap.size W3 w' → w'.heap[w.heap.size + 1]? = some (.cells #[.bool b.attach, .int .i64 b.buffer, .slice bdA b.damage.length bdc, .slice bfA b.frames.length bfc, .bool b.input, .bool b.all, .slice brA b.region.length brc, .bool b.ordered, .slice boA b.order.length boc, .slice bpA b.places.length bpc] 41 (0, 0))) := hide fun w' hB => (hB.block _ (by omega)).trans hk3
  have hb4 : Hid (∀ w' : World, Below W3.heap.size W3 w' → w'.heap[w.heap.size + 2]? = some (.cells #[.bool false, .int .i64 0, .slice none 0 0, .slice none 0 0, .bool false, .bool false, .slice none 0 0, .bool false, .slice none 0 0, .slice none 0 0] 41 (0, 0))) := hide fun w' hB => (hB.block _ (by omega)).trans hk4
  obtain ⟨ir, hir, hirz, hir1, hir2⟩ := info_parts Tryz.infoCrect
  obtain ⟨ii, hii, hiiz, hii1, hii2⟩ := info_parts Tryz.infoCint
  replace hW3 := hide hW3
  replace hsz := hide hsz
  replace hbel := hide hbel
  clear had haf har hao hap hbd hbf hbr hbo hbp hf r1 r2 r3 r4 r5 s1 s2 s3 s4 s5 hk2 hk3 hk4
  unfold stVal
  dsimp only
  obtain ⟨S, hS⟩ : ∃ S, S = mergeT a b := ⟨_, rfl⟩
  rw [← hS]
  replace hS := hide hS
  go_enter Tryz.func111, Tryz.ntmps111
  go_wp2
  rw [← hW3.out]
  go_upto_region 1 with fail
  go_cut [5] (fun u wx => ∃ g v3 v4, u = .pointer (some ⟨g, 0, none⟩) ∧ Hid (Mg W3 g #[.bool (a.attach || b.attach), .int .i64 a.buffer, .slice none 0 0, .slice none 0 0, .bool (a.input || b.input), .bool a.all, v3, .bool (a.ordered || b.ordered), v4, .slice none 0 0] (mgRows [] [] a.region a.order [] (.slice none 0 0) (.slice none 0 0) v3 v4 (.slice none 0 0)) wx))
  case first =>
    rename_i J K' hJ hK
    refine wp_region_plan (m := 30) (n := 76) (l := [.is (.pointer (some ⟨w.heap.size, 0, none⟩)), .is (.bool a.attach), .is (.bool a.attach), SP.onlyIf (a.attach = false) (.pointer (some ⟨w.heap.size + 1, 0, none⟩)), SP.onlyIf (a.attach = false) (.bool b.attach), .is (.bool (a.attach || b.attach)), .is (.pointer (some ⟨w.heap.size, 1, none⟩)), .is (.int .i64 a.buffer), .is (.pointer (some ⟨w.heap.size, 4, none⟩)), .is (.bool a.input), .is (.bool a.input), SP.onlyIf (a.input = false) (.pointer (some ⟨w.heap.size + 1, 4, none⟩)), SP.onlyIf (a.input = false) (.bool b.input), .is (.bool (a.input || b.input)), .is (.pointer (some ⟨w.heap.size, 5, none⟩)), .is (.bool a.all), .is (.pointer (some ⟨w.heap.size, 6, none⟩)), .is (.slice arA a.region.length arc), .own W3.heap.size 30 4 a.region.length (a.region.flatMap R4.enc), .is (.pointer (some ⟨w.heap.size, 7, none⟩)), .is (.bool a.ordered), .is (.bool a.ordered), SP.onlyIf (a.ordered = false) (.pointer (some ⟨w.heap.size + 1, 7, none⟩)), SP.onlyIf (a.ordered = false) (.bool b.ordered), .is (.bool (a.ordered || b.ordered)), .is (.pointer (some ⟨w.heap.size, 8, none⟩)), .is (.slice aoA a.order.length aoc), .own W3.heap.size 3 1 a.order.length (a.order.map (Value.int .i64)), mg15Build W3 a b, .box W3.heap.size 41 #[.bool false, .int .i64 0, .slice none 0 0, .slice none 0 0, .bool false, .bool false, .slice none 0 0, .bool false, .slice none 0 0, .slice none 0 0]]) (by kernel_rfl) rfl (by kernel_rfl) rfl ?_ ?_
    · show AllBelow _ 30
      refine ⟨⟨⟨⟨⟨⟨⟨⟨⟨⟨⟨⟨⟨⟨⟨⟨⟨⟨⟨⟨⟨⟨⟨⟨⟨⟨⟨⟨⟨⟨trivial, ?_⟩, ?_⟩, ?_⟩, ?_⟩, ?_⟩, ?_⟩, ?_⟩, ?_⟩, ?_⟩, ?_⟩, ?_⟩, ?_⟩, ?_⟩, ?_⟩, ?_⟩, ?_⟩, ?_⟩, ?_⟩, ?_⟩, ?_⟩, ?_⟩, ?_⟩, ?_⟩, ?_⟩, ?_⟩, ?_⟩, ?_⟩, ?_⟩, ?_⟩, ?_⟩
      · intro o ho a1 w1 hk hb F; obtain rfl := Option.some.inj ho; have h : a1.tmps[2]?.getD undef = .pointer (some ⟨w.heap.size, 0, none⟩) := (Array.getD_eq_getD_getElem?).symm.trans (hk.free (j := 2) rfl); refine wpOp_val rfl rfl (v := .pointer (some ⟨w.heap.size, 0, none⟩)) ?_ ⟨_, rfl, Below.refl _ _, rfl⟩; simp [execOp, Act.eval, go_sem, h]
      · intro o ho a1 w1 hk hb F; obtain rfl := Option.some.inj ho; have f : a1.tmps[6]?.getD undef = .pointer (some ⟨w.heap.size, 0, none⟩) := (Array.getD_eq_getD_getElem?).symm.trans (F 0 _ rfl rfl); have c := (cells10 (kA.out _ hb)).1; refine wpOp_val rfl rfl (v := .bool a.attach) ?_ ⟨_, rfl, Below.refl _ _, rfl⟩; simp [execOp, Act.eval, go_sem, f, c]
      · intro o ho a1 w1 hk hb F; obtain rfl := Option.some.inj ho; have f : a1.tmps[7]?.getD undef = .bool a.attach := (Array.getD_eq_getD_getElem?).symm.trans (F 1 _ rfl rfl); refine wpOp_val rfl rfl (v := .bool a.attach) ?_ ⟨_, rfl, Below.refl _ _, rfl⟩; simp [execOp, Act.eval, go_sem, f]
      · intro o ho a1 w1 hk hb F; obtain rfl := Option.some.inj ho; have fg : a1.tmps[8]?.getD undef = .bool a.attach := (Array.getD_eq_getD_getElem?).symm.trans (F 2 _ rfl rfl); have h : a1.tmps[3]?.getD undef = .pointer (some ⟨w.heap.size + 1, 0, none⟩) := (Array.getD_eq_getD_getElem?).symm.trans (hk.free (j := 3) rfl); cases hcd : a.attach with
        | false => rw [hcd] at fg; refine wpOp_valG rfl (wanted_on rfl rfl fg) (v := .pointer (some ⟨w.heap.size + 1, 0, none⟩)) ?_ ⟨_, rfl, Below.refl _ _, fun _ => rfl⟩; simp [execOp, Act.eval, go_sem, h]
        | true => rw [hcd] at fg; exact wpOp_un rfl (wanted_off rfl rfl fg) ⟨_, rfl, Below.refl _ _, fun e => by cases e⟩
      · intro o ho a1 w1 hk hb F; obtain rfl := Option.some.inj ho; have fg : a1.tmps[8]?.getD undef = .bool a.attach := (Array.getD_eq_getD_getElem?).symm.trans (F 2 _ rfl rfl); have fp := F 3 _ rfl rfl; cases hcd : a.attach with
        | false => rw [hcd] at fg; have f : a1.tmps[9]?.getD undef = .pointer (some ⟨w.heap.size + 1, 0, none⟩) := (Array.getD_eq_getD_getElem?).symm.trans (fp hcd); have c := (cells10 (kB.out _ hb)).1; refine wpOp_valG rfl (wanted_on rfl rfl fg) (v := .bool b.attach) ?_ ⟨_, rfl, Below.refl _ _, fun _ => rfl⟩; simp [execOp, Act.eval, go_sem, f, c]
        | true => rw [hcd] at fg; exact wpOp_un rfl (wanted_off rfl rfl fg) ⟨_, rfl, Below.refl _ _, fun e => by cases e⟩
      · intro o ho a1 w1 hk hb F; obtain rfl := Option.some.inj ho; have f0 : a1.tmps[8]?.getD undef = .bool a.attach := (Array.getD_eq_getD_getElem?).symm.trans (F 2 _ rfl rfl); have fp := F 4 _ rfl rfl; refine wpOp_val rfl rfl (v := .bool (a.attach || b.attach)) ?_ ⟨_, rfl, Below.refl _ _, rfl⟩; cases hcd : a.attach with
        | false => rw [hcd] at f0; have f1 : a1.tmps[10]?.getD undef = .bool b.attach := (Array.getD_eq_getD_getElem?).symm.trans (fp hcd); simp [execOp, Act.eval, go_sem, f0, f1]
        | true => rw [hcd] at f0; simp [execOp, Act.eval, go_sem, f0]
      · intro o ho a1 w1 hk hb F; obtain rfl := Option.some.inj ho; have h : a1.tmps[2]?.getD undef = .pointer (some ⟨w.heap.size, 0, none⟩) := (Array.getD_eq_getD_getElem?).symm.trans (hk.free (j := 2) rfl); refine wpOp_val rfl rfl (v := .pointer (some ⟨w.heap.size, 1, none⟩)) ?_ ⟨_, rfl, Below.refl _ _, rfl⟩; simp [execOp, Act.eval, go_sem, h]
      · intro o ho a1 w1 hk hb F; obtain rfl := Option.some.inj ho; have f : a1.tmps[12]?.getD undef = .pointer (some ⟨w.heap.size, 1, none⟩) := (Array.getD_eq_getD_getElem?).symm.trans (F 6 _ rfl rfl); have c := (cells10 (kA.out _ hb)).2.1; refine wpOp_val rfl rfl (v := .int .i64 a.buffer) ?_ ⟨_, rfl, Below.refl _ _, rfl⟩; simp [execOp, Act.eval, go_sem, f, c]
      · intro o ho a1 w1 hk hb F; obtain rfl := Option.some.inj ho; have h : a1.tmps[2]?.getD undef = .pointer (some ⟨w.heap.size, 0, none⟩) := (Array.getD_eq_getD_getElem?).symm.trans (hk.free (j := 2) rfl); refine wpOp_val rfl rfl (v := .pointer (some ⟨w.heap.size, 4, none⟩)) ?_ ⟨_, rfl, Below.refl _ _, rfl⟩; simp [execOp, Act.eval, go_sem, h]
      · intro o ho a1 w1 hk hb F; obtain rfl := Option.some.inj ho; have f : a1.tmps[14]?.getD undef = .pointer (some ⟨w.heap.size, 4, none⟩) := (Array.getD_eq_getD_getElem?).symm.trans (F 8 _ rfl rfl); have c := (cells10 (kA.out _ hb)).2.2.2.2.1; refine wpOp_val rfl rfl (v := .bool a.input) ?_ ⟨_, rfl, Below.refl _ _, rfl⟩; simp [execOp, Act.eval, go_sem, f, c]
      · intro o ho a1 w1 hk hb F; obtain rfl := Option.some.inj ho; have f : a1.tmps[15]?.getD undef = .bool a.input := (Array.getD_eq_getD_getElem?).symm.trans (F 9 _ rfl rfl); refine wpOp_val rfl rfl (v := .bool a.input) ?_ ⟨_, rfl, Below.refl _ _, rfl⟩; simp [execOp, Act.eval, go_sem, f]
      · intro o ho a1 w1 hk hb F; obtain rfl := Option.some.inj ho; have fg : a1.tmps[16]?.getD undef = .bool a.input := (Array.getD_eq_getD_getElem?).symm.trans (F 10 _ rfl rfl); have h : a1.tmps[3]?.getD undef = .pointer (some ⟨w.heap.size + 1, 0, none⟩) := (Array.getD_eq_getD_getElem?).symm.trans (hk.free (j := 3) rfl); cases hcd : a.input with
        | false => rw [hcd] at fg; refine wpOp_valG rfl (wanted_on rfl rfl fg) (v := .pointer (some ⟨w.heap.size + 1, 4, none⟩)) ?_ ⟨_, rfl, Below.refl _ _, fun _ => rfl⟩; simp [execOp, Act.eval, go_sem, h]
        | true => rw [hcd] at fg; exact wpOp_un rfl (wanted_off rfl rfl fg) ⟨_, rfl, Below.refl _ _, fun e => by cases e⟩
      · intro o ho a1 w1 hk hb F; obtain rfl := Option.some.inj ho; have fg : a1.tmps[16]?.getD undef = .bool a.input := (Array.getD_eq_getD_getElem?).symm.trans (F 10 _ rfl rfl); have fp := F 11 _ rfl rfl; cases hcd : a.input with
        | false => rw [hcd] at fg; have f : a1.tmps[17]?.getD undef = .pointer (some ⟨w.heap.size + 1, 4, none⟩) := (Array.getD_eq_getD_getElem?).symm.trans (fp hcd); have c := (cells10 (kB.out _ hb)).2.2.2.2.1; refine wpOp_valG rfl (wanted_on rfl rfl fg) (v := .bool b.input) ?_ ⟨_, rfl, Below.refl _ _, fun _ => rfl⟩; simp [execOp, Act.eval, go_sem, f, c]
        | true => rw [hcd] at fg; exact wpOp_un rfl (wanted_off rfl rfl fg) ⟨_, rfl, Below.refl _ _, fun e => by cases e⟩
      · intro o ho a1 w1 hk hb F; obtain rfl := Option.some.inj ho; have f0 : a1.tmps[16]?.getD undef = .bool a.input := (Array.getD_eq_getD_getElem?).symm.trans (F 10 _ rfl rfl); have fp := F 12 _ rfl rfl; refine wpOp_val rfl rfl (v := .bool (a.input || b.input)) ?_ ⟨_, rfl, Below.refl _ _, rfl⟩; cases hcd : a.input with
        | false => rw [hcd] at f0; have f1 : a1.tmps[18]?.getD undef = .bool b.input := (Array.getD_eq_getD_getElem?).symm.trans (fp hcd); simp [execOp, Act.eval, go_sem, f0, f1]
        | true => rw [hcd] at f0; simp [execOp, Act.eval, go_sem, f0]
      · intro o ho a1 w1 hk hb F; obtain rfl := Option.some.inj ho; have h : a1.tmps[2]?.getD undef = .pointer (some ⟨w.heap.size, 0, none⟩) := (Array.getD_eq_getD_getElem?).symm.trans (hk.free (j := 2) rfl); refine wpOp_val rfl rfl (v := .pointer (some ⟨w.heap.size, 5, none⟩)) ?_ ⟨_, rfl, Below.refl _ _, rfl⟩; simp [execOp, Act.eval, go_sem, h]
      · intro o ho a1 w1 hk hb F; obtain rfl := Option.some.inj ho; have f : a1.tmps[20]?.getD undef = .pointer (some ⟨w.heap.size, 5, none⟩) := (Array.getD_eq_getD_getElem?).symm.trans (F 14 _ rfl rfl); have c := (cells10 (kA.out _ hb)).2.2.2.2.2.1; refine wpOp_val rfl rfl (v := .bool a.all) ?_ ⟨_, rfl, Below.refl _ _, rfl⟩; simp [execOp, Act.eval, go_sem, f, c]
      · intro o ho a1 w1 hk hb F; obtain rfl := Option.some.inj ho; have h : a1.tmps[2]?.getD undef = .pointer (some ⟨w.heap.size, 0, none⟩) := (Array.getD_eq_getD_getElem?).symm.trans (hk.free (j := 2) rfl); refine wpOp_val rfl rfl (v := .pointer (some ⟨w.heap.size, 6, none⟩)) ?_ ⟨_, rfl, Below.refl _ _, rfl⟩; simp [execOp, Act.eval, go_sem, h]
      · intro o ho a1 w1 hk hb F; obtain rfl := Option.some.inj ho; have f : a1.tmps[22]?.getD undef = .pointer (some ⟨w.heap.size, 6, none⟩) := (Array.getD_eq_getD_getElem?).symm.trans (F 16 _ rfl rfl); have c := (cells10 (kA.out _ hb)).2.2.2.2.2.2.1; refine wpOp_val rfl rfl (v := .slice arA a.region.length arc) ?_ ⟨_, rfl, Below.refl _ _, rfl⟩; simp [execOp, Act.eval, go_sem, f, c]
      · intro o ho a1 w1 hk hb F; obtain rfl := Option.some.inj ho; have f0 : a1.tmps[23]?.getD undef = .slice arA a.region.length arc := (Array.getD_eq_getD_getElem?).symm.trans (F 17 _ rfl rfl); refine wpOp_call rfl rfl (f := 137) (args := #[.slice arA a.region.length arc]) ?_ ((c1r.out _ hb).mono fun e w2 ⟨v, he, ho, hb2⟩ => ⟨v, he, _, rfl, hb2, ho⟩); simp [execOp, Act.eval, go_sem, f0]
      · intro o ho a1 w1 hk hb F; obtain rfl := Option.some.inj ho; have h : a1.tmps[2]?.getD undef = .pointer (some ⟨w.heap.size, 0, none⟩) := (Array.getD_eq_getD_getElem?).symm.trans (hk.free (j := 2) rfl); refine wpOp_val rfl rfl (v := .pointer (some ⟨w.heap.size, 7, none⟩)) ?_ ⟨_, rfl, Below.refl _ _, rfl⟩; simp [execOp, Act.eval, go_sem, h]
      · intro o ho a1 w1 hk hb F; obtain rfl := Option.some.inj ho; have f : a1.tmps[25]?.getD undef = .pointer (some ⟨w.heap.size, 7, none⟩) := (Array.getD_eq_getD_getElem?).symm.trans (F 19 _ rfl rfl); have c := (cells10 (kA.out _ hb)).2.2.2.2.2.2.2.1; refine wpOp_val rfl rfl (v := .bool a.ordered) ?_ ⟨_, rfl, Below.refl _ _, rfl⟩; simp [execOp, Act.eval, go_sem, f, c]
      · intro o ho a1 w1 hk hb F; obtain rfl := Option.some.inj ho; have f : a1.tmps[26]?.getD undef = .bool a.ordered := (Array.getD_eq_getD_getElem?).symm.trans (F 20 _ rfl rfl); refine wpOp_val rfl rfl (v := .bool a.ordered) ?_ ⟨_, rfl, Below.refl _ _, rfl⟩; simp [execOp, Act.eval, go_sem, f]
      · intro o ho a1 w1 hk hb F; obtain rfl := Option.some.inj ho; have fg : a1.tmps[27]?.getD undef = .bool a.ordered := (Array.getD_eq_getD_getElem?).symm.trans (F 21 _ rfl rfl); have h : a1.tmps[3]?.getD undef = .pointer (some ⟨w.heap.size + 1, 0, none⟩) := (Array.getD_eq_getD_getElem?).symm.trans (hk.free (j := 3) rfl); cases hcd : a.ordered with
        | false => rw [hcd] at fg; refine wpOp_valG rfl (wanted_on rfl rfl fg) (v := .pointer (some ⟨w.heap.size + 1, 7, none⟩)) ?_ ⟨_, rfl, Below.refl _ _, fun _ => rfl⟩; simp [execOp, Act.eval, go_sem, h]
        | true => rw [hcd] at fg; exact wpOp_un rfl (wanted_off rfl rfl fg) ⟨_, rfl, Below.refl _ _, fun e => by cases e⟩
      · intro o ho a1 w1 hk hb F; obtain rfl := Option.some.inj ho; have fg : a1.tmps[27]?.getD undef = .bool a.ordered := (Array.getD_eq_getD_getElem?).symm.trans (F 21 _ rfl rfl); have fp := F 22 _ rfl rfl; cases hcd : a.ordered with
        | false => rw [hcd] at fg; have f : a1.tmps[28]?.getD undef = .pointer (some ⟨w.heap.size + 1, 7, none⟩) := (Array.getD_eq_getD_getElem?).symm.trans (fp hcd); have c := (cells10 (kB.out _ hb)).2.2.2.2.2.2.2.1; refine wpOp_valG rfl (wanted_on rfl rfl fg) (v := .bool b.ordered) ?_ ⟨_, rfl, Below.refl _ _, fun _ => rfl⟩; simp [execOp, Act.eval, go_sem, f, c]
        | true => rw [hcd] at fg; exact wpOp_un rfl (wanted_off rfl rfl fg) ⟨_, rfl, Below.refl _ _, fun e => by cases e⟩
      · intro o ho a1 w1 hk hb F; obtain rfl := Option.some.inj ho; have f0 : a1.tmps[27]?.getD undef = .bool a.ordered := (Array.getD_eq_getD_getElem?).symm.trans (F 21 _ rfl rfl); have fp := F 23 _ rfl rfl; refine wpOp_val rfl rfl (v := .bool (a.ordered || b.ordered)) ?_ ⟨_, rfl, Below.refl _ _, rfl⟩; cases hcd : a.ordered with
        | false => rw [hcd] at f0; have f1 : a1.tmps[29]?.getD undef = .bool b.ordered := (Array.getD_eq_getD_getElem?).symm.trans (fp hcd); simp [execOp, Act.eval, go_sem, f0, f1]
        | true => rw [hcd] at f0; simp [execOp, Act.eval, go_sem, f0]
      · intro o ho a1 w1 hk hb F; obtain rfl := Option.some.inj ho; have h : a1.tmps[2]?.getD undef = .pointer (some ⟨w.heap.size, 0, none⟩) := (Array.getD_eq_getD_getElem?).symm.trans (hk.free (j := 2) rfl); refine wpOp_val rfl rfl (v := .pointer (some ⟨w.heap.size, 8, none⟩)) ?_ ⟨_, rfl, Below.refl _ _, rfl⟩; simp [execOp, Act.eval, go_sem, h]
      · intro o ho a1 w1 hk hb F; obtain rfl := Option.some.inj ho; have f : a1.tmps[31]?.getD undef = .pointer (some ⟨w.heap.size, 8, none⟩) := (Array.getD_eq_getD_getElem?).symm.trans (F 25 _ rfl rfl); have c := (cells10 (kA.out _ hb)).2.2.2.2.2.2.2.2.1; refine wpOp_val rfl rfl (v := .slice aoA a.order.length aoc) ?_ ⟨_, rfl, Below.refl _ _, rfl⟩; simp [execOp, Act.eval, go_sem, f, c]
      · intro o ho a1 w1 hk hb F; obtain rfl := Option.some.inj ho; have f0 : a1.tmps[32]?.getD undef = .slice aoA a.order.length aoc := (Array.getD_eq_getD_getElem?).symm.trans (F 26 _ rfl rfl); refine wpOp_call rfl rfl (f := 138) (args := #[.slice aoA a.order.length aoc]) ?_ ((c1i.out _ hb).mono fun e w2 ⟨v, he, ho, hb2⟩ => ⟨v, he, _, rfl, hb2, ho⟩); simp [execOp, Act.eval, go_sem, f0]
      · intro o ho a1 w1 hk hb F
        obtain rfl := Option.some.inj ho
        have f5 : a1.tmps[11]?.getD undef = .bool (a.attach || b.attach) := (Array.getD_eq_getD_getElem?).symm.trans (F 5 _ rfl rfl)
        have f7 : a1.tmps[13]?.getD undef = .int .i64 a.buffer := (Array.getD_eq_getD_getElem?).symm.trans (F 7 _ rfl rfl)
        have f13 : a1.tmps[19]?.getD undef = .bool (a.input || b.input) := (Array.getD_eq_getD_getElem?).symm.trans (F 13 _ rfl rfl)
        have f15 : a1.tmps[21]?.getD undef = .bool a.all := (Array.getD_eq_getD_getElem?).symm.trans (F 15 _ rfl rfl)
        have f24 : a1.tmps[30]?.getD undef = .bool (a.ordered || b.ordered) := (Array.getD_eq_getD_getElem?).symm.trans (F 24 _ rfl rfl)
        have g18 := F 18 _ rfl rfl
        change w1.ownsRow _ _ _ (a1.tmps.getD 24 undef) _ _ at g18
        rw [Array.getD_eq_getD_getElem?] at g18
        obtain ⟨AA24, cc24, f18, _⟩ := own_form g18
        rw [f18] at g18
        have g27 := F 27 _ rfl rfl
        change w1.ownsRow _ _ _ (a1.tmps.getD 33 undef) _ _ at g27
        rw [Array.getD_eq_getD_getElem?] at g27
        obtain ⟨AA33, cc33, f27, _⟩ := own_form g27
        rw [f27] at g27
        refine wpOp_val rfl rfl (v := .agg #[.bool (a.attach || b.attach), .int .i64 a.buffer, .slice none 0 0, .slice none 0 0, .bool (a.input || b.input), .bool a.all, .slice AA24 _ cc24, .bool (a.ordered || b.ordered), .slice AA33 _ cc33, .slice none 0 0]) ?_ ⟨_, rfl, Below.refl _ _, _, _, rfl, g18, g27⟩
        simp [execOp, Act.eval, go_sem, f5, f7, f13, f15, f24, f18, f27]
        try rfl
      · intro o ho a1 w1 hk hb F
        obtain rfl := Option.some.inj ho
        refine wpOp_val rfl rfl (v := .pointer (some ⟨w1.heap.size, 0, none⟩)) (w' := w1.alloc (.cells #[.bool false, .int .i64 0, .slice none 0 0, .slice none 0 0, .bool false, .bool false, .slice none 0 0, .bool false, .slice none 0 0, .slice none 0 0] 41)) ?_ ⟨_, rfl, (Below.refl _ _).alloc (Nat.le_refl _) _, w1.heap.size, rfl, hb.size, heap_alloc_new _ _⟩
        simp [execOp, go_sem]
    · intro a1 w1 hk hb F
      obtain ⟨v3, v4, fv, g3, g4⟩ := F 28 _ rfl (by decide)
      obtain ⟨g, hg0, hg1, hg2⟩ := F 29 _ rfl (by decide)
      obtain ⟨AA3, cc3, rfl, _⟩ := own_form g3
      obtain ⟨AA4, cc4, rfl, _⟩ := own_form g4
      have f0 : a1.tmps[34]?.getD undef = _ := (Array.getD_eq_getD_getElem?).symm.trans fv
      have f1 : a1.tmps[5]?.getD undef = _ := (Array.getD_eq_getD_getElem?).symm.trans hg0
      obtain ⟨cm0, cm1, cm2, cm3, cm4, cm5, cm6, cm7, cm8, cm9⟩ := cells10 hg2
      have fm0 := frozen_of_row w1 g 0 _ _ hg2
      have fm1 := frozen_of_row w1 g 1 _ _ hg2
      have fm2 := frozen_of_row w1 g 2 _ _ hg2
      have fm3 := frozen_of_row w1 g 3 _ _ hg2
      have fm4 := frozen_of_row w1 g 4 _ _ hg2
      have fm5 := frozen_of_row w1 g 5 _ _ hg2
      have fm6 := frozen_of_row w1 g 6 _ _ hg2
      have fm7 := frozen_of_row w1 g 7 _ _ hg2
      have fm8 := frozen_of_row w1 g 8 _ _ hg2
      have fm9 := frozen_of_row w1 g 9 _ _ hg2
      have M0 : Mg W3 g #[.bool false, .int .i64 0, .slice none 0 0, .slice none 0 0, .bool false, .bool false, .slice none 0 0, .bool false, .slice none 0 0, .slice none 0 0] (mgRows [] [] a.region a.order [] (.slice none 0 0) (.slice none 0 0) (.slice AA3 a.region.length cc3) (.slice AA4 a.order.length cc4) (.slice none 0 0)) w1 :=
        mgRows_mk hg2 hb hg1 (World.ownsRow_nil _ _ _ _) (World.ownsRow_nil _ _ _ _) g3 g4 (World.ownsRow_nil _ _ _ _)
      have M1 := ((((((((((M0.set 0 (.bool (a.attach || b.attach))).set 1 (.int .i64 a.buffer)).set 2 (.slice none 0 0)).set 3 (.slice none 0 0)).set 4 (.bool (a.input || b.input))).set 5 (.bool a.all)).set 6 (.slice AA3 a.region.length cc3)).set 7 (.bool (a.ordered || b.ordered))).set 8 (.slice AA4 a.order.length cc4)).set 9 (.slice none 0 0))
      have hcs : (((((((((((#[.bool false, .int .i64 0, .slice none 0 0, .slice none 0 0, .bool false, .bool false, .slice none 0 0, .bool false, .slice none 0 0, .slice none 0 0] : Array Value).setIfInBounds 0 (.bool (a.attach || b.attach))).setIfInBounds 1 (.int .i64 a.buffer)).setIfInBounds 2 (.slice none 0 0)).setIfInBounds 3 (.slice none 0 0)).setIfInBounds 4 (.bool (a.input || b.input))).setIfInBounds 5 (.bool a.all)).setIfInBounds 6 (.slice AA3 a.region.length cc3)).setIfInBounds 7 (.bool (a.ordered || b.ordered))).setIfInBounds 8 (.slice AA4 a.order.length cc4)).setIfInBounds 9 (.slice none 0 0)) = #[.bool (a.attach || b.attach), .int .i64 a.buffer, .slice none 0 0, .slice none 0 0, .bool (a.input || b.input), .bool a.all, .slice AA3 a.region.length cc3, .bool (a.ordered || b.ordered), .slice AA4 a.order.length cc4, .slice none 0 0] := by kernel_rfl
      rw [hcs] at M1
      refine wpOp_skip rfl rfl (by simp [execOp, Act.eval, go_sem, f0, f1, cm0, cm1, cm2, cm3, cm4, cm5, cm6, cm7, cm8, cm9, fm0, fm1, fm2, fm3, fm4, fm5, fm6, fm7, fm8, fm9]; rfl) ?_
      have e76 := arr_tab a1.tmps 76 hk.size
      have z0 : a1.tmps.getD 0 undef = .agg #[.bool a.attach, .int .i64 a.buffer, .slice adA a.damage.length adc, .slice afA a.frames.length afc, .bool a.input, .bool a.all, .slice arA a.region.length arc, .bool a.ordered, .slice aoA a.order.length aoc, .slice apA a.places.length apc] := hk.free (j := 0) rfl
      have z1 : a1.tmps.getD 1 undef = .agg #[.bool b.attach, .int .i64 b.buffer, .slice bdA b.damage.length bdc, .slice bfA b.frames.length bfc, .bool b.input, .bool b.all, .slice brA b.region.length brc, .bool b.ordered, .slice boA b.order.length boc, .slice bpA b.places.length bpc] := hk.free (j := 1) rfl
      have z2 : a1.tmps.getD 2 undef = .pointer (some ⟨w.heap.size, 0, none⟩) := hk.free (j := 2) rfl
      have z3 : a1.tmps.getD 3 undef = .pointer (some ⟨w.heap.size + 1, 0, none⟩) := hk.free (j := 3) rfl
      have z4 : a1.tmps.getD 4 undef = .pointer (some ⟨w.heap.size + 1 + 1, 0, none⟩) := hk.free (j := 4) rfl
      have z35 : a1.tmps.getD 35 undef = undef := hk.free (j := 35) rfl
      have z36 : a1.tmps.getD 36 undef = undef := hk.free (j := 36) rfl
      have z37 : a1.tmps.getD 37 undef = undef := hk.free (j := 37) rfl
      have z38 : a1.tmps.getD 38 undef = undef := hk.free (j := 38) rfl
      have z39 : a1.tmps.getD 39 undef = undef := hk.free (j := 39) rfl
      have z40 : a1.tmps.getD 40 undef = undef := hk.free (j := 40) rfl
      have z41 : a1.tmps.getD 41 undef = undef := hk.free (j := 41) rfl
      have z42 : a1.tmps.getD 42 undef = undef := hk.free (j := 42) rfl
      have z43 : a1.tmps.getD 43 undef = undef := hk.free (j := 43) rfl
      have z44 : a1.tmps.getD 44 undef = undef := hk.free (j := 44) rfl
      have z45 : a1.tmps.getD 45 undef = undef := hk.free (j := 45) rfl
      have z46 : a1.tmps.getD 46 undef = undef := hk.free (j := 46) rfl
      have z47 : a1.tmps.getD 47 undef = undef := hk.free (j := 47) rfl
      have z48 : a1.tmps.getD 48 undef = undef := hk.free (j := 48) rfl
      have z49 : a1.tmps.getD 49 undef = undef := hk.free (j := 49) rfl
      have z50 : a1.tmps.getD 50 undef = undef := hk.free (j := 50) rfl
      have z51 : a1.tmps.getD 51 undef = undef := hk.free (j := 51) rfl
      have z52 : a1.tmps.getD 52 undef = undef := hk.free (j := 52) rfl
      have z53 : a1.tmps.getD 53 undef = undef := hk.free (j := 53) rfl
      have z54 : a1.tmps.getD 54 undef = undef := hk.free (j := 54) rfl
      have z55 : a1.tmps.getD 55 undef = undef := hk.free (j := 55) rfl
      have z56 : a1.tmps.getD 56 undef = undef := hk.free (j := 56) rfl
      have z57 : a1.tmps.getD 57 undef = undef := hk.free (j := 57) rfl
      have z58 : a1.tmps.getD 58 undef = undef := hk.free (j := 58) rfl
      have z59 : a1.tmps.getD 59 undef = undef := hk.free (j := 59) rfl
      have z60 : a1.tmps.getD 60 undef = undef := hk.free (j := 60) rfl
      have z61 : a1.tmps.getD 61 undef = undef := hk.free (j := 61) rfl
      have z62 : a1.tmps.getD 62 undef = undef := hk.free (j := 62) rfl
      have z63 : a1.tmps.getD 63 undef = undef := hk.free (j := 63) rfl
      have z64 : a1.tmps.getD 64 undef = undef := hk.free (j := 64) rfl
      have z65 : a1.tmps.getD 65 undef = undef := hk.free (j := 65) rfl
      have z66 : a1.tmps.getD 66 undef = undef := hk.free (j := 66) rfl
      have z67 : a1.tmps.getD 67 undef = undef := hk.free (j := 67) rfl
      have z68 : a1.tmps.getD 68 undef = undef := hk.free (j := 68) rfl
      have z69 : a1.tmps.getD 69 undef = undef := hk.free (j := 69) rfl
      have z70 : a1.tmps.getD 70 undef = undef := hk.free (j := 70) rfl
      have z71 : a1.tmps.getD 71 undef = undef := hk.free (j := 71) rfl
      have z72 : a1.tmps.getD 72 undef = undef := hk.free (j := 72) rfl
      have z73 : a1.tmps.getD 73 undef = undef := hk.free (j := 73) rfl
      have z74 : a1.tmps.getD 74 undef = undef := hk.free (j := 74) rfl
      have z75 : a1.tmps.getD 75 undef = undef := hk.free (j := 75) rfl
      simp only [tabT, z0, z1, z2, z3, z4, z35, z36, z37, z38, z39, z40, z41, z42, z43, z44, z45, z46, z47, z48, z49, z50, z51, z52, z53, z54, z55, z56, z57, z58, z59, z60, z61, z62, z63, z64, z65, z66, z67, z68, z69, z70, z71, z72, z73, z74, z75] at e76
      refine hK _ _ (Met.intro (hJ _ _ ?_))
      (repeat apply Exists.intro)
      refine ⟨?rel, ?fr⟩
      case fr => exact act_eq e76 hk.defers
      case rel => exact ⟨g, _, _, hg0, hide M1⟩
  case rest =>
    obtain ⟨g, v3, v4, rfl, M6⟩ := hcut
    obtain ⟨W6, hW6⟩ : ∃ W6, W6 = wc := ⟨_, rfl⟩
    subst hW6
    have hgW := M6.out.hg
    have hgs : w.heap.size + 3 ≤ g := by rw [← hsz.out]; exact hgW
    have n0 : w.heap.size ≠ g := by omega
    have n1 : w.heap.size + 1 ≠ g := by omega
    have n2 : w.heap.size + 2 ≠ g := by omega
    have hcl := hide hgW
    clear hgW c1r c1i
    obtain ⟨A3, q3, rfl, _⟩ := own_form M6.out.own5.2.2.1
    obtain ⟨A4, q4, rfl, _⟩ := own_form M6.out.own5.2.2.2.1
    obtain ⟨m0, m1, m2, m3, m4, m5, m6, m7, m8, m9, f0, f1, f2, f3, f4, f5, f6, f7, f8, f9⟩ := M6.out.facts
    obtain ⟨c0, c1, c2, c3, c4, c5, c6, c7, c8, c9⟩ := cells10 (kB.out _ M6.out.bel)
    obtain ⟨d0, d1, d2, d3, d4, d5, d6, d7, d8, d9⟩ := cells10 (kA.out _ M6.out.bel)
    obtain ⟨bt, hbt⟩ : ∃ x, x = b.attach := ⟨_, rfl⟩
    obtain ⟨bi, hbi⟩ : ∃ x, x = b.input := ⟨_, rfl⟩
    obtain ⟨bo, hbo⟩ : ∃ x, x = b.ordered := ⟨_, rfl⟩
    rw [← hbt] at c0
    replace hbt := hide hbt
    replace hbi := hide hbi
    replace hbo := hide hbo
    go_upto_if 36 with (fail)
    go_cut [5] (fun u wx => u = .pointer (some ⟨g, 0, none⟩) ∧ Hid (Mg W3 g #[.bool (a.attach || b.attach), .int .i64 (if b.attach then b.buffer else a.buffer), (.slice none 0 0), (.slice none 0 0), .bool (a.input || b.input), .bool a.all, (.slice A3 a.region.length q3), .bool (a.ordered || b.ordered), (.slice A4 a.order.length q4), (.slice none 0 0)] (mgRows [] [] a.region a.order [] (.slice none 0 0) (.slice none 0 0) (.slice A3 a.region.length q3) (.slice A4 a.order.length q4) (.slice none 0 0)) wx))
    case first =>
      cases bt
      · go_wp2
        go_meet
        exact ⟨rfl, hide (by rw [show (if b.attach then b.buffer else a.buffer) = a.buffer by rw [← hbt.out]; rfl]; exact M6.out)⟩
      · have M7 := hide (M6.out.set 1 (.int .i64 b.buffer))
        go_wp2
        go_meet
        exact ⟨rfl, hide (by rw [show (if b.attach then b.buffer else a.buffer) = b.buffer by rw [← hbt.out]; rfl]; exact M7.out)⟩
    case rest =>
      obtain ⟨rfl, M7⟩ := hcut
      obtain ⟨W7, hW7⟩ : ∃ W7, W7 = wc := ⟨_, rfl⟩
      subst hW7
      clear m0 m1 m2 m3 m4 m5 m6 m7 m8 m9 f0 f1 f2 f3 f4 f5 f6 f7 f8 f9 c0 c1 c2 c3 c4 c5 c6 c7 c8 c9 d0 d1 d2 d3 d4 d5 d6 d7 d8 d9 M6
      obtain ⟨m0, m1, m2, m3, m4, m5, m6, m7, m8, m9, f0, f1, f2, f3, f4, f5, f6, f7, f8, f9⟩ := M7.out.facts
      obtain ⟨c0, c1, c2, c3, c4, c5, c6, c7, c8, c9⟩ := cells10 (kB.out _ M7.out.bel)
      obtain ⟨d0, d1, d2, d3, d4, d5, d6, d7, d8, d9⟩ := cells10 (kA.out _ M7.out.bel)
      rw [← hbi.out] at c4
      go_upto_if 41 with (fail)
      go_cut [5] (fun u wx => ∃ A5 q5, u = .pointer (some ⟨g, 0, none⟩) ∧ Hid (Mg W3 g #[.bool (a.attach || b.attach), .int .i64 (if b.attach then b.buffer else a.buffer), (.slice none 0 0), (.slice none 0 0), .bool (a.input || b.input), .bool (if b.input then b.all else a.all), (.slice A5 (if b.input then b.region else a.region).length q5), .bool (a.ordered || b.ordered), (.slice A4 a.order.length q4), (.slice none 0 0)] (mgRows [] [] (if b.input then b.region else a.region) a.order [] (.slice none 0 0) (.slice none 0 0) (.slice A5 (if b.input then b.region else a.region).length q5) (.slice A4 a.order.length q4) (.slice none 0 0)) wx))
      case first =>
        cases bi
        · go_wp2
          go_meet
          exact ⟨A3, q3, rfl, hide (by rw [show (if b.input then b.all else a.all) = a.all by rw [← hbi.out]; rfl, show (if b.input then b.region else a.region) = a.region by rw [← hbi.out]; rfl]; exact M7.out)⟩
        · go_wp2
          go_region_held3 (fun w' => w'.cell? ⟨w.heap.size + 1, 5, none⟩ = some (.bool b.all) ∧ w'.cell? ⟨w.heap.size + 1, 6, none⟩ = some (.slice brA b.region.length brc))
            (first | go_keep | exact ⟨(cells10 (kB.out _ M8.out.bel)).2.2.2.2.2.1, (cells10 (kB.out _ M8.out.bel)).2.2.2.2.2.2.1⟩ | exact ⟨(cells10 (kB.out _ (M8.out.set 5 _).bel)).2.2.2.2.2.1, (cells10 (kB.out _ (M8.out.set 5 _).bel)).2.2.2.2.2.2.1⟩ | exact ⟨(cells10 (kB.out _ ((M8.out.set 5 _).set 6 _).bel)).2.2.2.2.2.1, (cells10 (kB.out _ ((M8.out.set 5 _).set 6 _).bel)).2.2.2.2.2.2.1⟩)
            (first
              | (go_at_call 137; refine (d1r.out _ (by first | exact M7.out.bel | exact below_drewN M7.out.bel 1 | exact below_drewN M7.out.bel _)).mono ?_; rintro e w8 ⟨v8, rfl, o8, b8⟩; have M8 := hide (Mg.below (M7.out.drewN 1) b8); obtain ⟨A8, q8, rfl, _⟩ := own_form o8; obtain ⟨m0, m1, m2, m3, m4, m5, m6, m7, m8, m9, f0, f1, f2, f3, f4, f5, f6, f7, f8, f9⟩ := M8.out.facts)
              | (trace_state; fail))
          all_goals
            go_wp2_with fail
            go_meet
            have M9 := ((M8.out.push (r := ⟨30, 4, .slice A8 b.region.length q8, _, _⟩) o8 (by simp)).set 5 (.bool b.all)).set 6 (.slice A8 b.region.length q8)
            have M10 := (M8.out.set 5 (.bool b.all)).set 6 (.slice A8 b.region.length q8)
            obtain ⟨p1, p2, _, p4, p5⟩ := M10.own5
            exact ⟨A8, q8, rfl, hide (by rw [show (if b.input then b.all else a.all) = b.all by rw [← hbi.out]; rfl, show (if b.input then b.region else a.region) = b.region by rw [← hbi.out]; rfl]; have := mgRows_mk (D := []) (Fr := []) (Rg := b.region) M9.m M9.bel M9.hg p1 p2 (M9.rows _ (List.mem_cons_self ..)).1 p4 p5; simpa using this)⟩
      case rest =>
        obtain ⟨A5, q5, rfl, M8⟩ := hcut
        obtain ⟨W8, hW8⟩ : ∃ W8, W8 = wc := ⟨_, rfl⟩
        subst hW8
        clear m0 m1 m2 m3 m4 m5 m6 m7 m8 m9 f0 f1 f2 f3 f4 f5 f6 f7 f8 f9 c0 c1 c2 c3 c4 c5 c6 c7 c8 c9 d0 d1 d2 d3 d4 d5 d6 d7 d8 d9 M7
        obtain ⟨m0, m1, m2, m3, m4, m5, m6, m7, m8, m9, f0, f1, f2, f3, f4, f5, f6, f7, f8, f9⟩ := M8.out.facts
        obtain ⟨c0, c1, c2, c3, c4, c5, c6, c7, c8, c9⟩ := cells10 (kB.out _ M8.out.bel)
        obtain ⟨d0, d1, d2, d3, d4, d5, d6, d7, d8, d9⟩ := cells10 (kA.out _ M8.out.bel)
        rw [← hbo.out] at c7
        go_upto_if 50 with (fail)
        go_cut [5] (fun u wx => ∃ A6 q6, u = .pointer (some ⟨g, 0, none⟩) ∧ Hid (Mg W3 g #[.bool (a.attach || b.attach), .int .i64 (if b.attach then b.buffer else a.buffer), (.slice none 0 0), (.slice none 0 0), .bool (a.input || b.input), .bool (if b.input then b.all else a.all), (.slice A5 (if b.input then b.region else a.region).length q5), .bool (a.ordered || b.ordered), (.slice A6 (if b.ordered then b.order else a.order).length q6), (.slice none 0 0)] (mgRows [] [] (if b.input then b.region else a.region) (if b.ordered then b.order else a.order) [] (.slice none 0 0) (.slice none 0 0) (.slice A5 (if b.input then b.region else a.region).length q5) (.slice A6 (if b.ordered then b.order else a.order).length q6) (.slice none 0 0)) wx))
        case first =>
          cases bo
          · go_wp2
            go_meet
            exact ⟨A4, q4, rfl, hide (by rw [show (if b.ordered then b.order else a.order) = a.order by rw [← hbo.out]; rfl]; exact M8.out)⟩
          · go_wp2_with (go_at_call 138; refine (d1i.out _ M8.out.bel).mono ?_; rintro e w9 ⟨v9, rfl, o9, b9⟩; have M9 := hide (M8.out.below b9); obtain ⟨A9, q9, rfl, _⟩ := own_form o9; obtain ⟨m0, m1, m2, m3, m4, m5, m6, m7, m8, m9, f0, f1, f2, f3, f4, f5, f6, f7, f8, f9⟩ := M9.out.facts)
            go_meet
            have Ma := (M9.out.push (r := ⟨3, 1, .slice A9 b.order.length q9, _, _⟩) o9 (by simp)).set 8 (.slice A9 b.order.length q9)
            have Mb := M9.out.set 8 (.slice A9 b.order.length q9)
            obtain ⟨p1, p2, p3, _, p5⟩ := Mb.own5
            exact ⟨A9, q9, rfl, hide (by rw [show (if b.ordered then b.order else a.order) = b.order by rw [← hbo.out]; rfl]; have := mgRows_mk (D := []) (Fr := []) (O := b.order) Ma.m Ma.bel Ma.hg p1 p2 p3 (Ma.rows _ (List.mem_cons_self ..)).1 p5; simpa using this)⟩
        case rest =>
          obtain ⟨A6, q6, rfl, M9⟩ := hcut
          obtain ⟨W9, hW9⟩ : ∃ W9, W9 = wc := ⟨_, rfl⟩
          subst hW9
          clear m0 m1 m2 m3 m4 m5 m6 m7 m8 m9 f0 f1 f2 f3 f4 f5 f6 f7 f8 f9 c0 c1 c2 c3 c4 c5 c6 c7 c8 c9 d0 d1 d2 d3 d4 d5 d6 d7 d8 d9 M8
          obtain ⟨m0, m1, m2, m3, m4, m5, m6, m7, m8, m9, f0, f1, f2, f3, f4, f5, f6, f7, f8, f9⟩ := M9.out.facts
          obtain ⟨c0, c1, c2, c3, c4, c5, c6, c7, c8, c9⟩ := cells10 (kB.out _ M9.out.bel)
          obtain ⟨d0, d1, d2, d3, d4, d5, d6, d7, d8, d9⟩ := cells10 (kA.out _ M9.out.bel)
          have hz9 := hide M9.out.bel.size
          go_upto_region 8 with (fail)
          go_cut [5] (fun u wx => ∃ A7 q7, u = .pointer (some ⟨g, 0, none⟩) ∧ Hid (Mg W3 g #[.bool (a.attach || b.attach), .int .i64 (if b.attach then b.buffer else a.buffer), (.slice A7 (a.damage ++ b.damage).length q7), (.slice none 0 0), .bool (a.input || b.input), .bool (if b.input then b.all else a.all), (.slice A5 (if b.input then b.region else a.region).length q5), .bool (a.ordered || b.ordered), (.slice A6 (if b.ordered then b.order else a.order).length q6), (.slice none 0 0)] (mgRows (a.damage ++ b.damage) [] (if b.input then b.region else a.region) (if b.ordered then b.order else a.order) [] (.slice A7 (a.damage ++ b.damage).length q7) (.slice none 0 0) (.slice A5 (if b.input then b.region else a.region).length q5) (.slice A6 (if b.ordered then b.order else a.order).length q6) (.slice none 0 0)) wx))
          case first =>
            go_region_law (first
              | (go_simp; go_at_call 137; refine (c1d.out _ (by first | exact M9.out.bel | exact below_drewN M9.out.bel 1 | exact below_drewN M9.out.bel _)).mono ?_; rintro e wA ⟨vA, rfl, oA, bA⟩; have MA := hide (Mg.below (M9.out.drewN 1) bA); obtain ⟨AA, qA, rfl, _⟩ := own_form oA; obtain ⟨m0, m1, m2, m3, m4, m5, m6, m7, m8, m9, f0, f1, f2, f3, f4, f5, f6, f7, f8, f9⟩ := MA.out.facts; obtain ⟨e0, e1, e2, e3, e4, e5, e6, e7, e8, e9⟩ := cells10 (kB.out _ MA.out.bel))
              | (refine step_append_rd rfl _ _ 31 rfl W9.heap.size 30 ir _ 4 32 Tryz.underlying31 hir hirz hir1 hir2 rfl (by decide) _ _ _ (by first | rfl | simp [Act.eval, Act.put]) oA bdA b.damage.length bdc _ (by first | rfl | simp [Act.eval, Act.put]) (q1.out _ MA.out.bel) (oneR b.damage) (by unfold maxLen; omega) (by omega) bA.size ?_; intro vB wB oB gB; have MB := hide (Mg.below (M9.out.drewN 1) (bA.grown gB bA.size (fun k hk => (oA.lt k hk).1))); replace oB := own_le oB hz9.out; obtain ⟨AB, qB, rfl, _⟩ := own_form oB; obtain ⟨m0, m1, m2, m3, m4, m5, m6, m7, m8, m9, f0, f1, f2, f3, f4, f5, f6, f7, f8, f9⟩ := MB.out.facts))
            all_goals
              go_wp2_with fail
              go_meet
              have Ma := (MB.out.push (r := ⟨30, 4, .slice AB (a.damage.length + b.damage.length) qB, _, _⟩) oB (by simp)).set 2 (.slice AB (a.damage.length + b.damage.length) qB)
              have Mb := MB.out.set 2 (.slice AB (a.damage.length + b.damage.length) qB)
              obtain ⟨_, p2, p3, p4, p5⟩ := Mb.own5
              exact ⟨AB, qB, rfl, hide (by have := mgRows_mk (D := a.damage ++ b.damage) (Fr := []) Ma.m Ma.bel Ma.hg (by have := (Ma.rows _ (List.mem_cons_self ..)).1; rw [List.length_append, List.flatMap_append]; exact this) p2 p3 p4 p5; simpa using this)⟩
          case rest =>
            obtain ⟨A7, q7, rfl, MC⟩ := hcut
            obtain ⟨WC, hWC⟩ : ∃ WC, WC = wc := ⟨_, rfl⟩
            subst hWC
            clear m0 m1 m2 m3 m4 m5 m6 m7 m8 m9 f0 f1 f2 f3 f4 f5 f6 f7 f8 f9 c0 c1 c2 c3 c4 c5 c6 c7 c8 c9 d0 d1 d2 d3 d4 d5 d6 d7 d8 d9 M9
            obtain ⟨m0, m1, m2, m3, m4, m5, m6, m7, m8, m9, f0, f1, f2, f3, f4, f5, f6, f7, f8, f9⟩ := MC.out.facts
            obtain ⟨c0, c1, c2, c3, c4, c5, c6, c7, c8, c9⟩ := cells10 (kB.out _ MC.out.bel)
            obtain ⟨d0, d1, d2, d3, d4, d5, d6, d7, d8, d9⟩ := cells10 (kA.out _ MC.out.bel)
            have hzC := hide MC.out.bel.size
            go_upto_region 9 with (fail)
            go_cut [5] (fun u wx => ∃ Af qf, u = .pointer (some ⟨g, 0, none⟩) ∧ Hid (Mg W3 g #[.bool (a.attach || b.attach), .int .i64 (if b.attach then b.buffer else a.buffer), (.slice A7 (a.damage ++ b.damage).length q7), (.slice Af (a.frames ++ b.frames).length qf), .bool (a.input || b.input), .bool (if b.input then b.all else a.all), (.slice A5 (if b.input then b.region else a.region).length q5), .bool (a.ordered || b.ordered), (.slice A6 (if b.ordered then b.order else a.order).length q6), (.slice none 0 0)] (mgRows (a.damage ++ b.damage) (a.frames ++ b.frames) (if b.input then b.region else a.region) (if b.ordered then b.order else a.order) [] (.slice A7 (a.damage ++ b.damage).length q7) (.slice Af (a.frames ++ b.frames).length qf) (.slice A5 (if b.input then b.region else a.region).length q5) (.slice A6 (if b.ordered then b.order else a.order).length q6) (.slice none 0 0)) wx))
            case first =>
              go_region_law (first
                | (go_simp; go_at_call 138; refine (c1f.out _ (by first | exact MC.out.bel | exact below_drewN MC.out.bel 1 | exact below_drewN MC.out.bel _)).mono ?_; rintro e wA ⟨vA, rfl, oA, bA⟩; have MA := hide (Mg.below (MC.out.drewN 1) bA); obtain ⟨AA, qA, rfl, _⟩ := own_form oA; obtain ⟨m0, m1, m2, m3, m4, m5, m6, m7, m8, m9, f0, f1, f2, f3, f4, f5, f6, f7, f8, f9⟩ := MA.out.facts; obtain ⟨e0, e1, e2, e3, e4, e5, e6, e7, e8, e9⟩ := cells10 (kB.out _ MA.out.bel))
                | (refine step_append_rd rfl _ _ 38 rfl WC.heap.size 3 ii _ 1 8 Tryz.underlying38 hii hiiz hii1 hii2 rfl (by decide) _ _ _ (by first | rfl | simp [Act.eval, Act.put]) oA bfA b.frames.length bfc _ (by first | rfl | simp [Act.eval, Act.put]) (q2.out _ MA.out.bel) (oneI b.frames) (by unfold maxLen; omega) (by omega) bA.size ?_; intro vB wB oB gB; have MB := hide (Mg.below (MC.out.drewN 1) (bA.grown gB bA.size (fun k hk => (oA.lt k hk).1))); replace oB := own_le oB hzC.out; obtain ⟨AB, qB, rfl, _⟩ := own_form oB; obtain ⟨m0, m1, m2, m3, m4, m5, m6, m7, m8, m9, f0, f1, f2, f3, f4, f5, f6, f7, f8, f9⟩ := MB.out.facts))
              all_goals
                go_wp2_with fail
                go_meet
                have Ma := (MB.out.push (r := ⟨3, 1, .slice AB (a.frames.length + b.frames.length) qB, _, _⟩) oB (by simp)).set 3 (.slice AB (a.frames.length + b.frames.length) qB)
                have Mb := MB.out.set 3 (.slice AB (a.frames.length + b.frames.length) qB)
                obtain ⟨p1, _, p3, p4, p5⟩ := Mb.own5
                exact ⟨AB, qB, rfl, hide (by have := mgRows_mk (D := a.damage ++ b.damage) (Fr := a.frames ++ b.frames) Ma.m Ma.bel Ma.hg p1 (by have := (Ma.rows _ (List.mem_cons_self ..)).1; rw [List.length_append, List.map_append]; exact this) p3 p4 p5; simpa using this)⟩
            case rest =>
              obtain ⟨Af, qf, rfl, MD⟩ := hcut
              obtain ⟨WD, hWD⟩ : ∃ WD, WD = wc := ⟨_, rfl⟩
              subst hWD
              clear m0 m1 m2 m3 m4 m5 m6 m7 m8 m9 f0 f1 f2 f3 f4 f5 f6 f7 f8 f9 c0 c1 c2 c3 c4 c5 c6 c7 c8 c9 d0 d1 d2 d3 d4 d5 d6 d7 d8 d9 MC
              obtain ⟨m0, m1, m2, m3, m4, m5, m6, m7, m8, m9, f0, f1, f2, f3, f4, f5, f6, f7, f8, f9⟩ := MD.out.facts
              obtain ⟨c0, c1, c2, c3, c4, c5, c6, c7, c8, c9⟩ := cells10 (kB.out _ MD.out.bel)
              obtain ⟨d0, d1, d2, d3, d4, d5, d6, d7, d8, d9⟩ := cells10 (kA.out _ MD.out.bel)
              go_upto_region 10 with (fail)
              go_cut [5] (fun u wx => ∃ v1 v2 vr vo v5, u = .pointer (some ⟨g, 0, none⟩) ∧ Hid (Mg W3 g #[.bool S.attach, .int .i64 S.buffer, v1, v2, .bool S.input, .bool S.all, vr, .bool S.ordered, vo, v5] (mgRows S.damage S.frames S.region S.order S.places v1 v2 vr vo v5) wx))
              case first =>
                go_wp2_with (go_at_call 139; refine (cpl.out _ MD.out.bel).mono ?_; rintro e wE ⟨vE, rfl, oE, bE⟩; have ME := hide (MD.out.below bE); obtain ⟨AE, qE, rfl, _⟩ := own_form oE; obtain ⟨m0, m1, m2, m3, m4, m5, m6, m7, m8, m9, f0, f1, f2, f3, f4, f5, f6, f7, f8, f9⟩ := ME.out.facts)
                go_meet
                have Ma := (ME.out.push (r := ⟨62, 3, .slice AE (putsP a.places b.places).length qE, _, _⟩) oE (by simp)).set 9 (.slice AE (putsP a.places b.places).length qE)
                have Mb := ME.out.set 9 (.slice AE (putsP a.places b.places).length qE)
                obtain ⟨p1, p2, p3, p4, _⟩ := Mb.own5
                exact ⟨_, _, _, _, _, rfl, hide (by rw [hS.out]; have := mgRows_mk (Pl := putsP a.places b.places) Ma.m Ma.bel Ma.hg p1 p2 p3 p4 (Ma.rows _ (List.mem_cons_self ..)).1; exact (show Mg W3 g #[.bool (a.attach || b.attach), .int .i64 (if b.attach then b.buffer else a.buffer), (.slice A7 (a.damage ++ b.damage).length q7), (.slice Af (a.frames ++ b.frames).length qf), .bool (a.input || b.input), .bool (if b.input then b.all else a.all), (.slice A5 (if b.input then b.region else a.region).length q5), .bool (a.ordered || b.ordered), (.slice A6 (if b.ordered then b.order else a.order).length q6), (.slice AE (putsP a.places b.places).length qE)] (mgRows (a.damage ++ b.damage) (a.frames ++ b.frames) (if b.input then b.region else a.region) (if b.ordered then b.order else a.order) (putsP a.places b.places) (.slice A7 (a.damage ++ b.damage).length q7) (.slice Af (a.frames ++ b.frames).length qf) (.slice A5 (if b.input then b.region else a.region).length q5) (.slice A6 (if b.ordered then b.order else a.order).length q6) (.slice AE (putsP a.places b.places).length qE)) _ by simpa using this))⟩
              case rest =>
                obtain ⟨v1, v2, vr, vo, v5, rfl, M9⟩ := hcut
                obtain ⟨W9, hW9⟩ : ∃ W9, W9 = wc := ⟨_, rfl⟩
                subst hW9
                clear m0 m1 m2 m3 m4 m5 m6 m7 m8 m9 f0 f1 f2 f3 f4 f5 f6 f7 f8 f9 c0 c1 c2 c3 c4 c5 c6 c7 c8 c9 d0 d1 d2 d3 d4 d5 d6 d7 d8 d9 MD
                obtain ⟨o1, o2, o3, o4, o5⟩ := M9.out.own5
                obtain ⟨A1, q1, rfl, _⟩ := own_form o1
                obtain ⟨A2, q2, rfl, _⟩ := own_form o2
                obtain ⟨A3, q3, rfl, _⟩ := own_form o3
                obtain ⟨A4, q4, rfl, _⟩ := own_form o4
                obtain ⟨A5, q5, rfl, _⟩ := own_form o5
                obtain ⟨m0, m1, m2, m3, m4, m5, m6, m7, m8, m9, _⟩ := M9.out.facts
                have h4 := hb4.out _ M9.out.bel
                obtain ⟨r0, r1, r2, r3, r4, r5, r6, r7, r8, r9⟩ := cells10 h4
                have g0 := frozen_of_row _ _ 0 _ _ h4
                have g1 := frozen_of_row _ _ 1 _ _ h4
                have g2 := frozen_of_row _ _ 2 _ _ h4
                have g3 := frozen_of_row _ _ 3 _ _ h4
                have g4 := frozen_of_row _ _ 4 _ _ h4
                have g5 := frozen_of_row _ _ 5 _ _ h4
                have g6 := frozen_of_row _ _ 6 _ _ h4
                have g7 := frozen_of_row _ _ 7 _ _ h4
                have g8 := frozen_of_row _ _ 8 _ _ h4
                have g9 := frozen_of_row _ _ 9 _ _ h4
                replace o1 := hide o1
                replace o2 := hide o2
                replace o3 := hide o3
                replace o4 := hide o4
                replace o5 := hide o5
                replace h4 := hide h4
                have hR := hide (set10 h4.out (.bool S.attach) (.int .i64 S.buffer) (.slice A1 S.damage.length q1) (.slice A2 S.frames.length q2) (.bool S.input) (.bool S.all) (.slice A3 S.region.length q3) (.bool S.ordered) (.slice A4 S.order.length q4) (.slice A5 S.places.length q5))
                go_wp2
                try simp only [Exit.inBlock, Exit.then]
                refine bodyPost_ret (results_cell_row rfl _ _ (w.heap.size + 2) 41 #[.bool S.attach, .int .i64 S.buffer, .slice A1 S.damage.length q1, .slice A2 S.frames.length q2, .bool S.input, .bool S.all, .slice A3 S.region.length q3, .bool S.ordered, .slice A4 S.order.length q4, .slice A5 S.places.length q5] (0, 0) _ rfl hR.out Tryz.underlying41 rfl (by kernel_rfl)) rfl ?_
                have hw : w.heap.size ≤ w.heap.size + 2 := by omega
                have hbf := below10 (hbel.out.trans (M9.out.bel.mono hbel.out.size)) hw (.bool S.attach) (.int .i64 S.buffer) (.slice A1 S.damage.length q1) (.slice A2 S.frames.length q2) (.bool S.input) (.bool S.all) (.slice A3 S.region.length q3) (.bool S.ordered) (.slice A4 S.order.length q4) (.slice A5 S.places.length q5)
                have hlow := hbel.out.size
                have key : ∀ (base : Nat) (e : TypeId) (sz n : Nat) (v : Value) (cs : List Value) (W : World) (c : Nat) (u : Value), w.heap.size + 3 ≤ base → W.ownsRow base e sz v n cs → (W.setCell ⟨w.heap.size + 2, c, none⟩ u).ownsRow base e sz v n cs := fun base e sz n v cs W c u hb h => own_keepF h fun b hb' => heap_setCell_other W _ b _ (by have := (h.lt b hb').1; show b ≠ w.heap.size + 2; omega)
                have k10 : ∀ (e : TypeId) (sz n : Nat) (v : Value) (cs : List Value), W9.ownsRow W3.heap.size e sz v n cs → ((((((((((W9.setCell ⟨w.heap.size + 2, 0, none⟩ (.bool S.attach)).setCell ⟨w.heap.size + 2, 1, none⟩ (.int .i64 S.buffer)).setCell ⟨w.heap.size + 2, 2, none⟩ (.slice A1 S.damage.length q1)).setCell ⟨w.heap.size + 2, 3, none⟩ (.slice A2 S.frames.length q2)).setCell ⟨w.heap.size + 2, 4, none⟩ (.bool S.input)).setCell ⟨w.heap.size + 2, 5, none⟩ (.bool S.all)).setCell ⟨w.heap.size + 2, 6, none⟩ (.slice A3 S.region.length q3)).setCell ⟨w.heap.size + 2, 7, none⟩ (.bool S.ordered)).setCell ⟨w.heap.size + 2, 8, none⟩ (.slice A4 S.order.length q4)).setCell ⟨w.heap.size + 2, 9, none⟩ (.slice A5 S.places.length q5)).ownsRow w.heap.size e sz v n cs := fun e sz n v cs h => by
                  have hz : w.heap.size + 3 ≤ W3.heap.size := by rw [hsz.out]; exact Nat.le_refl _
                  refine own_le ?_ hlow
                  iterate 10 refine key _ _ _ _ _ _ _ _ _ hz ?_
                  exact h
                exact ⟨⟨_, _, _, _, _⟩, rfl, ⟨k10 _ _ _ _ _ o1.out, k10 _ _ _ _ _ o2.out, k10 _ _ _ _ _ o3.out, k10 _ _ _ _ _ o4.out, k10 _ _ _ _ _ o5.out⟩, hbf⟩

set_option maxRecDepth 100000 in
set_option maxHeartbeats 4000000 in
theorem gApply15_any (w : World) (va vb : StV) (a b : St) (ha : StRd w va a) (hb : StRd w vb b) (hf : MergeFits a b) : Calls Tryz.prog 112 #[stVal a va, stVal b vb] w (BigP w (applyT a b)) := by
  obtain ⟨A1, c1, A2, c2, A3, c3, A4, c4, A5, c5, rfl⟩ := ha.forms
  obtain ⟨B1, d1, B2, d2, B3, d3, B4, d4, B5, d5, rfl⟩ := hb.forms
  unfold stVal
  dsimp only
  have hb3 : ∀ o o' o'', Below w.heap.size w (((w.alloc o).alloc o').alloc o'') := fun o o' o'' => (((Below.refl _ w).alloc (Nat.le_refl _) o).alloc (by simp) o').alloc (by simp; omega) o''
  have cM := hide (fun o o' o'' => gMerge15_any (((w.alloc o).alloc o').alloc o'') _ _ a b (ha.below (hb3 o o' o'') (Nat.le_refl _)) (hb.below (hb3 o o' o'') (Nat.le_refl _)) hf)
  unfold stVal at cM
  dsimp only at cM
  have hR := fun o o' o'' => heap_alloc_new ((w.alloc o).alloc o') o''
  simp only [World.size_alloc] at hR
  replace hb3 := hide hb3
  replace hR := hide hR
  obtain ⟨S, hS⟩ : ∃ S, S = mergeT a b := ⟨_, rfl⟩
  have hA : applyT a b = { S with attach := false, damage := [], input := false, ordered := false } := by rw [hS]; rfl
  rw [← hS] at cM
  rw [hA]
  clear ha hb hf hS hA
  go_enter Tryz.func112, Tryz.ntmps112
  go_wp2_with fail
  refine (cM.out _ _ _).mono ?_
  rintro e w1 ⟨v1, rfl, o1, b1⟩
  have h4 := hide ((b1.block (w.heap.size + 1 + 1) (by simp)).trans (hR.out _ _ _))
  obtain ⟨r0, r1, r2, r3, r4, r5, r6, r7, r8, r9⟩ := cells10 h4.out
  have g0 := frozen_of_row _ _ 0 _ _ h4.out
  have g1 := frozen_of_row _ _ 1 _ _ h4.out
  have g2 := frozen_of_row _ _ 2 _ _ h4.out
  have g3 := frozen_of_row _ _ 3 _ _ h4.out
  have g4 := frozen_of_row _ _ 4 _ _ h4.out
  have g5 := frozen_of_row _ _ 5 _ _ h4.out
  have g6 := frozen_of_row _ _ 6 _ _ h4.out
  have g7 := frozen_of_row _ _ 7 _ _ h4.out
  have g8 := frozen_of_row _ _ 8 _ _ h4.out
  have g9 := frozen_of_row _ _ 9 _ _ h4.out
  obtain ⟨E1, e1, E2, e2, E3, e3, E4, e4, E5, e5, rfl⟩ := o1.forms
  have hz := b1.size
  simp only [World.size_alloc] at hz
  have hne : w.heap.size + 1 + 1 < w1.heap.size := by omega
  replace o1 := hide o1
  replace b1 := hide b1
  unfold stVal
  dsimp only
  have hRR := hide (set10 h4.out (.bool false) (.int .i64 S.buffer) (.slice none 0 0) (.slice E2 S.frames.length e2) (.bool false) (.bool S.all) (.slice E3 S.region.length e3) (.bool false) (.slice E4 S.order.length e4) (.slice E5 S.places.length e5))
  go_wp2
  try simp only [Exit.inBlock, Exit.then]
  refine bodyPost_ret (results_cell_row rfl _ _ (w.heap.size + 2) 41 #[.bool false, .int .i64 S.buffer, .slice none 0 0, .slice E2 S.frames.length e2, .bool false, .bool S.all, .slice E3 S.region.length e3, .bool false, .slice E4 S.order.length e4, .slice E5 S.places.length e5] (0, 0) _ rfl ((Below.heap_alloc _ _ _ (lt_of_block hRR.out)).trans hRR.out) Tryz.underlying41 rfl (by kernel_rfl)) rfl ?_
  have hbb := b1.out
  have hoo := o1.out
  simp only [World.size_alloc] at hbb hoo
  refine ⟨⟨_, _, _, _, _⟩, rfl, ⟨World.ownsRow_nil _ _ _ _, ?_, ?_, ?_, ?_⟩, Below.alloc (below10 ((hb3.out _ _ _).trans (hbb.mono (by omega))) (Nat.le_add_right w.heap.size 2) _ _ _ _ _ _ _ _ _ _) ?_ _⟩
  iterate 4
    refine World.ownsRow.alloc ?_ _
    refine own_le ?_ (Nat.le_add_right w.heap.size 3)
    iterate 10 refine own_setOther ?_ (Nat.lt_succ_self _) _
    first
      | exact hoo.f
      | exact hoo.r
      | exact hoo.o
      | exact hoo.p
  simp [World.setCell]
  omega
end Go.Proofs.YthkjicnnepkghaaGreatDoor
