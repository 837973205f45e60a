/-
  The law PoolGrows, as a walk.
-/
import Derived.Test.YtjhfcnkmfbpjmaaDoorStore2
import Derived.Test.YtjhfcnkmfbpjmaaDoorLaw11
import Derived.Test.YtjhfcnkmfbpjmaaDoorLaw00
namespace Go.Proofs.YtjhfcnkmfbpjmaaDoor
open Go.RowKit

/-- A store that a call has laid since W. -/
structure StoL (W : World) (s pm bm n : Nat) (P : Int → Option (Int × Int)) (B : Int → Option (PInfo × Bool)) (K : Nat → Option Obj) (w : World) : Prop where
  st : StoreAt w s pm bm n P B
  below : Below W.heap.size W w
  sge : W.heap.size ≤ s
  pge : W.heap.size ≤ pm
  bge : W.heap.size ≤ bm
  ex : ∀ b o, K b = some o → w.heap[b]? = some o ∧ b ≠ pm ∧ b ≠ bm

/-- One block more that lies there. -/
def exK (K : Nat → Option Obj) (b : Nat) (o : Obj) : Nat → Option Obj := fun i => if i = b then some o else K i

section
variable {W w w' : World} {s pm bm n : Nat} {P P' : Int → Option (Int × Int)} {B B' : Int → Option (PInfo × Bool)} {K : Nat → Option Obj} {ae : Nat → Addr}
theorem StoL.out (h : StoL W s pm bm n P B K w) (ho : StoreOut w s pm bm n P' B' w') : StoL W s pm bm (n + 1) P' B' K w' :=
  ⟨ho.1, h.below.trans (ho.2.below h.below.size fun b hb => by rcases hb with rfl | rfl; exact h.pge; exact h.bge), h.sge, h.pge, h.bge, fun b o hb => ⟨(ho.2.block b (lt_of_block (h.ex b o hb).1) (by have := (h.ex b o hb).2; rintro (e | e); exact this.1 e; exact this.2 e)).trans (h.ex b o hb).1, (h.ex b o hb).2⟩⟩
theorem StoL.keep (h : StoL W s pm bm n P B K w) (hb : Below w.heap.size w w') : StoL W s pm bm n P B K w' :=
  ⟨h.st.below hb, h.below.trans (hb.mono h.below.size), h.sge, h.pge, h.bge, fun b o hb2 => ⟨(hb.block b (lt_of_block (h.ex b o hb2).1)).trans (h.ex b o hb2).1, (h.ex b o hb2).2⟩⟩

theorem StoL.add (h : StoL W s pm bm n P B K w) (o : Obj) : StoL W s pm bm n P B (exK K w.heap.size o) (w.alloc o) := by
  have h2 := h.keep (below1 w o)
  refine ⟨h2.st, h2.below, h2.sge, h2.pge, h2.bge, fun b o' hb => ?_⟩
  unfold exK at hb
  by_cases e : b = w.heap.size
  · subst e
    rw [if_pos rfl] at hb
    cases hb
    have := h.st.lt
    exact ⟨heap_alloc_new _ _, by omega, by omega⟩
  · rw [if_neg e] at hb
    exact h2.ex b o' hb
theorem StoL.at (h : StoL W s pm bm n P B K w) {b : Nat} {cs : Array Value} {t : TypeId} (hb : K b = some (.cells cs t (0, 0))) : w.heap[b]? = some (.cells cs t (0, 0)) := (h.ex b _ hb).1
theorem qNew (W : World) : Calls Tryd.prog 33 #[] W fun e w' => ∃ s pm bm, e = .returned (.pointer (some ⟨s, 0, none⟩)) ∧ StoL W s pm bm 0 (fun _ => none) (fun _ => none) (fun _ => none) w' := by
  refine (pNew_any W).mono ?_
  rintro e w' ⟨s, pm, bm, rfl, ht, hb, h1, h2, h3⟩
  exact ⟨s, pm, bm, rfl, ht, hb, h1, h2, h3, fun b o h => by cases h⟩
theorem qPool (hE : Errs W.heap.size W ae) (h : StoL W s pm bm n P B K w) (id key size mem : Int) (hid : I64 id) (hn : n ≤ 1000000) :
    Calls Tryd.prog 34 #[.pointer (some ⟨s, 0, none⟩), .int .i64 id, .int .i64 key, .int .i64 size, .int .i64 mem] w fun e w' => e = .returned (errV ae (poolK P id size mem)) ∧ StoL W s pm bm (n + 1) (poolS P id key size mem) B K w' :=
  (pPool_any w (hE.below h.below) s pm bm n P B id key size mem hid h.st hn).mono fun _ _ ⟨he, ho⟩ => ⟨he, h.out ho⟩
theorem qResize (hE : Errs W.heap.size W ae) (h : StoL W s pm bm n P B K w) (id size mem : Int) (hid : I64 id) (hn : n ≤ 1000000) :
    Calls Tryd.prog 36 #[.pointer (some ⟨s, 0, none⟩), .int .i64 id, .int .i64 size, .int .i64 mem] w fun e w' => e = .returned (errV ae (resK P id size mem)) ∧ StoL W s pm bm (n + 1) (resS P id size mem) B K w' :=
  (pResize_any w (hE.below h.below) s pm bm n P B id size mem hid h.st hn).mono fun _ _ ⟨he, ho⟩ => ⟨he, h.out ho⟩
theorem qSize (h : StoL W s pm bm n P B K w) (id : Int) (hid : I64 id) :
    Calls Tryd.prog 37 #[.pointer (some ⟨s, 0, none⟩), .int .i64 id] w fun e w' => e = .returned (.int .i64 (sizeI P id)) ∧ StoL W s pm bm n P B K w' :=
  (pSize_any w s pm bm n P B id hid h.st).mono fun _ _ ⟨he, ho⟩ => ⟨he, h.keep ho⟩
theorem qDropPool (hE : Errs W.heap.size W ae) (h : StoL W s pm bm n P B K w) (id : Int) (hid : I64 id) :
    Calls Tryd.prog 39 #[.pointer (some ⟨s, 0, none⟩), .int .i64 id] w fun e w' => e = .returned (errV ae (dpolK P id)) ∧ StoL W s pm bm (n + 1) (dpolS P id) B K w' :=
  (pDropPool_any w (hE.below h.below) s pm bm n P B id hid h.st).mono fun _ _ ⟨he, ho⟩ => ⟨he, h.out ho⟩
theorem qBuffer (hE : Errs W.heap.size W ae) (h : StoL W s pm bm n P B K w) (id pool off iw ih stride format : Int) (hid : I64 id) (hpl : I64 pool) (hst0 : I64 stride) (hz : ∀ x, P pool = some x → I64 x.2) (hn : n ≤ 1000000) :
    Calls Tryd.prog 35 #[.pointer (some ⟨s, 0, none⟩), .int .i64 id, .int .i64 pool, .int .i64 off, .int .i64 iw, .int .i64 ih, .int .i64 stride, .int .i64 format] w
      fun e w' => e = .returned (errV ae (bufK P B id pool off iw ih stride format)) ∧ StoL W s pm bm (n + 1) P (bufS P B id pool off iw ih stride format) K w' :=
  (pBuffer_any w (hE.below h.below) s pm bm n P B id pool off iw ih stride format hid hpl hst0 hz h.st hn).mono fun _ _ ⟨he, ho⟩ => ⟨he, h.out ho⟩
theorem qInfo (h : StoL W s pm bm n P B K w) (id : Int) (hid : I64 id) :
    Calls Tryd.prog 38 #[.pointer (some ⟨s, 0, none⟩), .int .i64 id] w fun e w' => e = .returned (.tuple #[.agg (infA (bufD B id).1), .bool (B id).isSome]) ∧ StoL W s pm bm n P B K w' :=
  (pInfo_any w s pm bm n P B id hid h.st).mono fun _ _ ⟨he, ho⟩ => ⟨he, h.keep ho⟩
theorem qDropBuffer (hE : Errs W.heap.size W ae) (h : StoL W s pm bm n P B K w) (id : Int) (hid : I64 id) (hn : n ≤ 1000000) :
    Calls Tryd.prog 41 #[.pointer (some ⟨s, 0, none⟩), .int .i64 id] w fun e w' => e = .returned (errV ae (dbufK B id)) ∧ StoL W s pm bm (n + 1) P (dbufS B id) K w' :=
  (pDropBuffer_any w (hE.below h.below) s pm bm n P B id hid h.st hn).mono fun _ _ ⟨he, ho⟩ => ⟨he, h.out ho⟩
theorem qForget (h : StoL W s pm bm n P B K w) (id : Int) (hid : I64 id) :
    Calls Tryd.prog 46 #[.pointer (some ⟨s, 0, none⟩), .int .i64 id] w fun e w' => e = .returned (.tuple #[]) ∧ StoL W s pm bm (n + 1) P (setF B id none) K w' :=
  (pForget_any w s pm bm n P B id hid h.st).mono fun _ _ ⟨he, ho⟩ => ⟨he, h.out ho⟩
theorem qLive (h : StoL W s pm bm n P B K w) (id : Int) (hid : I64 id) :
    Calls Tryd.prog 40 #[.pointer (some ⟨s, 0, none⟩), .int .i64 id] w fun e w' => e = .returned (.bool (liveB B id)) ∧ StoL W s pm bm n P B K w' :=
  (pLive_any w s pm bm n P B id hid h.st).mono fun _ _ ⟨he, ho⟩ => ⟨he, h.keep ho⟩
end

theorem resS_same {P : Int → Option (Int × Int)} {id size mem : Int} {k : Nat} (h : resK P id size mem = k + 1) : resS P id size mem = P := by unfold resS; rw [if_neg (by rw [h]; omega)]
theorem dpolK_there {P : Int → Option (Int × Int)} {id : Int} {x : Int × Int} (h : P id = some x) : dpolK P id = 0 := by simp [dpolK, h]
theorem dpolS_there {P : Int → Option (Int × Int)} {id : Int} {x : Int × Int} (h : P id = some x) : dpolS P id = setF P id none := by simp [dpolS, h]


set_option maxRecDepth 100000 in
set_option maxHeartbeats 2000000 in
theorem poolGrows_any (W : World) {ae : Nat → Addr} (hE : Errs W.heap.size W ae) (a b : Int) :
    Calls Tryd.prog 10 #[.int .i64 a, .int .i64 b] W fun e w' => e = .returned (.bool true) ∧ Below W.heap.size W w' := by
  have a1 := Int.emod_nonneg a (show (1000 : Int) ≠ 0 by decide)
  have a2 := Int.emod_lt_of_pos a (show (0 : Int) < 1000 by decide)
  have hPa := fun w => place_any a 1000 w (by omega) (by omega)
  obtain ⟨y, hy⟩ : ∃ y, y = a % 1000 := ⟨_, rfl⟩
  rw [← hy] at a1 a2 hPa
  have b1 := Int.emod_nonneg b (show (1000 : Int) ≠ 0 by decide)
  have b2 := Int.emod_lt_of_pos b (show (0 : Int) < 1000 by decide)
  have hPb := fun w => place_any b 1000 w (by omega) (by omega)
  obtain ⟨z, hz⟩ : ∃ z, z = b % 1000 := ⟨_, rfl⟩
  rw [← hz] at b1 b2 hPb
  replace hPa := hide hPa
  replace hPb := hide hPb
  clear hy hz
  have hN := hide (qNew W)
  replace hE := hide hE
  have i1 : I64 1 := by unfold I64; omega
  have i2 : I64 2 := by unfold I64; omega
  have i3 : I64 3 := by unfold I64; omega
  have i4 : I64 4 := by unfold I64; omega
  have i8 : I64 8 := by unfold I64; omega
  go_enter Tryd.func10, Tryd.ntmps10
  go_wp2_with fail
  refine (hPa.out _).mono ?_
  rintro e w' ⟨rfl, rfl⟩
  go_wp2_with fail
  refine (hPb.out _).mono ?_
  rintro e w' ⟨rfl, rfl⟩
  go_wp2_with fail
  refine (hN.out).mono ?_
  rintro e w1 ⟨s, pm, bm, rfl, hs⟩
  have kk : poolK (fun _ => none) 1 (16 + y) 5000 = 0 := by unfold poolK; rw [if_neg (by simp), if_neg (by omega), if_neg (by omega)]
  have ks : poolS (fun _ => none) 1 9 (16 + y) 5000 = setF (fun _ => none) 1 (some (9, 16 + y)) := by unfold poolS; rw [if_pos kk]
  have hq := qPool hE.out hs 1 9 (16 + y) 5000 i1 (by omega)
  rw [kk] at hq
  try dsimp only [errV] at hq
  replace hq := hide hq
  clear hs
  go_wp2_with fail
  refine (hq.out).mono ?_
  clear hq
  rintro e w2 ⟨rfl, hs⟩
  rw [ks] at hs
  have p1 : setF (fun _ => none) 1 (some ((9 : Int), 16 + y)) 1 = some (9, 16 + y) := setF_same
  generalize setF (fun _ => none) 1 (some ((9 : Int), 16 + y)) = P1 at hs p1
  have d1 : polD P1 1 = (9, 16 + y) := by unfold polD; rw [p1]; rfl
  have r1 : roomK (16 + y) 0 2 2 8 0 = 0 := roomK_good (.inl rfl) ⟨by omega, by omega, by omega, by omega, by omega, by omega, by omega⟩
  clear kk ks
  have kk : bufK P1 (fun _ => none) 2 1 0 2 2 8 0 = 0 := by rw [bufK_room p1 rfl]; exact r1
  have ks : bufS P1 (fun _ => none) 2 1 0 2 2 8 0 = setF (fun _ => none) 2 (some (⟨9, 0, 2, 2, 8, 0⟩, true)) := by unfold bufS; rw [if_pos kk, d1]
  have hz1 : ∀ x, P1 1 = some x → I64 x.2 := fun x hx => by rw [p1] at hx; cases hx; unfold I64; dsimp only; omega
  have hq := qBuffer hE.out hs 2 1 0 2 2 8 0 i2 i1 i8 hz1 (by omega)
  rw [kk] at hq
  try dsimp only [errV] at hq
  replace hq := hide hq
  clear hs
  go_wp2_with fail
  refine (hq.out).mono ?_
  clear hq
  rintro e w3 ⟨rfl, hs⟩
  rw [ks] at hs
  have q1 : setF (fun _ => none) 2 (some ((⟨9, 0, 2, 2, 8, 0⟩ : PInfo), true)) 2 = some (⟨9, 0, 2, 2, 8, 0⟩, true) := setF_same
  generalize setF (fun _ => none) 2 (some ((⟨9, 0, 2, 2, 8, 0⟩ : PInfo), true)) = B1 at hs q1
  clear r1 kk ks hz1
  rcases (show z < y ∨ y ≤ z by omega) with hyz | hyz
  · have kk : resK P1 1 (16 + z) 5000 = 8 := resK_big p1 (.inl (by dsimp only; omega))
    have ks : resS P1 1 (16 + z) 5000 = P1 := by unfold resS; rw [if_neg (by rw [kk]; decide)]
    have hq := qResize hE.out hs 1 (16 + z) 5000 i1 (by omega)
    rw [kk] at hq
    try dsimp only [errV] at hq
    replace hq := hide hq
    clear hs
    go_wp2_with fail
    refine (hq.out).mono ?_
    clear hq
    rintro e w4 ⟨rfl, hs⟩
    rw [ks] at hs
    clear kk ks
    obtain ⟨x, hx⟩ : ∃ x, x = y := ⟨_, rfl⟩
    have hmax : max (16 + y) (16 + z) = 16 + x := by omega
    rw [← hx] at p1 d1
    have hx1 : x < 1000 := by omega
    have hx2 : 0 ≤ x := by omega
    clear hx
    have hq := qSize hs 1 i1
    rw [(sizeI_some p1)] at hq
    try dsimp only [errV] at hq
    replace hq := hide hq
    clear hs
    go_wp2_with fail
    refine (hq.out).mono ?_
    clear hq
    rintro e w5 ⟨rfl, hs⟩
    have kk : resK _ 1 6000 5000 = 9 := resK_mem p1 (by dsimp only; omega) (by omega)
    have ks := resS_same kk
    have hq := qResize hE.out hs 1 6000 5000 i1 (by omega)
    rw [kk] at hq
    try dsimp only [errV] at hq
    replace hq := hide hq
    clear hs
    go_wp2_with fail
    refine (hq.out).mono ?_
    clear hq
    rintro e w6 ⟨rfl, hs⟩
    rw [ks] at hs
    clear kk ks
    have qd : bufD B1 2 = (⟨9, 0, 2, 2, 8, 0⟩, true) := by unfold bufD; rw [q1]; rfl
    have qs : (B1 2).isSome = true := by rw [q1]; rfl
    have hq := qInfo hs 2 i2
    rw [qd, qs] at hq
    try dsimp only [errV] at hq
    replace hq := hide hq
    clear hs
    go_wp2_with fail
    refine (hq.out).mono ?_
    clear hq
    rintro e w7 ⟨rfl, hs⟩
    unfold infA
    replace hs := hs.add (.cells #[.int .i64 9, .int .i64 0, .int .i64 2, .int .i64 2, .int .i64 8, .int .i64 0] 58)
    have kk : dpolK _ 1 = 0 := dpolK_there p1
    have ks := dpolS_there p1
    have hq := qDropPool hE.out hs 1 i1
    rw [kk] at hq
    try dsimp only [errV] at hq
    replace hq := hide hq
    clear hs
    go_wp2_with fail
    refine (hq.out).mono ?_
    clear hq
    rintro e w8 ⟨rfl, hs⟩
    rw [ks] at hs
    clear kk ks p1 d1
    obtain ⟨P3, hP3, p3⟩ : ∃ P3 : Int → Option (Int × Int), P3 = setF _ 1 none ∧ P3 1 = none := ⟨_, rfl, setF_same⟩
    rw [← hP3] at hs
    clear hP3
    have kk : dpolK P3 1 = 5 := by simp [dpolK, p3]
    have ks : dpolS P3 1 = P3 := by simp [dpolS, p3]
    have hq := qDropPool hE.out hs 1 i1
    rw [kk] at hq
    try dsimp only [errV] at hq
    replace hq := hide hq
    clear hs
    go_wp2_with fail
    refine (hq.out).mono ?_
    clear hq
    rintro e w9 ⟨rfl, hs⟩
    rw [ks] at hs
    clear kk ks
    have hq := qSize hs 1 i1
    rw [(sizeI_none p3)] at hq
    try dsimp only [errV] at hq
    replace hq := hide hq
    clear hs
    go_wp2_with fail
    refine (hq.out).mono ?_
    clear hq
    rintro e w10 ⟨rfl, hs⟩
    have kk : bufK P3 B1 3 1 0 1 1 4 0 = 5 := bufK_none p3
    have ks : bufS P3 B1 3 1 0 1 1 4 0 = B1 := by unfold bufS; rw [if_neg (by rw [kk]; decide)]
    have hz1 : ∀ x, P3 1 = some x → I64 x.2 := fun x hx => by rw [p3] at hx; cases hx
    have hq := qBuffer hE.out hs 3 1 0 1 1 4 0 i3 i1 i4 hz1 (by omega)
    rw [kk] at hq
    try dsimp only [errV] at hq
    replace hq := hide hq
    clear hs
    go_wp2_with fail
    refine (hq.out).mono ?_
    clear hq
    rintro e w11 ⟨rfl, hs⟩
    rw [ks] at hs
    clear kk ks hz1
    have hq := qInfo hs 2 i2
    rw [qd, qs] at hq
    try dsimp only [errV] at hq
    replace hq := hide hq
    clear hs
    go_wp2_with fail
    refine (hq.out).mono ?_
    clear hq
    rintro e w12 ⟨rfl, hs⟩
    unfold infA
    have c7 := (hs.ex w7.heap.size _ (by unfold exK; rw [if_pos rfl])).1
    have l7 := lt_of_block c7
    replace hs := hs.add (.cells #[.int .i64 9, .int .i64 0, .int .i64 2, .int .i64 2, .int .i64 8, .int .i64 0] 58)
    have b7 := (Below.heap_alloc w12 (.cells #[.int .i64 9, .int .i64 0, .int .i64 2, .int .i64 2, .int .i64 8, .int .i64 0] 58) _ l7).trans c7
    have hlv : liveB B1 2 = true := by simp [liveB, qd]
    have e0 := (cell_of_row (w12.alloc (.cells #[.int .i64 9, .int .i64 0, .int .i64 2, .int .i64 2, .int .i64 8, .int .i64 0] 58)) w7.heap.size 0 _ _ _ b7).trans rfl
    have e1 := (cell_of_row (w12.alloc (.cells #[.int .i64 9, .int .i64 0, .int .i64 2, .int .i64 2, .int .i64 8, .int .i64 0] 58)) w7.heap.size 1 _ _ _ b7).trans rfl
    have e2 := (cell_of_row (w12.alloc (.cells #[.int .i64 9, .int .i64 0, .int .i64 2, .int .i64 2, .int .i64 8, .int .i64 0] 58)) w7.heap.size 2 _ _ _ b7).trans rfl
    have e3 := (cell_of_row (w12.alloc (.cells #[.int .i64 9, .int .i64 0, .int .i64 2, .int .i64 2, .int .i64 8, .int .i64 0] 58)) w7.heap.size 3 _ _ _ b7).trans rfl
    have e4 := (cell_of_row (w12.alloc (.cells #[.int .i64 9, .int .i64 0, .int .i64 2, .int .i64 2, .int .i64 8, .int .i64 0] 58)) w7.heap.size 4 _ _ _ b7).trans rfl
    have e5 := (cell_of_row (w12.alloc (.cells #[.int .i64 9, .int .i64 0, .int .i64 2, .int .i64 2, .int .i64 8, .int .i64 0] 58)) w7.heap.size 5 _ _ _ b7).trans rfl
    have ql := qLive hs 2 i2
    rw [hlv] at ql
    replace ql := hide ql
    clear b7 c7 hs
    go_wp2_with fail
    refine (ql.out).mono ?_
    clear ql
    rintro e w13 ⟨rfl, hs⟩
    have kk : dbufK B1 2 = 0 := by simp [dbufK, hlv]
    have ks : dbufS B1 2 = setF B1 2 (some (⟨9, 0, 2, 2, 8, 0⟩, false)) := by simp [dbufS, hlv, qd]
    have hq := qDropBuffer hE.out hs 2 i2 (by omega)
    rw [kk] at hq
    try dsimp only [errV] at hq
    replace hq := hide hq
    clear hs
    go_wp2_with fail
    refine (hq.out).mono ?_
    clear hq
    rintro e w14 ⟨rfl, hs⟩
    rw [ks] at hs
    obtain ⟨B2, hB2, q2⟩ : ∃ B2 : Int → Option (PInfo × Bool), B2 = setF B1 2 (some (⟨9, 0, 2, 2, 8, 0⟩, false)) ∧ B2 2 = some (⟨9, 0, 2, 2, 8, 0⟩, false) := ⟨_, rfl, setF_same⟩
    rw [← hB2] at hs
    clear hB2 kk ks hlv qd
    have hlv : liveB B2 2 = false := by simp [liveB, bufD, q2]
    have hq := qLive hs 2 i2
    rw [hlv] at hq
    try dsimp only [errV] at hq
    replace hq := hide hq
    clear hs
    go_wp2_with fail
    refine (hq.out).mono ?_
    clear hq
    rintro e w15 ⟨rfl, hs⟩
    have kk : dbufK B2 2 = 5 := by simp [dbufK, hlv]
    have hq := qDropBuffer hE.out hs 2 i2 (by omega)
    rw [kk] at hq
    try dsimp only [errV] at hq
    replace hq := hide hq
    clear hs
    go_wp2_with fail
    refine (hq.out).mono ?_
    clear hq
    rintro e w16 ⟨rfl, hs⟩
    have hbd := hide hs.below
    have ca := hide (awake11 w16 (hE.out.below hs.below))
    clear hs
    go_wp2_with fail
    refine (ca.out).mono ?_
    rintro e w17 ⟨rfl, hb9⟩
    go_wp2
    go_ret
    exact ⟨rfl, hbd.out.trans (hb9.mono hbd.out.size)⟩
  · have kk : resK P1 1 (16 + z) 5000 = 0 := resK_ok p1 (by dsimp only; omega) (by omega)
    have ks : resS P1 1 (16 + z) 5000 = setF P1 1 (some (9, 16 + z)) := by unfold resS; rw [if_pos kk, d1]
    have hq := qResize hE.out hs 1 (16 + z) 5000 i1 (by omega)
    rw [kk] at hq
    try dsimp only [errV] at hq
    replace hq := hide hq
    clear hs
    go_wp2_with fail
    refine (hq.out).mono ?_
    clear hq
    rintro e w4 ⟨rfl, hs⟩
    rw [ks] at hs
    have p2 : setF P1 1 (some ((9 : Int), 16 + z)) 1 = some (9, 16 + z) := setF_same
    generalize setF P1 1 (some ((9 : Int), 16 + z)) = P2 at hs p2
    clear kk ks p1 d1
    have p1 := p2
    have d1 : polD P2 1 = (9, 16 + z) := by unfold polD; rw [p1]; rfl
    clear p2
    obtain ⟨x, hx⟩ : ∃ x, x = z := ⟨_, rfl⟩
    have hmax : max (16 + y) (16 + z) = 16 + x := by omega
    rw [← hx] at p1 d1
    have hx1 : x < 1000 := by omega
    have hx2 : 0 ≤ x := by omega
    clear hx
    have hq := qSize hs 1 i1
    rw [(sizeI_some p1)] at hq
    try dsimp only [errV] at hq
    replace hq := hide hq
    clear hs
    go_wp2_with fail
    refine (hq.out).mono ?_
    clear hq
    rintro e w5 ⟨rfl, hs⟩
    have kk : resK _ 1 6000 5000 = 9 := resK_mem p1 (by dsimp only; omega) (by omega)
    have ks := resS_same kk
    have hq := qResize hE.out hs 1 6000 5000 i1 (by omega)
    rw [kk] at hq
    try dsimp only [errV] at hq
    replace hq := hide hq
    clear hs
    go_wp2_with fail
    refine (hq.out).mono ?_
    clear hq
    rintro e w6 ⟨rfl, hs⟩
    rw [ks] at hs
    clear kk ks
    have qd : bufD B1 2 = (⟨9, 0, 2, 2, 8, 0⟩, true) := by unfold bufD; rw [q1]; rfl
    have qs : (B1 2).isSome = true := by rw [q1]; rfl
    have hq := qInfo hs 2 i2
    rw [qd, qs] at hq
    try dsimp only [errV] at hq
    replace hq := hide hq
    clear hs
    go_wp2_with fail
    refine (hq.out).mono ?_
    clear hq
    rintro e w7 ⟨rfl, hs⟩
    unfold infA
    replace hs := hs.add (.cells #[.int .i64 9, .int .i64 0, .int .i64 2, .int .i64 2, .int .i64 8, .int .i64 0] 58)
    have kk : dpolK _ 1 = 0 := dpolK_there p1
    have ks := dpolS_there p1
    have hq := qDropPool hE.out hs 1 i1
    rw [kk] at hq
    try dsimp only [errV] at hq
    replace hq := hide hq
    clear hs
    go_wp2_with fail
    refine (hq.out).mono ?_
    clear hq
    rintro e w8 ⟨rfl, hs⟩
    rw [ks] at hs
    clear kk ks p1 d1
    obtain ⟨P3, hP3, p3⟩ : ∃ P3 : Int → Option (Int × Int), P3 = setF _ 1 none ∧ P3 1 = none := ⟨_, rfl, setF_same⟩
    rw [← hP3] at hs
    clear hP3
    have kk : dpolK P3 1 = 5 := by simp [dpolK, p3]
    have ks : dpolS P3 1 = P3 := by simp [dpolS, p3]
    have hq := qDropPool hE.out hs 1 i1
    rw [kk] at hq
    try dsimp only [errV] at hq
    replace hq := hide hq
    clear hs
    go_wp2_with fail
    refine (hq.out).mono ?_
    clear hq
    rintro e w9 ⟨rfl, hs⟩
    rw [ks] at hs
    clear kk ks
    have hq := qSize hs 1 i1
    rw [(sizeI_none p3)] at hq
    try dsimp only [errV] at hq
    replace hq := hide hq
    clear hs
    go_wp2_with fail
    refine (hq.out).mono ?_
    clear hq
    rintro e w10 ⟨rfl, hs⟩
    have kk : bufK P3 B1 3 1 0 1 1 4 0 = 5 := bufK_none p3
    have ks : bufS P3 B1 3 1 0 1 1 4 0 = B1 := by unfold bufS; rw [if_neg (by rw [kk]; decide)]
    have hz1 : ∀ x, P3 1 = some x → I64 x.2 := fun x hx => by rw [p3] at hx; cases hx
    have hq := qBuffer hE.out hs 3 1 0 1 1 4 0 i3 i1 i4 hz1 (by omega)
    rw [kk] at hq
    try dsimp only [errV] at hq
    replace hq := hide hq
    clear hs
    go_wp2_with fail
    refine (hq.out).mono ?_
    clear hq
    rintro e w11 ⟨rfl, hs⟩
    rw [ks] at hs
    clear kk ks hz1
    have hq := qInfo hs 2 i2
    rw [qd, qs] at hq
    try dsimp only [errV] at hq
    replace hq := hide hq
    clear hs
    go_wp2_with fail
    refine (hq.out).mono ?_
    clear hq
    rintro e w12 ⟨rfl, hs⟩
    unfold infA
    have c7 := (hs.ex w7.heap.size _ (by unfold exK; rw [if_pos rfl])).1
    have l7 := lt_of_block c7
    replace hs := hs.add (.cells #[.int .i64 9, .int .i64 0, .int .i64 2, .int .i64 2, .int .i64 8, .int .i64 0] 58)
    have b7 := (Below.heap_alloc w12 (.cells #[.int .i64 9, .int .i64 0, .int .i64 2, .int .i64 2, .int .i64 8, .int .i64 0] 58) _ l7).trans c7
    have hlv : liveB B1 2 = true := by simp [liveB, qd]
    have e0 := (cell_of_row (w12.alloc (.cells #[.int .i64 9, .int .i64 0, .int .i64 2, .int .i64 2, .int .i64 8, .int .i64 0] 58)) w7.heap.size 0 _ _ _ b7).trans rfl
    have e1 := (cell_of_row (w12.alloc (.cells #[.int .i64 9, .int .i64 0, .int .i64 2, .int .i64 2, .int .i64 8, .int .i64 0] 58)) w7.heap.size 1 _ _ _ b7).trans rfl
    have e2 := (cell_of_row (w12.alloc (.cells #[.int .i64 9, .int .i64 0, .int .i64 2, .int .i64 2, .int .i64 8, .int .i64 0] 58)) w7.heap.size 2 _ _ _ b7).trans rfl
    have e3 := (cell_of_row (w12.alloc (.cells #[.int .i64 9, .int .i64 0, .int .i64 2, .int .i64 2, .int .i64 8, .int .i64 0] 58)) w7.heap.size 3 _ _ _ b7).trans rfl
    have e4 := (cell_of_row (w12.alloc (.cells #[.int .i64 9, .int .i64 0, .int .i64 2, .int .i64 2, .int .i64 8, .int .i64 0] 58)) w7.heap.size 4 _ _ _ b7).trans rfl
    have e5 := (cell_of_row (w12.alloc (.cells #[.int .i64 9, .int .i64 0, .int .i64 2, .int .i64 2, .int .i64 8, .int .i64 0] 58)) w7.heap.size 5 _ _ _ b7).trans rfl
    have ql := qLive hs 2 i2
    rw [hlv] at ql
    replace ql := hide ql
    clear b7 c7 hs
    go_wp2_with fail
    refine (ql.out).mono ?_
    clear ql
    rintro e w13 ⟨rfl, hs⟩
    have kk : dbufK B1 2 = 0 := by simp [dbufK, hlv]
    have ks : dbufS B1 2 = setF B1 2 (some (⟨9, 0, 2, 2, 8, 0⟩, false)) := by simp [dbufS, hlv, qd]
    have hq := qDropBuffer hE.out hs 2 i2 (by omega)
    rw [kk] at hq
    try dsimp only [errV] at hq
    replace hq := hide hq
    clear hs
    go_wp2_with fail
    refine (hq.out).mono ?_
    clear hq
    rintro e w14 ⟨rfl, hs⟩
    rw [ks] at hs
    obtain ⟨B2, hB2, q2⟩ : ∃ B2 : Int → Option (PInfo × Bool), B2 = setF B1 2 (some (⟨9, 0, 2, 2, 8, 0⟩, false)) ∧ B2 2 = some (⟨9, 0, 2, 2, 8, 0⟩, false) := ⟨_, rfl, setF_same⟩
    rw [← hB2] at hs
    clear hB2 kk ks hlv qd
    have hlv : liveB B2 2 = false := by simp [liveB, bufD, q2]
    have hq := qLive hs 2 i2
    rw [hlv] at hq
    try dsimp only [errV] at hq
    replace hq := hide hq
    clear hs
    go_wp2_with fail
    refine (hq.out).mono ?_
    clear hq
    rintro e w15 ⟨rfl, hs⟩
    have kk : dbufK B2 2 = 5 := by simp [dbufK, hlv]
    have hq := qDropBuffer hE.out hs 2 i2 (by omega)
    rw [kk] at hq
    try dsimp only [errV] at hq
    replace hq := hide hq
    clear hs
    go_wp2_with fail
    refine (hq.out).mono ?_
    clear hq
    rintro e w16 ⟨rfl, hs⟩
    have hbd := hide hs.below
    have ca := hide (awake11 w16 (hE.out.below hs.below))
    clear hs
    go_wp2_with fail
    refine (ca.out).mono ?_
    rintro e w17 ⟨rfl, hb9⟩
    go_wp2
    go_ret
    exact ⟨rfl, hbd.out.trans (hb9.mono hbd.out.size)⟩
end Go.Proofs.YtjhfcnkmfbpjmaaDoor
