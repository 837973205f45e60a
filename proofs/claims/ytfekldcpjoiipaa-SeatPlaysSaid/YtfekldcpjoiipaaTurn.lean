/-
  The focus goes from one to another one: turn, its iterator, notes.
-/
import Derived.Test.YtfekldcpjoiipaaHits
import Derived.Test.YtfekldcpjoiipaaRound
import Derived.Test.YtfekldcpjoiipaaHeap
namespace Go.Proofs.Ytfekldcpjoiipaa
open Go.RowKit Go.Shelf
set_option linter.unusedVariables false
attribute [local go_sem] Oper.semAt_some

structure Note where
  k : Int
  s : Int
  x : Int
  y : Int
deriving DecidableEq
instance : Inhabited Note := ⟨⟨0, 0, 0, 0⟩⟩
def Note.enc (t : Note) : List Value := [.int .i64 t.k, .int .i64 t.s, .int .i64 t.x, .int .i64 t.y]
def Note.val (t : Note) : Value := .agg #[.int .i64 t.k, .int .i64 t.s, .int .i64 t.x, .int .i64 t.y]
def turnN (fr to x y : Int) : List Note := (if fr = 0 then [] else [⟨2, fr, 0, 0⟩]) ++ (if to = 0 then [] else [⟨1, to, x, y⟩])

/-- What the closure has captured. -/
structure TurnBox (p4 p5 p6 p7 sb so : Nat) (to x y : Int) (W : World) : Prop where
  f : Boxed W p4 80 (.pointer (some ⟨sb, so, none⟩))
  t : Boxed W p5 3 (.int .i64 to)
  x : Boxed W p6 3 (.int .i64 x)
  y : Boxed W p7 3 (.int .i64 y)
theorem TurnBox.kept {p4 p5 p6 p7 sb so : Nat} {to x y : Int} {W W' : World} {row : Option Nat} (h : TurnBox p4 p5 p6 p7 sb so to x y W) (hg : W.grownBy W' row) (h4 : some p4 ≠ row) (h5 : some p5 ≠ row) (h6 : some p6 ≠ row) (h7 : some p7 ≠ row) : TurnBox p4 p5 p6 p7 sb so to x y W' :=
  ⟨h.f.kept hg h4, h.t.kept hg h5, h.x.kept hg h6, h.y.kept hg h7⟩
theorem TurnBox.below {p4 p5 p6 p7 sb so : Nat} {to x y : Int} {W W' : World} (h : TurnBox p4 p5 p6 p7 sb so to x y W) (hb : Below W.heap.size W W') : TurnBox p4 p5 p6 p7 sb so to x y W' :=
  ⟨(hb.block _ h.f.lt).trans h.f, (hb.block _ h.t.lt).trans h.t, (hb.block _ h.x.lt).trans h.x, (hb.block _ h.y.lt).trans h.y⟩

set_option maxRecDepth 100000 in
set_option maxHeartbeats 1000000 in
theorem turn1_in (n : Nat) (h1n : 1 ≤ n) (l p4 p5 p6 p7 sb so : Nat) (fr to x y : Int) (J : List Note → World → Prop)
    (hb : ∀ pre W, J pre W → TurnBox p4 p5 p6 p7 sb so to x y W)
    (hY : ∀ pre (nt : Note) W, J pre W → pre.length < 2 → YieldAt Fence.wide (n - 1) Try.prog l #[nt.val] W fun e W' => e = .returned (.bool true) ∧ J (pre ++ [nt]) W')
    (W : World) (h0 : TurnBox p4 p5 p6 p7 sb so to x y W) (hc : W.cell? ⟨sb, so, none⟩ = some (.int .i64 fr)) (hf : W.frozen? ⟨sb, so, none⟩ = false)
    (hset : J [] (W.setCell ⟨sb, so, none⟩ (.int .i64 to))) :
    CallsIn Fence.wide n Try.prog 40 #[.func (.yield l) #[] #[], .pointer (some ⟨p4, 0, none⟩), .pointer (some ⟨p5, 0, none⟩), .pointer (some ⟨p6, 0, none⟩), .pointer (some ⟨p7, 0, none⟩)] W
      fun e W' => (∃ v, e = .returned v) ∧ J (turnN fr to x y) W' := by
  have c4 := h0.f.cell
  have c5 := h0.t.cell
  obtain ⟨d4, d5, d6, d7⟩ := hb _ _ hset
  have e5 := d5.cell
  have e6 := d6.cell
  have e7 := d7.cell
  replace hset := hide hset
  have key : Hid (∀ (nt : Note) (Wa : World) (pre : List Note), J pre Wa → pre.length < 2 → YieldAt Fence.wide (n - 1) Try.prog l #[nt.val] Wa fun e W' => e = .returned (.bool true) ∧ J (pre ++ [nt]) W' ∧ W'.cell? ⟨p5, 0, none⟩ = some (.int .i64 to) ∧ W'.cell? ⟨p6, 0, none⟩ = some (.int .i64 x) ∧ W'.cell? ⟨p7, 0, none⟩ = some (.int .i64 y)) :=
    hide fun nt Wa pre hj hl => (hY pre nt Wa hj hl).mono fun e W' ⟨he, hj2⟩ => ⟨he, hj2, (hb _ _ hj2).t.cell, (hb _ _ hj2).x.cell, (hb _ _ hj2).y.cell⟩
  clear hY hb h0 d4 d5 d6 d7
  have ht : Hid (turnN fr to x y = (if fr = 0 then [] else [⟨2, fr, 0, 0⟩]) ++ (if to = 0 then [] else [⟨1, to, x, y⟩])) := hide rfl
  by_cases hfr : fr = 0
  · by_cases hto : to = 0
    · subst hfr hto
      refine callsIn_of_wp Try.func40 rfl trivial ?_ rfl
      simp only [Try.ntmps40, List.size_toArray, List.length_cons, List.length_nil, Nat.reduceAdd, Nat.reduceSub, Array.replicate_succ, Array.replicate_zero, List.push_toArray, List.append_toArray, List.nil_append, List.cons_append]
      gi_wp2
      refine ⟨fun _ h => (by cases h), ?_⟩
      gi_wp2
      go_end0
      exact ⟨⟨_, rfl⟩, by rw [ht.out]; simpa using hset.out⟩
    · subst hfr
      have hq : (to == 0) = false := by simpa using hto
      obtain ⟨fn, tmps, assign, body, hy, hR⟩ := key.out ⟨1, to, x, y⟩ _ [] hset.out (by simp)
      unfold Note.val at hy
      dsimp only at hy
      replace hR := hide hR
      refine callsIn_of_wp Try.func40 rfl trivial ?_ rfl
      simp only [Try.ntmps40, List.size_toArray, List.length_cons, List.length_nil, Nat.reduceAdd, Nat.reduceSub, Array.replicate_succ, Array.replicate_zero, List.push_toArray, List.append_toArray, List.nil_append, List.cons_append]
      gi_wp2
      refine ⟨fun _ h => (by cases h), ?_⟩
      gi_wp2
      refine hR.out.mono ?_
      rintro e W3 ⟨rfl, hJ3, _⟩
      gi_wp2
      go_end0
      exact ⟨⟨_, rfl⟩, by rw [ht.out]; simpa [hto] using hJ3⟩
  · have hq : (fr == 0) = false := by simpa using hfr
    obtain ⟨fn, tmps, assign, body, hy, hR⟩ := key.out ⟨2, fr, 0, 0⟩ _ [] hset.out (by simp)
    unfold Note.val at hy
    dsimp only at hy
    replace hR := hide hR
    by_cases hto : to = 0
    · subst hto
      refine callsIn_of_wp Try.func40 rfl trivial ?_ rfl
      simp only [Try.ntmps40, List.size_toArray, List.length_cons, List.length_nil, Nat.reduceAdd, Nat.reduceSub, Array.replicate_succ, Array.replicate_zero, List.push_toArray, List.append_toArray, List.nil_append, List.cons_append]
      gi_wp2
      refine hR.out.mono ?_
      rintro e W3 ⟨rfl, hJ3, k5, k6, k7⟩
      gi_wp2
      go_end0
      exact ⟨⟨_, rfl⟩, by rw [ht.out]; simpa [hfr] using hJ3⟩
    · have hq2 : (to == 0) = false := by simpa using hto
      refine callsIn_of_wp Try.func40 rfl trivial ?_ rfl
      simp only [Try.ntmps40, List.size_toArray, List.length_cons, List.length_nil, Nat.reduceAdd, Nat.reduceSub, Array.replicate_succ, Array.replicate_zero, List.push_toArray, List.append_toArray, List.nil_append, List.cons_append]
      gi_wp2
      refine hR.out.mono ?_
      rintro e W3 ⟨rfl, hJ3, k5, k6, k7⟩
      obtain ⟨fn2, tmps2, assign2, body2, hy2, hR2⟩ := key.out ⟨1, to, x, y⟩ _ _ hJ3 (by simp)
      unfold Note.val at hy2
      dsimp only at hy2
      replace hR2 := hide hR2
      gi_wp2
      refine hR2.out.mono ?_
      rintro e W4 ⟨rfl, hJ4, _⟩
      gi_wp2
      go_end0
      exact ⟨⟨_, rfl⟩, by rw [ht.out]; simpa [hfr, hto] using hJ4⟩

theorem Try.infoNote : (Try.prog.info? 47).map (fun i => (i.zero, i.size, i.bytes)) = some (some (.agg #[.int .i64 0, .int .i64 0, .int .i64 0, .int .i64 0]), 4, 32) := by kernel_rfl
theorem info_partsN {P : Program} {t : TypeId} {z : Value} {s b : Nat} (h : (P.info? t).map (fun i => (i.zero, i.size, i.bytes)) = some (some z, s, b)) : ∃ i, P.info? t = some i ∧ i.zero = some z ∧ i.size = s ∧ i.bytes = b := by
  cases hi : P.info? t with
  | none => rw [hi] at h; cases h
  | some i => rw [hi] at h; simp only [Option.map_some, Option.some.injEq, Prod.mk.injEq] at h; exact ⟨i, rfl, h.1, h.2.1, h.2.2⟩
theorem notes_len (L : List Note) : (L.flatMap Note.enc).length = L.length * 4 := by
  induction L with
  | nil => rfl
  | cons r L ih =>
    rw [List.flatMap_cons, List.length_append, ih, List.length_cons]
    show 4 + L.length * 4 = (L.length + 1) * 4
    omega

theorem grownBy_setCell_row (W : World) (b o : Nat) (v : Value) : W.grownBy (W.setCell ⟨b, o, none⟩ v) (some b) :=
  ⟨rfl, rfl, rfl, by simp [World.setCell], fun k _ hne => Below.heap_setCell W ⟨b, o, none⟩ v k (fun e => hne (by rw [e]))⟩

theorem cells_newN (w : World) (cs : List Value) (t : TypeId) : ∀ j u, cs[j]? = some u → (w.alloc (.cells cs.toArray t)).cell? ((⟨w.heap.size, 0, none⟩ : Addr).add j) = some u := by
  intro j u hj
  have h := heap_alloc_new w (.cells cs.toArray t)
  rw [addr_add, cell_of_row _ w.heap.size (0 + j) _ _ _ h]
  simpa using hj

/-- The seat in memory. -/
def SeatAt (w : World) (p : Nat) (x y k f : Int) : Prop := w.heap[p]? = some (.cells #[.int .i64 x, .int .i64 y, .int .i64 k, .int .i64 f] 74 (0, 0))

/-- Between two rounds: the record, the block for the rounds' deferred calls, what has come. -/
structure NoteI (l p4 p5 p6 p7 sb so n0 Bl : Nat) (to x y : Int) (r : Loop) (C : Array Value) (w : World) (pre : List Note) (W : World) : Prop where
  lp : W.heap[l]? = some (.loop r)
  dfr : W.heap[n0 + 1]? = some (.deferred (some []))
  box : TurnBox p4 p5 p6 p7 sb so to x y W
  row : ∃ v, Boxed W Bl 43 v ∧ W.ownsRow n0 47 4 v pre.length (pre.flatMap Note.enc) 
  seat : W.heap[sb]? = some (.cells C 74 (0, 0))
  chg : Chg (fun b => b = sb) w W

/-- The codes of a range over a function: the assignments; the body. -/
def rangeParts : Code → Option (Code × Code)
  | .rangeFunc _ _ a b => some (a, b)
  | .seq a b => match rangeParts a with | some c => some c | none => rangeParts b
  | .block _ c => rangeParts c
  | .scope c => rangeParts c
  | _ => none
noncomputable def notesAs : Code := ((Try.f30.body.bind rangeParts).map (·.1)).getD .skip
noncomputable def notesBo : Code := ((Try.f30.body.bind rangeParts).map (·.2)).getD .skip

set_option maxRecDepth 100000 in
set_option maxHeartbeats 1000000 in
theorem notes_round {n : Nat} {fn : FuncId} {u0 u1 u2 u4 u5 u6 u7 u8 u9 u10 u11 : Value} (p4 p5 p6 p7 sb so : Nat) (w : World) (to x y : Int) (C : Array Value) (pre : List Note) (nt : Note) (W : World)
    (hI : NoteI (w.heap.size + 1 + 1) p4 p5 p6 p7 sb so w.heap.size w.heap.size to x y (loopRec fn #[u0, u1, u2, .pointer (some ⟨w.heap.size, 0, none⟩), u4, u5, u6, u7, u8, u9, u10, u11] #[6] notesAs notesBo (w.heap.size + 1)) C w pre W) (hpl : pre.length < 2) (hlt : p4 < w.heap.size ∧ p5 < w.heap.size ∧ p6 < w.heap.size ∧ p7 < w.heap.size ∧ sb < w.heap.size) :
    YieldAt Fence.wide (n - 1) Try.prog (w.heap.size + 1 + 1) #[nt.val] W fun e W' => e = .returned (.bool true) ∧
      NoteI (w.heap.size + 1 + 1) p4 p5 p6 p7 sb so w.heap.size w.heap.size to x y (loopRec fn #[u0, u1, u2, .pointer (some ⟨w.heap.size, 0, none⟩), u4, u5, u6, u7, u8, u9, u10, u11] #[6] notesAs notesBo (w.heap.size + 1)) C w (pre ++ [nt]) W' := by
  obtain ⟨i0, hi, hz0, hz1, hz2⟩ := info_partsN Try.infoNote
  obtain ⟨i1, i2, i3, ⟨v, i4, i5⟩, i6, i7⟩ := hI
  obtain ⟨k, s, xx, yy⟩ := nt
  have hrt : ((loopRec fn #[u0, u1, u2, .pointer (some ⟨w.heap.size, 0, none⟩), u4, u5, u6, u7, u8, u9, u10, u11] #[6] notesAs notesBo (w.heap.size + 1)).params.zip #[Note.val ⟨k, s, xx, yy⟩]).foldl (fun t (p, v) => t.setIfInBounds p v) (loopRec fn #[u0, u1, u2, .pointer (some ⟨w.heap.size, 0, none⟩), u4, u5, u6, u7, u8, u9, u10, u11] #[6] notesAs notesBo (w.heap.size + 1)).tmps = #[u0, u1, u2, .pointer (some ⟨w.heap.size, 0, none⟩), u4, u5, .agg #[.int .i64 k, .int .i64 s, .int .i64 xx, .int .i64 yy], u7, u8, u9, u10, u11] := by simp [loopRec, Note.val]
  refine yield_ready (r := loopRec fn #[u0, u1, u2, .pointer (some ⟨w.heap.size, 0, none⟩), u4, u5, u6, u7, u8, u9, u10, u11] #[6] notesAs notesBo (w.heap.size + 1)) trivial i1 rfl rfl rfl (As := notesAs) (Bo := notesBo) rfl rfl hrt ?_
  clear hrt
  generalize loopRec fn _ #[6] notesAs notesBo (w.heap.size + 1) = r at i1 ⊢
  conv => arg 4; whnf
  gi_wp2
  have hg1 : Below W.heap.size W (W.alloc (.cells #[.int .i64 k, .int .i64 s, .int .i64 xx, .int .i64 yy] 47)) := (Below.refl _ _).alloc (Nat.le_refl _) _
  refine ⟨(hg1.block _ (lt_of_block i1)).trans i1, ?_⟩
  have hg2 := grownBy_putObj' (W.alloc (.cells #[.int .i64 k, .int .i64 s, .int .i64 xx, .int .i64 yy] 47)) (w.heap.size + 1 + 1) (.loop { r with state := .busy })
  have j0 : ((W.alloc (.cells #[.int .i64 k, .int .i64 s, .int .i64 xx, .int .i64 yy] 47)).putObj (w.heap.size + 1 + 1) (.loop { r with state := .busy })).heap[w.heap.size + 1 + 1]? = some (.loop { r with state := .busy }) :=
    World.putObj_heap_same (by have := lt_of_block i1; have := hg1.size; omega)
  have l1 := lt_of_block i1
  have hne : ∀ (b : Nat) (cs : Array Value) (t : TypeId), W.heap[b]? = some (.cells cs t (0, 0)) → some b ≠ some (w.heap.size + 1 + 1) := fun b cs t h e => by
    cases e; rw [i1] at h; cases h
  have k2 : w.heap.size + 1 < W.heap.size := lt_of_block i2
  have j2 := (hg2.block _ (by have := hg1.size; omega) (by simp)).trans ((hg1.block _ k2).trans i2)
  have j3 := (i3.below hg1).kept hg2 (hne _ _ _ i3.f) (hne _ _ _ i3.t) (hne _ _ _ i3.x) (hne _ _ _ i3.y)
  have j4 := (i4.alloc (.cells #[.int .i64 k, .int .i64 s, .int .i64 xx, .int .i64 yy] 47)).kept hg2 (hne _ _ _ i4)
  have j5 := ownsRow_putObj (i5.alloc (.cells #[.int .i64 k, .int .i64 s, .int .i64 xx, .int .i64 yy] 47)) (.loop { r with state := .busy }) ((hg1.block _ l1).trans i1) rfl
  have j6 := (hg2.block _ (by have := lt_of_block i6; have := hg1.size; omega) (hne _ _ _ i6)).trans ((hg1.block _ (lt_of_block i6)).trans i6)
  have j8 : ((W.alloc (.cells #[.int .i64 k, .int .i64 s, .int .i64 xx, .int .i64 yy] 47)).putObj (w.heap.size + 1 + 1) (.loop { r with state := .busy })).heap[W.heap.size]? = some (.cells #[.int .i64 k, .int .i64 s, .int .i64 xx, .int .i64 yy] 47 (0, 0)) :=
    (hg2.block _ (by simp) (by simp; omega)).trans (World.alloc_heap_new W _)
  have hc9 : Chg (fun b => b = sb ∨ b = w.heap.size + 1 + 1) W ((W.alloc (.cells #[.int .i64 k, .int .i64 s, .int .i64 xx, .int .i64 yy] 47)).putObj (w.heap.size + 1 + 1) (.loop { r with state := .busy })) :=
    (Chg.of_below hg1 _).trans (Chg.grown hg2 (fun b hb => .inr (by cases hb; rfl))) (Ext.refl _ _)
  obtain ⟨Av, cv, rfl, hcv⟩ := own_form i5
  generalize ((W.alloc (.cells #[.int .i64 k, .int .i64 s, .int .i64 xx, .int .i64 yy] 47)).putObj (w.heap.size + 1 + 1) (.loop { r with state := .busy })) = Wb at j0 j2 j3 j4 j5 j6 j8 hc9 ⊢
  have nk : W.heap.size ≠ w.heap.size ∧ W.heap.size ≠ sb ∧ w.heap.size < W.heap.size := ⟨by have := lt_of_block i4; omega, by have := lt_of_block i6; omega, lt_of_block i4⟩
  obtain ⟨PL, hPL⟩ : ∃ PL, PL = pre.length := ⟨_, rfl⟩
  rw [← hPL] at j4 j5 hpl
  have c0 : Wb.cell? ⟨W.heap.size, 0, none⟩ = some (.int .i64 k) := by rw [cell_of_row Wb W.heap.size 0 _ _ _ j8]; rfl
  have c1 : Wb.cell? ⟨W.heap.size, 1, none⟩ = some (.int .i64 s) := by rw [cell_of_row Wb W.heap.size 1 _ _ _ j8]; rfl
  have c2 : Wb.cell? ⟨W.heap.size, 2, none⟩ = some (.int .i64 xx) := by rw [cell_of_row Wb W.heap.size 2 _ _ _ j8]; rfl
  have c3 : Wb.cell? ⟨W.heap.size, 3, none⟩ = some (.int .i64 yy) := by rw [cell_of_row Wb W.heap.size 3 _ _ _ j8]; rfl
  have cB := j4.cell
  have hsz := lt_of_block j4
  replace hPL := hide hPL
  replace hc9 := hide hc9
  conv => arg 4; whnf
  gi_wp2_with (gi_at_builtin; refine wpListIn_append_own _ rfl _ _ 43 rfl w.heap.size 47 i0 _ 4 32 Try.underlying43 hi hz0 hz1 hz2 rfl (by decide) _ _ _ rfl (j5.alloc _) ⟨Wb.heap.size, 0, none⟩ 1 1 [.int .i64 k, .int .i64 s, .int .i64 xx, .int .i64 yy] rfl rfl (cells_newN _ _ _) (by intro u hu; simp at hu; rcases hu with rfl | rfl | rfl | rfl <;> rfl) (by unfold maxLen; omega) (by omega) (by simp; omega) ?_; intro v3 w3 own3 hg3 _; obtain ⟨A3, c3', rfl, hc3⟩ := own_form own3; obtain ⟨hv1, hv2, hr2, hk2, hb2⟩ := j4.appended (by decide) j5 (by omega) (Nat.le_refl _) own3 hg3; have hc1 := hv1.cell; have hf1 := hv1.frozen)
  have m0 := hk2.same _ _ j0 rfl
  have m2 := hk2.same _ _ j2 rfl
  have lm := lt_of_block m0
  have hg5 := grownBy_putObj' (w3.setCell ⟨w.heap.size, 0, none⟩ (.slice A3 (PL + 1) c3')) (w.heap.size + 1 + 1) (.loop r)
  have hx : ∀ {b : Nat} {o : Obj}, b < w.heap.size → Wb.heap[b]? = some o → ((w3.setCell ⟨w.heap.size, 0, none⟩ (.slice A3 (PL + 1) c3')).putObj (w.heap.size + 1 + 1) (.loop r)).heap[b]? = some o := fun {b o} hb h =>
    (hg5.block b (Nat.lt_of_lt_of_le (lt_of_block h) hb2.size) (fun e => by cases e; omega)).trans ((hb2.block b hb).trans h)
  refine ⟨m0, ⟨World.putObj_heap_same lm, (hg5.block _ (lt_of_block m2) (by simp)).trans m2, ⟨hx hlt.1 j3.f, hx hlt.2.1 j3.t, hx hlt.2.2.1 j3.x, hx hlt.2.2.2.1 j3.y⟩, ⟨_, hv2.kept hg5 (by simp; omega), ?_⟩, hx hlt.2.2.2.2 j6, ?_⟩⟩
  · have h := ownsRow_putObj hr2 (.loop r) m0 rfl
    rw [List.flatMap_append, List.length_append, ← hPL.out]
    exact h
  · exact ((i7.trans hc9.out (fun b hb => by rcases hb with hb | hb; exact .inl hb; exact .inr (by omega))).trans (F' := fun b => w.heap.size ≤ b) ⟨hb2.os, hb2.tape, hb2.output, hb2.size, fun b _ hn => hb2.block b (by omega)⟩ (fun b hb => .inr hb)).trans
      (Chg.grown hg5 (F := fun b => b = w.heap.size + 1 + 1) (fun b hb => by cases hb; rfl)) (fun b hb => .inr (by omega))
set_option maxRecDepth 100000 in
set_option maxHeartbeats 1000000 in
theorem notes_any (w : World) (p4 p5 p6 p7 sb so : Nat) (fr to x y : Int) (C : Array Value) (hs : w.heap[sb]? = some (.cells C 74 (0, 0))) (hso : C[so]? = some (.int .i64 fr)) (hb : TurnBox p4 p5 p6 p7 sb so to x y w) :
    Calls Try.prog 30 #[.func (.func 40) #[] #[.pointer (some ⟨p4, 0, none⟩), .pointer (some ⟨p5, 0, none⟩), .pointer (some ⟨p6, 0, none⟩), .pointer (some ⟨p7, 0, none⟩)]] w
      fun e w' => ∃ v, e = .returned v ∧ w'.ownsRow w.heap.size 47 4 v (turnN fr to x y).length ((turnN fr to x y).flatMap Note.enc) ∧ w'.heap[sb]? = some (.cells (C.setIfInBounds so (.int .i64 to)) 74 (0, 0)) ∧ Chg (fun b => b = sb) w w' := by
  refine (callsIn_wide (n := 5)).1 ?_
  refine callsIn_of_wp_marks Try.func30 rfl trivial ?_ rfl
  simp only [Try.ntmps30, List.size_toArray, List.length_cons, List.length_nil, Nat.reduceAdd, Nat.reduceSub, Array.replicate_succ, Array.replicate_zero, List.push_toArray, List.append_toArray, List.nil_append, List.cons_append]
  gi_wp2
  refine wpIn_rangeFunc_goes (gf := 40) (lb := #[.pointer (some ⟨p4, 0, none⟩), .pointer (some ⟨p5, 0, none⟩), .pointer (some ⟨p6, 0, none⟩), .pointer (some ⟨p7, 0, none⟩)]) rfl (enters_of Try.func40 (by kernel_rfl) rfl) fun fn => ?_
  rw [World.size_alloc]
  rw [show loopRec fn _ _ _ _ _ = loopRec fn #[.func (.func 40) #[] #[.pointer (some ⟨p4, 0, none⟩), .pointer (some ⟨p5, 0, none⟩), .pointer (some ⟨p6, 0, none⟩), .pointer (some ⟨p7, 0, none⟩)], undef, .slice none 0 0, .pointer (some ⟨w.heap.size, 0, none⟩), undef, .func (.func 40) #[] #[.pointer (some ⟨p4, 0, none⟩), .pointer (some ⟨p5, 0, none⟩), .pointer (some ⟨p6, 0, none⟩), .pointer (some ⟨p7, 0, none⟩)], undef, undef, undef, undef, undef, undef] #[6] notesAs notesBo (w.heap.size + 1) from by kernel_rfl]
  have hR := @notes_round 4 fn (.func (.func 40) #[] #[.pointer (some ⟨p4, 0, none⟩), .pointer (some ⟨p5, 0, none⟩), .pointer (some ⟨p6, 0, none⟩), .pointer (some ⟨p7, 0, none⟩)]) undef (.slice none 0 0) undef (.func (.func 40) #[] #[.pointer (some ⟨p4, 0, none⟩), .pointer (some ⟨p5, 0, none⟩), .pointer (some ⟨p6, 0, none⟩), .pointer (some ⟨p7, 0, none⟩)]) undef undef undef undef undef undef p4 p5 p6 p7 sb so w to x y (C.setIfInBounds so (.int .i64 to))
  generalize loopRec fn _ _ _ _ _ = r at hR ⊢
  obtain ⟨w1, hw1⟩ : ∃ w1, w1 = ((w.alloc (.cells #[.slice none 0 0] 43)).alloc (.deferred (some []))).alloc (.loop r) := ⟨_, rfl⟩
  have hB1 : Below w.heap.size w w1 := by
    rw [hw1]
    exact (((Below.refl _ _).alloc (Nat.le_refl _) _).alloc (by simp) _).alloc (by simp; omega) _
  have hl1 : w1.heap[w.heap.size + 1 + 1]? = some (.loop r) := by
    rw [hw1]
    have := World.alloc_heap_new ((w.alloc (.cells #[.slice none 0 0] 43)).alloc (.deferred (some []))) (.loop r)
    simpa using this
  have hk1 : w1.heap[w.heap.size + 1]? = some (.deferred (some [])) := by
    rw [hw1]
    refine (Below.heap_alloc _ _ _ (by simp)).trans ?_
    have := World.alloc_heap_new (w.alloc (.cells #[.slice none 0 0] 43)) (.deferred (some []))
    simpa using this
  have hbx1 : Boxed w1 w.heap.size 43 (.slice none 0 0) := by
    rw [hw1]
    exact ((Boxed.new w 43 (.slice none 0 0)).alloc _).alloc _
  have hs1 : w1.heap.size = w.heap.size + 3 := by rw [hw1]; simp
  have hs2 : w1.heap[sb]? = some (.cells C 74 (0, 0)) := (hB1.block _ (lt_of_block hs)).trans hs
  have hsb := lt_of_block hs
  have hb1 := hb.below hB1
  have hc1 : w1.cell? ⟨sb, so, none⟩ = some (.int .i64 fr) := by rw [cell_of_row w1 sb so _ _ _ hs2]; exact hso
  have hf1 : w1.frozen? ⟨sb, so, none⟩ = false := frozen_of_row w1 sb so _ _ hs2
  have h4 := hb.f.lt
  have h5 := hb.t.lt
  have h6 := hb.x.lt
  have h7 := hb.y.lt
  have n4 : sb ≠ p4 := fun e => by subst e; have h := hs.symm.trans hb.f; simp at h
  have n5 : sb ≠ p5 := fun e => by subst e; have h := hs.symm.trans hb.t; simp at h
  have n6 : sb ≠ p6 := fun e => by subst e; have h := hs.symm.trans hb.x; simp at h
  have n7 : sb ≠ p7 := fun e => by subst e; have h := hs.symm.trans hb.y; simp at h
  have hst : NoteI (w.heap.size + 1 + 1) p4 p5 p6 p7 sb so w.heap.size w.heap.size to x y r (C.setIfInBounds so (.int .i64 to)) w [] (w1.setCell ⟨sb, so, none⟩ (.int .i64 to)) := by
    have hg := grownBy_setCell_row w1 sb so (.int .i64 to)
    refine ⟨(hg.block _ (lt_of_block hl1) (by simp; omega)).trans hl1, (hg.block _ (lt_of_block hk1) (by simp; omega)).trans hk1, hb1.kept hg (by simp; omega) (by simp; omega) (by simp; omega) (by simp; omega),
      ⟨.slice none 0 0, hbx1.kept hg (by simp; omega), World.ownsRow_nil _ _ _ _⟩, heap_setCell_same w1 sb so _ _ _ hs2, (Chg.of_below (hB1) _).trans (Chg.setCell (F := fun b => b = sb) w1 (a := ⟨sb, so, none⟩) rfl _) (Ext.refl _ _)⟩
  rw [← hw1]
  obtain ⟨i0, hi, hz0, hz1, hz2⟩ := info_partsN Try.infoNote
  refine (turn1_in 4 (by omega) (w.heap.size + 1 + 1) p4 p5 p6 p7 sb so fr to x y (NoteI (w.heap.size + 1 + 1) p4 p5 p6 p7 sb so w.heap.size w.heap.size to x y r (C.setIfInBounds so (.int .i64 to)) w) (fun pre W h => h.box) ?_ w1 hb1 hc1 hf1 hst).mono ?_
  · intro pre nt W hI hpl
    exact hR pre nt W hI hpl ⟨h4, h5, h6, h7, hsb⟩
  · rintro e W2 ⟨hv, i1, i2, i3, ⟨v, i4, i5⟩, i6, i7⟩
    refine ⟨hv, i1, ?_⟩
    obtain ⟨r2, hr2⟩ : ∃ r2 : Loop, r2 = { r with state := .exhausted } := ⟨_, rfl⟩
    have hg := grownBy_putObj' W2 (w.heap.size + 1 + 1) (.loop r2)
    have k2 := (hg.block _ (lt_of_block i2) (by simp)).trans i2
    have k4 : Boxed (W2.putObj (w.heap.size + 1 + 1) (.loop r2)) w.heap.size 43 v := i4.kept hg (by simp; omega)
    have k5 := ownsRow_putObj i5 (.loop r2) i1 rfl
    have k6 := (hg.block _ (lt_of_block i6) (by simp; omega)).trans i6
    have k7 : Chg (fun b => b = sb) w (W2.putObj (w.heap.size + 1 + 1) (.loop r2)) := i7.trans (Chg.grown hg (F := fun b => b = w.heap.size + 1 + 1) (fun b hb => by cases hb; rfl)) (fun b hb => .inr (by omega))
    rw [hr2] at k2 k4 k5 k6 k7
    clear hr2 hg i1 i2 i3 i4 i5 i6 i7
    dsimp only at k2 k4 k5 k6 k7 ⊢
    generalize W2.putObj (w.heap.size + 1 + 1) _ = W3 at k2 k4 k5 k6 k7 ⊢
    have hg2 := grownBy_putObj' W3 (w.heap.size + 1) (.deferred none)
    have q5 := ownsRow_putObj k5 (.deferred none) k2 rfl
    have q6 := (hg2.block _ (lt_of_block k6) (by simp; omega)).trans k6
    have q7 : Chg (fun b => b = sb) w (W3.putObj (w.heap.size + 1) (.deferred none)) := k7.trans (Chg.grown hg2 (F := fun b => b = w.heap.size + 1) (fun b hb => by cases hb; rfl)) (fun b hb => .inr (by omega))
    have c4 := k4.cell
    replace q5 := hide q5
    replace q6 := hide q6
    replace q7 := hide q7
    gi_wp2
    refine ⟨by simp, .inl ⟨_, _, rfl, run_takeDeferred k2, ?_⟩⟩
    exact ⟨_, results_tmp rfl _ _ _, v, rfl, q5.out, q6.out, q7.out⟩
end Go.Proofs.Ytfekldcpjoiipaa
