/-
  Layer 20: lists of hits in new memory: Rects, few; far.
-/
import Derived.Test.YtfekldcpjoiipaaLaw20t
import Derived.Test.YtfekldcpjoiipaaOpenH
import Derived.Test.YtfekldcpjoiipaaAppend
import Derived.Deep.AppendLies
namespace Go.Proofs.Ytfekldcpjoiipaa
open Go.RowKit Go.Shelf
set_option linter.unusedVariables false

theorem Try.infoRect : (Try.prog.info? 26).map (fun i => (i.zero, i.size, i.bytes)) = some (some (.agg #[.int .i64 0, .int .i64 0, .int .i64 0, .int .i64 0]), 4, 32) := by kernel_rfl
theorem Try.infoHits : (Try.prog.info? 23).map (fun i => (i.zero, i.size, i.bytes)) = some (some (.slice none 0 0), 1, 24) := by kernel_rfl

theorem own_typeE {w : World} {base : Nat} {e : TypeId} {sz n : Nat} {v : Value} {cs : List Value} (h : w.ownsRow base e sz v n cs) {g : Nat} (hg : v.ownBlock = some g) : ∃ cur, w.heap[g]? = some (.cells cur e (0, 0)) := by
  rcases h.2 with ⟨rfl, _⟩ | ⟨g', cap, cur, rfl, _, hgg, _⟩
  · cases hg
  · obtain rfl : g' = g := by simpa [Value.ownBlock] using hg
    exact ⟨cur, hgg⟩
/-- Rows of two types lie in two blocks. -/
theorem own_other {w : World} {b b' n n' s s' : Nat} {e e' : TypeId} {v v' : Value} {cs cs' : List Value} (h : w.ownsRow b e s v n cs) (h' : w.ownsRow b' e' s' v' n' cs') (hne : e ≠ e') : v.ownBlock = none ∨ v.ownBlock ≠ v'.ownBlock := by
  cases hv : v.ownBlock with
  | none => exact .inl rfl
  | some g =>
    refine .inr fun he => ?_
    obtain ⟨c1, h1⟩ := own_typeE h hv
    obtain ⟨c2, h2⟩ := own_typeE h' he.symm
    rw [h1] at h2
    simp only [Option.some.injEq, Obj.cells.injEq] at h2
    exact hne h2.2.1

set_option maxRecDepth 100000 in
theorem rects0_any (w : World) (v : Value) (xs : List Rect) (hr : RdR w v xs) (hlen : xs.length ≤ 1000) :
    Calls Try.prog 28 #[v] w fun e w' => ∃ v', e = .returned v' ∧ w'.ownsRow w.heap.size 26 4 v' xs.length (xs.flatMap Rect.enc) ∧ Below w.heap.size w w' := by
  obtain ⟨i0, hi, hz0, hz1, hz2⟩ := info_partsN Try.infoRect
  unfold RdR at hr
  have hr0 := hr
  obtain ⟨_, A, c, rfl, hc, _⟩ := hr0
  obtain ⟨n, hn⟩ : ∃ n, n = xs.length := ⟨_, rfl⟩
  rw [← hn] at hr hlen hc ⊢
  have h1 : ∀ u ∈ xs.flatMap Rect.enc, u.oneCell' = true := by
    intro u hu
    obtain ⟨r, _, hr⟩ := List.mem_flatMap.1 hu
    unfold Rect.enc at hr
    simp at hr
    rcases hr with rfl | rfl | rfl | rfl <;> rfl
  replace hn := hide hn
  generalize xs.flatMap Rect.enc = cs at hr h1 ⊢
  go_enter Try.func28, Try.ntmps28
  go_wp2_with (at_builtin; refine wpList_append_rd rfl _ _ 22 rfl w.heap.size 26 i0 _ 4 32 Try.underlying22 hi hz0 hz1 hz2 rfl (by decide) _ 0 [] rfl (World.ownsRow_nil _ _ _ _) A n c _ rfl hr h1 (by unfold maxLen; omega) (by omega) (Nat.le_refl _) ?_; intro v2 w2 hown2 hg2)
  have hB : Below w.heap.size w w2 := (Below.refl _ _).grown hg2 (Nat.le_refl _) (fun k e => by cases e)
  obtain ⟨A2, c2, rfl, hc2⟩ := own_form hown2
  go_wp2
  go_ret
  exact ⟨_, rfl, by simpa using hown2, hB⟩

def Hit.core (h : Hit) : Hit := { h with reg := .slice none 0 0 }
theorem Hit.good_core {h k : Hit} (e : h.core = k.core) (hg : h.good) : k.good := by
  unfold Hit.core at e
  simp only [Hit.mk.injEq] at e
  obtain ⟨h1, h2, h3, h4, h5, h6, _, h7⟩ := e
  exact ⟨h1 ▸ hg.s, h2 ▸ hg.x, h3 ▸ hg.y, h4 ▸ hg.w, h5 ▸ hg.h, h7 ▸ hg.r, h7 ▸ hg.l⟩

/-- A list of hits that the call has laid: out of the reference's. -/
structure HOut (base : Nat) (R M : HRow) (W : World) : Prop where
  row : W.ownsRow base 28 7 M.val M.l.length (M.l.flatMap Hit.enc)
  core : M.l.map Hit.core = R.l.map Hit.core
  reg : ∀ x ∈ M.l, W.ownsRow base 26 4 x.reg x.rects.length (x.rects.flatMap Rect.enc)
  good : ∀ x ∈ M.l, x.good
  len12 : M.l.length ≤ 12
theorem HOut.below {base : Nat} {R M : HRow} {W W' : World} (h : HOut base R M W) (hb : Below W.heap.size W W') : HOut base R M W' := ⟨own_below h.row hb, h.core, fun x hx => own_below (h.reg x hx) hb, h.good, h.len12⟩
theorem HOut.hits {base : Nat} {R M : HRow} {W : World} (h : HOut base R M W) : RdH W M.val M.l := ⟨Rd.of_own h.row, fun x hx => Rd.of_own (h.reg x hx)⟩

/-- One list's hits, as many as have come. -/
structure FewH (base : Nat) (R : HRow) (k : Nat) (vh : Value) (Hs : List Hit) (w W : World) : Prop where
  row : W.ownsRow base 28 7 vh Hs.length (Hs.flatMap Hit.enc)
  len : Hs.length = k
  core : Hs.map Hit.core = (R.l.take k).map Hit.core
  reg : ∀ x ∈ Hs, W.ownsRow base 26 4 x.reg x.rects.length (x.rects.flatMap Rect.enc)
  good : ∀ x ∈ Hs, x.good
  be : Below base w W

theorem FewH.push {base : Nat} {R : HRow} {k : Nat} {vh v3 vR : Value} {Hs : List Hit} {w W W2 W3 : World} {o : Obj} {x : Hit} (h : FewH base R k vh Hs w W) (hk : k < R.l.length) (hbs : base ≤ W.heap.size)
    (hx : x = { (R.l.getD k default) with reg := vR }) (hg : x.good) (h2 : Below W.heap.size W W2) (oR : W2.ownsRow W.heap.size 26 4 vR x.rects.length (x.rects.flatMap Rect.enc))
    (h3 : (W2.alloc o).grownBy W3 vh.ownBlock) (o3 : W3.ownsRow base 28 7 v3 (Hs.length + 1) (Hs.flatMap Hit.enc ++ x.enc)) : FewH base R (k + 1) v3 (Hs ++ [x]) w W3 := by
  have r2 := own_below h.row h2
  have hB3 : Below base W W3 := ((h2.mono hbs).alloc (Nat.le_trans hbs h2.size) o).grown h3 (by have := h2.size; simp; omega) (fun b hb => (h.row.lt b hb).1)
  have keepR : ∀ {bb n : Nat} {v : Value} {cs : List Value}, W2.ownsRow bb 26 4 v n cs → W3.ownsRow bb 26 4 v n cs := fun ho => (ho.alloc o).kept h3 (own_other (ho.alloc o) (r2.alloc o) (by decide))
  refine ⟨?_, by simp [h.len], ?_, ?_, ?_, h.be.trans hB3⟩
  · rw [List.length_append, List.flatMap_append]
    simpa using o3
  · rw [List.map_append, h.core, List.take_succ_eq_append_getElem hk, List.map_append]
    congr 1
    rw [hx]
    simp [Hit.core, List.getD, hk]
  · intro y hy
    rcases List.mem_append.1 hy with hy | hy
    · exact keepR (own_below (h.reg y hy) h2)
    · obtain rfl : y = x := by simpa using hy
      rw [show y.reg = vR by rw [hx]]
      exact own_le (keepR oR) hbs
  · intro y hy
    rcases List.mem_append.1 hy with hy | hy
    · exact h.good y hy
    · obtain rfl : y = x := by simpa using hy
      exact hg
theorem FewH.below {base : Nat} {R : HRow} {k : Nat} {vh : Value} {Hs : List Hit} {w W W' : World} (h : FewH base R k vh Hs w W) (hb : Below W.heap.size W W') (hbs : base ≤ W.heap.size) : FewH base R k vh Hs w W' :=
  ⟨own_below h.row hb, h.len, h.core, fun x hx => own_below (h.reg x hx) hb, h.good, h.be.trans (hb.mono hbs)⟩
theorem FewH.done {base : Nat} {R : HRow} {A : Option Addr} {c : Nat} {Hs : List Hit} {w W : World} (h : FewH base R R.l.length (.slice A R.l.length c) Hs w W) (h12 : R.l.length ≤ 12) : HOut base R ⟨A, c, Hs⟩ W :=
  ⟨by have := h.row; unfold HRow.val; dsimp only; rw [h.len] at this ⊢; exact this, by rw [h.core, List.take_length], h.reg, h.good, by show Hs.length ≤ 12; rw [h.len]; exact h12⟩

/-- The lists that have come. -/
structure FewI (Ls : List HRow) (i : Nat) (vm : Value) (Ms : List HRow) (w W : World) : Prop where
  row : W.ownsRow w.heap.size 23 1 vm i (Ms.map HRow.val)
  len : Ms.length = i
  each : ∀ k, k < i → HOut w.heap.size (Ls.getD k default) (Ms.getD k default) W
  be : Below w.heap.size w W
theorem FewI.below {Ls : List HRow} {i : Nat} {vm : Value} {Ms : List HRow} {w W W' : World} (h : FewI Ls i vm Ms w W) (hb : Below W.heap.size W W') : FewI Ls i vm Ms w W' :=
  ⟨own_below h.row hb, h.len, fun k hk => (h.each k hk).below hb, h.be.trans (hb.mono h.be.size)⟩
theorem FewI.push {Ls : List HRow} {i : Nat} {vm v3 : Value} {Ms : List HRow} {M : HRow} {w W W3 : World} {o : Obj} (h : FewI Ls i vm Ms w W) (hM : HOut w.heap.size (Ls.getD i default) M W)
    (h3 : (W.alloc o).grownBy W3 vm.ownBlock) (o3 : W3.ownsRow w.heap.size 23 1 v3 (i + 1) (Ms.map HRow.val ++ [M.val])) : FewI Ls (i + 1) v3 (Ms ++ [M]) w W3 := by
  have keep : ∀ {R M' : HRow}, HOut w.heap.size R M' W → HOut w.heap.size R M' W3 := fun {R M'} hm =>
    ⟨(hm.row.alloc o).kept h3 (own_other (hm.row.alloc o) (h.row.alloc o) (by decide)), hm.core, fun x hx => ((hm.reg x hx).alloc o).kept h3 (own_other ((hm.reg x hx).alloc o) (h.row.alloc o) (by decide)), hm.good, hm.len12⟩
  refine ⟨by simpa using o3, by simp [h.len], fun k hk => ?_, h.be.trans (((Below.refl _ _).alloc h.be.size o).grown h3 (by have := h.be.size; simp; omega) (fun b hb => (h.row.lt b hb).1))⟩
  rcases (show k < i ∨ k = i by omega) with hk | rfl
  · have e : (Ms ++ [M]).getD k default = Ms.getD k default := by
      simp [List.getD, List.getElem?_append_left (show k < Ms.length by rw [h.len]; exact hk)]
    rw [e]; exact keep (h.each k hk)
  · have e : (Ms ++ [M]).getD k default = M := by
      simp [List.getD, ← h.len]
    rw [e]; exact keep hM
end Go.Proofs.Ytfekldcpjoiipaa
