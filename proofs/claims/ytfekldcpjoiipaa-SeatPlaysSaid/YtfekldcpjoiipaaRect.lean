/-
  Rectangles: Empty, has, Has.
-/
import Derived.Test.YtfekldcpjoiipaaBase
import Derived.Test.YtfekldcpjoiipaaProg
namespace Go.Proofs.Ytfekldcpjoiipaa
open Go.RowKit

structure Rect where
  x : Int
  y : Int
  w : Int
  h : Int
deriving DecidableEq
instance : Inhabited Rect := ⟨⟨0, 0, 0, 0⟩⟩
def Rect.enc (r : Rect) : List Value := [.int .i64 r.x, .int .i64 r.y, .int .i64 r.w, .int .i64 r.h]
def Rect.val (r : Rect) : Value := .agg #[.int .i64 r.x, .int .i64 r.y, .int .i64 r.w, .int .i64 r.h]
def Rect.good (r : Rect) : Prop := I64 r.x ∧ I64 r.y ∧ I64 r.w ∧ I64 r.h

def emptyR (r : Rect) : Bool := decide (r.w < 1) || decide (r.h < 1)
def hasN (at' size n : Int) : Bool := decide (at' ≤ n) && decide (n - at' < size)
def hasR (r : Rect) (x y : Int) : Bool := !emptyR r && (hasN r.x r.w x && hasN r.y r.h y)

set_option maxRecDepth 100000 in
theorem rEmpty_any (w : World) (x y u v : Int) :
    Calls Try.prog 36 #[.agg #[.int .i64 x, .int .i64 y, .int .i64 u, .int .i64 v]] w fun e w' => e = .returned (.bool (decide (u < 1) || decide (v < 1))) ∧ Below w.heap.size w w' := by
  have hb : ∀ o, Below w.heap.size w (w.alloc o) := fun o => (Below.refl _ _).alloc (Nat.le_refl _) o
  by_cases h1 : u < 1
  · by_cases h2 : v < 1
    all_goals
      go_enter Try.func36, Try.ntmps36
      go_wp2
      go_ret
      exact ⟨by simp [h1, h2], hb _⟩
  · by_cases h2 : v < 1
    all_goals
      go_enter Try.func36, Try.ntmps36
      go_wp2
      go_ret
      exact ⟨by simp [h1, h2], hb _⟩

theorem u64_sub {a n : Int} (h : a ≤ n) (h2 : n - a < 18446744073709551616) : IntKind.u64.wrap (IntKind.u64.wrap n - IntKind.u64.wrap a) = n - a := by
  have e : ∀ x, IntKind.u64.wrap x = x % 18446744073709551616 := fun x => by unfold IntKind.wrap; rfl
  rw [e, e, e, ← Int.sub_emod, Int.emod_eq_of_lt (by omega) h2]

theorem bcell {W w1 : World} (hb : Below W.heap.size W w1) : (∀ b o, b < W.heap.size → w1.cell? ⟨b, o, none⟩ = W.cell? ⟨b, o, none⟩) ∧ (∀ b o, b < W.heap.size → w1.frozen? ⟨b, o, none⟩ = W.frozen? ⟨b, o, none⟩) :=
  ⟨fun b o h => hb.cell (p := ⟨b, o, none⟩) h, fun b o h => hb.frozen (p := ⟨b, o, none⟩) h⟩

set_option maxRecDepth 100000 in
theorem rhas_any (w : World) (a s n : Int) (ha : I64 a) (hs : I64 s) (hn : I64 n) (h1 : 1 ≤ s) :
    Calls Try.prog 37 #[.int .i64 a, .int .i64 s, .int .i64 n] w fun e w' => e = .returned (.bool (hasN a s n)) ∧ w = w' := by
  unfold I64 at ha hs hn
  by_cases h2 : a ≤ n
  · go_enter Try.func37, Try.ntmps37
    go_wp2
    go_ret
    exact ⟨by rw [u64_sub h2 (by omega)]; simp [hasN, h2], rfl⟩
  · go_enter Try.func37, Try.ntmps37
    go_wp2
    go_ret
    exact ⟨by have : ¬ a ≤ n := by omega
              simp [hasN, this], rfl⟩

/-- A rectangle's has, both ways. -/
theorem rHas_any (w : World) (r : Rect) (x y : Int) (hr : r.good) (hx : I64 x) (hy : I64 y) :
    Calls Try.prog 26 #[r.val, .int .i64 x, .int .i64 y] w fun e w' => e = .returned (.bool (hasR r x y)) ∧ Below w.heap.size w w' := by
  obtain ⟨a, b, u, v⟩ := r
  obtain ⟨h1, h2, h3, h4⟩ := hr
  dsimp only at h1 h2 h3 h4
  unfold Rect.val hasR emptyR
  dsimp only
  have hb : Below w.heap.size w (w.alloc (.cells #[.int .i64 a, .int .i64 b, .int .i64 u, .int .i64 v] 26)) := (Below.refl _ _).alloc (Nat.le_refl _) _
  have HB := hide hb
  have cE := hide (rEmpty_any (w.alloc (.cells #[.int .i64 a, .int .i64 b, .int .i64 u, .int .i64 v] 26)) a b u v)
  obtain ⟨q, hq⟩ : ∃ q, q = (decide (u < 1) || decide (v < 1)) := ⟨_, rfl⟩
  rw [← hq] at cE ⊢
  have hqt : q = true ∨ (q = false ∧ 1 ≤ u ∧ 1 ≤ v) := by
    rw [hq]
    by_cases g1 : u < 1 <;> by_cases g2 : v < 1 <;> simp [g1, g2] <;> omega
  clear hq hb
  rcases hqt with rfl | ⟨rfl, hu, hv⟩
  · replace cE := hide cE
    go_enter Try.func26, Try.ntmps26
    go_wp2_with (go_at_call 36; refine cE.out.mono ?_; rintro e w2 ⟨rfl, hb2⟩)
    go_ret
    exact ⟨by simp, HB.out.trans (hb2.mono (by simp))⟩
  · have c1 := fun w => rhas_any w a u x h1 h3 hx hu
    have c2 := fun w => rhas_any w b v y h2 h4 hy hv
    obtain ⟨q1, hq1⟩ : ∃ q, q = hasN a u x := ⟨_, rfl⟩
    obtain ⟨q2, hq2⟩ : ∃ q, q = hasN b v y := ⟨_, rfl⟩
    rw [← hq1] at c1 ⊢
    rw [← hq2] at c2 ⊢
    clear hq1 hq2
    replace c1 := hide c1
    replace c2 := hide c2
    cases q1 <;> cases q2
    all_goals
      go_enter Try.func26, Try.ntmps26
      go_wp2_with (first | (go_at_call 36; refine cE.out.mono ?_; rintro e w2 ⟨rfl, hb2⟩; obtain ⟨hcw, hfw⟩ := bcell hb2) | (go_at_call 37; first | ((with_reducible refine (c1.out _).mono ?_); rintro e w3 ⟨rfl, rfl⟩) | ((with_reducible refine (c2.out _).mono ?_); rintro e w3 ⟨rfl, rfl⟩)))
      go_ret
      exact ⟨by simp, HB.out.trans (hb2.mono (by simp))⟩
end Go.Proofs.Ytfekldcpjoiipaa
