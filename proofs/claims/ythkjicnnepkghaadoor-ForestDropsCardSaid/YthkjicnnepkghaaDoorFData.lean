/-
  Forests as plain data: states, surfaces, what the calls make of them.
-/
import Derived.Test.YthkjicnnepkghaaDoorOrder
namespace Go.Proofs.YthkjicnnepkghaaDoor
open Go.RowKit

structure R4 where
  x : Int
  y : Int
  w : Int
  h : Int
deriving DecidableEq
instance : Inhabited R4 := ⟨⟨0, 0, 0, 0⟩⟩
def R4.enc (r : R4) : List Value := [.int .i64 r.x, .int .i64 r.y, .int .i64 r.w, .int .i64 r.h]
def R4.val (r : R4) : Value := .agg #[.int .i64 r.x, .int .i64 r.y, .int .i64 r.w, .int .i64 r.h]
theorem R4.len (r : R4) : r.enc.length = 4 := rfl
structure Ch where
  id : Int
  x : Int
  y : Int
deriving DecidableEq
instance : Inhabited Ch := ⟨⟨0, 0, 0⟩⟩
def Ch.enc (c : Ch) : List Value := [.int .i64 c.id, .int .i64 c.x, .int .i64 c.y]
def Ch.val (c : Ch) : Value := .agg #[.int .i64 c.id, .int .i64 c.x, .int .i64 c.y]
theorem Ch.len (c : Ch) : c.enc.length = 3 := rfl

/-- What a surface has, or is to have. -/
structure St where
  attach : Bool
  buffer : Int
  damage : List R4
  frames : List Int
  input : Bool
  all : Bool
  region : List R4
  ordered : Bool
  order : List Int
  places : List Ch
deriving DecidableEq
def St.zero : St := ⟨false, 0, [], [], false, false, [], false, [], []⟩
instance : Inhabited St := ⟨St.zero⟩
def St.first : St := ⟨false, 0, [], [], false, true, [], false, [0], []⟩

def findP (l : List Ch) (id : Int) : Option Ch := l.find? fun c => c.id == id
def putP : List Ch → Ch → List Ch
  | [], c => [c]
  | x :: l, c => if x.id = c.id then c :: l else x :: putP l c
def putsP (a b : List Ch) : List Ch := b.foldl putP a
def dropP (l : List Ch) (id : Int) : List Ch := l.filter fun c => c.id != id
def mergeT (a b : St) : St where
  attach := a.attach || b.attach
  buffer := if b.attach then b.buffer else a.buffer
  damage := a.damage ++ b.damage
  frames := a.frames ++ b.frames
  input := a.input || b.input
  all := if b.input then b.all else a.all
  region := if b.input then b.region else a.region
  ordered := a.ordered || b.ordered
  order := if b.ordered then b.order else a.order
  places := putsP a.places b.places
def applyT (now s : St) : St := { mergeT now s with attach := false, damage := [], input := false, ordered := false }
def noneT (s : St) : Bool := !s.attach && s.damage.isEmpty && s.frames.isEmpty && !s.input && !s.ordered && s.places.isEmpty

theorem putP_len (l : List Ch) (c : Ch) : (putP l c).length ≤ l.length + 1 := by
  induction l with
  | nil => simp [putP]
  | cons x l ih => unfold putP; split <;> simp <;> omega
theorem putP_ge (l : List Ch) (c : Ch) : l.length ≤ (putP l c).length := by
  induction l with
  | nil => simp [putP]
  | cons x l ih => unfold putP; split <;> simp <;> omega
theorem putsP_len (b : List Ch) : ∀ a, (putsP a b).length ≤ a.length + b.length := by
  induction b with
  | nil => intro a; simp [putsP]
  | cons c b ih =>
    intro a
    have h1 := ih (putP a c)
    have h2 := putP_len a c
    unfold putsP at h1 ⊢
    simp only [List.foldl_cons, List.length_cons]
    omega
theorem putsP_snoc (a b : List Ch) (c : Ch) : putsP a (b ++ [c]) = putP (putsP a b) c := by unfold putsP; rw [List.foldl_append]; rfl
theorem putP_none {l : List Ch} {c : Ch} (h : ∀ x ∈ l, x.id ≠ c.id) : putP l c = l ++ [c] := by
  induction l with
  | nil => rfl
  | cons x l ih =>
    unfold putP
    rw [if_neg (h x (by simp)), ih fun y hy => h y (by simp [hy])]
    rfl
theorem putP_at {l : List Ch} {c : Ch} : ∀ {k : Nat}, k < l.length → (l.getD k default).id = c.id → (∀ j, j < k → (l.getD j default).id ≠ c.id) → putP l c = l.set k c := by
  induction l with
  | nil => intro k hk; simp at hk
  | cons x l ih =>
    intro k hk he hf
    cases k with
    | zero =>
      have he : x.id = c.id := he
      unfold putP; rw [if_pos he]; rfl
    | succ k =>
      have h0 : x.id ≠ c.id := hf 0 (by omega)
      unfold putP
      rw [if_neg h0, ih (by simpa using hk) he fun j hj => hf (j + 1) (by omega)]
      rfl

/-- A surface. -/
structure Sf where
  parent : Int
  sync : Bool
  pe : St
  ca : St
  cu : St
deriving DecidableEq
instance : Inhabited Sf := ⟨⟨0, false, St.zero, St.zero, St.zero⟩⟩
def Sf.latest (s : Sf) : List Int := if s.pe.ordered then s.pe.order else if s.ca.ordered then s.ca.order else s.cu.order
/-- Surfaces by their numbers. -/
abbrev Fo := Int → Option Sf
def setM (M : Fo) (id : Int) (v : Option Sf) : Fo := fun i => if i = id then v else M i
def parM (M : Fo) (id : Int) : Int := match M id with | some s => s.parent | none => 0
/-- So many surfaces there are. -/
def CntM (M : Fo) (k : Nat) : Prop := ∃ l : List Int, l.Nodup ∧ l.length = k ∧ ∀ x, x ∈ l ↔ (M x).isSome = true

def faddK (M : Fo) (k : Nat) (id : Int) : Nat := if id < 1 then 1 else if (M id).isSome then 5 else if 40 ≤ k then 4 else 0
def newSf : Sf := ⟨0, false, St.zero, St.zero, St.first⟩
def faddS (M : Fo) (k : Nat) (id : Int) : Fo := if faddK M k id = 0 then setM M id (some newSf) else M

/-- id is x, or above it. -/
inductive Up (M : Fo) (id : Int) : Int → Prop
  | here : 0 < id → Up M id id
  | up {x : Int} : 0 < x → Up M id (parM M x) → Up M id x
/-- A surface waits for its parent. -/
inductive Syn (M : Fo) : Int → Prop
  | here {id : Int} {s : Sf} : M id = some s → s.parent ≠ 0 → s.sync = true → Syn M id
  | up {id : Int} {s : Sf} : M id = some s → s.parent ≠ 0 → Syn M s.parent → Syn M id

open Classical in
noncomputable def fsubK (M : Fo) (id parent : Int) : Nat := match M id, M parent with
  | some s, some _ => if s.parent ≠ 0 then 10 else if Up M id parent then 11 else 0
  | _, _ => 5
def orderT (s : Sf) (l : List Int) : Sf := { s with pe := { s.pe with ordered := true, order := l } }
def placeT (s : Sf) (c : Ch) : Sf := { s with pe := { s.pe with places := putP s.pe.places c } }
def subbed (M : Fo) (id parent : Int) : Fo := match M id, M parent with
  | some s, some p => setM (setM M id (some { s with parent := parent, sync := true })) parent (some (placeT (orderT p (without p.latest id ++ [id])) ⟨id, 0, 0⟩))
  | _, _ => M
noncomputable def fsubS (M : Fo) (id parent : Int) : Fo := if fsubK M id parent = 0 then subbed M id parent else M

/-- 0: it is a subsurface; an error's number. -/
def childK (M : Fo) (id : Int) : Nat := match M id with
  | none => 5
  | some s => if s.parent = 0 then 10 else 0
def cutT (s : St) (id : Int) : St := { s with order := without s.order id, places := dropP s.places id }
def cutSf (p : Sf) (id : Int) : Sf := { p with pe := cutT p.pe id, ca := cutT p.ca id, cu := cutT p.cu id }
def funsubS (M : Fo) (id : Int) : Fo := match M id with
  | none => M
  | some s => match M s.parent with
    | none => M
    | some p => if s.parent = 0 then M else setM (setM M id (some { s with parent := 0 })) s.parent (some (cutSf p id))
def fdropK (M : Fo) (id : Int) : Nat := if (M id).isSome then 0 else 5
def orphan (M : Fo) (id : Int) : Fo := fun j => (M j).map fun s => if s.parent = id then { s with parent := 0 } else s
def fdropS (M : Fo) (id : Int) : Fo := if (M id).isSome then setM (orphan (funsubS M id) id) id none else M

def thereK (M : Fo) (id : Int) : Nat := if (M id).isSome then 0 else 5
def turnS (M : Fo) (id : Int) (f : St → St) : Fo := match M id with
  | none => M
  | some s => setM M id (some { s with pe := f s.pe })
def attachT (b : Int) (s : St) : St := { s with attach := true, buffer := b }
def damageT (r : R4) (s : St) : St := { s with damage := s.damage ++ [r] }
def frameT (c : Int) (s : St) : St := { s with frames := s.frames ++ [c] }
def inputT (a : Bool) (l : List R4) (s : St) : St := { s with input := true, all := a, region := if a then [] else l }
def cutF (n : Int) : Int := max (-16777216) (min n 16777216)
def fposS (M : Fo) (id x y : Int) : Fo := match M id with
  | none => M
  | some s => match M s.parent with
    | none => M
    | some p => if s.parent = 0 then M else setM M s.parent (some (placeT p ⟨id, cutF x, cutF y⟩))
def fsyncS (M : Fo) (id : Int) (on : Bool) : Fo := match M id with
  | none => M
  | some s => if s.parent = 0 then M else setM M id (some { s with sync := on })
end Go.Proofs.YthkjicnnepkghaaDoor
