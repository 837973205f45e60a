/-
  The law SeatPlays: the two seats side by side; the switch's ways.
-/
import Derived.Test.YtfekldcpjoiipaaLaw20e
import Derived.Test.YtfekldcpjoiipaaRef20b
import Derived.Deep.CutBlock
namespace Go.Proofs.Ytfekldcpjoiipaa
open Go.RowKit Go.Shelf
set_option linter.unusedVariables false

structure St where
  x : Int
  y : Int
  k : Int
  f : Int
def St.mv (l : List Hit) (ox oy : Int) (s : St) : St := ⟨cutE ox, cutE oy, (atH l (cutE ox) (cutE oy)).1, s.f⟩
def St.lk (l : List Hit) (s : St) : St := ⟨s.x, s.y, (atH l s.x s.y).1, s.f⟩
def St.ky (ox : Int) (s : St) : St := ⟨s.x, s.y, s.k, ox⟩
def St.go (ox : Int) (s : St) : St := ⟨s.x, s.y, if s.k = ox then 0 else s.k, if s.f = ox then 0 else s.f⟩
def keyN (ox : Int) (s : St) : List Note := if ox = s.f then [] else turnN s.f ox 0 0
theorem keyN_len (ox : Int) (s : St) : (keyN ox s).length ≤ 2 := by
  unfold keyN turnN
  split
  · simp
  · split <;> split <;> simp

/-- The two seats, and the lists. -/
structure DuoS (W w0 : World) (Ls Ms : List HRow) (vm : Value) (p q : Nat) (s s' : St) (w : World) : Prop where
  s : SeatL W w0 Ls Ms vm p s.x s.y s.k s.f w
  r : RefAt w q s'.x s'.y s'.k s'.f
  apart : W.heap.size ≤ q ∧ q ≠ p ∧ vm.ownBlock ≠ some q ∧ ∀ M ∈ Ms, M.val.ownBlock ≠ some q ∧ ∀ h ∈ M.l, h.reg.ownBlock ≠ some q
  i64 : I64 s'.x ∧ I64 s'.y
section
variable {W w0 w w' : World} {Ls Ms : List HRow} {vm : Value} {p q : Nat} {s s' t : St}
theorem DuoS.below (h : DuoS W w0 Ls Ms vm p q s s' w) (hb : Below w.heap.size w w') : DuoS W w0 Ls Ms vm p q s s' w' := ⟨h.s.below hb, h.r.below hb, h.apart, h.i64⟩
theorem SeatL.chg {x y k f : Int} (h : SeatL W w0 Ls Ms vm p x y k f w) (hc : Chg (fun b => b = q) w w') (hq : W.heap.size ≤ q ∧ q ≠ p ∧ vm.ownBlock ≠ some q ∧ ∀ M ∈ Ms, M.val.ownBlock ≠ some q ∧ ∀ h ∈ M.l, h.reg.ownBlock ≠ some q) : SeatL W w0 Ls Ms vm p x y k f w' :=
  ⟨(hc.block p h.seat.lt (fun e => hq.2.1 e.symm)).trans h.seat, ⟨own_chgE h.few.row hc hq.2.2.1, h.few.len, fun i hi => by
    have ho := h.few.each i hi
    have hm : Ms.getD i default ∈ Ms := getD_mem (by rw [h.few.len]; exact hi)
    exact ⟨own_chgE ho.row hc (hq.2.2.2 _ hm).1, ho.core, fun z hz => own_chgE (ho.reg z hz) hc ((hq.2.2.2 _ hm).2 z hz), ho.good, ho.len12⟩,
    h.few.be.trans (hc.below h.few.be.size (fun b hb => by rw [hb]; exact hq.1))⟩, h.apart, h.i64⟩
theorem DuoS.ref (h : DuoS W w0 Ls Ms vm p q s s' w) (hr : RefAt w' q t.x t.y t.k t.f) (hc : Chg (fun b => b = q) w w') (hi : I64 t.x ∧ I64 t.y) : DuoS W w0 Ls Ms vm p q s t w' :=
  ⟨h.s.chg hc h.apart, hr, h.apart, hi⟩
theorem DuoS.seat (h : DuoS W w0 Ls Ms vm p q s s' w) (hs : SeatAt w' p t.x t.y t.k t.f) (hc : Chg (fun b => b = p) w w') (hi : I64 t.x ∧ I64 t.y) : DuoS W w0 Ls Ms vm p q t s' w' :=
  ⟨h.s.turn hs hc hi, (hc.block q h.r.lt h.apart.2.1).trans h.r, h.apart, h.i64⟩
end

/-- The call's own struct, the two lists' cells. -/
structure Six (p q ob bm om bl ol : Nat) (o : Op20) (vh vl : Value) (w : World) : Prop where
  c0 : w.cell? ⟨ob, 0, none⟩ = some (.int .i64 o.kind)
  c1 : w.cell? ⟨ob, 1, none⟩ = some (.int .i64 o.id)
  c2 : w.cell? ⟨ob, 2, none⟩ = some (.int .i64 o.face)
  c3 : w.cell? ⟨ob, 3, none⟩ = some (.int .i64 o.vers)
  ch : w.cell? ⟨bm, om, none⟩ = some vh
  cl : w.cell? ⟨bl, ol, none⟩ = some vl
  lt : ob < w.heap.size ∧ bm < w.heap.size ∧ bl < w.heap.size
  ne : (ob ≠ p ∧ bm ≠ p ∧ bl ≠ p) ∧ ob ≠ q ∧ bm ≠ q ∧ bl ≠ q
theorem Six.keep {p q ob bm om bl ol : Nat} {o : Op20} {vh vl : Value} {w w' : World} (h : Six p q ob bm om bl ol o vh vl w) (hz : w.heap.size ≤ w'.heap.size) (hk : ∀ b, b < w.heap.size → b ≠ p ∧ b ≠ q → w'.heap[b]? = w.heap[b]?) : Six p q ob bm om bl ol o vh vl w' := by
  obtain ⟨c0, c1, c2, c3, ch, cl, ⟨l1, l2, l3⟩, ⟨n1, n2, n3⟩, m1, m2, m3⟩ := h
  have K : ∀ b o, b < w.heap.size → b ≠ p ∧ b ≠ q → w'.cell? ⟨b, o, none⟩ = w.cell? ⟨b, o, none⟩ := fun b o hb hn => World.cell?_of_block (a := ⟨b, o, none⟩) (hk b hb hn)
  exact ⟨(K _ _ l1 ⟨n1, m1⟩).trans c0, (K _ _ l1 ⟨n1, m1⟩).trans c1, (K _ _ l1 ⟨n1, m1⟩).trans c2, (K _ _ l1 ⟨n1, m1⟩).trans c3, (K _ _ l2 ⟨n2, m2⟩).trans ch, (K _ _ l3 ⟨n3, m3⟩).trans cl, ⟨by omega, by omega, by omega⟩, ⟨n1, n2, n3⟩, m1, m2, m3⟩

/-- All of it. -/
structure Tri (W w0 : World) (Ls Ms : List HRow) (vm : Value) (p q ob bm om bl ol : Nat) (o : Op20) (vh vl : Value) (s s' : St) (w : World) : Prop where
  duo : DuoS W w0 Ls Ms vm p q s s' w
  six : Six p q ob bm om bl ol o vh vl w
/-- Which lists. -/
structure Cx (W : World) (Ls Ms : List HRow) (qn : Nat) (vh vl : Value) (l : List Hit) : Prop where
  hi : qn < Ls.length
  hv : (Ms.getD qn default).val = vh
  core : (Ms.getD qn default).l.map Hit.core = l.map Hit.core
  rd : RdH W vl l
  good : ∀ z ∈ l, z.good
  len : l.length ≤ 1000000
section
variable {W w0 w w' : World} {Ls Ms : List HRow} {vm : Value} {p q ob bm om bl ol qn : Nat} {o : Op20} {vh vl : Value} {s s' t : St} {l : List Hit} {ox oy : Int}
theorem Tri.below (h : Tri W w0 Ls Ms vm p q ob bm om bl ol o vh vl s s' w) (hb : Below w.heap.size w w') : Tri W w0 Ls Ms vm p q ob bm om bl ol o vh vl s s' w' :=
  ⟨h.duo.below hb, h.six.keep hb.size (fun b hl _ => hb.block b hl)⟩
theorem Tri.drew (h : Tri W w0 Ls Ms vm p q ob bm om bl ol o vh vl s s' w) : Tri W w0 Ls Ms vm p q ob bm om bl ol o vh vl s s' w.drew := h.below (below_drewN (Below.refl _ _) 1)
theorem Tri.ref (h : Tri W w0 Ls Ms vm p q ob bm om bl ol o vh vl s s' w) (hr : RefAt w' q t.x t.y t.k t.f) (hc : Chg (fun b => b = q) w w') (hi : I64 t.x ∧ I64 t.y) : Tri W w0 Ls Ms vm p q ob bm om bl ol o vh vl s t w' :=
  ⟨h.duo.ref hr hc hi, h.six.keep hc.size (fun b hl hn => hc.block b hl hn.2)⟩
theorem Tri.seat (h : Tri W w0 Ls Ms vm p q ob bm om bl ol o vh vl s s' w) (hs : SeatAt w' p t.x t.y t.k t.f) (hc : Chg (fun b => b = p) w w') (hi : I64 t.x ∧ I64 t.y) : Tri W w0 Ls Ms vm p q ob bm om bl ol o vh vl t s' w' :=
  ⟨h.duo.seat hs hc hi, h.six.keep hc.size (fun b hl hn => hc.block b hl hn.1)⟩
theorem Cx.rdAt (x : Cx W Ls Ms qn vh vl l) (h : DuoS W w0 Ls Ms vm p q s s' w) : RdH w vl l := x.rd.below h.s.few.be (Nat.le_refl _)

theorem tAt (x : Cx W Ls Ms qn vh vl l) (h : Tri W w0 Ls Ms vm p q ob bm om bl ol o vh vl s s' w) (gx : I64 ox) (gy : I64 oy) :
    Calls Try.prog 8 #[vh, .int .i64 ox, .int .i64 oy] w fun e w' => e = .returned (.tuple #[.int .i64 (atH l ox oy).1, .int .i64 (atH l ox oy).2.1, .int .i64 (atH l ox oy).2.2]) ∧ Tri W w0 Ls Ms vm p q ob bm om bl ol o vh vl s s' w' := by
  obtain ⟨h1, h2, h3, h4, h5⟩ := h.duo.s.list x.hi
  rw [x.hv] at h1
  refine (at_any w vh _ ox oy h1 h2 gx gy h5).mono ?_
  rintro e w' ⟨rfl, hb⟩
  rw [atH_core x.core]
  exact ⟨rfl, h.below hb⟩
theorem tRAt (x : Cx W Ls Ms qn vh vl l) (h : Tri W w0 Ls Ms vm p q ob bm om bl ol o vh vl s s' w) (gx : I64 ox) (gy : I64 oy) :
    Calls Try.prog 18 #[vl, .int .i64 ox, .int .i64 oy] w fun e w' => e = .returned (.tuple #[.int .i64 (atH l ox oy).1, .int .i64 (atH l ox oy).2.1, .int .i64 (atH l ox oy).2.2]) ∧ Tri W w0 Ls Ms vm p q ob bm om bl ol o vh vl s s' w' := by
  refine (rAt_any w vl l ox oy (x.rdAt h.duo) x.good gx gy x.len).mono ?_
  rintro e w' ⟨rfl, hb⟩
  exact ⟨rfl, h.below hb⟩
theorem tMove (x : Cx W Ls Ms qn vh vl l) (h : Tri W w0 Ls Ms vm p q ob bm om bl ol o vh vl s s' w) (ox oy : Int) :
    Calls Try.prog 13 #[.pointer (some ⟨p, 0, none⟩), .int .i64 ox, .int .i64 oy, vh] w fun e w' => ∃ v, e = .returned v ∧ w'.ownsRow w.heap.size 47 4 v (moveN l (cutE ox) (cutE oy) s.k).length ((moveN l (cutE ox) (cutE oy) s.k).flatMap Note.enc) ∧
      v.ownBlock ≠ some q ∧ Tri W w0 Ls Ms vm p q ob bm om bl ol o vh vl (s.mv l ox oy) s' w' := by
  obtain ⟨h1, h2, h3, h4, h5⟩ := h.duo.s.list x.hi
  have hc := x.core
  rw [x.hv] at h1 h3
  refine (move_any w p s.x s.y s.k s.f ox oy vh _ h.duo.s.seat h1 h2 h3 h4 h5).mono ?_
  rintro e w' ⟨v, rfl, ho, hs, hC⟩
  rw [(notes_core hc _ _ _).1] at ho
  rw [atH_core hc] at hs
  exact ⟨v, rfl, ho, own_base ho h.duo.r.lt, h.seat (t := s.mv l ox oy) hs hC ⟨cutE_i64 _, cutE_i64 _⟩⟩
theorem tRMove (x : Cx W Ls Ms qn vh vl l) (h : Tri W w0 Ls Ms vm p q ob bm om bl ol o vh vl s s' w) (ox oy : Int) :
    Calls Try.prog 23 #[.pointer (some ⟨q, 0, none⟩), .int .i64 ox, .int .i64 oy, vl] w fun e w' => ∃ v, e = .returned v ∧ w'.ownsRow w.heap.size 81 4 v (moveN l (cutE ox) (cutE oy) s'.k).length ((moveN l (cutE ox) (cutE oy) s'.k).flatMap Note.enc) ∧
      Chg (fun b => b = q) w w' ∧ Tri W w0 Ls Ms vm p q ob bm om bl ol o vh vl s (s'.mv l ox oy) w' := by
  refine (rMove_any w q s'.x s'.y s'.k s'.f ox oy vl l h.duo.r (fun w2 hc => x.rd.below (h.duo.s.few.be.trans (hc.below h.duo.s.few.be.size (fun b hb => by rw [hb]; exact h.duo.apart.1))) (Nat.le_refl _)) x.good x.len).mono ?_
  rintro e w' ⟨v, rfl, ho, hs, hC⟩
  exact ⟨v, rfl, ho, hC, h.ref (t := s'.mv l ox oy) hs hC ⟨cutE_i64 _, cutE_i64 _⟩⟩
theorem tLook (x : Cx W Ls Ms qn vh vl l) (h : Tri W w0 Ls Ms vm p q ob bm om bl ol o vh vl s s' w) :
    Calls Try.prog 14 #[.pointer (some ⟨p, 0, none⟩), vh] w fun e w' => ∃ v, e = .returned v ∧ w'.ownsRow w.heap.size 47 4 v (lookN l s.x s.y s.k).length ((lookN l s.x s.y s.k).flatMap Note.enc) ∧
      v.ownBlock ≠ some q ∧ Tri W w0 Ls Ms vm p q ob bm om bl ol o vh vl (s.lk l) s' w' := by
  obtain ⟨h1, h2, h3, h4, h5⟩ := h.duo.s.list x.hi
  have hc := x.core
  rw [x.hv] at h1
  refine (look_any w p s.x s.y s.k s.f vh _ h.duo.s.seat h1 h2 h.duo.s.i64.1 h.duo.s.i64.2 h5).mono ?_
  rintro e w' ⟨v, rfl, ho, hs, hC⟩
  rw [(notes_core hc _ _ _).2] at ho
  rw [atH_core hc] at hs
  exact ⟨v, rfl, ho, own_base ho h.duo.r.lt, h.seat (t := s.lk l) hs hC h.duo.s.i64⟩
theorem tRLook (x : Cx W Ls Ms qn vh vl l) (h : Tri W w0 Ls Ms vm p q ob bm om bl ol o vh vl s s' w) :
    Calls Try.prog 20 #[.pointer (some ⟨q, 0, none⟩), vl, .bool false] w fun e w' => ∃ v, e = .returned v ∧ w'.ownsRow w.heap.size 81 4 v (lookN l s'.x s'.y s'.k).length ((lookN l s'.x s'.y s'.k).flatMap Note.enc) ∧
      Chg (fun b => b = q) w w' ∧ Tri W w0 Ls Ms vm p q ob bm om bl ol o vh vl s (s'.lk l) w' := by
  refine (rLook_any w q s'.x s'.y s'.k s'.f vl l false h.duo.r (x.rdAt h.duo) x.good h.duo.i64.1 h.duo.i64.2 x.len).mono ?_
  rintro e w' ⟨v, rfl, ho, hs, hC⟩
  rw [refN_look] at ho
  exact ⟨v, rfl, ho, hC, h.ref (t := s'.lk l) hs hC h.duo.i64⟩
theorem tKeys (h : Tri W w0 Ls Ms vm p q ob bm om bl ol o vh vl s s' w) (ox : Int) :
    Calls Try.prog 17 #[.pointer (some ⟨p, 0, none⟩), .int .i64 ox] w fun e w' => ∃ v, e = .returned v ∧ w'.ownsRow w.heap.size 47 4 v (keyN ox s).length ((keyN ox s).flatMap Note.enc) ∧
      v.ownBlock ≠ some q ∧ Tri W w0 Ls Ms vm p q ob bm om bl ol o vh vl (s.ky ox) s' w' := by
  refine (keys_any w p s.x s.y s.k s.f ox h.duo.s.seat).mono ?_
  rintro e w' ⟨v, rfl, ho, hs, hC⟩
  exact ⟨v, rfl, ho, own_base ho h.duo.r.lt, h.seat (t := s.ky ox) hs hC h.duo.s.i64⟩
theorem tRKeys (h : Tri W w0 Ls Ms vm p q ob bm om bl ol o vh vl s s' w) (ox : Int) :
    Calls Try.prog 21 #[.pointer (some ⟨q, 0, none⟩), .int .i64 ox] w fun e w' => ∃ v, e = .returned v ∧ w'.ownsRow w.heap.size 81 4 v (keyN ox s').length ((keyN ox s').flatMap Note.enc) ∧
      Chg (fun b => b = q) w w' ∧ Tri W w0 Ls Ms vm p q ob bm om bl ol o vh vl s (s'.ky ox) w' := by
  refine (rKeys_any w q s'.x s'.y s'.k s'.f ox h.duo.r).mono ?_
  rintro e w' ⟨v, rfl, ho, hs, hC⟩
  exact ⟨v, rfl, ho, hC, h.ref (t := s'.ky ox) hs hC h.duo.i64⟩
theorem tGone (h : Tri W w0 Ls Ms vm p q ob bm om bl ol o vh vl s s' w) (ox : Int) :
    Calls Try.prog 16 #[.pointer (some ⟨p, 0, none⟩), .int .i64 ox] w fun e w' => (∃ v, e = .returned v) ∧ Tri W w0 Ls Ms vm p q ob bm om bl ol o vh vl (s.go ox) s' w' := by
  refine (gone_any w p s.x s.y s.k s.f ox h.duo.s.seat).mono ?_
  rintro e w' ⟨he, hs, hC⟩
  exact ⟨he, h.seat (t := s.go ox) hs hC h.duo.s.i64⟩
theorem tRGone (h : Tri W w0 Ls Ms vm p q ob bm om bl ol o vh vl s s' w) (ox : Int) :
    Calls Try.prog 22 #[.pointer (some ⟨q, 0, none⟩), .int .i64 ox] w fun e w' => (∃ v, e = .returned v) ∧ Tri W w0 Ls Ms vm p q ob bm om bl ol o vh vl s (s'.go ox) w' := by
  refine (rGone_any w q s'.x s'.y s'.k s'.f ox h.duo.r).mono ?_
  rintro e w' ⟨he, hs, hC⟩
  exact ⟨he, h.ref (t := s'.go ox) hs hC h.duo.i64⟩
end

theorem same_below (w : World) (v1 v2 : Value) (N : List Note) (h1 : Rd w v1 4 N.length (N.flatMap Note.enc)) (h2 : Rd w v2 4 N.length (N.flatMap Note.enc)) (hl : N.length ≤ 2) :
    Calls Try.prog 19 #[v1, v2] w fun e w' => e = .returned (.bool true) ∧ Below w.heap.size w w' :=
  (sameN_any w v1 v2 N h1 h2 hl).mono fun e w' ⟨he, m, hw⟩ => ⟨he, hw ▸ below_drewN (Below.refl _ _) m⟩

/-- A function's block of a number. -/
def findBlock (n : Nat) : Code → Option Code
  | .block m c => match m == n with | true => some (.block m c) | false => findBlock n c
  | .seq a b => match findBlock n a with | some c => some c | none => findBlock n b
  | .loop c => findBlock n c
  | .scope c => findBlock n c
  | .cond _ a b => match findBlock n a with | some c => some c | none => findBlock n b
  | _ => none
noncomputable def sw20 : Code := ((Try.f6.body.bind (findBlock 2)).getD .skip)

set_option maxRecDepth 1000000 in
/-- Where the switch's ways meet. -/
def SwR (W w0 : World) (Ls Ms : List HRow) (vm : Value) (p q ob bm offm bl offl n c cm qn : Nat) (o : Op20) (y : Int) (vh vl : Value) (c1 c2 c3 c4 c6 c9 c12 c13 c14 c15 c16 c17 c19 c20 c21 c22 c23 c24 c25 c26 c27 c28 c29 c30 c31 c32 c33 c34 c35 c36 c37 c38 c39 c40 c41 c42 c43 c44 c45 c46 c47 c48 c49 c50 c51 c52 c53 c54 c55 c56 c57 c58 c59 c60 c61 c62 c63 c64 c65 c66 c67 c68 c69 c70 c71 c72 c73 c74 c75 c76 c77 c78 c79 c80 c81 c82 c83 c84 c85 c86 c87 c88 c89 c90 c91 c92 c93 c94 c95 c96 c97 c98 c99 c100 c101 c102 c103 c104 c105 c106 c107 c108 c109 c110 c111 c112 c113 c114 c116 c117 c118 c119 c120 c121 c122 c123 c124 c125 c126 c127 c128 c129 c130 c131 c132 c133 c134 c135 c136 c137 c138 c139 c140 c141 c142 c143 c144 c145 c146 c147 c148 c149 c150 c151 c152 c153 c154 c155 c156 c157 c158 c159 c160 c161 c162 c163 c164 c165 c166 c167 c168 c169 c170 c171 c172 c173 c174 c175 c176 c177 c178 c179 c180 c181 c182 c183 c184 c185 c186 c187 c188 c189 c190 c191 c192 c193 c194 c195 c196 c197 c198 c199 c200 c201 c202 c203 c204 c205 c206 c207 c208 c209 c210 c211 c212 c213 c214 c215 c216 c217 c218 c219 c220 c221 c222 c223 c224 c225 c226 : Value) (a' : Act) (w' : World) : Prop :=
  ∃ u116 u117 u118 u119 u120 u121 u122 u123 u124 u125 u126 u127 u128 u129 u130 u131 u132 u133 u134 u135 u136 u137 u138 u139 u140 u141 u142 u143 u144 u145 u146 u147 u148 u149 u150 u151 u152 u153 u154 u155 u156 u157 u158 u159 u160 u161 u162 u163 u164 u165 u166 u167 u168 u169 u170 u171 u172 u173 u174 u175 u176 u177 u178 u179 u180 u181 : Value, (∃ s2, Hid (Tri W w0 Ls Ms vm p q ob bm (offm + qn) bl (offl + qn) o vh vl s2 s2 w')) ∧ a' = ⟨#[.slice (some ⟨bl, offl, none⟩) n c, c1, c2, c3, c4, .slice (some ⟨bm, offm, none⟩) n cm, c6, .pointer (some ⟨p, 0, none⟩), .pointer (some ⟨q, 0, none⟩), c9, .pointer (some ⟨ob, 0, none⟩), .int .i64 (qn : Int), c12, c13, c14, c15, c16, c17, .bool true, c19, c20, c21, c22, c23, c24, c25, c26, c27, c28, c29, c30, c31, c32, c33, c34, c35, c36, c37, c38, c39, c40, c41, c42, c43, c44, c45, c46, c47, c48, c49, c50, c51, c52, c53, c54, c55, c56, c57, c58, c59, c60, c61, c62, c63, c64, c65, c66, c67, c68, c69, c70, c71, c72, c73, c74, c75, c76, c77, c78, c79, c80, c81, c82, c83, c84, c85, c86, c87, c88, c89, c90, c91, c92, c93, c94, c95, c96, c97, c98, c99, c100, c101, c102, c103, c104, c105, c106, c107, c108, c109, c110, c111, c112, c113, c114, .int .i64 y, u116, u117, u118, u119, u120, u121, u122, u123, u124, u125, u126, u127, u128, u129, u130, u131, u132, u133, u134, u135, u136, u137, u138, u139, u140, u141, u142, u143, u144, u145, u146, u147, u148, u149, u150, u151, u152, u153, u154, u155, u156, u157, u158, u159, u160, u161, u162, u163, u164, u165, u166, u167, u168, u169, u170, u171, u172, u173, u174, u175, u176, u177, u178, u179, u180, u181, c182, c183, c184, c185, c186, c187, c188, c189, c190, c191, c192, c193, c194, c195, c196, c197, c198, c199, c200, c201, c202, c203, c204, c205, c206, c207, c208, c209, c210, c211, c212, c213, c214, c215, c216, c217, c218, c219, c220, c221, c222, c223, c224, c225, c226], []⟩


set_option maxRecDepth 1000000 in
set_option maxHeartbeats 4000000 in
theorem sw_0
  {K : Act → World → Prop} {Q' : Exit → Act → World → Prop} {c1 c2 c3 c4 c6 c9 c12 c13 c14 c15 c16 c17 c19 c20 c21 c22 c23 c24 c25 c26 c27 c28 c29 c30 c31 c32 c33 c34 c35 c36 c37 c38 c39 c40 c41 c42 c43 c44 c45 c46 c47 c48 c49 c50 c51 c52 c53 c54 c55 c56 c57 c58 c59 c60 c61 c62 c63 c64 c65 c66 c67 c68 c69 c70 c71 c72 c73 c74 c75 c76 c77 c78 c79 c80 c81 c82 c83 c84 c85 c86 c87 c88 c89 c90 c91 c92 c93 c94 c95 c96 c97 c98 c99 c100 c101 c102 c103 c104 c105 c106 c107 c108 c109 c110 c111 c112 c113 c114 c116 c117 c118 c119 c120 c121 c122 c123 c124 c125 c126 c127 c128 c129 c130 c131 c132 c133 c134 c135 c136 c137 c138 c139 c140 c141 c142 c143 c144 c145 c146 c147 c148 c149 c150 c151 c152 c153 c154 c155 c156 c157 c158 c159 c160 c161 c162 c163 c164 c165 c166 c167 c168 c169 c170 c171 c172 c173 c174 c175 c176 c177 c178 c179 c180 c181 c182 c183 c184 c185 c186 c187 c188 c189 c190 c191 c192 c193 c194 c195 c196 c197 c198 c199 c200 c201 c202 c203 c204 c205 c206 c207 c208 c209 c210 c211 c212 c213 c214 c215 c216 c217 c218 c219 c220 c221 c222 c223 c224 c225 c226 : Value} {W w0 wB : World} {Ls Ms : List HRow} {p q ob bm offm bl offl n c cm qn ml Mc ll Lc : Nat} {MA LA : Option Addr} {kd ox oy oat y : Int} {s : St} {l : List Hit}
      (hX : Cx W Ls Ms qn (.slice MA ml Mc) (.slice LA ll Lc) l) (hT : Tri W w0 Ls Ms (.slice (some ⟨bm, offm, none⟩) n cm) p q ob bm (offm + qn) bl (offl + qn) ⟨kd, ox, oy, oat⟩ (.slice MA ml Mc) (.slice LA ll Lc) s s wB) (hqn : qn < n) (hn6 : n ≤ 6) (hy : y = 0)
      (hK : ∀ a' w', SwR W w0 Ls Ms (.slice (some ⟨bm, offm, none⟩) n cm) p q ob bm offm bl offl n c cm qn ⟨kd, ox, oy, oat⟩ y (.slice MA ml Mc) (.slice LA ll Lc) c1 c2 c3 c4 c6 c9 c12 c13 c14 c15 c16 c17 c19 c20 c21 c22 c23 c24 c25 c26 c27 c28 c29 c30 c31 c32 c33 c34 c35 c36 c37 c38 c39 c40 c41 c42 c43 c44 c45 c46 c47 c48 c49 c50 c51 c52 c53 c54 c55 c56 c57 c58 c59 c60 c61 c62 c63 c64 c65 c66 c67 c68 c69 c70 c71 c72 c73 c74 c75 c76 c77 c78 c79 c80 c81 c82 c83 c84 c85 c86 c87 c88 c89 c90 c91 c92 c93 c94 c95 c96 c97 c98 c99 c100 c101 c102 c103 c104 c105 c106 c107 c108 c109 c110 c111 c112 c113 c114 c116 c117 c118 c119 c120 c121 c122 c123 c124 c125 c126 c127 c128 c129 c130 c131 c132 c133 c134 c135 c136 c137 c138 c139 c140 c141 c142 c143 c144 c145 c146 c147 c148 c149 c150 c151 c152 c153 c154 c155 c156 c157 c158 c159 c160 c161 c162 c163 c164 c165 c166 c167 c168 c169 c170 c171 c172 c173 c174 c175 c176 c177 c178 c179 c180 c181 c182 c183 c184 c185 c186 c187 c188 c189 c190 c191 c192 c193 c194 c195 c196 c197 c198 c199 c200 c201 c202 c203 c204 c205 c206 c207 c208 c209 c210 c211 c212 c213 c214 c215 c216 c217 c218 c219 c220 c221 c222 c223 c224 c225 c226 a' w' → K a' w') : Code.wp Try.prog sw20 (Exit.then K Q') ⟨#[.slice (some ⟨bl, offl, none⟩) n c, c1, c2, c3, c4, .slice (some ⟨bm, offm, none⟩) n cm, c6, .pointer (some ⟨p, 0, none⟩), .pointer (some ⟨q, 0, none⟩), c9, .pointer (some ⟨ob, 0, none⟩), .int .i64 (qn : Int), c12, c13, c14, c15, c16, c17, .bool true, c19, c20, c21, c22, c23, c24, c25, c26, c27, c28, c29, c30, c31, c32, c33, c34, c35, c36, c37, c38, c39, c40, c41, c42, c43, c44, c45, c46, c47, c48, c49, c50, c51, c52, c53, c54, c55, c56, c57, c58, c59, c60, c61, c62, c63, c64, c65, c66, c67, c68, c69, c70, c71, c72, c73, c74, c75, c76, c77, c78, c79, c80, c81, c82, c83, c84, c85, c86, c87, c88, c89, c90, c91, c92, c93, c94, c95, c96, c97, c98, c99, c100, c101, c102, c103, c104, c105, c106, c107, c108, c109, c110, c111, c112, c113, c114, .int .i64 y, c116, c117, c118, c119, c120, c121, c122, c123, c124, c125, c126, c127, c128, c129, c130, c131, c132, c133, c134, c135, c136, c137, c138, c139, c140, c141, c142, c143, c144, c145, c146, c147, c148, c149, c150, c151, c152, c153, c154, c155, c156, c157, c158, c159, c160, c161, c162, c163, c164, c165, c166, c167, c168, c169, c170, c171, c172, c173, c174, c175, c176, c177, c178, c179, c180, c181, c182, c183, c184, c185, c186, c187, c188, c189, c190, c191, c192, c193, c194, c195, c196, c197, c198, c199, c200, c201, c202, c203, c204, c205, c206, c207, c208, c209, c210, c211, c212, c213, c214, c215, c216, c217, c218, c219, c220, c221, c222, c223, c224, c225, c226], []⟩ wB := by
  have d0 := hT.six.c0
  have d1 := hT.six.c1
  have d2 := hT.six.c2
  have d3 := hT.six.c3
  have d4 := hT.six.ch
  have d5 := hT.six.cl
  dsimp only at d0 d1 d2 d3 d4 d5
  have hc := hide hT.drew
  replace hT := hide hT
  replace hX := hide hX
  conv => arg 2; whnf
  refine wp_cut (SwR W w0 Ls Ms (.slice (some ⟨bm, offm, none⟩) n cm) p q ob bm offm bl offl n c cm qn ⟨kd, ox, oy, oat⟩ y (.slice MA ml Mc) (.slice LA ll Lc) c1 c2 c3 c4 c6 c9 c12 c13 c14 c15 c16 c17 c19 c20 c21 c22 c23 c24 c25 c26 c27 c28 c29 c30 c31 c32 c33 c34 c35 c36 c37 c38 c39 c40 c41 c42 c43 c44 c45 c46 c47 c48 c49 c50 c51 c52 c53 c54 c55 c56 c57 c58 c59 c60 c61 c62 c63 c64 c65 c66 c67 c68 c69 c70 c71 c72 c73 c74 c75 c76 c77 c78 c79 c80 c81 c82 c83 c84 c85 c86 c87 c88 c89 c90 c91 c92 c93 c94 c95 c96 c97 c98 c99 c100 c101 c102 c103 c104 c105 c106 c107 c108 c109 c110 c111 c112 c113 c114 c116 c117 c118 c119 c120 c121 c122 c123 c124 c125 c126 c127 c128 c129 c130 c131 c132 c133 c134 c135 c136 c137 c138 c139 c140 c141 c142 c143 c144 c145 c146 c147 c148 c149 c150 c151 c152 c153 c154 c155 c156 c157 c158 c159 c160 c161 c162 c163 c164 c165 c166 c167 c168 c169 c170 c171 c172 c173 c174 c175 c176 c177 c178 c179 c180 c181 c182 c183 c184 c185 c186 c187 c188 c189 c190 c191 c192 c193 c194 c195 c196 c197 c198 c199 c200 c201 c202 c203 c204 c205 c206 c207 c208 c209 c210 c211 c212 c213 c214 c215 c216 c217 c218 c219 c220 c221 c222 c223 c224 c225 c226) hK ?_
  intro J K2 hJ hM
  unfold SwR at hJ
  subst hy
  go_wp2_with fail
  go_region_held3 (fun w' => w'.cell? ⟨ob, 1, none⟩ = some (.int .i64 ox) ∧ w'.cell? ⟨ob, 2, none⟩ = some (.int .i64 oy) ∧ w'.cell? ⟨bm, offm + qn, none⟩ = some (.slice MA ml Mc) ∧ w'.cell? ⟨bl, offl + qn, none⟩ = some (.slice LA ll Lc)) (go_keep)
    (first
      | (go_at_call 13; refine (tMove hX.out hc.out ox oy).mono ?_; clear hc; rintro e w5 ⟨v5, rfl, o5, n5, hc⟩; obtain ⟨A5, c5, rfl, _⟩ := own_form o5; have k1 := hc.six.c1; have k2 := hc.six.c2; have k4 := hc.six.ch; have k5 := hc.six.cl; dsimp only at k1 k2; replace hc := hide hc)
      | (go_at_call 23; refine (tRMove hX.out hc.out ox oy).mono ?_; clear hc; rintro e w6 ⟨v6, rfl, o6, C6, hc⟩; obtain ⟨A6, c6, rfl, _⟩ := own_form o6; have r5 := Rd.of_own (own_chgE o5 C6 n5); have r6 := Rd.of_own o6; have m1 := hc.six.c1; have m2 := hc.six.c2; have m4 := hc.six.ch; have m5 := hc.six.cl; dsimp only at m1 m2; replace hc := hide hc; clear o5 n5 o6 C6)
      | (go_at_call 19; refine (same_below _ _ _ _ r5 r6 (moveN_len _ _ _ _)).mono ?_; clear r5 r6; rintro e w7 ⟨rfl, hb7⟩; have hc7 := hc.out.below hb7; have z1 := hc7.six.c1; have z2 := hc7.six.c2; have z4 := hc7.six.ch; have z5 := hc7.six.cl; dsimp only at z1 z2; replace hc := hide hc7; clear hc7)
    )
  go_wp2
  go_meet
  exact ⟨_, hc⟩
set_option maxRecDepth 1000000 in
set_option maxHeartbeats 4000000 in
theorem sw_1
  {K : Act → World → Prop} {Q' : Exit → Act → World → Prop} {c1 c2 c3 c4 c6 c9 c12 c13 c14 c15 c16 c17 c19 c20 c21 c22 c23 c24 c25 c26 c27 c28 c29 c30 c31 c32 c33 c34 c35 c36 c37 c38 c39 c40 c41 c42 c43 c44 c45 c46 c47 c48 c49 c50 c51 c52 c53 c54 c55 c56 c57 c58 c59 c60 c61 c62 c63 c64 c65 c66 c67 c68 c69 c70 c71 c72 c73 c74 c75 c76 c77 c78 c79 c80 c81 c82 c83 c84 c85 c86 c87 c88 c89 c90 c91 c92 c93 c94 c95 c96 c97 c98 c99 c100 c101 c102 c103 c104 c105 c106 c107 c108 c109 c110 c111 c112 c113 c114 c116 c117 c118 c119 c120 c121 c122 c123 c124 c125 c126 c127 c128 c129 c130 c131 c132 c133 c134 c135 c136 c137 c138 c139 c140 c141 c142 c143 c144 c145 c146 c147 c148 c149 c150 c151 c152 c153 c154 c155 c156 c157 c158 c159 c160 c161 c162 c163 c164 c165 c166 c167 c168 c169 c170 c171 c172 c173 c174 c175 c176 c177 c178 c179 c180 c181 c182 c183 c184 c185 c186 c187 c188 c189 c190 c191 c192 c193 c194 c195 c196 c197 c198 c199 c200 c201 c202 c203 c204 c205 c206 c207 c208 c209 c210 c211 c212 c213 c214 c215 c216 c217 c218 c219 c220 c221 c222 c223 c224 c225 c226 : Value} {W w0 wB : World} {Ls Ms : List HRow} {p q ob bm offm bl offl n c cm qn ml Mc ll Lc : Nat} {MA LA : Option Addr} {kd ox oy oat y : Int} {s : St} {l : List Hit}
      (hX : Cx W Ls Ms qn (.slice MA ml Mc) (.slice LA ll Lc) l) (hT : Tri W w0 Ls Ms (.slice (some ⟨bm, offm, none⟩) n cm) p q ob bm (offm + qn) bl (offl + qn) ⟨kd, ox, oy, oat⟩ (.slice MA ml Mc) (.slice LA ll Lc) s s wB) (hqn : qn < n) (hn6 : n ≤ 6) (hy : y = 1)
      (hK : ∀ a' w', SwR W w0 Ls Ms (.slice (some ⟨bm, offm, none⟩) n cm) p q ob bm offm bl offl n c cm qn ⟨kd, ox, oy, oat⟩ y (.slice MA ml Mc) (.slice LA ll Lc) c1 c2 c3 c4 c6 c9 c12 c13 c14 c15 c16 c17 c19 c20 c21 c22 c23 c24 c25 c26 c27 c28 c29 c30 c31 c32 c33 c34 c35 c36 c37 c38 c39 c40 c41 c42 c43 c44 c45 c46 c47 c48 c49 c50 c51 c52 c53 c54 c55 c56 c57 c58 c59 c60 c61 c62 c63 c64 c65 c66 c67 c68 c69 c70 c71 c72 c73 c74 c75 c76 c77 c78 c79 c80 c81 c82 c83 c84 c85 c86 c87 c88 c89 c90 c91 c92 c93 c94 c95 c96 c97 c98 c99 c100 c101 c102 c103 c104 c105 c106 c107 c108 c109 c110 c111 c112 c113 c114 c116 c117 c118 c119 c120 c121 c122 c123 c124 c125 c126 c127 c128 c129 c130 c131 c132 c133 c134 c135 c136 c137 c138 c139 c140 c141 c142 c143 c144 c145 c146 c147 c148 c149 c150 c151 c152 c153 c154 c155 c156 c157 c158 c159 c160 c161 c162 c163 c164 c165 c166 c167 c168 c169 c170 c171 c172 c173 c174 c175 c176 c177 c178 c179 c180 c181 c182 c183 c184 c185 c186 c187 c188 c189 c190 c191 c192 c193 c194 c195 c196 c197 c198 c199 c200 c201 c202 c203 c204 c205 c206 c207 c208 c209 c210 c211 c212 c213 c214 c215 c216 c217 c218 c219 c220 c221 c222 c223 c224 c225 c226 a' w' → K a' w') : Code.wp Try.prog sw20 (Exit.then K Q') ⟨#[.slice (some ⟨bl, offl, none⟩) n c, c1, c2, c3, c4, .slice (some ⟨bm, offm, none⟩) n cm, c6, .pointer (some ⟨p, 0, none⟩), .pointer (some ⟨q, 0, none⟩), c9, .pointer (some ⟨ob, 0, none⟩), .int .i64 (qn : Int), c12, c13, c14, c15, c16, c17, .bool true, c19, c20, c21, c22, c23, c24, c25, c26, c27, c28, c29, c30, c31, c32, c33, c34, c35, c36, c37, c38, c39, c40, c41, c42, c43, c44, c45, c46, c47, c48, c49, c50, c51, c52, c53, c54, c55, c56, c57, c58, c59, c60, c61, c62, c63, c64, c65, c66, c67, c68, c69, c70, c71, c72, c73, c74, c75, c76, c77, c78, c79, c80, c81, c82, c83, c84, c85, c86, c87, c88, c89, c90, c91, c92, c93, c94, c95, c96, c97, c98, c99, c100, c101, c102, c103, c104, c105, c106, c107, c108, c109, c110, c111, c112, c113, c114, .int .i64 y, c116, c117, c118, c119, c120, c121, c122, c123, c124, c125, c126, c127, c128, c129, c130, c131, c132, c133, c134, c135, c136, c137, c138, c139, c140, c141, c142, c143, c144, c145, c146, c147, c148, c149, c150, c151, c152, c153, c154, c155, c156, c157, c158, c159, c160, c161, c162, c163, c164, c165, c166, c167, c168, c169, c170, c171, c172, c173, c174, c175, c176, c177, c178, c179, c180, c181, c182, c183, c184, c185, c186, c187, c188, c189, c190, c191, c192, c193, c194, c195, c196, c197, c198, c199, c200, c201, c202, c203, c204, c205, c206, c207, c208, c209, c210, c211, c212, c213, c214, c215, c216, c217, c218, c219, c220, c221, c222, c223, c224, c225, c226], []⟩ wB := by
  have d0 := hT.six.c0
  have d1 := hT.six.c1
  have d2 := hT.six.c2
  have d3 := hT.six.c3
  have d4 := hT.six.ch
  have d5 := hT.six.cl
  dsimp only at d0 d1 d2 d3 d4 d5
  have hc := hide hT.drew
  replace hT := hide hT
  replace hX := hide hX
  conv => arg 2; whnf
  refine wp_cut (SwR W w0 Ls Ms (.slice (some ⟨bm, offm, none⟩) n cm) p q ob bm offm bl offl n c cm qn ⟨kd, ox, oy, oat⟩ y (.slice MA ml Mc) (.slice LA ll Lc) c1 c2 c3 c4 c6 c9 c12 c13 c14 c15 c16 c17 c19 c20 c21 c22 c23 c24 c25 c26 c27 c28 c29 c30 c31 c32 c33 c34 c35 c36 c37 c38 c39 c40 c41 c42 c43 c44 c45 c46 c47 c48 c49 c50 c51 c52 c53 c54 c55 c56 c57 c58 c59 c60 c61 c62 c63 c64 c65 c66 c67 c68 c69 c70 c71 c72 c73 c74 c75 c76 c77 c78 c79 c80 c81 c82 c83 c84 c85 c86 c87 c88 c89 c90 c91 c92 c93 c94 c95 c96 c97 c98 c99 c100 c101 c102 c103 c104 c105 c106 c107 c108 c109 c110 c111 c112 c113 c114 c116 c117 c118 c119 c120 c121 c122 c123 c124 c125 c126 c127 c128 c129 c130 c131 c132 c133 c134 c135 c136 c137 c138 c139 c140 c141 c142 c143 c144 c145 c146 c147 c148 c149 c150 c151 c152 c153 c154 c155 c156 c157 c158 c159 c160 c161 c162 c163 c164 c165 c166 c167 c168 c169 c170 c171 c172 c173 c174 c175 c176 c177 c178 c179 c180 c181 c182 c183 c184 c185 c186 c187 c188 c189 c190 c191 c192 c193 c194 c195 c196 c197 c198 c199 c200 c201 c202 c203 c204 c205 c206 c207 c208 c209 c210 c211 c212 c213 c214 c215 c216 c217 c218 c219 c220 c221 c222 c223 c224 c225 c226) hK ?_
  intro J K2 hJ hM
  unfold SwR at hJ
  subst hy
  go_wp2_with fail
  go_region_held3 (fun w' => w'.cell? ⟨ob, 1, none⟩ = some (.int .i64 ox) ∧ w'.cell? ⟨ob, 2, none⟩ = some (.int .i64 oy) ∧ w'.cell? ⟨bm, offm + qn, none⟩ = some (.slice MA ml Mc) ∧ w'.cell? ⟨bl, offl + qn, none⟩ = some (.slice LA ll Lc)) (go_keep)
    (first
      | (go_at_call 13; refine (tMove hX.out hc.out ox oy).mono ?_; clear hc; rintro e w5 ⟨v5, rfl, o5, n5, hc⟩; obtain ⟨A5, c5, rfl, _⟩ := own_form o5; have k1 := hc.six.c1; have k2 := hc.six.c2; have k4 := hc.six.ch; have k5 := hc.six.cl; dsimp only at k1 k2; replace hc := hide hc)
      | (go_at_call 23; refine (tRMove hX.out hc.out ox oy).mono ?_; clear hc; rintro e w6 ⟨v6, rfl, o6, C6, hc⟩; obtain ⟨A6, c6, rfl, _⟩ := own_form o6; have r5 := Rd.of_own (own_chgE o5 C6 n5); have r6 := Rd.of_own o6; have m1 := hc.six.c1; have m2 := hc.six.c2; have m4 := hc.six.ch; have m5 := hc.six.cl; dsimp only at m1 m2; replace hc := hide hc; clear o5 n5 o6 C6)
      | (go_at_call 19; refine (same_below _ _ _ _ r5 r6 (moveN_len _ _ _ _)).mono ?_; clear r5 r6; rintro e w7 ⟨rfl, hb7⟩; have hc7 := hc.out.below hb7; have z1 := hc7.six.c1; have z2 := hc7.six.c2; have z4 := hc7.six.ch; have z5 := hc7.six.cl; dsimp only at z1 z2; replace hc := hide hc7; clear hc7)
    )
  go_wp2
  go_meet
  exact ⟨_, hc⟩
set_option maxRecDepth 1000000 in
set_option maxHeartbeats 4000000 in
theorem sw_2
  {K : Act → World → Prop} {Q' : Exit → Act → World → Prop} {c1 c2 c3 c4 c6 c9 c12 c13 c14 c15 c16 c17 c19 c20 c21 c22 c23 c24 c25 c26 c27 c28 c29 c30 c31 c32 c33 c34 c35 c36 c37 c38 c39 c40 c41 c42 c43 c44 c45 c46 c47 c48 c49 c50 c51 c52 c53 c54 c55 c56 c57 c58 c59 c60 c61 c62 c63 c64 c65 c66 c67 c68 c69 c70 c71 c72 c73 c74 c75 c76 c77 c78 c79 c80 c81 c82 c83 c84 c85 c86 c87 c88 c89 c90 c91 c92 c93 c94 c95 c96 c97 c98 c99 c100 c101 c102 c103 c104 c105 c106 c107 c108 c109 c110 c111 c112 c113 c114 c116 c117 c118 c119 c120 c121 c122 c123 c124 c125 c126 c127 c128 c129 c130 c131 c132 c133 c134 c135 c136 c137 c138 c139 c140 c141 c142 c143 c144 c145 c146 c147 c148 c149 c150 c151 c152 c153 c154 c155 c156 c157 c158 c159 c160 c161 c162 c163 c164 c165 c166 c167 c168 c169 c170 c171 c172 c173 c174 c175 c176 c177 c178 c179 c180 c181 c182 c183 c184 c185 c186 c187 c188 c189 c190 c191 c192 c193 c194 c195 c196 c197 c198 c199 c200 c201 c202 c203 c204 c205 c206 c207 c208 c209 c210 c211 c212 c213 c214 c215 c216 c217 c218 c219 c220 c221 c222 c223 c224 c225 c226 : Value} {W w0 wB : World} {Ls Ms : List HRow} {p q ob bm offm bl offl n c cm qn ml Mc ll Lc : Nat} {MA LA : Option Addr} {kd ox oy oat y : Int} {s : St} {l : List Hit}
      (hX : Cx W Ls Ms qn (.slice MA ml Mc) (.slice LA ll Lc) l) (hT : Tri W w0 Ls Ms (.slice (some ⟨bm, offm, none⟩) n cm) p q ob bm (offm + qn) bl (offl + qn) ⟨kd, ox, oy, oat⟩ (.slice MA ml Mc) (.slice LA ll Lc) s s wB) (hqn : qn < n) (hn6 : n ≤ 6) (hy : y = 2)
      (hK : ∀ a' w', SwR W w0 Ls Ms (.slice (some ⟨bm, offm, none⟩) n cm) p q ob bm offm bl offl n c cm qn ⟨kd, ox, oy, oat⟩ y (.slice MA ml Mc) (.slice LA ll Lc) c1 c2 c3 c4 c6 c9 c12 c13 c14 c15 c16 c17 c19 c20 c21 c22 c23 c24 c25 c26 c27 c28 c29 c30 c31 c32 c33 c34 c35 c36 c37 c38 c39 c40 c41 c42 c43 c44 c45 c46 c47 c48 c49 c50 c51 c52 c53 c54 c55 c56 c57 c58 c59 c60 c61 c62 c63 c64 c65 c66 c67 c68 c69 c70 c71 c72 c73 c74 c75 c76 c77 c78 c79 c80 c81 c82 c83 c84 c85 c86 c87 c88 c89 c90 c91 c92 c93 c94 c95 c96 c97 c98 c99 c100 c101 c102 c103 c104 c105 c106 c107 c108 c109 c110 c111 c112 c113 c114 c116 c117 c118 c119 c120 c121 c122 c123 c124 c125 c126 c127 c128 c129 c130 c131 c132 c133 c134 c135 c136 c137 c138 c139 c140 c141 c142 c143 c144 c145 c146 c147 c148 c149 c150 c151 c152 c153 c154 c155 c156 c157 c158 c159 c160 c161 c162 c163 c164 c165 c166 c167 c168 c169 c170 c171 c172 c173 c174 c175 c176 c177 c178 c179 c180 c181 c182 c183 c184 c185 c186 c187 c188 c189 c190 c191 c192 c193 c194 c195 c196 c197 c198 c199 c200 c201 c202 c203 c204 c205 c206 c207 c208 c209 c210 c211 c212 c213 c214 c215 c216 c217 c218 c219 c220 c221 c222 c223 c224 c225 c226 a' w' → K a' w') : Code.wp Try.prog sw20 (Exit.then K Q') ⟨#[.slice (some ⟨bl, offl, none⟩) n c, c1, c2, c3, c4, .slice (some ⟨bm, offm, none⟩) n cm, c6, .pointer (some ⟨p, 0, none⟩), .pointer (some ⟨q, 0, none⟩), c9, .pointer (some ⟨ob, 0, none⟩), .int .i64 (qn : Int), c12, c13, c14, c15, c16, c17, .bool true, c19, c20, c21, c22, c23, c24, c25, c26, c27, c28, c29, c30, c31, c32, c33, c34, c35, c36, c37, c38, c39, c40, c41, c42, c43, c44, c45, c46, c47, c48, c49, c50, c51, c52, c53, c54, c55, c56, c57, c58, c59, c60, c61, c62, c63, c64, c65, c66, c67, c68, c69, c70, c71, c72, c73, c74, c75, c76, c77, c78, c79, c80, c81, c82, c83, c84, c85, c86, c87, c88, c89, c90, c91, c92, c93, c94, c95, c96, c97, c98, c99, c100, c101, c102, c103, c104, c105, c106, c107, c108, c109, c110, c111, c112, c113, c114, .int .i64 y, c116, c117, c118, c119, c120, c121, c122, c123, c124, c125, c126, c127, c128, c129, c130, c131, c132, c133, c134, c135, c136, c137, c138, c139, c140, c141, c142, c143, c144, c145, c146, c147, c148, c149, c150, c151, c152, c153, c154, c155, c156, c157, c158, c159, c160, c161, c162, c163, c164, c165, c166, c167, c168, c169, c170, c171, c172, c173, c174, c175, c176, c177, c178, c179, c180, c181, c182, c183, c184, c185, c186, c187, c188, c189, c190, c191, c192, c193, c194, c195, c196, c197, c198, c199, c200, c201, c202, c203, c204, c205, c206, c207, c208, c209, c210, c211, c212, c213, c214, c215, c216, c217, c218, c219, c220, c221, c222, c223, c224, c225, c226], []⟩ wB := by
  have d0 := hT.six.c0
  have d1 := hT.six.c1
  have d2 := hT.six.c2
  have d3 := hT.six.c3
  have d4 := hT.six.ch
  have d5 := hT.six.cl
  dsimp only at d0 d1 d2 d3 d4 d5
  have hc := hide hT.drew
  replace hT := hide hT
  replace hX := hide hX
  conv => arg 2; whnf
  refine wp_cut (SwR W w0 Ls Ms (.slice (some ⟨bm, offm, none⟩) n cm) p q ob bm offm bl offl n c cm qn ⟨kd, ox, oy, oat⟩ y (.slice MA ml Mc) (.slice LA ll Lc) c1 c2 c3 c4 c6 c9 c12 c13 c14 c15 c16 c17 c19 c20 c21 c22 c23 c24 c25 c26 c27 c28 c29 c30 c31 c32 c33 c34 c35 c36 c37 c38 c39 c40 c41 c42 c43 c44 c45 c46 c47 c48 c49 c50 c51 c52 c53 c54 c55 c56 c57 c58 c59 c60 c61 c62 c63 c64 c65 c66 c67 c68 c69 c70 c71 c72 c73 c74 c75 c76 c77 c78 c79 c80 c81 c82 c83 c84 c85 c86 c87 c88 c89 c90 c91 c92 c93 c94 c95 c96 c97 c98 c99 c100 c101 c102 c103 c104 c105 c106 c107 c108 c109 c110 c111 c112 c113 c114 c116 c117 c118 c119 c120 c121 c122 c123 c124 c125 c126 c127 c128 c129 c130 c131 c132 c133 c134 c135 c136 c137 c138 c139 c140 c141 c142 c143 c144 c145 c146 c147 c148 c149 c150 c151 c152 c153 c154 c155 c156 c157 c158 c159 c160 c161 c162 c163 c164 c165 c166 c167 c168 c169 c170 c171 c172 c173 c174 c175 c176 c177 c178 c179 c180 c181 c182 c183 c184 c185 c186 c187 c188 c189 c190 c191 c192 c193 c194 c195 c196 c197 c198 c199 c200 c201 c202 c203 c204 c205 c206 c207 c208 c209 c210 c211 c212 c213 c214 c215 c216 c217 c218 c219 c220 c221 c222 c223 c224 c225 c226) hK ?_
  intro J K2 hJ hM
  unfold SwR at hJ
  subst hy
  go_wp2_with fail
  go_region_held3 (fun w' => w'.cell? ⟨bm, offm + qn, none⟩ = some (.slice MA ml Mc) ∧ w'.cell? ⟨bl, offl + qn, none⟩ = some (.slice LA ll Lc)) (go_keep)
    (first
      | (go_at_call 14; refine (tLook hX.out hc.out).mono ?_; clear hc; rintro e w5 ⟨v5, rfl, o5, n5, hc⟩; obtain ⟨A5, c5, rfl, _⟩ := own_form o5; have k1 := hc.six.c1; have k2 := hc.six.c2; have k4 := hc.six.ch; have k5 := hc.six.cl; dsimp only at k1 k2; replace hc := hide hc)
      | (go_at_call 20; refine (tRLook hX.out hc.out).mono ?_; clear hc; rintro e w6 ⟨v6, rfl, o6, C6, hc⟩; obtain ⟨A6, c6, rfl, _⟩ := own_form o6; have r5 := Rd.of_own (own_chgE o5 C6 n5); have r6 := Rd.of_own o6; have m1 := hc.six.c1; have m2 := hc.six.c2; have m4 := hc.six.ch; have m5 := hc.six.cl; dsimp only at m1 m2; replace hc := hide hc; clear o5 n5 o6 C6)
      | (go_at_call 19; refine (same_below _ _ _ _ r5 r6 (lookN_len _ _ _ _)).mono ?_; clear r5 r6; rintro e w7 ⟨rfl, hb7⟩; have hc7 := hc.out.below hb7; have z1 := hc7.six.c1; have z2 := hc7.six.c2; have z4 := hc7.six.ch; have z5 := hc7.six.cl; dsimp only at z1 z2; replace hc := hide hc7; clear hc7)
    )
  go_wp2
  go_meet
  exact ⟨_, hc⟩
set_option maxRecDepth 1000000 in
set_option maxHeartbeats 4000000 in
theorem sw_3
  {K : Act → World → Prop} {Q' : Exit → Act → World → Prop} {c1 c2 c3 c4 c6 c9 c12 c13 c14 c15 c16 c17 c19 c20 c21 c22 c23 c24 c25 c26 c27 c28 c29 c30 c31 c32 c33 c34 c35 c36 c37 c38 c39 c40 c41 c42 c43 c44 c45 c46 c47 c48 c49 c50 c51 c52 c53 c54 c55 c56 c57 c58 c59 c60 c61 c62 c63 c64 c65 c66 c67 c68 c69 c70 c71 c72 c73 c74 c75 c76 c77 c78 c79 c80 c81 c82 c83 c84 c85 c86 c87 c88 c89 c90 c91 c92 c93 c94 c95 c96 c97 c98 c99 c100 c101 c102 c103 c104 c105 c106 c107 c108 c109 c110 c111 c112 c113 c114 c116 c117 c118 c119 c120 c121 c122 c123 c124 c125 c126 c127 c128 c129 c130 c131 c132 c133 c134 c135 c136 c137 c138 c139 c140 c141 c142 c143 c144 c145 c146 c147 c148 c149 c150 c151 c152 c153 c154 c155 c156 c157 c158 c159 c160 c161 c162 c163 c164 c165 c166 c167 c168 c169 c170 c171 c172 c173 c174 c175 c176 c177 c178 c179 c180 c181 c182 c183 c184 c185 c186 c187 c188 c189 c190 c191 c192 c193 c194 c195 c196 c197 c198 c199 c200 c201 c202 c203 c204 c205 c206 c207 c208 c209 c210 c211 c212 c213 c214 c215 c216 c217 c218 c219 c220 c221 c222 c223 c224 c225 c226 : Value} {W w0 wB : World} {Ls Ms : List HRow} {p q ob bm offm bl offl n c cm qn ml Mc ll Lc : Nat} {MA LA : Option Addr} {kd ox oy oat y : Int} {s : St} {l : List Hit}
      (hX : Cx W Ls Ms qn (.slice MA ml Mc) (.slice LA ll Lc) l) (hT : Tri W w0 Ls Ms (.slice (some ⟨bm, offm, none⟩) n cm) p q ob bm (offm + qn) bl (offl + qn) ⟨kd, ox, oy, oat⟩ (.slice MA ml Mc) (.slice LA ll Lc) s s wB) (hqn : qn < n) (hn6 : n ≤ 6) (hy : y = 3)
      (hK : ∀ a' w', SwR W w0 Ls Ms (.slice (some ⟨bm, offm, none⟩) n cm) p q ob bm offm bl offl n c cm qn ⟨kd, ox, oy, oat⟩ y (.slice MA ml Mc) (.slice LA ll Lc) c1 c2 c3 c4 c6 c9 c12 c13 c14 c15 c16 c17 c19 c20 c21 c22 c23 c24 c25 c26 c27 c28 c29 c30 c31 c32 c33 c34 c35 c36 c37 c38 c39 c40 c41 c42 c43 c44 c45 c46 c47 c48 c49 c50 c51 c52 c53 c54 c55 c56 c57 c58 c59 c60 c61 c62 c63 c64 c65 c66 c67 c68 c69 c70 c71 c72 c73 c74 c75 c76 c77 c78 c79 c80 c81 c82 c83 c84 c85 c86 c87 c88 c89 c90 c91 c92 c93 c94 c95 c96 c97 c98 c99 c100 c101 c102 c103 c104 c105 c106 c107 c108 c109 c110 c111 c112 c113 c114 c116 c117 c118 c119 c120 c121 c122 c123 c124 c125 c126 c127 c128 c129 c130 c131 c132 c133 c134 c135 c136 c137 c138 c139 c140 c141 c142 c143 c144 c145 c146 c147 c148 c149 c150 c151 c152 c153 c154 c155 c156 c157 c158 c159 c160 c161 c162 c163 c164 c165 c166 c167 c168 c169 c170 c171 c172 c173 c174 c175 c176 c177 c178 c179 c180 c181 c182 c183 c184 c185 c186 c187 c188 c189 c190 c191 c192 c193 c194 c195 c196 c197 c198 c199 c200 c201 c202 c203 c204 c205 c206 c207 c208 c209 c210 c211 c212 c213 c214 c215 c216 c217 c218 c219 c220 c221 c222 c223 c224 c225 c226 a' w' → K a' w') : Code.wp Try.prog sw20 (Exit.then K Q') ⟨#[.slice (some ⟨bl, offl, none⟩) n c, c1, c2, c3, c4, .slice (some ⟨bm, offm, none⟩) n cm, c6, .pointer (some ⟨p, 0, none⟩), .pointer (some ⟨q, 0, none⟩), c9, .pointer (some ⟨ob, 0, none⟩), .int .i64 (qn : Int), c12, c13, c14, c15, c16, c17, .bool true, c19, c20, c21, c22, c23, c24, c25, c26, c27, c28, c29, c30, c31, c32, c33, c34, c35, c36, c37, c38, c39, c40, c41, c42, c43, c44, c45, c46, c47, c48, c49, c50, c51, c52, c53, c54, c55, c56, c57, c58, c59, c60, c61, c62, c63, c64, c65, c66, c67, c68, c69, c70, c71, c72, c73, c74, c75, c76, c77, c78, c79, c80, c81, c82, c83, c84, c85, c86, c87, c88, c89, c90, c91, c92, c93, c94, c95, c96, c97, c98, c99, c100, c101, c102, c103, c104, c105, c106, c107, c108, c109, c110, c111, c112, c113, c114, .int .i64 y, c116, c117, c118, c119, c120, c121, c122, c123, c124, c125, c126, c127, c128, c129, c130, c131, c132, c133, c134, c135, c136, c137, c138, c139, c140, c141, c142, c143, c144, c145, c146, c147, c148, c149, c150, c151, c152, c153, c154, c155, c156, c157, c158, c159, c160, c161, c162, c163, c164, c165, c166, c167, c168, c169, c170, c171, c172, c173, c174, c175, c176, c177, c178, c179, c180, c181, c182, c183, c184, c185, c186, c187, c188, c189, c190, c191, c192, c193, c194, c195, c196, c197, c198, c199, c200, c201, c202, c203, c204, c205, c206, c207, c208, c209, c210, c211, c212, c213, c214, c215, c216, c217, c218, c219, c220, c221, c222, c223, c224, c225, c226], []⟩ wB := by
  have d0 := hT.six.c0
  have d1 := hT.six.c1
  have d2 := hT.six.c2
  have d3 := hT.six.c3
  have d4 := hT.six.ch
  have d5 := hT.six.cl
  dsimp only at d0 d1 d2 d3 d4 d5
  have hc := hide hT.drew
  replace hT := hide hT
  replace hX := hide hX
  conv => arg 2; whnf
  refine wp_cut (SwR W w0 Ls Ms (.slice (some ⟨bm, offm, none⟩) n cm) p q ob bm offm bl offl n c cm qn ⟨kd, ox, oy, oat⟩ y (.slice MA ml Mc) (.slice LA ll Lc) c1 c2 c3 c4 c6 c9 c12 c13 c14 c15 c16 c17 c19 c20 c21 c22 c23 c24 c25 c26 c27 c28 c29 c30 c31 c32 c33 c34 c35 c36 c37 c38 c39 c40 c41 c42 c43 c44 c45 c46 c47 c48 c49 c50 c51 c52 c53 c54 c55 c56 c57 c58 c59 c60 c61 c62 c63 c64 c65 c66 c67 c68 c69 c70 c71 c72 c73 c74 c75 c76 c77 c78 c79 c80 c81 c82 c83 c84 c85 c86 c87 c88 c89 c90 c91 c92 c93 c94 c95 c96 c97 c98 c99 c100 c101 c102 c103 c104 c105 c106 c107 c108 c109 c110 c111 c112 c113 c114 c116 c117 c118 c119 c120 c121 c122 c123 c124 c125 c126 c127 c128 c129 c130 c131 c132 c133 c134 c135 c136 c137 c138 c139 c140 c141 c142 c143 c144 c145 c146 c147 c148 c149 c150 c151 c152 c153 c154 c155 c156 c157 c158 c159 c160 c161 c162 c163 c164 c165 c166 c167 c168 c169 c170 c171 c172 c173 c174 c175 c176 c177 c178 c179 c180 c181 c182 c183 c184 c185 c186 c187 c188 c189 c190 c191 c192 c193 c194 c195 c196 c197 c198 c199 c200 c201 c202 c203 c204 c205 c206 c207 c208 c209 c210 c211 c212 c213 c214 c215 c216 c217 c218 c219 c220 c221 c222 c223 c224 c225 c226) hK ?_
  intro J K2 hJ hM
  unfold SwR at hJ
  subst hy
  go_wp2_with fail
  go_region_held3 (fun w' => w'.cell? ⟨ob, 1, none⟩ = some (.int .i64 ox)) (go_keep)
    (first
      | (go_at_call 17; refine (tKeys hc.out ox).mono ?_; clear hc; rintro e w5 ⟨v5, rfl, o5, n5, hc⟩; obtain ⟨A5, c5, rfl, _⟩ := own_form o5; have k1 := hc.six.c1; have k2 := hc.six.c2; have k4 := hc.six.ch; have k5 := hc.six.cl; dsimp only at k1 k2; replace hc := hide hc)
      | (go_at_call 21; refine (tRKeys hc.out ox).mono ?_; clear hc; rintro e w6 ⟨v6, rfl, o6, C6, hc⟩; obtain ⟨A6, c6, rfl, _⟩ := own_form o6; have r5 := Rd.of_own (own_chgE o5 C6 n5); have r6 := Rd.of_own o6; have m1 := hc.six.c1; have m2 := hc.six.c2; have m4 := hc.six.ch; have m5 := hc.six.cl; dsimp only at m1 m2; replace hc := hide hc; clear o5 n5 o6 C6)
      | (go_at_call 19; refine (same_below _ _ _ _ r5 r6 (keyN_len _ _)).mono ?_; clear r5 r6; rintro e w7 ⟨rfl, hb7⟩; have hc7 := hc.out.below hb7; have z1 := hc7.six.c1; have z2 := hc7.six.c2; have z4 := hc7.six.ch; have z5 := hc7.six.cl; dsimp only at z1 z2; replace hc := hide hc7; clear hc7)
    )
  go_wp2
  go_meet
  exact ⟨_, hc⟩
set_option maxRecDepth 1000000 in
set_option maxHeartbeats 4000000 in
theorem sw_4
  {K : Act → World → Prop} {Q' : Exit → Act → World → Prop} {c1 c2 c3 c4 c6 c9 c12 c13 c14 c15 c16 c17 c19 c20 c21 c22 c23 c24 c25 c26 c27 c28 c29 c30 c31 c32 c33 c34 c35 c36 c37 c38 c39 c40 c41 c42 c43 c44 c45 c46 c47 c48 c49 c50 c51 c52 c53 c54 c55 c56 c57 c58 c59 c60 c61 c62 c63 c64 c65 c66 c67 c68 c69 c70 c71 c72 c73 c74 c75 c76 c77 c78 c79 c80 c81 c82 c83 c84 c85 c86 c87 c88 c89 c90 c91 c92 c93 c94 c95 c96 c97 c98 c99 c100 c101 c102 c103 c104 c105 c106 c107 c108 c109 c110 c111 c112 c113 c114 c116 c117 c118 c119 c120 c121 c122 c123 c124 c125 c126 c127 c128 c129 c130 c131 c132 c133 c134 c135 c136 c137 c138 c139 c140 c141 c142 c143 c144 c145 c146 c147 c148 c149 c150 c151 c152 c153 c154 c155 c156 c157 c158 c159 c160 c161 c162 c163 c164 c165 c166 c167 c168 c169 c170 c171 c172 c173 c174 c175 c176 c177 c178 c179 c180 c181 c182 c183 c184 c185 c186 c187 c188 c189 c190 c191 c192 c193 c194 c195 c196 c197 c198 c199 c200 c201 c202 c203 c204 c205 c206 c207 c208 c209 c210 c211 c212 c213 c214 c215 c216 c217 c218 c219 c220 c221 c222 c223 c224 c225 c226 : Value} {W w0 wB : World} {Ls Ms : List HRow} {p q ob bm offm bl offl n c cm qn ml Mc ll Lc : Nat} {MA LA : Option Addr} {kd ox oy oat y : Int} {s : St} {l : List Hit}
      (hX : Cx W Ls Ms qn (.slice MA ml Mc) (.slice LA ll Lc) l) (hT : Tri W w0 Ls Ms (.slice (some ⟨bm, offm, none⟩) n cm) p q ob bm (offm + qn) bl (offl + qn) ⟨kd, ox, oy, oat⟩ (.slice MA ml Mc) (.slice LA ll Lc) s s wB) (hqn : qn < n) (hn6 : n ≤ 6) (hy : y = 4)
      (hK : ∀ a' w', SwR W w0 Ls Ms (.slice (some ⟨bm, offm, none⟩) n cm) p q ob bm offm bl offl n c cm qn ⟨kd, ox, oy, oat⟩ y (.slice MA ml Mc) (.slice LA ll Lc) c1 c2 c3 c4 c6 c9 c12 c13 c14 c15 c16 c17 c19 c20 c21 c22 c23 c24 c25 c26 c27 c28 c29 c30 c31 c32 c33 c34 c35 c36 c37 c38 c39 c40 c41 c42 c43 c44 c45 c46 c47 c48 c49 c50 c51 c52 c53 c54 c55 c56 c57 c58 c59 c60 c61 c62 c63 c64 c65 c66 c67 c68 c69 c70 c71 c72 c73 c74 c75 c76 c77 c78 c79 c80 c81 c82 c83 c84 c85 c86 c87 c88 c89 c90 c91 c92 c93 c94 c95 c96 c97 c98 c99 c100 c101 c102 c103 c104 c105 c106 c107 c108 c109 c110 c111 c112 c113 c114 c116 c117 c118 c119 c120 c121 c122 c123 c124 c125 c126 c127 c128 c129 c130 c131 c132 c133 c134 c135 c136 c137 c138 c139 c140 c141 c142 c143 c144 c145 c146 c147 c148 c149 c150 c151 c152 c153 c154 c155 c156 c157 c158 c159 c160 c161 c162 c163 c164 c165 c166 c167 c168 c169 c170 c171 c172 c173 c174 c175 c176 c177 c178 c179 c180 c181 c182 c183 c184 c185 c186 c187 c188 c189 c190 c191 c192 c193 c194 c195 c196 c197 c198 c199 c200 c201 c202 c203 c204 c205 c206 c207 c208 c209 c210 c211 c212 c213 c214 c215 c216 c217 c218 c219 c220 c221 c222 c223 c224 c225 c226 a' w' → K a' w') : Code.wp Try.prog sw20 (Exit.then K Q') ⟨#[.slice (some ⟨bl, offl, none⟩) n c, c1, c2, c3, c4, .slice (some ⟨bm, offm, none⟩) n cm, c6, .pointer (some ⟨p, 0, none⟩), .pointer (some ⟨q, 0, none⟩), c9, .pointer (some ⟨ob, 0, none⟩), .int .i64 (qn : Int), c12, c13, c14, c15, c16, c17, .bool true, c19, c20, c21, c22, c23, c24, c25, c26, c27, c28, c29, c30, c31, c32, c33, c34, c35, c36, c37, c38, c39, c40, c41, c42, c43, c44, c45, c46, c47, c48, c49, c50, c51, c52, c53, c54, c55, c56, c57, c58, c59, c60, c61, c62, c63, c64, c65, c66, c67, c68, c69, c70, c71, c72, c73, c74, c75, c76, c77, c78, c79, c80, c81, c82, c83, c84, c85, c86, c87, c88, c89, c90, c91, c92, c93, c94, c95, c96, c97, c98, c99, c100, c101, c102, c103, c104, c105, c106, c107, c108, c109, c110, c111, c112, c113, c114, .int .i64 y, c116, c117, c118, c119, c120, c121, c122, c123, c124, c125, c126, c127, c128, c129, c130, c131, c132, c133, c134, c135, c136, c137, c138, c139, c140, c141, c142, c143, c144, c145, c146, c147, c148, c149, c150, c151, c152, c153, c154, c155, c156, c157, c158, c159, c160, c161, c162, c163, c164, c165, c166, c167, c168, c169, c170, c171, c172, c173, c174, c175, c176, c177, c178, c179, c180, c181, c182, c183, c184, c185, c186, c187, c188, c189, c190, c191, c192, c193, c194, c195, c196, c197, c198, c199, c200, c201, c202, c203, c204, c205, c206, c207, c208, c209, c210, c211, c212, c213, c214, c215, c216, c217, c218, c219, c220, c221, c222, c223, c224, c225, c226], []⟩ wB := by
  have d0 := hT.six.c0
  have d1 := hT.six.c1
  have d2 := hT.six.c2
  have d3 := hT.six.c3
  have d4 := hT.six.ch
  have d5 := hT.six.cl
  dsimp only at d0 d1 d2 d3 d4 d5
  have hc := hide hT.drew
  replace hT := hide hT
  replace hX := hide hX
  conv => arg 2; whnf
  refine wp_cut (SwR W w0 Ls Ms (.slice (some ⟨bm, offm, none⟩) n cm) p q ob bm offm bl offl n c cm qn ⟨kd, ox, oy, oat⟩ y (.slice MA ml Mc) (.slice LA ll Lc) c1 c2 c3 c4 c6 c9 c12 c13 c14 c15 c16 c17 c19 c20 c21 c22 c23 c24 c25 c26 c27 c28 c29 c30 c31 c32 c33 c34 c35 c36 c37 c38 c39 c40 c41 c42 c43 c44 c45 c46 c47 c48 c49 c50 c51 c52 c53 c54 c55 c56 c57 c58 c59 c60 c61 c62 c63 c64 c65 c66 c67 c68 c69 c70 c71 c72 c73 c74 c75 c76 c77 c78 c79 c80 c81 c82 c83 c84 c85 c86 c87 c88 c89 c90 c91 c92 c93 c94 c95 c96 c97 c98 c99 c100 c101 c102 c103 c104 c105 c106 c107 c108 c109 c110 c111 c112 c113 c114 c116 c117 c118 c119 c120 c121 c122 c123 c124 c125 c126 c127 c128 c129 c130 c131 c132 c133 c134 c135 c136 c137 c138 c139 c140 c141 c142 c143 c144 c145 c146 c147 c148 c149 c150 c151 c152 c153 c154 c155 c156 c157 c158 c159 c160 c161 c162 c163 c164 c165 c166 c167 c168 c169 c170 c171 c172 c173 c174 c175 c176 c177 c178 c179 c180 c181 c182 c183 c184 c185 c186 c187 c188 c189 c190 c191 c192 c193 c194 c195 c196 c197 c198 c199 c200 c201 c202 c203 c204 c205 c206 c207 c208 c209 c210 c211 c212 c213 c214 c215 c216 c217 c218 c219 c220 c221 c222 c223 c224 c225 c226) hK ?_
  intro J K2 hJ hM
  unfold SwR at hJ
  subst hy
  clear hc
  have hc := hT
  clear hT
  go_wp2_with (first
    | (go_at_call 16; refine (tGone hc.out ox).mono ?_; clear hc; rintro e w5 ⟨⟨v5, rfl⟩, hc⟩; have k1 := hc.six.c1; dsimp only at k1; replace hc := hide hc)
    | (go_at_call 22; refine (tRGone hc.out ox).mono ?_; clear hc; rintro e w6 ⟨⟨v6, rfl⟩, hc⟩; replace hc := hide hc))
  go_meet
  exact ⟨_, hc⟩
theorem sw_any
  {K : Act → World → Prop} {Q' : Exit → Act → World → Prop} {c1 c2 c3 c4 c6 c9 c12 c13 c14 c15 c16 c17 c19 c20 c21 c22 c23 c24 c25 c26 c27 c28 c29 c30 c31 c32 c33 c34 c35 c36 c37 c38 c39 c40 c41 c42 c43 c44 c45 c46 c47 c48 c49 c50 c51 c52 c53 c54 c55 c56 c57 c58 c59 c60 c61 c62 c63 c64 c65 c66 c67 c68 c69 c70 c71 c72 c73 c74 c75 c76 c77 c78 c79 c80 c81 c82 c83 c84 c85 c86 c87 c88 c89 c90 c91 c92 c93 c94 c95 c96 c97 c98 c99 c100 c101 c102 c103 c104 c105 c106 c107 c108 c109 c110 c111 c112 c113 c114 c116 c117 c118 c119 c120 c121 c122 c123 c124 c125 c126 c127 c128 c129 c130 c131 c132 c133 c134 c135 c136 c137 c138 c139 c140 c141 c142 c143 c144 c145 c146 c147 c148 c149 c150 c151 c152 c153 c154 c155 c156 c157 c158 c159 c160 c161 c162 c163 c164 c165 c166 c167 c168 c169 c170 c171 c172 c173 c174 c175 c176 c177 c178 c179 c180 c181 c182 c183 c184 c185 c186 c187 c188 c189 c190 c191 c192 c193 c194 c195 c196 c197 c198 c199 c200 c201 c202 c203 c204 c205 c206 c207 c208 c209 c210 c211 c212 c213 c214 c215 c216 c217 c218 c219 c220 c221 c222 c223 c224 c225 c226 : Value} {W w0 wB : World} {Ls Ms : List HRow} {p q ob bm offm bl offl n c cm qn ml Mc ll Lc : Nat} {MA LA : Option Addr} {kd ox oy oat y : Int} {s : St} {l : List Hit}
      (hX : Cx W Ls Ms qn (.slice MA ml Mc) (.slice LA ll Lc) l) (hT : Tri W w0 Ls Ms (.slice (some ⟨bm, offm, none⟩) n cm) p q ob bm (offm + qn) bl (offl + qn) ⟨kd, ox, oy, oat⟩ (.slice MA ml Mc) (.slice LA ll Lc) s s wB) (hqn : qn < n) (hn6 : n ≤ 6) (hy0 : 0 ≤ y) (hy5 : y < 5)
      (hK : ∀ a' w', SwR W w0 Ls Ms (.slice (some ⟨bm, offm, none⟩) n cm) p q ob bm offm bl offl n c cm qn ⟨kd, ox, oy, oat⟩ y (.slice MA ml Mc) (.slice LA ll Lc) c1 c2 c3 c4 c6 c9 c12 c13 c14 c15 c16 c17 c19 c20 c21 c22 c23 c24 c25 c26 c27 c28 c29 c30 c31 c32 c33 c34 c35 c36 c37 c38 c39 c40 c41 c42 c43 c44 c45 c46 c47 c48 c49 c50 c51 c52 c53 c54 c55 c56 c57 c58 c59 c60 c61 c62 c63 c64 c65 c66 c67 c68 c69 c70 c71 c72 c73 c74 c75 c76 c77 c78 c79 c80 c81 c82 c83 c84 c85 c86 c87 c88 c89 c90 c91 c92 c93 c94 c95 c96 c97 c98 c99 c100 c101 c102 c103 c104 c105 c106 c107 c108 c109 c110 c111 c112 c113 c114 c116 c117 c118 c119 c120 c121 c122 c123 c124 c125 c126 c127 c128 c129 c130 c131 c132 c133 c134 c135 c136 c137 c138 c139 c140 c141 c142 c143 c144 c145 c146 c147 c148 c149 c150 c151 c152 c153 c154 c155 c156 c157 c158 c159 c160 c161 c162 c163 c164 c165 c166 c167 c168 c169 c170 c171 c172 c173 c174 c175 c176 c177 c178 c179 c180 c181 c182 c183 c184 c185 c186 c187 c188 c189 c190 c191 c192 c193 c194 c195 c196 c197 c198 c199 c200 c201 c202 c203 c204 c205 c206 c207 c208 c209 c210 c211 c212 c213 c214 c215 c216 c217 c218 c219 c220 c221 c222 c223 c224 c225 c226 a' w' → K a' w') : Code.wp Try.prog sw20 (Exit.then K Q') ⟨#[.slice (some ⟨bl, offl, none⟩) n c, c1, c2, c3, c4, .slice (some ⟨bm, offm, none⟩) n cm, c6, .pointer (some ⟨p, 0, none⟩), .pointer (some ⟨q, 0, none⟩), c9, .pointer (some ⟨ob, 0, none⟩), .int .i64 (qn : Int), c12, c13, c14, c15, c16, c17, .bool true, c19, c20, c21, c22, c23, c24, c25, c26, c27, c28, c29, c30, c31, c32, c33, c34, c35, c36, c37, c38, c39, c40, c41, c42, c43, c44, c45, c46, c47, c48, c49, c50, c51, c52, c53, c54, c55, c56, c57, c58, c59, c60, c61, c62, c63, c64, c65, c66, c67, c68, c69, c70, c71, c72, c73, c74, c75, c76, c77, c78, c79, c80, c81, c82, c83, c84, c85, c86, c87, c88, c89, c90, c91, c92, c93, c94, c95, c96, c97, c98, c99, c100, c101, c102, c103, c104, c105, c106, c107, c108, c109, c110, c111, c112, c113, c114, .int .i64 y, c116, c117, c118, c119, c120, c121, c122, c123, c124, c125, c126, c127, c128, c129, c130, c131, c132, c133, c134, c135, c136, c137, c138, c139, c140, c141, c142, c143, c144, c145, c146, c147, c148, c149, c150, c151, c152, c153, c154, c155, c156, c157, c158, c159, c160, c161, c162, c163, c164, c165, c166, c167, c168, c169, c170, c171, c172, c173, c174, c175, c176, c177, c178, c179, c180, c181, c182, c183, c184, c185, c186, c187, c188, c189, c190, c191, c192, c193, c194, c195, c196, c197, c198, c199, c200, c201, c202, c203, c204, c205, c206, c207, c208, c209, c210, c211, c212, c213, c214, c215, c216, c217, c218, c219, c220, c221, c222, c223, c224, c225, c226], []⟩ wB := by
  rcases (show y = 0 ∨ y = 1 ∨ y = 2 ∨ y = 3 ∨ y = 4 by omega) with h | h | h | h | h
  · exact sw_0 hX hT hqn hn6 h hK
  · exact sw_1 hX hT hqn hn6 h hK
  · exact sw_2 hX hT hqn hn6 h hK
  · exact sw_3 hX hT hqn hn6 h hK
  · exact sw_4 hX hT hqn hn6 h hK

set_option maxRecDepth 1000000 in
theorem SwR.elim {W w0 : World} {Ls Ms : List HRow} {vm : Value} {p q ob bm offm bl offl n c cm qn : Nat} {o : Op20} {y : Int} {vh vl : Value} {c1 c2 c3 c4 c6 c9 c12 c13 c14 c15 c16 c17 c19 c20 c21 c22 c23 c24 c25 c26 c27 c28 c29 c30 c31 c32 c33 c34 c35 c36 c37 c38 c39 c40 c41 c42 c43 c44 c45 c46 c47 c48 c49 c50 c51 c52 c53 c54 c55 c56 c57 c58 c59 c60 c61 c62 c63 c64 c65 c66 c67 c68 c69 c70 c71 c72 c73 c74 c75 c76 c77 c78 c79 c80 c81 c82 c83 c84 c85 c86 c87 c88 c89 c90 c91 c92 c93 c94 c95 c96 c97 c98 c99 c100 c101 c102 c103 c104 c105 c106 c107 c108 c109 c110 c111 c112 c113 c114 c116 c117 c118 c119 c120 c121 c122 c123 c124 c125 c126 c127 c128 c129 c130 c131 c132 c133 c134 c135 c136 c137 c138 c139 c140 c141 c142 c143 c144 c145 c146 c147 c148 c149 c150 c151 c152 c153 c154 c155 c156 c157 c158 c159 c160 c161 c162 c163 c164 c165 c166 c167 c168 c169 c170 c171 c172 c173 c174 c175 c176 c177 c178 c179 c180 c181 c182 c183 c184 c185 c186 c187 c188 c189 c190 c191 c192 c193 c194 c195 c196 c197 c198 c199 c200 c201 c202 c203 c204 c205 c206 c207 c208 c209 c210 c211 c212 c213 c214 c215 c216 c217 c218 c219 c220 c221 c222 c223 c224 c225 c226 : Value} {a' : Act} {w' : World} {M : Prop} (h : SwR W w0 Ls Ms vm p q ob bm offm bl offl n c cm qn o y vh vl c1 c2 c3 c4 c6 c9 c12 c13 c14 c15 c16 c17 c19 c20 c21 c22 c23 c24 c25 c26 c27 c28 c29 c30 c31 c32 c33 c34 c35 c36 c37 c38 c39 c40 c41 c42 c43 c44 c45 c46 c47 c48 c49 c50 c51 c52 c53 c54 c55 c56 c57 c58 c59 c60 c61 c62 c63 c64 c65 c66 c67 c68 c69 c70 c71 c72 c73 c74 c75 c76 c77 c78 c79 c80 c81 c82 c83 c84 c85 c86 c87 c88 c89 c90 c91 c92 c93 c94 c95 c96 c97 c98 c99 c100 c101 c102 c103 c104 c105 c106 c107 c108 c109 c110 c111 c112 c113 c114 c116 c117 c118 c119 c120 c121 c122 c123 c124 c125 c126 c127 c128 c129 c130 c131 c132 c133 c134 c135 c136 c137 c138 c139 c140 c141 c142 c143 c144 c145 c146 c147 c148 c149 c150 c151 c152 c153 c154 c155 c156 c157 c158 c159 c160 c161 c162 c163 c164 c165 c166 c167 c168 c169 c170 c171 c172 c173 c174 c175 c176 c177 c178 c179 c180 c181 c182 c183 c184 c185 c186 c187 c188 c189 c190 c191 c192 c193 c194 c195 c196 c197 c198 c199 c200 c201 c202 c203 c204 c205 c206 c207 c208 c209 c210 c211 c212 c213 c214 c215 c216 c217 c218 c219 c220 c221 c222 c223 c224 c225 c226 a' w')
    (k : ∀ u116 u117 u118 u119 u120 u121 u122 u123 u124 u125 u126 u127 u128 u129 u130 u131 u132 u133 u134 u135 u136 u137 u138 u139 u140 u141 u142 u143 u144 u145 u146 u147 u148 u149 u150 u151 u152 u153 u154 u155 u156 u157 u158 u159 u160 u161 u162 u163 u164 u165 u166 u167 u168 u169 u170 u171 u172 u173 u174 u175 u176 u177 u178 u179 u180 u181 : Value, (∃ s2, Hid (Tri W w0 Ls Ms vm p q ob bm (offm + qn) bl (offl + qn) o vh vl s2 s2 w')) → a' = ⟨#[.slice (some ⟨bl, offl, none⟩) n c, c1, c2, c3, c4, .slice (some ⟨bm, offm, none⟩) n cm, c6, .pointer (some ⟨p, 0, none⟩), .pointer (some ⟨q, 0, none⟩), c9, .pointer (some ⟨ob, 0, none⟩), .int .i64 (qn : Int), c12, c13, c14, c15, c16, c17, .bool true, c19, c20, c21, c22, c23, c24, c25, c26, c27, c28, c29, c30, c31, c32, c33, c34, c35, c36, c37, c38, c39, c40, c41, c42, c43, c44, c45, c46, c47, c48, c49, c50, c51, c52, c53, c54, c55, c56, c57, c58, c59, c60, c61, c62, c63, c64, c65, c66, c67, c68, c69, c70, c71, c72, c73, c74, c75, c76, c77, c78, c79, c80, c81, c82, c83, c84, c85, c86, c87, c88, c89, c90, c91, c92, c93, c94, c95, c96, c97, c98, c99, c100, c101, c102, c103, c104, c105, c106, c107, c108, c109, c110, c111, c112, c113, c114, .int .i64 y, u116, u117, u118, u119, u120, u121, u122, u123, u124, u125, u126, u127, u128, u129, u130, u131, u132, u133, u134, u135, u136, u137, u138, u139, u140, u141, u142, u143, u144, u145, u146, u147, u148, u149, u150, u151, u152, u153, u154, u155, u156, u157, u158, u159, u160, u161, u162, u163, u164, u165, u166, u167, u168, u169, u170, u171, u172, u173, u174, u175, u176, u177, u178, u179, u180, u181, c182, c183, c184, c185, c186, c187, c188, c189, c190, c191, c192, c193, c194, c195, c196, c197, c198, c199, c200, c201, c202, c203, c204, c205, c206, c207, c208, c209, c210, c211, c212, c213, c214, c215, c216, c217, c218, c219, c220, c221, c222, c223, c224, c225, c226], []⟩ → M) : M :=
  Exists.elim h fun u116 h => Exists.elim h fun u117 h => Exists.elim h fun u118 h => Exists.elim h fun u119 h => Exists.elim h fun u120 h => Exists.elim h fun u121 h => Exists.elim h fun u122 h => Exists.elim h fun u123 h => Exists.elim h fun u124 h => Exists.elim h fun u125 h => Exists.elim h fun u126 h => Exists.elim h fun u127 h => Exists.elim h fun u128 h => Exists.elim h fun u129 h => Exists.elim h fun u130 h => Exists.elim h fun u131 h => Exists.elim h fun u132 h => Exists.elim h fun u133 h => Exists.elim h fun u134 h => Exists.elim h fun u135 h => Exists.elim h fun u136 h => Exists.elim h fun u137 h => Exists.elim h fun u138 h => Exists.elim h fun u139 h => Exists.elim h fun u140 h => Exists.elim h fun u141 h => Exists.elim h fun u142 h => Exists.elim h fun u143 h => Exists.elim h fun u144 h => Exists.elim h fun u145 h => Exists.elim h fun u146 h => Exists.elim h fun u147 h => Exists.elim h fun u148 h => Exists.elim h fun u149 h => Exists.elim h fun u150 h => Exists.elim h fun u151 h => Exists.elim h fun u152 h => Exists.elim h fun u153 h => Exists.elim h fun u154 h => Exists.elim h fun u155 h => Exists.elim h fun u156 h => Exists.elim h fun u157 h => Exists.elim h fun u158 h => Exists.elim h fun u159 h => Exists.elim h fun u160 h => Exists.elim h fun u161 h => Exists.elim h fun u162 h => Exists.elim h fun u163 h => Exists.elim h fun u164 h => Exists.elim h fun u165 h => Exists.elim h fun u166 h => Exists.elim h fun u167 h => Exists.elim h fun u168 h => Exists.elim h fun u169 h => Exists.elim h fun u170 h => Exists.elim h fun u171 h => Exists.elim h fun u172 h => Exists.elim h fun u173 h => Exists.elim h fun u174 h => Exists.elim h fun u175 h => Exists.elim h fun u176 h => Exists.elim h fun u177 h => Exists.elim h fun u178 h => Exists.elim h fun u179 h => Exists.elim h fun u180 h => Exists.elim h fun u181 h => k u116 u117 u118 u119 u120 u121 u122 u123 u124 u125 u126 u127 u128 u129 u130 u131 u132 u133 u134 u135 u136 u137 u138 u139 u140 u141 u142 u143 u144 u145 u146 u147 u148 u149 u150 u151 u152 u153 u154 u155 u156 u157 u158 u159 u160 u161 u162 u163 u164 u165 u166 u167 u168 u169 u170 u171 u172 u173 u174 u175 u176 u177 u178 u179 u180 u181 h.1 h.2
theorem wp_code_eq {P : Program} {c c' : Code} {Q : Exit → Act → World → Prop} {a : Act} {w : World} (h : c = c') (k : Code.wp P c' Q a w) : Code.wp P c Q a w := h ▸ k
end Go.Proofs.Ytfekldcpjoiipaa
