/-
  tableauref18: the reference's windows in memory; W, Step.
-/
import Derived.Test.YtfekldcpjoiipaaDoorShell2
import Derived.Deep.DeepCutAuto
namespace Go.Proofs.YtfekldcpjoiipaaDoor
open Go.RowKit

/-- A window of the reference: its number, its step, its serials' slice, its serials. -/
structure RWin where
  id : Int
  st : Nat
  v : Value
  ws : List Int
def RWin.enc (r : RWin) : List Value := [.int .i64 r.id, .int .i64 r.st, r.v]
instance : Inhabited RWin := ⟨⟨0, 0, .slice none 0 0, []⟩⟩

/-- The windows as a function of the number. -/
def toS (L : List RWin) : Int → Option (Nat × List Int) := fun id => (L.find? fun r => r.id == id).map fun r => (r.st, r.ws)

/-- The row of windows: v. -/
structure RefL (w : World) (q : Nat) (G : Nat → Prop) (v : Value) (L : List RWin) : Prop where
  cells : w.heap[q]? = some (.cells #[v] 53 (0, 0))
  row : w.ownsRow 0 63 3 v L.length (L.flatMap RWin.enc)
  serials : ∀ r ∈ L, w.ownsRow 0 3 1 r.v r.ws.length (r.ws.map (Value.int .i64))
  ids : (L.map RWin.id).Nodup
  i64 : ∀ r ∈ L, I64 r.id
  gq : G q
  gv : ∀ b, v.ownBlock = some b → G b
  gs : ∀ r ∈ L, ∀ b, r.v.ownBlock = some b → G b
  glt : ∀ b, G b → b < w.heap.size

theorem rwin_row {L : List RWin} {k : Nat} (hk : k < L.length) (j : Nat) (hj : j < 3) : (L.flatMap RWin.enc)[k * 3 + j]? = ((L.getD k default).enc)[j]? := by
  induction L generalizing k with
  | nil => simp at hk
  | cons r L ih =>
    rw [List.flatMap_cons]
    have hr : r.enc.length = 3 := rfl
    cases k with
    | zero =>
      rw [List.getElem?_append_left (by rw [hr]; omega)]
      simp
    | succ k =>
      rw [List.getElem?_append_right (by rw [hr]; omega), hr, show (k + 1) * 3 + j - 3 = k * 3 + j by omega, ih (by simpa using hk)]
      simp
theorem rwin_len (L : List RWin) : (L.flatMap RWin.enc).length = L.length * 3 := by
  induction L with
  | nil => rfl
  | cons r L ih =>
    rw [List.flatMap_cons, List.length_append, ih, List.length_cons]
    show 3 + L.length * 3 = (L.length + 1) * 3
    omega

section
variable {w w' : World} {q : Nat} {G : Nat → Prop} {v : Value} {L : List RWin}
theorem RefL.cell (h : RefL w q G v L) : w.cell? ⟨q, 0, none⟩ = some v := by rw [cell_of_row w q 0 _ _ _ h.cells]; rfl
theorem own_chg18 {base n sz : Nat} {e : TypeId} {v : Value} {cs : List Value} {F : Nat → Prop} (h : w.ownsRow base e sz v n cs) (hg : Chg F w w') (hF : ∀ b, v.ownBlock = some b → ¬ F b) : w'.ownsRow base e sz v n cs := by
  refine ⟨h.1, ?_⟩
  rcases h.2 with h2 | ⟨g, cap, cur, rfl, hb, hgb, r⟩
  · exact .inl h2
  · exact .inr ⟨g, cap, cur, rfl, hb, (hg.block g (lt_of_block hgb) (hF g rfl)).trans hgb, r⟩
theorem RefL.chg {F : Nat → Prop} (h : RefL w q G v L) (hg : Chg F w w') (hF : ∀ b, G b → ¬ F b) : RefL w' q G v L :=
  ⟨(hg.block q (lt_of_block h.cells) (hF q h.gq)).trans h.cells, own_chg18 h.row hg fun b hb => hF b (h.gv b hb), fun r hr => own_chg18 (h.serials r hr) hg fun b hb => hF b (h.gs r hr b hb), h.ids, h.i64, h.gq, h.gv, h.gs, fun b hb => by have := h.glt b hb; have := hg.size; omega⟩
/-- The windows lie in a block. -/
theorem RefL.form (h : RefL w q G v L) : ∃ A c, v = .slice A L.length c ∧ L.length ≤ c ∧ (0 < L.length → ∃ g, A = some ⟨g, 0, none⟩) := by
  rcases h.row.2 with ⟨rfl, h0⟩ | ⟨g, cap, cur, rfl, _, _, hc, _⟩
  · rw [h0]; exact ⟨none, 0, rfl, Nat.le_refl _, fun h => absurd h (by omega)⟩
  · exact ⟨_, cap, rfl, hc, fun _ => ⟨g, rfl⟩⟩
/-- One window's cells. -/
theorem RefL.win {g c : Nat} (h : RefL w q G (.slice (some ⟨g, 0, none⟩) L.length c) L) {k : Nat} (hk : k < L.length) :
    w.cell? ⟨g, k * 3, none⟩ = some (.int .i64 (L.getD k default).id) ∧ w.cell? ⟨g, k * 3 + 1, none⟩ = some (.int .i64 (L.getD k default).st) ∧ w.cell? ⟨g, k * 3 + 2, none⟩ = some (L.getD k default).v := by
  have H := fun j hj u (e : ((L.getD k default).enc)[j]? = some u) => h.row.cells (g := g) rfl (k * 3 + j) u (by rw [rwin_row hk j hj]; exact e)
  have h0 := H 0 (by decide) _ rfl
  have h1 := H 1 (by decide) _ rfl
  have h2 := H 2 (by decide) _ rfl
  rw [addr_add, Nat.zero_add] at h0 h1 h2
  exact ⟨h0, h1, h2⟩
end

/-- What W hands back. -/
def FoundW (L : List RWin) (v : Value) (id : Int) (p : Value) : Prop :=
  ((∀ k, k < L.length → (L.getD k default).id ≠ id) ∧ p = .pointer none) ∨ ∃ k g c, k < L.length ∧ (L.getD k default).id = id ∧ v = .slice (some ⟨g, 0, none⟩) L.length c ∧ p = .pointer (some ⟨g, k * 3, none⟩)

theorem toS_none {L : List RWin} {id : Int} (h : ∀ k, k < L.length → (L.getD k default).id ≠ id) : toS L id = none := by
  unfold toS
  rw [List.find?_eq_none.2]
  · rfl
  · intro r hr
    obtain ⟨k, hk, rfl⟩ := List.getElem_of_mem hr
    have := h k hk
    simpa [List.getD, hk] using this
theorem nodup_getD {L : List RWin} (hn : (L.map RWin.id).Nodup) {i k : Nat} (hi : i < L.length) (hk : k < L.length) (h : (L.getD i default).id = (L.getD k default).id) : i = k := by
  have hp := List.pairwise_iff_getElem.1 hn
  rcases Nat.lt_trichotomy i k with hlt | heq | hlt
  · exfalso
    refine hp i k (by simpa using hi) (by simpa using hk) hlt ?_
    simpa [List.getD, hi, hk] using h
  · exact heq
  · exfalso
    refine hp k i (by simpa using hk) (by simpa using hi) hlt ?_
    simpa [List.getD, hi, hk] using h.symm
theorem toS_some : ∀ {L : List RWin} (_ : (L.map RWin.id).Nodup) {k : Nat} (_ : k < L.length), toS L (L.getD k default).id = some ((L.getD k default).st, (L.getD k default).ws)
  | [], _, k, hk => by simp at hk
  | r :: L, hn, 0, _ => by simp [toS]
  | r :: L, hn, k + 1, hk => by
    have hk' : k < L.length := by simpa using hk
    obtain ⟨h1, h2⟩ := List.nodup_cons.1 hn
    have hne : r.id ≠ (L.getD k default).id := fun e => h1 (by
      rw [e]
      have : (L.getD k default) ∈ L := by
        have e2 : L.getD k default = L[k] := by simp [List.getD, hk']
        rw [e2]; exact List.getElem_mem hk'
      exact List.mem_map_of_mem this)
    have ih := toS_some h2 hk'
    rw [List.getD_cons_succ]
    unfold toS at ih ⊢
    rw [List.find?_cons_of_neg (by simpa using hne)]
    exact ih

set_option maxRecDepth 100000 in
theorem rW_any (w : World) (q : Nat) (G : Nat → Prop) (v : Value) (L : List RWin) (id : Int) (h : RefL w q G v L) (hl : L.length ≤ 1000) :
    Calls Tryd.prog 44 #[.pointer (some ⟨q, 0, none⟩), .int .i64 id] w fun e w' => ∃ p, e = .returned p ∧ FoundW L v id p ∧ w = w' := by
  have hc := h.cell
  obtain ⟨A, c, rfl, hcc, hA⟩ := h.form
  obtain ⟨n, hn⟩ : ∃ n, n = L.length := ⟨_, rfl⟩
  have hw := hide (fun (g : Nat) (e : A = some ⟨g, 0, none⟩) (k : Nat) (hk : k < L.length) => RefL.win (w := w) (q := q) (G := G) (g := g) (c := c) (L := L) (by rw [← e]; exact h) hk)
  rw [← hn] at hc hcc hA hl
  unfold FoundW
  rw [← hn]
  replace hn := hide hn
  clear h
  go_enter Tryd.func44, Tryd.ntmps44
  go_wp2
  go_loopw [5] (fun i wr => ∃ k : Nat, k ≤ n ∧ i = .int .i64 k ∧ Hid (∀ j, j < k → (L.getD j default).id ≠ id) ∧ wr = w)
    (fun i _ => n - (intOf i).toNat)
  case atStart => exact ⟨0, Nat.zero_le _, rfl, hide (fun j hj => absurd hj (by omega)), rfl⟩
  case round =>
    obtain ⟨k, hk, rfl, hT, rfl⟩ := hrel
    by_cases hlt : k < n
    · obtain ⟨g, rfl⟩ := hA (by omega)
      obtain ⟨k0, _, _⟩ := hw.out g rfl k (by rw [← hn.out]; exact hlt)
      obtain ⟨x, hx⟩ : ∃ x, x = (L.getD k default).id := ⟨_, rfl⟩
      rw [← hx] at k0
      replace hx := hide hx
      by_cases hxd : x = id
      · have hb : (x == id) = true := by simpa using hxd
        go_wp2
        go_ret
        exact ⟨_, rfl, .inr ⟨k, g, c, hlt, by rw [← hx.out]; exact hxd, rfl, rfl⟩, rfl⟩
      · have hb : (x == id) = false := by simpa using hxd
        have hT2 : Hid (∀ j, j < k + 1 → (L.getD j default).id ≠ id) := hide (fun j hj => by
          by_cases e : j = k
          · subst e; rw [← hx.out]; exact hxd
          · exact hT.out j (by omega))
        go_wp2
        go_roundw
        case rel => exact ⟨k + 1, by omega, by go_num, hT2, by first | trivial | rfl⟩
        case measure => simp [intOf]; omega
    · obtain rfl : k = n := by omega
      go_wp2
      go_ret
      exact ⟨_, rfl, .inl ⟨hT.out, rfl⟩, rfl⟩

/-- A window's step; -1: there is none. -/
def stepI (S : Int → Option (Nat × List Int)) (id : Int) : Int := match S id with | none => -1 | some (st, _) => st

set_option maxRecDepth 100000 in
theorem rStep_any (w : World) (q : Nat) (G : Nat → Prop) (v : Value) (L : List RWin) (id : Int) (h : RefL w q G v L) (hl : L.length ≤ 1000) :
    Calls Tryd.prog 45 #[.pointer (some ⟨q, 0, none⟩), .int .i64 id] w fun e w' => e = .returned (.int .i64 (stepI (toS L) id)) ∧ w = w' := by
  have cW := hide (rW_any w q G v L id h hl)
  replace h := hide h
  go_enter Tryd.func45, Tryd.ntmps45
  go_wp2_with fail
  refine (cW.out).mono ?_
  rintro e w' ⟨p, rfl, hF, rfl⟩
  rcases hF with ⟨hn, rfl⟩ | ⟨k, g, c, hk, hid, rfl, rfl⟩
  · have e1 : stepI (toS L) id = -1 := by simp [stepI, toS_none hn]
    replace hn := hide hn
    replace e1 := hide e1
    go_wp2
    go_ret
    exact ⟨by rw [e1.out]; rfl, rfl⟩
  · have e1 : stepI (toS L) id = (L.getD k default).st := by rw [← hid]; simp only [stepI, toS_some h.out.ids hk]
    obtain ⟨_, k1, _⟩ := h.out.win hk
    generalize (L.getD k default).st = x at k1 e1
    replace e1 := hide e1
    clear hid
    go_wp2
    go_ret
    exact ⟨by rw [e1.out]; rfl, rfl⟩
end Go.Proofs.YtfekldcpjoiipaaDoor
