/-
  The laws of layer 16, as walks.
-/
import Derived.Test.YtfekldcpjoiipaaDoorRef16b
import Derived.Test.YtfekldcpjoiipaaDoorLaw00
import Derived.Test.YtfekldcpjoiipaaDoorErrs2
import Derived.Deep.DeepCutAuto
namespace Go.Proofs.YtfekldcpjoiipaaDoor
open Go.RowKit

def oBad (xs : List Int) (id by' : Int) : Prop := id ∉ xs ∨ by' ∉ xs ∨ id = by'
open Classical in
noncomputable def oL (xs : List Int) (id by' : Int) (k : Nat) : List Int := if oBad xs id by' then [] else putL xs id by' k
open Classical in
noncomputable def oK (xs : List Int) (id by' : Int) : Nat := if oBad xs id by' then 11 else 0
theorem oK_le (xs : List Int) (id by' : Int) : oK xs id by' ≤ 16 := by unfold oK; split <;> omega
theorem putL_len (xs : List Int) (id by' : Int) (k : Nat) : (putL xs id by' k).length = (without xs id).length + 1 := by unfold putL; simp; omega
theorem oL_len (xs : List Int) (id by' : Int) (k : Nat) : (oL xs id by' k).length ≤ xs.length + 1 := by
  unfold oL; split
  · simp
  · rw [putL_len]; have := without_le xs id; omega
theorem not_oBad {xs : List Int} {id by' : Int} (h : ¬ oBad xs id by') : id ∈ xs ∧ by' ∈ xs ∧ id ≠ by' := by
  unfold oBad at h
  exact ⟨Classical.byContradiction fun h1 => h (.inl h1), Classical.byContradiction fun h1 => h (.inr (.inl h1)), fun h1 => h (.inr (.inr h1))⟩
theorem Rd.drewE {w w' : World} {q : Nat} {v : Value} {sz n : Nat} {cs : List Value} (h : Rd w v sz n cs) (e : w' = w.drewN q) : Rd w' v sz n cs := by subst e; exact h
theorem Rd.drewN {w : World} {v : Value} {sz n : Nat} {cs : List Value} (h : Rd w v sz n cs) (q : Nat) : Rd (w.drewN q) v sz n cs := h

theorem above_any {B : Nat} (w : World) {ae : Nat → Addr} (hE : Errs B w ae) (hBs : B ≤ w.heap.size) (v : Value) (xs : List Int) (id by' : Int) (hr : Rd w v 1 xs.length (xs.map (Value.int .i64))) (hlen : xs.length ≤ 1000000) :
    Calls Tryd.prog 12 #[v, .int .i64 id, .int .i64 by'] w fun e w' => ∃ v', e = .returned (.tuple #[v', errV ae (oK xs id by')]) ∧ w'.ownsRow w.heap.size 3 1 v' (oL xs id by' 1).length ((oL xs id by' 1).map (Value.int .i64)) ∧ Below w.heap.size w w' := by
  by_cases hb : oBad xs id by'
  · refine (above_bad w hE v xs id by' hr hlen hb).mono ?_
    rintro e w' ⟨rfl, q, rfl⟩
    exact ⟨.slice none 0 0, by simp [oK, hb], by simpa [oL, hb] using World.ownsRow_nil _ _ _ _, below_drewN (Below.refl _ _) q⟩
  · obtain ⟨h1, h2, h3⟩ := not_oBad hb
    refine (above_ok w hE hBs v xs id by' hr hlen h1 h2 h3).mono ?_
    rintro e w' ⟨v', rfl, hown, hB⟩
    exact ⟨v', by simp [oK, hb, errV], by simpa only [oL, if_neg hb] using hown, hB⟩

theorem below_any {B : Nat} (w : World) {ae : Nat → Addr} (hE : Errs B w ae) (v : Value) (xs : List Int) (id by' : Int) (hr : Rd w v 1 xs.length (xs.map (Value.int .i64))) (hlen : xs.length ≤ 1000000) :
    Calls Tryd.prog 14 #[v, .int .i64 id, .int .i64 by'] w fun e w' => ∃ v', e = .returned (.tuple #[v', errV ae (oK xs id by')]) ∧ w'.ownsRow w.heap.size 3 1 v' (oL xs id by' 0).length ((oL xs id by' 0).map (Value.int .i64)) ∧ Below w.heap.size w w' := by
  by_cases hb : oBad xs id by'
  · refine (below_bad w hE v xs id by' hr hlen hb).mono ?_
    rintro e w' ⟨rfl, q, rfl⟩
    exact ⟨.slice none 0 0, by simp [oK, hb], by simpa [oL, hb] using World.ownsRow_nil _ _ _ _, below_drewN (Below.refl _ _) q⟩
  · obtain ⟨h1, h2, h3⟩ := not_oBad hb
    refine (below_ok w v xs id by' hr hlen h1 h2 h3).mono ?_
    rintro e w' ⟨v', rfl, hown, hB⟩
    exact ⟨v', by simp [oK, hb, errV], by simpa only [oL, if_neg hb] using hown, hB⟩

theorem rPut_any (w : World) (v : Value) (xs : List Int) (id by' : Int) (k : Nat) (hr : Rd w v 1 xs.length (xs.map (Value.int .i64))) (hlen : xs.length ≤ 1000000) (hk : k ≤ 1) :
    Calls Tryd.prog 13 #[v, .int .i64 id, .int .i64 by', .int .i64 k] w fun e w' => ∃ v', e = .returned (.tuple #[v', .int .i64 (oK xs id by')]) ∧ w'.ownsRow w.heap.size 3 1 v' (oL xs id by' k).length ((oL xs id by' k).map (Value.int .i64)) ∧ Below w.heap.size w w' := by
  by_cases hb : oBad xs id by'
  · refine (rPut_bad w v xs id by' k hr hlen hb).mono ?_
    rintro e w' ⟨rfl, rfl⟩
    exact ⟨.slice none 0 0, by simp [oK, hb], by simpa [oL, hb] using World.ownsRow_nil _ _ _ _, Below.refl _ _⟩
  · obtain ⟨h1, h2, h3⟩ := not_oBad hb
    refine (rPut_ok w v xs id by' k hr hlen h1 h2 h3 hk).mono ?_
    rintro e w' ⟨v', rfl, hown, hB⟩
    exact ⟨v', by simp [oK, hb], by simpa only [oL, if_neg hb] using hown, hB⟩

set_option maxRecDepth 100000 in
theorem awake16_any {B : Nat} (W : World) {ae : Nat → Addr} (hE : Errs B W ae) (hB : B ≤ W.heap.size) : Calls Tryd.prog 10 #[] W fun e w' => e = .returned (.bool true) ∧ Below W.heap.size W w' := by
  have H1 := above_ok (W.alloc (.cells #[.int .i64 1, .int .i64 2, .int .i64 3] 3)) (hE.alloc _) (by simp; omega) _ [1, 2, 3] 1 2 (Rd.lit W [.int .i64 1, .int .i64 2, .int .i64 3] 3 3 rfl (by decide)) (by decide) (by decide) (by decide) (by decide)
  rw [show putL [1, 2, 3] 1 2 1 = [2, 1, 3] by decide] at H1
  have H1 := hide H1
  go_enter Tryd.func10, Tryd.ntmps10
  go_wp2_with fail
  refine H1.out.mono ?_
  rintro e w1 ⟨v1, rfl, hown1, hB1⟩
  have hB1 : Below W.heap.size W w1 := ((Below.refl W.heap.size W).alloc (Nat.le_refl _) _).trans (hB1.mono (by simp))
  obtain ⟨A1, c1, rfl, hc1⟩ := own_form hown1
  have hE1 := (hE.below (hB1.mono hB)).alloc (.cells #[.int .i64 1] 3)
  have H2 := hide (below_bad (w1.alloc (.cells #[.int .i64 1] 3)) hE1 _ [1] 1 1 (Rd.lit w1 [.int .i64 1] 3 1 rfl (by decide)) (by decide) (.inr (.inr rfl)))
  have hr1 := hide (((Rd.of_own hown1).alloc (.cells #[.int .i64 1] 3)))
  clear hown1
  go_wp2_with fail
  refine H2.out.mono ?_
  rintro e w2 ⟨rfl, q, rfl⟩
  obtain ⟨w3, hw3⟩ : ∃ w3, w3 = (w1.alloc (.cells #[.int .i64 1] 3)).drewN q := ⟨_, rfl⟩
  have hr3 : Rd w3 (.slice A1 3 c1) 1 3 ([2, 1, 3].map (Value.int .i64)) := by rw [hw3]; exact hr1.out
  have hB3 : Below W.heap.size W w3 := by rw [hw3]; exact below_drewN (hB1.alloc hB1.size _) q
  rw [← hw3]
  clear hw3 hr1 hB1 H1 H2
  have H3 := hide (sameInts_true (w3.alloc (.cells #[.int .i64 2, .int .i64 1, .int .i64 3] 3)) _ _ [2, 1, 3] (hr3.alloc _) (Rd.lit w3 [.int .i64 2, .int .i64 1, .int .i64 3] 3 3 rfl (by decide)) (by decide))
  go_wp2_with fail
  refine H3.out.mono ?_
  rintro e w4 ⟨rfl, q4, rfl⟩
  have hB4 : Below W.heap.size W ((w3.alloc (.cells #[.int .i64 2, .int .i64 1, .int .i64 3] 3)).drewN q4) := below_drewN (hB3.alloc hB3.size _) q4
  obtain ⟨w4, hw4⟩ : ∃ w4, w4 = (w3.alloc (.cells #[.int .i64 2, .int .i64 1, .int .i64 3] 3)).drewN q4 := ⟨_, rfl⟩
  rw [← hw4] at hB4 ⊢
  clear hw4
  have H4 := hide (kind_any B w4 ae 11 (hE.below (hB4.mono hB)) (by decide))
  go_wp2_with fail
  refine H4.out.mono ?_
  rintro e w5 ⟨rfl, hB5⟩
  go_wp2
  go_ret
  exact ⟨rfl, hB4.trans (hB5.mono hB4.size)⟩


set_option maxRecDepth 100000 in
set_option maxHeartbeats 1000000 in
theorem orderAll_any {B : Nat} (W : World) {ae : Nat → Addr} (hE : Errs B W ae) (hB : B ≤ W.heap.size) (v : Value) (l : List Int) (id by' : Int) (hr : Rd W v 1 l.length (l.map (Value.int .i64))) :
    Calls Tryd.prog 3 #[v, .int .i64 id, .int .i64 by'] W fun e w' => e = .returned (.bool true) ∧ Below W.heap.size W w' := by
  by_cases hlen : l.length ≤ 60
  · have hlen6 : l.length ≤ 1000000 := by omega
    have hB0 : Below W.heap.size W W := Below.refl _ _
    have HI := hide (ints_any W v l hr hlen6)
    have Hr := hide hr
    have hK16 := oK_le l id by'
    have hLa := oL_len l id by' 1
    have hLc := oL_len l id by' 0
    have hWl := without_le l id
    obtain ⟨_, A, c, rfl, hc, _⟩ := hr
    go_enter Tryd.func3, Tryd.ntmps3
    go_wp2_with fail
    refine HI.out.mono ?_
    rintro e w1 ⟨x, rfl, hx, b1⟩
    obtain ⟨Ax, cx, rfl, hcx⟩ := own_form hx
    have rx := Rd.of_own hx
    have rl := Hr.out.below b1 (Nat.le_refl _)
    have hBe := b1
    have hE1 := hE.below (hBe.mono hB)
    clear hx HI Hr
    go_wp2_with fail
    refine (above_any w1 hE1 (Nat.le_trans hB hBe.size) _ l id by' rx hlen6).mono ?_
    rintro e w2 ⟨va, rfl, ha, b2⟩
    have rx := rx.below b2 (Nat.le_refl _)
    have rl := rl.below b2 (Nat.le_refl _)
    have hBe := hBe.trans (b2.mono hBe.size)
    have hE1 := hE.below (hBe.mono hB)
    obtain ⟨Aa, ca, rfl, hca⟩ := own_form ha
    have ra := Rd.of_own ha
    clear ha
    go_wp2_with fail
    refine (rPut_any w2 _ l id by' 1 rl hlen6 (by omega)).mono ?_
    rintro e w3 ⟨vb, rfl, hb, b3⟩
    have rx := rx.below b3 (Nat.le_refl _)
    have rl := rl.below b3 (Nat.le_refl _)
    have ra := ra.below b3 (Nat.le_refl _)
    have hBe := hBe.trans (b3.mono hBe.size)
    have hE1 := hE.below (hBe.mono hB)
    obtain ⟨Ab, cb, rfl, hcb⟩ := own_form hb
    have rb := Rd.of_own hb
    clear hb
    go_wp2_with fail
    refine (below_any w3 hE1 _ l id by' rx hlen6).mono ?_
    rintro e w4 ⟨vc, rfl, hc', b4⟩
    have rx := rx.below b4 (Nat.le_refl _)
    have rl := rl.below b4 (Nat.le_refl _)
    have ra := ra.below b4 (Nat.le_refl _)
    have rb := rb.below b4 (Nat.le_refl _)
    have hBe := hBe.trans (b4.mono hBe.size)
    have hE1 := hE.below (hBe.mono hB)
    obtain ⟨Ac, cc, rfl, hcc⟩ := own_form hc'
    have rc := Rd.of_own hc'
    clear hc'
    go_wp2_with fail
    refine (rPut_any w4 _ l id by' 0 rl hlen6 (by omega)).mono ?_
    rintro e w5 ⟨vd, rfl, hd, b5⟩
    have rx := rx.below b5 (Nat.le_refl _)
    have rl := rl.below b5 (Nat.le_refl _)
    have ra := ra.below b5 (Nat.le_refl _)
    have rb := rb.below b5 (Nat.le_refl _)
    have rc := rc.below b5 (Nat.le_refl _)
    have hBe := hBe.trans (b5.mono hBe.size)
    have hE1 := hE.below (hBe.mono hB)
    obtain ⟨Ad, cd, rfl, hcd⟩ := own_form hd
    have rd := Rd.of_own hd
    clear hd
    generalize hK : oK l id by' = K at *
    go_wp2_with fail
    refine (oHas_any w5 _ l id rx hlen6).mono ?_
    rintro e w' ⟨rfl, rfl⟩
    go_wp2_with fail
    refine (rHas_any w5 _ l id rl hlen6).mono ?_
    rintro e w' ⟨rfl, rfl⟩
    go_wp2_with fail
    refine (top_any w5 _ l id rx hlen6).mono ?_
    rintro e w6 ⟨vt, rfl, ht, b6⟩
    have rx := rx.below b6 (Nat.le_refl _)
    have rl := rl.below b6 (Nat.le_refl _)
    have ra := ra.below b6 (Nat.le_refl _)
    have rb := rb.below b6 (Nat.le_refl _)
    have rc := rc.below b6 (Nat.le_refl _)
    have rd := rd.below b6 (Nat.le_refl _)
    have hBe := hBe.trans (b6.mono hBe.size)
    have hE1 := hE.below (hBe.mono hB)
    obtain ⟨T, hT⟩ : ∃ T, T = without l id ++ [id] := ⟨_, rfl⟩
    have hTl := hide (show T.length = (without l id).length + 1 by rw [hT]; simp)
    have hTle : T.length ≤ 61 := by have := hTl.out; omega
    rw [← hT, ← hTl.out] at ht
    replace hT := hide hT
    obtain ⟨At, ct, rfl, hct⟩ := own_form ht
    have rt := Rd.of_own ht
    clear ht
    go_wp2_with fail
    refine (rtop_any w6 _ l id rl hlen6).mono ?_
    rintro e w7 ⟨vu, rfl, hu, b7⟩
    have rx := rx.below b7 (Nat.le_refl _)
    have rl := rl.below b7 (Nat.le_refl _)
    have ra := ra.below b7 (Nat.le_refl _)
    have rb := rb.below b7 (Nat.le_refl _)
    have rc := rc.below b7 (Nat.le_refl _)
    have rd := rd.below b7 (Nat.le_refl _)
    have rt := rt.below b7 (Nat.le_refl _)
    have hBe := hBe.trans (b7.mono hBe.size)
    have hE1 := hE.below (hBe.mono hB)
    rw [← hT.out, ← hTl.out] at hu
    clear hT hTl
    obtain ⟨Au, cu, rfl, hcu⟩ := own_form hu
    have ru := Rd.of_own hu
    clear hu
    go_wp2_with fail
    refine (sameInts_true w7 _ _ T rt ru (by omega)).mono ?_
    rintro e w8 ⟨rfl, q8, hw8⟩
    have rx := rx.drewE hw8
    have rl := rl.drewE hw8
    have ra := ra.drewE hw8
    have rb := rb.drewE hw8
    have rc := rc.drewE hw8
    have rd := rd.drewE hw8
    have rt := rt.drewE hw8
    have ru := ru.drewE hw8
    have hBe : Below W.heap.size W w8 := by rw [hw8]; exact below_drewN hBe q8
    have hE1 := hE.below (hBe.mono hB)
    clear hw8
    clear rt ru
    go_wp2_with fail
    refine (drop_any w8 _ l id rx hlen6).mono ?_
    rintro e w9 ⟨vt, rfl, ht, b9⟩
    have rx := rx.below b9 (Nat.le_refl _)
    have rl := rl.below b9 (Nat.le_refl _)
    have ra := ra.below b9 (Nat.le_refl _)
    have rb := rb.below b9 (Nat.le_refl _)
    have rc := rc.below b9 (Nat.le_refl _)
    have rd := rd.below b9 (Nat.le_refl _)
    have hBe := hBe.trans (b9.mono hBe.size)
    have hE1 := hE.below (hBe.mono hB)
    obtain ⟨At, ct, rfl, hct⟩ := own_form ht
    have rt := Rd.of_own ht
    clear ht
    go_wp2_with fail
    refine (rdrop_any w9 _ l id rl hlen6).mono ?_
    rintro e w10 ⟨vu, rfl, hu, b10⟩
    have rx := rx.below b10 (Nat.le_refl _)
    have rl := rl.below b10 (Nat.le_refl _)
    have ra := ra.below b10 (Nat.le_refl _)
    have rb := rb.below b10 (Nat.le_refl _)
    have rc := rc.below b10 (Nat.le_refl _)
    have rd := rd.below b10 (Nat.le_refl _)
    have rt := rt.below b10 (Nat.le_refl _)
    have hBe := hBe.trans (b10.mono hBe.size)
    have hE1 := hE.below (hBe.mono hB)
    obtain ⟨Au, cu, rfl, hcu⟩ := own_form hu
    have ru := Rd.of_own hu
    clear hu
    go_wp2_with fail
    refine (sameInts_true w10 _ _ (without l id) rt ru (by omega)).mono ?_
    rintro e w11 ⟨rfl, q11, hw11⟩
    have rx := rx.drewE hw11
    have rl := rl.drewE hw11
    have ra := ra.drewE hw11
    have rb := rb.drewE hw11
    have rc := rc.drewE hw11
    have rd := rd.drewE hw11
    have rt := rt.drewE hw11
    have ru := ru.drewE hw11
    have hBe : Below W.heap.size W w11 := by rw [hw11]; exact below_drewN hBe q11
    have hE1 := hE.below (hBe.mono hB)
    clear hw11
    clear rt ru
    go_wp2_with fail
    refine (sameInts_true w11 _ _ (oL l id by' 1) ra rb (by omega)).mono ?_
    rintro e w12 ⟨rfl, q12, hw12⟩
    have rx := rx.drewE hw12
    have rl := rl.drewE hw12
    have ra := ra.drewE hw12
    have rb := rb.drewE hw12
    have rc := rc.drewE hw12
    have rd := rd.drewE hw12
    have hBe : Below W.heap.size W w12 := by rw [hw12]; exact below_drewN hBe q12
    have hE1 := hE.below (hBe.mono hB)
    clear hw12
    clear ra rb
    go_wp2_with fail
    refine (kind_any B w12 ae K hE1 hK16).mono ?_
    rintro e w13 ⟨rfl, b13⟩
    have rx := rx.below b13 (Nat.le_refl _)
    have rl := rl.below b13 (Nat.le_refl _)
    have rc := rc.below b13 (Nat.le_refl _)
    have rd := rd.below b13 (Nat.le_refl _)
    have hBe := hBe.trans (b13.mono hBe.size)
    have hE1 := hE.below (hBe.mono hB)
    go_wp2_with fail
    refine (sameInts_true w13 _ _ (oL l id by' 0) rc rd (by omega)).mono ?_
    rintro e w14 ⟨rfl, q14, hw14⟩
    have rx := rx.drewE hw14
    have rl := rl.drewE hw14
    have rc := rc.drewE hw14
    have rd := rd.drewE hw14
    have hBe : Below W.heap.size W w14 := by rw [hw14]; exact below_drewN hBe q14
    have hE1 := hE.below (hBe.mono hB)
    clear hw14
    clear rc rd
    go_wp2_with fail
    refine (kind_any B w14 ae K hE1 hK16).mono ?_
    rintro e w15 ⟨rfl, b15⟩
    have rx := rx.below b15 (Nat.le_refl _)
    have rl := rl.below b15 (Nat.le_refl _)
    have hBe := hBe.trans (b15.mono hBe.size)
    have hE1 := hE.below (hBe.mono hB)
    go_wp2_with fail
    refine (sameInts_true w15 _ _ l rx rl (by omega)).mono ?_
    rintro e w16 ⟨rfl, q16, hw16⟩
    have rx := rx.drewE hw16
    have rl := rl.drewE hw16
    have hBe : Below W.heap.size W w16 := by rw [hw16]; exact below_drewN hBe q16
    have hE1 := hE.below (hBe.mono hB)
    clear hw16
    clear rx rl
    go_wp2_with fail
    refine (awake16_any w16 hE1 (Nat.le_trans hB hBe.size)).mono ?_
    rintro e w17 ⟨rfl, b17⟩
    have hBe := hBe.trans (b17.mono hBe.size)
    have hE1 := hE.below (hBe.mono hB)
    go_wp2
    go_ret
    exact ⟨rfl, hBe⟩
  · have HA := hide (awake16_any W hE hB)
    have Hr := hide hr
    obtain ⟨_, A, c, rfl, hc, _⟩ := hr
    have hlt : (60 : Int) < (l.length : Int) := by omega
    obtain ⟨n, hn⟩ : ∃ n, n = l.length := ⟨_, rfl⟩
    simp only [← hn] at hlt ⊢
    clear hlen
    go_enter Tryd.func3, Tryd.ntmps3
    go_wp2_with fail
    refine HA.out.mono ?_
    rintro e w1 ⟨rfl, hB1⟩
    go_wp2
    go_ret
    exact ⟨rfl, hB1⟩

def topStep (x : List Int) (a : Int) : List Int := without x a ++ [a]
def lastsL : List Int → List Int
  | [] => []
  | a :: r => if a ∈ r then lastsL r else a :: lastsL r
theorem tops_eq : ∀ (l x : List Int), l.foldl topStep x = x.filter (fun y => decide (y ∉ l)) ++ lastsL l
  | [], x => by simp [lastsL, List.filter_eq_self.2]
  | a :: r, x => by
    rw [List.foldl_cons, tops_eq r]
    have e : (topStep x a).filter (fun y => decide (y ∉ r)) = x.filter (fun y => decide (y ∉ a :: r)) ++ (if a ∈ r then [] else [a]) := by
      unfold topStep without
      rw [List.filter_append, List.filter_filter]
      congr 1
      · refine List.filter_congr fun y _ => ?_
        by_cases h1 : y = a <;> by_cases h2 : y ∈ r <;> simp [h1, h2]
      · by_cases h : a ∈ r <;> simp [h]
    rw [e, List.append_assoc]
    congr 1
    by_cases h : a ∈ r <;> simp [lastsL, h]
theorem tops_lasts (l : List Int) : l.foldl topStep [] = lastsL l := by rw [tops_eq]; simp
/-- What is last of the first k. -/
def lastsTo (l : List Int) (k : Nat) : List Int := (List.range k).filterMap fun i => if l.getD i 0 ∈ l.drop (i + 1) then none else some (l.getD i 0)
theorem lastsTo_succ (l : List Int) (k : Nat) : lastsTo l (k + 1) = lastsTo l k ++ (if l.getD k 0 ∈ l.drop (k + 1) then [] else [l.getD k 0]) := by
  unfold lastsTo
  rw [List.range_succ, List.filterMap_append]
  congr 1
  split <;> simp_all
theorem lastsTo_le (l : List Int) (k : Nat) : (lastsTo l k).length ≤ k := by
  unfold lastsTo; exact Nat.le_trans (List.length_filterMap_le _ _) (by simp)
theorem lastsTo_all : ∀ l : List Int, lastsTo l l.length = lastsL l
  | [] => rfl
  | a :: r => by
    have ih := lastsTo_all r
    unfold lastsTo at ih ⊢
    rw [List.length_cons, List.range_succ_eq_map, List.filterMap_cons]
    have e : (List.map Nat.succ (List.range r.length)).filterMap (fun i => if (a :: r).getD i 0 ∈ (a :: r).drop (i + 1) then none else some ((a :: r).getD i 0)) = lastsL r := by
      rw [List.filterMap_map, ← ih]; rfl
    rw [e]
    by_cases h : a ∈ r <;> simp [lastsL, h]
theorem mem_drop_iff (l : List Int) (i : Nat) (a : Int) : a ∈ l.drop (i + 1) ↔ ∃ m, i < m ∧ m < l.length ∧ l.getD m 0 = a := by
  constructor
  · intro h
    obtain ⟨j, hj, he⟩ := List.mem_iff_getElem.1 h
    simp at hj
    refine ⟨i + 1 + j, by omega, by omega, ?_⟩
    rw [List.getElem_drop] at he
    simpa [List.getD, show i + 1 + j < l.length by omega] using he
  · rintro ⟨m, h1, h2, he⟩
    refine List.mem_iff_getElem.2 ⟨m - (i + 1), by simp; omega, ?_⟩
    rw [List.getElem_drop]
    have : i + 1 + (m - (i + 1)) = m := by omega
    simp only [this]
    simpa [List.getD, h2] using he
def LastTo (l : List Int) (j m : Nat) (x : Int) (t : Bool) : Prop := t = true ↔ ∀ p, j < p → p < m → l.getD p 0 ≠ x
theorem topStep_le (x : List Int) (a : Int) : (topStep x a).length ≤ x.length + 1 := by unfold topStep; have := without_le x a; simp; omega
theorem foldl_top_succ (l : List Int) (k : Nat) (hk : k < l.length) : (l.take (k + 1)).foldl topStep [] = topStep ((l.take k).foldl topStep []) (l.getD k 0) := by
  have e : l.getD k 0 = l[k] := by simp [List.getD, hk]
  rw [List.take_succ_eq_append_getElem hk, List.foldl_append, e]; rfl

set_option maxRecDepth 100000 in
set_option maxHeartbeats 1000000 in
theorem orderTops_any {B : Nat} (W : World) {ae : Nat → Addr} (hE : Errs B W ae) (hB : B ≤ W.heap.size) (v : Value) (l0 : List Int) (hr : Rd W v 1 l0.length (l0.map (Value.int .i64))) (hl0 : l0.length ≤ 9223372036854775807) :
    Calls Tryd.prog 5 #[v] W fun e w' => e = .returned (.bool true) ∧ Below W.heap.size W w' := by
  obtain ⟨i0, hi, hz0, hz1, hz2⟩ := info_parts Tryd.infoInt
  obtain ⟨l, hl⟩ : ∃ l, l = l0.take 40 := ⟨_, rfl⟩
  have hlen : l.length ≤ 40 := by rw [hl]; simp; omega
  have hr0 := hr
  obtain ⟨_, A0, c0, rfl, hc0, _⟩ := hr0
  have hcut1 : l0.length ≤ 40 → Rd W (.slice A0 l0.length c0) 1 l.length (l.map (Value.int .i64)) := fun h => by
    rw [hl, List.take_of_length_le h]; exact hr
  have hcut2 : 40 < l0.length → Rd W (.slice A0 40 c0) 1 l.length (l.map (Value.int .i64)) := fun h => by
    have := hr.take 40 (by omega)
    rw [Nat.mul_one, ← List.map_take, ← hl] at this
    rwa [show l.length = 40 by rw [hl]; simp; omega]
  have Hc1 := hide hcut1
  have Hc2 := hide hcut2
  clear hcut1 hcut2 hr hl
  obtain ⟨n0, hn0⟩ : ∃ n0, n0 = l0.length := ⟨_, rfl⟩
  rw [← hn0] at Hc1 Hc2 hc0 hl0 ⊢
  clear hn0
  go_enter Tryd.func5, Tryd.ntmps5
  go_upto_if 11 with fail
  go_cut [0] (fun u wx => Rd W u 1 l.length (l.map (Value.int .i64)) ∧ wx = W)
  case first =>
    rcases (show n0 ≤ 40 ∨ 40 < n0 by omega) with h | h
    · go_wp2
      go_meet
      exact ⟨Hc1.out h, rfl⟩
    · go_wp2
      go_meet
      exact ⟨Hc2.out h, rfl⟩
  case rest =>
  obtain ⟨hr, hwc⟩ := hcut
  obtain rfl : W = wc := hwc.symm
  have hr0 := hr
  obtain ⟨_, A, c, rfl, hc, _⟩ := hr0
  obtain ⟨n, hn⟩ : ∃ n, n = l.length := ⟨_, rfl⟩
  rw [← hn] at hr hlen hc
  simp only [← hn]
  have Hn := hide hn
  clear hn Hc1 Hc2 hc0 hl0
  go_wp2
  go_loopw [3, 4] (fun u i wr => ∃ k : Nat, ∃ F : List Int, k ≤ n ∧ i = .int .i64 k ∧ Hid (F = (l.take k).foldl topStep []) ∧ F.length ≤ k ∧ wr.ownsRow W.heap.size 3 1 u F.length (F.map (Value.int .i64)) ∧ Below W.heap.size W wr)
    (fun _ i _ => n - (intOf i).toNat)
  case atStart => exact ⟨0, [], Nat.zero_le _, rfl, hide rfl, Nat.le_refl _, World.ownsRow_nil _ _ _ _, Below.refl _ _⟩
  case round =>
    obtain ⟨k, F, hk, rfl, HF, hFl, hown, hBe⟩ := hrel
    obtain ⟨Au, cu, rfl, hcu⟩ := own_form hown
    by_cases hlt : k < n
    · obtain ⟨b, off, rfl, hb, hcell⟩ := hr.open1 (by omega)
      have hcx : wr.cell? ⟨b, off + k, none⟩ = some (.int .i64 (l.getD k 0)) := (hBe.cell (p := ⟨b, off + k, none⟩) hb).trans (hcell k hlt)
      have hstep := hide (foldl_top_succ l k (by rw [← Hn.out]; exact hlt))
      obtain ⟨x, hx⟩ : ∃ x, x = l.getD k 0 := ⟨_, rfl⟩
      rw [← hx] at hcx hstep
      have HT := hide (top_any wr _ F x (Rd.of_own hown) (by omega))
      have hle := topStep_le F x
      have hTe : Hid ((without F x ++ [x]).length = (without F x).length + 1) := hide (by simp)
      clear hx hcell hr
      go_wp2_with fail
      refine HT.out.mono ?_
      rintro e w2 ⟨v2, rfl, hown2, hB2⟩
      rw [← hTe.out] at hown2
      obtain ⟨G, hG⟩ : ∃ G, G = topStep F x := ⟨_, rfl⟩
      have hown3 : w2.ownsRow wr.heap.size 3 1 v2 G.length (G.map (Value.int .i64)) := by rw [hG]; exact hown2
      have HG : Hid (G = (l.take (k + 1)).foldl topStep []) := hide (by rw [hG, hstep.out, ← HF.out])
      rw [← hG] at hle
      have hown4 := hide (own_le hown3 hBe.size)
      clear hown2 hG hTe hown
      obtain ⟨A2, c2, rfl, hc2⟩ := own_form hown3
      clear hown3
      go_wp2
      go_roundw
      case rel => exact ⟨k + 1, G, by omega, by go_num, HG, by omega, hown4.out, hBe.trans (hB2.mono hBe.size)⟩
      case measure => simp [intOf]; omega
    · obtain rfl : k = n := by omega
      rw [List.take_of_length_le (by rw [Hn.out]; exact Nat.le_refl _), tops_lasts] at HF
      have hrX := hide (Rd.of_own hown)
      have hr1 := hr.below hBe (Nat.le_refl _)
      clear hown hr
      obtain ⟨wA, hwA⟩ : ∃ wA, wA = wr := ⟨_, rfl⟩
      subst hwA
      go_wp2
      go_loopw [5, 6] (fun u i w2 => ∃ j : Nat, ∃ G : List Int, j ≤ k ∧ i = .int .i64 j ∧ Hid (G = lastsTo l j) ∧ G.length ≤ j ∧ w2.ownsRow wA.heap.size 3 1 u G.length (G.map (Value.int .i64)) ∧ Below wA.heap.size wA w2)
        (fun _ i _ => k - (intOf i).toNat)
      case atStart => exact ⟨0, [], Nat.zero_le _, rfl, hide rfl, Nat.le_refl _, World.ownsRow_nil _ _ _ _, Below.refl _ _⟩
      case round =>
        obtain ⟨j, G, hj, rfl, HG, hGl, hown, hB2⟩ := hrel
        obtain ⟨A3, c3, rfl, hc3⟩ := own_form hown
        obtain ⟨w2, hw2⟩ : ∃ w2, w2 = wr := ⟨_, rfl⟩
        subst hw2
        by_cases hlt2 : j < k
        · obtain ⟨b, off, rfl, hb, hcell⟩ := hr1.open1 (by omega)
          have hcell2 : ∀ m, m < k → w2.cell? ⟨b, off + m, none⟩ = some (.int .i64 (l.getD m 0)) := fun m hm => (hB2.cell (p := ⟨b, off + m, none⟩) hb).trans (hcell m hm)
          have hcx := hcell2 j hlt2
          have hstep := hide (lastsTo_succ l j)
          have hmem := hide (mem_drop_iff l j (l.getD j 0))
          obtain ⟨x, hx⟩ : ∃ x, x = l.getD j 0 := ⟨_, rfl⟩
          rw [← hx] at hcx hstep hmem
          have Hx := hide hx
          clear hx
          have Hown := hide hown
          have Hcell2 := hide hcell2
          clear hcell hcell2 hown
          go_wp2
          go_loopw [7, 8] (fun b i w3 => ∃ m : Nat, ∃ t : Bool, j + 1 ≤ m ∧ m ≤ k ∧ i = .int .i64 m ∧ b = .bool t ∧ LastTo l j m x t ∧ ∃ q, w3 = w2.drewN q)
            (fun _ i _ => k - (intOf i).toNat)
          case atStart => exact ⟨j + 1, true, Nat.le_refl _, by omega, by go_num, rfl, ⟨fun _ p h1 h2 => absurd h1 (by omega), fun _ => rfl⟩, 0, rfl⟩
          case round =>
            obtain ⟨m, t, hm1, hm2, rfl, rfl, Ht, q, rfl⟩ := hrel
            by_cases hlt3 : m < k
            · have hcm := Hcell2.out m hlt3
              obtain ⟨y, hy⟩ : ∃ y, y = l.getD m 0 := ⟨_, rfl⟩
              rw [← hy] at hcm
              have Hy := hide hy
              clear hy
              cases t with
              | true =>
                by_cases hxy : y = x
                · have hbb : (y != x) = false := by simpa using hxy
                  have Hn2 : LastTo l j (m + 1) x false := ⟨fun h => (by cases h), fun h => absurd hxy (by rw [Hy.out]; exact h m (by omega) (by omega))⟩
                  clear hxy
                  go_wp2
                  go_quiet (fail)
                  all_goals go_wp2
                  go_roundw
                  case rel => exact ⟨m + 1, false, by omega, by omega, by go_num, rfl, Hn2, _, rfl⟩
                  case measure => simp [intOf]; omega
                · have hbb : (y != x) = true := by simpa using hxy
                  have Hn2 : LastTo l j (m + 1) x true := ⟨fun _ p h1 h2 => by
                    rcases Nat.lt_or_ge p m with h | h
                    · exact Ht.1 rfl p h1 h
                    · obtain rfl : p = m := by omega
                      rw [← Hy.out]; exact hxy, fun _ => rfl⟩
                  clear hxy
                  go_wp2
                  go_quiet (fail)
                  all_goals go_wp2
                  go_roundw
                  case rel => exact ⟨m + 1, true, by omega, by omega, by go_num, rfl, Hn2, _, rfl⟩
                  case measure => simp [intOf]; omega
              | false =>
                have Hn2 : LastTo l j (m + 1) x false := ⟨fun h => (by cases h), fun h => Ht.2 fun p h1 h2 => h p h1 (by omega)⟩
                go_wp2
                go_quiet (fail)
                all_goals go_wp2
                go_roundw
                case rel => exact ⟨m + 1, false, by omega, by omega, by go_num, rfl, Hn2, _, rfl⟩
                case measure => simp [intOf]; omega
            · obtain rfl : m = k := by omega
              have hmm : x ∈ l.drop (j + 1) ↔ t = false := by
                rw [hmem.out]
                constructor
                · rintro ⟨p, h1, h2, h3⟩
                  cases t with
                  | false => rfl
                  | true => exact absurd h3 (Ht.1 rfl p h1 (by rw [Hn.out]; exact h2))
                · rintro rfl
                  refine Classical.byContradiction fun hc => ?_
                  have := Ht.2 fun p h1 h2 h3 => hc ⟨p, h1, by rw [← Hn.out]; exact h2, h3⟩
                  cases this
              have hB3 := below_drewN hB2 q
              have hown3 : (w2.drewN q).ownsRow wA.heap.size 3 1 (.slice A3 G.length c3) G.length (G.map (Value.int .i64)) := Hown.out
              obtain ⟨w3, hw3⟩ : ∃ w3, w3 = w2.drewN q := ⟨_, rfl⟩
              rw [← hw3] at hB3 hown3 ⊢
              have hcx3 : w3.cell? ⟨b, off + j, none⟩ = some (.int .i64 x) := by rw [hw3]; exact hcx
              clear hw3 Ht Hcell2 hmem hcx Hown
              cases t with
              | true =>
                have hst : Hid (G ++ [x] = lastsTo l (j + 1)) := hide (by rw [hstep.out, ← HG.out, if_neg (by rw [hmm]; simp)])
                clear hmm hstep
                go_wp2_with (at_builtin; refine wpList_append_own _ rfl _ _ 22 rfl wA.heap.size 3 i0 (.int .i64 0) 1 8 Tryd.underlying22 hi hz0 hz1 hz2 rfl (by decide) _ _ _ rfl (hown3.alloc _) ⟨w3.heap.size, 0, none⟩ 1 1 [.int .i64 x] rfl rfl (cell_one_new _ _ _) (by intro u hu; simp at hu; subst hu; rfl) (by unfold maxLen; omega) (by omega) (by have := hB3.size; simp; omega) ?_; intro v4 w4 hown4 hg4 _)
                have hB4 : Below wA.heap.size wA w4 := (hB3.alloc hB3.size _).grown hg4 (by have := hB3.size; simp; omega) (fun k hk => (hown3.lt k hk).1)
                obtain ⟨G2, hG2⟩ : ∃ G2, G2 = G ++ [x] := ⟨_, rfl⟩
                have hG2l : Hid (G2.length = G.length + 1) := hide (by rw [hG2]; simp)
                have hown5 : w4.ownsRow wA.heap.size 3 1 v4 G2.length (G2.map (Value.int .i64)) := by rw [hG2l.out, hG2]; simpa using hown4
                rw [← hG2] at hst
                have hown6 := hide hown5
                clear hown4 hG2
                obtain ⟨A4, c4, rfl, hc4⟩ := own_form hown5
                clear hown5 hown3
                go_wp2
                go_roundw
                case rel => exact ⟨j + 1, G2, by omega, by go_num, hst, by have := hG2l.out; omega, hown6.out, hB4⟩
                case measure => simp [intOf]; omega
              | false =>
                have hst : Hid (G = lastsTo l (j + 1)) := hide (by rw [hstep.out, ← HG.out, if_pos (by rw [hmm])]; simp)
                have hown6 := hide hown3
                clear hmm hstep hown3
                go_wp2
                go_roundw
                case rel => exact ⟨j + 1, G, by omega, by go_num, hst, by omega, hown6.out, hB3⟩
                case measure => simp [intOf]; omega
        · obtain rfl : j = k := by omega
          have hGF : G = F := by rw [HG.out, HF.out, ← lastsTo_all, Hn.out]
          subst hGF
          have hrW := Rd.of_own hown
          have hrX2 := hrX.out.below hB2 (Nat.le_refl _)
          have HS := hide (sameInts_true w2 _ _ G hrX2 hrW (by omega))
          have hBe2 := hBe.trans (hB2.mono hBe.size)
          clear hrW hrX2 hown hr1
          go_wp2_with fail
          refine HS.out.mono ?_
          rintro e w4 ⟨rfl, q, hw4⟩
          have hBe4 : Below W.heap.size W w4 := by rw [hw4]; exact below_drewN hBe2 q
          clear hw4
          have HA := hide (awake16_any w4 (hE.below (hBe4.mono hB)) (Nat.le_trans hB hBe4.size))
          go_wp2_with fail
          refine HA.out.mono ?_
          rintro e w5 ⟨rfl, hB5⟩
          go_wp2
          go_ret
          exact ⟨rfl, hBe4.trans (hB5.mono hBe4.size)⟩
end Go.Proofs.YtfekldcpjoiipaaDoor
