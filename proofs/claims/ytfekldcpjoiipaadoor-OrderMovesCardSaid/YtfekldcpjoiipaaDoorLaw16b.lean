/-
  The law OrderMoves, as a walk.
-/
import Derived.Test.YtfekldcpjoiipaaDoorLaw16
namespace Go.Proofs.YtfekldcpjoiipaaDoor
open Go.RowKit

theorem ins_getD (m : List Int) (t : Nat) (i : Int) (ht : t ≤ m.length) (p : Nat) : (m.take t ++ i :: m.drop t).getD p 0 = if p < t then m.getD p 0 else if p = t then i else m.getD (p - 1) 0 := by
  have hl : (m.take t).length = t := by simp; omega
  simp only [List.getD]
  by_cases h1 : p < t
  · rw [if_pos h1, List.getElem?_append_left (by omega), List.getElem?_take, if_pos h1]
  · rw [if_neg h1, List.getElem?_append_right (by omega), hl]
    by_cases h2 : p = t
    · subst h2; simp
    · rw [if_neg h2, show p - t = (p - t - 1) + 1 by omega, List.getElem?_cons_succ, List.getElem?_drop, show t + (p - t - 1) = p - 1 by omega]

theorem nodup_at {m : List Int} (hn : m.Nodup) {p q : Nat} (hp : p < m.length) (hq : q < m.length) (h : m.getD p 0 = m.getD q 0) : p = q := by
  simp only [List.getD, List.getElem?_eq_getElem hp, List.getElem?_eq_getElem hq, Option.getD_some] at h
  have hw := List.pairwise_iff_getElem.1 hn
  rcases Nat.lt_trichotomy p q with h1 | h1 | h1
  · exact absurd h (hw p q hp hq h1)
  · exact h1
  · exact absurd h.symm (hw q p hq hp h1)

theorem idx_spec {m : List Int} {j : Int} (h : j ∈ m) : (Lib.idxOf m j).toNat < m.length ∧ m.getD (Lib.idxOf m j).toNat 0 = j := by
  rcases idx_cases m j with ⟨_, h2⟩ | ⟨k, hk, h1, h2, _⟩
  · exact absurd h h2
  · rw [h1]; simpa using ⟨hk, h2⟩

theorem above_law {m : List Int} {i j : Int} (hn : m.Nodup) (hj : j ∈ m) (hij : i ≠ j) (p : Nat) (hp : p < m.length + 1) :
    (m.take ((Lib.idxOf m j).toNat + 1) ++ i :: m.drop ((Lib.idxOf m j).toNat + 1)).getD p 0 = j → p + 1 < m.length + 1 ∧ (m.take ((Lib.idxOf m j).toNat + 1) ++ i :: m.drop ((Lib.idxOf m j).toNat + 1)).getD (p + 1) 0 = i := by
  obtain ⟨h1, h2⟩ := idx_spec hj
  generalize (Lib.idxOf m j).toNat = q at *
  rw [ins_getD _ _ _ (by omega), ins_getD _ _ _ (by omega)]
  intro h
  have hpq : p = q := by
    by_cases a1 : p < q + 1
    · rw [if_pos a1] at h; exact nodup_at hn (by omega) h1 (h.trans h2.symm)
    · rw [if_neg a1] at h
      by_cases a2 : p = q + 1
      · rw [if_pos a2] at h; exact absurd h hij
      · rw [if_neg a2] at h
        have := nodup_at hn (p := p - 1) (by omega) h1 (h.trans h2.symm)
        omega
  subst hpq
  exact ⟨by omega, by rw [if_neg (by omega), if_pos rfl]⟩

theorem below_law {m : List Int} {i j : Int} (hn : m.Nodup) (hj : j ∈ m) (hij : i ≠ j) (p : Nat) (hp : p < m.length + 1) :
    (m.take (Lib.idxOf m j).toNat ++ i :: m.drop (Lib.idxOf m j).toNat).getD p 0 = j → 1 ≤ p ∧ (m.take (Lib.idxOf m j).toNat ++ i :: m.drop (Lib.idxOf m j).toNat).getD (p - 1) 0 = i := by
  obtain ⟨h1, h2⟩ := idx_spec hj
  generalize (Lib.idxOf m j).toNat = q at *
  rw [ins_getD _ _ _ (by omega), ins_getD _ _ _ (by omega)]
  intro h
  have hpq : p = q + 1 := by
    by_cases a1 : p < q
    · rw [if_pos a1] at h
      have := nodup_at hn (by omega) h1 (h.trans h2.symm)
      omega
    · rw [if_neg a1] at h
      by_cases a2 : p = q
      · rw [if_pos a2] at h; exact absurd h hij
      · rw [if_neg a2] at h
        have := nodup_at hn (p := p - 1) (by omega) h1 (h.trans h2.symm)
        omega
  subst hpq
  exact ⟨by omega, by rw [if_neg (by omega), if_pos (by omega)]⟩

theorem without_putL (xs : List Int) (i j : Int) (k : Nat) : without (putL xs i j k) i = without xs i := by
  have e : ∀ t, without ((without xs i).take t ++ i :: (without xs i).drop t) i = without xs i := fun t => by
    have h1 : ∀ ys zs : List Int, without (ys ++ i :: zs) i = without (ys ++ zs) i := fun ys zs => by unfold without; simp
    rw [h1, List.take_append_drop]
    unfold without; simp
  exact e _

theorem putL_putL (xs : List Int) (i j : Int) (k k2 : Nat) : putL (putL xs i j k) i j k2 = putL xs i j k2 := by
  rw [putL_eq, putL_eq xs i j k2, without_putL]

def rangeL (K : Nat) : List Int := (List.range K).map fun t : Nat => (t : Int) + 1
theorem rangeL_len (K : Nat) : (rangeL K).length = K := by simp [rangeL]
theorem rangeL_succ (K : Nat) : rangeL (K + 1) = rangeL K ++ [(K : Int) + 1] := by simp [rangeL, List.range_succ]
theorem mem_rangeL {K : Nat} {x : Int} : x ∈ rangeL K ↔ 1 ≤ x ∧ x ≤ K := by
  simp only [rangeL, List.mem_map, List.mem_range]
  constructor
  · rintro ⟨t, ht, rfl⟩; omega
  · intro h; exact ⟨(x - 1).toNat, by omega, by omega⟩
theorem rangeL_nodup (K : Nat) : (rangeL K).Nodup := by
  unfold rangeL
  refine List.pairwise_map.2 (List.Pairwise.imp (fun {a b} (h : a < b) => ?_) List.pairwise_lt_range)
  omega
theorem without_nodup16 {xs : List Int} (h : xs.Nodup) (i : Int) : (without xs i).Nodup := h.filter _
theorem without_len_nodup {xs : List Int} (h : xs.Nodup) {i : Int} (hi : i ∈ xs) : (without xs i).length + 1 = xs.length := by
  have e : without xs i = xs.erase i := by rw [List.Nodup.erase_eq_filter h]; rfl
  rw [e, List.length_erase_of_mem hi]
  have := List.length_pos_of_mem hi
  omega

set_option maxRecDepth 100000 in
set_option maxHeartbeats 2000000 in
theorem orderMoves_any {B : Nat} (W : World) {ae : Nat → Addr} (hE : Errs B W ae) (hB : B ≤ W.heap.size) (n a b : Int) :
    Calls Tryd.prog 4 #[.int .i64 n, .int .i64 a, .int .i64 b] W fun e w' => e = .returned (.bool true) ∧ Below W.heap.size W w' := by
  obtain ⟨i0, hi, hz0, hz1, hz2⟩ := info_parts Tryd.infoInt
  have h1m := Int.emod_nonneg n (show ((20) : Int) ≠ 0 by omega)
  have h2m := Int.emod_lt_of_pos n (show (0 : Int) < (20) by omega)
  have hPm := fun W => place_any n (20) W (by omega) (by omega)
  obtain ⟨m, hym⟩ : ∃ y, y = n % (20) := ⟨_, rfl⟩
  rw [← hym] at h1m h2m hPm
  replace hPm := hide hPm
  clear hym
  obtain ⟨K, rfl⟩ : ∃ K : Nat, m = K := ⟨m.toNat, by omega⟩
  have h1i := Int.emod_nonneg a (show ((2 + (K : Int)) : Int) ≠ 0 by omega)
  have h2i := Int.emod_lt_of_pos a (show (0 : Int) < (2 + (K : Int)) by omega)
  have hPi := fun W => place_any a (2 + (K : Int)) W (by omega) (by omega)
  obtain ⟨i, hyi⟩ : ∃ y, y = a % (2 + (K : Int)) := ⟨_, rfl⟩
  rw [← hyi] at h1i h2i hPi
  replace hPi := hide hPi
  clear hyi
  have h1j := Int.emod_nonneg b (show ((2 + (K : Int)) : Int) ≠ 0 by omega)
  have h2j := Int.emod_lt_of_pos b (show (0 : Int) < (2 + (K : Int)) by omega)
  have hPj := fun W => place_any b (2 + (K : Int)) W (by omega) (by omega)
  obtain ⟨j, hyj⟩ : ∃ y, y = b % (2 + (K : Int)) := ⟨_, rfl⟩
  rw [← hyj] at h1j h2j hPj
  replace hPj := hide hPj
  clear hyj
  go_enter Tryd.func4, Tryd.ntmps4
  go_wp2_with fail
  refine (hPm.out W).mono ?_
  rintro e w1 ⟨rfl, rfl⟩
  go_wp2
  go_loopw [8, 9] (fun u i wr => ∃ p : Nat, ∃ F : List Int, p ≤ K + 2 ∧ i = .int .i64 (p + 1) ∧ Hid (F = rangeL p) ∧ Hid (F.length = p) ∧ F.length ≤ 30 ∧ wr.ownsRow W.heap.size 3 1 u F.length (F.map (Value.int .i64)) ∧ Below W.heap.size W wr)
    (fun _ i _ => K + 3 - (intOf i).toNat)
  case atStart => exact ⟨0, [], Nat.zero_le _, rfl, hide rfl, hide rfl, Nat.zero_le _, World.ownsRow_nil _ _ _ _, Below.refl _ _⟩
  case round =>
    obtain ⟨p, F, hp, rfl, HF, hFl, hF30, hown, hBe⟩ := hrel
    obtain ⟨A1, c1, rfl, hc1⟩ := own_form hown
    by_cases hlt : p < K + 2
    ·
      go_wp2_with (at_builtin; refine wpList_append_own _ rfl _ _ 22 rfl W.heap.size 3 i0 (.int .i64 0) 1 8 Tryd.underlying22 hi hz0 hz1 hz2 rfl (by decide) _ _ _ rfl (hown.alloc _) ⟨wr.heap.size, 0, none⟩ 1 1 [.int .i64 ((p : Int) + 1)] rfl rfl (cell_one_new _ _ _) (by intro u hu; simp at hu; subst hu; rfl) (by unfold maxLen; omega) (by omega) (by have := hBe.size; simp; omega) ?_; intro v2 w2 hown2 hg2 _)
      have hB2 : Below W.heap.size W w2 := (hBe.alloc hBe.size _).grown hg2 (by have := hBe.size; simp; omega) (fun k hk => (hown.lt k hk).1)
      obtain ⟨G, hG⟩ : ∃ G, G = F ++ [(p : Int) + 1] := ⟨_, rfl⟩
      have hGl := hide (show G.length = p + 1 by rw [hG]; simp [hFl.out])
      have hown3 : w2.ownsRow W.heap.size 3 1 v2 G.length (G.map (Value.int .i64)) := by rw [hGl.out, ← hFl.out, hG]; simpa using hown2
      have HG : Hid (G = rangeL (p + 1)) := hide (by rw [hG, HF.out, rangeL_succ])
      clear hown2 hG hown
      obtain ⟨A2, c2, rfl, hc2⟩ := own_form hown3
      replace hown3 := hide hown3
      go_wp2
      go_roundw
      case rel => exact ⟨p + 1, G, by omega, by go_num, HG, hGl, by have := hGl.out; omega, hown3.out, hB2⟩
      case measure => simp [intOf]; omega
    · obtain rfl : p = K + 2 := by omega
      have rl := Rd.of_own hown
      have hnd := hide (show F.Nodup by rw [HF.out]; exact rangeL_nodup _)
      have hmem := hide (fun x => (show x ∈ F ↔ 1 ≤ x ∧ x ≤ ((K + 2 : Nat) : Int) by rw [HF.out]; exact mem_rangeL))
      have hmi := hide ((hmem.out (1 + i)).2 (by omega))
      have hmj := hide ((hmem.out (1 + j)).2 (by omega))
      have hE1 := hE.below (hBe.mono hB)
      clear hown HF hmem
      obtain ⟨w1, hw1⟩ : ∃ w1, w1 = wr := ⟨_, rfl⟩
      subst hw1
      go_wp2_with fail
      refine (hPi.out w1).mono ?_
      rintro e w' ⟨rfl, rfl⟩
      go_wp2_with fail
      refine (hPj.out w1).mono ?_
      rintro e w' ⟨rfl, rfl⟩
      by_cases hij : i = j
      · subst hij
        have HA : Calls Tryd.prog 12 #[.slice A1 F.length c1, .int .i64 (1 + i), .int .i64 (1 + i)] w1 fun e w' => e = .returned (.tuple #[.slice none 0 0, .iface 93 (.pointer (some (ae 10)))]) ∧ ∃ q, w' = w1.drewN q := above_bad w1 hE1 _ F (1 + i) (1 + i) rl (by omega) (.inr (.inr rfl))
        have HB2 : ∀ q, Calls Tryd.prog 14 #[.slice A1 F.length c1, .int .i64 (1 + i), .int .i64 (1 + i)] (w1.drewN q) fun e w' => e = .returned (.tuple #[.slice none 0 0, .iface 93 (.pointer (some (ae 10)))]) ∧ ∃ q2, w' = (w1.drewN q).drewN q2 := fun q => below_bad (w1.drewN q) (hE1.drewN q) _ F (1 + i) (1 + i) rl (by omega) (.inr (.inr rfl))
        replace HA := hide HA
        replace HB2 := hide HB2
        go_wp2_with fail
        refine HA.out.mono ?_
        rintro e w2 ⟨rfl, q2, rfl⟩
        go_wp2_with fail
        refine (HB2.out q2).mono ?_
        rintro e w3 ⟨rfl, q3, hw3⟩
        have hBe3 : Below W.heap.size W w3 := by rw [hw3]; exact below_drewN (below_drewN hBe q2) q3
        have HW := hide (awake16_any w3 (hE.below (hBe3.mono hB)) (Nat.le_trans hB hBe3.size))
        clear hw3
        go_wp2_with fail
        refine HW.out.mono ?_
        rintro e w5 ⟨rfl, hB5⟩
        go_wp2
        go_ret
        exact ⟨rfl, hBe3.trans (hB5.mono hBe3.size)⟩
      · have hne : (1 + i : Int) ≠ 1 + j := by omega
        have hml := without_len_nodup hnd.out hmi.out
        have hmn := without_nodup16 hnd.out (1 + i)
        have hjm : (1 + j) ∈ without F (1 + i) := mem_without.2 ⟨hmj.out, fun e => hne e.symm⟩
        obtain ⟨X, hX⟩ : ∃ X, X = putL F (1 + i) (1 + j) 1 := ⟨_, rfl⟩
        obtain ⟨Y, hY⟩ : ∃ Y, Y = putL F (1 + i) (1 + j) 0 := ⟨_, rfl⟩
        obtain ⟨T, hT⟩ : ∃ T, T = without F (1 + i) ++ [1 + i] := ⟨_, rfl⟩
        have hXl : X.length = K + 2 := by rw [hX, putL_len, hml, hFl.out]
        have hYl : Y.length = K + 2 := by rw [hY, putL_len, hml, hFl.out]
        have hTl : T.length = K + 2 := by rw [hT]; simp [hml, hFl.out]
        have hiY : (1 + i) ∈ Y := by rw [hY, putL_eq]; simp
        have hjY : (1 + j) ∈ Y := by
          rw [hY, putL_eq]
          have := hjm
          rw [← List.take_append_drop ((Lib.idxOf (without F (1 + i)) (1 + j)).toNat + 0) (without F (1 + i))] at this
          rcases List.mem_append.1 this with h | h
          · exact List.mem_append.2 (.inl h)
          · exact List.mem_append.2 (.inr (List.mem_cons_of_mem _ h))
        have HX := hide (fun (w : World) (v : Value) (hr : Rd w v 1 F.length (F.map (Value.int .i64))) (hE : Errs B w ae) (hBs : B ≤ w.heap.size) => by
          have := above_ok w hE hBs v F (1 + i) (1 + j) hr (by omega) hmi.out hmj.out hne
          rwa [← hX] at this)
        have HY := hide (fun (w : World) (v : Value) (hr : Rd w v 1 F.length (F.map (Value.int .i64))) => by
          have := below_ok w v F (1 + i) (1 + j) hr (by omega) hmi.out hmj.out hne
          rwa [← hY] at this)
        have HZ := hide (fun (w : World) (v : Value) (hr : Rd w v 1 Y.length (Y.map (Value.int .i64))) (hE : Errs B w ae) (hBs : B ≤ w.heap.size) => by
          have := above_ok w hE hBs v Y (1 + i) (1 + j) hr (by omega) hiY hjY hne
          rwa [show putL Y (1 + i) (1 + j) 1 = X by rw [hY, putL_putL, hX]] at this)
        have HT := hide (fun (w : World) (v : Value) (hr : Rd w v 1 F.length (F.map (Value.int .i64))) => by
          have := top_any w v F (1 + i) hr (by omega)
          rwa [← hT, show (without F (1 + i)).length + 1 = T.length by rw [hT]; simp] at this)
        obtain ⟨M, hM⟩ : ∃ M, M = without F (1 + i) := ⟨_, rfl⟩
        have HDL := hide (fun (w : World) (v : Value) (hr : Rd w v 1 F.length (F.map (Value.int .i64))) => by
          have := drop_any w v F (1 + i) hr (by omega)
          rwa [← hM] at this)
        have HDX := hide (fun (w : World) (v : Value) (hr : Rd w v 1 X.length (X.map (Value.int .i64))) => by
          have := drop_any w v X (1 + i) hr (by omega)
          rwa [show without X (1 + i) = M by rw [hX, without_putL, hM]] at this)
        have HDY := hide (fun (w : World) (v : Value) (hr : Rd w v 1 Y.length (Y.map (Value.int .i64))) => by
          have := drop_any w v Y (1 + i) hr (by omega)
          rwa [show without Y (1 + i) = M by rw [hY, without_putL, hM]] at this)
        rw [← hM] at hml hmn hjm hT
        have hMl : M.length = K + 1 := by have := hFl.out; omega
        have LX := hide (fun (p : Nat) (hp : p < K + 2) => by
          have := above_law hmn hjm hne p (by omega)
          rwa [hM, ← putL_eq, ← hX, ← hM, hMl] at this)
        have LY := hide (fun (p : Nat) (hp : p < K + 2) => by
          have := below_law hmn hjm hne p (by omega)
          rwa [hM, show (Lib.idxOf (without F (1 + i)) (1 + j)).toNat = (Lib.idxOf (without F (1 + i)) (1 + j)).toNat + 0 from rfl, ← putL_eq, ← hY] at this)
        have LT : Hid (T.getD (K + 1) 0 = 1 + i) := hide (by rw [hT]; simp [List.getD, ← hMl])
        have hX32 : X.length ≤ 40 := by omega
        have hY32 : Y.length ≤ 40 := by omega
        have hM32 : M.length ≤ 40 := by omega
        have hT32 : T.length ≤ 40 := by omega
        have bX : ((X.length : Int) != 2 + (K : Int)) = false := by rw [hXl]; simp; omega
        have bY : ((Y.length : Int) != 2 + (K : Int)) = false := by rw [hYl]; simp; omega
        have bT : ((T.length : Int) != 2 + (K : Int)) = false := by rw [hTl]; simp; omega
        replace hXl := hide hXl
        replace hYl := hide hYl
        replace hTl := hide hTl
        have hbij : ((1 + i : Int) == 1 + j) = false := by simpa using hij
        clear hX hY hT hiY hjY hml hmn hjm hM hMl hnd hmi hmj hne hlt hp
        go_wp2_with fail
        refine (HX.out w1 _ rl hE1 (Nat.le_trans hB hBe.size)).mono ?_
        rintro e w2 ⟨vx, rfl, hx, b2⟩
        replace rl := rl.below b2 (Nat.le_refl _)
        replace hBe := hBe.trans (b2.mono hBe.size)
        have hE1 := hE.below (hBe.mono hB)
        obtain ⟨Ax, cx, rfl, hcx⟩ := own_form hx
        have rx := Rd.of_own hx
        clear hx
        go_wp2_with fail
        refine (HY.out w2 _ rl).mono ?_
        rintro e w3 ⟨vy, rfl, hy, b3⟩
        replace rl := rl.below b3 (Nat.le_refl _)
        replace rx := rx.below b3 (Nat.le_refl _)
        replace hBe := hBe.trans (b3.mono hBe.size)
        have hE1 := hE.below (hBe.mono hB)
        obtain ⟨Ay, cy, rfl, hcy⟩ := own_form hy
        have ry := Rd.of_own hy
        clear hy
        go_wp2_with fail
        refine (HZ.out w3 _ ry hE1 (Nat.le_trans hB hBe.size)).mono ?_
        rintro e w4 ⟨vz, rfl, hz, b4⟩
        replace rl := rl.below b4 (Nat.le_refl _)
        replace rx := rx.below b4 (Nat.le_refl _)
        replace ry := ry.below b4 (Nat.le_refl _)
        replace hBe := hBe.trans (b4.mono hBe.size)
        have hE1 := hE.below (hBe.mono hB)
        obtain ⟨Az, cz, rfl, hcz⟩ := own_form hz
        have rz := Rd.of_own hz
        clear hz
        go_wp2_with fail
        refine (HT.out w4 _ rl).mono ?_
        rintro e w5 ⟨vt, rfl, ht, b5⟩
        replace rl := rl.below b5 (Nat.le_refl _)
        replace rx := rx.below b5 (Nat.le_refl _)
        replace ry := ry.below b5 (Nat.le_refl _)
        replace rz := rz.below b5 (Nat.le_refl _)
        replace hBe := hBe.trans (b5.mono hBe.size)
        have hE1 := hE.below (hBe.mono hB)
        obtain ⟨At, ct, rfl, hct⟩ := own_form ht
        have rt := Rd.of_own ht
        clear ht
        go_wp2_with fail
        refine (sameInts_true w5 _ _ X rx rz (by omega)).mono ?_
        rintro e w6 ⟨rfl, q6, hw6⟩
        replace rl := rl.drewE hw6
        replace rx := rx.drewE hw6
        replace ry := ry.drewE hw6
        replace rz := rz.drewE hw6
        replace rt := rt.drewE hw6
        replace hBe : Below W.heap.size W w6 := by rw [hw6]; exact below_drewN hBe q6
        have hE1 := hE.below (hBe.mono hB)
        clear hw6
        clear rz
        go_wp2_with fail
        refine (HDX.out w6 _ rx).mono ?_
        rintro e w7 ⟨vm, rfl, hm, b7⟩
        replace rl := rl.below b7 (Nat.le_refl _)
        replace rx := rx.below b7 (Nat.le_refl _)
        replace ry := ry.below b7 (Nat.le_refl _)
        replace rt := rt.below b7 (Nat.le_refl _)
        replace hBe := hBe.trans (b7.mono hBe.size)
        have hE1 := hE.below (hBe.mono hB)
        obtain ⟨Am, cm, rfl, hcm⟩ := own_form hm
        have rm := Rd.of_own hm
        clear hm
        go_wp2_with fail
        refine (HDL.out w7 _ rl).mono ?_
        rintro e w8 ⟨vm2, rfl, hm2, b8⟩
        replace rl := rl.below b8 (Nat.le_refl _)
        replace rx := rx.below b8 (Nat.le_refl _)
        replace ry := ry.below b8 (Nat.le_refl _)
        replace rt := rt.below b8 (Nat.le_refl _)
        replace rm := rm.below b8 (Nat.le_refl _)
        replace hBe := hBe.trans (b8.mono hBe.size)
        have hE1 := hE.below (hBe.mono hB)
        obtain ⟨Am2, cm2, rfl, hcm2⟩ := own_form hm2
        have rm2 := Rd.of_own hm2
        clear hm2
        go_wp2_with fail
        refine (sameInts_true w8 _ _ M rm rm2 (by omega)).mono ?_
        rintro e w9 ⟨rfl, q9, hw9⟩
        replace rl := rl.drewE hw9
        replace rx := rx.drewE hw9
        replace ry := ry.drewE hw9
        replace rt := rt.drewE hw9
        replace rm := rm.drewE hw9
        replace rm2 := rm2.drewE hw9
        replace hBe : Below W.heap.size W w9 := by rw [hw9]; exact below_drewN hBe q9
        have hE1 := hE.below (hBe.mono hB)
        clear hw9
        clear rm rm2
        go_wp2_with fail
        refine (HDY.out w9 _ ry).mono ?_
        rintro e w10 ⟨vm, rfl, hm, b10⟩
        replace rl := rl.below b10 (Nat.le_refl _)
        replace rx := rx.below b10 (Nat.le_refl _)
        replace ry := ry.below b10 (Nat.le_refl _)
        replace rt := rt.below b10 (Nat.le_refl _)
        replace hBe := hBe.trans (b10.mono hBe.size)
        have hE1 := hE.below (hBe.mono hB)
        obtain ⟨Am, cm, rfl, hcm⟩ := own_form hm
        have rm := Rd.of_own hm
        clear hm
        go_wp2_with fail
        refine (HDL.out w10 _ rl).mono ?_
        rintro e w11 ⟨vm2, rfl, hm2, b11⟩
        replace rl := rl.below b11 (Nat.le_refl _)
        replace rx := rx.below b11 (Nat.le_refl _)
        replace ry := ry.below b11 (Nat.le_refl _)
        replace rt := rt.below b11 (Nat.le_refl _)
        replace rm := rm.below b11 (Nat.le_refl _)
        replace hBe := hBe.trans (b11.mono hBe.size)
        have hE1 := hE.below (hBe.mono hB)
        obtain ⟨Am2, cm2, rfl, hcm2⟩ := own_form hm2
        have rm2 := Rd.of_own hm2
        clear hm2
        go_wp2_with fail
        refine (sameInts_true w11 _ _ M rm rm2 (by omega)).mono ?_
        rintro e w12 ⟨rfl, q12, hw12⟩
        replace rl := rl.drewE hw12
        replace rx := rx.drewE hw12
        replace ry := ry.drewE hw12
        replace rt := rt.drewE hw12
        replace rm := rm.drewE hw12
        replace rm2 := rm2.drewE hw12
        replace hBe : Below W.heap.size W w12 := by rw [hw12]; exact below_drewN hBe q12
        have hE1 := hE.below (hBe.mono hB)
        clear hw12
        clear rm rm2
        obtain ⟨bx, ox, rfl, hbx, cx'⟩ := rx.open1 (by have := hXl.out; omega)
        obtain ⟨by', oy, rfl, hby, cy'⟩ := ry.open1 (by have := hYl.out; omega)
        obtain ⟨bt, ot, rfl, hbt, ct'⟩ := rt.open1 (by have := hTl.out; omega)
        have cX := hide (fun p (h : p < K + 2) => cx' p (by rw [hXl.out]; exact h))
        have cY := hide (fun p (h : p < K + 2) => cy' p (by rw [hYl.out]; exact h))
        have cT := ct' (K + 1) (by rw [hTl.out]; omega)
        rw [LT.out] at cT
        have cT' : w12.cell? ⟨bt, ot + (1 + K), none⟩ = some (.int .i64 (1 + i)) := by rw [Nat.add_comm 1 K]; exact cT
        have hT1 : K + 2 ≤ T.length := by rw [hTl.out]; exact Nat.le_refl _
        have hT2 : 2 + K ≤ T.length := by omega
        have hX1 : K + 2 ≤ X.length := by rw [hXl.out]; exact Nat.le_refl _
        have hY1 : K + 2 ≤ Y.length := by rw [hYl.out]; exact Nat.le_refl _
        clear cx' cy' ct' rx ry rt rl HX HY HZ HT HDX HDL HDY
        go_wp2
        go_loopw [19] (fun i wr => ∃ p : Nat, p ≤ K + 2 ∧ i = .int .i64 p ∧ ∃ q, wr = w12.drewN q)
          (fun i _ => K + 2 - (intOf i).toNat)
        case atStart => exact ⟨0, Nat.zero_le _, rfl, 0, rfl⟩
        case round =>
          obtain ⟨p, hp, rfl, q, rfl⟩ := hrel
          by_cases hlt : p < K + 2
          · have c1 := cX.out p hlt
            have c2 := cY.out p hlt
            have lx := LX.out p hlt
            have ly := LY.out p hlt
            have cx1 := cX.out (p + 1)
            have cy1 := cY.out (p - 1)
            have hpX : p < X.length := by omega
            have hpY : p < Y.length := by omega
            generalize X.getD p 0 = x at c1 lx
            generalize Y.getD p 0 = y at c2 ly
            generalize X.getD (p + 1) 0 = x1 at cx1 lx
            generalize Y.getD (p - 1) 0 = y1 at cy1 ly
            have bk : p + 1 < K + 2 → ¬ (2 + (K : Int) ≤ (p : Int) + 1) := fun h => by omega
            have bp : 1 ≤ p → ((p : Int) == 0) = false := fun h => by simp; omega
            have b2 : ((1 + i : Int) != 1 + i) = false := by simp
            by_cases hxj : x = 1 + j
            · obtain ⟨l1, rfl⟩ := lx hxj
              have k1 := cx1 l1
              have bk := bk l1
              have b1 : (x == 1 + j) = true := by simpa using hxj
              by_cases hyj : y = 1 + j
              · obtain ⟨l2, rfl⟩ := ly hyj
                have k2 := cy1 (by omega)
                have bp := bp l2
                have b3 : (y == 1 + j) = true := by simpa using hyj
                clear lx ly cx1 cy1 hxj hyj
                go_wp2
                go_roundw
                case rel => exact ⟨p + 1, by omega, by go_num, q, rfl⟩
                case measure => simp [intOf]; omega
              · have b3 : (y == 1 + j) = false := by simpa using hyj
                clear lx ly cx1 cy1 hxj hyj
                go_wp2
                go_roundw
                case rel => exact ⟨p + 1, by omega, by go_num, q, rfl⟩
                case measure => simp [intOf]; omega
            · have b1 : (x == 1 + j) = false := by simpa using hxj
              by_cases hyj : y = 1 + j
              · obtain ⟨l2, rfl⟩ := ly hyj
                have k2 := cy1 (by omega)
                have bp := bp l2
                have b3 : (y == 1 + j) = true := by simpa using hyj
                clear lx ly cx1 cy1 hxj hyj
                go_wp2
                go_roundw
                case rel => exact ⟨p + 1, by omega, by go_num, q, rfl⟩
                case measure => simp [intOf]; omega
              · have b3 : (y == 1 + j) = false := by simpa using hyj
                clear lx ly cx1 cy1 hxj hyj
                go_wp2
                go_roundw
                case rel => exact ⟨p + 1, by omega, by go_num, q, rfl⟩
                case measure => simp [intOf]; omega
          · obtain rfl : p = K + 2 := by omega
            have HA := hide (awake16_any (w12.drewN q) ((hE.below (hBe.mono hB)).drewN q) (Nat.le_trans hB hBe.size))
            have bi : ((1 + i : Int) == 1 + i) = true := by simp
            go_wp2_with fail
            refine HA.out.mono ?_
            rintro e w5 ⟨rfl, hB5⟩
            go_wp2
            go_ret
            exact ⟨rfl, (below_drewN hBe q).trans (hB5.mono hBe.size)⟩
end Go.Proofs.YtfekldcpjoiipaaDoor
