/-
  Contracts of tableauref16: Drop, Top.
-/
import Derived.Test.YtfekldcpjoiipaaDoorOrder
namespace Go.Proofs.YtfekldcpjoiipaaDoor
open Go.RowKit

/-- tableauref16.Drop -/
theorem rdrop_any (w : World) (v : Value) (xs : List Int) (d : Int) (hr : Rd w v 1 xs.length (xs.map (Value.int .i64))) (hlen : xs.length ≤ 1000000) :
   Calls Tryd.prog 21 #[v, .int .i64 d] w fun e w' => ∃ v', e = .returned v' ∧ w'.ownsRow w.heap.size 3 1 v' (without xs d).length ((without xs d).map (Value.int .i64)) ∧ Below w.heap.size w w' := by
  obtain ⟨i0, hi, hz0, hz1, hz2⟩ := info_parts Tryd.infoInt
  have hr0 := hr
  obtain ⟨_, A, c, rfl, hc, _⟩ := hr0
  obtain ⟨n, hn⟩ : ∃ n, n = xs.length := ⟨_, rfl⟩
  rw [← hn] at hr hlen hc ⊢
  have HN := hide hn
  clear hn
  go_enter Tryd.func21, Tryd.ntmps21
  go_wp2
  go_loopw [5, 6] (fun u i wr => ∃ k : Nat, k ≤ n ∧ i = .int .i64 k ∧ wr.ownsRow w.heap.size 3 1 u (without (xs.take k) d).length ((without (xs.take k) d).map (Value.int .i64)) ∧ Below w.heap.size w wr)
    (fun _ i _ => n - (intOf i).toNat)
  case atStart => exact ⟨0, Nat.zero_le _, rfl, World.ownsRow_nil _ _ _ _, Below.refl _ _⟩
  case round =>
    obtain ⟨k, hk, rfl, hown, hB⟩ := hrel
    have hml := without_take xs d k
    by_cases hlt : k < n
    · obtain ⟨b, off, rfl, hb, hcell⟩ := hr.open1 (by omega)
      have hcx : wr.cell? ⟨b, off + k, none⟩ = some (.int .i64 (xs.getD k 0)) := (hB.cell (p := ⟨b, off + k, none⟩) hb).trans (hcell k hlt)
      clear hcell
      have hit := fun h => without_hit xs d k (by rw [← HN.out]; exact hlt) h
      have miss := fun h => without_miss xs d k (by rw [← HN.out]; exact hlt) h
      have Hit := hide hit
      have Miss := hide miss
      clear hit miss
      obtain ⟨x, hx⟩ : ∃ x, x = xs.getD k 0 := ⟨_, rfl⟩
      rw [← hx] at hcx Hit Miss
      clear hx hr
      by_cases hxd : x = d
      · have hxb : (x != d) = false := by simpa using hxd
        have hm := Miss.out hxd
        rw [← hm] at hown
        have Hown := hide hown
        clear hxd hown hm Hit Miss
        go_wp2
        go_roundw
        case rel => exact ⟨k + 1, by omega, by go_num, Hown.out, hB⟩
        case measure => simp [intOf]; omega
      · have hxb : (x != d) = true := by simpa using hxd
        have hm := hide (Hit.out hxd)
        clear Hit Miss
        obtain ⟨A1, c1, rfl, hc1⟩ := own_form hown
        go_wp2_with (at_builtin; refine wpList_append_own _ rfl _ _ 22 rfl w.heap.size 3 i0 (.int .i64 0) 1 8 Tryd.underlying22 hi hz0 hz1 hz2 rfl (by decide) _ _ _ rfl (hown.alloc _) ⟨wr.heap.size, 0, none⟩ 1 1 [.int .i64 x] rfl rfl (cell_one_new _ _ _) (by intro u hu; simp at hu; subst hu; rfl) (by unfold maxLen; omega) (by omega) (by have := hB.size; simp; omega) ?_; intro v2 w2 hown2 hg2 _)
        have hB2 : Below w.heap.size w w2 := (hB.alloc hB.size _).grown hg2 (by have := hB.size; simp; omega) (fun k hk => (hown.lt k hk).1)
        have hown3 : w2.ownsRow w.heap.size 3 1 v2 (without (xs.take (k + 1)) d).length ((without (xs.take (k + 1)) d).map (Value.int .i64)) := by
          rw [hm.out]; simpa using hown2
        have Hown := hide hown3
        obtain ⟨A2, c2, rfl, hc2⟩ := own_form hown2
        clear hown2 hown3 hg2 hown hcx
        go_wp2
        go_roundw
        case rel => exact ⟨k + 1, by omega, by go_num, Hown.out, hB2⟩
        case measure => simp [intOf]; omega
    · obtain rfl : k = n := by omega
      have Htk : Hid (xs.take k = xs) := by rw [HN.out]; exact List.take_length
      obtain ⟨A1, c1, rfl, hc1⟩ := own_form hown
      go_wp2
      go_ret
      refine ⟨_, rfl, ?_, hB⟩
      simp only [Htk.out] at hown ⊢
      exact hown

/-- tableauref16.Top -/
theorem rtop_any (w : World) (v : Value) (xs : List Int) (d : Int) (hr : Rd w v 1 xs.length (xs.map (Value.int .i64))) (hlen : xs.length ≤ 1000000) :
   Calls Tryd.prog 19 #[v, .int .i64 d] w fun e w' => ∃ v', e = .returned v' ∧ w'.ownsRow w.heap.size 3 1 v' ((without xs d).length + 1) ((without xs d ++ [d]).map (Value.int .i64)) ∧ Below w.heap.size w w' := by
  obtain ⟨i0, hi, hz0, hz1, hz2⟩ := info_parts Tryd.infoInt
  go_enter Tryd.func19, Tryd.ntmps19
  go_wp2_with fail
  refine (rdrop_any _ v xs d hr hlen).mono ?_
  rintro e w1 ⟨v1, rfl, hown, hB⟩
  have hle := without_le xs d
  obtain ⟨A1, c1, rfl, hc1⟩ := own_form hown
  go_wp2_with (at_builtin; refine wpList_append_own _ rfl _ _ 22 rfl w.heap.size 3 i0 (.int .i64 0) 1 8 Tryd.underlying22 hi hz0 hz1 hz2 rfl (by decide) _ _ _ rfl (hown.alloc _) ⟨w1.heap.size, 0, none⟩ 1 1 [.int .i64 d] rfl rfl (cell_one_new _ _ _) (by intro u hu; simp at hu; subst hu; rfl) (by unfold maxLen; omega) (by omega) (by have := hB.size; simp; omega) ?_; intro v2 w2 hown2 hg2 _)
  obtain ⟨A2, c2, rfl, hc2⟩ := own_form hown2
  have hB2 : Below w.heap.size w w2 := (hB.alloc hB.size _).grown hg2 (by have := hB.size; simp; omega) (fun k hk => (hown.lt k hk).1)
  go_wp2
  go_ret
  exact ⟨_, rfl, by simpa using hown2, hB2⟩
end Go.Proofs.YtfekldcpjoiipaaDoor
