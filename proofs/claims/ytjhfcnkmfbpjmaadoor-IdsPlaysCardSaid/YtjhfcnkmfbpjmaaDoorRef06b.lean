/-
  tableauref06: the numbers of an interface's objects.
-/
import Derived.Test.YtjhfcnkmfbpjmaaDoorRef06
import Derived.Test.YtjhfcnkmfbpjmaaDoorTab2
namespace Go.Proofs.YtjhfcnkmfbpjmaaDoor
open Go.RowKit

theorem Tryd.infoInt6 : (Tryd.prog.info? 3).map (fun i => (i.zero, i.size, i.bytes)) = some (some (.int .i64 0), 1, 8) := by kernel_rfl

/-- Is it one of the interface's (0: of any)? -/
def isOf (M : Int → Option (Int × Int)) (f : Int) (x : Int) : Bool := decide (0 < (atM M x).1) && (decide ((atM M x).1 = f) || decide (f = 0))
/-- The numbers below k that are. -/
def ofK (M : Int → Option (Int × Int)) (f : Int) (k : Nat) : List Int := (((List.range k).map fun i : Nat => (i : Int)).filter fun x => decide (1 ≤ x) && isOf M f x)

theorem ofK_succ (M : Int → Option (Int × Int)) (f : Int) (k : Nat) (hk : 1 ≤ k) : ofK M f (k + 1) = if isOf M f k then ofK M f k ++ [(k : Int)] else ofK M f k := by
  unfold ofK
  rw [List.range_succ, List.map_append, List.filter_append]
  have h1 : decide ((1 : Int) ≤ k) = true := by simp; omega
  cases h : isOf M f k <;> simp [h, h1]
theorem ofK_one (M : Int → Option (Int × Int)) (f : Int) : ofK M f 1 = [] := by
  unfold ofK; simp
theorem ofK_len (M : Int → Option (Int × Int)) (f : Int) (k : Nat) : (ofK M f k).length ≤ k := by
  unfold ofK
  refine Nat.le_trans (List.length_filter_le _ _) (by simp)


set_option maxRecDepth 100000 in
set_option maxHeartbeats 1000000 in
theorem rOf_any (w : World) (q : Nat) (M : Int → Option (Int × Int)) (f : Int) (h : RefM w q M) :
    Calls Tryd.prog 26 #[.pointer (some ⟨q, 0, none⟩), .int .i64 f] w fun e w' => ∃ v, e = .returned v ∧ w'.ownsRow w.heap.size 3 1 v (ofK M f 256).length ((ofK M f 256).map (Value.int .i64)) ∧ Below w.heap.size w w' := by
  obtain ⟨i0, hi, hz0, hz1, hz2⟩ := info_parts Tryd.infoInt6
  replace h := hide h
  go_enter Tryd.func26, Tryd.ntmps26
  go_wp2
  go_loopw [5, 6] (fun v i wr => ∃ k : Nat, 1 ≤ k ∧ k ≤ 256 ∧ i = .int .i64 k ∧ wr.ownsRow w.heap.size 3 1 v (ofK M f k).length ((ofK M f k).map (Value.int .i64)) ∧ Below w.heap.size w wr)
    (fun _ i _ => 256 - (intOf i).toNat)
  case atStart => exact ⟨1, Nat.le_refl _, by omega, rfl, by rw [ofK_one]; exact World.ownsRow_nil _ _ _ _, Below.refl _ _⟩
  case round =>
    obtain ⟨k, hk1, hk, rfl, hown, hB⟩ := hrel
    by_cases hlt : k < 256
    · have hcx := (h.out.keep (hB.block q h.out.lt)).cells hlt
      obtain ⟨hcx, _⟩ := hcx
      have hK := hide (ofK_succ M f k hk1)
      have hl := ofK_len M f k
      have g1 : (0 : Int) ≤ k := by omega
      have g2 : (k : Int) ≤ 255 := by omega
      obtain ⟨x, hx⟩ : ∃ x, x = (atM M k).1 := ⟨_, rfl⟩
      rw [← hx] at hcx
      by_cases h1 : 0 < x
      · by_cases h2 : x = f
        · have isB : isOf M f k = true := by unfold isOf; rw [← hx]; simp [h2]; omega
          have hb : (x == f) = true := by simpa using h2
          clear hx h2
          obtain ⟨A1, c1, rfl, hc1⟩ := own_form hown
          go_wp2_with (at_builtin; refine wpList_append_own _ rfl _ _ 43 rfl w.heap.size 3 i0 (.int .i64 0) 1 8 Tryd.underlying43 hi hz0 hz1 hz2 rfl (by decide) _ _ _ rfl (hown.alloc _) ⟨wr.heap.size, 0, none⟩ 1 1 [.int .i64 ((k : Int))] rfl rfl (cell_one_new _ _ _) (by intro u hu; simp at hu; subst hu; rfl) (by unfold maxLen; omega) (by omega) (by have := hB.size; simp; omega) ?_; intro v2 w2 hown2 hg2 _)
          have hB2 : Below w.heap.size w w2 := (hB.alloc hB.size _).grown hg2 (by have := hB.size; simp; omega) (fun k hk => (hown.lt k hk).1)
          have hown3 : w2.ownsRow w.heap.size 3 1 v2 (ofK M f (k + 1)).length ((ofK M f (k + 1)).map (Value.int .i64)) := by
            rw [hK.out, isB, if_pos rfl]; simpa using hown2
          have Hown := hide hown3
          obtain ⟨A2, c2, rfl, hc2⟩ := own_form hown2
          clear hown2 hown3 hg2 hown hcx
          go_wp2
          go_roundw
          case rel => exact ⟨k + 1, by omega, by omega, by go_num, Hown.out, hB2⟩
          case measure => simp [intOf]; omega
        · by_cases h3 : f = 0
          · have isB : isOf M f k = true := by unfold isOf; rw [← hx]; simp [h1, h3]
            have hb : (x == f) = false := by simpa using h2
            have hb2 : (f == 0) = true := by simpa using h3
            clear hx h2 h3
            obtain ⟨A1, c1, rfl, hc1⟩ := own_form hown
            go_wp2_with (at_builtin; refine wpList_append_own _ rfl _ _ 43 rfl w.heap.size 3 i0 (.int .i64 0) 1 8 Tryd.underlying43 hi hz0 hz1 hz2 rfl (by decide) _ _ _ rfl (hown.alloc _) ⟨wr.heap.size, 0, none⟩ 1 1 [.int .i64 ((k : Int))] rfl rfl (cell_one_new _ _ _) (by intro u hu; simp at hu; subst hu; rfl) (by unfold maxLen; omega) (by omega) (by have := hB.size; simp; omega) ?_; intro v2 w2 hown2 hg2 _)
            have hB2 : Below w.heap.size w w2 := (hB.alloc hB.size _).grown hg2 (by have := hB.size; simp; omega) (fun k hk => (hown.lt k hk).1)
            have hown3 : w2.ownsRow w.heap.size 3 1 v2 (ofK M f (k + 1)).length ((ofK M f (k + 1)).map (Value.int .i64)) := by
              rw [hK.out, isB, if_pos rfl]; simpa using hown2
            have Hown := hide hown3
            obtain ⟨A2, c2, rfl, hc2⟩ := own_form hown2
            clear hown2 hown3 hg2 hown hcx
            go_wp2
            go_roundw
            case rel => exact ⟨k + 1, by omega, by omega, by go_num, Hown.out, hB2⟩
            case measure => simp [intOf]; omega
          · have isB : isOf M f k = false := by unfold isOf; rw [← hx]; simp [h1, h2, h3]
            have hb : (x == f) = false := by simpa using h2
            have hb2 : (f == 0) = false := by simpa using h3
            clear hx h2 h3
            have hk2 := hK.out
            rw [isB, if_neg (by decide)] at hk2
            have Hown := hide hown
            rw [← hk2] at Hown
            go_wp2
            go_roundw
            case rel => exact ⟨k + 1, by omega, by omega, by go_num, Hown.out, hB⟩
            case measure => simp [intOf]; omega
      · have h1' : x ≤ 0 := by omega
        have isB : isOf M f k = false := by unfold isOf; rw [← hx]; simp; omega
        clear hx h1
        have hk2 := hK.out
        rw [isB, if_neg (by decide)] at hk2
        have Hown := hide hown
        rw [← hk2] at Hown
        go_wp2
        go_roundw
        case rel => exact ⟨k + 1, by omega, by omega, by go_num, Hown.out, hB⟩
        case measure => simp [intOf]; omega
    · obtain rfl : k = 256 := by omega
      obtain ⟨A1, c1, rfl, hc1⟩ := own_form hown
      go_wp2
      go_ret
      exact ⟨_, rfl, hown, hB⟩

/-- The program's answer and the reference's are one. -/
theorem nums_ofK {M : Int → Option (Int × Int)} (hG : GoodM M) {l : List Int} (h : NumsOf M l) (f : Int) : (l.filter fun x => decide (f = 0) || !(faceI M x != f)) = ofK M f 256 := by
  have hf : ∀ x, x ∈ l ↔ ∃ y, M x = some y := fun x => by
    rw [h.2 x]
    simp only [Option.isSome_map]
    constructor
    · rintro ⟨_, hs⟩
      exact Option.isSome_iff_exists.1 hs
    · rintro ⟨y, hy⟩
      have := hG x y hy
      exact ⟨by unfold I64; omega, by rw [hy]; rfl⟩
  refine rising_one (h.1.filter _) ?_ fun x => ?_
  · unfold ofK
    refine List.Pairwise.filter _ (List.pairwise_map.2 ((List.pairwise_lt_range (n := 256)).imp fun {a b} hab => by omega))
  · unfold ofK
    rw [List.mem_filter, List.mem_filter, hf x]
    simp only [List.mem_map, List.mem_range]
    constructor
    · rintro ⟨⟨y, hy⟩, hp⟩
      have hy2 := hG x y hy
      refine ⟨⟨x.toNat, by omega, by omega⟩, ?_⟩
      unfold isOf atM
      unfold faceI at hp
      rw [hy] at hp ⊢
      obtain ⟨y0, y1⟩ := y
      simp at hp hy2 ⊢
      omega
    · rintro ⟨⟨i, hi, rfl⟩, hp⟩
      unfold isOf atM at hp
      unfold faceI
      cases hM : M i with
      | none => rw [hM] at hp; simp at hp
      | some y =>
        rw [hM] at hp
        obtain ⟨y0, y1⟩ := y
        refine ⟨⟨_, rfl⟩, ?_⟩
        simp at hp ⊢
        omega
end Go.Proofs.YtjhfcnkmfbpjmaaDoor
