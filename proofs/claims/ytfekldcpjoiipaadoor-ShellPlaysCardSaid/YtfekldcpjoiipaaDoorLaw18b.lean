/-
  The law ShellMaps, as a walk.
-/
import Derived.Test.YtfekldcpjoiipaaDoorLaw18
namespace Go.Proofs.YtfekldcpjoiipaaDoor
open Go.RowKit

/-- Kind of the k-th error. -/
theorem kind_at18 {B : Nat} (W : World) {ae : Nat → Addr} (k : Nat) (hE : Errs B W ae) (hk : k < 16) :
    Calls Tryd.prog 22 #[.iface 93 (.pointer (some (ae k)))] W fun e w' => e = .returned (.int .i64 ((k : Int) + 1)) ∧ Below W.heap.size W w' :=
  (kind_any B W ae (k + 1) hE (by omega)).mono fun _ _ ⟨he, hw⟩ => ⟨by rw [he]; exact ret_int (by omega), hw⟩

set_option maxRecDepth 100000 in
set_option maxHeartbeats 4000000 in
theorem shellMaps_any {B : Nat} (W : World) {ae : Nat → Addr} (hE : Errs B W ae) (hB : B ≤ W.heap.size) (asks acks buffer again : Bool) :
    Calls Tryd.prog 8 #[.bool asks, .bool acks, .bool buffer, .bool again] W fun e w' => e = .returned (.bool true) ∧ Below W.heap.size W w' := by
  cases asks
  · go_enter Tryd.func8, Tryd.ntmps8
    go_wp2_with fail
    refine (lNew W).mono ?_
    rintro e w1 ⟨p, rfl, h1⟩
    go_wp2_with fail
    refine (lAdd h1 hE hB i64_one (by omega)).mono ?_
    rintro e w2 ⟨rfl, h2⟩
    go_wp2_with fail
    refine (lTop h2 hE hB i64_one).mono ?_
    rintro e w3 ⟨rfl, h3⟩
    cases buffer
    ·
      go_wp2_with fail
      refine (lCommit false false 1 0 (2, []) .nilIface h3 hE hB i64_one rfl rfl rfl rfl).mono ?_
      rintro e w4 ⟨rfl, h4⟩
      go_wp2_with fail
      refine (lMapped false h4 i64_one rfl).mono ?_
      rintro e w8 ⟨rfl, rfl⟩
      go_wp2_with fail
      refine (lMapped false h4 i64_one rfl).mono ?_
      rintro e w8 ⟨rfl, rfl⟩
      go_wp2_with fail
      refine (lMapped false h4 i64_one rfl).mono ?_
      rintro e w8 ⟨rfl, rfl⟩
      go_wp2_with fail
      refine (lDropNo h4 hE hB i64_one).mono ?_
      rintro e w9 ⟨rfl, h9⟩
      go_wp2_with fail
      refine (kind_at18 w9 11 (h9.errs hE hB) (by decide)).mono ?_
      rintro e w10 ⟨rfl, b10⟩
      have h10 := h9.below b10
      go_wp2_with fail
      refine (awake18_any w10 (h10.errs hE hB) (Nat.le_trans hB h10.be.size)).mono ?_
      rintro e w11 ⟨rfl, b11⟩
      go_wp2
      go_ret
      exact ⟨rfl, h10.be.trans (b11.mono h10.be.size)⟩
    ·
      go_wp2_with fail
      refine (lCommit true true 0 12 (1, []) (.iface 93 (.pointer (some (ae 11)))) h3 hE hB i64_one rfl rfl rfl rfl).mono ?_
      rintro e w4 ⟨rfl, h4⟩
      go_wp2_with fail
      refine (lMapped false h4 i64_one rfl).mono ?_
      rintro e w8 ⟨rfl, rfl⟩
      go_wp2_with fail
      refine (lMapped false h4 i64_one rfl).mono ?_
      rintro e w8 ⟨rfl, rfl⟩
      go_wp2_with fail
      refine (lMapped false h4 i64_one rfl).mono ?_
      rintro e w8 ⟨rfl, rfl⟩
      go_wp2_with fail
      refine (lDropNo h4 hE hB i64_one).mono ?_
      rintro e w9 ⟨rfl, h9⟩
      go_wp2_with fail
      refine (kind_at18 w9 11 (h9.errs hE hB) (by decide)).mono ?_
      rintro e w10 ⟨rfl, b10⟩
      have h10 := h9.below b10
      go_wp2_with fail
      refine (awake18_any w10 (h10.errs hE hB) (Nat.le_trans hB h10.be.size)).mono ?_
      rintro e w11 ⟨rfl, b11⟩
      go_wp2
      go_ret
      exact ⟨rfl, h10.be.trans (b11.mono h10.be.size)⟩
  · go_enter Tryd.func8, Tryd.ntmps8
    go_wp2_with fail
    refine (lNew W).mono ?_
    rintro e w1 ⟨p, rfl, h1⟩
    go_wp2_with fail
    refine (lAdd h1 hE hB i64_one (by omega)).mono ?_
    rintro e w2 ⟨rfl, h2⟩
    go_wp2_with fail
    refine (lTop h2 hE hB i64_one).mono ?_
    rintro e w3 ⟨rfl, h3⟩
    go_wp2_with fail
    refine (lCommit false false 1 0 (2, []) .nilIface h3 hE hB i64_one rfl rfl rfl rfl).mono ?_
    rintro e w4 ⟨rfl, h4⟩
    go_wp2_with fail
    refine (lSend 3 h4 hE hB i64_one (by simp)).mono ?_
    rintro e w5 ⟨rfl, h5⟩
    cases acks
    · cases buffer
      ·
        go_wp2_with fail
        refine (lCommit false false 0 0 (2, [3]) .nilIface h5 hE hB i64_one rfl rfl rfl rfl).mono ?_
        rintro e w6 ⟨rfl, h6⟩
        go_wp2_with fail
        refine (lMapped false h6 i64_one rfl).mono ?_
        rintro e w8 ⟨rfl, rfl⟩
        go_wp2_with fail
        refine (lMapped false h6 i64_one rfl).mono ?_
        rintro e w8 ⟨rfl, rfl⟩
        go_wp2_with fail
        refine (lMapped false h6 i64_one rfl).mono ?_
        rintro e w8 ⟨rfl, rfl⟩
        go_wp2_with fail
        refine (lDropNo h6 hE hB i64_one).mono ?_
        rintro e w9 ⟨rfl, h9⟩
        go_wp2_with fail
        refine (kind_at18 w9 11 (h9.errs hE hB) (by decide)).mono ?_
        rintro e w10 ⟨rfl, b10⟩
        have h10 := h9.below b10
        go_wp2_with fail
        refine (awake18_any w10 (h10.errs hE hB) (Nat.le_trans hB h10.be.size)).mono ?_
        rintro e w11 ⟨rfl, b11⟩
        go_wp2
        go_ret
        exact ⟨rfl, h10.be.trans (b11.mono h10.be.size)⟩
      ·
        go_wp2_with fail
        refine (lCommit true true 0 12 (2, [3]) (.iface 93 (.pointer (some (ae 11)))) h5 hE hB i64_one rfl rfl rfl rfl).mono ?_
        rintro e w6 ⟨rfl, h6⟩
        go_wp2_with fail
        refine (lMapped false h6 i64_one rfl).mono ?_
        rintro e w8 ⟨rfl, rfl⟩
        go_wp2_with fail
        refine (lMapped false h6 i64_one rfl).mono ?_
        rintro e w8 ⟨rfl, rfl⟩
        go_wp2_with fail
        refine (lMapped false h6 i64_one rfl).mono ?_
        rintro e w8 ⟨rfl, rfl⟩
        go_wp2_with fail
        refine (lDropNo h6 hE hB i64_one).mono ?_
        rintro e w9 ⟨rfl, h9⟩
        go_wp2_with fail
        refine (kind_at18 w9 11 (h9.errs hE hB) (by decide)).mono ?_
        rintro e w10 ⟨rfl, b10⟩
        have h10 := h9.below b10
        go_wp2_with fail
        refine (awake18_any w10 (h10.errs hE hB) (Nat.le_trans hB h10.be.size)).mono ?_
        rintro e w11 ⟨rfl, b11⟩
        go_wp2
        go_ret
        exact ⟨rfl, h10.be.trans (b11.mono h10.be.size)⟩
    ·
      go_wp2_with fail
      refine (lAck 3 0 h5 hE hB i64_one (by simp) rfl).mono ?_
      rintro e w6 ⟨rfl, h6⟩
      cases buffer
      ·
        go_wp2_with fail
        refine (lCommit false false 0 0 (3, []) .nilIface h6 hE hB i64_one rfl rfl rfl rfl).mono ?_
        rintro e w7 ⟨rfl, h7⟩
        go_wp2_with fail
        refine (lMapped false h7 i64_one rfl).mono ?_
        rintro e w8 ⟨rfl, rfl⟩
        go_wp2_with fail
        refine (lMapped false h7 i64_one rfl).mono ?_
        rintro e w8 ⟨rfl, rfl⟩
        go_wp2_with fail
        refine (lMapped false h7 i64_one rfl).mono ?_
        rintro e w8 ⟨rfl, rfl⟩
        go_wp2_with fail
        refine (lDropNo h7 hE hB i64_one).mono ?_
        rintro e w9 ⟨rfl, h9⟩
        go_wp2_with fail
        refine (kind_at18 w9 11 (h9.errs hE hB) (by decide)).mono ?_
        rintro e w10 ⟨rfl, b10⟩
        have h10 := h9.below b10
        go_wp2_with fail
        refine (awake18_any w10 (h10.errs hE hB) (Nat.le_trans hB h10.be.size)).mono ?_
        rintro e w11 ⟨rfl, b11⟩
        go_wp2
        go_ret
        exact ⟨rfl, h10.be.trans (b11.mono h10.be.size)⟩
      ·
        go_wp2_with fail
        refine (lCommit true true 2 0 (4, []) .nilIface h6 hE hB i64_one rfl rfl rfl rfl).mono ?_
        rintro e w7 ⟨rfl, h7⟩
        go_wp2_with fail
        refine (lMapped true h7 i64_one rfl).mono ?_
        rintro e w8 ⟨rfl, rfl⟩
        go_wp2_with fail
        refine (lMapped true h7 i64_one rfl).mono ?_
        rintro e w8 ⟨rfl, rfl⟩
        go_wp2_with fail
        refine (lMapped true h7 i64_one rfl).mono ?_
        rintro e w8 ⟨rfl, rfl⟩
        cases again
        ·
          go_wp2_with fail
          refine (lCommit true false 3 0 (1, []) .nilIface h7 hE hB i64_one rfl rfl rfl rfl).mono ?_
          rintro e w10 ⟨rfl, h10⟩
          go_wp2_with fail
          refine (lCommit true true 0 12 (1, []) (.iface 93 (.pointer (some (ae 11)))) h10 hE hB i64_one rfl rfl rfl rfl).mono ?_
          rintro e w11 ⟨rfl, h11⟩
          go_wp2_with fail
          refine (lCommit false false 1 0 (2, []) .nilIface h11 hE hB i64_one rfl rfl rfl rfl).mono ?_
          rintro e w12 ⟨rfl, h12⟩
          go_wp2_with fail
          refine (kind_at18 w12 11 (h12.errs hE hB) (by decide)).mono ?_
          rintro e w13 ⟨rfl, b13⟩
          have h13 := h12.below b13
          go_wp2_with fail
          refine (lMapped false h13 i64_one rfl).mono ?_
          rintro e w8 ⟨rfl, rfl⟩
          go_wp2_with fail
          refine (lUntop h13 hE hB i64_one (by omega)).mono ?_
          rintro e w14 ⟨rfl, h14⟩
          go_wp2_with fail
          refine (lDrop h14 hE hB i64_one).mono ?_
          rintro e w15 ⟨rfl, h15⟩
          go_wp2_with fail
          refine (lHasNo h15 i64_one).mono ?_
          rintro e w8 ⟨rfl, rfl⟩
          go_wp2_with fail
          refine (awake18_any w15 (h15.errs hE hB) (Nat.le_trans hB h15.be.size)).mono ?_
          rintro e w16 ⟨rfl, b16⟩
          go_wp2
          go_ret
          exact ⟨rfl, h15.be.trans (b16.mono h15.be.size)⟩
        ·
          go_wp2_with fail
          refine (lCommit true true 0 0 (4, []) .nilIface h7 hE hB i64_one rfl rfl rfl rfl).mono ?_
          rintro e w10 ⟨rfl, h10⟩
          go_wp2_with fail
          refine (lMapped true h10 i64_one rfl).mono ?_
          rintro e w8 ⟨rfl, rfl⟩
          go_wp2_with fail
          refine (awake18_any w10 (h10.errs hE hB) (Nat.le_trans hB h10.be.size)).mono ?_
          rintro e w16 ⟨rfl, b16⟩
          go_wp2
          go_ret
          exact ⟨rfl, h10.be.trans (b16.mono h10.be.size)⟩
end Go.Proofs.YtfekldcpjoiipaaDoor
