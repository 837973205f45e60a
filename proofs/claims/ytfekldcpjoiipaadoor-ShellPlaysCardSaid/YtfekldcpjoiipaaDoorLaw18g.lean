/-
  The law ShellPlays, as a walk.
-/
import Derived.Test.YtfekldcpjoiipaaDoorLaw18f
import Derived.Deep.RegionHeld3
import Derived.Deep.DeepCutAuto
import Derived.Deep.CutBlock
namespace Go.Proofs.YtfekldcpjoiipaaDoor
open Go.RowKit
set_option linter.unusedVariables false

theorem addK_le (S : Wins) (id : Int) (b : Bool) : addK S id b ≤ 16 := by unfold addK; split <;> (try split) <;> omega
theorem dropK_le (S : Wins) (id : Int) : dropK S id ≤ 16 := by unfold dropK; split <;> omega
theorem untopK_le (S : Wins) (id : Int) : untopK S id ≤ 16 := by unfold untopK; split <;> omega
theorem ackK_le (S : Wins) (id x : Int) : ackK S id x ≤ 16 := by unfold ackK; split <;> (try split) <;> omega

section
variable {W w w' : World} {p q n k l o : Nat} {x : Op18} {S : Wins} {F G : Nat → Prop} {v : Value} {L : List RWin}
theorem xHas (h : TrioF W p q n k l o x S F G v L w) (id : Int) (hid : I64 id) :
    Calls Tryd.prog 34 #[.pointer (some ⟨p, 0, none⟩), .int .i64 id] w fun e w' => e = .returned (.bool (S id).isSome) ∧ TrioF W p q n k l o x S F G v L w' :=
  (shHas_any w p n F S id hid h.duo.sh).mono fun _ _ ⟨he, hw⟩ => ⟨he, hw ▸ h⟩
theorem xIsTop (h : TrioF W p q n k l o x S F G v L w) (id : Int) (hid : I64 id) :
    Calls Tryd.prog 33 #[.pointer (some ⟨p, 0, none⟩), .int .i64 id] w fun e w' => e = .returned (.bool (topB S id)) ∧ TrioF W p q n k l o x S F G v L w' :=
  (shIsTop_any w p n F S id hid h.duo.sh).mono fun _ _ ⟨he, hw⟩ => ⟨he, hw ▸ h⟩
theorem xMapped (h : TrioF W p q n k l o x S F G v L w) (id : Int) (hid : I64 id) :
    Calls Tryd.prog 32 #[.pointer (some ⟨p, 0, none⟩), .int .i64 id] w fun e w' => e = .returned (.bool (mapB S id)) ∧ TrioF W p q n k l o x S F G v L w' :=
  (shMapped_any w p n F S id hid h.duo.sh).mono fun _ _ ⟨he, hw⟩ => ⟨he, hw ▸ h⟩
theorem xStep (h : TrioF W p q n k l o x S F G v L w) (id : Int) (hl : l ≤ 1000) :
    Calls Tryd.prog 45 #[.pointer (some ⟨q, 0, none⟩), .int .i64 id] w fun e w' => e = .returned (.int .i64 (stepI (toS L) id)) ∧ TrioF W p q n k l o x S F G v L w' :=
  (rStep_any w q G v L id h.duo.ref (by have := h.duo.len; omega)).mono fun _ _ ⟨he, hw⟩ => ⟨he, hw ▸ h⟩
end
theorem geq_top (S : Wins) (id : Int) : decide (1 ≤ stepI S id) = topB S id := by
  unfold stepI topB
  cases S id with
  | none => rfl
  | some r =>
    obtain ⟨st, ws⟩ := r
    rw [Bool.eq_iff_iff]; simp; omega
theorem eq_map (S : Wins) (id : Int) : (stepI S id == 4) = mapB S id := by
  unfold stepI mapB
  cases S id with
  | none => rfl
  | some r =>
    obtain ⟨st, ws⟩ := r
    rw [Bool.eq_iff_iff]; simp; omega

/-- A function's block of a number. -/
def findBlock (n : Nat) : Code → Option Code
  | .block m c => match m == n with | true => some (.block m c) | false => findBlock n c
  | .seq a b => match findBlock n a with | some c => some c | none => findBlock n b
  | .loop c => findBlock n c
  | .scope c => findBlock n c
  | .cond _ a b => match findBlock n a with | some c => some c | none => findBlock n b
  | _ => none
noncomputable def sw18 : Code := ((Tryd.f9.body.bind (findBlock 2)).getD .skip)

set_option maxRecDepth 1000000 in
/-- Where the switch's ways meet. -/
def SwR (W : World) (p q n j ob : Nat) (x : Op18) (y : Int) (c0 c1 c2 c5 c7 c8 c9 c10 c11 c12 c13 c14 c15 c16 c17 c18 c19 c20 c21 c22 c23 c24 c25 c26 c27 c28 c29 c30 c31 c32 c33 c34 c36 c37 c38 c39 c40 c41 c42 c43 c44 c45 c46 c47 c48 c49 c50 c51 c52 c53 c54 c55 c56 c57 c58 c59 c60 c61 c62 c63 c64 c65 c66 c67 c68 c69 c70 c71 c72 c73 c74 c75 c76 c77 c78 c79 c80 c81 c82 c83 c84 c85 c86 c87 c88 c89 c90 c91 c92 c93 c94 c95 c96 c97 c98 c99 c100 c101 c102 c103 c104 c105 c106 c107 c108 c109 c110 c111 c112 c113 c114 c115 c116 c117 c118 c119 c120 c121 c122 c123 c124 c125 c126 c127 c128 c129 c130 c131 c132 c133 c134 c135 c136 c137 c138 c139 c140 c141 c142 c143 c144 c145 c146 c147 c148 c149 c150 c151 c152 c153 c154 c155 c156 c157 c158 c159 c160 c161 c162 c163 c164 c165 c166 c167 c168 c169 c170 c171 c172 c173 c174 c175 c176 c177 c178 c179 c180 c181 c182 c183 c184 c185 c186 c187 c188 c189 c190 c191 c192 c193 c194 c195 c196 c197 c198 c199 c200 c201 c202 c203 : Value) (a' : Act) (w' : World) : Prop :=
  ∃ u7 u8 u9 u10 u11 u36 u37 u38 u39 u40 u41 u42 u43 u44 u45 u46 u47 u48 u49 u50 u51 u52 u53 u54 u55 u56 u57 u58 u59 u60 u61 u62 u63 u64 u65 u66 u67 u68 u69 u70 u71 u72 u73 u74 u75 u76 u77 u78 u79 u80 u81 u82 u83 u84 u85 u86 u87 u88 u89 u90 u91 u92 u93 u94 u95 u96 u97 u98 u99 u100 u101 u102 u103 u104 u105 u106 u107 u108 u109 u110 u111 u112 u113 u114 u115 u116 u117 u118 u119 u120 u121 u122 u123 u124 u125 u126 u127 u128 u129 u130 u131 u132 u133 u134 u135 u136 u137 u138 u139 u140 u141 u142 u143 u144 u145 u146 u147 u148 u149 u150 : Value, (u7 = .bool true ∧ ∃ S', Hid (Trio W p q (n + 1) (j + 1) (j + 1) ob x S' S' w')) ∧ a' = ⟨#[c0, c1, c2, .pointer (some ⟨p, 0, none⟩), .pointer (some ⟨q, 0, none⟩), c5, .pointer (some ⟨ob, 0, none⟩), u7, u8, u9, u10, u11, c12, c13, c14, c15, c16, c17, c18, c19, c20, c21, c22, c23, c24, c25, c26, c27, c28, c29, c30, c31, c32, c33, c34, .int .i64 y, u36, u37, u38, u39, u40, u41, u42, u43, u44, u45, u46, u47, u48, u49, u50, u51, u52, u53, u54, u55, u56, u57, u58, u59, u60, u61, u62, u63, u64, u65, u66, u67, u68, u69, u70, u71, u72, u73, u74, u75, u76, u77, u78, u79, u80, u81, u82, u83, u84, u85, u86, u87, u88, u89, u90, u91, u92, u93, u94, u95, u96, u97, u98, u99, u100, u101, u102, u103, u104, u105, u106, u107, u108, u109, u110, u111, u112, u113, u114, u115, u116, u117, u118, u119, u120, u121, u122, u123, u124, u125, u126, u127, u128, u129, u130, u131, u132, u133, u134, u135, u136, u137, u138, u139, u140, u141, u142, u143, u144, u145, u146, u147, u148, u149, u150, c151, c152, c153, c154, c155, c156, c157, c158, c159, c160, c161, c162, c163, c164, c165, c166, c167, c168, c169, c170, c171, c172, c173, c174, c175, c176, c177, c178, c179, c180, c181, c182, c183, c184, c185, c186, c187, c188, c189, c190, c191, c192, c193, c194, c195, c196, c197, c198, c199, c200, c201, c202, c203], []⟩


set_option maxRecDepth 1000000 in
set_option maxHeartbeats 4000000 in
theorem sw_0 {K : Act → World → Prop} {Q' : Exit → Act → World → Prop} {c0 c1 c2 c5 c7 c8 c9 c10 c11 c12 c13 c14 c15 c16 c17 c18 c19 c20 c21 c22 c23 c24 c25 c26 c27 c28 c29 c30 c31 c32 c33 c34 c36 c37 c38 c39 c40 c41 c42 c43 c44 c45 c46 c47 c48 c49 c50 c51 c52 c53 c54 c55 c56 c57 c58 c59 c60 c61 c62 c63 c64 c65 c66 c67 c68 c69 c70 c71 c72 c73 c74 c75 c76 c77 c78 c79 c80 c81 c82 c83 c84 c85 c86 c87 c88 c89 c90 c91 c92 c93 c94 c95 c96 c97 c98 c99 c100 c101 c102 c103 c104 c105 c106 c107 c108 c109 c110 c111 c112 c113 c114 c115 c116 c117 c118 c119 c120 c121 c122 c123 c124 c125 c126 c127 c128 c129 c130 c131 c132 c133 c134 c135 c136 c137 c138 c139 c140 c141 c142 c143 c144 c145 c146 c147 c148 c149 c150 c151 c152 c153 c154 c155 c156 c157 c158 c159 c160 c161 c162 c163 c164 c165 c166 c167 c168 c169 c170 c171 c172 c173 c174 c175 c176 c177 c178 c179 c180 c181 c182 c183 c184 c185 c186 c187 c188 c189 c190 c191 c192 c193 c194 c195 c196 c197 c198 c199 c200 c201 c202 c203 : Value} {W wB : World} {ae : Nat → Addr} (hE : Hid (Errs W.heap.size W ae)) {p q n j ob : Nat} {kd id sr : Int} {at' bu : Bool} {S : Wins} {y : Int}
    (hT : Trio W p q n j j ob ⟨kd, id, sr, at', bu⟩ S S wB) (g1 : I64 id) (hn : n ≤ j) (hj80 : j < 80) (hy : y = 0)
    (hK : ∀ a' w', SwR W p q n j ob ⟨kd, id, sr, at', bu⟩ y c0 c1 c2 c5 c7 c8 c9 c10 c11 c12 c13 c14 c15 c16 c17 c18 c19 c20 c21 c22 c23 c24 c25 c26 c27 c28 c29 c30 c31 c32 c33 c34 c36 c37 c38 c39 c40 c41 c42 c43 c44 c45 c46 c47 c48 c49 c50 c51 c52 c53 c54 c55 c56 c57 c58 c59 c60 c61 c62 c63 c64 c65 c66 c67 c68 c69 c70 c71 c72 c73 c74 c75 c76 c77 c78 c79 c80 c81 c82 c83 c84 c85 c86 c87 c88 c89 c90 c91 c92 c93 c94 c95 c96 c97 c98 c99 c100 c101 c102 c103 c104 c105 c106 c107 c108 c109 c110 c111 c112 c113 c114 c115 c116 c117 c118 c119 c120 c121 c122 c123 c124 c125 c126 c127 c128 c129 c130 c131 c132 c133 c134 c135 c136 c137 c138 c139 c140 c141 c142 c143 c144 c145 c146 c147 c148 c149 c150 c151 c152 c153 c154 c155 c156 c157 c158 c159 c160 c161 c162 c163 c164 c165 c166 c167 c168 c169 c170 c171 c172 c173 c174 c175 c176 c177 c178 c179 c180 c181 c182 c183 c184 c185 c186 c187 c188 c189 c190 c191 c192 c193 c194 c195 c196 c197 c198 c199 c200 c201 c202 c203 a' w' → K a' w') : Code.wp Tryd.prog sw18 (Exit.then K Q') ⟨#[c0, c1, c2, .pointer (some ⟨p, 0, none⟩), .pointer (some ⟨q, 0, none⟩), c5, .pointer (some ⟨ob, 0, none⟩), c7, c8, c9, c10, c11, c12, c13, c14, c15, c16, c17, c18, c19, c20, c21, c22, c23, c24, c25, c26, c27, c28, c29, c30, c31, c32, c33, c34, .int .i64 y, c36, c37, c38, c39, c40, c41, c42, c43, c44, c45, c46, c47, c48, c49, c50, c51, c52, c53, c54, c55, c56, c57, c58, c59, c60, c61, c62, c63, c64, c65, c66, c67, c68, c69, c70, c71, c72, c73, c74, c75, c76, c77, c78, c79, c80, c81, c82, c83, c84, c85, c86, c87, c88, c89, c90, c91, c92, c93, c94, c95, c96, c97, c98, c99, c100, c101, c102, c103, c104, c105, c106, c107, c108, c109, c110, c111, c112, c113, c114, c115, c116, c117, c118, c119, c120, c121, c122, c123, c124, c125, c126, c127, c128, c129, c130, c131, c132, c133, c134, c135, c136, c137, c138, c139, c140, c141, c142, c143, c144, c145, c146, c147, c148, c149, c150, c151, c152, c153, c154, c155, c156, c157, c158, c159, c160, c161, c162, c163, c164, c165, c166, c167, c168, c169, c170, c171, c172, c173, c174, c175, c176, c177, c178, c179, c180, c181, c182, c183, c184, c185, c186, c187, c188, c189, c190, c191, c192, c193, c194, c195, c196, c197, c198, c199, c200, c201, c202, c203], []⟩ wB := by
  have d0 := hT.op.c0
  have d1 := hT.op.c1
  have d2 := hT.op.c2
  have d3 := hT.op.c3
  have d4 := hT.op.c4
  dsimp only at d0 d1 d2 d3 d4
  have hc := hide hT.drew
  replace hT := hide hT
  conv => arg 2; whnf
  refine wp_cut (SwR W p q n j ob ⟨kd, id, sr, at', bu⟩ y c0 c1 c2 c5 c7 c8 c9 c10 c11 c12 c13 c14 c15 c16 c17 c18 c19 c20 c21 c22 c23 c24 c25 c26 c27 c28 c29 c30 c31 c32 c33 c34 c36 c37 c38 c39 c40 c41 c42 c43 c44 c45 c46 c47 c48 c49 c50 c51 c52 c53 c54 c55 c56 c57 c58 c59 c60 c61 c62 c63 c64 c65 c66 c67 c68 c69 c70 c71 c72 c73 c74 c75 c76 c77 c78 c79 c80 c81 c82 c83 c84 c85 c86 c87 c88 c89 c90 c91 c92 c93 c94 c95 c96 c97 c98 c99 c100 c101 c102 c103 c104 c105 c106 c107 c108 c109 c110 c111 c112 c113 c114 c115 c116 c117 c118 c119 c120 c121 c122 c123 c124 c125 c126 c127 c128 c129 c130 c131 c132 c133 c134 c135 c136 c137 c138 c139 c140 c141 c142 c143 c144 c145 c146 c147 c148 c149 c150 c151 c152 c153 c154 c155 c156 c157 c158 c159 c160 c161 c162 c163 c164 c165 c166 c167 c168 c169 c170 c171 c172 c173 c174 c175 c176 c177 c178 c179 c180 c181 c182 c183 c184 c185 c186 c187 c188 c189 c190 c191 c192 c193 c194 c195 c196 c197 c198 c199 c200 c201 c202 c203) hK ?_
  intro J K2 hJ hM
  unfold SwR at hJ
  subst hy
  have hk1 := addK_le S id bu
  go_wp2_with fail
  go_region_held3 (fun w' => w'.cell? ⟨ob, 1, none⟩ = some (.int .i64 id) ∧ w'.cell? ⟨ob, 4, none⟩ = some (.bool bu)) (go_keep)
    (first
      | (go_at_call 25; refine (uAdd hE.out hc.out id bu g1 (by omega)).mono ?_; clear hc; rintro e w' ⟨rfl, hc⟩; have dc := hc.op.c1; have dc2 := hc.op.c2; have dc3 := hc.op.c3; have dc4 := hc.op.c4; dsimp only at dc dc2 dc3 dc4; replace hc := hide hc)
      | (go_at_call 22; refine (tKind hE.out hc.out (addK S id bu) hk1).mono ?_; clear hc; rintro e w' ⟨rfl, hc⟩; have dc := hc.op.c1; have dc2 := hc.op.c2; have dc3 := hc.op.c3; have dc4 := hc.op.c4; dsimp only at dc dc2 dc3 dc4; replace hc := hide hc)
      | (go_at_call 37; refine (vAdd hc.out id bu g1 (by omega)).mono ?_; clear hc; rintro e w' ⟨rfl, hc⟩; have dc := hc.op.c1; have dc2 := hc.op.c2; have dc3 := hc.op.c3; have dc4 := hc.op.c4; dsimp only at dc dc2 dc3 dc4; replace hc := hide hc)
    )
  go_wp2
  go_meet
  exact ⟨rfl, _, hc⟩

set_option maxRecDepth 1000000 in
set_option maxHeartbeats 4000000 in
theorem sw_1 {K : Act → World → Prop} {Q' : Exit → Act → World → Prop} {c0 c1 c2 c5 c7 c8 c9 c10 c11 c12 c13 c14 c15 c16 c17 c18 c19 c20 c21 c22 c23 c24 c25 c26 c27 c28 c29 c30 c31 c32 c33 c34 c36 c37 c38 c39 c40 c41 c42 c43 c44 c45 c46 c47 c48 c49 c50 c51 c52 c53 c54 c55 c56 c57 c58 c59 c60 c61 c62 c63 c64 c65 c66 c67 c68 c69 c70 c71 c72 c73 c74 c75 c76 c77 c78 c79 c80 c81 c82 c83 c84 c85 c86 c87 c88 c89 c90 c91 c92 c93 c94 c95 c96 c97 c98 c99 c100 c101 c102 c103 c104 c105 c106 c107 c108 c109 c110 c111 c112 c113 c114 c115 c116 c117 c118 c119 c120 c121 c122 c123 c124 c125 c126 c127 c128 c129 c130 c131 c132 c133 c134 c135 c136 c137 c138 c139 c140 c141 c142 c143 c144 c145 c146 c147 c148 c149 c150 c151 c152 c153 c154 c155 c156 c157 c158 c159 c160 c161 c162 c163 c164 c165 c166 c167 c168 c169 c170 c171 c172 c173 c174 c175 c176 c177 c178 c179 c180 c181 c182 c183 c184 c185 c186 c187 c188 c189 c190 c191 c192 c193 c194 c195 c196 c197 c198 c199 c200 c201 c202 c203 : Value} {W wB : World} {ae : Nat → Addr} (hE : Hid (Errs W.heap.size W ae)) {p q n j ob : Nat} {kd id sr : Int} {at' bu : Bool} {S : Wins} {y : Int}
    (hT : Trio W p q n j j ob ⟨kd, id, sr, at', bu⟩ S S wB) (g1 : I64 id) (hn : n ≤ j) (hj80 : j < 80) (hy : y = 1)
    (hK : ∀ a' w', SwR W p q n j ob ⟨kd, id, sr, at', bu⟩ y c0 c1 c2 c5 c7 c8 c9 c10 c11 c12 c13 c14 c15 c16 c17 c18 c19 c20 c21 c22 c23 c24 c25 c26 c27 c28 c29 c30 c31 c32 c33 c34 c36 c37 c38 c39 c40 c41 c42 c43 c44 c45 c46 c47 c48 c49 c50 c51 c52 c53 c54 c55 c56 c57 c58 c59 c60 c61 c62 c63 c64 c65 c66 c67 c68 c69 c70 c71 c72 c73 c74 c75 c76 c77 c78 c79 c80 c81 c82 c83 c84 c85 c86 c87 c88 c89 c90 c91 c92 c93 c94 c95 c96 c97 c98 c99 c100 c101 c102 c103 c104 c105 c106 c107 c108 c109 c110 c111 c112 c113 c114 c115 c116 c117 c118 c119 c120 c121 c122 c123 c124 c125 c126 c127 c128 c129 c130 c131 c132 c133 c134 c135 c136 c137 c138 c139 c140 c141 c142 c143 c144 c145 c146 c147 c148 c149 c150 c151 c152 c153 c154 c155 c156 c157 c158 c159 c160 c161 c162 c163 c164 c165 c166 c167 c168 c169 c170 c171 c172 c173 c174 c175 c176 c177 c178 c179 c180 c181 c182 c183 c184 c185 c186 c187 c188 c189 c190 c191 c192 c193 c194 c195 c196 c197 c198 c199 c200 c201 c202 c203 a' w' → K a' w') : Code.wp Tryd.prog sw18 (Exit.then K Q') ⟨#[c0, c1, c2, .pointer (some ⟨p, 0, none⟩), .pointer (some ⟨q, 0, none⟩), c5, .pointer (some ⟨ob, 0, none⟩), c7, c8, c9, c10, c11, c12, c13, c14, c15, c16, c17, c18, c19, c20, c21, c22, c23, c24, c25, c26, c27, c28, c29, c30, c31, c32, c33, c34, .int .i64 y, c36, c37, c38, c39, c40, c41, c42, c43, c44, c45, c46, c47, c48, c49, c50, c51, c52, c53, c54, c55, c56, c57, c58, c59, c60, c61, c62, c63, c64, c65, c66, c67, c68, c69, c70, c71, c72, c73, c74, c75, c76, c77, c78, c79, c80, c81, c82, c83, c84, c85, c86, c87, c88, c89, c90, c91, c92, c93, c94, c95, c96, c97, c98, c99, c100, c101, c102, c103, c104, c105, c106, c107, c108, c109, c110, c111, c112, c113, c114, c115, c116, c117, c118, c119, c120, c121, c122, c123, c124, c125, c126, c127, c128, c129, c130, c131, c132, c133, c134, c135, c136, c137, c138, c139, c140, c141, c142, c143, c144, c145, c146, c147, c148, c149, c150, c151, c152, c153, c154, c155, c156, c157, c158, c159, c160, c161, c162, c163, c164, c165, c166, c167, c168, c169, c170, c171, c172, c173, c174, c175, c176, c177, c178, c179, c180, c181, c182, c183, c184, c185, c186, c187, c188, c189, c190, c191, c192, c193, c194, c195, c196, c197, c198, c199, c200, c201, c202, c203], []⟩ wB := by
  have d0 := hT.op.c0
  have d1 := hT.op.c1
  have d2 := hT.op.c2
  have d3 := hT.op.c3
  have d4 := hT.op.c4
  dsimp only at d0 d1 d2 d3 d4
  have hc := hide hT.drew
  replace hT := hide hT
  conv => arg 2; whnf
  refine wp_cut (SwR W p q n j ob ⟨kd, id, sr, at', bu⟩ y c0 c1 c2 c5 c7 c8 c9 c10 c11 c12 c13 c14 c15 c16 c17 c18 c19 c20 c21 c22 c23 c24 c25 c26 c27 c28 c29 c30 c31 c32 c33 c34 c36 c37 c38 c39 c40 c41 c42 c43 c44 c45 c46 c47 c48 c49 c50 c51 c52 c53 c54 c55 c56 c57 c58 c59 c60 c61 c62 c63 c64 c65 c66 c67 c68 c69 c70 c71 c72 c73 c74 c75 c76 c77 c78 c79 c80 c81 c82 c83 c84 c85 c86 c87 c88 c89 c90 c91 c92 c93 c94 c95 c96 c97 c98 c99 c100 c101 c102 c103 c104 c105 c106 c107 c108 c109 c110 c111 c112 c113 c114 c115 c116 c117 c118 c119 c120 c121 c122 c123 c124 c125 c126 c127 c128 c129 c130 c131 c132 c133 c134 c135 c136 c137 c138 c139 c140 c141 c142 c143 c144 c145 c146 c147 c148 c149 c150 c151 c152 c153 c154 c155 c156 c157 c158 c159 c160 c161 c162 c163 c164 c165 c166 c167 c168 c169 c170 c171 c172 c173 c174 c175 c176 c177 c178 c179 c180 c181 c182 c183 c184 c185 c186 c187 c188 c189 c190 c191 c192 c193 c194 c195 c196 c197 c198 c199 c200 c201 c202 c203) hK ?_
  intro J K2 hJ hM
  unfold SwR at hJ
  subst hy
  have hk1 := dropK_le S id
  go_wp2_with fail
  go_region_held3 (fun w' => w'.cell? ⟨ob, 1, none⟩ = some (.int .i64 id)) (go_keep)
    (first
      | (go_at_call 35; refine (uDrop hE.out hc.out id g1).mono ?_; clear hc; rintro e w' ⟨rfl, hc⟩; have dc := hc.op.c1; have dc2 := hc.op.c2; have dc3 := hc.op.c3; have dc4 := hc.op.c4; dsimp only at dc dc2 dc3 dc4; replace hc := hide hc)
      | (go_at_call 22; refine (tKind hE.out hc.out (dropK S id) hk1).mono ?_; clear hc; rintro e w' ⟨rfl, hc⟩; have dc := hc.op.c1; have dc2 := hc.op.c2; have dc3 := hc.op.c3; have dc4 := hc.op.c4; dsimp only at dc dc2 dc3 dc4; replace hc := hide hc)
      | (go_at_call 38; refine (vDrop hc.out id (by omega)).mono ?_; clear hc; rintro e w' ⟨rfl, hc⟩; have dc := hc.op.c1; have dc2 := hc.op.c2; have dc3 := hc.op.c3; have dc4 := hc.op.c4; dsimp only at dc dc2 dc3 dc4; replace hc := hide hc)
    )
  go_wp2
  go_meet
  exact ⟨rfl, _, hc⟩

set_option maxRecDepth 1000000 in
set_option maxHeartbeats 4000000 in
theorem sw_2 {K : Act → World → Prop} {Q' : Exit → Act → World → Prop} {c0 c1 c2 c5 c7 c8 c9 c10 c11 c12 c13 c14 c15 c16 c17 c18 c19 c20 c21 c22 c23 c24 c25 c26 c27 c28 c29 c30 c31 c32 c33 c34 c36 c37 c38 c39 c40 c41 c42 c43 c44 c45 c46 c47 c48 c49 c50 c51 c52 c53 c54 c55 c56 c57 c58 c59 c60 c61 c62 c63 c64 c65 c66 c67 c68 c69 c70 c71 c72 c73 c74 c75 c76 c77 c78 c79 c80 c81 c82 c83 c84 c85 c86 c87 c88 c89 c90 c91 c92 c93 c94 c95 c96 c97 c98 c99 c100 c101 c102 c103 c104 c105 c106 c107 c108 c109 c110 c111 c112 c113 c114 c115 c116 c117 c118 c119 c120 c121 c122 c123 c124 c125 c126 c127 c128 c129 c130 c131 c132 c133 c134 c135 c136 c137 c138 c139 c140 c141 c142 c143 c144 c145 c146 c147 c148 c149 c150 c151 c152 c153 c154 c155 c156 c157 c158 c159 c160 c161 c162 c163 c164 c165 c166 c167 c168 c169 c170 c171 c172 c173 c174 c175 c176 c177 c178 c179 c180 c181 c182 c183 c184 c185 c186 c187 c188 c189 c190 c191 c192 c193 c194 c195 c196 c197 c198 c199 c200 c201 c202 c203 : Value} {W wB : World} {ae : Nat → Addr} (hE : Hid (Errs W.heap.size W ae)) {p q n j ob : Nat} {kd id sr : Int} {at' bu : Bool} {S : Wins} {y : Int}
    (hT : Trio W p q n j j ob ⟨kd, id, sr, at', bu⟩ S S wB) (g1 : I64 id) (hn : n ≤ j) (hj80 : j < 80) (hy : y = 2)
    (hK : ∀ a' w', SwR W p q n j ob ⟨kd, id, sr, at', bu⟩ y c0 c1 c2 c5 c7 c8 c9 c10 c11 c12 c13 c14 c15 c16 c17 c18 c19 c20 c21 c22 c23 c24 c25 c26 c27 c28 c29 c30 c31 c32 c33 c34 c36 c37 c38 c39 c40 c41 c42 c43 c44 c45 c46 c47 c48 c49 c50 c51 c52 c53 c54 c55 c56 c57 c58 c59 c60 c61 c62 c63 c64 c65 c66 c67 c68 c69 c70 c71 c72 c73 c74 c75 c76 c77 c78 c79 c80 c81 c82 c83 c84 c85 c86 c87 c88 c89 c90 c91 c92 c93 c94 c95 c96 c97 c98 c99 c100 c101 c102 c103 c104 c105 c106 c107 c108 c109 c110 c111 c112 c113 c114 c115 c116 c117 c118 c119 c120 c121 c122 c123 c124 c125 c126 c127 c128 c129 c130 c131 c132 c133 c134 c135 c136 c137 c138 c139 c140 c141 c142 c143 c144 c145 c146 c147 c148 c149 c150 c151 c152 c153 c154 c155 c156 c157 c158 c159 c160 c161 c162 c163 c164 c165 c166 c167 c168 c169 c170 c171 c172 c173 c174 c175 c176 c177 c178 c179 c180 c181 c182 c183 c184 c185 c186 c187 c188 c189 c190 c191 c192 c193 c194 c195 c196 c197 c198 c199 c200 c201 c202 c203 a' w' → K a' w') : Code.wp Tryd.prog sw18 (Exit.then K Q') ⟨#[c0, c1, c2, .pointer (some ⟨p, 0, none⟩), .pointer (some ⟨q, 0, none⟩), c5, .pointer (some ⟨ob, 0, none⟩), c7, c8, c9, c10, c11, c12, c13, c14, c15, c16, c17, c18, c19, c20, c21, c22, c23, c24, c25, c26, c27, c28, c29, c30, c31, c32, c33, c34, .int .i64 y, c36, c37, c38, c39, c40, c41, c42, c43, c44, c45, c46, c47, c48, c49, c50, c51, c52, c53, c54, c55, c56, c57, c58, c59, c60, c61, c62, c63, c64, c65, c66, c67, c68, c69, c70, c71, c72, c73, c74, c75, c76, c77, c78, c79, c80, c81, c82, c83, c84, c85, c86, c87, c88, c89, c90, c91, c92, c93, c94, c95, c96, c97, c98, c99, c100, c101, c102, c103, c104, c105, c106, c107, c108, c109, c110, c111, c112, c113, c114, c115, c116, c117, c118, c119, c120, c121, c122, c123, c124, c125, c126, c127, c128, c129, c130, c131, c132, c133, c134, c135, c136, c137, c138, c139, c140, c141, c142, c143, c144, c145, c146, c147, c148, c149, c150, c151, c152, c153, c154, c155, c156, c157, c158, c159, c160, c161, c162, c163, c164, c165, c166, c167, c168, c169, c170, c171, c172, c173, c174, c175, c176, c177, c178, c179, c180, c181, c182, c183, c184, c185, c186, c187, c188, c189, c190, c191, c192, c193, c194, c195, c196, c197, c198, c199, c200, c201, c202, c203], []⟩ wB := by
  have d0 := hT.op.c0
  have d1 := hT.op.c1
  have d2 := hT.op.c2
  have d3 := hT.op.c3
  have d4 := hT.op.c4
  dsimp only at d0 d1 d2 d3 d4
  have hc := hide hT.drew
  replace hT := hide hT
  conv => arg 2; whnf
  refine wp_cut (SwR W p q n j ob ⟨kd, id, sr, at', bu⟩ y c0 c1 c2 c5 c7 c8 c9 c10 c11 c12 c13 c14 c15 c16 c17 c18 c19 c20 c21 c22 c23 c24 c25 c26 c27 c28 c29 c30 c31 c32 c33 c34 c36 c37 c38 c39 c40 c41 c42 c43 c44 c45 c46 c47 c48 c49 c50 c51 c52 c53 c54 c55 c56 c57 c58 c59 c60 c61 c62 c63 c64 c65 c66 c67 c68 c69 c70 c71 c72 c73 c74 c75 c76 c77 c78 c79 c80 c81 c82 c83 c84 c85 c86 c87 c88 c89 c90 c91 c92 c93 c94 c95 c96 c97 c98 c99 c100 c101 c102 c103 c104 c105 c106 c107 c108 c109 c110 c111 c112 c113 c114 c115 c116 c117 c118 c119 c120 c121 c122 c123 c124 c125 c126 c127 c128 c129 c130 c131 c132 c133 c134 c135 c136 c137 c138 c139 c140 c141 c142 c143 c144 c145 c146 c147 c148 c149 c150 c151 c152 c153 c154 c155 c156 c157 c158 c159 c160 c161 c162 c163 c164 c165 c166 c167 c168 c169 c170 c171 c172 c173 c174 c175 c176 c177 c178 c179 c180 c181 c182 c183 c184 c185 c186 c187 c188 c189 c190 c191 c192 c193 c194 c195 c196 c197 c198 c199 c200 c201 c202 c203) hK ?_
  intro J K2 hJ hM
  unfold SwR at hJ
  subst hy
  have hk1 := topK_le S id
  go_wp2_with fail
  go_region_held3 (fun w' => w'.cell? ⟨ob, 1, none⟩ = some (.int .i64 id)) (go_keep)
    (first
      | (go_at_call 26; refine (uTop hE.out hc.out id g1).mono ?_; clear hc; rintro e w' ⟨rfl, hc⟩; have dc := hc.op.c1; have dc2 := hc.op.c2; have dc3 := hc.op.c3; have dc4 := hc.op.c4; dsimp only at dc dc2 dc3 dc4; replace hc := hide hc)
      | (go_at_call 22; refine (tKind hE.out hc.out (topK S id) hk1).mono ?_; clear hc; rintro e w' ⟨rfl, hc⟩; have dc := hc.op.c1; have dc2 := hc.op.c2; have dc3 := hc.op.c3; have dc4 := hc.op.c4; dsimp only at dc dc2 dc3 dc4; replace hc := hide hc)
      | (go_at_call 39; refine (vTop hc.out id (by omega)).mono ?_; clear hc; rintro e w' ⟨rfl, hc⟩; have dc := hc.op.c1; have dc2 := hc.op.c2; have dc3 := hc.op.c3; have dc4 := hc.op.c4; dsimp only at dc dc2 dc3 dc4; replace hc := hide hc)
    )
  go_wp2
  go_meet
  exact ⟨rfl, _, hc⟩

set_option maxRecDepth 1000000 in
set_option maxHeartbeats 4000000 in
theorem sw_3 {K : Act → World → Prop} {Q' : Exit → Act → World → Prop} {c0 c1 c2 c5 c7 c8 c9 c10 c11 c12 c13 c14 c15 c16 c17 c18 c19 c20 c21 c22 c23 c24 c25 c26 c27 c28 c29 c30 c31 c32 c33 c34 c36 c37 c38 c39 c40 c41 c42 c43 c44 c45 c46 c47 c48 c49 c50 c51 c52 c53 c54 c55 c56 c57 c58 c59 c60 c61 c62 c63 c64 c65 c66 c67 c68 c69 c70 c71 c72 c73 c74 c75 c76 c77 c78 c79 c80 c81 c82 c83 c84 c85 c86 c87 c88 c89 c90 c91 c92 c93 c94 c95 c96 c97 c98 c99 c100 c101 c102 c103 c104 c105 c106 c107 c108 c109 c110 c111 c112 c113 c114 c115 c116 c117 c118 c119 c120 c121 c122 c123 c124 c125 c126 c127 c128 c129 c130 c131 c132 c133 c134 c135 c136 c137 c138 c139 c140 c141 c142 c143 c144 c145 c146 c147 c148 c149 c150 c151 c152 c153 c154 c155 c156 c157 c158 c159 c160 c161 c162 c163 c164 c165 c166 c167 c168 c169 c170 c171 c172 c173 c174 c175 c176 c177 c178 c179 c180 c181 c182 c183 c184 c185 c186 c187 c188 c189 c190 c191 c192 c193 c194 c195 c196 c197 c198 c199 c200 c201 c202 c203 : Value} {W wB : World} {ae : Nat → Addr} (hE : Hid (Errs W.heap.size W ae)) {p q n j ob : Nat} {kd id sr : Int} {at' bu : Bool} {S : Wins} {y : Int}
    (hT : Trio W p q n j j ob ⟨kd, id, sr, at', bu⟩ S S wB) (g1 : I64 id) (hn : n ≤ j) (hj80 : j < 80) (hy : y = 3)
    (hK : ∀ a' w', SwR W p q n j ob ⟨kd, id, sr, at', bu⟩ y c0 c1 c2 c5 c7 c8 c9 c10 c11 c12 c13 c14 c15 c16 c17 c18 c19 c20 c21 c22 c23 c24 c25 c26 c27 c28 c29 c30 c31 c32 c33 c34 c36 c37 c38 c39 c40 c41 c42 c43 c44 c45 c46 c47 c48 c49 c50 c51 c52 c53 c54 c55 c56 c57 c58 c59 c60 c61 c62 c63 c64 c65 c66 c67 c68 c69 c70 c71 c72 c73 c74 c75 c76 c77 c78 c79 c80 c81 c82 c83 c84 c85 c86 c87 c88 c89 c90 c91 c92 c93 c94 c95 c96 c97 c98 c99 c100 c101 c102 c103 c104 c105 c106 c107 c108 c109 c110 c111 c112 c113 c114 c115 c116 c117 c118 c119 c120 c121 c122 c123 c124 c125 c126 c127 c128 c129 c130 c131 c132 c133 c134 c135 c136 c137 c138 c139 c140 c141 c142 c143 c144 c145 c146 c147 c148 c149 c150 c151 c152 c153 c154 c155 c156 c157 c158 c159 c160 c161 c162 c163 c164 c165 c166 c167 c168 c169 c170 c171 c172 c173 c174 c175 c176 c177 c178 c179 c180 c181 c182 c183 c184 c185 c186 c187 c188 c189 c190 c191 c192 c193 c194 c195 c196 c197 c198 c199 c200 c201 c202 c203 a' w' → K a' w') : Code.wp Tryd.prog sw18 (Exit.then K Q') ⟨#[c0, c1, c2, .pointer (some ⟨p, 0, none⟩), .pointer (some ⟨q, 0, none⟩), c5, .pointer (some ⟨ob, 0, none⟩), c7, c8, c9, c10, c11, c12, c13, c14, c15, c16, c17, c18, c19, c20, c21, c22, c23, c24, c25, c26, c27, c28, c29, c30, c31, c32, c33, c34, .int .i64 y, c36, c37, c38, c39, c40, c41, c42, c43, c44, c45, c46, c47, c48, c49, c50, c51, c52, c53, c54, c55, c56, c57, c58, c59, c60, c61, c62, c63, c64, c65, c66, c67, c68, c69, c70, c71, c72, c73, c74, c75, c76, c77, c78, c79, c80, c81, c82, c83, c84, c85, c86, c87, c88, c89, c90, c91, c92, c93, c94, c95, c96, c97, c98, c99, c100, c101, c102, c103, c104, c105, c106, c107, c108, c109, c110, c111, c112, c113, c114, c115, c116, c117, c118, c119, c120, c121, c122, c123, c124, c125, c126, c127, c128, c129, c130, c131, c132, c133, c134, c135, c136, c137, c138, c139, c140, c141, c142, c143, c144, c145, c146, c147, c148, c149, c150, c151, c152, c153, c154, c155, c156, c157, c158, c159, c160, c161, c162, c163, c164, c165, c166, c167, c168, c169, c170, c171, c172, c173, c174, c175, c176, c177, c178, c179, c180, c181, c182, c183, c184, c185, c186, c187, c188, c189, c190, c191, c192, c193, c194, c195, c196, c197, c198, c199, c200, c201, c202, c203], []⟩ wB := by
  have d0 := hT.op.c0
  have d1 := hT.op.c1
  have d2 := hT.op.c2
  have d3 := hT.op.c3
  have d4 := hT.op.c4
  dsimp only at d0 d1 d2 d3 d4
  have hc := hide hT.drew
  replace hT := hide hT
  conv => arg 2; whnf
  refine wp_cut (SwR W p q n j ob ⟨kd, id, sr, at', bu⟩ y c0 c1 c2 c5 c7 c8 c9 c10 c11 c12 c13 c14 c15 c16 c17 c18 c19 c20 c21 c22 c23 c24 c25 c26 c27 c28 c29 c30 c31 c32 c33 c34 c36 c37 c38 c39 c40 c41 c42 c43 c44 c45 c46 c47 c48 c49 c50 c51 c52 c53 c54 c55 c56 c57 c58 c59 c60 c61 c62 c63 c64 c65 c66 c67 c68 c69 c70 c71 c72 c73 c74 c75 c76 c77 c78 c79 c80 c81 c82 c83 c84 c85 c86 c87 c88 c89 c90 c91 c92 c93 c94 c95 c96 c97 c98 c99 c100 c101 c102 c103 c104 c105 c106 c107 c108 c109 c110 c111 c112 c113 c114 c115 c116 c117 c118 c119 c120 c121 c122 c123 c124 c125 c126 c127 c128 c129 c130 c131 c132 c133 c134 c135 c136 c137 c138 c139 c140 c141 c142 c143 c144 c145 c146 c147 c148 c149 c150 c151 c152 c153 c154 c155 c156 c157 c158 c159 c160 c161 c162 c163 c164 c165 c166 c167 c168 c169 c170 c171 c172 c173 c174 c175 c176 c177 c178 c179 c180 c181 c182 c183 c184 c185 c186 c187 c188 c189 c190 c191 c192 c193 c194 c195 c196 c197 c198 c199 c200 c201 c202 c203) hK ?_
  intro J K2 hJ hM
  unfold SwR at hJ
  subst hy
  have hk1 := untopK_le S id
  go_wp2_with fail
  go_region_held3 (fun w' => w'.cell? ⟨ob, 1, none⟩ = some (.int .i64 id)) (go_keep)
    (first
      | (go_at_call 36; refine (uUntop hE.out hc.out id g1 (by omega)).mono ?_; clear hc; rintro e w' ⟨rfl, hc⟩; have dc := hc.op.c1; have dc2 := hc.op.c2; have dc3 := hc.op.c3; have dc4 := hc.op.c4; dsimp only at dc dc2 dc3 dc4; replace hc := hide hc)
      | (go_at_call 22; refine (tKind hE.out hc.out (untopK S id) hk1).mono ?_; clear hc; rintro e w' ⟨rfl, hc⟩; have dc := hc.op.c1; have dc2 := hc.op.c2; have dc3 := hc.op.c3; have dc4 := hc.op.c4; dsimp only at dc dc2 dc3 dc4; replace hc := hide hc)
      | (go_at_call 40; refine (vUntop hc.out id (by omega)).mono ?_; clear hc; rintro e w' ⟨rfl, hc⟩; have dc := hc.op.c1; have dc2 := hc.op.c2; have dc3 := hc.op.c3; have dc4 := hc.op.c4; dsimp only at dc dc2 dc3 dc4; replace hc := hide hc)
    )
  go_wp2
  go_meet
  exact ⟨rfl, _, hc⟩

set_option maxRecDepth 1000000 in
set_option maxHeartbeats 4000000 in
theorem sw_4 {K : Act → World → Prop} {Q' : Exit → Act → World → Prop} {c0 c1 c2 c5 c7 c8 c9 c10 c11 c12 c13 c14 c15 c16 c17 c18 c19 c20 c21 c22 c23 c24 c25 c26 c27 c28 c29 c30 c31 c32 c33 c34 c36 c37 c38 c39 c40 c41 c42 c43 c44 c45 c46 c47 c48 c49 c50 c51 c52 c53 c54 c55 c56 c57 c58 c59 c60 c61 c62 c63 c64 c65 c66 c67 c68 c69 c70 c71 c72 c73 c74 c75 c76 c77 c78 c79 c80 c81 c82 c83 c84 c85 c86 c87 c88 c89 c90 c91 c92 c93 c94 c95 c96 c97 c98 c99 c100 c101 c102 c103 c104 c105 c106 c107 c108 c109 c110 c111 c112 c113 c114 c115 c116 c117 c118 c119 c120 c121 c122 c123 c124 c125 c126 c127 c128 c129 c130 c131 c132 c133 c134 c135 c136 c137 c138 c139 c140 c141 c142 c143 c144 c145 c146 c147 c148 c149 c150 c151 c152 c153 c154 c155 c156 c157 c158 c159 c160 c161 c162 c163 c164 c165 c166 c167 c168 c169 c170 c171 c172 c173 c174 c175 c176 c177 c178 c179 c180 c181 c182 c183 c184 c185 c186 c187 c188 c189 c190 c191 c192 c193 c194 c195 c196 c197 c198 c199 c200 c201 c202 c203 : Value} {W wB : World} {ae : Nat → Addr} (hE : Hid (Errs W.heap.size W ae)) {p q n j ob : Nat} {kd id sr : Int} {at' bu : Bool} {S : Wins} {y : Int}
    (hT : Trio W p q n j j ob ⟨kd, id, sr, at', bu⟩ S S wB) (g1 : I64 id) (hn : n ≤ j) (hj80 : j < 80) (hy : y = 4)
    (hK : ∀ a' w', SwR W p q n j ob ⟨kd, id, sr, at', bu⟩ y c0 c1 c2 c5 c7 c8 c9 c10 c11 c12 c13 c14 c15 c16 c17 c18 c19 c20 c21 c22 c23 c24 c25 c26 c27 c28 c29 c30 c31 c32 c33 c34 c36 c37 c38 c39 c40 c41 c42 c43 c44 c45 c46 c47 c48 c49 c50 c51 c52 c53 c54 c55 c56 c57 c58 c59 c60 c61 c62 c63 c64 c65 c66 c67 c68 c69 c70 c71 c72 c73 c74 c75 c76 c77 c78 c79 c80 c81 c82 c83 c84 c85 c86 c87 c88 c89 c90 c91 c92 c93 c94 c95 c96 c97 c98 c99 c100 c101 c102 c103 c104 c105 c106 c107 c108 c109 c110 c111 c112 c113 c114 c115 c116 c117 c118 c119 c120 c121 c122 c123 c124 c125 c126 c127 c128 c129 c130 c131 c132 c133 c134 c135 c136 c137 c138 c139 c140 c141 c142 c143 c144 c145 c146 c147 c148 c149 c150 c151 c152 c153 c154 c155 c156 c157 c158 c159 c160 c161 c162 c163 c164 c165 c166 c167 c168 c169 c170 c171 c172 c173 c174 c175 c176 c177 c178 c179 c180 c181 c182 c183 c184 c185 c186 c187 c188 c189 c190 c191 c192 c193 c194 c195 c196 c197 c198 c199 c200 c201 c202 c203 a' w' → K a' w') : Code.wp Tryd.prog sw18 (Exit.then K Q') ⟨#[c0, c1, c2, .pointer (some ⟨p, 0, none⟩), .pointer (some ⟨q, 0, none⟩), c5, .pointer (some ⟨ob, 0, none⟩), c7, c8, c9, c10, c11, c12, c13, c14, c15, c16, c17, c18, c19, c20, c21, c22, c23, c24, c25, c26, c27, c28, c29, c30, c31, c32, c33, c34, .int .i64 y, c36, c37, c38, c39, c40, c41, c42, c43, c44, c45, c46, c47, c48, c49, c50, c51, c52, c53, c54, c55, c56, c57, c58, c59, c60, c61, c62, c63, c64, c65, c66, c67, c68, c69, c70, c71, c72, c73, c74, c75, c76, c77, c78, c79, c80, c81, c82, c83, c84, c85, c86, c87, c88, c89, c90, c91, c92, c93, c94, c95, c96, c97, c98, c99, c100, c101, c102, c103, c104, c105, c106, c107, c108, c109, c110, c111, c112, c113, c114, c115, c116, c117, c118, c119, c120, c121, c122, c123, c124, c125, c126, c127, c128, c129, c130, c131, c132, c133, c134, c135, c136, c137, c138, c139, c140, c141, c142, c143, c144, c145, c146, c147, c148, c149, c150, c151, c152, c153, c154, c155, c156, c157, c158, c159, c160, c161, c162, c163, c164, c165, c166, c167, c168, c169, c170, c171, c172, c173, c174, c175, c176, c177, c178, c179, c180, c181, c182, c183, c184, c185, c186, c187, c188, c189, c190, c191, c192, c193, c194, c195, c196, c197, c198, c199, c200, c201, c202, c203], []⟩ wB := by
  have d0 := hT.op.c0
  have d1 := hT.op.c1
  have d2 := hT.op.c2
  have d3 := hT.op.c3
  have d4 := hT.op.c4
  dsimp only at d0 d1 d2 d3 d4
  have hc := hide hT.drew
  replace hT := hide hT
  conv => arg 2; whnf
  refine wp_cut (SwR W p q n j ob ⟨kd, id, sr, at', bu⟩ y c0 c1 c2 c5 c7 c8 c9 c10 c11 c12 c13 c14 c15 c16 c17 c18 c19 c20 c21 c22 c23 c24 c25 c26 c27 c28 c29 c30 c31 c32 c33 c34 c36 c37 c38 c39 c40 c41 c42 c43 c44 c45 c46 c47 c48 c49 c50 c51 c52 c53 c54 c55 c56 c57 c58 c59 c60 c61 c62 c63 c64 c65 c66 c67 c68 c69 c70 c71 c72 c73 c74 c75 c76 c77 c78 c79 c80 c81 c82 c83 c84 c85 c86 c87 c88 c89 c90 c91 c92 c93 c94 c95 c96 c97 c98 c99 c100 c101 c102 c103 c104 c105 c106 c107 c108 c109 c110 c111 c112 c113 c114 c115 c116 c117 c118 c119 c120 c121 c122 c123 c124 c125 c126 c127 c128 c129 c130 c131 c132 c133 c134 c135 c136 c137 c138 c139 c140 c141 c142 c143 c144 c145 c146 c147 c148 c149 c150 c151 c152 c153 c154 c155 c156 c157 c158 c159 c160 c161 c162 c163 c164 c165 c166 c167 c168 c169 c170 c171 c172 c173 c174 c175 c176 c177 c178 c179 c180 c181 c182 c183 c184 c185 c186 c187 c188 c189 c190 c191 c192 c193 c194 c195 c196 c197 c198 c199 c200 c201 c202 c203) hK ?_
  intro J K2 hJ hM
  unfold SwR at hJ
  subst hy
  have hk1 := sendK_le S id
  go_wp2_with fail
  go_region_held3 (fun w' => w'.cell? ⟨ob, 1, none⟩ = some (.int .i64 id) ∧ w'.cell? ⟨ob, 2, none⟩ = some (.int .i64 sr)) (go_keep)
    (first
      | (go_at_call 27; refine (uSend hE.out hc.out id sr g1 (by omega)).mono ?_; clear hc; rintro e w' ⟨rfl, hc⟩; have dc := hc.op.c1; have dc2 := hc.op.c2; have dc3 := hc.op.c3; have dc4 := hc.op.c4; dsimp only at dc dc2 dc3 dc4; replace hc := hide hc)
      | (go_at_call 22; refine (tKind hE.out hc.out (sendK S id) hk1).mono ?_; clear hc; rintro e w' ⟨rfl, hc⟩; have dc := hc.op.c1; have dc2 := hc.op.c2; have dc3 := hc.op.c3; have dc4 := hc.op.c4; dsimp only at dc dc2 dc3 dc4; replace hc := hide hc)
      | (go_at_call 41; refine (vSend hc.out id sr (by omega)).mono ?_; clear hc; rintro e w' ⟨rfl, hc⟩; have dc := hc.op.c1; have dc2 := hc.op.c2; have dc3 := hc.op.c3; have dc4 := hc.op.c4; dsimp only at dc dc2 dc3 dc4; replace hc := hide hc)
    )
  go_wp2
  go_meet
  exact ⟨rfl, _, hc⟩

set_option maxRecDepth 1000000 in
set_option maxHeartbeats 4000000 in
theorem sw_5 {K : Act → World → Prop} {Q' : Exit → Act → World → Prop} {c0 c1 c2 c5 c7 c8 c9 c10 c11 c12 c13 c14 c15 c16 c17 c18 c19 c20 c21 c22 c23 c24 c25 c26 c27 c28 c29 c30 c31 c32 c33 c34 c36 c37 c38 c39 c40 c41 c42 c43 c44 c45 c46 c47 c48 c49 c50 c51 c52 c53 c54 c55 c56 c57 c58 c59 c60 c61 c62 c63 c64 c65 c66 c67 c68 c69 c70 c71 c72 c73 c74 c75 c76 c77 c78 c79 c80 c81 c82 c83 c84 c85 c86 c87 c88 c89 c90 c91 c92 c93 c94 c95 c96 c97 c98 c99 c100 c101 c102 c103 c104 c105 c106 c107 c108 c109 c110 c111 c112 c113 c114 c115 c116 c117 c118 c119 c120 c121 c122 c123 c124 c125 c126 c127 c128 c129 c130 c131 c132 c133 c134 c135 c136 c137 c138 c139 c140 c141 c142 c143 c144 c145 c146 c147 c148 c149 c150 c151 c152 c153 c154 c155 c156 c157 c158 c159 c160 c161 c162 c163 c164 c165 c166 c167 c168 c169 c170 c171 c172 c173 c174 c175 c176 c177 c178 c179 c180 c181 c182 c183 c184 c185 c186 c187 c188 c189 c190 c191 c192 c193 c194 c195 c196 c197 c198 c199 c200 c201 c202 c203 : Value} {W wB : World} {ae : Nat → Addr} (hE : Hid (Errs W.heap.size W ae)) {p q n j ob : Nat} {kd id sr : Int} {at' bu : Bool} {S : Wins} {y : Int}
    (hT : Trio W p q n j j ob ⟨kd, id, sr, at', bu⟩ S S wB) (g1 : I64 id) (hn : n ≤ j) (hj80 : j < 80) (hy : y = 5)
    (hK : ∀ a' w', SwR W p q n j ob ⟨kd, id, sr, at', bu⟩ y c0 c1 c2 c5 c7 c8 c9 c10 c11 c12 c13 c14 c15 c16 c17 c18 c19 c20 c21 c22 c23 c24 c25 c26 c27 c28 c29 c30 c31 c32 c33 c34 c36 c37 c38 c39 c40 c41 c42 c43 c44 c45 c46 c47 c48 c49 c50 c51 c52 c53 c54 c55 c56 c57 c58 c59 c60 c61 c62 c63 c64 c65 c66 c67 c68 c69 c70 c71 c72 c73 c74 c75 c76 c77 c78 c79 c80 c81 c82 c83 c84 c85 c86 c87 c88 c89 c90 c91 c92 c93 c94 c95 c96 c97 c98 c99 c100 c101 c102 c103 c104 c105 c106 c107 c108 c109 c110 c111 c112 c113 c114 c115 c116 c117 c118 c119 c120 c121 c122 c123 c124 c125 c126 c127 c128 c129 c130 c131 c132 c133 c134 c135 c136 c137 c138 c139 c140 c141 c142 c143 c144 c145 c146 c147 c148 c149 c150 c151 c152 c153 c154 c155 c156 c157 c158 c159 c160 c161 c162 c163 c164 c165 c166 c167 c168 c169 c170 c171 c172 c173 c174 c175 c176 c177 c178 c179 c180 c181 c182 c183 c184 c185 c186 c187 c188 c189 c190 c191 c192 c193 c194 c195 c196 c197 c198 c199 c200 c201 c202 c203 a' w' → K a' w') : Code.wp Tryd.prog sw18 (Exit.then K Q') ⟨#[c0, c1, c2, .pointer (some ⟨p, 0, none⟩), .pointer (some ⟨q, 0, none⟩), c5, .pointer (some ⟨ob, 0, none⟩), c7, c8, c9, c10, c11, c12, c13, c14, c15, c16, c17, c18, c19, c20, c21, c22, c23, c24, c25, c26, c27, c28, c29, c30, c31, c32, c33, c34, .int .i64 y, c36, c37, c38, c39, c40, c41, c42, c43, c44, c45, c46, c47, c48, c49, c50, c51, c52, c53, c54, c55, c56, c57, c58, c59, c60, c61, c62, c63, c64, c65, c66, c67, c68, c69, c70, c71, c72, c73, c74, c75, c76, c77, c78, c79, c80, c81, c82, c83, c84, c85, c86, c87, c88, c89, c90, c91, c92, c93, c94, c95, c96, c97, c98, c99, c100, c101, c102, c103, c104, c105, c106, c107, c108, c109, c110, c111, c112, c113, c114, c115, c116, c117, c118, c119, c120, c121, c122, c123, c124, c125, c126, c127, c128, c129, c130, c131, c132, c133, c134, c135, c136, c137, c138, c139, c140, c141, c142, c143, c144, c145, c146, c147, c148, c149, c150, c151, c152, c153, c154, c155, c156, c157, c158, c159, c160, c161, c162, c163, c164, c165, c166, c167, c168, c169, c170, c171, c172, c173, c174, c175, c176, c177, c178, c179, c180, c181, c182, c183, c184, c185, c186, c187, c188, c189, c190, c191, c192, c193, c194, c195, c196, c197, c198, c199, c200, c201, c202, c203], []⟩ wB := by
  have d0 := hT.op.c0
  have d1 := hT.op.c1
  have d2 := hT.op.c2
  have d3 := hT.op.c3
  have d4 := hT.op.c4
  dsimp only at d0 d1 d2 d3 d4
  have hc := hide hT.drew
  replace hT := hide hT
  conv => arg 2; whnf
  refine wp_cut (SwR W p q n j ob ⟨kd, id, sr, at', bu⟩ y c0 c1 c2 c5 c7 c8 c9 c10 c11 c12 c13 c14 c15 c16 c17 c18 c19 c20 c21 c22 c23 c24 c25 c26 c27 c28 c29 c30 c31 c32 c33 c34 c36 c37 c38 c39 c40 c41 c42 c43 c44 c45 c46 c47 c48 c49 c50 c51 c52 c53 c54 c55 c56 c57 c58 c59 c60 c61 c62 c63 c64 c65 c66 c67 c68 c69 c70 c71 c72 c73 c74 c75 c76 c77 c78 c79 c80 c81 c82 c83 c84 c85 c86 c87 c88 c89 c90 c91 c92 c93 c94 c95 c96 c97 c98 c99 c100 c101 c102 c103 c104 c105 c106 c107 c108 c109 c110 c111 c112 c113 c114 c115 c116 c117 c118 c119 c120 c121 c122 c123 c124 c125 c126 c127 c128 c129 c130 c131 c132 c133 c134 c135 c136 c137 c138 c139 c140 c141 c142 c143 c144 c145 c146 c147 c148 c149 c150 c151 c152 c153 c154 c155 c156 c157 c158 c159 c160 c161 c162 c163 c164 c165 c166 c167 c168 c169 c170 c171 c172 c173 c174 c175 c176 c177 c178 c179 c180 c181 c182 c183 c184 c185 c186 c187 c188 c189 c190 c191 c192 c193 c194 c195 c196 c197 c198 c199 c200 c201 c202 c203) hK ?_
  intro J K2 hJ hM
  unfold SwR at hJ
  subst hy
  have hk1 := sendK_le S id
  go_wp2_with fail
  go_region_held3 (fun w' => w'.cell? ⟨ob, 1, none⟩ = some (.int .i64 id) ∧ w'.cell? ⟨ob, 2, none⟩ = some (.int .i64 sr)) (go_keep)
    (first
      | (go_at_call 27; refine (uSend hE.out hc.out id sr g1 (by omega)).mono ?_; clear hc; rintro e w' ⟨rfl, hc⟩; have dc := hc.op.c1; have dc2 := hc.op.c2; have dc3 := hc.op.c3; have dc4 := hc.op.c4; dsimp only at dc dc2 dc3 dc4; replace hc := hide hc)
      | (go_at_call 22; refine (tKind hE.out hc.out (sendK S id) hk1).mono ?_; clear hc; rintro e w' ⟨rfl, hc⟩; have dc := hc.op.c1; have dc2 := hc.op.c2; have dc3 := hc.op.c3; have dc4 := hc.op.c4; dsimp only at dc dc2 dc3 dc4; replace hc := hide hc)
      | (go_at_call 41; refine (vSend hc.out id sr (by omega)).mono ?_; clear hc; rintro e w' ⟨rfl, hc⟩; have dc := hc.op.c1; have dc2 := hc.op.c2; have dc3 := hc.op.c3; have dc4 := hc.op.c4; dsimp only at dc dc2 dc3 dc4; replace hc := hide hc)
    )
  go_wp2
  go_meet
  exact ⟨rfl, _, hc⟩

set_option maxRecDepth 1000000 in
set_option maxHeartbeats 4000000 in
theorem sw_6 {K : Act → World → Prop} {Q' : Exit → Act → World → Prop} {c0 c1 c2 c5 c7 c8 c9 c10 c11 c12 c13 c14 c15 c16 c17 c18 c19 c20 c21 c22 c23 c24 c25 c26 c27 c28 c29 c30 c31 c32 c33 c34 c36 c37 c38 c39 c40 c41 c42 c43 c44 c45 c46 c47 c48 c49 c50 c51 c52 c53 c54 c55 c56 c57 c58 c59 c60 c61 c62 c63 c64 c65 c66 c67 c68 c69 c70 c71 c72 c73 c74 c75 c76 c77 c78 c79 c80 c81 c82 c83 c84 c85 c86 c87 c88 c89 c90 c91 c92 c93 c94 c95 c96 c97 c98 c99 c100 c101 c102 c103 c104 c105 c106 c107 c108 c109 c110 c111 c112 c113 c114 c115 c116 c117 c118 c119 c120 c121 c122 c123 c124 c125 c126 c127 c128 c129 c130 c131 c132 c133 c134 c135 c136 c137 c138 c139 c140 c141 c142 c143 c144 c145 c146 c147 c148 c149 c150 c151 c152 c153 c154 c155 c156 c157 c158 c159 c160 c161 c162 c163 c164 c165 c166 c167 c168 c169 c170 c171 c172 c173 c174 c175 c176 c177 c178 c179 c180 c181 c182 c183 c184 c185 c186 c187 c188 c189 c190 c191 c192 c193 c194 c195 c196 c197 c198 c199 c200 c201 c202 c203 : Value} {W wB : World} {ae : Nat → Addr} (hE : Hid (Errs W.heap.size W ae)) {p q n j ob : Nat} {kd id sr : Int} {at' bu : Bool} {S : Wins} {y : Int}
    (hT : Trio W p q n j j ob ⟨kd, id, sr, at', bu⟩ S S wB) (g1 : I64 id) (hn : n ≤ j) (hj80 : j < 80) (hy : y = 6)
    (hK : ∀ a' w', SwR W p q n j ob ⟨kd, id, sr, at', bu⟩ y c0 c1 c2 c5 c7 c8 c9 c10 c11 c12 c13 c14 c15 c16 c17 c18 c19 c20 c21 c22 c23 c24 c25 c26 c27 c28 c29 c30 c31 c32 c33 c34 c36 c37 c38 c39 c40 c41 c42 c43 c44 c45 c46 c47 c48 c49 c50 c51 c52 c53 c54 c55 c56 c57 c58 c59 c60 c61 c62 c63 c64 c65 c66 c67 c68 c69 c70 c71 c72 c73 c74 c75 c76 c77 c78 c79 c80 c81 c82 c83 c84 c85 c86 c87 c88 c89 c90 c91 c92 c93 c94 c95 c96 c97 c98 c99 c100 c101 c102 c103 c104 c105 c106 c107 c108 c109 c110 c111 c112 c113 c114 c115 c116 c117 c118 c119 c120 c121 c122 c123 c124 c125 c126 c127 c128 c129 c130 c131 c132 c133 c134 c135 c136 c137 c138 c139 c140 c141 c142 c143 c144 c145 c146 c147 c148 c149 c150 c151 c152 c153 c154 c155 c156 c157 c158 c159 c160 c161 c162 c163 c164 c165 c166 c167 c168 c169 c170 c171 c172 c173 c174 c175 c176 c177 c178 c179 c180 c181 c182 c183 c184 c185 c186 c187 c188 c189 c190 c191 c192 c193 c194 c195 c196 c197 c198 c199 c200 c201 c202 c203 a' w' → K a' w') : Code.wp Tryd.prog sw18 (Exit.then K Q') ⟨#[c0, c1, c2, .pointer (some ⟨p, 0, none⟩), .pointer (some ⟨q, 0, none⟩), c5, .pointer (some ⟨ob, 0, none⟩), c7, c8, c9, c10, c11, c12, c13, c14, c15, c16, c17, c18, c19, c20, c21, c22, c23, c24, c25, c26, c27, c28, c29, c30, c31, c32, c33, c34, .int .i64 y, c36, c37, c38, c39, c40, c41, c42, c43, c44, c45, c46, c47, c48, c49, c50, c51, c52, c53, c54, c55, c56, c57, c58, c59, c60, c61, c62, c63, c64, c65, c66, c67, c68, c69, c70, c71, c72, c73, c74, c75, c76, c77, c78, c79, c80, c81, c82, c83, c84, c85, c86, c87, c88, c89, c90, c91, c92, c93, c94, c95, c96, c97, c98, c99, c100, c101, c102, c103, c104, c105, c106, c107, c108, c109, c110, c111, c112, c113, c114, c115, c116, c117, c118, c119, c120, c121, c122, c123, c124, c125, c126, c127, c128, c129, c130, c131, c132, c133, c134, c135, c136, c137, c138, c139, c140, c141, c142, c143, c144, c145, c146, c147, c148, c149, c150, c151, c152, c153, c154, c155, c156, c157, c158, c159, c160, c161, c162, c163, c164, c165, c166, c167, c168, c169, c170, c171, c172, c173, c174, c175, c176, c177, c178, c179, c180, c181, c182, c183, c184, c185, c186, c187, c188, c189, c190, c191, c192, c193, c194, c195, c196, c197, c198, c199, c200, c201, c202, c203], []⟩ wB := by
  have d0 := hT.op.c0
  have d1 := hT.op.c1
  have d2 := hT.op.c2
  have d3 := hT.op.c3
  have d4 := hT.op.c4
  dsimp only at d0 d1 d2 d3 d4
  have hc := hide hT.drew
  replace hT := hide hT
  conv => arg 2; whnf
  refine wp_cut (SwR W p q n j ob ⟨kd, id, sr, at', bu⟩ y c0 c1 c2 c5 c7 c8 c9 c10 c11 c12 c13 c14 c15 c16 c17 c18 c19 c20 c21 c22 c23 c24 c25 c26 c27 c28 c29 c30 c31 c32 c33 c34 c36 c37 c38 c39 c40 c41 c42 c43 c44 c45 c46 c47 c48 c49 c50 c51 c52 c53 c54 c55 c56 c57 c58 c59 c60 c61 c62 c63 c64 c65 c66 c67 c68 c69 c70 c71 c72 c73 c74 c75 c76 c77 c78 c79 c80 c81 c82 c83 c84 c85 c86 c87 c88 c89 c90 c91 c92 c93 c94 c95 c96 c97 c98 c99 c100 c101 c102 c103 c104 c105 c106 c107 c108 c109 c110 c111 c112 c113 c114 c115 c116 c117 c118 c119 c120 c121 c122 c123 c124 c125 c126 c127 c128 c129 c130 c131 c132 c133 c134 c135 c136 c137 c138 c139 c140 c141 c142 c143 c144 c145 c146 c147 c148 c149 c150 c151 c152 c153 c154 c155 c156 c157 c158 c159 c160 c161 c162 c163 c164 c165 c166 c167 c168 c169 c170 c171 c172 c173 c174 c175 c176 c177 c178 c179 c180 c181 c182 c183 c184 c185 c186 c187 c188 c189 c190 c191 c192 c193 c194 c195 c196 c197 c198 c199 c200 c201 c202 c203) hK ?_
  intro J K2 hJ hM
  unfold SwR at hJ
  subst hy
  have hk1 := ackK_le S id sr
  go_wp2_with fail
  go_region_held3 (fun w' => w'.cell? ⟨ob, 1, none⟩ = some (.int .i64 id) ∧ w'.cell? ⟨ob, 2, none⟩ = some (.int .i64 sr)) (go_keep)
    (first
      | (go_at_call 28; refine (uAck hE.out hc.out id sr g1 (by omega)).mono ?_; clear hc; rintro e w' ⟨rfl, hc⟩; have dc := hc.op.c1; have dc2 := hc.op.c2; have dc3 := hc.op.c3; have dc4 := hc.op.c4; dsimp only at dc dc2 dc3 dc4; replace hc := hide hc)
      | (go_at_call 22; refine (tKind hE.out hc.out (ackK S id sr) hk1).mono ?_; clear hc; rintro e w' ⟨rfl, hc⟩; have dc := hc.op.c1; have dc2 := hc.op.c2; have dc3 := hc.op.c3; have dc4 := hc.op.c4; dsimp only at dc dc2 dc3 dc4; replace hc := hide hc)
      | (go_at_call 42; refine (vAck hc.out id sr (by omega)).mono ?_; clear hc; rintro e w' ⟨rfl, hc⟩; have dc := hc.op.c1; have dc2 := hc.op.c2; have dc3 := hc.op.c3; have dc4 := hc.op.c4; dsimp only at dc dc2 dc3 dc4; replace hc := hide hc)
    )
  go_wp2
  go_meet
  exact ⟨rfl, _, hc⟩

set_option maxRecDepth 1000000 in
set_option maxHeartbeats 4000000 in
theorem sw_7 {K : Act → World → Prop} {Q' : Exit → Act → World → Prop} {c0 c1 c2 c5 c7 c8 c9 c10 c11 c12 c13 c14 c15 c16 c17 c18 c19 c20 c21 c22 c23 c24 c25 c26 c27 c28 c29 c30 c31 c32 c33 c34 c36 c37 c38 c39 c40 c41 c42 c43 c44 c45 c46 c47 c48 c49 c50 c51 c52 c53 c54 c55 c56 c57 c58 c59 c60 c61 c62 c63 c64 c65 c66 c67 c68 c69 c70 c71 c72 c73 c74 c75 c76 c77 c78 c79 c80 c81 c82 c83 c84 c85 c86 c87 c88 c89 c90 c91 c92 c93 c94 c95 c96 c97 c98 c99 c100 c101 c102 c103 c104 c105 c106 c107 c108 c109 c110 c111 c112 c113 c114 c115 c116 c117 c118 c119 c120 c121 c122 c123 c124 c125 c126 c127 c128 c129 c130 c131 c132 c133 c134 c135 c136 c137 c138 c139 c140 c141 c142 c143 c144 c145 c146 c147 c148 c149 c150 c151 c152 c153 c154 c155 c156 c157 c158 c159 c160 c161 c162 c163 c164 c165 c166 c167 c168 c169 c170 c171 c172 c173 c174 c175 c176 c177 c178 c179 c180 c181 c182 c183 c184 c185 c186 c187 c188 c189 c190 c191 c192 c193 c194 c195 c196 c197 c198 c199 c200 c201 c202 c203 : Value} {W wB : World} {ae : Nat → Addr} (hE : Hid (Errs W.heap.size W ae)) {p q n j ob : Nat} {kd id sr : Int} {at' bu : Bool} {S : Wins} {y : Int}
    (hT : Trio W p q n j j ob ⟨kd, id, sr, at', bu⟩ S S wB) (g1 : I64 id) (hn : n ≤ j) (hj80 : j < 80) (hy : y = 7)
    (hK : ∀ a' w', SwR W p q n j ob ⟨kd, id, sr, at', bu⟩ y c0 c1 c2 c5 c7 c8 c9 c10 c11 c12 c13 c14 c15 c16 c17 c18 c19 c20 c21 c22 c23 c24 c25 c26 c27 c28 c29 c30 c31 c32 c33 c34 c36 c37 c38 c39 c40 c41 c42 c43 c44 c45 c46 c47 c48 c49 c50 c51 c52 c53 c54 c55 c56 c57 c58 c59 c60 c61 c62 c63 c64 c65 c66 c67 c68 c69 c70 c71 c72 c73 c74 c75 c76 c77 c78 c79 c80 c81 c82 c83 c84 c85 c86 c87 c88 c89 c90 c91 c92 c93 c94 c95 c96 c97 c98 c99 c100 c101 c102 c103 c104 c105 c106 c107 c108 c109 c110 c111 c112 c113 c114 c115 c116 c117 c118 c119 c120 c121 c122 c123 c124 c125 c126 c127 c128 c129 c130 c131 c132 c133 c134 c135 c136 c137 c138 c139 c140 c141 c142 c143 c144 c145 c146 c147 c148 c149 c150 c151 c152 c153 c154 c155 c156 c157 c158 c159 c160 c161 c162 c163 c164 c165 c166 c167 c168 c169 c170 c171 c172 c173 c174 c175 c176 c177 c178 c179 c180 c181 c182 c183 c184 c185 c186 c187 c188 c189 c190 c191 c192 c193 c194 c195 c196 c197 c198 c199 c200 c201 c202 c203 a' w' → K a' w') : Code.wp Tryd.prog sw18 (Exit.then K Q') ⟨#[c0, c1, c2, .pointer (some ⟨p, 0, none⟩), .pointer (some ⟨q, 0, none⟩), c5, .pointer (some ⟨ob, 0, none⟩), c7, c8, c9, c10, c11, c12, c13, c14, c15, c16, c17, c18, c19, c20, c21, c22, c23, c24, c25, c26, c27, c28, c29, c30, c31, c32, c33, c34, .int .i64 y, c36, c37, c38, c39, c40, c41, c42, c43, c44, c45, c46, c47, c48, c49, c50, c51, c52, c53, c54, c55, c56, c57, c58, c59, c60, c61, c62, c63, c64, c65, c66, c67, c68, c69, c70, c71, c72, c73, c74, c75, c76, c77, c78, c79, c80, c81, c82, c83, c84, c85, c86, c87, c88, c89, c90, c91, c92, c93, c94, c95, c96, c97, c98, c99, c100, c101, c102, c103, c104, c105, c106, c107, c108, c109, c110, c111, c112, c113, c114, c115, c116, c117, c118, c119, c120, c121, c122, c123, c124, c125, c126, c127, c128, c129, c130, c131, c132, c133, c134, c135, c136, c137, c138, c139, c140, c141, c142, c143, c144, c145, c146, c147, c148, c149, c150, c151, c152, c153, c154, c155, c156, c157, c158, c159, c160, c161, c162, c163, c164, c165, c166, c167, c168, c169, c170, c171, c172, c173, c174, c175, c176, c177, c178, c179, c180, c181, c182, c183, c184, c185, c186, c187, c188, c189, c190, c191, c192, c193, c194, c195, c196, c197, c198, c199, c200, c201, c202, c203], []⟩ wB := by
  have d0 := hT.op.c0
  have d1 := hT.op.c1
  have d2 := hT.op.c2
  have d3 := hT.op.c3
  have d4 := hT.op.c4
  dsimp only at d0 d1 d2 d3 d4
  have hc := hide hT.drew
  replace hT := hide hT
  conv => arg 2; whnf
  refine wp_cut (SwR W p q n j ob ⟨kd, id, sr, at', bu⟩ y c0 c1 c2 c5 c7 c8 c9 c10 c11 c12 c13 c14 c15 c16 c17 c18 c19 c20 c21 c22 c23 c24 c25 c26 c27 c28 c29 c30 c31 c32 c33 c34 c36 c37 c38 c39 c40 c41 c42 c43 c44 c45 c46 c47 c48 c49 c50 c51 c52 c53 c54 c55 c56 c57 c58 c59 c60 c61 c62 c63 c64 c65 c66 c67 c68 c69 c70 c71 c72 c73 c74 c75 c76 c77 c78 c79 c80 c81 c82 c83 c84 c85 c86 c87 c88 c89 c90 c91 c92 c93 c94 c95 c96 c97 c98 c99 c100 c101 c102 c103 c104 c105 c106 c107 c108 c109 c110 c111 c112 c113 c114 c115 c116 c117 c118 c119 c120 c121 c122 c123 c124 c125 c126 c127 c128 c129 c130 c131 c132 c133 c134 c135 c136 c137 c138 c139 c140 c141 c142 c143 c144 c145 c146 c147 c148 c149 c150 c151 c152 c153 c154 c155 c156 c157 c158 c159 c160 c161 c162 c163 c164 c165 c166 c167 c168 c169 c170 c171 c172 c173 c174 c175 c176 c177 c178 c179 c180 c181 c182 c183 c184 c185 c186 c187 c188 c189 c190 c191 c192 c193 c194 c195 c196 c197 c198 c199 c200 c201 c202 c203) hK ?_
  intro J K2 hJ hM
  unfold SwR at hJ
  subst hy
  have hk1 := ackK_le S id sr
  go_wp2_with fail
  go_region_held3 (fun w' => w'.cell? ⟨ob, 1, none⟩ = some (.int .i64 id) ∧ w'.cell? ⟨ob, 2, none⟩ = some (.int .i64 sr)) (go_keep)
    (first
      | (go_at_call 28; refine (uAck hE.out hc.out id sr g1 (by omega)).mono ?_; clear hc; rintro e w' ⟨rfl, hc⟩; have dc := hc.op.c1; have dc2 := hc.op.c2; have dc3 := hc.op.c3; have dc4 := hc.op.c4; dsimp only at dc dc2 dc3 dc4; replace hc := hide hc)
      | (go_at_call 22; refine (tKind hE.out hc.out (ackK S id sr) hk1).mono ?_; clear hc; rintro e w' ⟨rfl, hc⟩; have dc := hc.op.c1; have dc2 := hc.op.c2; have dc3 := hc.op.c3; have dc4 := hc.op.c4; dsimp only at dc dc2 dc3 dc4; replace hc := hide hc)
      | (go_at_call 42; refine (vAck hc.out id sr (by omega)).mono ?_; clear hc; rintro e w' ⟨rfl, hc⟩; have dc := hc.op.c1; have dc2 := hc.op.c2; have dc3 := hc.op.c3; have dc4 := hc.op.c4; dsimp only at dc dc2 dc3 dc4; replace hc := hide hc)
    )
  go_wp2
  go_meet
  exact ⟨rfl, _, hc⟩

set_option maxRecDepth 1000000 in
set_option maxHeartbeats 4000000 in
theorem sw_8 {K : Act → World → Prop} {Q' : Exit → Act → World → Prop} {c0 c1 c2 c5 c7 c8 c9 c10 c11 c12 c13 c14 c15 c16 c17 c18 c19 c20 c21 c22 c23 c24 c25 c26 c27 c28 c29 c30 c31 c32 c33 c34 c36 c37 c38 c39 c40 c41 c42 c43 c44 c45 c46 c47 c48 c49 c50 c51 c52 c53 c54 c55 c56 c57 c58 c59 c60 c61 c62 c63 c64 c65 c66 c67 c68 c69 c70 c71 c72 c73 c74 c75 c76 c77 c78 c79 c80 c81 c82 c83 c84 c85 c86 c87 c88 c89 c90 c91 c92 c93 c94 c95 c96 c97 c98 c99 c100 c101 c102 c103 c104 c105 c106 c107 c108 c109 c110 c111 c112 c113 c114 c115 c116 c117 c118 c119 c120 c121 c122 c123 c124 c125 c126 c127 c128 c129 c130 c131 c132 c133 c134 c135 c136 c137 c138 c139 c140 c141 c142 c143 c144 c145 c146 c147 c148 c149 c150 c151 c152 c153 c154 c155 c156 c157 c158 c159 c160 c161 c162 c163 c164 c165 c166 c167 c168 c169 c170 c171 c172 c173 c174 c175 c176 c177 c178 c179 c180 c181 c182 c183 c184 c185 c186 c187 c188 c189 c190 c191 c192 c193 c194 c195 c196 c197 c198 c199 c200 c201 c202 c203 : Value} {W wB : World} {ae : Nat → Addr} (hE : Hid (Errs W.heap.size W ae)) {p q n j ob : Nat} {kd id sr : Int} {at' bu : Bool} {S : Wins} {y : Int}
    (hT : Trio W p q n j j ob ⟨kd, id, sr, at', bu⟩ S S wB) (g1 : I64 id) (hn : n ≤ j) (hj80 : j < 80) (h8 : 8 ≤ y)
    (hK : ∀ a' w', SwR W p q n j ob ⟨kd, id, sr, at', bu⟩ y c0 c1 c2 c5 c7 c8 c9 c10 c11 c12 c13 c14 c15 c16 c17 c18 c19 c20 c21 c22 c23 c24 c25 c26 c27 c28 c29 c30 c31 c32 c33 c34 c36 c37 c38 c39 c40 c41 c42 c43 c44 c45 c46 c47 c48 c49 c50 c51 c52 c53 c54 c55 c56 c57 c58 c59 c60 c61 c62 c63 c64 c65 c66 c67 c68 c69 c70 c71 c72 c73 c74 c75 c76 c77 c78 c79 c80 c81 c82 c83 c84 c85 c86 c87 c88 c89 c90 c91 c92 c93 c94 c95 c96 c97 c98 c99 c100 c101 c102 c103 c104 c105 c106 c107 c108 c109 c110 c111 c112 c113 c114 c115 c116 c117 c118 c119 c120 c121 c122 c123 c124 c125 c126 c127 c128 c129 c130 c131 c132 c133 c134 c135 c136 c137 c138 c139 c140 c141 c142 c143 c144 c145 c146 c147 c148 c149 c150 c151 c152 c153 c154 c155 c156 c157 c158 c159 c160 c161 c162 c163 c164 c165 c166 c167 c168 c169 c170 c171 c172 c173 c174 c175 c176 c177 c178 c179 c180 c181 c182 c183 c184 c185 c186 c187 c188 c189 c190 c191 c192 c193 c194 c195 c196 c197 c198 c199 c200 c201 c202 c203 a' w' → K a' w') : Code.wp Tryd.prog sw18 (Exit.then K Q') ⟨#[c0, c1, c2, .pointer (some ⟨p, 0, none⟩), .pointer (some ⟨q, 0, none⟩), c5, .pointer (some ⟨ob, 0, none⟩), c7, c8, c9, c10, c11, c12, c13, c14, c15, c16, c17, c18, c19, c20, c21, c22, c23, c24, c25, c26, c27, c28, c29, c30, c31, c32, c33, c34, .int .i64 y, c36, c37, c38, c39, c40, c41, c42, c43, c44, c45, c46, c47, c48, c49, c50, c51, c52, c53, c54, c55, c56, c57, c58, c59, c60, c61, c62, c63, c64, c65, c66, c67, c68, c69, c70, c71, c72, c73, c74, c75, c76, c77, c78, c79, c80, c81, c82, c83, c84, c85, c86, c87, c88, c89, c90, c91, c92, c93, c94, c95, c96, c97, c98, c99, c100, c101, c102, c103, c104, c105, c106, c107, c108, c109, c110, c111, c112, c113, c114, c115, c116, c117, c118, c119, c120, c121, c122, c123, c124, c125, c126, c127, c128, c129, c130, c131, c132, c133, c134, c135, c136, c137, c138, c139, c140, c141, c142, c143, c144, c145, c146, c147, c148, c149, c150, c151, c152, c153, c154, c155, c156, c157, c158, c159, c160, c161, c162, c163, c164, c165, c166, c167, c168, c169, c170, c171, c172, c173, c174, c175, c176, c177, c178, c179, c180, c181, c182, c183, c184, c185, c186, c187, c188, c189, c190, c191, c192, c193, c194, c195, c196, c197, c198, c199, c200, c201, c202, c203], []⟩ wB := by
  have d0 := hT.op.c0
  have d1 := hT.op.c1
  have d2 := hT.op.c2
  have d3 := hT.op.c3
  have d4 := hT.op.c4
  dsimp only at d0 d1 d2 d3 d4
  have hc := hide hT.drew
  replace hT := hide hT
  conv => arg 2; whnf
  refine wp_cut (SwR W p q n j ob ⟨kd, id, sr, at', bu⟩ y c0 c1 c2 c5 c7 c8 c9 c10 c11 c12 c13 c14 c15 c16 c17 c18 c19 c20 c21 c22 c23 c24 c25 c26 c27 c28 c29 c30 c31 c32 c33 c34 c36 c37 c38 c39 c40 c41 c42 c43 c44 c45 c46 c47 c48 c49 c50 c51 c52 c53 c54 c55 c56 c57 c58 c59 c60 c61 c62 c63 c64 c65 c66 c67 c68 c69 c70 c71 c72 c73 c74 c75 c76 c77 c78 c79 c80 c81 c82 c83 c84 c85 c86 c87 c88 c89 c90 c91 c92 c93 c94 c95 c96 c97 c98 c99 c100 c101 c102 c103 c104 c105 c106 c107 c108 c109 c110 c111 c112 c113 c114 c115 c116 c117 c118 c119 c120 c121 c122 c123 c124 c125 c126 c127 c128 c129 c130 c131 c132 c133 c134 c135 c136 c137 c138 c139 c140 c141 c142 c143 c144 c145 c146 c147 c148 c149 c150 c151 c152 c153 c154 c155 c156 c157 c158 c159 c160 c161 c162 c163 c164 c165 c166 c167 c168 c169 c170 c171 c172 c173 c174 c175 c176 c177 c178 c179 c180 c181 c182 c183 c184 c185 c186 c187 c188 c189 c190 c191 c192 c193 c194 c195 c196 c197 c198 c199 c200 c201 c202 c203) hK ?_
  intro J K2 hJ hM
  unfold SwR at hJ
  have hk1 := comK_le S id bu
  have hc := hT
  have y0 : (y == 0) = false := by simp; omega
  have y1 : (y == 1) = false := by simp; omega
  have y2 : (y == 2) = false := by simp; omega
  have y3 : (y == 3) = false := by simp; omega
  have y4 : (y == 4) = false := by simp; omega
  have y5 : (y == 5) = false := by simp; omega
  have y6 : (y == 6) = false := by simp; omega
  have y7 : (y == 7) = false := by simp; omega
  go_wp2_with (first
      | (go_at_call 31; refine (uCommit hE.out hc.out id at' bu g1).mono ?_; clear hc; rintro e w' ⟨rfl, hc⟩; have dc := hc.op.c1; have dc2 := hc.op.c2; have dc3 := hc.op.c3; have dc4 := hc.op.c4; dsimp only at dc dc2 dc3 dc4; replace hc := hide hc)
      | (go_at_call 22; refine (tKind hE.out hc.out (comK S id bu) hk1).mono ?_; clear hc; rintro e w' ⟨rfl, hc⟩; have dc := hc.op.c1; have dc2 := hc.op.c2; have dc3 := hc.op.c3; have dc4 := hc.op.c4; dsimp only at dc dc2 dc3 dc4; replace hc := hide hc)
      | (go_at_call 43; refine (vCommit hc.out id bu (by omega)).mono ?_; clear hc; rintro e w' ⟨rfl, hc⟩; have dc := hc.op.c1; have dc2 := hc.op.c2; have dc3 := hc.op.c3; have dc4 := hc.op.c4; dsimp only at dc dc2 dc3 dc4; replace hc := hide hc)
    )
  go_meet
  exact ⟨rfl, _, hc⟩
end Go.Proofs.YtfekldcpjoiipaaDoor
