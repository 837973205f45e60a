/-
  The law ShellPlays, as a walk: the loop.
-/
import Derived.Test.YtfekldcpjoiipaaDoorLaw18g
import Derived.BigQuiet
import Derived.Deep.QuietTactic
namespace Go.Proofs.YtfekldcpjoiipaaDoor
open Go.RowKit
set_option linter.unusedVariables false

set_option maxRecDepth 1000000 in
theorem sw_any {K : Act → World → Prop} {Q' : Exit → Act → World → Prop} {c0 c1 c2 c5 c7 c8 c9 c10 c11 c12 c13 c14 c15 c16 c17 c18 c19 c20 c21 c22 c23 c24 c25 c26 c27 c28 c29 c30 c31 c32 c33 c34 c36 c37 c38 c39 c40 c41 c42 c43 c44 c45 c46 c47 c48 c49 c50 c51 c52 c53 c54 c55 c56 c57 c58 c59 c60 c61 c62 c63 c64 c65 c66 c67 c68 c69 c70 c71 c72 c73 c74 c75 c76 c77 c78 c79 c80 c81 c82 c83 c84 c85 c86 c87 c88 c89 c90 c91 c92 c93 c94 c95 c96 c97 c98 c99 c100 c101 c102 c103 c104 c105 c106 c107 c108 c109 c110 c111 c112 c113 c114 c115 c116 c117 c118 c119 c120 c121 c122 c123 c124 c125 c126 c127 c128 c129 c130 c131 c132 c133 c134 c135 c136 c137 c138 c139 c140 c141 c142 c143 c144 c145 c146 c147 c148 c149 c150 c151 c152 c153 c154 c155 c156 c157 c158 c159 c160 c161 c162 c163 c164 c165 c166 c167 c168 c169 c170 c171 c172 c173 c174 c175 c176 c177 c178 c179 c180 c181 c182 c183 c184 c185 c186 c187 c188 c189 c190 c191 c192 c193 c194 c195 c196 c197 c198 c199 c200 c201 c202 c203 : Value} {W wB : World} {ae : Nat → Addr} (hE : Hid (Errs W.heap.size W ae)) {p q n j ob : Nat} {kd id sr : Int} {at' bu : Bool} {S : Wins} {y : Int}
    (hT : Trio W p q n j j ob ⟨kd, id, sr, at', bu⟩ S S wB) (g1 : I64 id) (hn : n ≤ j) (hj80 : j < 80) (p1 : 0 ≤ y) (p2 : y < 12)
    (hK : ∀ a' w', SwR W p q n j ob ⟨kd, id, sr, at', bu⟩ y c0 c1 c2 c5 c7 c8 c9 c10 c11 c12 c13 c14 c15 c16 c17 c18 c19 c20 c21 c22 c23 c24 c25 c26 c27 c28 c29 c30 c31 c32 c33 c34 c36 c37 c38 c39 c40 c41 c42 c43 c44 c45 c46 c47 c48 c49 c50 c51 c52 c53 c54 c55 c56 c57 c58 c59 c60 c61 c62 c63 c64 c65 c66 c67 c68 c69 c70 c71 c72 c73 c74 c75 c76 c77 c78 c79 c80 c81 c82 c83 c84 c85 c86 c87 c88 c89 c90 c91 c92 c93 c94 c95 c96 c97 c98 c99 c100 c101 c102 c103 c104 c105 c106 c107 c108 c109 c110 c111 c112 c113 c114 c115 c116 c117 c118 c119 c120 c121 c122 c123 c124 c125 c126 c127 c128 c129 c130 c131 c132 c133 c134 c135 c136 c137 c138 c139 c140 c141 c142 c143 c144 c145 c146 c147 c148 c149 c150 c151 c152 c153 c154 c155 c156 c157 c158 c159 c160 c161 c162 c163 c164 c165 c166 c167 c168 c169 c170 c171 c172 c173 c174 c175 c176 c177 c178 c179 c180 c181 c182 c183 c184 c185 c186 c187 c188 c189 c190 c191 c192 c193 c194 c195 c196 c197 c198 c199 c200 c201 c202 c203 a' w' → K a' w') : Code.wp Tryd.prog sw18 (Exit.then K Q') ⟨#[c0, c1, c2, .pointer (some ⟨p, 0, none⟩), .pointer (some ⟨q, 0, none⟩), c5, .pointer (some ⟨ob, 0, none⟩), c7, c8, c9, c10, c11, c12, c13, c14, c15, c16, c17, c18, c19, c20, c21, c22, c23, c24, c25, c26, c27, c28, c29, c30, c31, c32, c33, c34, .int .i64 y, c36, c37, c38, c39, c40, c41, c42, c43, c44, c45, c46, c47, c48, c49, c50, c51, c52, c53, c54, c55, c56, c57, c58, c59, c60, c61, c62, c63, c64, c65, c66, c67, c68, c69, c70, c71, c72, c73, c74, c75, c76, c77, c78, c79, c80, c81, c82, c83, c84, c85, c86, c87, c88, c89, c90, c91, c92, c93, c94, c95, c96, c97, c98, c99, c100, c101, c102, c103, c104, c105, c106, c107, c108, c109, c110, c111, c112, c113, c114, c115, c116, c117, c118, c119, c120, c121, c122, c123, c124, c125, c126, c127, c128, c129, c130, c131, c132, c133, c134, c135, c136, c137, c138, c139, c140, c141, c142, c143, c144, c145, c146, c147, c148, c149, c150, c151, c152, c153, c154, c155, c156, c157, c158, c159, c160, c161, c162, c163, c164, c165, c166, c167, c168, c169, c170, c171, c172, c173, c174, c175, c176, c177, c178, c179, c180, c181, c182, c183, c184, c185, c186, c187, c188, c189, c190, c191, c192, c193, c194, c195, c196, c197, c198, c199, c200, c201, c202, c203], []⟩ wB := by
  rcases (show y = 0 ∨ y = 1 ∨ y = 2 ∨ y = 3 ∨ y = 4 ∨ y = 5 ∨ y = 6 ∨ y = 7 ∨ 8 ≤ y by omega) with h | h | h | h | h | h | h | h | h
  · exact sw_0 hE hT g1 hn hj80 h hK
  · exact sw_1 hE hT g1 hn hj80 h hK
  · exact sw_2 hE hT g1 hn hj80 h hK
  · exact sw_3 hE hT g1 hn hj80 h hK
  · exact sw_4 hE hT g1 hn hj80 h hK
  · exact sw_5 hE hT g1 hn hj80 h hK
  · exact sw_6 hE hT g1 hn hj80 h hK
  · exact sw_7 hE hT g1 hn hj80 h hK
  · exact sw_8 hE hT g1 hn hj80 h hK

set_option maxRecDepth 1000000 in
theorem SwR.elim {W : World} {p q n j ob : Nat} {x : Op18} {y : Int} {c0 c1 c2 c5 c7 c8 c9 c10 c11 c12 c13 c14 c15 c16 c17 c18 c19 c20 c21 c22 c23 c24 c25 c26 c27 c28 c29 c30 c31 c32 c33 c34 c36 c37 c38 c39 c40 c41 c42 c43 c44 c45 c46 c47 c48 c49 c50 c51 c52 c53 c54 c55 c56 c57 c58 c59 c60 c61 c62 c63 c64 c65 c66 c67 c68 c69 c70 c71 c72 c73 c74 c75 c76 c77 c78 c79 c80 c81 c82 c83 c84 c85 c86 c87 c88 c89 c90 c91 c92 c93 c94 c95 c96 c97 c98 c99 c100 c101 c102 c103 c104 c105 c106 c107 c108 c109 c110 c111 c112 c113 c114 c115 c116 c117 c118 c119 c120 c121 c122 c123 c124 c125 c126 c127 c128 c129 c130 c131 c132 c133 c134 c135 c136 c137 c138 c139 c140 c141 c142 c143 c144 c145 c146 c147 c148 c149 c150 c151 c152 c153 c154 c155 c156 c157 c158 c159 c160 c161 c162 c163 c164 c165 c166 c167 c168 c169 c170 c171 c172 c173 c174 c175 c176 c177 c178 c179 c180 c181 c182 c183 c184 c185 c186 c187 c188 c189 c190 c191 c192 c193 c194 c195 c196 c197 c198 c199 c200 c201 c202 c203 : Value} {a' : Act} {w' : World} {M : Prop} (h : SwR W p q n j ob x y c0 c1 c2 c5 c7 c8 c9 c10 c11 c12 c13 c14 c15 c16 c17 c18 c19 c20 c21 c22 c23 c24 c25 c26 c27 c28 c29 c30 c31 c32 c33 c34 c36 c37 c38 c39 c40 c41 c42 c43 c44 c45 c46 c47 c48 c49 c50 c51 c52 c53 c54 c55 c56 c57 c58 c59 c60 c61 c62 c63 c64 c65 c66 c67 c68 c69 c70 c71 c72 c73 c74 c75 c76 c77 c78 c79 c80 c81 c82 c83 c84 c85 c86 c87 c88 c89 c90 c91 c92 c93 c94 c95 c96 c97 c98 c99 c100 c101 c102 c103 c104 c105 c106 c107 c108 c109 c110 c111 c112 c113 c114 c115 c116 c117 c118 c119 c120 c121 c122 c123 c124 c125 c126 c127 c128 c129 c130 c131 c132 c133 c134 c135 c136 c137 c138 c139 c140 c141 c142 c143 c144 c145 c146 c147 c148 c149 c150 c151 c152 c153 c154 c155 c156 c157 c158 c159 c160 c161 c162 c163 c164 c165 c166 c167 c168 c169 c170 c171 c172 c173 c174 c175 c176 c177 c178 c179 c180 c181 c182 c183 c184 c185 c186 c187 c188 c189 c190 c191 c192 c193 c194 c195 c196 c197 c198 c199 c200 c201 c202 c203 a' w')
    (k : ∀ u7 u8 u9 u10 u11 u36 u37 u38 u39 u40 u41 u42 u43 u44 u45 u46 u47 u48 u49 u50 u51 u52 u53 u54 u55 u56 u57 u58 u59 u60 u61 u62 u63 u64 u65 u66 u67 u68 u69 u70 u71 u72 u73 u74 u75 u76 u77 u78 u79 u80 u81 u82 u83 u84 u85 u86 u87 u88 u89 u90 u91 u92 u93 u94 u95 u96 u97 u98 u99 u100 u101 u102 u103 u104 u105 u106 u107 u108 u109 u110 u111 u112 u113 u114 u115 u116 u117 u118 u119 u120 u121 u122 u123 u124 u125 u126 u127 u128 u129 u130 u131 u132 u133 u134 u135 u136 u137 u138 u139 u140 u141 u142 u143 u144 u145 u146 u147 u148 u149 u150 : Value, u7 = .bool true → (∃ S', Hid (Trio W p q (n + 1) (j + 1) (j + 1) ob x S' S' w')) → a' = ⟨#[c0, c1, c2, .pointer (some ⟨p, 0, none⟩), .pointer (some ⟨q, 0, none⟩), c5, .pointer (some ⟨ob, 0, none⟩), u7, u8, u9, u10, u11, c12, c13, c14, c15, c16, c17, c18, c19, c20, c21, c22, c23, c24, c25, c26, c27, c28, c29, c30, c31, c32, c33, c34, .int .i64 y, u36, u37, u38, u39, u40, u41, u42, u43, u44, u45, u46, u47, u48, u49, u50, u51, u52, u53, u54, u55, u56, u57, u58, u59, u60, u61, u62, u63, u64, u65, u66, u67, u68, u69, u70, u71, u72, u73, u74, u75, u76, u77, u78, u79, u80, u81, u82, u83, u84, u85, u86, u87, u88, u89, u90, u91, u92, u93, u94, u95, u96, u97, u98, u99, u100, u101, u102, u103, u104, u105, u106, u107, u108, u109, u110, u111, u112, u113, u114, u115, u116, u117, u118, u119, u120, u121, u122, u123, u124, u125, u126, u127, u128, u129, u130, u131, u132, u133, u134, u135, u136, u137, u138, u139, u140, u141, u142, u143, u144, u145, u146, u147, u148, u149, u150, c151, c152, c153, c154, c155, c156, c157, c158, c159, c160, c161, c162, c163, c164, c165, c166, c167, c168, c169, c170, c171, c172, c173, c174, c175, c176, c177, c178, c179, c180, c181, c182, c183, c184, c185, c186, c187, c188, c189, c190, c191, c192, c193, c194, c195, c196, c197, c198, c199, c200, c201, c202, c203], []⟩ → M) : M :=
  Exists.elim h fun u7 h => Exists.elim h fun u8 h => Exists.elim h fun u9 h => Exists.elim h fun u10 h => Exists.elim h fun u11 h => Exists.elim h fun u36 h => Exists.elim h fun u37 h => Exists.elim h fun u38 h => Exists.elim h fun u39 h => Exists.elim h fun u40 h => Exists.elim h fun u41 h => Exists.elim h fun u42 h => Exists.elim h fun u43 h => Exists.elim h fun u44 h => Exists.elim h fun u45 h => Exists.elim h fun u46 h => Exists.elim h fun u47 h => Exists.elim h fun u48 h => Exists.elim h fun u49 h => Exists.elim h fun u50 h => Exists.elim h fun u51 h => Exists.elim h fun u52 h => Exists.elim h fun u53 h => Exists.elim h fun u54 h => Exists.elim h fun u55 h => Exists.elim h fun u56 h => Exists.elim h fun u57 h => Exists.elim h fun u58 h => Exists.elim h fun u59 h => Exists.elim h fun u60 h => Exists.elim h fun u61 h => Exists.elim h fun u62 h => Exists.elim h fun u63 h => Exists.elim h fun u64 h => Exists.elim h fun u65 h => Exists.elim h fun u66 h => Exists.elim h fun u67 h => Exists.elim h fun u68 h => Exists.elim h fun u69 h => Exists.elim h fun u70 h => Exists.elim h fun u71 h => Exists.elim h fun u72 h => Exists.elim h fun u73 h => Exists.elim h fun u74 h => Exists.elim h fun u75 h => Exists.elim h fun u76 h => Exists.elim h fun u77 h => Exists.elim h fun u78 h => Exists.elim h fun u79 h => Exists.elim h fun u80 h => Exists.elim h fun u81 h => Exists.elim h fun u82 h => Exists.elim h fun u83 h => Exists.elim h fun u84 h => Exists.elim h fun u85 h => Exists.elim h fun u86 h => Exists.elim h fun u87 h => Exists.elim h fun u88 h => Exists.elim h fun u89 h => Exists.elim h fun u90 h => Exists.elim h fun u91 h => Exists.elim h fun u92 h => Exists.elim h fun u93 h => Exists.elim h fun u94 h => Exists.elim h fun u95 h => Exists.elim h fun u96 h => Exists.elim h fun u97 h => Exists.elim h fun u98 h => Exists.elim h fun u99 h => Exists.elim h fun u100 h => Exists.elim h fun u101 h => Exists.elim h fun u102 h => Exists.elim h fun u103 h => Exists.elim h fun u104 h => Exists.elim h fun u105 h => Exists.elim h fun u106 h => Exists.elim h fun u107 h => Exists.elim h fun u108 h => Exists.elim h fun u109 h => Exists.elim h fun u110 h => Exists.elim h fun u111 h => Exists.elim h fun u112 h => Exists.elim h fun u113 h => Exists.elim h fun u114 h => Exists.elim h fun u115 h => Exists.elim h fun u116 h => Exists.elim h fun u117 h => Exists.elim h fun u118 h => Exists.elim h fun u119 h => Exists.elim h fun u120 h => Exists.elim h fun u121 h => Exists.elim h fun u122 h => Exists.elim h fun u123 h => Exists.elim h fun u124 h => Exists.elim h fun u125 h => Exists.elim h fun u126 h => Exists.elim h fun u127 h => Exists.elim h fun u128 h => Exists.elim h fun u129 h => Exists.elim h fun u130 h => Exists.elim h fun u131 h => Exists.elim h fun u132 h => Exists.elim h fun u133 h => Exists.elim h fun u134 h => Exists.elim h fun u135 h => Exists.elim h fun u136 h => Exists.elim h fun u137 h => Exists.elim h fun u138 h => Exists.elim h fun u139 h => Exists.elim h fun u140 h => Exists.elim h fun u141 h => Exists.elim h fun u142 h => Exists.elim h fun u143 h => Exists.elim h fun u144 h => Exists.elim h fun u145 h => Exists.elim h fun u146 h => Exists.elim h fun u147 h => Exists.elim h fun u148 h => Exists.elim h fun u149 h => Exists.elim h fun u150 h => k u7 u8 u9 u10 u11 u36 u37 u38 u39 u40 u41 u42 u43 u44 u45 u46 u47 u48 u49 u50 u51 u52 u53 u54 u55 u56 u57 u58 u59 u60 u61 u62 u63 u64 u65 u66 u67 u68 u69 u70 u71 u72 u73 u74 u75 u76 u77 u78 u79 u80 u81 u82 u83 u84 u85 u86 u87 u88 u89 u90 u91 u92 u93 u94 u95 u96 u97 u98 u99 u100 u101 u102 u103 u104 u105 u106 u107 u108 u109 u110 u111 u112 u113 u114 u115 u116 u117 u118 u119 u120 u121 u122 u123 u124 u125 u126 u127 u128 u129 u130 u131 u132 u133 u134 u135 u136 u137 u138 u139 u140 u141 u142 u143 u144 u145 u146 u147 u148 u149 u150 h.1.1 h.1.2 h.2

theorem wp_code_eq {P : Program} {c c' : Code} {Q : Exit → Act → World → Prop} {a : Act} {w : World} (h : c = c') (k : Code.wp P c' Q a w) : Code.wp P c Q a w := h ▸ k

set_option maxRecDepth 1000000 in
set_option maxHeartbeats 1000000 in
theorem shellPlays_any (W : World) {ae : Nat → Addr} (hE : Errs W.heap.size W ae) (A : Option Addr) (c : Nat) (l : List Op18) (hr : Rd W (.slice A l.length c) 5 l.length (l.flatMap Op18.enc)) (hg : ∀ o ∈ l, o.good) :
    Calls Tryd.prog 9 #[.slice A l.length c] W fun e w' => e = .returned (.bool true) ∧ Below W.heap.size W w' := by
  have hN := hide (shNew_any W)
  replace hE := hide hE
  replace hg := hide hg
  obtain ⟨N, hN2⟩ : ∃ N, N = l.length := ⟨_, rfl⟩
  rw [← hN2] at hr ⊢
  replace hN2 := hide hN2
  replace hr := hide hr
  go_enter Tryd.func9, Tryd.ntmps9
  go_wp2_with fail
  refine (hN.out).mono ?_
  rintro e w1 ⟨p, F0, rfl, h1, hb1, hF0⟩
  go_wp2
  have hq := heap_alloc_new w1 (.cells #[.slice none 0 0] 53)
  have hD : Duo W p w1.heap.size 0 0 0 (fun _ => none) F0 (fun b => b = w1.heap.size) (.slice none 0 0) [] (w1.alloc (.cells #[.slice none 0 0] 53)) := by
    have hb2 : Below w1.heap.size w1 (w1.alloc (.cells #[.slice none 0 0] 53)) := (Below.refl _ _).alloc (Nat.le_refl _) _
    refine ⟨h1.below hb2, ⟨hq, World.ownsRow_nil _ _ _ _, by simp, by simp, by simp, rfl, (fun b hb => by cases hb), by simp, (fun b hb => by subst hb; simp)⟩, Nat.le_refl _, (fun b hF hb => by have := h1.lt b hF; omega), hF0, (fun b hb => by subst hb; exact hb1.size), hb1.alloc hb1.size _, (fun id => ok_none _), (fun id => ok_none _)⟩
  generalize w1.alloc (.cells #[.slice none 0 0] 53) = w2 at hD
  generalize w1.heap.size = q at hD hq
  clear h1 hb1 hF0 hq
  replace hD := hide hD
  go_loopw [5] (fun i wr => ∃ (j n : Nat) (F G : Nat → Prop) (v : Value) (L : List RWin), j ≤ N ∧ j ≤ 80 ∧ i = .int .i64 j ∧ n ≤ j ∧ Hid (Duo W p q n j j (toS L) F G v L wr))
    (fun i _ => 80 - (intOf i).toNat)
  case atStart => exact ⟨0, 0, _, _, _, [], Nat.zero_le _, Nat.zero_le _, rfl, Nat.le_refl _, hD⟩
  clear hD
  case round =>
    obtain ⟨j, n, F, G, v, L, hj, hj80, rfl, hn, h3⟩ := hrel
    obtain ⟨wA, hA⟩ : ∃ wA, wA = wr := ⟨_, rfl⟩
    subst hA
    by_cases hlt : j < N
    · by_cases hlt80 : j < 80
      · have hgo := Op18.good_at hg.out (k := j) (by rw [← hN2.out]; exact hlt)
        have hr2 := hr.out.below h3.out.be (Nat.le_refl _)
        obtain ⟨b, off, rfl, hbl, hc0, hc1, hc2, hc3, hc4⟩ := Op18.cells hr2 hN2.out.symm hlt
        obtain ⟨o, ho⟩ : ∃ o, o = l.getD j default := ⟨_, rfl⟩
        rw [← ho] at hgo hc0 hc1 hc2 hc3 hc4
        obtain ⟨kd, id, sr, at', bu⟩ := o
        dsimp only at hc0 hc1 hc2 hc3 hc4
        obtain ⟨g0, g1, g2⟩ := hgo
        dsimp only at g0 g1 g2
        clear ho hr2
        have p1 := Int.emod_nonneg kd (show (12 : Int) ≠ 0 by decide)
        have p2 := Int.emod_lt_of_pos kd (show (0 : Int) < 12 by decide)
        have hP := fun w => place_any kd 12 w (by omega) (by omega)
        obtain ⟨y, hy⟩ : ∃ y, y = kd % 12 := ⟨_, rfl⟩
        rw [← hy] at p1 p2 hP
        replace hP := hide hP
        clear hy
        go_upto_block 2 with (go_at_call 23; refine (hP.out _).mono ?_; rintro e w' ⟨rfl, rfl⟩)
        have hT : Trio W p q n j j wA.heap.size ⟨kd, id, sr, at', bu⟩ (toS L) (toS L) (wA.alloc (.cells #[.int .i64 kd, .int .i64 id, .int .i64 sr, .bool at', .bool bu] 55)) :=
          ⟨F, G, v, L, ⟨h3.out.keep ((Below.refl _ _).alloc (Nat.le_refl _) _), ⟨by simp, by simp, by simp, by simp, by simp⟩, (fun hb => by have := h3.out.sh.lt _ hb; omega), (fun hb => by have := h3.out.ref.glt _ hb; omega)⟩, rfl⟩
        generalize wA.alloc (.cells #[.int .i64 kd, .int .i64 id, .int .i64 sr, .bool at', .bool bu] 55) = wB at hT
        generalize wA.heap.size = ob at hT
        clear hc0 hc1 hc2 hc3 hc4 h3
        generalize toS L = S at hT
        refine wp_code_eq (c' := sw18) (by kernel_rfl) ?_
        (with_reducible refine sw_any hE hT g1 hn hlt80 p1 p2 ?_)
        intro a' w3 hSw
        refine hSw.elim ?_
        clear hSw hT
        intro u7 u8 u9 u10 u11 u36 u37 u38 u39 u40 u41 u42 u43 u44 u45 u46 u47 u48 u49 u50 u51 u52 u53 u54 u55 u56 u57 u58 u59 u60 u61 u62 u63 u64 u65 u66 u67 u68 u69 u70 u71 u72 u73 u74 u75 u76 u77 u78 u79 u80 u81 u82 u83 u84 u85 u86 u87 u88 u89 u90 u91 u92 u93 u94 u95 u96 u97 u98 u99 u100 u101 u102 u103 u104 u105 u106 u107 u108 u109 u110 u111 u112 u113 u114 u115 u116 u117 u118 u119 u120 u121 u122 u123 u124 u125 u126 u127 u128 u129 u130 u131 u132 u133 u134 u135 u136 u137 u138 u139 u140 u141 u142 u143 u144 u145 u146 u147 u148 u149 u150
        rintro rfl ⟨S3, h4⟩ rfl
        obtain ⟨F3, G3, v3, L3, h5, hS⟩ := h4.out
        clear h4
        have d1 := h5.op.c1
        dsimp only at d1
        have cW := hide (rW_any w3 q G3 v3 L3 id h5.duo.ref (by have := h5.duo.len; omega))
        replace h5 := hide h5
        go_upto_region 29 with (go_at_call 44; refine cW.out.mono ?_; rintro e w' ⟨pt, rfl, hF, rfl⟩)
        have cH := fun m => shHas_any (w3.drewN m) p (n + 1) F3 S3 id g1 (h5.out.keep (below_drewN (Below.refl _ _) m)).duo.sh
        have cT := fun m => shIsTop_any (w3.drewN m) p (n + 1) F3 S3 id g1 (h5.out.keep (below_drewN (Below.refl _ _) m)).duo.sh
        have cM := fun m => shMapped_any (w3.drewN m) p (n + 1) F3 S3 id g1 (h5.out.keep (below_drewN (Below.refl _ _) m)).duo.sh
        have cS := fun m => rStep_any (w3.drewN m) q G3 v3 L3 id (h5.out.keep (below_drewN (Below.refl _ _) m)).duo.ref (by have := h5.out.duo.len; omega)
        rw [hS] at cS
        rw [← geq_top S3 id] at cT
        rw [← eq_map S3 id] at cM
        have cQ := fun m => shWaits_any (w3.drewN m) p (n + 1) F3 S3 id g1 (h5.out.keep (below_drewN (Below.refl _ _) m)).duo.sh (fun st ws e => Nat.le_trans (h5.out.duo.okS id st ws e) (by omega))
        generalize hsi : stepI S3 id = si at cT cM cS
        replace cT := hide cT
        replace cM := hide cM
        replace cS := hide cS
        clear cW hsi
        obtain ⟨xs, hxs⟩ : ∃ xs, xs = ((S3 id).map (·.2)).getD [] := ⟨_, rfl⟩
        rw [← hxs] at cQ
        replace cQ := hide cQ
        have hxl : xs.length ≤ 1000 := by
          rw [hxs]
          cases hq : S3 id with
          | none => simp
          | some r => have := h5.out.duo.okS id r.1 r.2 hq; simp; omega
        rcases hF with ⟨hnone, rfl⟩ | ⟨k, g, cc, hk, hid, rfl, rfl⟩
        · have hs0 : S3 id = none := by rw [← hS]; exact toS_none hnone
          rw [hs0] at cH hxs
          replace cH := hide cH
          replace hxs := hide hxs
          clear hnone hs0
          replace hS := hide hS
          go_quiet (first | (go_at_call 34; refine Calls.quiet_of_same ((cH.out _).mono fun e w' h => ⟨h.1, h.2.symm⟩)) | (go_at_call 33; refine Calls.quiet_of_same ((cT.out _).mono fun e w' h => ⟨h.1, h.2.symm⟩)) | (go_at_call 32; refine Calls.quiet_of_same ((cM.out _).mono fun e w' h => ⟨h.1, h.2.symm⟩)) | (go_at_call 45; refine Calls.quiet_of_same ((cS.out _).mono fun e w' h => ⟨h.1, h.2.symm⟩)))
          go_wp2_with (go_at_call 29; refine (cQ.out _).mono ?_; rintro e w5 ⟨vv, rfl, r5, b5⟩; obtain ⟨A5, c5, rfl, hc5⟩ := own_form r5)
          have i5 := Rd.of_own r5
          have u5 : Rd w5 (.slice none 0 0) 1 xs.length (xs.map (Value.int .i64)) := by rw [hxs.out]; exact Rd.nil _ _
          have s5 := hide (sameInts_true w5 _ _ xs i5 u5 (by omega))
          have h6 := hide (h5.out.duo.keep ((below_drewN (Below.refl _ w3) nq).trans (b5.mono (by simp))))
          clear i5 u5 r5
          go_wp2_with fail
          refine s5.out.mono ?_
          rintro e w6 ⟨rfl, q6, rfl⟩
          go_wp2
          go_roundw
          case rel => exact ⟨j + 1, n + 1, F3, G3, _, L3, by omega, by omega, by go_num, by omega, hide (by rw [hS.out]; exact h6.out.keep (below_drewN (Below.refl _ w5) q6))⟩
          case measure => simp [intOf]; omega
        · have hs1 : S3 id = some ((L3.getD k default).st, (L3.getD k default).ws) := by rw [← hS, ← hid]; exact toS_some h5.out.duo.ref.ids hk
          rw [hs1] at cH hxs
          replace hxs : xs = (L3.getD k default).ws := hxs
          obtain ⟨k0, k1, k2⟩ := h5.out.duo.ref.win hk
          have ks := h5.out.duo.ref.serials (L3.getD k default) (by
            have e2 : L3.getD k default = L3[k] := by simp [List.getD, hk]
            rw [e2]; exact List.getElem_mem hk)
          rw [← hxs] at ks
          obtain ⟨A7, c7, e7, _⟩ := own_form ks
          rw [e7] at k2 ks
          replace cH := hide cH
          replace hxs := hide hxs
          replace ks := hide ks
          clear hs1 k0 k1 hid hk e7
          replace hS := hide hS
          go_quiet (first | (go_at_call 34; refine Calls.quiet_of_same ((cH.out _).mono fun e w' h => ⟨h.1, h.2.symm⟩)) | (go_at_call 33; refine Calls.quiet_of_same ((cT.out _).mono fun e w' h => ⟨h.1, h.2.symm⟩)) | (go_at_call 32; refine Calls.quiet_of_same ((cM.out _).mono fun e w' h => ⟨h.1, h.2.symm⟩)) | (go_at_call 45; refine Calls.quiet_of_same ((cS.out _).mono fun e w' h => ⟨h.1, h.2.symm⟩)))
          go_wp2_with (go_at_call 29; refine (cQ.out _).mono ?_; rintro e w5 ⟨vv, rfl, r5, b5⟩; obtain ⟨A5, c5, rfl, hc5⟩ := own_form r5)
          have i5 := Rd.of_own r5
          have u5 : Rd w5 (.slice A7 xs.length c7) 1 xs.length (xs.map (Value.int .i64)) := (Rd.of_own ks.out).below ((below_drewN (Below.refl _ w3) _).trans (b5.mono (by simp))) (Nat.le_refl _)
          have s5 := hide (sameInts_true w5 _ _ xs i5 u5 (by omega))
          have h6 := hide (h5.out.duo.keep ((below_drewN (Below.refl _ w3) nq).trans (b5.mono (by simp))))
          clear i5 u5 r5
          go_wp2_with fail
          refine s5.out.mono ?_
          rintro e w6 ⟨rfl, q6, rfl⟩
          go_wp2
          go_roundw
          case rel => exact ⟨j + 1, n + 1, F3, G3, _, L3, by omega, by omega, by go_num, by omega, hide (by rw [hS.out]; exact h6.out.keep (below_drewN (Below.refl _ w5) q6))⟩
          case measure => simp [intOf]; omega
      · have hx : 80 ≤ (j : Int) := by omega
        clear hlt80
        have hbd := hide h3.out.be
        have ca := hide (awake18_any wA (hE.out.below h3.out.be) h3.out.be.size)
        clear h3
        go_wp2_with fail
        refine (ca.out).mono ?_
        rintro e w9 ⟨rfl, hb9⟩
        go_wp2
        go_ret
        exact ⟨rfl, hbd.out.trans (hb9.mono hbd.out.size)⟩
    · have hx : (N : Int) ≤ j := by omega
      clear hlt
      have hbd := hide h3.out.be
      have ca := hide (awake18_any wA (hE.out.below h3.out.be) h3.out.be.size)
      clear h3
      go_wp2_with fail
      refine (ca.out).mono ?_
      rintro e w9 ⟨rfl, hb9⟩
      go_wp2
      go_ret
      exact ⟨rfl, hbd.out.trans (hb9.mono hbd.out.size)⟩
end Go.Proofs.YtfekldcpjoiipaaDoor
