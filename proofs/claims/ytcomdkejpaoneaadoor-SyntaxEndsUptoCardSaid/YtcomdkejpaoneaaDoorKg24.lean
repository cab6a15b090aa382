/- Merged for a claim by shake.py: Hg4 -/
import Derived.Test.YtcomdkejpaoneaaDoorKg23
section
namespace Go.Proofs.YtcomdkejpaoneaaDoor
open Go.RowKit
set_option maxRecDepth 1000000
set_option maxHeartbeats 3000000
set_option linter.unusedSimpArgs false
set_option linter.unusedVariables false
theorem fill_t4 {w wc : World} {B cb n cap : Nat} {A : Option Addr} {row : List Lt} {S : Nat → Addr} {K : Nat → Nat} {G : Nat → Nat → Addr} {V0 : Nat → Nat → Nat → Nat} {i j : Nat} (hij : i < j) (hj : j ≤ n) (hn : n ≤ 100) (hl : row.length = n + 1) (hS : Shorter row n V0 (j - i)) (h0 : FR w B cb n cap A row S K G V0 i j 4 wc) 
    (c3 c4 c5 c6 c7 c8 c9 c10 c11 c12 c13 c14 c15 c16 c17 c18 c19 c20 c21 c22 c23 c24 c25 c26 c27 c28 c29 c30 c31 c32 c33 c34 c35 c36 c37 c38 c39 c40 c41 c42 c43 c44 c45 c46 c47 c48 c49 c50 c51 c52 c53 c54 c55 c56 c57 c58 c59 c60 c61 c62 c63 c64 c65 c66 c67 c68 c69 c70 c71 c72 c73 c74 c75 c76 c77 c78 c79 c80 c81 c82 c83 c84 c85 c86 c87 c88 c89 c90 c91 c92 c93 c94 c95 c96 c97 c98 c99 c100 c101 c102 c103 c104 c105 c106 c107 c108 c109 c110 c111 c112 c113 c114 c115 c116 c117 c118 c119 c120 c121 c122 c123 c124 c125 c126 c127 c128 c129 c130 c131 c132 c133 c134 c135 c136 c137 c138 c139 c140 c141 c142 c143 c144 c145 c146 c147 c148 c149 c150 c151 c152 c153 c154 c155 c156 c157 c158 c159 c160 c161 c162 c163 c164 c165 c166 c167 c168 c169 c170 c171 c172 c173 c174 c175 c176 c177 c178 c179 c180 c181 c182 c183 c184 c185 c186 c187 c188 c189 c190 c191 c192 c193 c194 c195 c196 c197 c198 c199 c200 c201 c202 c203 c204 c205 c206 c207 c208 c209 c210 c211 c212 c213 c214 c215 c216 c217 c218 c219 c220 c221 c222 c223 c224 c225 c226 c227 c228 c229 c230 c231 c232 c233 c234 c235 c236 c237 c238 c239 c240 c241 c242 c243 c244 c245 c246 c247 c248 c249 c250 c251 c252 c253 c254 c255 c256 c257 c258 c259 c260 c261 c262 c263 c264 c265 c266 c267 c268 c269 c270 c271 c272 c273 c274 c275 c276 c277 c278 : Value) :
    Code.wp Tryd.prog (tl 4) (bodyPost Tryd.prog Tryd.f42 (fun e w' => e = .returned (.tuple #[]) ∧ FR w B cb n cap A row S K G V0 i j 11 w')) ⟨#[.pointer (some ⟨cb, 0, none⟩), .int .i64 (i : Int), .int .i64 (j : Int), c3, c4, c5, c6, c7, c8, c9, c10, c11, c12, c13, c14, c15, c16, c17, c18, c19, c20, c21, c22, c23, c24, c25, c26, c27, c28, c29, c30, c31, c32, c33, c34, c35, c36, c37, c38, c39, c40, c41, c42, c43, c44, c45, c46, c47, c48, c49, c50, c51, c52, c53, c54, c55, c56, c57, c58, c59, c60, c61, c62, c63, c64, c65, c66, c67, c68, c69, c70, c71, c72, c73, c74, c75, c76, c77, c78, c79, c80, c81, c82, c83, c84, c85, c86, c87, c88, c89, c90, c91, c92, c93, c94, c95, c96, c97, c98, c99, c100, c101, c102, c103, c104, c105, c106, c107, c108, c109, c110, c111, c112, c113, c114, c115, c116, c117, c118, c119, c120, c121, c122, c123, c124, c125, c126, c127, c128, c129, c130, c131, c132, c133, c134, c135, c136, c137, c138, c139, c140, c141, c142, c143, c144, c145, c146, c147, c148, c149, c150, c151, c152, c153, c154, c155, c156, c157, c158, c159, c160, c161, c162, c163, c164, c165, c166, c167, c168, c169, c170, c171, c172, c173, c174, c175, c176, c177, c178, c179, c180, c181, c182, c183, c184, c185, c186, c187, c188, c189, c190, c191, c192, c193, c194, c195, c196, c197, c198, c199, c200, c201, c202, c203, c204, c205, c206, c207, c208, c209, c210, c211, c212, c213, c214, c215, c216, c217, c218, c219, c220, c221, c222, c223, c224, c225, c226, c227, c228, c229, c230, c231, c232, c233, c234, c235, c236, c237, c238, c239, c240, c241, c242, c243, c244, c245, c246, c247, c248, c249, c250, c251, c252, c253, c254, c255, c256, c257, c258, c259, c260, c261, c262, c263, c264, c265, c266, c267, c268, c269, c270, c271, c272, c273, c274, c275, c276, c277, c278], []⟩ wc := by
  have HL := Lib.hid hl; have HS := Lib.hid hS; have H4 := Lib.hid h0
  clear h0 hS hl
  conv => arg 2; whnf
  obtain ⟨m, hm⟩ : ∃ m, m = j - 1 := ⟨_, rfl⟩
  obtain ⟨s, hs⟩ : ∃ s, s = j - i := ⟨_, rfl⟩
  have hji : ((j : Int) - (i : Int)) = (s : Int) := by omega
  have hj1 : ((j : Int) - 1) = (m : Int) := by omega
  have hmn : m ≤ n := by omega
  have hsn : s ≤ 100 := by omega
  have hbm : (m : Int) < (n : Int) + 1 := by omega
  have HMJ := Lib.hid hm; have HSJ := Lib.hid hs
  clear hm hs
  have hbi : (i : Int) < (n : Int) + 1 := by omega
  have hbj : (j : Int) < (n : Int) + 1 := by omega
  obtain ⟨V, hc, h2, h3, h4, h5⟩ := H4.out
  have HC := Lib.hid hc; have H2 := Lib.hid h2; have H3 := Lib.hid h3; have HV := Lib.hid h4; have HB := Lib.hid h5
  have HSV := Lib.hid (HS.out.to h2)
  clear h2 h3 h5
  have ta := HC.out.top 3 (by omega)
  rw [show 1 + 3 = 4 from rfl] at ta
  have ma := HC.out.mid 3 (i) (by omega) (by omega)
  have ba := (HC.out.bot 3 (i) (j) (by omega) (by omega) (by omega)).1
  have hv3 := h4 3 i j
  clear hc h4
  go_upto_region 5 with fail
  clear ta ma ba
  have HP18 := Lib.hid (HC.out.kd_is (m : Int) 18 m rfl hmn)
  have HP19 := Lib.hid (HC.out.kd_is (m : Int) 19 m rfl hmn)
  have HPN := Lib.hid (show pcN row V i j = V 3 i j + (if 2 ≤ s ∧ (kd row m = 18 ∨ kd row m = 19) then V 4 i m else 0) from by rw [HSJ.out, HMJ.out]; rfl)
  obtain ⟨c4, hc4⟩ : ∃ b : Bool, b = decide (2 ≤ s ∧ (kd row m = 18 ∨ kd row m = 19)) := ⟨_, rfl⟩
  have HC4 := Lib.hid hc4
  clear hc4
  go_cut [109] (fun tv wx => tv = .bool c4 ∧ wc = wx)
  case first =>
    by_cases hs2 : 2 ≤ s
    rotate_left
    · have d2 : decide ((s : Int) ≥ 2) = false := by simp; omega
      have d2b : ¬ ((2 : Int) ≤ (s : Int)) := by omega
      have HBB := Lib.hid (show c4 = false from by rw [HC4.out]; exact decide_eq_false (fun h => hs2 h.1))
      clear hs2
      go_wp2
      go_meet
      exact ⟨by rw [HBB.out], rfl⟩
    have d2 : decide ((s : Int) ≥ 2) = true := by simp; omega
    have d2b : (2 : Int) ≤ (s : Int) := by omega
    by_cases h18 : kd row m = 18
    · have e18 : (kd row m == 18) = true := by simpa using h18
      have HBB := Lib.hid (show c4 = true from by rw [HC4.out]; exact decide_eq_true ⟨hs2, .inl h18⟩)
      clear hs2 h18
      go_wp2_with (first | (with_reducible refine HP18.out.mono ?_; rintro e w' ⟨rfl, rfl⟩) | (with_reducible refine HP19.out.mono ?_; rintro e w' ⟨rfl, rfl⟩))
      go_meet
      exact ⟨by rw [HBB.out], rfl⟩
    have e18 : (kd row m == 18) = false := by simpa using h18
    by_cases h19 : kd row m = 19
    · have e19 : (kd row m == 19) = true := by simpa using h19
      have HBB := Lib.hid (show c4 = true from by rw [HC4.out]; exact decide_eq_true ⟨hs2, .inr h19⟩)
      clear hs2 h18 h19
      go_wp2_with (first | (with_reducible refine HP18.out.mono ?_; rintro e w' ⟨rfl, rfl⟩) | (with_reducible refine HP19.out.mono ?_; rintro e w' ⟨rfl, rfl⟩))
      go_meet
      exact ⟨by rw [HBB.out], rfl⟩
    have e19 : (kd row m == 19) = false := by simpa using h19
    have HBB := Lib.hid (show c4 = false from by rw [HC4.out]; exact decide_eq_false (fun h => by omega))
    clear hs2 h18 h19
    go_wp2_with (first | (with_reducible refine HP18.out.mono ?_; rintro e w' ⟨rfl, rfl⟩) | (with_reducible refine HP19.out.mono ?_; rintro e w' ⟨rfl, rfl⟩))
    go_meet
    exact ⟨by rw [HBB.out], rfl⟩
  obtain ⟨rfl, rfl⟩ := hcut
  go_upto_if 109 with fail
  go_cut [6] (fun nv wx => nv = .int .i64 ((pcN row V i j : Nat) : Int) ∧ wc = wx)
  case first =>
    cases hcc : c4
    · have HR := Lib.hid (show pcN row V i j = V 3 i j from by
        rw [HPN.out, if_neg (fun h => by have := HC4.out; rw [hcc, decide_eq_true h] at this; cases this)]; rfl)
      clear hcc
      go_wp2
      go_meet
      exact ⟨by rw [HR.out], rfl⟩
    · have HR := Lib.hid (show pcN row V i j = V 3 i j + V 4 i m from by
        rw [HPN.out, if_pos (of_decide_eq_true (HC4.out.symm.trans hcc))])
      clear hcc
      have hv4 := HV.out 4 i m
      have ta := HC.out.top 4 (by omega)
      rw [show 1 + 4 = 5 from rfl] at ta
      have ma := HC.out.mid 4 (i) (by omega) (by omega)
      have ba := (HC.out.bot 4 (i) (m) (by omega) (by omega) (by omega)).1
      go_wp2
      go_meet
      exact ⟨by rw [HR.out]; rfl, rfl⟩
  obtain ⟨rfl, rfl⟩ := hcut

  have HXP := Lib.hid (show IsW .piece (pc row i j) (pcN row V i j) from isW_pcN HL.out hij hj HSV.out (H3.out 3 (by omega)))
  apply_assumption
  exact fill_t7 hij hj hn HL.out HS.out H4.out HXP.out _ _ _ _ _ _ _ _ _ _ _ _ _ _ _ _ _ _ _ _ _ _ _ _ _ _ _ _ _ _ _ _ _ _ _ _ _ _ _ _ _ _ _ _ _ _ _ _ _ _ _ _ _ _ _ _ _ _ _ _ _ _ _ _ _ _ _ _ _ _ _ _ _ _ _ _ _ _ _ _ _ _ _ _ _ _ _ _ _ _ _ _ _ _ _ _ _ _ _ _ _ _ _ _ _ _ _ _ _ _ _ _ _ _ _ _ _ _ _ _ _ _ _ _ _ _ _ _ _ _ _ _ _ _ _ _ _ _ _ _ _ _ _ _ _ _ _ _ _ _ _ _ _ _ _ _ _ _ _ _ _ _ _ _ _ _ _ _ _ _ _ _ _ _ _ _ _ _ _ _ _ _ _ _ _ _ _ _ _ _ _ _ _ _ _ _ _ _ _ _ _ _ _ _ _ _ _ _ _ _ _ _ _ _ _ _ _ _ _ _ _ _ _ _ _ _ _ _ _ _ _ _ _ _ _ _ _ _ _ _ _ _ _ _ _ _ _ _ _ _ _ _ _ _ _ _ _ _ _ _ _ _ _ _ _ _ _ _ _ _ _ _ _ _ _
theorem fill_t3 {w wc : World} {B cb n cap : Nat} {A : Option Addr} {row : List Lt} {S : Nat → Addr} {K : Nat → Nat} {G : Nat → Nat → Addr} {V0 : Nat → Nat → Nat → Nat} {i j : Nat} (hij : i < j) (hj : j ≤ n) (hn : n ≤ 100) (hl : row.length = n + 1) (hS : Shorter row n V0 (j - i)) (h0 : FR w B cb n cap A row S K G V0 i j 3 wc) 
    (c3 c4 c5 c6 c7 c8 c9 c10 c11 c12 c13 c14 c15 c16 c17 c18 c19 c20 c21 c22 c23 c24 c25 c26 c27 c28 c29 c30 c31 c32 c33 c34 c35 c36 c37 c38 c39 c40 c41 c42 c43 c44 c45 c46 c47 c48 c49 c50 c51 c52 c53 c54 c55 c56 c57 c58 c59 c60 c61 c62 c63 c64 c65 c66 c67 c68 c69 c70 c71 c72 c73 c74 c75 c76 c77 c78 c79 c80 c81 c82 c83 c84 c85 c86 c87 c88 c89 c90 c91 c92 c93 c94 c95 c96 c97 c98 c99 c100 c101 c102 c103 c104 c105 c106 c107 c108 c109 c110 c111 c112 c113 c114 c115 c116 c117 c118 c119 c120 c121 c122 c123 c124 c125 c126 c127 c128 c129 c130 c131 c132 c133 c134 c135 c136 c137 c138 c139 c140 c141 c142 c143 c144 c145 c146 c147 c148 c149 c150 c151 c152 c153 c154 c155 c156 c157 c158 c159 c160 c161 c162 c163 c164 c165 c166 c167 c168 c169 c170 c171 c172 c173 c174 c175 c176 c177 c178 c179 c180 c181 c182 c183 c184 c185 c186 c187 c188 c189 c190 c191 c192 c193 c194 c195 c196 c197 c198 c199 c200 c201 c202 c203 c204 c205 c206 c207 c208 c209 c210 c211 c212 c213 c214 c215 c216 c217 c218 c219 c220 c221 c222 c223 c224 c225 c226 c227 c228 c229 c230 c231 c232 c233 c234 c235 c236 c237 c238 c239 c240 c241 c242 c243 c244 c245 c246 c247 c248 c249 c250 c251 c252 c253 c254 c255 c256 c257 c258 c259 c260 c261 c262 c263 c264 c265 c266 c267 c268 c269 c270 c271 c272 c273 c274 c275 c276 c277 c278 : Value) :
    Code.wp Tryd.prog (tl 3) (bodyPost Tryd.prog Tryd.f42 (fun e w' => e = .returned (.tuple #[]) ∧ FR w B cb n cap A row S K G V0 i j 11 w')) ⟨#[.pointer (some ⟨cb, 0, none⟩), .int .i64 (i : Int), .int .i64 (j : Int), c3, c4, c5, c6, c7, c8, c9, c10, c11, c12, c13, c14, c15, c16, c17, c18, c19, c20, c21, c22, c23, c24, c25, c26, c27, c28, c29, c30, c31, c32, c33, c34, c35, c36, c37, c38, c39, c40, c41, c42, c43, c44, c45, c46, c47, c48, c49, c50, c51, c52, c53, c54, c55, c56, c57, c58, c59, c60, c61, c62, c63, c64, c65, c66, c67, c68, c69, c70, c71, c72, c73, c74, c75, c76, c77, c78, c79, c80, c81, c82, c83, c84, c85, c86, c87, c88, c89, c90, c91, c92, c93, c94, c95, c96, c97, c98, c99, c100, c101, c102, c103, c104, c105, c106, c107, c108, c109, c110, c111, c112, c113, c114, c115, c116, c117, c118, c119, c120, c121, c122, c123, c124, c125, c126, c127, c128, c129, c130, c131, c132, c133, c134, c135, c136, c137, c138, c139, c140, c141, c142, c143, c144, c145, c146, c147, c148, c149, c150, c151, c152, c153, c154, c155, c156, c157, c158, c159, c160, c161, c162, c163, c164, c165, c166, c167, c168, c169, c170, c171, c172, c173, c174, c175, c176, c177, c178, c179, c180, c181, c182, c183, c184, c185, c186, c187, c188, c189, c190, c191, c192, c193, c194, c195, c196, c197, c198, c199, c200, c201, c202, c203, c204, c205, c206, c207, c208, c209, c210, c211, c212, c213, c214, c215, c216, c217, c218, c219, c220, c221, c222, c223, c224, c225, c226, c227, c228, c229, c230, c231, c232, c233, c234, c235, c236, c237, c238, c239, c240, c241, c242, c243, c244, c245, c246, c247, c248, c249, c250, c251, c252, c253, c254, c255, c256, c257, c258, c259, c260, c261, c262, c263, c264, c265, c266, c267, c268, c269, c270, c271, c272, c273, c274, c275, c276, c277, c278], []⟩ wc := by
  have HL := Lib.hid hl; have HS := Lib.hid hS; have H3 := Lib.hid h0
  clear h0 hS hl
  conv => arg 2; whnf
  go_upto_region 3 with fail
  refine fill_ph3 hij hj hn HL.out HS.out H3.out _ _ _ _ _ _ _ _ _ _ _ _ _ _ _ _ _ _ _ _ _ _ _ _ _ _ _ _ _ _ _ _ _ _ _ _ _ _ _ _ _ _ _ _ _ _ _ _ _ _ _ _ _ _ _ _ _ _ _ _ _ _ _ _ _ _ _ _ _ _ _ _ _ _ _ _ _ _ _ _ _ _ _ _ _ _ _ _ _ _ _ _ _ _ _ _ _ _ _ _ _ _ _ _ _ _ _ _ _ _ _ _ _ _ _ _ _ _ _ _ _ _ _ _ _ _ _ _ _ _ _ _ _ _ _ _ _ _ _ _ _ _ _ _ _ _ _ _ _ _ _ _ _ _ _ _ _ _ _ _ _ _ _ _ _ _ _ _ _ _ _ _ _ _ _ _ _ _ _ _ _ _ _ _ _ _ _ _ _ _ _ _ _ _ _ _ _ _ _ _ _ _ _ _ _ _ _ _ _ _ _ _ _ _ _ _ _ _ _ _ _ _ _ _ _ _ _ _ _ _ _ _ _ _ _ _ _ _ _ _ _ _ _ _ _ _ _ _ _ _ _ _ _ _ _ _ _ _ _ _ _ _ _ _ _ _ _ _ _ _ _ _ _ _ _ _ _ _ ?_
  intro u69 u70 u71 u72 u73 u74 u75 u76 u77 u78 u79 u80 u81 u82 wcx hx
  rename_i kk_ ak_
  refine ak_ _ _ ?_
  exact fill_t4 hij hj hn HL.out HS.out hx _ _ _ _ _ _ _ _ _ _ _ _ _ _ _ _ _ _ _ _ _ _ _ _ _ _ _ _ _ _ _ _ _ _ _ _ _ _ _ _ _ _ _ _ _ _ _ _ _ _ _ _ _ _ _ _ _ _ _ _ _ _ _ _ _ _ _ _ _ _ _ _ _ _ _ _ _ _ _ _ _ _ _ _ _ _ _ _ _ _ _ _ _ _ _ _ _ _ _ _ _ _ _ _ _ _ _ _ _ _ _ _ _ _ _ _ _ _ _ _ _ _ _ _ _ _ _ _ _ _ _ _ _ _ _ _ _ _ _ _ _ _ _ _ _ _ _ _ _ _ _ _ _ _ _ _ _ _ _ _ _ _ _ _ _ _ _ _ _ _ _ _ _ _ _ _ _ _ _ _ _ _ _ _ _ _ _ _ _ _ _ _ _ _ _ _ _ _ _ _ _ _ _ _ _ _ _ _ _ _ _ _ _ _ _ _ _ _ _ _ _ _ _ _ _ _ _ _ _ _ _ _ _ _ _ _ _ _ _ _ _ _ _ _ _ _ _ _ _ _ _ _ _ _ _ _ _ _ _ _ _ _ _ _ _ _ _ _ _ _ _ _ _ _ _ _
theorem fill_t2 {w wc : World} {B cb n cap : Nat} {A : Option Addr} {row : List Lt} {S : Nat → Addr} {K : Nat → Nat} {G : Nat → Nat → Addr} {V0 : Nat → Nat → Nat → Nat} {i j : Nat} (hij : i < j) (hj : j ≤ n) (hn : n ≤ 100) (hl : row.length = n + 1) (hS : Shorter row n V0 (j - i)) (h0 : FR w B cb n cap A row S K G V0 i j 2 wc) 
    (c3 c4 c5 c6 c7 c8 c9 c10 c11 c12 c13 c14 c15 c16 c17 c18 c19 c20 c21 c22 c23 c24 c25 c26 c27 c28 c29 c30 c31 c32 c33 c34 c35 c36 c37 c38 c39 c40 c41 c42 c43 c44 c45 c46 c47 c48 c49 c50 c51 c52 c53 c54 c55 c56 c57 c58 c59 c60 c61 c62 c63 c64 c65 c66 c67 c68 c69 c70 c71 c72 c73 c74 c75 c76 c77 c78 c79 c80 c81 c82 c83 c84 c85 c86 c87 c88 c89 c90 c91 c92 c93 c94 c95 c96 c97 c98 c99 c100 c101 c102 c103 c104 c105 c106 c107 c108 c109 c110 c111 c112 c113 c114 c115 c116 c117 c118 c119 c120 c121 c122 c123 c124 c125 c126 c127 c128 c129 c130 c131 c132 c133 c134 c135 c136 c137 c138 c139 c140 c141 c142 c143 c144 c145 c146 c147 c148 c149 c150 c151 c152 c153 c154 c155 c156 c157 c158 c159 c160 c161 c162 c163 c164 c165 c166 c167 c168 c169 c170 c171 c172 c173 c174 c175 c176 c177 c178 c179 c180 c181 c182 c183 c184 c185 c186 c187 c188 c189 c190 c191 c192 c193 c194 c195 c196 c197 c198 c199 c200 c201 c202 c203 c204 c205 c206 c207 c208 c209 c210 c211 c212 c213 c214 c215 c216 c217 c218 c219 c220 c221 c222 c223 c224 c225 c226 c227 c228 c229 c230 c231 c232 c233 c234 c235 c236 c237 c238 c239 c240 c241 c242 c243 c244 c245 c246 c247 c248 c249 c250 c251 c252 c253 c254 c255 c256 c257 c258 c259 c260 c261 c262 c263 c264 c265 c266 c267 c268 c269 c270 c271 c272 c273 c274 c275 c276 c277 c278 : Value) :
    Code.wp Tryd.prog (tl 2) (bodyPost Tryd.prog Tryd.f42 (fun e w' => e = .returned (.tuple #[]) ∧ FR w B cb n cap A row S K G V0 i j 11 w')) ⟨#[.pointer (some ⟨cb, 0, none⟩), .int .i64 (i : Int), .int .i64 (j : Int), c3, c4, c5, c6, c7, c8, c9, c10, c11, c12, c13, c14, c15, c16, c17, c18, c19, c20, c21, c22, c23, c24, c25, c26, c27, c28, c29, c30, c31, c32, c33, c34, c35, c36, c37, c38, c39, c40, c41, c42, c43, c44, c45, c46, c47, c48, c49, c50, c51, c52, c53, c54, c55, c56, c57, c58, c59, c60, c61, c62, c63, c64, c65, c66, c67, c68, c69, c70, c71, c72, c73, c74, c75, c76, c77, c78, c79, c80, c81, c82, c83, c84, c85, c86, c87, c88, c89, c90, c91, c92, c93, c94, c95, c96, c97, c98, c99, c100, c101, c102, c103, c104, c105, c106, c107, c108, c109, c110, c111, c112, c113, c114, c115, c116, c117, c118, c119, c120, c121, c122, c123, c124, c125, c126, c127, c128, c129, c130, c131, c132, c133, c134, c135, c136, c137, c138, c139, c140, c141, c142, c143, c144, c145, c146, c147, c148, c149, c150, c151, c152, c153, c154, c155, c156, c157, c158, c159, c160, c161, c162, c163, c164, c165, c166, c167, c168, c169, c170, c171, c172, c173, c174, c175, c176, c177, c178, c179, c180, c181, c182, c183, c184, c185, c186, c187, c188, c189, c190, c191, c192, c193, c194, c195, c196, c197, c198, c199, c200, c201, c202, c203, c204, c205, c206, c207, c208, c209, c210, c211, c212, c213, c214, c215, c216, c217, c218, c219, c220, c221, c222, c223, c224, c225, c226, c227, c228, c229, c230, c231, c232, c233, c234, c235, c236, c237, c238, c239, c240, c241, c242, c243, c244, c245, c246, c247, c248, c249, c250, c251, c252, c253, c254, c255, c256, c257, c258, c259, c260, c261, c262, c263, c264, c265, c266, c267, c268, c269, c270, c271, c272, c273, c274, c275, c276, c277, c278], []⟩ wc := by
  have HL := Lib.hid hl; have HS := Lib.hid hS; have H2 := Lib.hid h0
  clear h0 hS hl
  conv => arg 2; whnf
  go_upto_region 2 with fail
  refine fill_ph2 hij hj hn H2.out _ _ _ _ _ _ _ _ _ _ _ _ _ _ _ _ _ _ _ _ _ _ _ _ _ _ _ _ _ _ _ _ _ _ _ _ _ _ _ _ _ _ _ _ _ _ _ _ _ _ _ _ _ _ _ _ _ _ _ _ _ _ _ _ _ _ _ _ _ _ _ _ _ _ _ _ _ _ _ _ _ _ _ _ _ _ _ _ _ _ _ _ _ _ _ _ _ _ _ _ _ _ _ _ _ _ _ _ _ _ _ _ _ _ _ _ _ _ _ _ _ _ _ _ _ _ _ _ _ _ _ _ _ _ _ _ _ _ _ _ _ _ _ _ _ _ _ _ _ _ _ _ _ _ _ _ _ _ _ _ _ _ _ _ _ _ _ _ _ _ _ _ _ _ _ _ _ _ _ _ _ _ _ _ _ _ _ _ _ _ _ _ _ _ _ _ _ _ _ _ _ _ _ _ _ _ _ _ _ _ _ _ _ _ _ _ _ _ _ _ _ _ _ _ _ _ _ _ _ _ _ _ _ _ _ _ _ _ _ _ _ _ _ _ _ _ _ _ _ _ _ _ _ _ _ _ _ _ _ _ _ _ _ _ _ _ _ _ _ _ _ _ _ _ _ _ _ _ ?_
  intro u36 u37 u38 u39 u40 u41 u42 u43 u44 u45 u46 u47 u48 u49 u50 u51 u52 u53 u54 u55 u56 u57 u58 u59 u60 u61 u62 u63 u64 u65 u66 u67 u68 wcx hx
  rename_i kk_ ak_
  refine ak_ _ _ ?_
  exact fill_t3 hij hj hn HL.out HS.out hx _ _ _ _ _ _ _ _ _ _ _ _ _ _ _ _ _ _ _ _ _ _ _ _ _ _ _ _ _ _ _ _ _ _ _ _ _ _ _ _ _ _ _ _ _ _ _ _ _ _ _ _ _ _ _ _ _ _ _ _ _ _ _ _ _ _ _ _ _ _ _ _ _ _ _ _ _ _ _ _ _ _ _ _ _ _ _ _ _ _ _ _ _ _ _ _ _ _ _ _ _ _ _ _ _ _ _ _ _ _ _ _ _ _ _ _ _ _ _ _ _ _ _ _ _ _ _ _ _ _ _ _ _ _ _ _ _ _ _ _ _ _ _ _ _ _ _ _ _ _ _ _ _ _ _ _ _ _ _ _ _ _ _ _ _ _ _ _ _ _ _ _ _ _ _ _ _ _ _ _ _ _ _ _ _ _ _ _ _ _ _ _ _ _ _ _ _ _ _ _ _ _ _ _ _ _ _ _ _ _ _ _ _ _ _ _ _ _ _ _ _ _ _ _ _ _ _ _ _ _ _ _ _ _ _ _ _ _ _ _ _ _ _ _ _ _ _ _ _ _ _ _ _ _ _ _ _ _ _ _ _ _ _ _ _ _ _ _ _ _ _ _ _ _ _ _
theorem fill_t1 {w wc : World} {B cb n cap : Nat} {A : Option Addr} {row : List Lt} {S : Nat → Addr} {K : Nat → Nat} {G : Nat → Nat → Addr} {V0 : Nat → Nat → Nat → Nat} {i j : Nat} (hij : i < j) (hj : j ≤ n) (hn : n ≤ 100) (hl : row.length = n + 1) (hS : Shorter row n V0 (j - i)) (h0 : FR w B cb n cap A row S K G V0 i j 1 wc) 
    (c3 c4 c5 c6 c7 c8 c9 c10 c11 c12 c13 c14 c15 c16 c17 c18 c19 c20 c21 c22 c23 c24 c25 c26 c27 c28 c29 c30 c31 c32 c33 c34 c35 c36 c37 c38 c39 c40 c41 c42 c43 c44 c45 c46 c47 c48 c49 c50 c51 c52 c53 c54 c55 c56 c57 c58 c59 c60 c61 c62 c63 c64 c65 c66 c67 c68 c69 c70 c71 c72 c73 c74 c75 c76 c77 c78 c79 c80 c81 c82 c83 c84 c85 c86 c87 c88 c89 c90 c91 c92 c93 c94 c95 c96 c97 c98 c99 c100 c101 c102 c103 c104 c105 c106 c107 c108 c109 c110 c111 c112 c113 c114 c115 c116 c117 c118 c119 c120 c121 c122 c123 c124 c125 c126 c127 c128 c129 c130 c131 c132 c133 c134 c135 c136 c137 c138 c139 c140 c141 c142 c143 c144 c145 c146 c147 c148 c149 c150 c151 c152 c153 c154 c155 c156 c157 c158 c159 c160 c161 c162 c163 c164 c165 c166 c167 c168 c169 c170 c171 c172 c173 c174 c175 c176 c177 c178 c179 c180 c181 c182 c183 c184 c185 c186 c187 c188 c189 c190 c191 c192 c193 c194 c195 c196 c197 c198 c199 c200 c201 c202 c203 c204 c205 c206 c207 c208 c209 c210 c211 c212 c213 c214 c215 c216 c217 c218 c219 c220 c221 c222 c223 c224 c225 c226 c227 c228 c229 c230 c231 c232 c233 c234 c235 c236 c237 c238 c239 c240 c241 c242 c243 c244 c245 c246 c247 c248 c249 c250 c251 c252 c253 c254 c255 c256 c257 c258 c259 c260 c261 c262 c263 c264 c265 c266 c267 c268 c269 c270 c271 c272 c273 c274 c275 c276 c277 c278 : Value) :
    Code.wp Tryd.prog (tl 1) (bodyPost Tryd.prog Tryd.f42 (fun e w' => e = .returned (.tuple #[]) ∧ FR w B cb n cap A row S K G V0 i j 11 w')) ⟨#[.pointer (some ⟨cb, 0, none⟩), .int .i64 (i : Int), .int .i64 (j : Int), c3, c4, c5, c6, c7, c8, c9, c10, c11, c12, c13, c14, c15, c16, c17, c18, c19, c20, c21, c22, c23, c24, c25, c26, c27, c28, c29, c30, c31, c32, c33, c34, c35, c36, c37, c38, c39, c40, c41, c42, c43, c44, c45, c46, c47, c48, c49, c50, c51, c52, c53, c54, c55, c56, c57, c58, c59, c60, c61, c62, c63, c64, c65, c66, c67, c68, c69, c70, c71, c72, c73, c74, c75, c76, c77, c78, c79, c80, c81, c82, c83, c84, c85, c86, c87, c88, c89, c90, c91, c92, c93, c94, c95, c96, c97, c98, c99, c100, c101, c102, c103, c104, c105, c106, c107, c108, c109, c110, c111, c112, c113, c114, c115, c116, c117, c118, c119, c120, c121, c122, c123, c124, c125, c126, c127, c128, c129, c130, c131, c132, c133, c134, c135, c136, c137, c138, c139, c140, c141, c142, c143, c144, c145, c146, c147, c148, c149, c150, c151, c152, c153, c154, c155, c156, c157, c158, c159, c160, c161, c162, c163, c164, c165, c166, c167, c168, c169, c170, c171, c172, c173, c174, c175, c176, c177, c178, c179, c180, c181, c182, c183, c184, c185, c186, c187, c188, c189, c190, c191, c192, c193, c194, c195, c196, c197, c198, c199, c200, c201, c202, c203, c204, c205, c206, c207, c208, c209, c210, c211, c212, c213, c214, c215, c216, c217, c218, c219, c220, c221, c222, c223, c224, c225, c226, c227, c228, c229, c230, c231, c232, c233, c234, c235, c236, c237, c238, c239, c240, c241, c242, c243, c244, c245, c246, c247, c248, c249, c250, c251, c252, c253, c254, c255, c256, c257, c258, c259, c260, c261, c262, c263, c264, c265, c266, c267, c268, c269, c270, c271, c272, c273, c274, c275, c276, c277, c278], []⟩ wc := by
  have HL := Lib.hid hl; have HS := Lib.hid hS; have H1 := Lib.hid h0
  clear h0 hS hl
  conv => arg 2; whnf
  go_upto_region 1 with fail
  refine fill_ph1 hij hj hn HL.out HS.out H1.out _ _ _ _ _ _ _ _ _ _ _ _ _ _ _ _ _ _ _ _ _ _ _ _ _ _ _ _ _ _ _ _ _ _ _ _ _ _ _ _ _ _ _ _ _ _ _ _ _ _ _ _ _ _ _ _ _ _ _ _ _ _ _ _ _ _ _ _ _ _ _ _ _ _ _ _ _ _ _ _ _ _ _ _ _ _ _ _ _ _ _ _ _ _ _ _ _ _ _ _ _ _ _ _ _ _ _ _ _ _ _ _ _ _ _ _ _ _ _ _ _ _ _ _ _ _ _ _ _ _ _ _ _ _ _ _ _ _ _ _ _ _ _ _ _ _ _ _ _ _ _ _ _ _ _ _ _ _ _ _ _ _ _ _ _ _ _ _ _ _ _ _ _ _ _ _ _ _ _ _ _ _ _ _ _ _ _ _ _ _ _ _ _ _ _ _ _ _ _ _ _ _ _ _ _ _ _ _ _ _ _ _ _ _ _ _ _ _ _ _ _ _ _ _ _ _ _ _ _ _ _ _ _ _ _ _ _ _ _ _ _ _ _ _ _ _ _ _ _ _ _ _ _ _ _ _ _ _ _ _ _ _ _ _ _ _ _ _ _ _ _ _ _ _ _ _ _ _ ?_
  intro u22 u23 u24 u25 u26 u27 u28 u29 u30 u31 u32 u33 u34 u35 wcx hx
  rename_i kk_ ak_
  refine ak_ _ _ ?_
  exact fill_t2 hij hj hn HL.out HS.out hx _ _ _ _ _ _ _ _ _ _ _ _ _ _ _ _ _ _ _ _ _ _ _ _ _ _ _ _ _ _ _ _ _ _ _ _ _ _ _ _ _ _ _ _ _ _ _ _ _ _ _ _ _ _ _ _ _ _ _ _ _ _ _ _ _ _ _ _ _ _ _ _ _ _ _ _ _ _ _ _ _ _ _ _ _ _ _ _ _ _ _ _ _ _ _ _ _ _ _ _ _ _ _ _ _ _ _ _ _ _ _ _ _ _ _ _ _ _ _ _ _ _ _ _ _ _ _ _ _ _ _ _ _ _ _ _ _ _ _ _ _ _ _ _ _ _ _ _ _ _ _ _ _ _ _ _ _ _ _ _ _ _ _ _ _ _ _ _ _ _ _ _ _ _ _ _ _ _ _ _ _ _ _ _ _ _ _ _ _ _ _ _ _ _ _ _ _ _ _ _ _ _ _ _ _ _ _ _ _ _ _ _ _ _ _ _ _ _ _ _ _ _ _ _ _ _ _ _ _ _ _ _ _ _ _ _ _ _ _ _ _ _ _ _ _ _ _ _ _ _ _ _ _ _ _ _ _ _ _ _ _ _ _ _ _ _ _ _ _ _ _ _ _ _ _ _
theorem fill_any {w : World} {B cb n cap : Nat} {A : Option Addr} {row : List Lt} {S : Nat → Addr} {K : Nat → Nat} {G : Nat → Nat → Addr} {V0 : Nat → Nat → Nat → Nat} (h : ChAt w B cb A cap row n S K G V0) (i j : Nat) (hij : i < j) (hj : j ≤ n) (hV : ∀ p i j, V0 p i j ≤ 1) (hS : Shorter row n V0 (j - i)) :
    Calls Tryd.prog 42 #[.pointer (some ⟨cb, 0, none⟩), .int .i64 (i : Int), .int .i64 (j : Int)] w fun e w' => e = .returned (.tuple #[]) ∧ FR w B cb n cap A row S K G V0 i j 11 w' := by
  have hn : n ≤ 100 := by have := h.row_.small; have := h.len; omega
  have hl := h.len
  have hbi : (i : Int) < (n : Int) + 1 := by omega
  have hbj : (j : Int) < (n : Int) + 1 := by omega
  obtain ⟨m, hm⟩ : ∃ m, m = j - 1 := ⟨_, rfl⟩
  obtain ⟨s, hs⟩ : ∃ s, s = j - i := ⟨_, rfl⟩
  have hji : ((j : Int) - (i : Int)) = (s : Int) := by omega
  have hj1 : ((j : Int) - 1) = (m : Int) := by omega
  have hmn : m ≤ n := by omega
  have hsn : s ≤ 100 := by omega
  have hbm : (m : Int) < (n : Int) + 1 := by omega
  have HMJ := Lib.hid hm; have HSJ := Lib.hid hs
  clear hm hs
  have HL := Lib.hid hl; have HS := Lib.hid hS
  have H0 := Lib.hid (show FR w B cb n cap A row S K G V0 i j 0 w from ⟨V0, h, fun _ _ _ _ => rfl, fun p hp => absurd hp (Nat.not_lt_zero _), hV, Below.refl _ _⟩)
  clear h hV hS hl
  go_enter Tryd.func42, Tryd.ntmps42
  go_upto_region 0 with fail
  refine fill_ph0 hij hj hn HL.out HS.out H0.out _ _ _ _ _ _ _ _ _ _ _ _ _ _ _ _ _ _ _ _ _ _ _ _ _ _ _ _ _ _ _ _ _ _ _ _ _ _ _ _ _ _ _ _ _ _ _ _ _ _ _ _ _ _ _ _ _ _ _ _ _ _ _ _ _ _ _ _ _ _ _ _ _ _ _ _ _ _ _ _ _ _ _ _ _ _ _ _ _ _ _ _ _ _ _ _ _ _ _ _ _ _ _ _ _ _ _ _ _ _ _ _ _ _ _ _ _ _ _ _ _ _ _ _ _ _ _ _ _ _ _ _ _ _ _ _ _ _ _ _ _ _ _ _ _ _ _ _ _ _ _ _ _ _ _ _ _ _ _ _ _ _ _ _ _ _ _ _ _ _ _ _ _ _ _ _ _ _ _ _ _ _ _ _ _ _ _ _ _ _ _ _ _ _ _ _ _ _ _ _ _ _ _ _ _ _ _ _ _ _ _ _ _ _ _ _ _ _ _ _ _ _ _ _ _ _ _ _ _ _ _ _ _ _ _ _ _ _ _ _ _ _ _ _ _ _ _ _ _ _ _ _ _ _ _ _ _ _ _ _ _ _ _ _ _ _ _ _ _ _ _ _ _ _ _ _ _ _ ?_
  intro u8 u9 u10 u11 u12 u13 u14 u15 u16 u17 u18 u19 u20 u21 wcx hx
  rename_i kk_ ak_
  refine ak_ _ _ ?_
  exact fill_t1 hij hj hn HL.out HS.out hx _ _ _ _ _ _ _ _ _ _ _ _ _ _ _ _ _ _ _ _ _ _ _ _ _ _ _ _ _ _ _ _ _ _ _ _ _ _ _ _ _ _ _ _ _ _ _ _ _ _ _ _ _ _ _ _ _ _ _ _ _ _ _ _ _ _ _ _ _ _ _ _ _ _ _ _ _ _ _ _ _ _ _ _ _ _ _ _ _ _ _ _ _ _ _ _ _ _ _ _ _ _ _ _ _ _ _ _ _ _ _ _ _ _ _ _ _ _ _ _ _ _ _ _ _ _ _ _ _ _ _ _ _ _ _ _ _ _ _ _ _ _ _ _ _ _ _ _ _ _ _ _ _ _ _ _ _ _ _ _ _ _ _ _ _ _ _ _ _ _ _ _ _ _ _ _ _ _ _ _ _ _ _ _ _ _ _ _ _ _ _ _ _ _ _ _ _ _ _ _ _ _ _ _ _ _ _ _ _ _ _ _ _ _ _ _ _ _ _ _ _ _ _ _ _ _ _ _ _ _ _ _ _ _ _ _ _ _ _ _ _ _ _ _ _ _ _ _ _ _ _ _ _ _ _ _ _ _ _ _ _ _ _ _ _ _ _ _ _ _ _ _ _ _ _ _
end Go.Proofs.YtcomdkejpaoneaaDoor
end
