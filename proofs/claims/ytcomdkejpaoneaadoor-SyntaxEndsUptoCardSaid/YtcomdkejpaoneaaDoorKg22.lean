/- Merged for a claim by shake.py: Hg3 -/
import Derived.Test.YtcomdkejpaoneaaDoorKg21
section
namespace Go.Proofs.YtcomdkejpaoneaaDoor
open Go.RowKit
set_option maxRecDepth 1000000
set_option maxHeartbeats 3000000
set_option linter.unusedSimpArgs false
set_option linter.unusedVariables false
def tailOf (k : Nat) : Code → Option Code
  | .seq (.region id ops d) b => if id = k then some (.seq (.region id ops d) b) else tailOf k b
  | .seq (.seq (.region id ops d) c) b => if id = k then some (.seq (.seq (.region id ops d) c) b) else tailOf k b
  | .seq _ b => tailOf k b
  | _ => none
noncomputable def tl (k : Nat) : Code := ((Tryd.f42.body.bind (tailOf k)).getD .skip)
theorem fill_tail {w wc9 : World} {B cb n cap : Nat} {A : Option Addr} {row : List Lt} {S : Nat → Addr} {K : Nat → Nat} {G : Nat → Nat → Addr} {V0 : Nat → Nat → Nat → Nat} {i j : Nat} (hij : i < j) (hj : j ≤ n) (hn : n ≤ 100) (hl : row.length = n + 1) (hS : Shorter row n V0 (j - i)) (h0 : FR w B cb n cap A row S K G V0 i j 10 wc9)
    (c3 c4 c5 c6 c7 c8 c9 c10 c11 c12 c13 c14 c15 c16 c17 c18 c19 c20 c21 c22 c23 c24 c25 c26 c27 c28 c29 c30 c31 c32 c33 c34 c35 c36 c37 c38 c39 c40 c41 c42 c43 c44 c45 c46 c47 c48 c49 c50 c51 c52 c53 c54 c55 c56 c57 c58 c59 c60 c61 c62 c63 c64 c65 c66 c67 c68 c69 c70 c71 c72 c73 c74 c75 c76 c77 c78 c79 c80 c81 c82 c83 c84 c85 c86 c87 c88 c89 c90 c91 c92 c93 c94 c95 c96 c97 c98 c99 c100 c101 c102 c103 c104 c105 c106 c107 c108 c109 c110 c111 c112 c113 c114 c115 c116 c117 c118 c119 c120 c121 c122 c123 c124 c125 c126 c127 c128 c129 c130 c131 c132 c133 c134 c135 c136 c137 c138 c139 c140 c141 c142 c143 c144 c145 c146 c147 c148 c149 c150 c151 c152 c153 c154 c155 c156 c157 c158 c159 c160 c161 c162 c163 c164 c165 c166 c167 c168 c169 c170 c171 c172 c173 c174 c175 c176 c177 c178 c179 c180 c181 c182 c183 c184 c185 c186 c187 c188 c189 c190 c191 c192 c193 c194 c195 c196 c197 c198 c199 c200 c201 c202 c203 c204 c205 c206 c207 c208 c209 c210 c211 c212 c213 c214 c215 c216 c217 c218 c219 c220 c221 c222 c223 c224 c225 c226 c227 c228 c229 c230 c231 c232 c233 c234 c235 c236 c237 c238 c239 c240 c241 c242 c243 c244 c245 c246 c247 c248 c249 c250 c251 c252 c253 c254 c255 c256 c257 c258 c259 c260 c261 c262 c263 c264 c265 c266 c267 c268 c269 c270 c271 c272 c273 c274 c275 c276 c277 c278 : Value) :
    Code.wp Tryd.prog (tl 15) (bodyPost Tryd.prog Tryd.f42 (fun e w' => e = .returned (.tuple #[]) ∧ FR w B cb n cap A row S K G V0 i j 11 w')) ⟨#[.pointer (some ⟨cb, 0, none⟩), .int .i64 (i : Int), .int .i64 (j : Int), c3, c4, c5, c6, c7, c8, c9, c10, c11, c12, c13, c14, c15, c16, c17, c18, c19, c20, c21, c22, c23, c24, c25, c26, c27, c28, c29, c30, c31, c32, c33, c34, c35, c36, c37, c38, c39, c40, c41, c42, c43, c44, c45, c46, c47, c48, c49, c50, c51, c52, c53, c54, c55, c56, c57, c58, c59, c60, c61, c62, c63, c64, c65, c66, c67, c68, c69, c70, c71, c72, c73, c74, c75, c76, c77, c78, c79, c80, c81, c82, c83, c84, c85, c86, c87, c88, c89, c90, c91, c92, c93, c94, c95, c96, c97, c98, c99, c100, c101, c102, c103, c104, c105, c106, c107, c108, c109, c110, c111, c112, c113, c114, c115, c116, c117, c118, c119, c120, c121, c122, c123, c124, c125, c126, c127, c128, c129, c130, c131, c132, c133, c134, c135, c136, c137, c138, c139, c140, c141, c142, c143, c144, c145, c146, c147, c148, c149, c150, c151, c152, c153, c154, c155, c156, c157, c158, c159, c160, c161, c162, c163, c164, c165, c166, c167, c168, c169, c170, c171, c172, c173, c174, c175, c176, c177, c178, c179, c180, c181, c182, c183, c184, c185, c186, c187, c188, c189, c190, c191, c192, c193, c194, c195, c196, c197, c198, c199, c200, c201, c202, c203, c204, c205, c206, c207, c208, c209, c210, c211, c212, c213, c214, c215, c216, c217, c218, c219, c220, c221, c222, c223, c224, c225, c226, c227, c228, c229, c230, c231, c232, c233, c234, c235, c236, c237, c238, c239, c240, c241, c242, c243, c244, c245, c246, c247, c248, c249, c250, c251, c252, c253, c254, c255, c256, c257, c258, c259, c260, c261, c262, c263, c264, c265, c266, c267, c268, c269, c270, c271, c272, c273, c274, c275, c276, c277, c278], []⟩ wc9 := by
  have HL := Lib.hid hl; have HS := Lib.hid hS
  have hbi : (i : Int) < (n : Int) + 1 := by omega
  have hbj : (j : Int) < (n : Int) + 1 := by omega
  obtain ⟨V, hc, h2, h3, h4, h5⟩ := h0
  have HC := Lib.hid hc; have H2 := Lib.hid h2; have H3 := Lib.hid h3; have HV := Lib.hid h4; have HB := Lib.hid h5
  have HSV := Lib.hid (HS.out.to h2)
  clear h2 h3 h5 hS hl
  conv => arg 2; whnf
  have tX := HC.out.top 9 (by omega)
  rw [show 1 + 9 = 10 from rfl] at tX
  have mX := HC.out.mid 9 i (by omega) (by omega)
  have bX := (HC.out.bot 9 i j (by omega) (by omega) hj).1
  obtain ⟨d, hd⟩ : ∃ d, d = j - (i + 1) := ⟨_, rfl⟩
  have HD := Lib.hid hd
  have hvx := HV.out 9 i j
  have HXL := Lib.hid (show IsW .list (pc row i j) (V 9 i j + sumF (lsF V i j) (i + 1) d) from by rw [hd]; exact isW_lsN HL.out hij hj HSV.out (H3.out 9 (by omega)))
  have hi0 : ((i : Int) + 1) = ((i + 1 : Nat) : Int) := by omega
  have H0L := Lib.hid (show ChRel wc9 (lsF V i j) (V 9 i j) i d (.int .i64 ((V 9 i j : Nat) : Int)) (.int .i64 ((i : Int) + 1)) wc9 from ⟨0, 0, Nat.zero_le _, rfl, by rw [hi0], rfl⟩)
  have hlf : ∀ k, lsF V i j k ≤ 1 := fun k => Nat.mul_le_mul (HV.out 10 i k) (HV.out 9 k j)
  have HLF := Lib.hid hlf
  clear hc h4 hd hi0 hlf HSV
  generalize hvq : V 9 i j = vx at *
  go_wp2
  go_loopw [6, 7] (fun nv kv wr => ChRel wc9 (lsF V i j) vx i d nv kv wr) (fun _ kv _ => j - (intOf kv).toNat)
  case atStart => exact H0L.out
  case round =>
    clear H0L tX mX bX
    obtain ⟨c, z, hc, rfl, rfl, rfl⟩ := hrel
    have HCC := Lib.hid hc
    have h2 := HC.out.drewN z
    generalize hw2 : wc9.drewN z = w2 at *
    have HW2 := Lib.hid hw2
    obtain ⟨kk, hkk⟩ : ∃ kk, kk = i + 1 + c := ⟨_, rfl⟩
    rw [← hkk]
    have HKK := Lib.hid hkk
    have hsum := sumF_le HLF.out (i + 1) c
    have hcd : c ≤ 100 := by have := HD.out; omega
    have HVQ := Lib.hid hvq
    obtain ⟨su, hsu⟩ : ∃ su, su = sumF (lsF V i j) (i + 1) c := ⟨_, rfl⟩
    rw [← hsu] at hsum ⊢
    have HSU := Lib.hid hsu
    have HSS := Lib.hid (show sumF (lsF V i j) (i + 1) (c + 1) = su + lsF V i j kk from by rw [hsu, hkk]; rfl)
    have hvs : vx + su ≤ 200 := by omega
    have hkn : kk ≤ 300 := by omega
    clear hkk hsu hw2 hc hvq
    by_cases hlt : kk < j
    · have ta := h2.top 10 (by omega)
      rw [show 1 + 10 = 11 from rfl] at ta
      have ma := h2.mid 10 i (by omega) (by omega)
      have ba := (h2.bot 10 i kk (by omega) (by omega) (by omega)).1
      have tb := h2.top 9 (by omega)
      rw [show 1 + 9 = 10 from rfl] at tb
      have mb := h2.mid 9 kk (by omega) (by omega)
      have bb := (h2.bot 9 kk j (by omega) (by omega) hj).1
      obtain ⟨ab, hab⟩ : ∃ ab, ab = V 10 i kk * V 9 kk j := ⟨_, rfl⟩
      have hab1 : ab ≤ 1 := by rw [hab]; exact HLF.out kk
      have habi : ((V 10 i kk : Nat) : Int) * ((V 9 kk j : Nat) : Int) = (ab : Int) := by rw [hab, Int.natCast_mul]
      have HSE := Lib.hid (show ((vx + su : Nat) : Int) + (ab : Int) = ((vx + sumF (lsF V i j) (i + 1) (c + 1) : Nat) : Int) from by rw [HSS.out, show lsF V i j kk = ab from hab.symm]; omega)
      have va := HV.out 10 i kk; have vb := HV.out 9 kk j
      have hbk : (kk : Int) < (n : Int) + 1 := by omega
      clear hab h2
      generalize V 10 i kk = va0 at *
      generalize V 9 kk j = vb0 at *
      go_wp2_with fail
      go_quiet (fail)
      go_wp2
      go_roundw
      case rel => exact ⟨c + 1, z + nq, by have := HCC.out; have := HD.out; have := HKK.out; omega, by rw [← HSE.out]; rfl, by rw [HKK.out]; go_num, by rw [← HW2.out]; exact drewN_more _ _ _⟩
      case measure => simp [intOf]; omega
    · have hcd2 : c = d := by have := HCC.out; have := HD.out; have := HKK.out; omega
      have HR := Lib.hid (show vx + su = vx + sumF (lsF V i j) (i + 1) d from by rw [← hcd2, HSU.out])
      have HFX := Lib.hid (FR.mk' (HC.out.drewN z) H2.out H3.out HV.out (below_drewN HB.out z) (show 10 < 11 by omega) (by omega : i ≤ n) hj HXL.out)
      have tT := h2.top 10 (by omega)
      rw [show 1 + 10 = 11 from rfl] at tT
      have mT := h2.mid 10 i (by omega) (by omega)
      obtain ⟨bT1, bT2⟩ := h2.bot 10 i j (by omega) (by omega) hj
      rw [HW2.out, ← HR.out] at HFX
      obtain ⟨xl, hxl⟩ : ∃ xl, xl = vx + su := ⟨_, rfl⟩
      rw [← hxl] at HFX ⊢
      clear hcd2 h2 hxl
      go_wp2
      go_end0
      exact ⟨rfl, HFX.out⟩
end Go.Proofs.YtcomdkejpaoneaaDoor
end
