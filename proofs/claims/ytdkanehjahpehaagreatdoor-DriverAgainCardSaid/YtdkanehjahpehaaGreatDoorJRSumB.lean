/-
  The document's digest: its inner loops, each for itself.
-/
import Derived.Test.YtdkanehjahpehaaGreatDoorJRSumR

namespace Go.Proofs.YtdkanehjahpehaaGreatDoor
open Go.RowKit
set_option maxRecDepth 100000
attribute [local go_sem ↓] ld123 st123 al123 apt22_of apt155_of

def findBlk (n : Nat) : Code → Option Code
  | .seq a b => match findBlk n a with
    | some c => some c
    | none => findBlk n b
  | .block id c => if id = n then some (.block id c) else findBlk n c
  | .loop c => findBlk n c
  | .scope c => findBlk n c
  | .cond _ a b => match findBlk n a with
    | some c => some c
    | none => findBlk n b
  | _ => none

set_option maxHeartbeats 64000000 in
theorem rsum_b6 {Q : Exit → Act → World → Prop} {c0 c1 c2 c3 c4 c5 c6 c8 c9 c13 c14 c15 c16 c17 c18 c19 c20 c21 c22 c23 c24 c25 c26 c27 c28 c29 c30 c31 c32 c33 c34 c35 c36 c37 c38 c39 c40 c41 c42 c43 c44 c45 c46 c47 c48 c49 c50 c51 c52 c53 c54 c55 c56 c57 c58 c59 c60 c61 c62 c63 c64 c65 c66 c67 c68 c69 c70 c71 c72 c73 c74 c75 c76 c77 c78 c79 c80 c81 c82 c83 c84 c85 c86 c87 c88 c89 c90 c91 c92 c93 c94 c95 c96 c97 c98 c99 c100 c101 c102 c103 c104 c105 c106 c107 c108 c109 c110 c111 c112 c113 c114 c115 c116 c117 c118 c119 c120 c121 c122 c123 c124 c125 c126 c127 c128 c129 c130 c131 c132 c133 c134 c135 c136 c137 c138 c139 c140 c141 c142 c143 c144 c145 c146 c147 c148 c149 c150 c151 c152 c153 c154 c155 c156 c157 c158 c159 c160 c161 c162 c163 c164 c165 c166 c167 c168 c169 c170 c171 c172 c173 c174 c175 c176 c177 c178 c179 c180 c181 c182 c183 c184 c185 c186 c187 c188 c189 c190 c191 c192 c193 c194 c195 c196 c197 c198 c199 c200 c201 c202 c203 c204 c205 c206 c207 c208 c209 c210 c211 c212 c213 c214 c215 c216 c217 c218 c219 c220 c221 c222 c223 c224 c225 c226 c227 c228 c229 c230 c231 c232 c233 c234 c235 c236 c237 c238 c239 c240 c241 c242 c243 c244 c245 c246 c247 c248 c249 c250 c251 c252 c253 c254 c255 c256 c257 c258 c259 c260 c261 c262 c263 c264 c265 c266 c267 c268 c269 c270 c271 c272 c273 c274 c275 c276 c277 c278 c279 c280 c281 c282 c283 c284 c285 c286 c287 c288 c289 c290 c291 c292 c293 c294 c295 c296 c297 c298 c299 c300 c301 c302 c303 c304 c305 c306 c307 c308 c309 c310 c311 c312 c313 c314 c315 c316 c317 c318 c319 c320 c321 c322 c323 : Value} {gm om M cm J : Nat} {w : World} (blk : List Int) (c : Code) (hcode : (Tryz.f95.body.bind (findBlk 6)).getD .skip = c) (hJM : J + 64 ≤ M) (hM : M ≤ 300000000) (hgm : gm < w.heap.size) (hm : ∀ j, j < 64 → w.cell? ⟨gm, om + (J + j), none⟩ = some (.int .u8 (blk.getD j 0)))
    (hQ : ∀ (x13 x14 x62 x63 x64 x65 x66 x67 x68 x69 x70 x71 x72 x73 x74 x75 x76 x77 x78 x79 x80 x81 x82 x83 x84 x85 x86 x87 x88 x89 x90 x91 x92 x93 x94 x95 x96 x97 x98 x99 x100 x101 x102 x103 x104 x105 x106 x107 x108 x109 x110 x111 x112 x113 x114 x115 x116 x117 x118 x119 x120 x121 x122 x123 x124 x125 x126 x127 x128 x129 x130 x131 x132 x133 x134 x135 x136 x137 x138 x139 x140 x141 x142 x143 x144 x145 x146 x147 x148 x149 x150 x151 x152 x153 x154 x155 x156 x157 x158 x159 x160 x161 x162 x163 x164 x165 x166 x167 x168 x169 : Value) (Aw : Option Addr) (cw : Nat) (w' : World), Own32 w.heap.size w' (.slice Aw 64 cw) (schedP blk 64) → Below w.heap.size w w' → Q .normal ⟨#[c0, c1, c2, c3, c4, c5, c6, .slice (some ⟨gm, om, none⟩) M cm, c8, c9, .int .i64 (J : Int), .slice Aw 64 cw, .int .i64 64, x13, x14, c15, c16, c17, c18, c19, c20, c21, c22, c23, c24, c25, c26, c27, c28, c29, c30, c31, c32, c33, c34, c35, c36, c37, c38, c39, c40, c41, c42, c43, c44, c45, c46, c47, c48, c49, c50, c51, c52, c53, c54, c55, c56, c57, c58, c59, c60, c61, x62, x63, x64, x65, x66, x67, x68, x69, x70, x71, x72, x73, x74, x75, x76, x77, x78, x79, x80, x81, x82, x83, x84, x85, x86, x87, x88, x89, x90, x91, x92, x93, x94, x95, x96, x97, x98, x99, x100, x101, x102, x103, x104, x105, x106, x107, x108, x109, x110, x111, x112, x113, x114, x115, x116, x117, x118, x119, x120, x121, x122, x123, x124, x125, x126, x127, x128, x129, x130, x131, x132, x133, x134, x135, x136, x137, x138, x139, x140, x141, x142, x143, x144, x145, x146, x147, x148, x149, x150, x151, x152, x153, x154, x155, x156, x157, x158, x159, x160, x161, x162, x163, x164, x165, x166, x167, x168, x169, c170, c171, c172, c173, c174, c175, c176, c177, c178, c179, c180, c181, c182, c183, c184, c185, c186, c187, c188, c189, c190, c191, c192, c193, c194, c195, c196, c197, c198, c199, c200, c201, c202, c203, c204, c205, c206, c207, c208, c209, c210, c211, c212, c213, c214, c215, c216, c217, c218, c219, c220, c221, c222, c223, c224, c225, c226, c227, c228, c229, c230, c231, c232, c233, c234, c235, c236, c237, c238, c239, c240, c241, c242, c243, c244, c245, c246, c247, c248, c249, c250, c251, c252, c253, c254, c255, c256, c257, c258, c259, c260, c261, c262, c263, c264, c265, c266, c267, c268, c269, c270, c271, c272, c273, c274, c275, c276, c277, c278, c279, c280, c281, c282, c283, c284, c285, c286, c287, c288, c289, c290, c291, c292, c293, c294, c295, c296, c297, c298, c299, c300, c301, c302, c303, c304, c305, c306, c307, c308, c309, c310, c311, c312, c313, c314, c315, c316, c317, c318, c319, c320, c321, c322, c323], []⟩ w') :
    Code.wp Tryz.prog c Q ⟨#[c0, c1, c2, c3, c4, c5, c6, .slice (some ⟨gm, om, none⟩) M cm, c8, c9, .int .i64 (J : Int), .slice none 0 0, .int .i64 0, c13, c14, c15, c16, c17, c18, c19, c20, c21, c22, c23, c24, c25, c26, c27, c28, c29, c30, c31, c32, c33, c34, c35, c36, c37, c38, c39, c40, c41, c42, c43, c44, c45, c46, c47, c48, c49, c50, c51, c52, c53, c54, c55, c56, c57, c58, c59, c60, c61, c62, c63, c64, c65, c66, c67, c68, c69, c70, c71, c72, c73, c74, c75, c76, c77, c78, c79, c80, c81, c82, c83, c84, c85, c86, c87, c88, c89, c90, c91, c92, c93, c94, c95, c96, c97, c98, c99, c100, c101, c102, c103, c104, c105, c106, c107, c108, c109, c110, c111, c112, c113, c114, c115, c116, c117, c118, c119, c120, c121, c122, c123, c124, c125, c126, c127, c128, c129, c130, c131, c132, c133, c134, c135, c136, c137, c138, c139, c140, c141, c142, c143, c144, c145, c146, c147, c148, c149, c150, c151, c152, c153, c154, c155, c156, c157, c158, c159, c160, c161, c162, c163, c164, c165, c166, c167, c168, c169, c170, c171, c172, c173, c174, c175, c176, c177, c178, c179, c180, c181, c182, c183, c184, c185, c186, c187, c188, c189, c190, c191, c192, c193, c194, c195, c196, c197, c198, c199, c200, c201, c202, c203, c204, c205, c206, c207, c208, c209, c210, c211, c212, c213, c214, c215, c216, c217, c218, c219, c220, c221, c222, c223, c224, c225, c226, c227, c228, c229, c230, c231, c232, c233, c234, c235, c236, c237, c238, c239, c240, c241, c242, c243, c244, c245, c246, c247, c248, c249, c250, c251, c252, c253, c254, c255, c256, c257, c258, c259, c260, c261, c262, c263, c264, c265, c266, c267, c268, c269, c270, c271, c272, c273, c274, c275, c276, c277, c278, c279, c280, c281, c282, c283, c284, c285, c286, c287, c288, c289, c290, c291, c292, c293, c294, c295, c296, c297, c298, c299, c300, c301, c302, c303, c304, c305, c306, c307, c308, c309, c310, c311, c312, c313, c314, c315, c316, c317, c318, c319, c320, c321, c322, c323], []⟩ w := by
  subst hcode
  conv => arg 2; whnf
  have HM := Lib.hid hm
  clear hm
  go_wp2_with fail
  go_loopg [11, 12] 64 (fun k wv t wx => ∃ (i : Nat) (A : Option Addr) (c : Nat), i + k = 64 ∧ t = .int .i64 (i : Int) ∧ wv = .slice A i c ∧ Own32 w.heap.size wx wv (schedP blk i) ∧ Below w.heap.size w wx)
  case atStart => exact ⟨0, none, 0, by omega, rfl, rfl, by rw [schedP_zero]; exact Own32.nil _ _, Below.refl _ _⟩
  case round =>
    obtain ⟨i, Aw, cw, hi, rfl, rfl, how, hbx⟩ := hrel
    by_cases hi64 : i < 64
    · have hi64I : (i : Int) < 64 := by omega
      by_cases hi16 : i < 16
      · have hi16I : (i : Int) < 16 := by omega
        obtain ⟨I4, hI4⟩ : ∃ I4, I4 = 4 * i := ⟨_, rfl⟩
        obtain ⟨P0, hP0⟩ : ∃ P, P = J + I4 := ⟨_, rfl⟩
        obtain ⟨P1, hP1⟩ : ∃ P, P = P0 + 1 := ⟨_, rfl⟩
        obtain ⟨P2, hP2⟩ : ∃ P, P = P0 + 2 := ⟨_, rfl⟩
        obtain ⟨P3, hP3⟩ : ∃ P, P = P0 + 3 := ⟨_, rfl⟩
        have q0 : IntKind.i64.wrap (4 * (i : Int)) = (I4 : Int) := by rw [IntKind.wrap_i64]; omega
        have q1 : IntKind.i64.wrap ((J : Int) + (I4 : Int)) = (P0 : Int) := by rw [IntKind.wrap_i64]; omega
        have q2 : IntKind.i64.wrap ((P0 : Int) + 1) = (P1 : Int) := by rw [IntKind.wrap_i64]; omega
        have q3 : IntKind.i64.wrap ((P0 : Int) + 2) = (P2 : Int) := by rw [IntKind.wrap_i64]; omega
        have q4 : IntKind.i64.wrap ((P0 : Int) + 3) = (P3 : Int) := by rw [IntKind.wrap_i64]; omega
        have b0 : P0 < M := by omega
        have b1 : P1 < M := by omega
        have b2 : P2 < M := by omega
        have b3 : P3 < M := by omega
        have i0 : (P0 : Int) < (M : Int) := by omega
        have i1 : (P1 : Int) < (M : Int) := by omega
        have i2 : (P2 : Int) < (M : Int) := by omega
        have i3 : (P3 : Int) < (M : Int) := by omega
        have hcell : ∀ P d, P = J + (4 * i + d) → d < 4 → wr.cell? ⟨gm, om + P, none⟩ = some (.int .u8 (blk.getD (4 * i + d) 0)) := fun P d hP hd => by
          rw [(hbx.cell (p := ⟨gm, om + P, none⟩) hgm), hP]
          exact HM.out (4 * i + d) (by omega)
        have e0 := hcell P0 0 (by omega) (by omega)
        have e1 := hcell P1 1 (by omega) (by omega)
        have e2 := hcell P2 2 (by omega) (by omega)
        have e3 := hcell P3 3 (by omega) (by omega)
        rw [Nat.add_zero] at e0
        obtain ⟨x0, hx0⟩ : ∃ x, blk.getD (4 * i) 0 = x := ⟨_, rfl⟩
        obtain ⟨x1, hx1⟩ : ∃ x, blk.getD (4 * i + 1) 0 = x := ⟨_, rfl⟩
        obtain ⟨x2, hx2⟩ : ∃ x, blk.getD (4 * i + 2) 0 = x := ⟨_, rfl⟩
        obtain ⟨x3, hx3⟩ : ∃ x, blk.getD (4 * i + 3) 0 = x := ⟨_, rfl⟩
        rw [hx0] at e0
        rw [hx1] at e1
        rw [hx2] at e2
        rw [hx3] at e3
        have hsch : schedP blk (i + 1) = schedP blk i ++ [wordB x0 x1 x2 x3] := by
          rw [schedP, if_pos hi16]
          unfold wordAt
          rw [hx0, hx1, hx2, hx3]
        have hwB : wordB x0 x1 x2 x3 = bits .or .u32 (bits .or .u32 (bits .or .u32 (IntKind.u32.wrap (IntKind.u32.wrap x0 * 16777216)) (IntKind.u32.wrap (IntKind.u32.wrap x1 * 65536))) (IntKind.u32.wrap (IntKind.u32.wrap x2 * 256))) (IntKind.u32.wrap x3) := by
          unfold wordB
          simp only [IntKind.wrap_u32]
        obtain ⟨v', w', hap, ho', hf', _⟩ := app32_oneD (ty := 185) how (wordB x0 x1 x2 x3) (by rw [schedP_len]; omega) hbx.size 1
        rw [← hsch] at ho'
        have hbd := hf'.below (B := w.heap.size) hbx.size (fun k hk e => by have := (how.lt e).1; omega)
        obtain ⟨A8, c8, rfl⟩ := ho'.form
        rw [schedP_len] at hap ho'
        rw [hwB, show ∀ W : World, W.drewN 1 = W.drew from fun _ => rfl] at hap
        have hbf : Below w.heap.size w w' := hbx.trans hbd
        have HO8 := Lib.hid ho'
        have HBF := Lib.hid hbf
        clear how hbx hf' hbd hsch hx0 hx1 hx2 hx3 hcell ho' hbf hP1 hP2 hP3 hP0 hI4 hwB
        go_wp2_with fail
        with_reducible refine rsum_r18 _ (by kernel_rfl) hi64I q0 q1 q2 q3 q4 b0 i0 e0 b1 i1 e1 b2 i2 e2 b3 i3 e3 hap ?_
        intros
        go_wp2_with fail
        go_roundg (64 - (i + 1))
        case measure => omega
        case rel => exact ⟨i + 1, _, _, by omega, by go_num, rfl, HO8.out, HBF.out⟩
      · have hi16I : ¬ ((i : Int) < 16) := by omega
        obtain ⟨SW, hSW⟩ : ∃ SW, schedP blk i = SW := ⟨_, rfl⟩
        have hSl : SW.length = i := by rw [← hSW, schedP_len]
        rw [hSW] at how
        obtain ⟨gw, capw, ew, hgw1, hgw2, hwc⟩ := how.cells (by omega)
        rw [hSl] at ew
        simp only [Value.slice.injEq, true_and] at ew
        obtain ⟨rfl, rfl⟩ := ew
        obtain ⟨I15, hI15⟩ : ∃ I, I = i - 15 := ⟨_, rfl⟩
        obtain ⟨I2, hI2⟩ : ∃ I, I = i - 2 := ⟨_, rfl⟩
        obtain ⟨I16, hI16⟩ : ∃ I, I = i - 16 := ⟨_, rfl⟩
        obtain ⟨I7, hI7⟩ : ∃ I, I = i - 7 := ⟨_, rfl⟩
        have q15 : IntKind.i64.wrap ((i : Int) - 15) = (I15 : Int) := by rw [IntKind.wrap_i64]; omega
        have q2 : IntKind.i64.wrap ((i : Int) - 2) = (I2 : Int) := by rw [IntKind.wrap_i64]; omega
        have q16 : IntKind.i64.wrap ((i : Int) - 16) = (I16 : Int) := by rw [IntKind.wrap_i64]; omega
        have q7 : IntKind.i64.wrap ((i : Int) - 7) = (I7 : Int) := by rw [IntKind.wrap_i64]; omega
        have n15 : I15 < i := by omega
        have n2 : I2 < i := by omega
        have n16 : I16 < i := by omega
        have n7 : I7 < i := by omega
        have m15 : (I15 : Int) < (i : Int) := by omega
        have m2 : (I2 : Int) < (i : Int) := by omega
        have m16 : (I16 : Int) < (i : Int) := by omega
        have m7 : (I7 : Int) < (i : Int) := by omega
        have l15 := (hwc I15 (by omega)).1
        have l2 := (hwc I2 (by omega)).1
        have l16 := (hwc I16 (by omega)).1
        have l7 := (hwc I7 (by omega)).1
        obtain ⟨xa, hxa⟩ : ∃ x, SW.getD I15 0 = x := ⟨_, rfl⟩
        obtain ⟨xb, hxb⟩ : ∃ x, SW.getD I2 0 = x := ⟨_, rfl⟩
        obtain ⟨xp, hxp⟩ : ∃ x, SW.getD I16 0 = x := ⟨_, rfl⟩
        obtain ⟨xq, hxq⟩ : ∃ x, SW.getD I7 0 = x := ⟨_, rfl⟩
        rw [hxa] at l15
        rw [hxb] at l2
        rw [hxp] at l16
        rw [hxq] at l7
        have hsch : schedP blk (i + 1) = SW ++ [nextW xp xa xq xb] := by
          rw [schedP, if_neg hi16, hSW, ← hI16, ← hI15, ← hI7, ← hI2, hxp, hxa, hxq, hxb]
        have hwN : nextW xp xa xq xb = IntKind.u32.wrap (IntKind.u32.wrap (IntKind.u32.wrap (xp + bits .xor .u32 (bits .xor .u32 (rotQ xa 7) (rotQ xa 18)) (xa / 8)) + xq) + bits .xor .u32 (bits .xor .u32 (rotQ xb 17) (rotQ xb 19)) (xb / 1024)) := by
          unfold nextW s0P s1P x3P
          simp only [rotQ_eq]
        have HSL := Lib.hid hSl
        have HOW := Lib.hid how
        have HBX := Lib.hid hbx
        have HSC := Lib.hid hsch
        have HWN := Lib.hid hwN
        clear hSW hSl how hwc hI15 hI2 hI16 hI7 hxa hxb hxp hxq hsch hbx hwN
        go_wp2_with fail
        with_reducible refine rsum_r19 _ (by kernel_rfl) hi64I q15 n15 m15 l15 ?_
        intros
        go_wp2_with fail
        generalize hwy : World.drewN wr _ = wy
        have l2' : wy.cell? ⟨gw, I2, none⟩ = some (.int .u32 xb) := by rw [← hwy]; exact l2
        have l16' : wy.cell? ⟨gw, I16, none⟩ = some (.int .u32 xp) := by rw [← hwy]; exact l16
        have l7' : wy.cell? ⟨gw, I7, none⟩ = some (.int .u32 xq) := by rw [← hwy]; exact l7
        have how' : Own32 w.heap.size wy (.slice (some ⟨gw, 0, none⟩) i cw) SW := by rw [← hwy]; exact HOW.out
        have hbx' : Below w.heap.size w wy := by rw [← hwy]; exact below_drewN HBX.out _
        have HOW' := Lib.hid how'
        have HBX' := Lib.hid hbx'
        clear how' hbx' hwy l2 l16 l7 l15 HOW HBX
        with_reducible refine rsum_r20 _ (by kernel_rfl) hi64I q2 n2 m2 l2' ?_
        intros
        go_wp2_with fail
        generalize hwz : World.drewN wy _ = wz
        have l16'' : wz.cell? ⟨gw, I16, none⟩ = some (.int .u32 xp) := by rw [← hwz]; exact l16'
        have l7'' : wz.cell? ⟨gw, I7, none⟩ = some (.int .u32 xq) := by rw [← hwz]; exact l7'
        have how'' : Own32 w.heap.size wz (.slice (some ⟨gw, 0, none⟩) i cw) SW := by rw [← hwz]; exact HOW'.out
        have hbx'' : Below w.heap.size w wz := by rw [← hwz]; exact below_drewN HBX'.out _
        obtain ⟨v', w', hap, ho', hf', _⟩ := app32_oneD (ty := 185) how'' (nextW xp xa xq xb) (by rw [HSL.out]; omega) hbx''.size 1
        rw [← HSC.out] at ho'
        have hbd := hf'.below (B := w.heap.size) hbx''.size (fun k hk e => by have := (how''.lt e).1; omega)
        obtain ⟨A8, c8, rfl⟩ := ho'.form
        rw [schedP_len] at hap ho'
        rw [HWN.out, show ∀ W : World, W.drewN 1 = W.drew from fun _ => rfl] at hap
        have HO8 := Lib.hid ho'
        have HBF := Lib.hid (hbx''.trans hbd)
        clear hwz l2' l16' l7' HOW' HBX' how'' hbx'' ho' hf' hbd
        with_reducible refine rsum_r21 _ (by kernel_rfl) hi64I q16 q7 n16 n7 m16 m7 l16'' l7'' hap ?_
        intros
        go_wp2_with fail
        go_roundg (64 - (i + 1))
        case measure => omega
        case rel => exact ⟨i + 1, _, _, by omega, by go_num, rfl, HO8.out, HBF.out⟩
    · obtain rfl : i = 64 := by omega
      have hi64I : ¬ (((64 : Nat) : Int) < 64) := by omega
      have HO8 := Lib.hid how
      have HBF := Lib.hid hbx
      clear how hbx
      go_wp2_with fail
      exact hQ _ _ _ _ _ _ _ _ _ _ _ _ _ _ _ _ _ _ _ _ _ _ _ _ _ _ _ _ _ _ _ _ _ _ _ _ _ _ _ _ _ _ _ _ _ _ _ _ _ _ _ _ _ _ _ _ _ _ _ _ _ _ _ _ _ _ _ _ _ _ _ _ _ _ _ _ _ _ _ _ _ _ _ _ _ _ _ _ _ _ _ _ _ _ _ _ _ _ _ _ _ _ _ _ _ _ _ _ _ _ _ _ _ HO8.out HBF.out


set_option maxHeartbeats 64000000 in
theorem rsum_b8 {Q : Exit → Act → World → Prop} {c0 c1 c3 c4 c5 c6 c7 c8 c9 c10 c12 c13 c14 c17 c18 c19 c20 c21 c22 c23 c24 c25 c26 c27 c28 c29 c30 c31 c32 c33 c34 c35 c36 c37 c38 c39 c40 c41 c42 c43 c44 c45 c46 c47 c48 c49 c50 c51 c52 c53 c54 c55 c56 c57 c58 c59 c60 c61 c62 c63 c64 c65 c66 c67 c68 c69 c70 c71 c72 c73 c74 c75 c76 c77 c78 c79 c80 c81 c82 c83 c84 c85 c86 c87 c88 c89 c90 c91 c92 c93 c94 c95 c96 c97 c98 c99 c100 c101 c102 c103 c104 c105 c106 c107 c108 c109 c110 c111 c112 c113 c114 c115 c116 c117 c118 c119 c120 c121 c122 c123 c124 c125 c126 c127 c128 c129 c130 c131 c132 c133 c134 c135 c136 c137 c138 c139 c140 c141 c142 c143 c144 c145 c146 c147 c148 c149 c150 c151 c152 c153 c154 c155 c156 c157 c158 c159 c160 c161 c162 c163 c164 c165 c166 c167 c168 c169 c170 c171 c172 c173 c174 c175 c176 c177 c178 c179 c180 c181 c182 c183 c184 c185 c186 c187 c188 c189 c190 c191 c192 c193 c194 c195 c196 c197 c198 c199 c200 c201 c202 c203 c204 c205 c206 c207 c208 c209 c210 c211 c212 c213 c214 c215 c216 c217 c218 c219 c220 c221 c222 c223 c224 c225 c226 c227 c228 c229 c230 c231 c232 c233 c234 c235 c236 c237 c238 c239 c240 c241 c242 c243 c244 c245 c246 c247 c248 c249 c250 c251 c252 c253 c254 c255 c256 c257 c258 c259 c260 c261 c262 c263 c264 c265 c266 c267 c268 c269 c270 c271 c272 c273 c274 c275 c276 c277 c278 c279 c280 c281 c282 c283 c284 c285 c286 c287 c288 c289 c290 c291 c292 c293 c294 c295 c296 c297 c298 c299 c300 c301 c302 c303 c304 c305 c306 c307 c308 c309 c310 c311 c312 c313 c314 c315 c316 c317 c318 c319 c320 c321 c322 c323 : Value} {gK oK cK gw cw k8 : Nat} {A8 : Option Addr} {w : World} (B : Nat) (h blk : List Int) (c : Code) (hcode : (Tryz.f95.body.bind (findBlk 8)).getD .skip = c) (hB : B ≤ w.heap.size) (hgK : gK < w.heap.size) (hkc : ∀ i, i < 64 → w.cell? ⟨gK, oK + i, none⟩ = some (.int .u32 (K0.getD i 0))) (hgw : gw < w.heap.size) (hwc : ∀ i, i < 64 → w.cell? ⟨gw, i, none⟩ = some (.int .u32 ((schedP blk 64).getD i 0))) (hhl : h.length = 8) (hhw : W32 h) (hoh : Own32 B w (.slice A8 8 k8) h)
    (hQ : ∀ (x17 x18 x19 x20 x21 x173 x174 x175 x176 x177 x178 x179 x180 x181 x182 x183 x184 x185 x186 x187 x188 x189 x190 x191 x192 x193 x194 x195 x196 x197 x198 x199 x200 x201 x202 x203 x204 x205 x206 x207 x208 x209 x210 x211 x212 x213 x214 x215 x216 x217 x218 x219 x220 x221 x222 x223 x224 x225 x226 x227 x228 x229 x230 x231 x232 x233 x234 x235 x236 x237 x238 x239 x240 x241 x242 x243 x244 x245 x246 x247 x248 x249 x250 x251 x252 x253 x254 x255 x256 x257 x258 x259 x260 x261 x262 x263 x264 x265 x266 x267 x268 x269 x270 x271 x272 x273 x274 x275 x276 x277 x278 x279 x280 x281 x282 x283 x284 x285 x286 x287 x288 x289 : Value) (Av : Option Addr) (cv : Nat) (w' : World), Own32 B w' (.slice Av 8 cv) (roundsP h blk 64) → Below w.heap.size w w' → Q .normal ⟨#[c0, c1, .slice (some ⟨gK, oK, none⟩) 64 cK, c3, c4, c5, c6, c7, c8, c9, c10, .slice (some ⟨gw, 0, none⟩) 64 cw, c12, c13, c14, .slice Av 8 cv, .int .i64 64, x17, x18, x19, x20, x21, c22, c23, c24, c25, c26, c27, c28, c29, c30, c31, c32, c33, c34, c35, c36, c37, c38, c39, c40, c41, c42, c43, c44, c45, c46, c47, c48, c49, c50, c51, c52, c53, c54, c55, c56, c57, c58, c59, c60, c61, c62, c63, c64, c65, c66, c67, c68, c69, c70, c71, c72, c73, c74, c75, c76, c77, c78, c79, c80, c81, c82, c83, c84, c85, c86, c87, c88, c89, c90, c91, c92, c93, c94, c95, c96, c97, c98, c99, c100, c101, c102, c103, c104, c105, c106, c107, c108, c109, c110, c111, c112, c113, c114, c115, c116, c117, c118, c119, c120, c121, c122, c123, c124, c125, c126, c127, c128, c129, c130, c131, c132, c133, c134, c135, c136, c137, c138, c139, c140, c141, c142, c143, c144, c145, c146, c147, c148, c149, c150, c151, c152, c153, c154, c155, c156, c157, c158, c159, c160, c161, c162, c163, c164, c165, c166, c167, c168, c169, c170, c171, c172, x173, x174, x175, x176, x177, x178, x179, x180, x181, x182, x183, x184, x185, x186, x187, x188, x189, x190, x191, x192, x193, x194, x195, x196, x197, x198, x199, x200, x201, x202, x203, x204, x205, x206, x207, x208, x209, x210, x211, x212, x213, x214, x215, x216, x217, x218, x219, x220, x221, x222, x223, x224, x225, x226, x227, x228, x229, x230, x231, x232, x233, x234, x235, x236, x237, x238, x239, x240, x241, x242, x243, x244, x245, x246, x247, x248, x249, x250, x251, x252, x253, x254, x255, x256, x257, x258, x259, x260, x261, x262, x263, x264, x265, x266, x267, x268, x269, x270, x271, x272, x273, x274, x275, x276, x277, x278, x279, x280, x281, x282, x283, x284, x285, x286, x287, x288, x289, c290, c291, c292, c293, c294, c295, c296, c297, c298, c299, c300, c301, c302, c303, c304, c305, c306, c307, c308, c309, c310, c311, c312, c313, c314, c315, c316, c317, c318, c319, c320, c321, c322, c323], []⟩ w') :
    Code.wp Tryz.prog c Q ⟨#[c0, c1, .slice (some ⟨gK, oK, none⟩) 64 cK, c3, c4, c5, c6, c7, c8, c9, c10, .slice (some ⟨gw, 0, none⟩) 64 cw, c12, c13, c14, .slice A8 8 k8, .int .i64 0, c17, c18, c19, c20, c21, c22, c23, c24, c25, c26, c27, c28, c29, c30, c31, c32, c33, c34, c35, c36, c37, c38, c39, c40, c41, c42, c43, c44, c45, c46, c47, c48, c49, c50, c51, c52, c53, c54, c55, c56, c57, c58, c59, c60, c61, c62, c63, c64, c65, c66, c67, c68, c69, c70, c71, c72, c73, c74, c75, c76, c77, c78, c79, c80, c81, c82, c83, c84, c85, c86, c87, c88, c89, c90, c91, c92, c93, c94, c95, c96, c97, c98, c99, c100, c101, c102, c103, c104, c105, c106, c107, c108, c109, c110, c111, c112, c113, c114, c115, c116, c117, c118, c119, c120, c121, c122, c123, c124, c125, c126, c127, c128, c129, c130, c131, c132, c133, c134, c135, c136, c137, c138, c139, c140, c141, c142, c143, c144, c145, c146, c147, c148, c149, c150, c151, c152, c153, c154, c155, c156, c157, c158, c159, c160, c161, c162, c163, c164, c165, c166, c167, c168, c169, c170, c171, c172, c173, c174, c175, c176, c177, c178, c179, c180, c181, c182, c183, c184, c185, c186, c187, c188, c189, c190, c191, c192, c193, c194, c195, c196, c197, c198, c199, c200, c201, c202, c203, c204, c205, c206, c207, c208, c209, c210, c211, c212, c213, c214, c215, c216, c217, c218, c219, c220, c221, c222, c223, c224, c225, c226, c227, c228, c229, c230, c231, c232, c233, c234, c235, c236, c237, c238, c239, c240, c241, c242, c243, c244, c245, c246, c247, c248, c249, c250, c251, c252, c253, c254, c255, c256, c257, c258, c259, c260, c261, c262, c263, c264, c265, c266, c267, c268, c269, c270, c271, c272, c273, c274, c275, c276, c277, c278, c279, c280, c281, c282, c283, c284, c285, c286, c287, c288, c289, c290, c291, c292, c293, c294, c295, c296, c297, c298, c299, c300, c301, c302, c303, c304, c305, c306, c307, c308, c309, c310, c311, c312, c313, c314, c315, c316, c317, c318, c319, c320, c321, c322, c323], []⟩ w := by
  subst hcode
  conv => arg 2; whnf
  have HKC := Lib.hid hkc
  have HWC := Lib.hid hwc
  have HHL := Lib.hid hhl
  have HHW := Lib.hid hhw
  have HOH := Lib.hid hoh
  clear hkc hwc hhl hhw hoh
  go_wp2_with fail
  go_loopg [15, 16] 64 (fun k vv t wx => ∃ (i : Nat) (A : Option Addr) (c : Nat), i + k = 64 ∧ t = .int .i64 (i : Int) ∧ vv = .slice A 8 c ∧ Own32 B wx vv (roundsP h blk i) ∧ Below w.heap.size w wx)
  case atStart => exact ⟨0, _, _, by omega, rfl, rfl, by rw [roundsP_zero]; exact HOH.out, Below.refl _ _⟩
  case round =>
    clear HOH
    obtain ⟨i, Av, cv, hi, rfl, rfl, hov, hbx⟩ := hrel
    by_cases hi64 : i < 64
    · have hi64I : (i : Int) < 64 := by omega
      have hRl := roundsP_len h blk HHL.out i
      have hRw : W32 (roundsP h blk i) := roundsP_w HHW.out i
      obtain ⟨a0, a1, a2, a3, a4, a5, a6, a7, hR⟩ := eight hRl
      rw [hR] at hov hRw
      obtain ⟨gv, capv, ev, hgv1, hgv2, hvc⟩ := hov.cells (by simp)
      simp only [List.length_cons, List.length_nil, Nat.reduceAdd, Value.slice.injEq, true_and] at ev
      obtain ⟨rfl, rfl⟩ := ev
      have v0 := (hvc 0 (by simp)).1
      have v1 := (hvc 1 (by simp)).1
      have v2 := (hvc 2 (by simp)).1
      have v3 := (hvc 3 (by simp)).1
      have v4 := (hvc 4 (by simp)).1
      have v5 := (hvc 5 (by simp)).1
      have v6 := (hvc 6 (by simp)).1
      have v7 := (hvc 7 (by simp)).1
      simp only [List.getD_cons_zero, List.getD_cons_succ] at v0 v1 v2 v3 v4 v5 v6 v7
      have h4b : 0 ≤ a4 ∧ a4 ≤ 4294967295 := hRw a4 (by simp)
      have hwi : wr.cell? ⟨gw, i, none⟩ = some (.int .u32 ((schedP blk 64).getD i 0)) := (hbx.cell (p := ⟨gw, i, none⟩) hgw).trans (HWC.out i hi64)
      have hki : wr.cell? ⟨gK, oK + i, none⟩ = some (.int .u32 (K0.getD i 0)) := (hbx.cell (p := ⟨gK, oK + i, none⟩) hgK).trans (HKC.out i hi64)
      obtain ⟨xk, hxk⟩ : ∃ x, K0.getD i 0 = x := ⟨_, rfl⟩
      obtain ⟨xw, hxw⟩ : ∃ x, (schedP blk 64).getD i 0 = x := ⟨_, rfl⟩
      rw [hxk] at hki
      rw [hxw] at hwi
      have hrs : roundsP h blk (i + 1) = roundP [a0, a1, a2, a3, a4, a5, a6, a7] xk xw := by
        rw [roundsP_succ, hR, hxk, hxw]
      have HRS := Lib.hid hrs
      have H4B := Lib.hid h4b
      have HBX2 := Lib.hid hbx
      clear hRl hRw hR hov hvc hxk hxw hrs h4b hbx
      go_wp2_with fail
      with_reducible refine rsum_r26 _ (by kernel_rfl) v4 ?_
      intros
      go_wp2_with fail
      generalize hwa : World.drewN wr _ = wa
      have u4 : wa.cell? ⟨gv, 4, none⟩ = some (.int .u32 a4) := by rw [← hwa]; exact v4
      have u5 : wa.cell? ⟨gv, 5, none⟩ = some (.int .u32 a5) := by rw [← hwa]; exact v5
      have u6 : wa.cell? ⟨gv, 6, none⟩ = some (.int .u32 a6) := by rw [← hwa]; exact v6
      with_reducible refine rsum_r27 _ (by kernel_rfl) u4 u5 u6 ?_
      intros
      go_wp2_with fail
      clear u4 u5 u6
      generalize hwb : World.drewN wa _ = wb
      have u7 : wb.cell? ⟨gv, 7, none⟩ = some (.int .u32 a7) := by rw [← hwb, ← hwa]; exact v7
      have uk : wb.cell? ⟨gK, oK + i, none⟩ = some (.int .u32 xk) := by rw [← hwb, ← hwa]; exact hki
      have uw : wb.cell? ⟨gw, i, none⟩ = some (.int .u32 xw) := by rw [← hwb, ← hwa]; exact hwi
      with_reducible refine rsum_r28 _ (by kernel_rfl) hi64I u7 uk uw ?_
      intros
      go_wp2_with fail
      clear u7 uk uw
      generalize hwy : World.drewN wb _ = wy
      have u0 : wy.cell? ⟨gv, 0, none⟩ = some (.int .u32 a0) := by rw [← hwy, ← hwb, ← hwa]; exact v0
      have u1 : wy.cell? ⟨gv, 1, none⟩ = some (.int .u32 a1) := by rw [← hwy, ← hwb, ← hwa]; exact v1
      have u2 : wy.cell? ⟨gv, 2, none⟩ = some (.int .u32 a2) := by rw [← hwy, ← hwb, ← hwa]; exact v2
      have u3 : wy.cell? ⟨gv, 3, none⟩ = some (.int .u32 a3) := by rw [← hwy, ← hwb, ← hwa]; exact v3
      have u4 : wy.cell? ⟨gv, 4, none⟩ = some (.int .u32 a4) := by rw [← hwy, ← hwb, ← hwa]; exact v4
      have u5 : wy.cell? ⟨gv, 5, none⟩ = some (.int .u32 a5) := by rw [← hwy, ← hwb, ← hwa]; exact v5
      have u6 : wy.cell? ⟨gv, 6, none⟩ = some (.int .u32 a6) := by rw [← hwy, ← hwb, ← hwa]; exact v6
      have hby : Below w.heap.size w wy := by rw [← hwy, ← hwb, ← hwa]; exact below_drewN (below_drewN (below_drewN HBX2.out _) _) _
      have HBY := Lib.hid hby
      clear v0 v1 v2 v3 v4 v5 v6 v7 hwi hki hwy hwa hwb hby
      with_reducible refine rsum_r29 _ (by kernel_rfl) u0 ?_
      intros
      go_wp2_with fail
      generalize hwd : World.drewN wy _ = wd
      have t0 : wd.cell? ⟨gv, 0, none⟩ = some (.int .u32 a0) := by rw [← hwd]; exact u0
      have t1 : wd.cell? ⟨gv, 1, none⟩ = some (.int .u32 a1) := by rw [← hwd]; exact u1
      have t2 : wd.cell? ⟨gv, 2, none⟩ = some (.int .u32 a2) := by rw [← hwd]; exact u2
      with_reducible refine rsum_r30 _ (by kernel_rfl) t0 t1 t2 ?_
      intros
      go_wp2_with fail
      clear t0 t1 t2
      generalize hwz : World.drewN wd _ = wz
      have v0 : wz.cell? ⟨gv, 0, none⟩ = some (.int .u32 a0) := by rw [← hwz, ← hwd]; exact u0
      have v1 : wz.cell? ⟨gv, 1, none⟩ = some (.int .u32 a1) := by rw [← hwz, ← hwd]; exact u1
      have v2 : wz.cell? ⟨gv, 2, none⟩ = some (.int .u32 a2) := by rw [← hwz, ← hwd]; exact u2
      have v3 : wz.cell? ⟨gv, 3, none⟩ = some (.int .u32 a3) := by rw [← hwz, ← hwd]; exact u3
      have v4 : wz.cell? ⟨gv, 4, none⟩ = some (.int .u32 a4) := by rw [← hwz, ← hwd]; exact u4
      have v5 : wz.cell? ⟨gv, 5, none⟩ = some (.int .u32 a5) := by rw [← hwz, ← hwd]; exact u5
      have v6 : wz.cell? ⟨gv, 6, none⟩ = some (.int .u32 a6) := by rw [← hwz, ← hwd]; exact u6
      have hbz : Below w.heap.size w wz := by rw [← hwz, ← hwd]; exact below_drewN (below_drewN HBY.out _) _
      have HBZ := Lib.hid hbz
      clear u0 u1 u2 u3 u4 u5 u6 hwz hwd hbz
      with_reducible refine rsum_r31 _ (by kernel_rfl) v0 v1 v2 v3 v4 v5 v6 ?_
      intros
      go_wp2_with fail
      go_roundg (64 - (i + 1))
      case measure => omega
      case rel =>
        refine ⟨i + 1, some ⟨wz.heap.size, 0, none⟩, 8, by omega, by go_num, rfl, ?_, (HBZ.out.alloc HBZ.out.size _).drew⟩
        rw [HRS.out, ← roundQ2 H4B.out]
        exact own32_lit wz _ (Nat.le_trans hB HBZ.out.size) (by simp)
    · obtain rfl : i = 64 := by omega
      have hi64I : ¬ (((64 : Nat) : Int) < 64) := by omega
      have HO8 := Lib.hid hov
      have HBF := Lib.hid hbx
      clear hov hbx
      go_wp2_with fail
      exact hQ _ _ _ _ _ _ _ _ _ _ _ _ _ _ _ _ _ _ _ _ _ _ _ _ _ _ _ _ _ _ _ _ _ _ _ _ _ _ _ _ _ _ _ _ _ _ _ _ _ _ _ _ _ _ _ _ _ _ _ _ _ _ _ _ _ _ _ _ _ _ _ _ _ _ _ _ _ _ _ _ _ _ _ _ _ _ _ _ _ _ _ _ _ _ _ _ _ _ _ _ _ _ _ _ _ _ _ _ _ _ _ _ _ _ _ _ _ _ _ _ _ _ _ _ _ HO8.out HBF.out


set_option maxHeartbeats 64000000 in
theorem rsum_b10 {Q : Exit → Act → World → Prop} {c0 c2 c3 c4 c5 c6 c7 c8 c9 c10 c11 c12 c13 c14 c16 c17 c18 c19 c20 c21 c23 c24 c25 c26 c27 c28 c29 c30 c31 c32 c33 c34 c35 c36 c37 c38 c39 c40 c41 c42 c43 c44 c45 c46 c47 c48 c49 c50 c51 c52 c53 c54 c55 c56 c57 c58 c59 c60 c61 c62 c63 c64 c65 c66 c67 c68 c69 c70 c71 c72 c73 c74 c75 c76 c77 c78 c79 c80 c81 c82 c83 c84 c85 c86 c87 c88 c89 c90 c91 c92 c93 c94 c95 c96 c97 c98 c99 c100 c101 c102 c103 c104 c105 c106 c107 c108 c109 c110 c111 c112 c113 c114 c115 c116 c117 c118 c119 c120 c121 c122 c123 c124 c125 c126 c127 c128 c129 c130 c131 c132 c133 c134 c135 c136 c137 c138 c139 c140 c141 c142 c143 c144 c145 c146 c147 c148 c149 c150 c151 c152 c153 c154 c155 c156 c157 c158 c159 c160 c161 c162 c163 c164 c165 c166 c167 c168 c169 c170 c171 c172 c173 c174 c175 c176 c177 c178 c179 c180 c181 c182 c183 c184 c185 c186 c187 c188 c189 c190 c191 c192 c193 c194 c195 c196 c197 c198 c199 c200 c201 c202 c203 c204 c205 c206 c207 c208 c209 c210 c211 c212 c213 c214 c215 c216 c217 c218 c219 c220 c221 c222 c223 c224 c225 c226 c227 c228 c229 c230 c231 c232 c233 c234 c235 c236 c237 c238 c239 c240 c241 c242 c243 c244 c245 c246 c247 c248 c249 c250 c251 c252 c253 c254 c255 c256 c257 c258 c259 c260 c261 c262 c263 c264 c265 c266 c267 c268 c269 c270 c271 c272 c273 c274 c275 c276 c277 c278 c279 c280 c281 c282 c283 c284 c285 c286 c287 c288 c289 c290 c291 c292 c293 c294 c295 c296 c297 c298 c299 c300 c301 c302 c303 c304 c305 c306 c307 c308 c309 c310 c311 c312 c313 c314 c315 c316 c317 c318 c319 c320 c321 c322 c323 : Value} {g7 k7 gv cv : Nat} {w : World} (B : Nat) (h R : List Int) (c : Code) (hcode : (Tryz.f95.body.bind (findBlk 10)).getD .skip = c) (hhl : h.length = 8) (_hRl : R.length = 8) (hoh : Own32 B w (.slice (some ⟨g7, 0, none⟩) 8 k7) h) (hvc : ∀ k, k < 8 → w.cell? ⟨gv, k, none⟩ = some (.int .u32 (R.getD k 0))) (hne : gv ≠ g7)
    (hQ : ∀ (x290 x291 x292 x293 x294 x295 x296 x297 x298 x299 x300 x301 x302 x303 x304 x305 : Value) (w' : World), Own32 B w' (.slice (some ⟨g7, 0, none⟩) 8 k7) (mixP h R 8) → Fr (fun k => k = g7) w w' → Q .normal ⟨#[c0, .slice (some ⟨g7, 0, none⟩) 8 k7, c2, c3, c4, c5, c6, c7, c8, c9, c10, c11, c12, c13, c14, .slice (some ⟨gv, 0, none⟩) 8 cv, c16, c17, c18, c19, c20, c21, .int .i64 8, c23, c24, c25, c26, c27, c28, c29, c30, c31, c32, c33, c34, c35, c36, c37, c38, c39, c40, c41, c42, c43, c44, c45, c46, c47, c48, c49, c50, c51, c52, c53, c54, c55, c56, c57, c58, c59, c60, c61, c62, c63, c64, c65, c66, c67, c68, c69, c70, c71, c72, c73, c74, c75, c76, c77, c78, c79, c80, c81, c82, c83, c84, c85, c86, c87, c88, c89, c90, c91, c92, c93, c94, c95, c96, c97, c98, c99, c100, c101, c102, c103, c104, c105, c106, c107, c108, c109, c110, c111, c112, c113, c114, c115, c116, c117, c118, c119, c120, c121, c122, c123, c124, c125, c126, c127, c128, c129, c130, c131, c132, c133, c134, c135, c136, c137, c138, c139, c140, c141, c142, c143, c144, c145, c146, c147, c148, c149, c150, c151, c152, c153, c154, c155, c156, c157, c158, c159, c160, c161, c162, c163, c164, c165, c166, c167, c168, c169, c170, c171, c172, c173, c174, c175, c176, c177, c178, c179, c180, c181, c182, c183, c184, c185, c186, c187, c188, c189, c190, c191, c192, c193, c194, c195, c196, c197, c198, c199, c200, c201, c202, c203, c204, c205, c206, c207, c208, c209, c210, c211, c212, c213, c214, c215, c216, c217, c218, c219, c220, c221, c222, c223, c224, c225, c226, c227, c228, c229, c230, c231, c232, c233, c234, c235, c236, c237, c238, c239, c240, c241, c242, c243, c244, c245, c246, c247, c248, c249, c250, c251, c252, c253, c254, c255, c256, c257, c258, c259, c260, c261, c262, c263, c264, c265, c266, c267, c268, c269, c270, c271, c272, c273, c274, c275, c276, c277, c278, c279, c280, c281, c282, c283, c284, c285, c286, c287, c288, c289, x290, x291, x292, x293, x294, x295, x296, x297, x298, x299, x300, x301, x302, x303, x304, x305, c306, c307, c308, c309, c310, c311, c312, c313, c314, c315, c316, c317, c318, c319, c320, c321, c322, c323], []⟩ w') :
    Code.wp Tryz.prog c Q ⟨#[c0, .slice (some ⟨g7, 0, none⟩) 8 k7, c2, c3, c4, c5, c6, c7, c8, c9, c10, c11, c12, c13, c14, .slice (some ⟨gv, 0, none⟩) 8 cv, c16, c17, c18, c19, c20, c21, .int .i64 0, c23, c24, c25, c26, c27, c28, c29, c30, c31, c32, c33, c34, c35, c36, c37, c38, c39, c40, c41, c42, c43, c44, c45, c46, c47, c48, c49, c50, c51, c52, c53, c54, c55, c56, c57, c58, c59, c60, c61, c62, c63, c64, c65, c66, c67, c68, c69, c70, c71, c72, c73, c74, c75, c76, c77, c78, c79, c80, c81, c82, c83, c84, c85, c86, c87, c88, c89, c90, c91, c92, c93, c94, c95, c96, c97, c98, c99, c100, c101, c102, c103, c104, c105, c106, c107, c108, c109, c110, c111, c112, c113, c114, c115, c116, c117, c118, c119, c120, c121, c122, c123, c124, c125, c126, c127, c128, c129, c130, c131, c132, c133, c134, c135, c136, c137, c138, c139, c140, c141, c142, c143, c144, c145, c146, c147, c148, c149, c150, c151, c152, c153, c154, c155, c156, c157, c158, c159, c160, c161, c162, c163, c164, c165, c166, c167, c168, c169, c170, c171, c172, c173, c174, c175, c176, c177, c178, c179, c180, c181, c182, c183, c184, c185, c186, c187, c188, c189, c190, c191, c192, c193, c194, c195, c196, c197, c198, c199, c200, c201, c202, c203, c204, c205, c206, c207, c208, c209, c210, c211, c212, c213, c214, c215, c216, c217, c218, c219, c220, c221, c222, c223, c224, c225, c226, c227, c228, c229, c230, c231, c232, c233, c234, c235, c236, c237, c238, c239, c240, c241, c242, c243, c244, c245, c246, c247, c248, c249, c250, c251, c252, c253, c254, c255, c256, c257, c258, c259, c260, c261, c262, c263, c264, c265, c266, c267, c268, c269, c270, c271, c272, c273, c274, c275, c276, c277, c278, c279, c280, c281, c282, c283, c284, c285, c286, c287, c288, c289, c290, c291, c292, c293, c294, c295, c296, c297, c298, c299, c300, c301, c302, c303, c304, c305, c306, c307, c308, c309, c310, c311, c312, c313, c314, c315, c316, c317, c318, c319, c320, c321, c322, c323], []⟩ w := by
  subst hcode
  conv => arg 2; whnf
  have hh0 : Own32 B w (.slice (some ⟨g7, 0, none⟩) 8 k7) (mixP h R 0) := by rw [mixP_zero hhl]; exact hoh
  have HH0 := Lib.hid hh0
  have HVC := Lib.hid hvc
  clear hh0 hvc hoh
  go_wp2_with fail
  go_loopg [22] 8 (fun k t wx => ∃ (j : Nat), j + k = 8 ∧ t = .int .i64 (j : Int) ∧ Own32 B wx (.slice (some ⟨g7, 0, none⟩) 8 k7) (mixP h R j) ∧ (∀ k, k < 8 → wx.cell? ⟨gv, k, none⟩ = some (.int .u32 (R.getD k 0))) ∧ Fr (fun k => k = g7) w wx)
  case atStart => exact ⟨0, by omega, rfl, HH0.out, HVC.out, Fr.refl _ _⟩
  case round =>
    clear HH0 HVC
    obtain ⟨i, hi, rfl, hoh, hvc, hbx⟩ := hrel
    by_cases hi8 : i < 8
    · have hi8I : (i : Int) < 8 := by omega
      obtain ⟨gg, cc, ee, _, _, hcc⟩ := hoh.cells (by rw [mixP_len]; omega)
      rw [mixP_len] at ee
      simp only [Value.slice.injEq, Option.some.injEq, Addr.mk.injEq, and_true, true_and] at ee
      obtain ⟨rfl, rfl⟩ := ee
      have l0 := (hcc i (by rw [mixP_len]; exact hi8)).1
      have f0 := (hcc i (by rw [mixP_len]; exact hi8)).2
      have l2 := hvc i hi8
      rw [mixP_at h R hi8] at l0
      obtain ⟨x, hx⟩ : ∃ x, h.getD i 0 = x := ⟨_, rfl⟩
      obtain ⟨y, hy⟩ : ∃ y, R.getD i 0 = y := ⟨_, rfl⟩
      rw [hx] at l0
      rw [hy] at l2
      have hmx : (mixP h R i).set i ((x + y) % 4294967296) = mixP h R (i + 1) := by rw [← hx, ← hy]; exact mixP_set h R i
      have HOH2 := Lib.hid hoh
      have HVC2 := Lib.hid hvc
      have HBX2 := Lib.hid hbx
      have HMX := Lib.hid hmx
      clear hcc hx hy hmx hoh hvc hbx
      go_wp2_with fail
      with_reducible refine rsum_r35 _ (by kernel_rfl) hi8I hi8 l0 f0 l2 ?_
      intros
      go_wp2_with fail
      go_roundg (8 - (i + 1))
      case measure => omega
      case rel =>
        refine ⟨i + 1, by omega, by go_num, ?_, fun k hk => ?_, (HBX2.out.setCell (p := ⟨g7, i, none⟩) (fun _ => rfl) _).drew⟩
        · rw [← HMX.out]
          exact HOH2.out.put i (by rw [mixP_len]; exact hi8) _
        · exact (World.cell?_setCell_other _ _ _ _ (fun e => hne (congrArg Addr.block e).symm)).trans (HVC2.out k hk)
    · obtain rfl : i = 8 := by omega
      have hi8I : ¬ (((8 : Nat) : Int) < 8) := by omega
      have HO8 := Lib.hid hoh
      have HBF := Lib.hid hbx
      clear hoh hvc hbx
      go_wp2_with fail
      exact hQ _ _ _ _ _ _ _ _ _ _ _ _ _ _ _ _ _ HO8.out HBF.out


end Go.Proofs.YtdkanehjahpehaaGreatDoor
