/- RegisterExact: the odd security. Printed by wip/gen/l33ex.py. -/
import Derived.Test.YtpoidaenkjjdfaaZL33ExA
import Derived.Deep.CutRange
namespace Go.Proofs.Ytpoidaenkjjdfaa
open Go.RowKit
set_option linter.unusedVariables false
set_option linter.unusedSimpArgs false
noncomputable def ca_kW : Code := ((Try.f3.body.bind (seqAt 6)).getD (.skip, .skip)).1
noncomputable def cb_kW : Code := ((Try.f3.body.bind (seqAt 6)).getD (.skip, .skip)).2
set_option maxHeartbeats 64000000 in
set_option maxRecDepth 1000000 in
theorem kW {K : Act → World → Prop} {Q : Exit → Act → World → Prop} {w w3 W5 : World} {sb C : Nat} {xid xun xis xma xra xev : Int} {xix : Bool} {ov oun ois oma ora oev : Int} {oix : Bool} {r0 r1 r2 a0 a1 a2 : Option Addr} {rn0 rc0 rn1 rc1 rn2 rc2 n0 c0 n1 c1 n2 c2 : Nat} {R : Reg} {z0 z1 z2 z3 z4 z5 z6 z7 z8 z9 z10 z11 z12 z13 z14 z15 z16 z18 z19 z21 z22 z23 z24 z25 z26 z27 z28 z29 z30 z31 z32 z33 z34 z35 z36 z37 z38 z39 z40 z41 z42 z43 z44 z45 z46 z47 z48 z49 z50 z51 z52 z53 z54 z55 z56 z57 z58 z59 z60 z61 z62 z63 z64 z65 z66 z67 z68 z69 z70 z71 z72 z73 z74 z75 z76 z77 z78 z79 z80 z81 z82 z83 z84 z85 z86 z87 z88 z89 z90 z91 z92 z93 z94 z95 z96 z97 z98 z99 z100 z101 z102 z103 z104 z105 z106 z107 z108 z109 z110 z111 z112 z113 z114 z115 z116 z117 z118 z119 z120 z121 z122 z123 z124 z125 z126 z127 z128 z129 z130 z131 z132 z133 z134 z135 z136 z137 z138 z139 z140 z141 z142 z143 z144 z145 z146 z147 z148 z149 z150 z151 z152 z153 z154 z155 z156 z157 z158 z159 z160 z161 z162 z163 z164 z165 z166 z167 z168 z169 z170 z171 z172 z173 z174 z175 z176 z177 z178 z179 z180 z181 z182 z183 z184 z185 z186 z187 z188 z189 z190 z191 z192 z193 z194 z195 z196 z197 z198 z199 z200 z201 z202 z203 z204 z205 z206 z207 z208 z209 z210 z211 z212 z213 z214 z215 z216 z217 z218 z219 z220 z221 z222 z223 z224 z225 z226 z227 z228 z229 z230 z231 z232 z233 z234 z235 z236 z237 z238 z239 z240 z241 z242 z243 z244 z245 z246 z247 z248 z249 z250 z251 z252 z253 z254 z255 z256 z257 z258 z259 z260 z261 z262 z263 z264 z265 z266 z267 z268 z269 z270 z271 z272 z273 z274 z275 z276 z277 z278 z279 z280 z281 z282 z283 z284 z285 z286 z287 z288 z289 z290 z291 z292 z293 z294 z295 z296 z297 z298 z299 z300 z301 z302 z303 z304 z305 z306 z307 z308 z309 z310 z311 z312 z313 z314 z315 z316 z317 z318 z319 z320 z321 z322 z323 z324 z325 z326 z327 z328 z329 z330 z331 z332 z333 z334 z335 z336 z337 z338 z339 z340 z341 z342 z343 z344 : Value} (HST5 : Hid (RxS sb w.heap.size w3.heap.size C w W5 ⟨xid, xun, xis, xma, xra, xev, xix⟩ (.slice r0 rn0 rc0) (.slice r1 rn1 rc1) (.slice r2 rn2 rc2) (.slice a0 n0 c0) (.slice a1 n1 c1) (.slice a2 n2 c2) R)) (HC5 : Hid (W5.heap[C]? = some (.cells #[.int .i64 ov, .int .i64 oun, .int .i64 ois, .int .i64 oma, .int .i64 ora, .int .i64 oev, .bool oix] 29 (0, 0))))
    (hK : ∀ a w, Code.wp Try.prog cb_kW Q a w → K a w)
    (hQ : ∀ (v54 v55 v56 v57 v58 v59 v60 v61 v62 v63 v64 v65 v66 v67 v68 v69 v70 v71 v72 v73 v74 v75 v76 v77 v78 v79 : Value) (w' : World), (∃ pun pis pma pra pev : Int, RxS sb w.heap.size w3.heap.size C w w' ⟨xid, xun, xis, xma, xra, xev, xix⟩ (.slice r0 rn0 rc0) (.slice r1 rn1 rc1) (.slice r2 rn2 rc2) (.slice a0 n0 c0) (.slice a1 n1 c1) (.slice a2 n2 c2) R ∧ w'.heap[C]? = some (.cells #[.int .i64 ov, .int .i64 pun, .int .i64 pis, .int .i64 pma, .int .i64 pra, .int .i64 pev, .bool oix] 29 (0, 0))) → Q .normal ⟨#[z0, z1, z2, z3, z4, z5, z6, z7, z8, z9, z10, z11, z12, z13, z14, z15, z16, .pointer (some ⟨sb, 0, none⟩), z18, z19, .pointer (some ⟨C, 0, none⟩), z21, z22, z23, z24, z25, z26, z27, z28, z29, z30, z31, z32, z33, z34, z35, z36, z37, z38, z39, z40, z41, z42, z43, z44, z45, z46, z47, z48, z49, z50, z51, z52, z53, v54, v55, v56, v57, v58, v59, v60, v61, v62, v63, v64, v65, v66, v67, v68, v69, v70, v71, v72, v73, v74, v75, v76, v77, v78, v79, z80, z81, z82, z83, z84, z85, z86, z87, z88, z89, z90, z91, z92, z93, z94, z95, z96, z97, z98, z99, z100, z101, z102, z103, z104, z105, z106, z107, z108, z109, z110, z111, z112, z113, z114, z115, z116, z117, z118, z119, z120, z121, z122, z123, z124, z125, z126, z127, z128, z129, z130, z131, z132, z133, z134, z135, z136, z137, z138, z139, z140, z141, z142, z143, z144, z145, z146, z147, z148, z149, z150, z151, z152, z153, z154, z155, z156, z157, z158, z159, z160, z161, z162, z163, z164, z165, z166, z167, z168, z169, z170, z171, z172, z173, z174, z175, z176, z177, z178, z179, z180, z181, z182, z183, z184, z185, z186, z187, z188, z189, z190, z191, z192, z193, z194, z195, z196, z197, z198, z199, z200, z201, z202, z203, z204, z205, z206, z207, z208, z209, z210, z211, z212, z213, z214, z215, z216, z217, z218, z219, z220, z221, z222, z223, z224, z225, z226, z227, z228, z229, z230, z231, z232, z233, z234, z235, z236, z237, z238, z239, z240, z241, z242, z243, z244, z245, z246, z247, z248, z249, z250, z251, z252, z253, z254, z255, z256, z257, z258, z259, z260, z261, z262, z263, z264, z265, z266, z267, z268, z269, z270, z271, z272, z273, z274, z275, z276, z277, z278, z279, z280, z281, z282, z283, z284, z285, z286, z287, z288, z289, z290, z291, z292, z293, z294, z295, z296, z297, z298, z299, z300, z301, z302, z303, z304, z305, z306, z307, z308, z309, z310, z311, z312, z313, z314, z315, z316, z317, z318, z319, z320, z321, z322, z323, z324, z325, z326, z327, z328, z329, z330, z331, z332, z333, z334, z335, z336, z337, z338, z339, z340, z341, z342, z343, z344], []⟩ w') :
    Code.wp Try.prog ca_kW (Exit.then K Q) ⟨#[z0, z1, z2, z3, z4, z5, z6, z7, z8, z9, z10, z11, z12, z13, z14, z15, z16, .pointer (some ⟨sb, 0, none⟩), z18, z19, .pointer (some ⟨C, 0, none⟩), z21, z22, z23, z24, z25, z26, z27, z28, z29, z30, z31, z32, z33, z34, z35, z36, z37, z38, z39, z40, z41, z42, z43, z44, z45, z46, z47, z48, z49, z50, z51, z52, z53, z54, z55, z56, z57, z58, z59, z60, z61, z62, z63, z64, z65, z66, z67, z68, z69, z70, z71, z72, z73, z74, z75, z76, z77, z78, z79, z80, z81, z82, z83, z84, z85, z86, z87, z88, z89, z90, z91, z92, z93, z94, z95, z96, z97, z98, z99, z100, z101, z102, z103, z104, z105, z106, z107, z108, z109, z110, z111, z112, z113, z114, z115, z116, z117, z118, z119, z120, z121, z122, z123, z124, z125, z126, z127, z128, z129, z130, z131, z132, z133, z134, z135, z136, z137, z138, z139, z140, z141, z142, z143, z144, z145, z146, z147, z148, z149, z150, z151, z152, z153, z154, z155, z156, z157, z158, z159, z160, z161, z162, z163, z164, z165, z166, z167, z168, z169, z170, z171, z172, z173, z174, z175, z176, z177, z178, z179, z180, z181, z182, z183, z184, z185, z186, z187, z188, z189, z190, z191, z192, z193, z194, z195, z196, z197, z198, z199, z200, z201, z202, z203, z204, z205, z206, z207, z208, z209, z210, z211, z212, z213, z214, z215, z216, z217, z218, z219, z220, z221, z222, z223, z224, z225, z226, z227, z228, z229, z230, z231, z232, z233, z234, z235, z236, z237, z238, z239, z240, z241, z242, z243, z244, z245, z246, z247, z248, z249, z250, z251, z252, z253, z254, z255, z256, z257, z258, z259, z260, z261, z262, z263, z264, z265, z266, z267, z268, z269, z270, z271, z272, z273, z274, z275, z276, z277, z278, z279, z280, z281, z282, z283, z284, z285, z286, z287, z288, z289, z290, z291, z292, z293, z294, z295, z296, z297, z298, z299, z300, z301, z302, z303, z304, z305, z306, z307, z308, z309, z310, z311, z312, z313, z314, z315, z316, z317, z318, z319, z320, z321, z322, z323, z324, z325, z326, z327, z328, z329, z330, z331, z332, z333, z334, z335, z336, z337, z338, z339, z340, z341, z342, z343, z344], []⟩ W5 := by
  obtain ⟨ca, hca⟩ : ∃ c, c = ca_kW := ⟨_, rfl⟩
  obtain ⟨cb, hcb⟩ : ∃ c, c = cb_kW := ⟨_, rfl⟩
  rw [← hca]
  rw [← hcb] at hK
  conv at hca => rhs; whnf
  conv at hcb => rhs; whnf
  subst hca
  subst hcb
  dsimp only
  have HQ := Lib.hid hQ
  clear hQ
  go_wp2_with fail
  refine (n_any sb 5 _ HST5.out.so (by omega)).mono ?_
  rintro e w6 ⟨kk, hkk, rfl, hS6, hG6⟩
  dsimp only
  have HST6 := Lib.hid (HST5.out.grown hG6 hS6)
  have HC6 := Lib.hid (heap_gr hG6 (show C ≠ sb by have := HST5.out.lB; have := HST5.out.lC; omega) HC5.out)
  clear HST5 HC5 hS6 hG6
  have ce0 := cell_heap (i := 0) (HC6.out) rfl; have ce1 := cell_heap (i := 1) (HC6.out) rfl; have ce2 := cell_heap (i := 2) (HC6.out) rfl; have ce3 := cell_heap (i := 3) (HC6.out) rfl; have ce4 := cell_heap (i := 4) (HC6.out) rfl; have ce5 := cell_heap (i := 5) (HC6.out) rfl; have ce6 := cell_heap (i := 6) (HC6.out) rfl
  have cf0 := frozen_of_row w6 _ 0 _ _ (HC6.out); have cf1 := frozen_of_row w6 _ 1 _ _ (HC6.out); have cf2 := frozen_of_row w6 _ 2 _ _ (HC6.out); have cf3 := frozen_of_row w6 _ 3 _ _ (HC6.out); have cf4 := frozen_of_row w6 _ 4 _ _ (HC6.out); have cf5 := frozen_of_row w6 _ 5 _ _ (HC6.out); have cf6 := frozen_of_row w6 _ 6 _ _ (HC6.out)
  rcases (show kk = 0 ∨ kk = 1 ∨ kk = 2 ∨ kk = 3 ∨ kk = 4 by omega) with rfl | rfl | rfl | rfl | rfl
  · go_wp2_with fail
    refine (odd_any sb _ HST6.out.so).mono ?_
    rintro e w7 ⟨z, hz, rfl, hS7, hG7⟩
    dsimp only
    have hst := HST6.out.grown hG7 hS7
    have hC7 := heap_gr hG7 (show C ≠ sb by have := hst.lB; have := hst.lC; omega) HC6.out
    have HST7 := Lib.hid hst
    have HC7 := Lib.hid hC7
    clear ce0 ce1 ce2 ce3 ce4 ce5 ce6 cf0 cf1 cf2 cf3 cf4 cf5 cf6 hst hC7 hS7 hG7 HST6 HC6
    have ce0 := cell_heap (i := 0) (HC7.out) rfl; have ce1 := cell_heap (i := 1) (HC7.out) rfl; have ce2 := cell_heap (i := 2) (HC7.out) rfl; have ce3 := cell_heap (i := 3) (HC7.out) rfl; have ce4 := cell_heap (i := 4) (HC7.out) rfl; have ce5 := cell_heap (i := 5) (HC7.out) rfl; have ce6 := cell_heap (i := 6) (HC7.out) rfl
    have cf0 := frozen_of_row w7 _ 0 _ _ (HC7.out); have cf1 := frozen_of_row w7 _ 1 _ _ (HC7.out); have cf2 := frozen_of_row w7 _ 2 _ _ (HC7.out); have cf3 := frozen_of_row w7 _ 3 _ _ (HC7.out); have cf4 := frozen_of_row w7 _ 4 _ _ (HC7.out); have cf5 := frozen_of_row w7 _ 5 _ _ (HC7.out); have cf6 := frozen_of_row w7 _ 6 _ _ (HC7.out)
    go_wp2
    exact HQ.out _ _ _ _ _ _ _ _ _ _ _ _ _ _ _ _ _ _ _ _ _ _ _ _ _ _ _ ⟨z, ois, oma, ora, oev, HST7.out.set 1 _, heap_setCell_same w7 _ 1 _ _ (.int .i64 z) HC7.out⟩
  · go_wp2_with fail
    refine (odd_any sb _ HST6.out.so).mono ?_
    rintro e w7 ⟨z, hz, rfl, hS7, hG7⟩
    dsimp only
    have hst := HST6.out.grown hG7 hS7
    have hC7 := heap_gr hG7 (show C ≠ sb by have := hst.lB; have := hst.lC; omega) HC6.out
    have HST7 := Lib.hid hst
    have HC7 := Lib.hid hC7
    clear ce0 ce1 ce2 ce3 ce4 ce5 ce6 cf0 cf1 cf2 cf3 cf4 cf5 cf6 hst hC7 hS7 hG7 HST6 HC6
    have ce0 := cell_heap (i := 0) (HC7.out) rfl; have ce1 := cell_heap (i := 1) (HC7.out) rfl; have ce2 := cell_heap (i := 2) (HC7.out) rfl; have ce3 := cell_heap (i := 3) (HC7.out) rfl; have ce4 := cell_heap (i := 4) (HC7.out) rfl; have ce5 := cell_heap (i := 5) (HC7.out) rfl; have ce6 := cell_heap (i := 6) (HC7.out) rfl
    have cf0 := frozen_of_row w7 _ 0 _ _ (HC7.out); have cf1 := frozen_of_row w7 _ 1 _ _ (HC7.out); have cf2 := frozen_of_row w7 _ 2 _ _ (HC7.out); have cf3 := frozen_of_row w7 _ 3 _ _ (HC7.out); have cf4 := frozen_of_row w7 _ 4 _ _ (HC7.out); have cf5 := frozen_of_row w7 _ 5 _ _ (HC7.out); have cf6 := frozen_of_row w7 _ 6 _ _ (HC7.out)
    go_wp2
    exact HQ.out _ _ _ _ _ _ _ _ _ _ _ _ _ _ _ _ _ _ _ _ _ _ _ _ _ _ _ ⟨oun, ois, z, ora, oev, HST7.out.set 3 _, heap_setCell_same w7 _ 3 _ _ (.int .i64 z) HC7.out⟩
  · go_wp2_with fail
    refine (odd_any sb _ HST6.out.so).mono ?_
    rintro e w7 ⟨z, hz, rfl, hS7, hG7⟩
    dsimp only
    have hst := HST6.out.grown hG7 hS7
    have hC7 := heap_gr hG7 (show C ≠ sb by have := hst.lB; have := hst.lC; omega) HC6.out
    have HST7 := Lib.hid hst
    have HC7 := Lib.hid hC7
    clear ce0 ce1 ce2 ce3 ce4 ce5 ce6 cf0 cf1 cf2 cf3 cf4 cf5 cf6 hst hC7 hS7 hG7 HST6 HC6
    have ce0 := cell_heap (i := 0) (HC7.out) rfl; have ce1 := cell_heap (i := 1) (HC7.out) rfl; have ce2 := cell_heap (i := 2) (HC7.out) rfl; have ce3 := cell_heap (i := 3) (HC7.out) rfl; have ce4 := cell_heap (i := 4) (HC7.out) rfl; have ce5 := cell_heap (i := 5) (HC7.out) rfl; have ce6 := cell_heap (i := 6) (HC7.out) rfl
    have cf0 := frozen_of_row w7 _ 0 _ _ (HC7.out); have cf1 := frozen_of_row w7 _ 1 _ _ (HC7.out); have cf2 := frozen_of_row w7 _ 2 _ _ (HC7.out); have cf3 := frozen_of_row w7 _ 3 _ _ (HC7.out); have cf4 := frozen_of_row w7 _ 4 _ _ (HC7.out); have cf5 := frozen_of_row w7 _ 5 _ _ (HC7.out); have cf6 := frozen_of_row w7 _ 6 _ _ (HC7.out)
    go_wp2
    exact HQ.out _ _ _ _ _ _ _ _ _ _ _ _ _ _ _ _ _ _ _ _ _ _ _ _ _ _ _ ⟨oun, ois, oma, z, oev, HST7.out.set 4 _, heap_setCell_same w7 _ 4 _ _ (.int .i64 z) HC7.out⟩
  · go_wp2_with fail
    refine (odd_any sb _ HST6.out.so).mono ?_
    rintro e w7 ⟨z, hz, rfl, hS7, hG7⟩
    dsimp only
    have hst := HST6.out.grown hG7 hS7
    have hC7 := heap_gr hG7 (show C ≠ sb by have := hst.lB; have := hst.lC; omega) HC6.out
    have HST7 := Lib.hid hst
    have HC7 := Lib.hid hC7
    clear ce0 ce1 ce2 ce3 ce4 ce5 ce6 cf0 cf1 cf2 cf3 cf4 cf5 cf6 hst hC7 hS7 hG7 HST6 HC6
    have ce0 := cell_heap (i := 0) (HC7.out) rfl; have ce1 := cell_heap (i := 1) (HC7.out) rfl; have ce2 := cell_heap (i := 2) (HC7.out) rfl; have ce3 := cell_heap (i := 3) (HC7.out) rfl; have ce4 := cell_heap (i := 4) (HC7.out) rfl; have ce5 := cell_heap (i := 5) (HC7.out) rfl; have ce6 := cell_heap (i := 6) (HC7.out) rfl
    have cf0 := frozen_of_row w7 _ 0 _ _ (HC7.out); have cf1 := frozen_of_row w7 _ 1 _ _ (HC7.out); have cf2 := frozen_of_row w7 _ 2 _ _ (HC7.out); have cf3 := frozen_of_row w7 _ 3 _ _ (HC7.out); have cf4 := frozen_of_row w7 _ 4 _ _ (HC7.out); have cf5 := frozen_of_row w7 _ 5 _ _ (HC7.out); have cf6 := frozen_of_row w7 _ 6 _ _ (HC7.out)
    go_wp2
    exact HQ.out _ _ _ _ _ _ _ _ _ _ _ _ _ _ _ _ _ _ _ _ _ _ _ _ _ _ _ ⟨oun, z, oma, ora, oev, HST7.out.set 2 _, heap_setCell_same w7 _ 2 _ _ (.int .i64 z) HC7.out⟩
  · go_wp2_with fail
    refine (pick_lit sb [-1, 2, 4, 12] _ _ _ w6 HST6.out.so (by decide) (by decide) rfl rfl rfl).mono ?_
    rintro e w7 ⟨z, hz, rfl, hS7, hG7⟩
    dsimp only
    have hst := HST6.out.grown hG7 hS7
    have hC7 := heap_gr hG7 (show C ≠ sb by have := hst.lB; have := hst.lC; omega) HC6.out
    have HST7 := Lib.hid hst
    have HC7 := Lib.hid hC7
    clear ce0 ce1 ce2 ce3 ce4 ce5 ce6 cf0 cf1 cf2 cf3 cf4 cf5 cf6 hst hC7 hS7 hG7 HST6 HC6
    have ce0 := cell_heap (i := 0) (HC7.out) rfl; have ce1 := cell_heap (i := 1) (HC7.out) rfl; have ce2 := cell_heap (i := 2) (HC7.out) rfl; have ce3 := cell_heap (i := 3) (HC7.out) rfl; have ce4 := cell_heap (i := 4) (HC7.out) rfl; have ce5 := cell_heap (i := 5) (HC7.out) rfl; have ce6 := cell_heap (i := 6) (HC7.out) rfl
    have cf0 := frozen_of_row w7 _ 0 _ _ (HC7.out); have cf1 := frozen_of_row w7 _ 1 _ _ (HC7.out); have cf2 := frozen_of_row w7 _ 2 _ _ (HC7.out); have cf3 := frozen_of_row w7 _ 3 _ _ (HC7.out); have cf4 := frozen_of_row w7 _ 4 _ _ (HC7.out); have cf5 := frozen_of_row w7 _ 5 _ _ (HC7.out); have cf6 := frozen_of_row w7 _ 6 _ _ (HC7.out)
    go_wp2
    exact HQ.out _ _ _ _ _ _ _ _ _ _ _ _ _ _ _ _ _ _ _ _ _ _ _ _ _ _ _ ⟨oun, ois, oma, ora, z, HST7.out.set 5 _, heap_setCell_same w7 _ 5 _ _ (.int .i64 z) HC7.out⟩
end Go.Proofs.Ytpoidaenkjjdfaa
