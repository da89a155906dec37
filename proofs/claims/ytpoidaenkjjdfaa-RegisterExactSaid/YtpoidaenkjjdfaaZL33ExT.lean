/- RegisterExact: the rounds over numbers. Printed by wip/gen/l33ex.py. -/
import Derived.Test.YtpoidaenkjjdfaaZL33ExU
import Derived.Deep.CutRange
namespace Go.Proofs.Ytpoidaenkjjdfaa
open Go.RowKit
set_option linter.unusedVariables false
set_option linter.unusedSimpArgs false
noncomputable def ca_kT : Code := ((Try.f3.body.bind (seqAt 29)).getD (.skip, .skip)).1
noncomputable def cb_kT : Code := ((Try.f3.body.bind (seqAt 29)).getD (.skip, .skip)).2
set_option maxHeartbeats 64000000 in
set_option maxRecDepth 1000000 in
theorem kT {K : Act → World → Prop} {Q : Exit → Act → World → Prop} {V1 : World} {sb B : Nat} {day id ha hb hn now : Int} {Y : Reg} {y0 y1 y2 : Option Addr} {p0 t0 p1 t1 p2 t2 : Nat} {z0 z1 z2 z8 z9 z10 z11 z12 z13 z14 z15 z16 z18 z20 z21 z23 z24 z25 z26 z27 z28 z29 z30 z31 z32 z33 z34 z35 z36 z37 z38 z39 z40 z41 z42 z43 z44 z45 z46 z47 z48 z49 z50 z51 z52 z53 z54 z55 z56 z57 z58 z59 z60 z61 z62 z63 z64 z65 z66 z67 z68 z69 z70 z71 z72 z73 z74 z75 z76 z77 z78 z79 z80 z81 z82 z83 z84 z85 z86 z87 z88 z89 z90 z91 z92 z93 z94 z95 z96 z97 z98 z99 z100 z101 z102 z103 z104 z105 z106 z107 z108 z109 z110 z111 z112 z113 z114 z115 z116 z117 z118 z119 z120 z121 z122 z123 z124 z125 z126 z127 z128 z129 z130 z131 z132 z133 z134 z135 z136 z137 z138 z139 z140 z141 z142 z143 z144 z145 z146 z147 z148 z149 z150 z151 z152 z153 z154 z155 z156 z157 z158 z159 z160 z161 z162 z163 z164 z165 z166 z167 z168 z169 z170 z171 z172 z173 z174 z175 z176 z177 z178 z179 z180 z181 z182 z183 z184 z185 z186 z187 z188 z189 z190 z191 z192 z193 z194 z195 z196 z197 z198 z199 z200 z201 z202 z203 z204 z205 z206 z207 z208 z209 z210 z211 z212 z213 z214 z215 z216 z217 z218 z219 z220 z221 z222 z223 z224 z225 z226 z227 z228 z229 z230 z231 z232 z233 z234 z235 z236 z237 z238 z239 z240 z241 z242 z243 z244 z245 z246 z247 z248 z249 z250 z251 z252 z253 z254 z255 z256 z257 z258 z259 z260 z261 z262 z263 z264 z265 z266 z267 z268 z269 z270 z271 z272 z273 z274 z275 z276 z277 z278 z279 z280 z281 z282 z283 z284 z285 z286 z287 z288 z289 z290 z291 z292 z293 z294 z295 z296 z297 z298 z299 z300 z301 z302 z303 z304 z305 z306 z307 z308 z309 z310 z311 z312 z313 z314 z315 z316 z317 z318 z319 z320 z321 z322 z323 z324 z325 z326 z327 z328 z329 z330 z331 z332 z333 z334 z335 z336 z337 z338 z339 z340 z341 z342 z343 z344 : Value} (HS1 : Hid (SrcOk V1 sb)) (HYV : Hid (V1.heap[B]? = some (.cells #[.slice y0 p0 t0, .slice y1 p1 t1, .slice y2 p2 t2] 27 (0, 0)))) (HRV : Hid (RgIn (fun b => b ≠ sb ∧ b < B) V1 (.slice y0 p0 t0) (.slice y1 p1 t1) (.slice y2 p2 t2) Y)) (HLY : Hid (LB Y)) (zsb : sb < B) (hd0 : 0 ≤ now) (hdl : now ≤ 1300) (hl1 : Y.secs.length ≤ 1000000) (hl2 : Y.hs.length ≤ 1000000) (hl3 : Y.ms.length ≤ 1000000)
    (hK : ∀ a w, Code.wp Try.prog cb_kT Q a w → K a w)
    (hQ : ∀ (v16 v30 v31 v32 v33 v34 v35 v36 v37 v38 v140 v141 v142 v143 v144 v145 v146 v147 v148 v149 v150 v151 v152 v153 v154 v155 v156 v157 v158 v159 v160 v161 v162 v163 v164 v165 v166 v167 v168 v169 v170 v171 v172 v173 v174 v175 v176 v177 v178 v179 v180 v181 v182 v183 v184 v185 v186 v187 v188 v189 v190 v191 v192 v193 v194 v195 v196 v197 v198 v199 v200 v201 v202 v203 v204 v205 v206 v207 v208 v209 v210 v211 v212 v213 v214 v215 v216 v217 v218 v219 v220 v221 v222 v223 v224 v225 v226 v227 v228 v229 v230 v231 v232 v233 v234 v235 v236 v237 v238 v239 v240 v241 v242 v243 v244 v245 v246 v247 v248 v249 v250 v251 v252 v253 v254 v255 v256 v257 v258 v259 v260 v261 v262 v263 v264 v265 v266 v267 v268 v269 v270 v271 v272 v273 v274 v275 v276 v277 v278 v279 v280 v281 v282 v283 v284 v285 v286 v287 v288 v289 v290 v291 v292 v293 v294 v295 v296 v297 v298 v299 v300 v301 v302 v303 v304 v305 v306 v307 v308 v309 v310 v311 v312 v313 v314 v315 v316 v317 v318 v319 v320 v321 v322 v323 v324 v325 v326 v327 v328 v329 v330 v331 v332 v333 v334 v335 v336 v337 v338 v339 v340 v341 v342 : Value) (w' : World), (V1.grownBy w' (some sb) ∧ SrcOk w' sb) → Q .normal ⟨#[z0, z1, z2, .int .i64 day, .int .i64 id, .int .i64 ha, .int .i64 hb, .int .i64 hn, z8, z9, z10, z11, z12, z13, z14, z15, v16, .pointer (some ⟨sb, 0, none⟩), z18, .int .i64 now, z20, z21, .pointer (some ⟨B, 0, none⟩), z23, z24, z25, z26, z27, z28, z29, v30, v31, v32, v33, v34, v35, v36, v37, v38, z39, z40, z41, z42, z43, z44, z45, z46, z47, z48, z49, z50, z51, z52, z53, z54, z55, z56, z57, z58, z59, z60, z61, z62, z63, z64, z65, z66, z67, z68, z69, z70, z71, z72, z73, z74, z75, z76, z77, z78, z79, z80, z81, z82, z83, z84, z85, z86, z87, z88, z89, z90, z91, z92, z93, z94, z95, z96, z97, z98, z99, z100, z101, z102, z103, z104, z105, z106, z107, z108, z109, z110, z111, z112, z113, z114, z115, z116, z117, z118, z119, z120, z121, z122, z123, z124, z125, z126, z127, z128, z129, z130, z131, z132, z133, z134, z135, z136, z137, z138, z139, v140, v141, v142, v143, v144, v145, v146, v147, v148, v149, v150, v151, v152, v153, v154, v155, v156, v157, v158, v159, v160, v161, v162, v163, v164, v165, v166, v167, v168, v169, v170, v171, v172, v173, v174, v175, v176, v177, v178, v179, v180, v181, v182, v183, v184, v185, v186, v187, v188, v189, v190, v191, v192, v193, v194, v195, v196, v197, v198, v199, v200, v201, v202, v203, v204, v205, v206, v207, v208, v209, v210, v211, v212, v213, v214, v215, v216, v217, v218, v219, v220, v221, v222, v223, v224, v225, v226, v227, v228, v229, v230, v231, v232, v233, v234, v235, v236, v237, v238, v239, v240, v241, v242, v243, v244, v245, v246, v247, v248, v249, v250, v251, v252, v253, v254, v255, v256, v257, v258, v259, v260, v261, v262, v263, v264, v265, v266, v267, v268, v269, v270, v271, v272, v273, v274, v275, v276, v277, v278, v279, v280, v281, v282, v283, v284, v285, v286, v287, v288, v289, v290, v291, v292, v293, v294, v295, v296, v297, v298, v299, v300, v301, v302, v303, v304, v305, v306, v307, v308, v309, v310, v311, v312, v313, v314, v315, v316, v317, v318, v319, v320, v321, v322, v323, v324, v325, v326, v327, v328, v329, v330, v331, v332, v333, v334, v335, v336, v337, v338, v339, v340, v341, v342, z343, z344], []⟩ w') :
    Code.wp Try.prog ca_kT (Exit.then K Q) ⟨#[z0, z1, z2, .int .i64 day, .int .i64 id, .int .i64 ha, .int .i64 hb, .int .i64 hn, z8, z9, z10, z11, z12, z13, z14, z15, z16, .pointer (some ⟨sb, 0, none⟩), z18, .int .i64 now, z20, z21, .pointer (some ⟨B, 0, none⟩), z23, z24, z25, z26, z27, z28, z29, z30, z31, z32, z33, z34, z35, z36, z37, z38, z39, z40, z41, z42, z43, z44, z45, z46, z47, z48, z49, z50, z51, z52, z53, z54, z55, z56, z57, z58, z59, z60, z61, z62, z63, z64, z65, z66, z67, z68, z69, z70, z71, z72, z73, z74, z75, z76, z77, z78, z79, z80, z81, z82, z83, z84, z85, z86, z87, z88, z89, z90, z91, z92, z93, z94, z95, z96, z97, z98, z99, z100, z101, z102, z103, z104, z105, z106, z107, z108, z109, z110, z111, z112, z113, z114, z115, z116, z117, z118, z119, z120, z121, z122, z123, z124, z125, z126, z127, z128, z129, z130, z131, z132, z133, z134, z135, z136, z137, z138, z139, z140, z141, z142, z143, z144, z145, z146, z147, z148, z149, z150, z151, z152, z153, z154, z155, z156, z157, z158, z159, z160, z161, z162, z163, z164, z165, z166, z167, z168, z169, z170, z171, z172, z173, z174, z175, z176, z177, z178, z179, z180, z181, z182, z183, z184, z185, z186, z187, z188, z189, z190, z191, z192, z193, z194, z195, z196, z197, z198, z199, z200, z201, z202, z203, z204, z205, z206, z207, z208, z209, z210, z211, z212, z213, z214, z215, z216, z217, z218, z219, z220, z221, z222, z223, z224, z225, z226, z227, z228, z229, z230, z231, z232, z233, z234, z235, z236, z237, z238, z239, z240, z241, z242, z243, z244, z245, z246, z247, z248, z249, z250, z251, z252, z253, z254, z255, z256, z257, z258, z259, z260, z261, z262, z263, z264, z265, z266, z267, z268, z269, z270, z271, z272, z273, z274, z275, z276, z277, z278, z279, z280, z281, z282, z283, z284, z285, z286, z287, z288, z289, z290, z291, z292, z293, z294, z295, z296, z297, z298, z299, z300, z301, z302, z303, z304, z305, z306, z307, z308, z309, z310, z311, z312, z313, z314, z315, z316, z317, z318, z319, z320, z321, z322, z323, z324, z325, z326, z327, z328, z329, z330, z331, z332, z333, z334, z335, z336, z337, z338, z339, z340, z341, z342, z343, z344], []⟩ V1 := by
  obtain ⟨ca, hca⟩ : ∃ c, c = ca_kT := ⟨_, rfl⟩
  obtain ⟨cb, hcb⟩ : ∃ c, c = cb_kT := ⟨_, rfl⟩
  rw [← hca]
  rw [← hcb] at hK
  conv at hca => rhs; whnf
  conv at hcb => rhs; whnf
  subst hca
  subst hcb
  dsimp only
  have hs0 := HS1.out
  have zV1 : B < V1.heap.size := (Array.getElem?_eq_some_iff.1 HYV.out).1
  go_wp2_with fail
  refine (n_any sb 40 _ hs0 (by omega)).mono ?_
  rintro e v1 ⟨n1, ⟨hn1, hn1'⟩, rfl, hS1, hG1⟩
  dsimp only
  have hn1b : n1 < 40 := by omega
  clear hn1'
  go_wp2_with fail
  refine (range_any sb 1 4 _ hS1 (by decide) (by decide) (by decide)).mono ?_
  rintro e v2 ⟨n2, -, rfl, hS2, hG2⟩
  dsimp only
  go_wp2_with fail
  refine (range_any sb 0 5 _ hS2 (by decide) (by decide) (by decide)).mono ?_
  rintro e v3 ⟨n3, -, rfl, hS3, hG3⟩
  dsimp only
  go_wp2_with fail
  refine (range_any sb 0 5 _ hS3 (by decide) (by decide) (by decide)).mono ?_
  rintro e v4 ⟨n4, -, rfl, hS4, hG4⟩
  dsimp only
  go_wp2_with fail
  refine (pick_lit sb [0, 100, 300, 1000, 55] _ _ _ v4 hS4 (by decide) (by decide) rfl rfl rfl).mono ?_
  rintro e v5 ⟨n5, -, rfl, hS5, hG5⟩
  dsimp only
  go_wp2_with fail
  refine (odd_any sb _ hS5).mono ?_
  rintro e v6 ⟨n6, -, rfl, hS6, hG6⟩
  dsimp only
  go_wp2_with fail
  refine (range_any sb 1 3 _ hS6 (by decide) (by decide) (by decide)).mono ?_
  rintro e v7 ⟨n7, -, rfl, hS7, hG7⟩
  dsimp only
  go_wp2_with fail
  refine (odd_any sb _ hS7).mono ?_
  rintro e X8 ⟨n8, -, rfl, hS8, hG8⟩
  dsimp only
  have hGG := grownBy_trans (grownBy_trans (grownBy_trans (grownBy_trans (grownBy_trans (grownBy_trans (grownBy_trans hG1 hG2) hG3) hG4) hG5) hG6) hG7) hG8
  have HY8 := Lib.hid (heap_gr hGG (show B ≠ sb by omega) HYV.out)
  have HR8 := Lib.hid ((HRV.out.grown hGG (fun b h => h.1)).mono (Q := fun b => b < B) (fun b h _ => h.2))
  have HG8 := Lib.hid (hGG)
  have HS8 := Lib.hid hS8
  have z8 := hGG.size
  have zB8 : B < X8.heap.size := by omega
  clear hS1 hS2 hS3 hS4 hS5 hS6 hS7 hS8 hG1 hG2 hG3 hG4 hG5 hG6 hG7 hG8 hGG hs0
  go_wp2_with fail
  go_loopw [168] (fun kv wr => ∃ l : Nat, l ≤ 3 ∧ kv = .int .i64 l ∧ Below X8.heap.size X8 wr) (fun kv _ => 3 - (intOf kv).toNat)
  case atStart => exact ⟨0, by omega, rfl, brefl⟩
  case round =>
    obtain ⟨l, hl, rfl, hbr⟩ := hrel
    by_cases hl4 : l < 3
    · have hk : ∃ (kd kk ka kb kn : Int), ∀ W : World, (Instr.index 52 (.agg #[.int .i64 day, .int .i64 id, .int .i64 ha, .int .i64 hb, .int .i64 hn, .int .i64 (now + n1), .int .i64 n2, .int .i64 n3, .int .i64 n4, .int .i64 n5, .int .i64 n6, .int .i64 n7, .int .i64 1, .int .i64 2, .int .i64 n8]) (.int .i64 (l : Int))).run Try.prog W = .ok (.agg #[.int .i64 kd, .int .i64 kk, .int .i64 ka, .int .i64 kb, .int .i64 kn]) W := by
        rcases (show l = 0 ∨ l = 1 ∨ l = 2 by omega) with rfl | rfl | rfl
        · exact ⟨day, id, ha, hb, hn, fun W => by kernel_rfl⟩
        · exact ⟨now + n1, n2, n3, n4, n5, fun W => by kernel_rfl⟩
        · exact ⟨n6, n7, 1, 2, n8, fun W => by kernel_rfl⟩
      obtain ⟨kd, kk, ka, kb, kn, hixk⟩ := hk
      have HBR := Lib.hid hbr
      have zr2 := hbr.size
      have hl4' : ((l : Int) < 3) = True := eq_true (by omega)
      clear hbr
      obtain ⟨E1, hE1⟩ : ∃ b, rmE Y ⟨0, kd, 1, kk, 0, ka, kn⟩ = b := ⟨_, rfl⟩
      have KI := fun W (hW : Below X8.heap.size X8 W) => rIssue_any (fun _ => True) _ _ _ Y kd kk ka kn W (HR8.out.any.below hW) hl1 hl2 hl3 (fun _ _ => trivial)
      have KJ := fun W (hW : Below X8.heap.size X8 W) => fIssue_any (fun _ => True) _ _ _ Y kd kk ka kn W (HR8.out.any.below hW) hl1 hl2 hl3 (fun _ _ => trivial)
      simp only [hE1] at KI KJ
      have KI := Lib.hid KI
      have KJ := Lib.hid KJ
      have hEE : (E1 != E1) = false := by simp
      clear hE1
      go_upto_region 32 with fail
      obtain ⟨W0, hW0⟩ : ∃ X, wr.alloc (.cells #[.int .i64 kd, .int .i64 kk, .int .i64 ka, .int .i64 kb, .int .i64 kn] 51 (0, 0)) = X := ⟨_, rfl⟩
      have hb0 : Below wr.heap.size wr W0 := by rw [← hW0]; exact bal brefl _
      have hk0 : W0.heap[wr.heap.size]? = some (.cells #[.int .i64 kd, .int .i64 kk, .int .i64 ka, .int .i64 kb, .int .i64 kn] 51 (0, 0)) := by rw [← hW0]; exact heap_alloc_new wr _
      have hs0 : W0.heap.size = wr.heap.size + 1 := by rw [← hW0]; simp
      rw [hW0]
      clear hW0
      obtain ⟨KB, hKB⟩ : ∃ b, wr.heap.size = b := ⟨_, rfl⟩
      rw [hKB] at hk0 hs0 ⊢
      have HK0 := Lib.hid hk0
      have HB0 := Lib.hid (bup HBR.out hb0)
      have hKx : X8.heap.size ≤ KB := by omega
      have hy0 := heap_bl HB0.out HY8.out
      have s0 := cell_heap (i := 0) (hy0) rfl; have s1 := cell_heap (i := 1) (hy0) rfl; have s2 := cell_heap (i := 2) (hy0) rfl
      have tk0 := cell_heap (i := 0) (hk0) rfl; have tk1 := cell_heap (i := 1) (hk0) rfl; have tk2 := cell_heap (i := 2) (hk0) rfl; have tk3 := cell_heap (i := 3) (hk0) rfl; have tk4 := cell_heap (i := 4) (hk0) rfl
      clear hb0 hk0 hy0 hKB
      go_wp2_with fail
      refine (KI.out _ HB0.out).mono ?_
      rintro e w1' ⟨us, uh, um, rfl, hgu, hbu⟩
      dsimp only
      obtain ⟨g0, gn0, gc0, rfl, -, -, -⟩ := hgu.S.shape
      obtain ⟨g1, gn1, gc1, rfl, -, -, -⟩ := hgu.H.shape
      obtain ⟨g2, gn2, gc2, rfl, -, -, -⟩ := hgu.M.shape
      have z1' := hbu.size
      have HU1 := Lib.hid hgu
      have HB1' := Lib.hid (bup HB0.out hbu)
      have HK1' := Lib.hid (heap_bl hbu HK0.out)
      clear hgu hbu s0 s1 s2 tk0 tk1 tk2 tk3 tk4 HK0 HB0
      go_upto_region 33 with fail
      obtain ⟨W1', hW1'⟩ : ∃ X, w1'.alloc (.cells #[.slice g0 gn0 gc0, .slice g1 gn1 gc1, .slice g2 gn2 gc2] 27 (0, 0)) = X := ⟨_, rfl⟩
      have hb0 : Below w1'.heap.size w1' W1' := by rw [← hW1']; exact bal brefl _
      have hu0 : W1'.heap[w1'.heap.size]? = some (.cells #[.slice g0 gn0 gc0, .slice g1 gn1 gc1, .slice g2 gn2 gc2] 27 (0, 0)) := by rw [← hW1']; exact heap_alloc_new w1' _
      have hs1 : W1'.heap.size = w1'.heap.size + 1 := by rw [← hW1']; simp
      rw [hW1']
      clear hW1'
      obtain ⟨UB, hUB⟩ : ∃ b, w1'.heap.size = b := ⟨_, rfl⟩
      rw [hUB] at hu0 hs1 ⊢
      have hKU : KB < UB := by omega
      have HU2 := Lib.hid hu0
      have HB2 := Lib.hid (bup HB1'.out hb0)
      have hk0 := heap_bl hb0 HK1'.out
      have HK2 := Lib.hid hk0
      have HG2' := Lib.hid (HU1.out.below hb0)
      have hy0 := heap_bl HB2.out HY8.out
      have s0 := cell_heap (i := 0) (hy0) rfl; have s1 := cell_heap (i := 1) (hy0) rfl; have s2 := cell_heap (i := 2) (hy0) rfl
      have tk0 := cell_heap (i := 0) (hk0) rfl; have tk1 := cell_heap (i := 1) (hk0) rfl; have tk2 := cell_heap (i := 2) (hk0) rfl; have tk3 := cell_heap (i := 3) (hk0) rfl; have tk4 := cell_heap (i := 4) (hk0) rfl
      clear hb0 hu0 hk0 hy0 hUB HB1' HK1' HU1 hs0 z1'
      go_wp2_with fail
      refine (KJ.out _ HB2.out).mono ?_
      rintro e w2' ⟨ks, kh, km, rfl, hgv, hbv⟩
      dsimp only
      obtain ⟨k0, kn0, kc0, rfl, -, -, -⟩ := hgv.S.shape
      obtain ⟨k1, kn1, kc1, rfl, -, -, -⟩ := hgv.H.shape
      obtain ⟨k2, kn2, kc2, rfl, -, -, -⟩ := hgv.M.shape
      have z2' := hbv.size
      have HV3 := Lib.hid hgv
      have HB3' := Lib.hid (bup HB2.out hbv)
      have HK3 := Lib.hid (heap_bl hbv HK2.out)
      have HU3 := Lib.hid (heap_bl hbv HU2.out)
      have HG3' := Lib.hid (HG2'.out.below hbv)
      clear hgv hbv s0 s1 s2 tk0 tk1 tk2 tk3 tk4 HK2 HB2 HU2 HG2'
      go_upto_region 34 with fail
      obtain ⟨W2', hW2'⟩ : ∃ X, w2'.alloc (.cells #[.slice k0 kn0 kc0, .slice k1 kn1 kc1, .slice k2 kn2 kc2] 27 (0, 0)) = X := ⟨_, rfl⟩
      have hb0 : Below w2'.heap.size w2' W2' := by rw [← hW2']; exact bal brefl _
      have hv0 : W2'.heap[w2'.heap.size]? = some (.cells #[.slice k0 kn0 kc0, .slice k1 kn1 kc1, .slice k2 kn2 kc2] 27 (0, 0)) := by rw [← hW2']; exact heap_alloc_new w2' _
      rw [hW2']
      clear hW2'
      obtain ⟨VB, hVB⟩ : ∃ b, w2'.heap.size = b := ⟨_, rfl⟩
      rw [hVB] at hv0 ⊢
      have hUV : UB < VB := by omega
      have HRK := Lib.hid (show RxK B KB UB VB X8 W2' (.cells #[.slice y0 p0 t0, .slice y1 p1 t1, .slice y2 p2 t2] 27 (0, 0)) (.cells #[.int .i64 kd, .int .i64 kk, .int .i64 ka, .int .i64 kb, .int .i64 kn] 51 (0, 0)) (.cells #[.slice g0 gn0 gc0, .slice g1 gn1 gc1, .slice g2 gn2 gc2] 27 (0, 0)) (.cells #[.slice k0 kn0 kc0, .slice k1 kn1 kc1, .slice k2 kn2 kc2] 27 (0, 0)) from ⟨bup HB3'.out hb0, heap_bl hb0 (heap_bl HB3'.out HY8.out), heap_bl hb0 HK3.out, heap_bl hb0 HU3.out, hv0⟩)
      have HGU := Lib.hid (HG3'.out.below hb0)
      have HGV := Lib.hid (HV3.out.below hb0)
      clear hb0 hv0 hVB HB3' HK3 HU3 HG3' HV3 hs1 z2'
      obtain ⟨Wc, hWc⟩ : ∃ X, W2' = X := ⟨_, rfl⟩
      rw [hWc] at HRK HGU HGV ⊢
      clear hWc
      have cu0 := cell_heap (i := 0) (HRK.out.u) rfl; have cu1 := cell_heap (i := 1) (HRK.out.u) rfl; have cu2 := cell_heap (i := 2) (HRK.out.u) rfl
      have cv0 := cell_heap (i := 0) (HRK.out.v) rfl; have cv1 := cell_heap (i := 1) (HRK.out.v) rfl; have cv2 := cell_heap (i := 2) (HRK.out.v) rfl
      go_wp2_with fail
      refine (fsame_eq _ _ _ _ _ _ _ _ (rmR Y ⟨0, kd, 1, kk, 0, ka, kn⟩) Wc HGU.out HGV.out (rmR_lb _ _ (by simp)).1 (rmR_lb _ _ (by simp)).2.1 (rmR_lb _ _ (by simp)).2.2).mono ?_
      rintro e wS1 ⟨rfl, hb8⟩
      dsimp only
      have HRK := Lib.hid (HRK.out.up hb8)
      clear hb8 HGU HGV cu0 cu1 cu2 cv0 cv1 cv2
      go_upto_region 36 with fail
      obtain ⟨Ea, hEa⟩ : ∃ b, rmE Y ⟨0, kd, 2, kk, ka, kb, kn⟩ = b := ⟨_, rfl⟩
      have KI := fun W (hW : Below X8.heap.size X8 W) (hs : VB < W.heap.size) => rTransfer_any (fun b => b ≠ UB ∧ b ≠ VB) _ _ _ Y kd kk ka kb kn W ((HR8.out.below hW).mono (fun b h _ => by omega)) hl1 hl2 hl3 (fun b hb => by omega)
      have KJ := fun W (hW : Below X8.heap.size X8 W) (hs : VB < W.heap.size) => fTransfer_any (fun b => b ≠ UB ∧ b ≠ VB) _ _ _ Y kd kk ka kb kn W ((HR8.out.below hW).mono (fun b h _ => by omega)) hl1 hl2 hl3 (fun b hb => by omega)
      simp only [hEa] at KI KJ
      have KI := Lib.hid KI
      have KJ := Lib.hid KJ
      have hEEa : (Ea != Ea) = false := by simp
      clear hEa
      have s0 := cell_heap (i := 0) (HRK.out.y) rfl; have s1 := cell_heap (i := 1) (HRK.out.y) rfl; have s2 := cell_heap (i := 2) (HRK.out.y) rfl
      have tk0 := cell_heap (i := 0) (HRK.out.k) rfl; have tk1 := cell_heap (i := 1) (HRK.out.k) rfl; have tk2 := cell_heap (i := 2) (HRK.out.k) rfl; have tk3 := cell_heap (i := 3) (HRK.out.k) rfl; have tk4 := cell_heap (i := 4) (HRK.out.k) rfl
      go_wp2_with fail
      refine (KI.out _ HRK.out.bl HRK.out.lt.2.2.2).mono ?_
      rintro e wa ⟨us, uh, um, rfl, hgu, hbu⟩
      dsimp only
      obtain ⟨p0, pn0, pc0, rfl, -, -, -⟩ := hgu.S.shape
      obtain ⟨p1, pn1, pc1, rfl, -, -, -⟩ := hgu.H.shape
      obtain ⟨p2, pn2, pc2, rfl, -, -, -⟩ := hgu.M.shape
      have HGU := Lib.hid hgu
      have HRK := Lib.hid (HRK.out.up hbu)
      clear s0 s1 s2 tk0 tk1 tk2 tk3 tk4 hgu hbu
      have fu0 := frozen_of_row wa _ 0 _ _ (HRK.out.u); have fu1 := frozen_of_row wa _ 1 _ _ (HRK.out.u); have fu2 := frozen_of_row wa _ 2 _ _ (HRK.out.u)
      have cu0 := cell_heap (i := 0) (HRK.out.u) rfl; have cu1 := cell_heap (i := 1) (HRK.out.u) rfl; have cu2 := cell_heap (i := 2) (HRK.out.u) rfl
      go_upto_region 37 with fail
      obtain ⟨Wa, hWa⟩ : ∃ X, box3 wa UB (.slice p0 pn0 pc0) (.slice p1 pn1 pc1) (.slice p2 pn2 pc2) = X := ⟨_, rfl⟩
      have HRK := Lib.hid (HRK.out.setU (by omega) (by omega) (by omega) (by omega) (.slice p0 pn0 pc0) (.slice p1 pn1 pc1) (.slice p2 pn2 pc2))
      have HGU := Lib.hid (HGU.out.set3' (b := UB) (fun k hk => hk.1) (.slice p0 pn0 pc0) (.slice p1 pn1 pc1) (.slice p2 pn2 pc2))
      rw [hWa] at HRK HGU
      have hWa := hWa
      unfold box3 at hWa
      rw [hWa]
      clear hWa fu0 fu1 fu2 cu0 cu1 cu2
      have s0 := cell_heap (i := 0) (HRK.out.y) rfl; have s1 := cell_heap (i := 1) (HRK.out.y) rfl; have s2 := cell_heap (i := 2) (HRK.out.y) rfl
      have tk0 := cell_heap (i := 0) (HRK.out.k) rfl; have tk1 := cell_heap (i := 1) (HRK.out.k) rfl; have tk2 := cell_heap (i := 2) (HRK.out.k) rfl; have tk3 := cell_heap (i := 3) (HRK.out.k) rfl; have tk4 := cell_heap (i := 4) (HRK.out.k) rfl
      go_wp2_with fail
      refine (KJ.out _ HRK.out.bl HRK.out.lt.2.2.2).mono ?_
      rintro e wb ⟨ks, kh, km, rfl, hgv, hbv⟩
      dsimp only
      obtain ⟨q0, qn0, qc0, rfl, -, -, -⟩ := hgv.S.shape
      obtain ⟨q1, qn1, qc1, rfl, -, -, -⟩ := hgv.H.shape
      obtain ⟨q2, qn2, qc2, rfl, -, -, -⟩ := hgv.M.shape
      have HGV := Lib.hid hgv
      have HGU := Lib.hid (HGU.out.below hbv)
      have HRK := Lib.hid (HRK.out.up hbv)
      clear s0 s1 s2 tk0 tk1 tk2 tk3 tk4 hgv hbv
      have fv0 := frozen_of_row wb _ 0 _ _ (HRK.out.v); have fv1 := frozen_of_row wb _ 1 _ _ (HRK.out.v); have fv2 := frozen_of_row wb _ 2 _ _ (HRK.out.v)
      have cv0 := cell_heap (i := 0) (HRK.out.v) rfl; have cv1 := cell_heap (i := 1) (HRK.out.v) rfl; have cv2 := cell_heap (i := 2) (HRK.out.v) rfl
      go_upto_region 38 with fail
      obtain ⟨Wb, hWb⟩ : ∃ X, box3 wb VB (.slice q0 qn0 qc0) (.slice q1 qn1 qc1) (.slice q2 qn2 qc2) = X := ⟨_, rfl⟩
      have HRK := Lib.hid (HRK.out.setV (by omega) (by omega) (by omega) (by omega) (.slice q0 qn0 qc0) (.slice q1 qn1 qc1) (.slice q2 qn2 qc2))
      have HGU := Lib.hid (HGU.out.set3' (b := VB) (fun k hk => hk.2) (.slice q0 qn0 qc0) (.slice q1 qn1 qc1) (.slice q2 qn2 qc2))
      have HGV := Lib.hid (HGV.out.set3' (b := VB) (fun k hk => hk.2) (.slice q0 qn0 qc0) (.slice q1 qn1 qc1) (.slice q2 qn2 qc2))
      rw [hWb] at HRK HGU HGV
      have hWb := hWb
      unfold box3 at hWb
      rw [hWb]
      clear hWb fv0 fv1 fv2 cv0 cv1 cv2
      have cu0 := cell_heap (i := 0) (HRK.out.u) rfl; have cu1 := cell_heap (i := 1) (HRK.out.u) rfl; have cu2 := cell_heap (i := 2) (HRK.out.u) rfl
      have cv0 := cell_heap (i := 0) (HRK.out.v) rfl; have cv1 := cell_heap (i := 1) (HRK.out.v) rfl; have cv2 := cell_heap (i := 2) (HRK.out.v) rfl
      go_wp2_with fail
      refine (fsame_eq _ _ _ _ _ _ _ _ (rmR Y ⟨0, kd, 2, kk, ka, kb, kn⟩) Wb HGU.out HGV.out (rmR_lb _ _ (by simp)).1 (rmR_lb _ _ (by simp)).2.1 (rmR_lb _ _ (by simp)).2.2).mono ?_
      rintro e wS2 ⟨rfl, hb8⟩
      dsimp only
      have HRK := Lib.hid (HRK.out.up hb8)
      clear hb8 HGU HGV cu0 cu1 cu2 cv0 cv1 cv2
      go_upto_region 40 with fail
      refine kU HRK HR8 HLY (by omega) (by omega) (by omega) (by omega) hl1 hl2 hl3 (by assumption) ?_
      intros
      rename_i wx hpost
      have HFIN := Lib.hid hpost
      clear hpost
      go_wp2
      go_roundw
      case rel => exact ⟨l + 1, by omega, by go_num, HFIN.out⟩
      case measure => simp [intOf]; omega
    · have hl4' : ((l : Int) < 3) = False := eq_false (by omega)
      have HFIN := Lib.hid (show V1.grownBy wr (some sb) ∧ SrcOk wr sb from ⟨grownBy_trans HG8.out (gr_of_below hbr sb), srcOk_below HS8.out hbr (by omega)⟩)
      clear hbr
      go_wp2
      first | exact HFIN.out | exact hQ _ _ _ _ _ _ _ _ _ _ _ _ _ _ _ _ _ _ _ _ _ _ _ _ _ _ _ _ _ _ _ _ _ _ _ _ _ _ _ _ _ _ _ _ _ _ _ _ _ _ _ _ _ _ _ _ _ _ _ _ _ _ _ _ _ _ _ _ _ _ _ _ _ _ _ _ _ _ _ _ _ _ _ _ _ _ _ _ _ _ _ _ _ _ _ _ _ _ _ _ _ _ _ _ _ _ _ _ _ _ _ _ _ _ _ _ _ _ _ _ _ _ _ _ _ _ _ _ _ _ _ _ _ _ _ _ _ _ _ _ _ _ _ _ _ _ _ _ _ _ _ _ _ _ _ _ _ _ _ _ _ _ _ _ _ _ _ _ _ _ _ _ _ _ _ _ _ _ _ _ _ _ _ _ _ _ _ _ _ _ _ _ _ _ _ _ _ _ _ _ _ _ _ _ _ _ _ _ _ _ _ _ _ _ HFIN.out
end Go.Proofs.Ytpoidaenkjjdfaa
