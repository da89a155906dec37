/- RegisterExact: the rounds over registers. Printed by wip/gen/l33ex.py. -/
import Derived.Test.YtpoidaenkjjdfaaZL33ExS
import Derived.Test.YtpoidaenkjjdfaaZL33ExT
import Derived.Deep.CutRange
namespace Go.Proofs.Ytpoidaenkjjdfaa
open Go.RowKit
set_option linter.unusedVariables false
set_option linter.unusedSimpArgs false
noncomputable def cb_kL : Code := ((Try.f3.body.bind (seqAt 16)).getD (.skip, .skip)).2
set_option maxHeartbeats 64000000 in
set_option maxRecDepth 1000000 in
theorem kL {Q : Exit → Act → World → Prop} {w w3 W10 : World} {sb C : Nat} {day id ha hb hn now : Int} {xid xun xis xma xra xev : Int} {xix : Bool} {ov pun pis pma pra pev : Int} {oix : Bool} {r0 r1 r2 a0 a1 a2 u0 u1 u2 : Option Addr} {rn0 rc0 rn1 rc1 rn2 rc2 n0 c0 n1 c1 n2 c2 m0 d0 m1 d1 m2 d2 : Nat} {R RR R' : Reg} {z0 z1 z2 z8 z9 z11 z12 z13 z14 z15 z16 z18 z21 z22 z23 z24 z25 z26 z27 z28 z29 z30 z31 z32 z33 z34 z35 z36 z37 z38 z39 z40 z41 z42 z43 z44 z45 z46 z47 z48 z49 z50 z51 z52 z53 z54 z55 z56 z57 z58 z59 z60 z61 z62 z63 z64 z65 z66 z67 z68 z69 z70 z71 z72 z73 z74 z75 z76 z77 z78 z79 z80 z81 z82 z83 z84 z87 z88 z89 z90 z91 z92 z93 z94 z95 z96 z97 z98 z99 z100 z101 z102 z103 z104 z105 z106 z107 z108 z109 z110 z111 z112 z113 z114 z115 z116 z117 z118 z119 z120 z121 z122 z123 z124 z125 z126 z127 z128 z129 z130 z131 z132 z133 z134 z135 z136 z137 z138 z139 z140 z141 z142 z143 z144 z145 z146 z147 z148 z149 z150 z151 z152 z153 z154 z155 z156 z157 z158 z159 z160 z161 z162 z163 z164 z165 z166 z167 z168 z169 z170 z171 z172 z173 z174 z175 z176 z177 z178 z179 z180 z181 z182 z183 z184 z185 z186 z187 z188 z189 z190 z191 z192 z193 z194 z195 z196 z197 z198 z199 z200 z201 z202 z203 z204 z205 z206 z207 z208 z209 z210 z211 z212 z213 z214 z215 z216 z217 z218 z219 z220 z221 z222 z223 z224 z225 z226 z227 z228 z229 z230 z231 z232 z233 z234 z235 z236 z237 z238 z239 z240 z241 z242 z243 z244 z245 z246 z247 z248 z249 z250 z251 z252 z253 z254 z255 z256 z257 z258 z259 z260 z261 z262 z263 z264 z265 z266 z267 z268 z269 z270 z271 z272 z273 z274 z275 z276 z277 z278 z279 z280 z281 z282 z283 z284 z285 z286 z287 z288 z289 z290 z291 z292 z293 z294 z295 z296 z297 z298 z299 z300 z301 z302 z303 z304 z305 z306 z307 z308 z309 z310 z311 z312 z313 z314 z315 z316 z317 z318 z319 z320 z321 z322 z323 z324 z325 z326 z327 z328 z329 z330 z331 z332 z333 z334 z335 z336 z337 z338 z339 z340 z341 z342 z343 z344 : Value} (HST : Hid (RxS sb w.heap.size w3.heap.size C w W10 ⟨xid, xun, xis, xma, xra, xev, xix⟩ (.slice r0 rn0 rc0) (.slice r1 rn1 rc1) (.slice r2 rn2 rc2) (.slice a0 n0 c0) (.slice a1 n1 c1) (.slice a2 n2 c2) R)) (HC : Hid (W10.heap[C]? = some (.cells #[.int .i64 ov, .int .i64 pun, .int .i64 pis, .int .i64 pma, .int .i64 pra, .int .i64 pev, .bool oix] 29 (0, 0)))) (HRB : Hid (RgIn (fun b => b ≠ sb) W10 (.slice u0 m0 d0) (.slice u1 m1 d1) (.slice u2 m2 d2) R')) (HLB' : Hid (LB R')) (HNE' : Hid (0 < R'.secs.length)) (HLIKE : Hid (RegLike R now)) (HRR : Hid (RgIn (fun _ => True) w (.slice r0 rn0 rc0) (.slice r1 rn1 rc1) (.slice r2 rn2 rc2) RR)) (HNZ : Hid (NnS (.slice r0 rn0 rc0) RR)) (HLB : Hid (LB RR)) (lsb : sb < w3.heap.size) (lC : w3.heap.size < C) (lA : w.heap.size + 1 < sb) (hd0 : 0 ≤ now) (hdl : now ≤ 1300)
    (hQ : ∀ (v16 v22 v24 v25 v26 v27 v28 v30 v31 v32 v33 v34 v35 v36 v37 v38 v86 v87 v88 v89 v90 v91 v92 v93 v94 v95 v96 v97 v98 v99 v100 v101 v102 v103 v104 v105 v106 v107 v108 v109 v110 v111 v112 v113 v114 v115 v116 v117 v118 v119 v120 v121 v122 v123 v124 v125 v126 v127 v128 v129 v130 v131 v132 v133 v134 v135 v136 v137 v138 v139 v140 v141 v142 v143 v144 v145 v146 v147 v148 v149 v150 v151 v152 v153 v154 v155 v156 v157 v158 v159 v160 v161 v162 v163 v164 v165 v166 v167 v168 v169 v170 v171 v172 v173 v174 v175 v176 v177 v178 v179 v180 v181 v182 v183 v184 v185 v186 v187 v188 v189 v190 v191 v192 v193 v194 v195 v196 v197 v198 v199 v200 v201 v202 v203 v204 v205 v206 v207 v208 v209 v210 v211 v212 v213 v214 v215 v216 v217 v218 v219 v220 v221 v222 v223 v224 v225 v226 v227 v228 v229 v230 v231 v232 v233 v234 v235 v236 v237 v238 v239 v240 v241 v242 v243 v244 v245 v246 v247 v248 v249 v250 v251 v252 v253 v254 v255 v256 v257 v258 v259 v260 v261 v262 v263 v264 v265 v266 v267 v268 v269 v270 v271 v272 v273 v274 v275 v276 v277 v278 v279 v280 v281 v282 v283 v284 v285 v286 v287 v288 v289 v290 v291 v292 v293 v294 v295 v296 v297 v298 v299 v300 v301 v302 v303 v304 v305 v306 v307 v308 v309 v310 v311 v312 v313 v314 v315 v316 v317 v318 v319 v320 v321 v322 v323 v324 v325 v326 v327 v328 v329 v330 v331 v332 v333 v334 v335 v336 v337 v338 v339 v340 v341 v342 v343 : Value) (w' : World), (Below w.heap.size w w') → Q .normal ⟨#[z0, z1, z2, .int .i64 day, .int .i64 id, .int .i64 ha, .int .i64 hb, .int .i64 hn, z8, z9, .pointer (some ⟨w.heap.size + 1, 0, none⟩), z11, z12, z13, z14, z15, v16, .pointer (some ⟨sb, 0, none⟩), z18, .int .i64 now, .pointer (some ⟨C, 0, none⟩), z21, v22, z23, v24, v25, v26, v27, v28, z29, v30, v31, v32, v33, v34, v35, v36, v37, v38, z39, z40, z41, z42, z43, z44, z45, z46, z47, z48, z49, z50, z51, z52, z53, z54, z55, z56, z57, z58, z59, z60, z61, z62, z63, z64, z65, z66, z67, z68, z69, z70, z71, z72, z73, z74, z75, z76, z77, z78, z79, z80, z81, z82, z83, z84, .agg #[.slice a0 n0 c0, .slice a1 n1 c1, .slice a2 n2 c2, .slice u0 m0 d0, .slice u1 m1 d1, .slice u2 m2 d2, .slice r0 rn0 rc0, .slice r1 rn1 rc1, .slice r2 rn2 rc2], v86, v87, v88, v89, v90, v91, v92, v93, v94, v95, v96, v97, v98, v99, v100, v101, v102, v103, v104, v105, v106, v107, v108, v109, v110, v111, v112, v113, v114, v115, v116, v117, v118, v119, v120, v121, v122, v123, v124, v125, v126, v127, v128, v129, v130, v131, v132, v133, v134, v135, v136, v137, v138, v139, v140, v141, v142, v143, v144, v145, v146, v147, v148, v149, v150, v151, v152, v153, v154, v155, v156, v157, v158, v159, v160, v161, v162, v163, v164, v165, v166, v167, v168, v169, v170, v171, v172, v173, v174, v175, v176, v177, v178, v179, v180, v181, v182, v183, v184, v185, v186, v187, v188, v189, v190, v191, v192, v193, v194, v195, v196, v197, v198, v199, v200, v201, v202, v203, v204, v205, v206, v207, v208, v209, v210, v211, v212, v213, v214, v215, v216, v217, v218, v219, v220, v221, v222, v223, v224, v225, v226, v227, v228, v229, v230, v231, v232, v233, v234, v235, v236, v237, v238, v239, v240, v241, v242, v243, v244, v245, v246, v247, v248, v249, v250, v251, v252, v253, v254, v255, v256, v257, v258, v259, v260, v261, v262, v263, v264, v265, v266, v267, v268, v269, v270, v271, v272, v273, v274, v275, v276, v277, v278, v279, v280, v281, v282, v283, v284, v285, v286, v287, v288, v289, v290, v291, v292, v293, v294, v295, v296, v297, v298, v299, v300, v301, v302, v303, v304, v305, v306, v307, v308, v309, v310, v311, v312, v313, v314, v315, v316, v317, v318, v319, v320, v321, v322, v323, v324, v325, v326, v327, v328, v329, v330, v331, v332, v333, v334, v335, v336, v337, v338, v339, v340, v341, v342, v343, z344], []⟩ w') :
    Code.wp Try.prog cb_kL Q ⟨#[z0, z1, z2, .int .i64 day, .int .i64 id, .int .i64 ha, .int .i64 hb, .int .i64 hn, z8, z9, .pointer (some ⟨w.heap.size + 1, 0, none⟩), z11, z12, z13, z14, z15, z16, .pointer (some ⟨sb, 0, none⟩), z18, .int .i64 now, .pointer (some ⟨C, 0, none⟩), z21, z22, z23, z24, z25, z26, z27, z28, z29, z30, z31, z32, z33, z34, z35, z36, z37, z38, z39, z40, z41, z42, z43, z44, z45, z46, z47, z48, z49, z50, z51, z52, z53, z54, z55, z56, z57, z58, z59, z60, z61, z62, z63, z64, z65, z66, z67, z68, z69, z70, z71, z72, z73, z74, z75, z76, z77, z78, z79, z80, z81, z82, z83, z84, .agg #[.slice a0 n0 c0, .slice a1 n1 c1, .slice a2 n2 c2, .slice u0 m0 d0, .slice u1 m1 d1, .slice u2 m2 d2, .slice r0 rn0 rc0, .slice r1 rn1 rc1, .slice r2 rn2 rc2], .int .i64 0, z87, z88, z89, z90, z91, z92, z93, z94, z95, z96, z97, z98, z99, z100, z101, z102, z103, z104, z105, z106, z107, z108, z109, z110, z111, z112, z113, z114, z115, z116, z117, z118, z119, z120, z121, z122, z123, z124, z125, z126, z127, z128, z129, z130, z131, z132, z133, z134, z135, z136, z137, z138, z139, z140, z141, z142, z143, z144, z145, z146, z147, z148, z149, z150, z151, z152, z153, z154, z155, z156, z157, z158, z159, z160, z161, z162, z163, z164, z165, z166, z167, z168, z169, z170, z171, z172, z173, z174, z175, z176, z177, z178, z179, z180, z181, z182, z183, z184, z185, z186, z187, z188, z189, z190, z191, z192, z193, z194, z195, z196, z197, z198, z199, z200, z201, z202, z203, z204, z205, z206, z207, z208, z209, z210, z211, z212, z213, z214, z215, z216, z217, z218, z219, z220, z221, z222, z223, z224, z225, z226, z227, z228, z229, z230, z231, z232, z233, z234, z235, z236, z237, z238, z239, z240, z241, z242, z243, z244, z245, z246, z247, z248, z249, z250, z251, z252, z253, z254, z255, z256, z257, z258, z259, z260, z261, z262, z263, z264, z265, z266, z267, z268, z269, z270, z271, z272, z273, z274, z275, z276, z277, z278, z279, z280, z281, z282, z283, z284, z285, z286, z287, z288, z289, z290, z291, z292, z293, z294, z295, z296, z297, z298, z299, z300, z301, z302, z303, z304, z305, z306, z307, z308, z309, z310, z311, z312, z313, z314, z315, z316, z317, z318, z319, z320, z321, z322, z323, z324, z325, z326, z327, z328, z329, z330, z331, z332, z333, z334, z335, z336, z337, z338, z339, z340, z341, z342, z343, z344], []⟩ W10 := by
  obtain ⟨cb, hcb⟩ : ∃ c, c = cb_kL := ⟨_, rfl⟩
  rw [← hcb]
  conv at hcb => rhs; whnf
  subst hcb
  dsimp only
  have HQ := Lib.hid hQ
  clear hQ
  have HNR := Lib.hid (show NnS (.slice a0 n0 c0) R from .inr (.inl HLIKE.out.ne))
  have HLR := Lib.hid (show LB R from ⟨by have := HLIKE.out.ok.ls; omega, by have := HLIKE.out.ok.hl; omega, by have := HLIKE.out.ok.lm; omega⟩)
  clear HLIKE
  have z10 := HST.out.bl.size
  go_wp2_with fail
  go_loopw [86] (fun kv wr => ∃ k : Nat, k ≤ 3 ∧ kv = .int .i64 k ∧ W10.grownBy wr (some sb) ∧ SrcOk wr sb) (fun kv _ => 3 - (intOf kv).toNat)
  case atStart => exact ⟨0, by omega, rfl, gr_of_below brefl sb, HST.out.so⟩
  case round =>
    obtain ⟨k, hk, rfl, hGr, hSr⟩ := hrel
    obtain ⟨V, hV⟩ : ∃ X, X = wr := ⟨_, rfl⟩
    subst hV
    have hst := HST.out.grown hGr hSr
    have hBV := hst.bl
    by_cases hlt3 : k < 3
    · have hy : ∃ (y0 y1 y2 : Option Addr) (p0 t0 p1 t1 p2 t2 : Nat) (Y : Reg), LB Y ∧ NnS (.slice y0 p0 t0) Y ∧ RgIn (fun b => b ≠ sb) V (.slice y0 p0 t0) (.slice y1 p1 t1) (.slice y2 p2 t2) Y ∧ ∀ W : World, (Instr.index 42 (.agg #[.slice a0 n0 c0, .slice a1 n1 c1, .slice a2 n2 c2, .slice u0 m0 d0, .slice u1 m1 d1, .slice u2 m2 d2, .slice r0 rn0 rc0, .slice r1 rn1 rc1, .slice r2 rn2 rc2]) (.int .i64 (k : Int))).run Try.prog W = .ok (.agg #[.slice y0 p0 t0, .slice y1 p1 t1, .slice y2 p2 t2]) W := by
        rcases (show k = 0 ∨ k = 1 ∨ k = 2 by omega) with rfl | rfl | rfl
        · exact ⟨a0, a1, a2, n0, c0, n1, c1, n2, c2, R, HLR.out, HNR.out, hst.rg.mono (fun b h _ => h.1), fun W => by kernel_rfl⟩
        · exact ⟨u0, u1, u2, m0, d0, m1, d1, m2, d2, R', HLB'.out, .inr (.inl HNE'.out), HRB.out.grown hGr (fun b h => h), fun W => by kernel_rfl⟩
        · exact ⟨r0, r1, r2, rn0, rc0, rn1, rc1, rn2, rc2, RR, HLB.out, HNZ.out, ((HRR.out.mono (Q := fun b => b < w.heap.size) (fun b _ hl => hl)).below hBV).mono (fun b h _ => by have := hst.lA; have := hst.lw; omega), fun W => by kernel_rfl⟩
      obtain ⟨y0, y1, y2, p0, t0, p1, t1, p2, t2, Y, hlbY, hnY, hrY, hix⟩ := hy
      have HST1 := Lib.hid hst
      have HC1 := Lib.hid (heap_gr hGr (show C ≠ sb by have := hst.lB; have := hst.lC; omega) HC.out)
      have HG1 := Lib.hid hGr
      have HLY := Lib.hid hlbY
      have HNY := Lib.hid hnY
      have HRY := Lib.hid hrY
      have HBV := Lib.hid hBV
      have hl1 := hlbY.1
      have hl2 := hlbY.2.1
      have hl3 := hlbY.2.2
      have zV := hBV.size
      have hsV := srcOk_lt hSr
      clear hst hBV hGr hSr hlbY hnY hrY
      have hlt3' : ((k : Int) < 3) = True := eq_true (by omega)
      go_upto_region 19 with fail
      obtain ⟨W1, hW1⟩ : ∃ X, V.alloc (.cells #[.slice y0 p0 t0, .slice y1 p1 t1, .slice y2 p2 t2] 27 (0, 0)) = X := ⟨_, rfl⟩
      have hy1 : W1.heap[V.heap.size]? = some (.cells #[.slice y0 p0 t0, .slice y1 p1 t1, .slice y2 p2 t2] 27 (0, 0)) := by rw [← hW1]; exact heap_alloc_new V _
      have hb1 : Below V.heap.size V W1 := by rw [← hW1]; exact bal brefl _
      have zW1 : W1.heap.size = V.heap.size + 1 := by rw [← hW1]; simp
      rw [hW1]
      obtain ⟨B, hB⟩ : ∃ B, V.heap.size = B := ⟨_, rfl⟩
      rw [hB] at hy1 zW1 ⊢
      have HY1 := Lib.hid hy1
      have HRY1 := Lib.hid ((HRY.out.mono (Q := fun b => b ≠ sb ∧ b < B) (fun b h hl => ⟨h, by omega⟩)).below hb1)
      have HST2 := Lib.hid (HST1.out.grown (gr_of_below hb1 sb) (srcOk_below HST1.out.so hb1 hsV))
      have HC2 := Lib.hid (heap_bl hb1 HC1.out)
      have HG2 := Lib.hid (grownBy_trans HG1.out (gr_of_below hb1 sb))
      have x0 := cell_heap (i := 0) (HY1.out) rfl; have x1 := cell_heap (i := 1) (HY1.out) rfl; have x2 := cell_heap (i := 2) (HY1.out) rfl
      have v0 := up_cell x0
      have v1 := up_cell x1
      have v2 := up_cell x2
      have zsb : sb < B := by omega
      clear hy1 hW1 hb1 hB HRY HST1 HC1 HG1 hix HBV
      have K1 := Lib.hid (fun W (hW : Below W1.heap.size W1 W) => check_any _ _ _ _ Y W (HRY1.out.below hW) hl1 hl2 hl3)
      have K2 := Lib.hid (fun W (hW : Below W1.heap.size W1 W) => fcheck_any _ _ _ _ Y W (HRY1.out.below hW) hl1 hl2 hl3)
      have K3 := Lib.hid (fun W (hW : Below W1.heap.size W1 W) => rdebt_any _ _ _ _ Y W (HRY1.out.below hW) hl1 hl2 hl3)
      have K4 := Lib.hid (fun W (hW : Below W1.heap.size W1 W) => fDebt_any _ _ _ _ Y W (HRY1.out.below hW) hl1 hl2 hl3)
      obtain ⟨E, hE⟩ : ∃ E, chkE Y = E := ⟨_, rfl⟩
      obtain ⟨D, hD⟩ : ∃ D, rgDebt Y = D := ⟨_, rfl⟩
      rw [hE] at K1 K2
      rw [hD] at K3 K4
      clear hE hD
      have hEE : (E != E) = false := by simp
      have hDD : (D != D) = false := by simp
      (refine wp_region_up (by kernel_rfl) (by kernel_rfl) ?_); (repeat (go_big_quiet_step ((first | (go_at_call 17; (with_reducible refine (K1.out _ (up_prop _)).mono ?_); exact fun _ _ hh => ⟨hh.1, ⟨_, bup (Subtype.property _) hh.2⟩, rfl⟩) | (go_at_call 18; (with_reducible refine (K2.out _ (up_prop _)).mono ?_); exact fun _ _ hh => ⟨hh.1, ⟨_, bup (Subtype.property _) hh.2⟩, rfl⟩) | (go_at_call 19; (with_reducible refine (K3.out _ (up_prop _)).mono ?_); exact fun _ _ hh => ⟨hh.1, ⟨_, bup (Subtype.property _) hh.2⟩, rfl⟩) | (go_at_call 20; (with_reducible refine (K4.out _ (up_prop _)).mono ?_); exact fun _ _ hh => ⟨hh.1, ⟨_, bup (Subtype.property _) hh.2⟩, rfl⟩))))); (refine wpQuiet_nil ?_); (rintro w2 ⟨⟨_, hb2⟩, rfl⟩)
      have HY2 := Lib.hid (heap_bl hb2 HY1.out)
      have HRY2 := Lib.hid (HRY1.out.below hb2)
      have HST3 := Lib.hid (HST2.out.grown (gr_of_below hb2 sb) (srcOk_below HST2.out.so hb2 (by omega)))
      have HC3 := Lib.hid (heap_bl hb2 HC2.out)
      have HG3 := Lib.hid (grownBy_trans HG2.out (gr_of_below hb2 sb))
      have z2w := hb2.size
      clear v0 v1 v2 x0 x1 x2 K1 K2 K3 K4 HY1 HRY1 HST2 HC2 HG2 hb2 hEE hDD
      go_upto_region 21 with fail
      refine kS HST3 HC3 HY2 HRY2 HNY zsb lC lsb hl1 hl2 hl3 (by assumption) ?_
      intros
      rename_i V1 hpost1
      have HS1 := Lib.hid hpost1.2
      have HYV := Lib.hid (heap_gr hpost1.1 (show B ≠ sb by omega) HY2.out)
      have HRV := Lib.hid (HRY2.out.grown hpost1.1 (fun b h => h.1))
      have HGV := Lib.hid (grownBy_trans HG3.out hpost1.1)
      clear hpost1 HST3 HC3 HG3 HY2 HRY2
      go_upto_region 29 with fail
      refine kT HS1 HYV HRV HLY zsb hd0 (by omega) hl1 hl2 hl3 (by assumption) ?_
      intros
      rename_i V2 hpost2
      have HFIN := Lib.hid (show W10.grownBy V2 (some sb) ∧ SrcOk V2 sb from ⟨grownBy_trans HGV.out hpost2.1, hpost2.2⟩)
      clear hpost2
      go_wp2
      go_roundw
      case rel => exact ⟨k + 1, by omega, by go_num, HFIN.out.1, HFIN.out.2⟩
      case measure => simp [intOf]; omega
    · have hlt3' : ((k : Int) < 3) = False := eq_false (by omega)
      clear hst
      have HBV := Lib.hid hBV
      clear hBV
      go_wp2
      exact HQ.out _ _ _ _ _ _ _ _ _ _ _ _ _ _ _ _ _ _ _ _ _ _ _ _ _ _ _ _ _ _ _ _ _ _ _ _ _ _ _ _ _ _ _ _ _ _ _ _ _ _ _ _ _ _ _ _ _ _ _ _ _ _ _ _ _ _ _ _ _ _ _ _ _ _ _ _ _ _ _ _ _ _ _ _ _ _ _ _ _ _ _ _ _ _ _ _ _ _ _ _ _ _ _ _ _ _ _ _ _ _ _ _ _ _ _ _ _ _ _ _ _ _ _ _ _ _ _ _ _ _ _ _ _ _ _ _ _ _ _ _ _ _ _ _ _ _ _ _ _ _ _ _ _ _ _ _ _ _ _ _ _ _ _ _ _ _ _ _ _ _ _ _ _ _ _ _ _ _ _ _ _ _ _ _ _ _ _ _ _ _ _ _ _ _ _ _ _ _ _ _ _ _ _ _ _ _ _ _ _ _ _ _ _ _ _ _ _ _ _ _ _ _ _ _ _ _ _ _ _ _ _ _ _ _ _ _ _ _ _ _ _ _ _ _ _ _ _ _ _ _ _ _ _ _ _ _ _ _ _ _ _ _ _ _ _ _ _ _ _ _ _ _ _ _ _ HBV.out
end Go.Proofs.Ytpoidaenkjjdfaa
