/- RegisterExact: the rounds over securities. Printed by wip/gen/l33ex.py. -/
import Derived.Test.YtpoidaenkjjdfaaZL33ExA
import Derived.Deep.CutRange
namespace Go.Proofs.Ytpoidaenkjjdfaa
open Go.RowKit
set_option linter.unusedVariables false
set_option linter.unusedSimpArgs false
noncomputable def ca_kS : Code := ((Try.f3.body.bind (seqAt 21)).getD (.skip, .skip)).1
noncomputable def cb_kS : Code := ((Try.f3.body.bind (seqAt 21)).getD (.skip, .skip)).2
set_option maxHeartbeats 64000000 in
set_option maxRecDepth 1000000 in
theorem kS {K : Act → World → Prop} {Q : Exit → Act → World → Prop} {w w2 w3 : World} {sb B C : Nat} {xid xun xis xma xra xev : Int} {xix : Bool} {ov pun pis pma pra pev : Int} {oix : Bool} {r0 r1 r2 a0 a1 a2 : Option Addr} {rn0 rc0 rn1 rc1 rn2 rc2 n0 c0 n1 c1 n2 c2 : Nat} {R Y : Reg} {y0 y1 y2 : Option Addr} {p0 t0 p1 t1 p2 t2 : Nat} {z0 z1 z2 z3 z4 z5 z6 z7 z8 z9 z11 z12 z13 z14 z15 z16 z18 z19 z21 z23 z24 z25 z26 z27 z28 z29 z30 z31 z32 z33 z34 z35 z36 z37 z38 z39 z40 z41 z42 z43 z44 z45 z46 z47 z48 z49 z50 z51 z52 z53 z54 z55 z56 z57 z58 z59 z60 z61 z62 z63 z64 z65 z66 z67 z68 z69 z70 z71 z72 z73 z74 z75 z76 z77 z78 z79 z80 z81 z82 z83 z84 z85 z86 z87 z88 z89 z90 z91 z92 z93 z94 z95 z96 z97 z98 z99 z100 z101 z102 z103 z104 z105 z106 z107 z108 z109 z110 z111 z112 z113 z114 z115 z116 z117 z118 z119 z120 z121 z122 z123 z124 z125 z126 z127 z128 z129 z130 z131 z132 z133 z134 z135 z136 z137 z138 z139 z140 z141 z142 z143 z144 z145 z146 z147 z148 z149 z150 z151 z152 z153 z154 z155 z156 z157 z158 z159 z160 z161 z162 z163 z164 z165 z166 z167 z168 z169 z170 z171 z172 z173 z174 z175 z176 z177 z178 z179 z180 z181 z182 z183 z184 z185 z186 z187 z188 z189 z190 z191 z192 z193 z194 z195 z196 z197 z198 z199 z200 z201 z202 z203 z204 z205 z206 z207 z208 z209 z210 z211 z212 z213 z214 z215 z216 z217 z218 z219 z220 z221 z222 z223 z224 z225 z226 z227 z228 z229 z230 z231 z232 z233 z234 z235 z236 z237 z238 z239 z240 z241 z242 z243 z244 z245 z246 z247 z248 z249 z250 z251 z252 z253 z254 z255 z256 z257 z258 z259 z260 z261 z262 z263 z264 z265 z266 z267 z268 z269 z270 z271 z272 z273 z274 z275 z276 z277 z278 z279 z280 z281 z282 z283 z284 z285 z286 z287 z288 z289 z290 z291 z292 z293 z294 z295 z296 z297 z298 z299 z300 z301 z302 z303 z304 z305 z306 z307 z308 z309 z310 z311 z312 z313 z314 z315 z316 z317 z318 z319 z320 z321 z322 z323 z324 z325 z326 z327 z328 z329 z330 z331 z332 z333 z334 z335 z336 z337 z338 z339 z340 z341 z342 z343 z344 : Value} (HST3 : Hid (RxS sb w.heap.size w3.heap.size C w w2 ⟨xid, xun, xis, xma, xra, xev, xix⟩ (.slice r0 rn0 rc0) (.slice r1 rn1 rc1) (.slice r2 rn2 rc2) (.slice a0 n0 c0) (.slice a1 n1 c1) (.slice a2 n2 c2) R)) (HC3 : Hid (w2.heap[C]? = some (.cells #[.int .i64 ov, .int .i64 pun, .int .i64 pis, .int .i64 pma, .int .i64 pra, .int .i64 pev, .bool oix] 29 (0, 0)))) (HY2 : Hid (w2.heap[B]? = some (.cells #[.slice y0 p0 t0, .slice y1 p1 t1, .slice y2 p2 t2] 27 (0, 0)))) (HRY2 : Hid (RgIn (fun b => b ≠ sb ∧ b < B) w2 (.slice y0 p0 t0) (.slice y1 p1 t1) (.slice y2 p2 t2) Y)) (HNY : Hid (NnS (.slice y0 p0 t0) Y)) (zsb : sb < B) (lC : w3.heap.size < C) (lsb : sb < w3.heap.size) (hl1 : Y.secs.length ≤ 1000000) (hl2 : Y.hs.length ≤ 1000000) (hl3 : Y.ms.length ≤ 1000000)
    (hK : ∀ a w, Code.wp Try.prog cb_kS Q a w → K a w)
    (hQ : ∀ (v16 v24 v25 v26 v27 v28 v101 v102 v103 v104 v105 v106 v107 v108 v109 v110 v111 v112 v113 v114 v115 v116 v117 v118 v119 v120 v121 v122 v123 v124 v125 v126 v127 v128 v129 v130 v131 v132 v133 v134 v135 v136 v137 v138 v139 : Value) (w' : World), (w2.grownBy w' (some sb) ∧ SrcOk w' sb) → Q .normal ⟨#[z0, z1, z2, z3, z4, z5, z6, z7, z8, z9, .pointer (some ⟨w.heap.size + 1, 0, none⟩), z11, z12, z13, z14, z15, v16, .pointer (some ⟨sb, 0, none⟩), z18, z19, .pointer (some ⟨C, 0, none⟩), z21, .pointer (some ⟨B, 0, none⟩), z23, v24, v25, v26, v27, v28, z29, z30, z31, z32, z33, z34, z35, z36, z37, z38, z39, z40, z41, z42, z43, z44, z45, z46, z47, z48, z49, z50, z51, z52, z53, z54, z55, z56, z57, z58, z59, z60, z61, z62, z63, z64, z65, z66, z67, z68, z69, z70, z71, z72, z73, z74, z75, z76, z77, z78, z79, z80, z81, z82, z83, z84, z85, z86, z87, z88, z89, z90, z91, z92, z93, z94, z95, z96, z97, z98, z99, z100, v101, v102, v103, v104, v105, v106, v107, v108, v109, v110, v111, v112, v113, v114, v115, v116, v117, v118, v119, v120, v121, v122, v123, v124, v125, v126, v127, v128, v129, v130, v131, v132, v133, v134, v135, v136, v137, v138, v139, z140, z141, z142, z143, z144, z145, z146, z147, z148, z149, z150, z151, z152, z153, z154, z155, z156, z157, z158, z159, z160, z161, z162, z163, z164, z165, z166, z167, z168, z169, z170, z171, z172, z173, z174, z175, z176, z177, z178, z179, z180, z181, z182, z183, z184, z185, z186, z187, z188, z189, z190, z191, z192, z193, z194, z195, z196, z197, z198, z199, z200, z201, z202, z203, z204, z205, z206, z207, z208, z209, z210, z211, z212, z213, z214, z215, z216, z217, z218, z219, z220, z221, z222, z223, z224, z225, z226, z227, z228, z229, z230, z231, z232, z233, z234, z235, z236, z237, z238, z239, z240, z241, z242, z243, z244, z245, z246, z247, z248, z249, z250, z251, z252, z253, z254, z255, z256, z257, z258, z259, z260, z261, z262, z263, z264, z265, z266, z267, z268, z269, z270, z271, z272, z273, z274, z275, z276, z277, z278, z279, z280, z281, z282, z283, z284, z285, z286, z287, z288, z289, z290, z291, z292, z293, z294, z295, z296, z297, z298, z299, z300, z301, z302, z303, z304, z305, z306, z307, z308, z309, z310, z311, z312, z313, z314, z315, z316, z317, z318, z319, z320, z321, z322, z323, z324, z325, z326, z327, z328, z329, z330, z331, z332, z333, z334, z335, z336, z337, z338, z339, z340, z341, z342, z343, z344], []⟩ w') :
    Code.wp Try.prog ca_kS (Exit.then K Q) ⟨#[z0, z1, z2, z3, z4, z5, z6, z7, z8, z9, .pointer (some ⟨w.heap.size + 1, 0, none⟩), z11, z12, z13, z14, z15, z16, .pointer (some ⟨sb, 0, none⟩), z18, z19, .pointer (some ⟨C, 0, none⟩), z21, .pointer (some ⟨B, 0, none⟩), z23, z24, z25, z26, z27, z28, z29, z30, z31, z32, z33, z34, z35, z36, z37, z38, z39, z40, z41, z42, z43, z44, z45, z46, z47, z48, z49, z50, z51, z52, z53, z54, z55, z56, z57, z58, z59, z60, z61, z62, z63, z64, z65, z66, z67, z68, z69, z70, z71, z72, z73, z74, z75, z76, z77, z78, z79, z80, z81, z82, z83, z84, z85, z86, z87, z88, z89, z90, z91, z92, z93, z94, z95, z96, z97, z98, z99, z100, z101, z102, z103, z104, z105, z106, z107, z108, z109, z110, z111, z112, z113, z114, z115, z116, z117, z118, z119, z120, z121, z122, z123, z124, z125, z126, z127, z128, z129, z130, z131, z132, z133, z134, z135, z136, z137, z138, z139, z140, z141, z142, z143, z144, z145, z146, z147, z148, z149, z150, z151, z152, z153, z154, z155, z156, z157, z158, z159, z160, z161, z162, z163, z164, z165, z166, z167, z168, z169, z170, z171, z172, z173, z174, z175, z176, z177, z178, z179, z180, z181, z182, z183, z184, z185, z186, z187, z188, z189, z190, z191, z192, z193, z194, z195, z196, z197, z198, z199, z200, z201, z202, z203, z204, z205, z206, z207, z208, z209, z210, z211, z212, z213, z214, z215, z216, z217, z218, z219, z220, z221, z222, z223, z224, z225, z226, z227, z228, z229, z230, z231, z232, z233, z234, z235, z236, z237, z238, z239, z240, z241, z242, z243, z244, z245, z246, z247, z248, z249, z250, z251, z252, z253, z254, z255, z256, z257, z258, z259, z260, z261, z262, z263, z264, z265, z266, z267, z268, z269, z270, z271, z272, z273, z274, z275, z276, z277, z278, z279, z280, z281, z282, z283, z284, z285, z286, z287, z288, z289, z290, z291, z292, z293, z294, z295, z296, z297, z298, z299, z300, z301, z302, z303, z304, z305, z306, z307, z308, z309, z310, z311, z312, z313, z314, z315, z316, z317, z318, z319, z320, z321, z322, z323, z324, z325, z326, z327, z328, z329, z330, z331, z332, z333, z334, z335, z336, z337, z338, z339, z340, z341, z342, z343, z344], []⟩ w2 := by
  obtain ⟨ca, hca⟩ : ∃ c, c = ca_kS := ⟨_, rfl⟩
  obtain ⟨cb, hcb⟩ : ∃ c, c = cb_kS := ⟨_, rfl⟩
  rw [← hca]
  rw [← hcb] at hK
  conv at hca => rhs; whnf
  conv at hcb => rhs; whnf
  subst hca
  subst hcb
  dsimp only
  have HG3 := Lib.hid (gr_of_below (brefl (w := w2)) sb)
  go_upto_region 21 with fail
  have x0 := cell_heap (i := 0) HST3.out.b1 rfl; have x1 := cell_heap (i := 1) HST3.out.b1 rfl; have x2 := cell_heap (i := 2) HST3.out.b1 rfl; have x3 := cell_heap (i := 3) HST3.out.b1 rfl; have x4 := cell_heap (i := 4) HST3.out.b1 rfl; have x5 := cell_heap (i := 5) HST3.out.b1 rfl; have x6 := cell_heap (i := 6) HST3.out.b1 rfl
  have o0 := cell_heap (i := 0) (HC3.out) rfl; have o1 := cell_heap (i := 1) (HC3.out) rfl; have o2 := cell_heap (i := 2) (HC3.out) rfl; have o3 := cell_heap (i := 3) (HC3.out) rfl; have o4 := cell_heap (i := 4) (HC3.out) rfl; have o5 := cell_heap (i := 5) (HC3.out) rfl; have o6 := cell_heap (i := 6) (HC3.out) rfl
  simp only [encSec] at x0 x1 x2 x3 x4 x5 x6
  go_cut [107, 108] from 101 to 139 (fun s107 s108 wx => ∃ (sv sun sis sma sra sev : Int) (six : Bool), s107 = .agg #[.int .i64 xid, .int .i64 xun, .int .i64 xis, .int .i64 xma, .int .i64 xra, .int .i64 xev, .bool xix, .int .i64 ov, .int .i64 pun, .int .i64 pis, .int .i64 pma, .int .i64 pra, .int .i64 pev, .bool oix, .int .i64 sv, .int .i64 sun, .int .i64 sis, .int .i64 sma, .int .i64 sra, .int .i64 sev, .bool six] ∧ s108 = .int .i64 0 ∧ RxS sb w.heap.size w3.heap.size C w wx ⟨xid, xun, xis, xma, xra, xev, xix⟩ (.slice r0 rn0 rc0) (.slice r1 rn1 rc1) (.slice r2 rn2 rc2) (.slice a0 n0 c0) (.slice a1 n1 c1) (.slice a2 n2 c2) R ∧ wx.heap[C]? = some (.cells #[.int .i64 ov, .int .i64 pun, .int .i64 pis, .int .i64 pma, .int .i64 pra, .int .i64 pev, .bool oix] 29 (0, 0)) ∧ w2.grownBy wx (some sb) ∧ wx.heap[B]? = some (.cells #[.slice y0 p0 t0, .slice y1 p1 t1, .slice y2 p2 t2] 27 (0, 0)) ∧ RgIn (fun b => b ≠ sb ∧ b < B) wx (.slice y0 p0 t0) (.slice y1 p1 t1) (.slice y2 p2 t2) Y)
  case first =>
    have HRN := Lib.hid (range_any sb 1 6 w2.drew (srcOk_drewN HST3.out.so 1) (by decide) (by decide) (by decide))
    go_region_held3 (fun w' => w'.cell? ⟨w.heap.size + 1, 0, none⟩ = some (.int .i64 xid) ∧ w'.cell? ⟨w.heap.size + 1, 1, none⟩ = some (.int .i64 xun) ∧ w'.cell? ⟨w.heap.size + 1, 2, none⟩ = some (.int .i64 xis) ∧ w'.cell? ⟨w.heap.size + 1, 3, none⟩ = some (.int .i64 xma) ∧ w'.cell? ⟨w.heap.size + 1, 4, none⟩ = some (.int .i64 xra) ∧ w'.cell? ⟨w.heap.size + 1, 5, none⟩ = some (.int .i64 xev) ∧ w'.cell? ⟨w.heap.size + 1, 6, none⟩ = some (.bool xix) ∧ w'.cell? ⟨C, 0, none⟩ = some (.int .i64 ov) ∧ w'.cell? ⟨C, 1, none⟩ = some (.int .i64 pun) ∧ w'.cell? ⟨C, 2, none⟩ = some (.int .i64 pis) ∧ w'.cell? ⟨C, 3, none⟩ = some (.int .i64 pma) ∧ w'.cell? ⟨C, 4, none⟩ = some (.int .i64 pra) ∧ w'.cell? ⟨C, 5, none⟩ = some (.int .i64 pev) ∧ w'.cell? ⟨C, 6, none⟩ = some (.bool oix)) (first | exact ⟨x0, x1, x2, x3, x4, x5, x6, o0, o1, o2, o3, o4, o5, o6⟩ | go_keep) (first | (go_at_call 12; refine HRN.out.mono ?_; rintro e w3' ⟨sv, hsv, rfl, hS4, hG4⟩; have hG4' := grownBy_undrew hG4; have hst4 := HST3.out.grown hG4' hS4; have HST4 := Lib.hid hst4; have hC4 := heap_gr hG4' (show C ≠ sb by omega) HC3.out; have HC4 := Lib.hid hC4; have HG4 := Lib.hid (grownBy_trans HG3.out hG4'); have HY4 := Lib.hid (heap_gr hG4' (show B ≠ sb by omega) HY2.out); have HRY4 := Lib.hid (HRY2.out.grown hG4' (fun b h => h.1)); have x0 := cell_heap (i := 0) (hst4.b1) rfl; have x1 := cell_heap (i := 1) (hst4.b1) rfl; have x2 := cell_heap (i := 2) (hst4.b1) rfl; have x3 := cell_heap (i := 3) (hst4.b1) rfl; have x4 := cell_heap (i := 4) (hst4.b1) rfl; have x5 := cell_heap (i := 5) (hst4.b1) rfl; have x6 := cell_heap (i := 6) (hst4.b1) rfl; have o0 := cell_heap (i := 0) (hC4) rfl; have o1 := cell_heap (i := 1) (hC4) rfl; have o2 := cell_heap (i := 2) (hC4) rfl; have o3 := cell_heap (i := 3) (hC4) rfl; have o4 := cell_heap (i := 4) (hC4) rfl; have o5 := cell_heap (i := 5) (hC4) rfl; have o6 := cell_heap (i := 6) (hC4) rfl; (simp only [encSec] at x0 x1 x2 x3 x4 x5 x6); clear hS4 hG4 hG4' hst4 hC4 hsv) | (go_at_call 11; refine (srcsec_any sb _ _ HST4.out.so).mono ?_; rintro e w4' ⟨sun, sis, sma, sra, sev, six, hsl, rfl, hS5, hG5⟩; have hst5 := HST4.out.grown hG5 hS5; have HST5 := Lib.hid hst5; have hC5 := heap_gr hG5 (show C ≠ sb by omega) HC4.out; have HC5 := Lib.hid hC5; have HG5 := Lib.hid (grownBy_trans HG4.out hG5); have HY5 := Lib.hid (heap_gr hG5 (show B ≠ sb by omega) HY4.out); have HRY5 := Lib.hid (HRY4.out.grown hG5 (fun b h => h.1)); have x0 := cell_heap (i := 0) (hst5.b1) rfl; have x1 := cell_heap (i := 1) (hst5.b1) rfl; have x2 := cell_heap (i := 2) (hst5.b1) rfl; have x3 := cell_heap (i := 3) (hst5.b1) rfl; have x4 := cell_heap (i := 4) (hst5.b1) rfl; have x5 := cell_heap (i := 5) (hst5.b1) rfl; have x6 := cell_heap (i := 6) (hst5.b1) rfl; have o0 := cell_heap (i := 0) (hC5) rfl; have o1 := cell_heap (i := 1) (hC5) rfl; have o2 := cell_heap (i := 2) (hC5) rfl; have o3 := cell_heap (i := 3) (hC5) rfl; have o4 := cell_heap (i := 4) (hC5) rfl; have o5 := cell_heap (i := 5) (hC5) rfl; have o6 := cell_heap (i := 6) (hC5) rfl; (simp only [encSec] at x0 x1 x2 x3 x4 x5 x6); clear hS5 hG5 hst5 hC5 hsl))
    all_goals (go_wp2_with fail; go_meet)
    all_goals exact ⟨sv, sun, sis, sma, sra, sev, six, rfl, rfl, HST5.out, HC5.out, HG5.out, HY5.out, HRY5.out⟩
  case rest =>
    obtain ⟨sv, sun, sis, sma, sra, sev, six, rfl, rfl, hst, hC, hG, hY, hRY⟩ := hcut
    clear x0 x1 x2 x3 x4 x5 x6 o0 o1 o2 o3 o4 o5 o6 HST3 HC3 HG3 HY2 HRY2
    obtain ⟨U, hU⟩ : ∃ X, X = wc := ⟨_, rfl⟩
    subst hU
    have HST3 := Lib.hid hst
    have HC3 := Lib.hid hC
    have HG3 := Lib.hid hG
    have HY3 := Lib.hid hY
    have HRY3 := Lib.hid hRY.any
    have HRYB := Lib.hid hRY
    have zBU : B < U.heap.size := (Array.getElem?_eq_some_iff.1 hY).1
    have KA := Lib.hid (fun (i un is ma ra ev : Int) (ix : Bool) W (hW : Below U.heap.size U W) => radd_any (fun _ => True) _ _ _ Y i un is ma ra ev ix W (HRY3.out.below hW) hl1 hl2 hl3 (fun _ _ => trivial))
    have KB := Lib.hid (fun (i un is ma ra ev : Int) (ix : Bool) W (hW : Below U.heap.size U W) => fadd_all (fun _ => True) _ _ _ Y i un is ma ra ev ix W (HRY3.out.below hW) hl1 hl2 hl3 (fun _ _ => trivial) HNY.out)
    clear hst hC hG hY hRY
    go_wp2_with fail
    go_loopw [108] (fun kv wr => ∃ j : Nat, j ≤ 3 ∧ kv = .int .i64 j ∧ Below U.heap.size U wr) (fun kv _ => 3 - (intOf kv).toNat)
    case atStart => exact ⟨0, by omega, rfl, brefl⟩
    case round =>
      obtain ⟨j, hj, rfl, hbr⟩ := hrel
      by_cases hj3 : j < 3
      · have hz : ∃ (zid zun zis zma zra zev : Int) (zix : Bool), ∀ W : World, (Instr.index 46 (.agg #[.int .i64 xid, .int .i64 xun, .int .i64 xis, .int .i64 xma, .int .i64 xra, .int .i64 xev, .bool xix, .int .i64 ov, .int .i64 pun, .int .i64 pis, .int .i64 pma, .int .i64 pra, .int .i64 pev, .bool oix, .int .i64 sv, .int .i64 sun, .int .i64 sis, .int .i64 sma, .int .i64 sra, .int .i64 sev, .bool six]) (.int .i64 (j : Int))).run Try.prog W = .ok (.agg #[.int .i64 zid, .int .i64 zun, .int .i64 zis, .int .i64 zma, .int .i64 zra, .int .i64 zev, .bool zix]) W := by
          rcases (show j = 0 ∨ j = 1 ∨ j = 2 by omega) with rfl | rfl | rfl
          · exact ⟨xid, xun, xis, xma, xra, xev, xix, fun W => by kernel_rfl⟩
          · exact ⟨ov, pun, pis, pma, pra, pev, oix, fun W => by kernel_rfl⟩
          · exact ⟨sv, sun, sis, sma, sra, sev, six, fun W => by kernel_rfl⟩
        obtain ⟨zid, zun, zis, zma, zra, zev, zix, hixz⟩ := hz
        have hyr := heap_bl hbr HY3.out
        have x0 := cell_heap (i := 0) (hyr) rfl; have x1 := cell_heap (i := 1) (hyr) rfl; have x2 := cell_heap (i := 2) (hyr) rfl
        have HBR := Lib.hid hbr
        have zr := hbr.size
        have hj3' : ((j : Int) < 3) = True := eq_true (by omega)
        have hBr : B < wr.heap.size := by omega
        clear hbr hyr
        obtain ⟨EA, hEA⟩ : ∃ b, raE Y ⟨zid, zun, zis, zma, zra, zev, zix⟩ = b := ⟨_, rfl⟩
        have KA1 := KA.out zid zun zis zma zra zev zix
        have KB1 := KB.out zid zun zis zma zra zev zix
        rw [hEA] at KA1 KB1
        have KA1 := Lib.hid KA1
        have KB1 := Lib.hid KB1
        have hEE : (EA != EA) = false := by simp
        clear hEA
        go_wp2_with fail
        refine (KA1.out _ (bal HBR.out _)).mono ?_
        rintro e w5 ⟨us, uh, um, rfl, hgu, hbu⟩
        obtain ⟨g0, gn0, gc0, rfl, -, -, -⟩ := hgu.S.shape
        obtain ⟨g1, gn1, gc1, rfl, -, -, -⟩ := hgu.H.shape
        obtain ⟨g2, gn2, gc2, rfl, -, -, -⟩ := hgu.M.shape
        have hz5 := heap_bl hbu (heap_alloc_new wr _)
        have hb5 := bup (bal HBR.out _) hbu
        have z5 : wr.heap.size + 1 ≤ w5.heap.size := by have := hbu.size; simpa using this
        have hy5 := heap_bl hb5 HY3.out
        have HZ5 := Lib.hid hz5
        have HB5 := Lib.hid hb5
        have HU5 := Lib.hid hgu
        clear x0 x1 x2 hgu hbu hb5
        have s0 := cell_heap (i := 0) (hy5) rfl; have s1 := cell_heap (i := 1) (hy5) rfl; have s2 := cell_heap (i := 2) (hy5) rfl
        have t0 := cell_heap (i := 0) (hz5) rfl; have t1 := cell_heap (i := 1) (hz5) rfl; have t2 := cell_heap (i := 2) (hz5) rfl; have t3 := cell_heap (i := 3) (hz5) rfl; have t4 := cell_heap (i := 4) (hz5) rfl; have t5 := cell_heap (i := 5) (hz5) rfl; have t6 := cell_heap (i := 6) (hz5) rfl
        clear hz5 hy5
        go_upto_region 25 with fail
        obtain ⟨W5, hW5⟩ : ∃ X, w5.alloc (.cells #[.slice g0 gn0 gc0, .slice g1 gn1 gc1, .slice g2 gn2 gc2] 27 (0, 0)) = X := ⟨_, rfl⟩
        have hb5 : Below w5.heap.size w5 W5 := by rw [← hW5]; exact bal brefl _
        have hu5 : W5.heap[w5.heap.size]? = some (.cells #[.slice g0 gn0 gc0, .slice g1 gn1 gc1, .slice g2 gn2 gc2] 27 (0, 0)) := by rw [← hW5]; exact heap_alloc_new w5 _
        have hs5 : W5.heap.size = w5.heap.size + 1 := by rw [← hW5]; simp
        rw [hW5]
        clear s0 s1 s2 t0 t1 t2 t3 t4 t5 t6 hW5
        have hy5 := heap_bl hb5 (heap_bl HB5.out HY3.out)
        have hz5 := heap_bl hb5 HZ5.out
        have HZ5' := Lib.hid hz5
        have HU5' := Lib.hid hu5
        have HB5' := Lib.hid (bup HB5.out hb5)
        have HG5' := Lib.hid (HU5.out.below hb5)
        have HS5 := Lib.hid hs5
        have s0 := cell_heap (i := 0) (hy5) rfl; have s1 := cell_heap (i := 1) (hy5) rfl; have s2 := cell_heap (i := 2) (hy5) rfl
        have t0 := cell_heap (i := 0) (hz5) rfl; have t1 := cell_heap (i := 1) (hz5) rfl; have t2 := cell_heap (i := 2) (hz5) rfl; have t3 := cell_heap (i := 3) (hz5) rfl; have t4 := cell_heap (i := 4) (hz5) rfl; have t5 := cell_heap (i := 5) (hz5) rfl; have t6 := cell_heap (i := 6) (hz5) rfl
        clear hz5 hy5 hu5 hb5 hs5 HZ5 HB5 HU5
        go_wp2_with fail
        refine (KB1.out _ HB5'.out).mono ?_
        rintro e w6 ⟨ks, kh, km, rfl, hgv, hbv⟩
        obtain ⟨k0, kn0, kc0, rfl, -, -, -⟩ := hgv.S.shape
        obtain ⟨k1, kn1, kc1, rfl, -, -, -⟩ := hgv.H.shape
        obtain ⟨k2, kn2, kc2, rfl, -, -, -⟩ := hgv.M.shape
        have hs5 := HS5.out
        have z6 := hbv.size
        have HZ6 := Lib.hid (heap_bl hbv HZ5'.out)
        have HU6 := Lib.hid (heap_bl hbv HU5'.out)
        have HB6 := Lib.hid (bup HB5'.out hbv)
        have HG6 := Lib.hid (HG5'.out.below hbv)
        have HV6 := Lib.hid hgv
        clear hgv hbv s0 s1 s2 t0 t1 t2 t3 t4 t5 t6 HZ5' HU5' HB5' HG5' hs5
        go_upto_region 26 with fail
        obtain ⟨W7, hW7⟩ : ∃ X, w6.alloc (.cells #[.slice k0 kn0 kc0, .slice k1 kn1 kc1, .slice k2 kn2 kc2] 27 (0, 0)) = X := ⟨_, rfl⟩
        have hb7 : Below w6.heap.size w6 W7 := by rw [← hW7]; exact bal brefl _
        have hv7 : W7.heap[w6.heap.size]? = some (.cells #[.slice k0 kn0 kc0, .slice k1 kn1 kc1, .slice k2 kn2 kc2] 27 (0, 0)) := by rw [← hW7]; exact heap_alloc_new w6 _
        rw [hW7]
        clear hW7
        have hz7 := heap_bl hb7 HZ6.out
        have hu7 := heap_bl hb7 HU6.out
        have HB7 := Lib.hid (bup HB6.out hb7)
        have HG7 := Lib.hid (HG6.out.below hb7)
        have HV7 := Lib.hid (HV6.out.below hb7)
        have cz0 := up_cell (cell_heap (i := 0) hz7 rfl); have cz1 := up_cell (cell_heap (i := 1) hz7 rfl); have cz2 := up_cell (cell_heap (i := 2) hz7 rfl); have cz3 := up_cell (cell_heap (i := 3) hz7 rfl); have cz4 := up_cell (cell_heap (i := 4) hz7 rfl); have cz5 := up_cell (cell_heap (i := 5) hz7 rfl); have cz6 := up_cell (cell_heap (i := 6) hz7 rfl)
        have cu0 := up_cell (cell_heap (i := 0) hu7 rfl); have cu1 := up_cell (cell_heap (i := 1) hu7 rfl); have cu2 := up_cell (cell_heap (i := 2) hu7 rfl)
        have cv0 := up_cell (cell_heap (i := 0) hv7 rfl); have cv1 := up_cell (cell_heap (i := 1) hv7 rfl); have cv2 := up_cell (cell_heap (i := 2) hv7 rfl)
        clear hz7 hu7 hv7 hb7 HZ6 HU6 HB6 HG6 HV6
        have K5 := fun W (hW : Below W7.heap.size W7 W) => security_any zid zun zis zma zra zev zix W
        have K6 := fun W (hW : Below W7.heap.size W7 W) => r33sec_any zid zun zis zma zra zev zix W
        obtain ⟨SB, hSB⟩ : ∃ b, secB zid zun zis zma zra zev = b := ⟨_, rfl⟩
        rw [hSB] at K5 K6
        have hSS : (SB != SB) = false := by simp
        have K5 := Lib.hid K5
        have K6 := Lib.hid K6
        have K7 := Lib.hid (fun W (hW : Below W7.heap.size W7 W) => fsame_eq _ _ _ _ _ _ _ _ (raR Y ⟨zid, zun, zis, zma, zra, zev, zix⟩) W (HG7.out.below hW) (HV7.out.below hW) (raR_lb _ _).1 (raR_lb _ _).2.1 (raR_lb _ _).2.2)
        clear hSB
        (refine wp_region_up (by kernel_rfl) (by kernel_rfl) ?_); (repeat (go_big_quiet_step ((first | (go_at_call 23; (with_reducible refine (K5.out _ (up_prop _)).mono ?_); exact fun _ _ hh => ⟨hh.1, ⟨_, bup (Subtype.property _) hh.2⟩, rfl⟩) | (go_at_call 24; (with_reducible refine (K6.out _ (up_prop _)).mono ?_); exact fun _ _ hh => ⟨hh.1, ⟨_, bup (Subtype.property _) hh.2⟩, rfl⟩) | (go_at_call 25; (with_reducible refine (K7.out _ (up_prop _)).mono ?_); exact fun _ _ hh => ⟨hh.1, ⟨_, bup (Subtype.property _) hh.2⟩, rfl⟩))))); (refine wpQuiet_nil ?_); (rintro w8 ⟨⟨_, hb8⟩, rfl⟩)
        have HB8 := Lib.hid (bup HB7.out hb8)
        clear hb8 K5 K6 K7 HB7 HG7 HV7 cz0 cz1 cz2 cz3 cz4 cz5 cz6 cu0 cu1 cu2 cv0 cv1 cv2
        go_wp2
        go_roundw
        case rel => exact ⟨j + 1, by omega, by go_num, HB8.out⟩
        case measure => simp [intOf]; omega
      · have hj3' : ((j : Int) < 3) = False := eq_false (by omega)
        have HFIN := Lib.hid (show w2.grownBy wr (some sb) ∧ SrcOk wr sb from ⟨grownBy_trans HG3.out (gr_of_below hbr sb), srcOk_below HST3.out.so hbr (by omega)⟩)
        clear hbr
        go_wp2
        first | exact HFIN.out | exact hQ _ _ _ _ _ _ _ _ _ _ _ _ _ _ _ _ _ _ _ _ _ _ _ _ _ _ _ _ _ _ _ _ _ _ _ _ _ _ _ _ _ _ _ _ _ _ HFIN.out
end Go.Proofs.Ytpoidaenkjjdfaa
